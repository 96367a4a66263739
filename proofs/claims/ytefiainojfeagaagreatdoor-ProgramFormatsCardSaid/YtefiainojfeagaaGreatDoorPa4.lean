/- Part 4 of the texts under ProgramFormats,ProgramReadsBack,ProgramTellsProgramsApart,ProgramGrowsByLines,ProgramIgnoresBlanks: joined, with what it needs alone. -/
import GoSem.Core.Utf8
import Derived.Laws.BytesArg
import Derived.Lib.AppendStr
import Derived.Test.YtefiainojfeagaaGreatDoorPa3
set_option linter.unusedVariables false
namespace Go.Proofs.YtefiainojfeagaaGreatDoor
section
open Go.RowKit
section
variable {P : Program} {T : Nat → Option Ty} {N : Nat} {ops : Array Oper} {lf : Oper → Bool} {Q : SS → Prop} {t : List (Nat × AV)} {h : List (Nat × Option LObj)} {rest : List Oper} {d : Nat} {op : Op} {ty : TypeId} {pos : String} {af : Array Edge} {gd : Option (Nat × Bool)} {r : AV}
theorem Sim.ownH {B : Bse} {ok0 : Nat → Prop} {s : SS} {lv : Live} {a : Act} {w : World} (hs : Sim B ok0 N s lv a w) {id : Nat} (hf : ylx s id) :
  ∃ lv', Sim B ok0 N ⟨s.t, ydf s.h id (some (.vec []))⟩ lv' a w ∧ ∀ size, Rel (ybt B ok0 lv' w) w lv' (.ls id size 0) (.slice none 0 0) := by
 have hid : lv id = none := hs.inv.dom id hf.1
 have hsame : ∀ j b n, (fun j => if j = id then some (none, 0) else lv j : Live) j = some (some b, n) → lv j = some (some b, n) := by
  intro j b n hj
  simp only at hj
  split at hj
  ·cases hj
  ·exact hj
 have hok : ∀ g, ybt B ok0 lv w g → ybt B ok0 (fun j => if j = id then some (none, 0) else lv j) w g := fun g hg => ⟨hg.1, hg.2.1, fun j b n hj => hg.2.2 j b n (hsame j b n hj)⟩
 have hre : ∀ (x : AV) (u : Value), ment id x = false → Rel (ybt B ok0 lv w) w lv x u → Rel (ybt B ok0 (fun j => if j = id then some (none, 0) else lv j) w) w (fun j => if j = id then some (none, 0) else lv j) x u := fun x u hm hr =>
  (hr.relive fun j b n hj hmj => by
   split at hj
   ·rename_i e; subst e; rw [hm] at hmj; cases hmj
   ·exact hj).keep fun g hg => ⟨hok g hg, rfl⟩
 refine ⟨fun j => if j = id then some (none, 0) else lv j, ⟨⟨hs.inv.base, hs.inv.ok0lt, fun j hj => ?_, fun i j b n m h1 h2 => hs.inv.inj i j b n m (hsame _ _ _ h1) (hsame _ _ _ h2), fun j x hx => ?_⟩, hs.size, fun x y hy => ?_, hs.defers, hs.big, fun j b o hN hj hc hb => ?_⟩, fun size => ?_⟩
 ·by_cases h : j = id
  ·subst h; simp [ydf] at hj
  ·simp only [ydf, h, if_false] at hj ⊢; exact hs.inv.dom j hj
 ·by_cases h : j = id
  ·subst h
   simp only [ydf, if_true, Option.some.injEq] at hx
   subst hx
   exact ⟨none, 0, by simp, .inl rfl⟩
  ·simp only [ydf, h, if_false] at hx
   obtain ⟨b, n, h1, h2⟩ := hs.inv.obj j x hx
   refine ⟨b, n, by simp [h, h1], ?_⟩
   cases b with
   | none => exact h2
   | some b =>
    refine ⟨h2.1, h2.2.1, (h2.2.2.relive fun i b n hi hmi => ?_).keep (fun g hg => ⟨hok g hg, rfl⟩) rfl⟩
    split at hi
    ·rename_i e; subst e; rw [hf.2.2 j x hx] at hmi; cases hmi
    ·exact hi
 ·have := hs.frame x y hy
  exact ⟨this.1, hre y _ (hf.2.1 x y hy) this.2⟩
 ·by_cases h : j = id
  ·subst h; simp only [ydf, if_true, Option.some.injEq] at hj; subst hj; cases hc
  ·simp only [ydf, h, if_false] at hj ⊢
   exact hs.pin j b o hN hj hc hb
 ·refine .ls _ rfl fun b n hb => ?_
  simp only [if_true, Option.some.injEq, Prod.mk.injEq] at hb
  obtain ⟨rfl, rfl⟩ := hb
  exact ⟨rfl, rfl⟩
theorem appendNil_loud (hT : TOK P T) {o : Oper} {ti e es eb sz : Nat} {ea ag : Bool} {ez z : List Value} {x y : Operand} {m : Nat} {cs : List AV} {src : AV} {s : SS} (id : Nat) (ho : o.op = .call { callee := .builtin .append, args := #[x, y], argTypes := #[ti, ti] }) (hd : o.dst = some d) (hdN : d < N) (hk : T ti = some ⟨.slc e es ea eb ez, sz, ag, z⟩)
  (hx : evF s.t x = some (.v (.slice none 0 0))) (hf : ylx s id) (hy : evF s.t y = some src) (hsrc : ∀ (ok : Nat → Prop) (w : World) (lv : Live) (u : Value), Rel ok w lv src u → zrt ok w es m cs u ∧ ∀ c ∈ cs, yfh c = true) (hcp : ∀ c ∈ cs, ybc c = true) (hlim : m ≤ 4294967296 ∧ m * eb ≤ 140737488355328) :
  yif P N o s (· = ⟨yhi s.t (some d) (.ls id es m), ydf s.h id (some (.vec cs))⟩) := by
 intro B ok0 lv a w hs0 Q
 obtain ⟨lv1, hs, hnil⟩ := hs0.ownH hf
 obtain ⟨h1, h2⟩ := hsrc _ _ _ _ (hs.eval (s := ⟨s.t, ydf s.h id (some (.vec []))⟩) hy)
 have hxv : a.eval x = .slice none 0 0 := yfp (hs0.eval hx)
 obtain ⟨v', w', lv', hrun0, hs', hrel⟩ := yxh (s' := ⟨s.t, ydf s.h id (some (.vec cs))⟩) (ty := o.type) hs (hT _ _ hk).2.2 (id := id) (len := 0) (xs := []) (by simp [ydf]) (by simp) (hnil es) h1 h2 hcp (by simpa using hlim)
  (fun x y h => .inr ⟨h, hf.2.1 x y h⟩) (fun x y h => ⟨y, h⟩) (fun j ob' hj hob => by
   simp only [ydf, hj, if_false] at hob
   exact ⟨hf.2.2 j ob' hob, ob', by simp only [ydf, hj, if_false]; exact hob, Or.inl rfl⟩) (by simp [ydf])
 have hrun : (execOp a.eval o).run P w = .ok (.value v') w' := by
  simp only [execOp, ho, resolve, invoke, builtin, Sem.run_bind, Sem.run_pure, Result.andThen_ok, List.map_toArray, List.map_cons, List.map_nil, hxv, hrun0]
 unfold Oper.wp
 rw [hrun]
 simp only [Oper.upon, hd]
 rw [Nat.zero_add] at hrel
 exact ⟨_, lv', rfl, hs'.putOnly hdN hrel⟩
theorem L_appendNil (hT : TOK P T) {ti e es eb sz : Nat} {ea ag : Bool} {ez z : List Value} {x y : Operand} {rows : List (List AV)} (hk : T ti = some ⟨.slc e es ea eb ez, sz, ag, z⟩) (hx : evF (look t) x = some (.v (.slice none 0 0))) (hy : evF (look t) y = some (.sl es rows))
  (hcp : ∀ c ∈ rows.flatten, ybc c = true) (hlim : rows.length ≤ 4294967296 ∧ rows.length * eb ≤ 140737488355328) (h1 : yfe d t = true) (h2 : yen d h = true) (hl : lf ⟨some d, .call { callee := .builtin .append, args := #[x, y], argTypes := #[ti, ti] }, ty, pos, af, gd⟩ = true)
  (hw : yan ops (look t) ⟨some d, .call { callee := .builtin .append, args := #[x, y], argTypes := #[ti, ti] }, ty, pos, af, gd⟩ = some true) (hd : Nat.blt d N = true) (k : Lex P N ops lf Q rest (S ((d, .ls d es rows.length) :: t) ((d, some (.vec rows.flatten)) :: h))) :
  Lex P N ops lf Q (⟨some d, .call { callee := .builtin .append, args := #[x, y], argTypes := #[ti, ti] }, ty, pos, af, gd⟩ :: rest) (S t h) := by
 refine ykn hl hw ?_ k
 rw [← zhd]
 exact appendNil_loud hT d rfl rfl (by simpa using hd) hk hx (yjq h1 h2) hy (fun ok w lv u hr => zrh hr) hcp hlim
theorem Sim.freezeC {B : Bse} {ok0 : Nat → Prop} {s : SS} {lv : Live} {a : Act} {w : World} (hs : Sim B ok0 N s lv a w) {jb k id size len : Nat} {xs ys ys' : List AV} {rows : List (List AV)} (hj : s.h jb = some (.cells ys)) (hk : ys[k]? = some (.ls id size len)) (hx : s.h id = some (.vec xs)) (hlen : rows.length = len) (hsize : ∀ row ∈ rows, row.length = size) (hfl : rows.flatten = xs)
  {s' : SS} (ht : ∀ x y, s'.t x = some y → y = .any ∨ s.t x = some y) (hlt : ∀ x y, s'.t x = some y → ∃ z, s.t x = some z) (hid : s'.h id = none) (hj' : s'.h jb = some (.cells ys')) (hyl : ys'.length = ys.length) (hh : ∀ j ob', s'.h j = some ob' → ∃ ob, s.h j = some ob ∧ yog ob ob') : ∃ lv', Sim B ok0 N ⟨s'.t, ydf s'.h jb (some (.cells (ys'.set k (.sl size rows))))⟩ lv' a w := by
 obtain ⟨lv', h1, h2, h3, h4⟩ := hs.forg ht hlt hh
 refine ⟨lv', ?_⟩
 have hpure : ∀ x ∈ xs, ∀ i, ment i x = false := by
  intro x hxm i
  obtain ⟨b, n, g1, g2⟩ := hs.inv.obj id _ hx
  cases b with
  | none => simp only [yle, reduceCtorEq, exists_const, or_false] at g2; cases g2; cases hxm
  | some b => exact ybc.ment (g2.2.2.2 x hxm)
 obtain ⟨bo, n, g1, g2⟩ := hs.inv.obj jb _ hj
 obtain ⟨bo', n', k1, k2⟩ := h1.inv.obj jb _ hj'
 have hsame := h2 jb bo' n' k1
 rw [g1] at hsame
 cases hsame
 cases bo with
 | none => simp [yle] at g2
 | some b =>
  obtain ⟨q1, q2, c, e, q3, q4, q5, q6, q7⟩ := g2
  obtain ⟨r1, r2, c', e', r3, r4, r5, r6, r7⟩ := k2
  rw [q3] at r3
  cases r3
  have hkl := (List.getElem?_eq_some_iff.1 hk).1
  have hkc : k < c.size := by omega
  have hold : Rel (ybt B ok0 lv w) w lv (.ls id size len) c[k] := q7 k _ _ hk (by simp [hkc])
  have hnew : Rel (ybt B ok0 lv' w) w lv' (.sl size rows) c[k] := by
   have hr := zgf hs.inv hold (by rw [hx]; rfl) hlen hsize hfl hpure (ybt B ok0 lv' w) h4 (fun b n hb => ?_)
   ·exact hr.relive fun i b n _ hm => by simp [ment] at hm
   ·obtain ⟨_, _, g1, g2, _⟩ := hs.inv.lvat hb
    refine ⟨.inr g1, g2, fun j b' m hj he => ?_⟩
    subst he
    have := hs.inv.inj j id b' m n (h2 j _ m hj) hb
    subst this
    rw [h1.inv.dom j hid] at hj
    cases hj
  refine ⟨⟨h1.inv.base, h1.inv.ok0lt, fun j hjn => ?_, h1.inv.inj, fun j x hxj => ?_⟩, h1.size, h1.frame, h1.defers, h1.big, fun j b o hN hjx hc hb => ?_⟩
  ·by_cases hjj : j = jb
   ·subst hjj; simp [ydf] at hjn
   ·simp only [ydf, hjj, if_false] at hjn; exact h1.inv.dom j hjn
  ·by_cases hjj : j = jb
   ·subst hjj
    simp only [ydf, if_true, Option.some.injEq] at hxj
    subst hxj
    refine ⟨some b, n, k1, r1, r2, c, e, q3, q4, by simpa using r5, fun x hxm => ?_, fun i x u hi hu => ?_⟩
    ·rcases List.mem_or_eq_of_mem_set hxm with hm | hm
     ·exact r6 x hm
     ·subst hm; rfl
    ·rw [List.getElem?_set] at hi
     split at hi
     ·rename_i e1
      subst e1
      split at hi
      ·cases hi
       simp only [hkc, Array.getElem?_eq_getElem, Option.some.injEq] at hu
       subst hu
       exact hnew
      ·cases hi
     ·exact r7 i x u hi hu
   ·simp only [ydf, hjj, if_false] at hxj
    exact h1.inv.obj j x hxj
  ·by_cases hjj : j = jb
   ·subst hjj
    exact h1.pin j b _ hN hj' rfl hb
   ·simp only [ydf, hjj, if_false] at hjx
    exact h1.pin j b o hN hjx hc hb
theorem ylc {c : Code} {Q : Exit → SS → Prop} {t' : List (Nat × AV)} {h' : List (Nat × Option LObj)} (jb k : Nat) {id size len : Nat} {xs ys ys' : List AV} (rows : List (List AV)) (hj : yaf h jb = some (.cells ys)) (hk : ys[k]? = some (.ls id size len)) (hx : yaf h id = some (.vec xs)) (hlen : rows.length = len) (hsize : ∀ row ∈ rows, row.length = size) (hfl : rows.flatten = xs)
  (ht : zia id t = some t') (hh : zft id h = some h') (hj' : yaf ((id, none) :: h') jb = some (.cells ys')) (hyl : Nat.beq ys'.length ys.length = true) (k : A P N c Q (S t' ((jb, some (.cells (ys'.set k (.sl size rows)))) :: (id, none) :: h'))) : A P N c Q (S t h) := by
 intro B ok0 lv a w hs
 obtain ⟨g1, g2⟩ := yno ht
 obtain ⟨lv', hs'⟩ := hs.freezeC (s' := S t' ((id, none) :: h')) hj hk hx hlen hsize hfl (fun x y hy => (g1 x y hy).imp (fun h => h) And.left) g2 (by simp [S, yaf]) hj' (Nat.eq_of_beq_eq_true hyl) (fun j ob' hj => by
  simp only [S, yaf] at hj
  split at hj
  ·cases hj
  ·exact (ykv hh j ob' hj).2)
 refine k B ok0 lv' a w ?_
 rw [← S_h]
 exact hs'
end
section
variable {P : Program} {N : Nat} {ops : Array Oper} {lf : Oper → Bool} {Q Q0 : SS → Prop}
def zny (ops : Array Oper) (lf : Oper → Bool) (k : Nat) (listed : Array Bool) : Bool :=
 (Region.ready .any ops listed).contains k && (match ops[k]? with
   | none => false
   | some o => (if lf o then Region.ready .any ops listed == [k] else (List.range ops.size).all fun j => j == k || listed.getD j true || yod ops ops.size j k || match ops[j]? with
    | some oj => o.apart ops oj && !lf oj
    | none => true))
def zos (ops : Array Oper) (lf : Oper → Bool) : List Nat → Array Bool → Bool
 | [], _ => true
 | k :: ks, listed => zny ops lf k listed && zos ops lf ks (listed.setIfInBounds k true)
def zbd : List Nat → Array Bool → Array Bool
 | [], listed => listed
 | k :: ks, listed => zbd ks (listed.setIfInBounds k true)
theorem anyA_pre {l : List Oper} {s : SS} {fuel : Nat} (h : Lex P N ops lf Q0 l s) (hD : ∀ (k : Nat) (o : Oper), ops[k]? = some o → ytk N o) : ∀ (ks : List Nat) (listed : Array Bool), (∀ j : Nat, l[j]? = (ks[j]?).bind (fun k : Nat => ops[k]?)) → ks.length = l.length → ytj ops listed →
  (ytj ops (zbd ks listed) → ∀ s', Q0 s' → zph P N ops lf Q fuel (zbd ks listed) s') → zos ops lf ks listed = true → zph P N ops lf Q (l.length + fuel) listed s := by
 induction h with
 | @nil s h =>
  intro ks listed hl hlen hcl hend hB
  have : ks = [] := List.eq_nil_of_length_eq_zero (by simpa using hlen)
  subst this
  simpa [zbd] using hend hcl s h
 | @split l s d b hb k ih =>
  intro ks listed hl hlen hcl hend hB
  have := ih b rfl ks listed hl hlen hcl hend hB
  rw [ykf hb] at this
  exact this
 | @calm o l s r hw hd hy k ih =>
  intro ks listed hl hlen hcl hend hB
  match ks, hlen with
  | k :: ks, hlen =>
   have h0 : ops[k]? = some o := by simpa using (hl 0).symm
   simp only [zos, zny, h0, Bool.and_eq_true] at hB
   obtain ⟨⟨hr, hf⟩, hB'⟩ := hB
   have hr' : k ∈ Region.ready .any ops listed := by simpa using hr
   have hk := ih ks (listed.setIfInBounds k true) (fun j => by have := hl (j + 1); simpa using this) (by simpa using hlen) (hcl.set hr') hend hB'
   rw [List.length_cons, Nat.add_right_comm]
   by_cases hlo : lf o = true
   ·simp only [hlo, if_true, beq_iff_eq] at hf
    refine ⟨fun h => (by rw [hf] at h; cases h), fun i hi => ?_⟩
    rw [hf] at hi
    simp only [List.mem_singleton] at hi
    subst hi
    unfold aOp
    simp only [h0]
    exact ⟨hd, .inl ⟨r, .inl ⟨hw, hy⟩, hk⟩⟩
   ·simp only [hlo] at hf
    refine yqq h0 hd (l.length + fuel) listed s hcl ?_ hr' (.inl ⟨hw, hy⟩) hk
    intro j oj hj hne hun
    simp only [Bool.false_eq_true, if_false, List.all_eq_true, List.mem_range] at hf
    have := hf j (Array.getElem?_eq_some_iff.1 hj).1
    simp only [hj, hun, Bool.or_eq_true, beq_iff_eq, hne, false_or, Bool.false_eq_true, Bool.and_eq_true, Bool.not_eq_true', or_false] at this
    exact this
 | @skip o l s hw hd k ih =>
  intro ks listed hl hlen hcl hend hB
  match ks, hlen with
  | k :: ks, hlen =>
   have h0 : ops[k]? = some o := by simpa using (hl 0).symm
   simp only [zos, zny, h0, Bool.and_eq_true] at hB
   obtain ⟨⟨hr, hf⟩, hB'⟩ := hB
   have hr' : k ∈ Region.ready .any ops listed := by simpa using hr
   have hk := ih ks (listed.setIfInBounds k true) (fun j => by have := hl (j + 1); simpa using this) (by simpa using hlen) (hcl.set hr') hend hB'
   rw [List.length_cons, Nat.add_right_comm]
   by_cases hlo : lf o = true
   ·simp only [hlo, if_true, beq_iff_eq] at hf
    refine ⟨fun h => (by rw [hf] at h; cases h), fun i hi => ?_⟩
    rw [hf] at hi
    simp only [List.mem_singleton] at hi
    subst hi
    unfold aOp
    simp only [h0]
    exact ⟨hd, .inl ⟨.v undef, .inr ⟨hw, rfl⟩, hk⟩⟩
   ·simp only [hlo] at hf
    refine yqq h0 hd (l.length + fuel) listed s hcl ?_ hr' (.inr ⟨hw, rfl⟩) hk
    intro j oj hj hne hun
    simp only [Bool.false_eq_true, if_false, List.all_eq_true, List.mem_range] at hf
    have := hf j (Array.getElem?_eq_some_iff.1 hj).1
    simp only [hj, hun, Bool.or_eq_true, beq_iff_eq, hne, false_or, Bool.false_eq_true, Bool.and_eq_true, Bool.not_eq_true', or_false] at this
    exact this
 | @loud o l s R hlo hw hy k ih =>
  intro ks listed hl hlen hcl hend hB
  match ks, hlen with
  | k :: ks, hlen =>
   have h0 : ops[k]? = some o := by simpa using (hl 0).symm
   simp only [zos, zny, h0, Bool.and_eq_true] at hB
   obtain ⟨⟨hr, hf⟩, hB'⟩ := hB
   have hr' : k ∈ Region.ready .any ops listed := by simpa using hr
   simp only [hlo, if_true, beq_iff_eq] at hf
   rw [List.length_cons, Nat.add_right_comm]
   refine ⟨fun h => (by rw [hf] at h; cases h), fun i hi => ?_⟩
   rw [hf] at hi
   simp only [List.mem_singleton] at hi
   subst hi
   unfold aOp
   simp only [h0]
   exact ⟨hD _ _ h0, .inr ⟨hlo, hw, R, hy, fun s' hs' => ih s' hs' ks (listed.setIfInBounds i true) (fun j => by have := hl (j + 1); simpa using this) (by simpa using hlen) (hcl.set hr') hend hB'⟩⟩
def zla (ops : Array Oper) : List Nat → List Oper → Prop
 | [], [] => True
 | k :: ks, o :: l => ops[k]? = some o ∧ zla ops ks l
 | _, _ => False
theorem ybe : zla ops [] [] := trivial
theorem yaa {k : Nat} {ks : List Nat} {o : Oper} {l : List Oper} (h : ops[k]? = some o) (hl : zla ops ks l) : zla ops (k :: ks) (o :: l) := ⟨h, hl⟩
theorem zir {ks : List Nat} : ∀ {l : List Oper}, zla ops ks l → ks.length = l.length ∧ ∀ j : Nat, l[j]? = (ks[j]?).bind (fun k : Nat => ops[k]?) := by
 induction ks with
 | nil =>
  intro l h
  cases l with
  | nil => exact ⟨rfl, fun j => by simp⟩
  | cons o l => exact h.elim
 | cons k ks ih =>
  intro l h
  cases l with
  | nil => exact h.elim
  | cons o l =>
   obtain ⟨h1, h2⟩ := ih h.2
   refine ⟨by simp [h1], fun j => ?_⟩
   cases j with
   | zero => simp only [List.getElem?_cons_zero, Option.bind_some, h.1]
   | succ j => simpa using h2 j
def ztp (P : Program) (N : Nat) (ops : Array Oper) (lf : Oper → Bool) (Q : SS → Prop) (fuel : Nat) (listed : Array Bool) (s : SS) : Prop :=
 (∀ (k : Nat) (o : Oper), ops[k]? = some o → ytk N o) → ytj ops listed → zph P N ops lf Q fuel listed s
theorem ycx {P : Program} {N : Nat} {Q : Exit → SS → Prop} {s : SS} {lf : Oper → Bool} (hm : P.follows .mixedOrders = true) {id : Nat} {l : List Oper} (hD : ytw N l = true) (k : ztp P N l.toArray lf (Q .normal) l.length (Array.replicate l.length false) s) : A P N (.region id l.toArray true) Q s := by
 intro B ok0 lv ac w hs
 have hDst : ∀ (k : Nat) (o : Oper), l.toArray[k]? = some o → ytk N o := fun k o ho d hd => by
  simp only [ytw, Bool.and_eq_true, List.all_eq_true] at hD
  have := hD.1 o (by have := Array.mem_of_getElem? ho; simpa using this)
  simp only [hd, Nat.blt_eq] at this
  exact this
 have hnd : yhr l = true := by simp only [ytw, Bool.and_eq_true] at hD; exact hD.2
 refine wpIn_region_any hm ?_
 have key := k hDst (fun k o hk => by
  simp only [Array.getD_eq_getD_getElem?, Array.getElem?_replicate] at hk
  split at hk <;> simp at hk)
 have := yku (n := 0) (ylo hnd) (Q' := fun e a' w' => ∃ s' lv', Q e s' ∧ Sim B ok0 N s' lv' a' w') (fun s lv a w hq hs => ⟨s, lv, hq, hs⟩) l.length _ s lv ac _ (hs.drew (w' := { w with drawn := w.drawn + 1 }) ⟨rfl, rfl, rfl, Nat.le_refl _, fun _ _ => rfl⟩) key
 simpa using this
theorem yki (ks : List Nat) (fuel : Nat) {n : Nat} {listed : Array Bool} {l : List Oper} {s : SS} (hn : zla ops ks l) (hf : n = l.length + fuel) (hB : zos ops lf ks listed = true) (k : Lex P N ops lf (ztp P N ops lf Q fuel (zbd ks listed)) l s) : ztp P N ops lf Q n listed s := by
 intro hD hcl
 subst hf
 obtain ⟨p1, p2⟩ := zir hn
 exact anyA_pre k hD ks listed p2 p1 hcl (fun hc s' h => h hD hc) hB
theorem yda (ks : List Nat) {n : Nat} {listed : Array Bool} {l : List Oper} {s : SS} (hn : zla ops ks l) (hf : n = l.length) (hB : ywg ops lf ks listed = true) (k : Lex P N ops lf Q l s) : ztp P N ops lf Q n listed s := by
 intro hD hcl
 subst hf
 obtain ⟨p1, p2⟩ := zir hn
 exact zlu k hD ks listed p2 p1 hcl hB
def zku (P : Program) (N : Nat) (ops : Array Oper) (lf : Oper → Bool) (Q : SS → Prop) (fuel : Nat) (listed : Array Bool) (s : SS) : List Nat → Prop
 | [] => True
 | k :: ks => (∃ o, ops[k]? = some o ∧ Lex P N ops lf (ztp P N ops lf Q fuel (listed.setIfInBounds k true)) [o] s) ∧ zku P N ops lf Q fuel listed s ks
theorem zan {fuel : Nat} {listed : Array Bool} {s : SS} : ∀ {ks : List Nat}, zku P N ops lf Q fuel listed s ks → ∀ k ∈ ks, ∃ o, ops[k]? = some o ∧ Lex P N ops lf (ztp P N ops lf Q fuel (listed.setIfInBounds k true)) [o] s
 | [], _, k, h => by cases h
 | x :: ks, hh, k, h => by
  rcases List.mem_cons.1 h with rfl | h
  ·exact hh.1
  ·exact zan hh.2 k h
theorem aOp_one {l : List Oper} {s : SS} {Q0 : SS → Prop} (h : Lex P N ops lf Q0 l s) (hD : ∀ (k : Nat) (o : Oper), ops[k]? = some o → ytk N o) : ∀ (o : Oper), l = [o] → ∀ (k : Nat), ops[k]? = some o → aOp P N ops lf k Q0 s := by
 have nilQ : ∀ {s : SS}, Lex P N ops lf Q0 [] s → Q0 s := by
  intro s h
  generalize hl : ([] : List Oper) = l at h
  induction h with
  | nil h => exact h
  | calm => cases hl
  | skip => cases hl
  | loud => cases hl
  | @split l s d b hb k ih =>
   have := ih b rfl hl
   rw [ykf hb] at this
   exact this
 induction h with
 | nil h => intro o hl; cases hl
 | @split l s d b hb k ih =>
  intro o hl k h0
  have := ih b rfl o hl k h0
  rw [ykf hb] at this
  exact this
 | @calm o l s r hw hd hy k ih =>
  intro o' hl k' h0
  cases hl
  unfold aOp
  simp only [h0]
  exact ⟨hd, .inl ⟨r, .inl ⟨hw, hy⟩, nilQ k⟩⟩
 | @skip o l s hw hd k ih =>
  intro o' hl k' h0
  cases hl
  unfold aOp
  simp only [h0]
  exact ⟨hd, .inl ⟨.v undef, .inr ⟨hw, rfl⟩, nilQ k⟩⟩
 | @loud o l s R hlo hw hy k ih =>
  intro o' hl k' h0
  cases hl
  unfold aOp
  simp only [h0]
  exact ⟨hD _ _ h0, .inr ⟨hlo, hw, R, hy, fun s' hs' => nilQ (k s' hs')⟩⟩
theorem yhk (ks : List Nat) (fuel : Nat) {n : Nat} {listed : Array Bool} {s : SS} (hf : n = fuel + 1) (hr : Region.ready .any ops listed = ks) (hne : ks ≠ []) (k : zku P N ops lf Q fuel listed s ks) : ztp P N ops lf Q n listed s := by
 intro hD hcl
 subst hf
 refine ⟨fun h => absurd (hr.symm.trans h) hne, fun i hi => ?_⟩
 obtain ⟨o, ho, hL⟩ := zan k i (hr ▸ hi)
 exact zfe (fun s' h => h hD (hcl.set hi)) (aOp_one hL hD o rfl i ho)
end
end
section
open Go.RowKit
section
variable {P : Program} {T : Nat → Option Ty} {N : Nat} {ops : Array Oper} {lf : Oper → Bool} {Q : SS → Prop} {t : List (Nat × AV)} {h : List (Nat × Option LObj)} {rest : List Oper} {d : Nat} {op : Op} {ty : TypeId} {pos : String} {af : Array Edge} {gd : Option (Nat × Bool)} {r : AV}
theorem zxb (hT : TOK P T) {z : Int} (hr : zle T t h op ty = some (.v (.int .u8 (IntKind.u8.wrap z)))) (h0 : 0 ≤ z ∧ z ≤ 255) (hw : yan ops (look t) ⟨some d, op, ty, pos, af, gd⟩ = some true) (hd : Nat.blt d N = true) (k : Lex P N ops lf Q rest (S ((d, .v (.int .u8 z)) :: t) h)) :
  Lex P N ops lf Q (⟨some d, op, ty, pos, af, gd⟩ :: rest) (S t h) := by
 refine zpd hT hr hw hd ?_
 have e : IntKind.u8.wrap z = z := by
  show z % 256 = z
  omega
 rw [e]
 exact k
theorem zdf {c : Code} {Q : Exit → SS → Prop} (jb k id size : Nat) {ys : List AV} (hj : yaf h jb = some (.cells ys)) (hk : ys[k]? = some (.v (.slice none 0 0))) (h1 : yfe id t = true) (h2 : yen id h = true) (hne : Nat.beq jb id = false)
  (kk : A P N c Q (S t ((jb, some (.cells (ys.set k (.ls id size 0)))) :: (id, some (.vec [])) :: h))) : A P N c Q (S t h) := by
 intro B ok0 lv a w hs
 obtain ⟨lv', hs1, hnil⟩ := hs.ownH (yjq (t := t) (h := h) h1 h2)
 have hnj : jb ≠ id := fun e => by subst e; simp at hne
 have hj1 : ydf (yaf h) id (some (.vec [])) jb = some (.cells ys) := by simp only [ydf, hnj, if_false]; exact hj
 refine kk B ok0 lv' a w ?_
 rw [← S_h]
 obtain ⟨bo, n, k1, k2⟩ := hs1.inv.obj jb _ hj1
 cases bo with
 | none => simp [yle] at k2
 | some b =>
  obtain ⟨q1, q2, cc, e, q3, q4, q5, q6, q7⟩ := k2
  have hkl := (List.getElem?_eq_some_iff.1 hk).1
  have hkc : k < cc.size := by omega
  have hold := yfp (q7 k _ cc[k] hk (by simp [hkc]))
  have hnew := hnil size
  rw [← hold] at hnew
  have hS : yaf ((id, some (.vec [])) :: h) = ydf (yaf h) id (some (.vec [])) := (yqu id _ h).symm
  refine ⟨⟨hs1.inv.base, hs1.inv.ok0lt, fun j hjn => ?_, hs1.inv.inj, fun j x hxj => ?_⟩, hs1.size, hs1.frame, hs1.defers, hs1.big, fun j b' o hN hjx hc hb' => ?_⟩
  ·by_cases hjj : j = jb
   ·subst hjj; simp [ydf] at hjn
   ·simp only [ydf, hjj, if_false, hS] at hjn; exact hs1.inv.dom j hjn
  ·by_cases hjj : j = jb
   ·subst hjj
    simp only [ydf, if_true, Option.some.injEq] at hxj
    subst hxj
    refine ⟨some b, n, k1, q1, q2, cc, e, q3, q4, by simpa using q5, fun x hxm => ?_, fun i x u hi hu => ?_⟩
    ·rcases List.mem_or_eq_of_mem_set hxm with hm | hm
     ·exact q6 x hm
     ·subst hm; rfl
    ·rw [List.getElem?_set] at hi
     split at hi
     ·rename_i e1
      subst e1
      cases hi
      simp only [hkc, Array.getElem?_eq_getElem, Option.some.injEq] at hu
      subst hu
      exact hnew
     ·exact q7 i x u hi hu
   ·simp only [ydf, hjj, if_false, hS] at hxj
    exact hs1.inv.obj j x hxj
  ·by_cases hjj : j = jb
   ·subst hjj
    exact hs1.pin j b' _ hN hj1 rfl hb'
   ·simp only [ydf, hjj, if_false, hS] at hjx
    exact hs1.pin j b' o hN hjx hc hb'
end
def zld (T : Nat → Option Ty) (s : SS) : ResultVar → Option AV
 | .tmp t => evF s.t (.tmp t)
 | .cell b t => match T t with
  | some y => match evF s.t (.tmp b) with
   | some (.lp id off) => match yrt (s.h id) with
    | some xs => zkv y.agg y.size (xs.drop off)
    | none => none
   | _ => none
  | none => none
def zou (T : Nat → Option Ty) (s : SS) : List ResultVar → Option (List AV)
 | [] => some []
 | r :: rs => match zld T s r, zou T s rs with
  | some x, some xs => some (x :: xs)
  | _, _ => none
def yym (T : Nat → Option Ty) (s : SS) (rs : List ResultVar) : Option AV :=
 match zou T s rs with
 | some [x] => some x
 | some xs => some (.tup xs)
 | none => none
theorem resOneT_run {P : Program} {T : Nat → Option Ty} (hT : TOK P T) {B : Bse} {ok0 : Nat → Prop} {N : Nat} {s : SS} {lv : Live} {a : Act} {w : World} (hs : Sim B ok0 N s lv a w) {r : ResultVar} {x : AV} (h : zld T s r = some x) : ∃ u, Rel (ybt B ok0 lv w) w lv x u ∧ (zoz a.tmps r).run P w = .ok u w := by
 cases r with
 | tmp t => exact ⟨_, hs.eval (x := .tmp t) h, by simp [zoz, Act.eval]⟩
 | cell b t =>
  simp only [zld] at h
  split at h
  ·rename_i y hy
   split at h
   ·rename_i id off hb
    split at h
    ·rename_i xs hx
     obtain ⟨g1, g2⟩ := yfa hx
     obtain ⟨b', n, k1, k2, k3⟩ := ydz hs.inv g1 g2 (hs.eval (x := .tmp b) hb)
     have k4 := k3.drop off
     rw [Nat.zero_add] at k4
     obtain ⟨u, k5, k6⟩ := zgd (hT _ _ hy).1 k4 h
     have k2' : a.tmps.getD b undef = .pointer (some ⟨b', off, none⟩) := k2
     exact ⟨u, k6, by simp [zoz, k2', asAddr, k5]⟩
    ·cases h
   ·cases h
  ·cases h
theorem zjc {P : Program} {T : Nat → Option Ty} (hT : TOK P T) {B : Bse} {ok0 : Nat → Prop} {N : Nat} {s : SS} {lv : Live} {a : Act} {w : World} (hs : Sim B ok0 N s lv a w) : ∀ (rs : List ResultVar) (xs : List AV), zou T s rs = some xs →
  ∃ us : List Value, yck (ybt B ok0 lv w) w lv xs us ∧ (rs.mapM (zoz a.tmps)).run P w = .ok us w
 | [], xs, h => by simp only [zou, Option.some.injEq] at h; subst h; exact ⟨[], ⟨rfl, fun i x u h => by simp at h⟩, by simp⟩
 | r :: rs, xs, h => by
  simp only [zou] at h
  split at h
  ·rename_i x xs' h1 h2
   simp only [Option.some.injEq] at h
   subst h
   obtain ⟨us, hus, hrun⟩ := zjc hT hs rs xs' h2
   obtain ⟨u, hu, hrun1⟩ := resOneT_run hT hs h1
   refine ⟨u :: us, ⟨by simp [hus.1], fun i y v hy hv => ?_⟩, ?_⟩
   ·cases i with
    | zero => simp only [List.getElem?_cons_zero, Option.some.injEq] at hy hv; subst hy hv; exact hu
    | succ i => exact hus.2 i y v (by simpa using hy) (by simpa using hv)
   ·simp only [List.mapM_cons, Sem.run_bind, hrun1, Sem.run_pure, Result.andThen_ok, hrun]
  ·cases h
theorem zbx {P : Program} {T : Nat → Option Ty} (hT : TOK P T) {B : Bse} {ok0 : Nat → Prop} {N : Nat} {s : SS} {lv : Live} {a : Act} {w : World} (hs : Sim B ok0 N s lv a w) {fn : Func} {rs : List ResultVar} (hr : fn.results = rs.toArray) {x : AV} (h : yym T s rs = some x) :
  ∃ u, Rel (ybt B ok0 lv w) w lv x u ∧ (results fn a.tmps).run P w = .ok u w := by
 unfold yym at h
 have key : ∀ xs, zou T s rs = some xs → ∃ us : List Value, yck (ybt B ok0 lv w) w lv xs us ∧ (results fn a.tmps).run P w = .ok (if h : us.toArray.size = 1 then us.toArray[0] else .tuple us.toArray) w := by
  intro xs hx
  obtain ⟨us, h1, h2⟩ := zjc hT hs rs xs hx
  refine ⟨us, h1, ?_⟩
  have e : results fn a.tmps = (fn.results.mapM (zoz a.tmps) >>= fun vs => pure (if h : vs.size = 1 then vs[0] else .tuple vs)) := rfl
  have e2 : (List.toArray <$> rs.mapM (zoz a.tmps)) = (rs.mapM (zoz a.tmps) >>= fun l => pure l.toArray) := rfl
  rw [e, hr, List.mapM_toArray, e2]
  simp only [Sem.run_bind, h2, Result.andThen_ok, Sem.run_pure]
 split at h
 ·rename_i y hy
  simp only [Option.some.injEq] at h
  subst h
  obtain ⟨us, h1, h2⟩ := key _ hy
  match us, h1 with
  | [u], h1 => exact ⟨u, h1.2 0 _ _ rfl rfl, by simpa using h2⟩
 ·rename_i xs hne hy
  simp only [Option.some.injEq] at h
  subst h
  obtain ⟨us, h1, h2⟩ := key _ hy
  refine ⟨.tuple us.toArray, .tup us h1.1 h1.2, ?_⟩
  rw [h2, dif_neg]
  intro h
  have hl := h1.1
  simp only [List.size_toArray] at h
  rw [h] at hl
  match xs, hl with
  | [x], _ => exact hne x rfl
 ·cases h
def EndsT (T : Nat → Option Ty) (rs : List ResultVar) (y : AV) : Exit → SS → Prop
 | .normal, s => ∃ x, yym T s rs = some x ∧ Frz s.h x y
 | .ret, s => ∃ x, yym T s rs = some x ∧ Frz s.h x y
 | _, _ => False
theorem zpq {P : Program} {T : Nat → Option Ty} (hT : TOK P T) {f : FuncId} {fn : Func} {c : Code} {N : Nat} {rs : List ResultVar} {args : List AV} {r : AV} (hf : P.funcs[f]? = some fn) (hn : (fn.name == "runtime.NumGoroutine") = false) (hb : fn.body = some c) (hN : fn.ntmps = N) (hrs : fn.results = rs.toArray) (hlen : (Nat.ble args.length N && Nat.ble N 1000000) = true) (hp : ybc r = true)
  (h : A P N c (EndsT T rs r) (S (yid 0 args) [])) : Con P f args r := by
 refine ⟨⟨fn, hf, hn, by simp [hb]⟩, hp, fun ok0 w us hG hok hus => ?_⟩
 simp only [Bool.and_eq_true, Nat.ble_eq] at hlen
 obtain ⟨hlen', hbig⟩ := hlen
 refine (callsIn_wide (n := 0)).1 (callsIn_of_wp_marks hf hb trivial ?_)
 have hst : S (yid 0 args) [] = ⟨zom args, fun _ => none⟩ := by unfold S; rw [ynm]; rfl
 have hs : Sim (zug w) ok0 N (S (yid 0 args) []) (fun _ => none) { tmps := us.toArray ++ Array.replicate (fn.ntmps - us.toArray.size) undef, defers := [] } w := by
  rw [hst]
  refine ⟨⟨Based.start hG, hok, fun _ _ => rfl, (fun i j b n m h => by cases h), (fun id x hx => by cases hx)⟩, ?_, fun x y hy => ?_, ⟨[], rfl, List.nodup_nil, fun d hd => by cases hd⟩, hbig, fun id b xs _ hx => by cases hx⟩
  ·simp [hN, hus.1]; omega
  ·have hlt := (List.getElem?_eq_some_iff.1 hy).1
   refine ⟨.inl (by omega), ?_⟩
   rw [yfi, if_pos (by omega)]
   obtain ⟨u, hu⟩ : ∃ u, us[x]? = some u := ⟨_, List.getElem?_eq_getElem (by rw [hus.1]; exact hlt)⟩
   simp only [ypv us _ x u hu]
   exact (hus.2 x y u hy hu).keep fun g hg => ⟨⟨.inl hg, hok g hg, fun id b n hb => by cases hb⟩, rfl⟩
 refine wpIn_mono (h _ ok0 _ _ w hs) fun e a' w' ⟨s', lv', hq, hs'⟩ => ?_
 have fin : ∀ x, yym T s' rs = some x → Frz s'.h x r → ∀ (a' : Act) (w' : World), Sim (zug w) ok0 N s' lv' a' w' → ∃ v, (results fn a'.tmps).run P w' = .ok v w' ∧ ∃ u, Ending.returned v = .returned u ∧ Rel (fun g => (ok0 g ∨ w.heap.size ≤ g) ∧ g < w'.heap.size) w' (fun _ => none) r u ∧ Below w.heap.size w w' := by
  intro x hx hfz a' w' hs'
  obtain ⟨u, hu, hrun⟩ := zbx hT hs' hrs hx
  exact ⟨u, hrun, u, rfl, (hfz _ _ _ _ _ hs'.inv hu).keep (fun g hg => ⟨⟨hg.1.imp (fun h => h) (fun h => h.elim (fun h => h.elim) (fun h => h)), hg.2⟩, rfl⟩), hs'.inv.base.below⟩
 cases e with
 | normal => obtain ⟨x, hx, hfz⟩ := hq; exact yeg rfl rfl (fin x hx hfz) _ a' w' rfl hs'
 | ret => obtain ⟨x, hx, hfz⟩ := hq; exact yeg rfl rfl (fin x hx hfz) _ a' w' rfl hs'
 | _ => exact hq.elim
end
section
open Go.RowKit
section
variable {P : Program} {T : Nat → Option Ty} {N : Nat} {ops : Array Oper} {lf : Oper → Bool} {Q : SS → Prop} {t : List (Nat × AV)} {h : List (Nat × Option LObj)} {rest : List Oper} {d : Nat} {op : Op} {ty : TypeId} {pos : String} {af : Array Edge} {gd : Option (Nat × Bool)} {r : AV}
theorem yield_b2s {ρ : Operand → Option AV} {hp : Nat → Option LObj} {src dst e : TypeId} {x : Operand} {n : Int} (hs : P.underlying src = some (.slice e)) (he : P.underlying e = some (.int .u8)) (hd : P.underlying dst = some .string) (hx : ρ x = some (.sl 1 [[.v (.int .u8 n)]])) :
  ydl P hp ρ (.convert src dst x) ty (.v (.string (strOfNums [n]))) :=
 yat fun B ok0 lv w a o ho hty hi' hops => by
  have hr := hops x _ (by simp [Op.operands]) hx
  generalize hv : a.eval x = v at hr
  cases hr with
  | sl ad cap u g q hn hc ha hsz hg hcell hrel =>
   obtain ⟨rfl, hok⟩ := hg (by simp)
   have h1 := (hcell 0 0 _ _ rfl rfl).1
   have h2 := yfp (hrel 0 0 _ _ rfl rfl)
   rw [h2] at h1
   have hrun := run_convert_bytes_arg w src e hs he g q 1 cap [n] rfl (fun i hi => by
    obtain rfl : i = 0 := by omega
    simpa using h1) dst hd
   have hv' : a.eval x = .slice (some ⟨g, q, none⟩) 1 cap := hv
   exact ⟨_, by simp [execOp, ho, hv', hrun], .v _⟩
theorem zuq (hT : TOK P T) {src dst e es eb s1 s2 s3 : Nat} {ea a1 a2 a3 : Bool} {ez z1 z2 z3 : List Value} {x : Operand} {n : Int} (hs : T src = some ⟨.slc e es ea eb ez, s1, a1, z1⟩) (he : T e = some ⟨.int .u8, s2, a2, z2⟩) (hd' : T dst = some ⟨.string, s3, a3, z3⟩)
  (hx : evF (look t) x = some (.sl 1 [[.v (.int .u8 n)]])) (hw : yan ops (look t) ⟨some d, .convert src dst x, ty, pos, af, gd⟩ = some true) (hd : Nat.blt d N = true) (k : Lex P N ops lf Q rest (S ((d, .v (.string (strOfNums [n]))) :: t) h)) : Lex P N ops lf Q (⟨some d, .convert src dst x, ty, pos, af, gd⟩ :: rest) (S t h) :=
 ycf (yield_b2s (hT _ _ hs).2.2.1 (hT _ _ he).2.2 (hT _ _ hd').2.2 hx) hw hd k
end
end
section
open Go.RowKit
def ygc (σ : Nat → Nat) : AV → AV
 | .lp id off => .lp (σ id) off
 | .ls id s n => .ls (σ id) s n
 | .mp id => .mp (σ id)
 | .agg cs => .agg (renL cs)
 | .tup cs => .tup (renL cs)
 | .fn f cs => .fn f (renL cs)
 | .fm f cs => .fm f (renL cs)
 | x => x
 where renL : List AV → List AV
 | [] => []
 | c :: cs => ygc σ c :: renL cs
theorem ycu (σ : Nat → Nat) : ∀ cs, ygc.renL σ cs = cs.map (ygc σ)
 | [] => rfl
 | c :: cs => by simp [ygc.renL, ycu σ cs]
def ygz (ids : List Nat) : AV → Bool
 | .lp id _ => ids.contains id
 | .ls id _ _ => ids.contains id
 | .mp id => ids.contains id
 | .agg cs => onlyL cs
 | .tup cs => onlyL cs
 | .fn _ cs => onlyL cs
 | .fm _ cs => onlyL cs
 | _ => true
 where onlyL : List AV → Bool
 | [] => true
 | c :: cs => ygz ids c && onlyL cs
def yzf (σ : Nat → Nat) : LObj → LObj
 | .cells xs => .cells (ygc.renL σ xs)
 | .tcells e xs => .tcells e (ygc.renL σ xs)
 | .mcells xs => .mcells (ygc.renL σ xs)
 | o => o
def ywf (ids : List Nat) : LObj → Bool
 | .cells xs => ygz.onlyL ids xs
 | .tcells _ xs => ygz.onlyL ids xs
 | .mcells xs => ygz.onlyL ids xs
 | _ => true
theorem yjw (σ : Nat → Nat) (x : AV) : yfh (ygc σ x) = yfh x := by cases x <;> rfl
section
variable {ok : Nat → Prop} {w : World} {lv lv1 : Live} {σ : Nat → Nat}
theorem Rel.unren (hl : ∀ id b n, lv1 id = some (b, n) → lv (σ id) = some (b, n)) : ∀ {x : AV} {u : Value}, Rel ok w lv (ygc σ x) u → Rel ok w lv1 x u
 | .v _, u, h => by cases h; exact .v _
 | .any, u, h => .any u
 | .one, u, h => by cases h with | one _ h1 => exact .one _ h1
 | .sl s rows, u, h => by cases h with | sl a cap u g o hn hc ha hr hg hcell hrel => exact .sl a cap u g o hn hc ha hr hg hcell hrel
 | .dp row off, u, h => by cases h with | dp g o u hg hcell hrel => exact .dp g o u hg hcell hrel
 | .mv es, u, h => by cases h with | mv b hg hm => exact .mv b hg hm
 | .lp id off, u, h => by cases h with | lp _ h1 h2 => exact .lp _ h1 fun b n hb => h2 b n (hl id _ n hb)
 | .ls id s n, u, h => by cases h with | ls _ h1 h2 => exact .ls _ h1 fun b n hb => h2 b n (hl id _ n hb)
 | .mp id, u, h => by cases h with | mp _ h1 h2 => exact .mp _ h1 fun b n hb => h2 b n (hl id _ n hb)
 | .agg cs, u, h => by
  cases h with
  | agg vs hlen hc hr =>
   exact .agg vs (by rw [hlen, ycu]; simp) (fun c hm => by rw [← yjw σ]; exact hc _ (by rw [ycu]; exact List.mem_map_of_mem hm)) (rows hr)
 | .tup cs, u, h => by
  cases h with
  | tup vs hlen hr => exact .tup vs (by rw [hlen, ycu]; simp) (rows hr)
 | .fn f cs, u, h => by
  cases h with
  | fn vs hlen hr => exact .fn vs (by rw [hlen, ycu]; simp) (rows hr)
 | .fm f cs, u, h => by
  cases h with
  | fm vs hlen hr => exact .fm vs (by rw [hlen, ycu]; simp) (rows hr)
 where rows : ∀ {cs : List AV} {vs : List Value}, (∀ (i : Nat) (c : AV) (u : Value), (ygc.renL σ cs)[i]? = some c → vs[i]? = some u → Rel ok w lv c u) → ∀ (i : Nat) (c : AV) (u : Value), cs[i]? = some c → vs[i]? = some u → Rel ok w lv1 c u
 | [], vs, _, i, c, u, hc, _ => by simp at hc
 | d :: cs, [], _, i, c, u, _, hu => by simp at hu
 | d :: cs, q :: vs, h, 0, c, u, hc, hu => by
  simp at hc hu
  subst hc hu
  exact Rel.unren hl (h 0 _ _ rfl rfl)
 | d :: cs, q :: vs, h, i + 1, c, u, hc, hu => rows (fun j c u h1 h2 => h (j + 1) c u (by simpa [ygc.renL] using h1) (by simpa using h2)) i c u (by simpa using hc) (by simpa using hu)
theorem Rel.ren {ids : List Nat} (hl : ∀ id b n, id ∈ ids → lv (σ id) = some (b, n) → lv1 id = some (b, n)) : ∀ {x : AV} {u : Value}, ygz ids x = true → Rel ok w lv1 x u → Rel ok w lv (ygc σ x) u
 | .v _, u, _, h => by cases h; exact .v _
 | .any, u, _, h => .any u
 | .one, u, _, h => by cases h with | one _ h1 => exact .one _ h1
 | .sl s rows, u, _, h => by cases h with | sl a cap u g o hn hc ha hr hg hcell hrel => exact .sl a cap u g o hn hc ha hr hg hcell hrel
 | .dp row off, u, _, h => by cases h with | dp g o u hg hcell hrel => exact .dp g o u hg hcell hrel
 | .mv es, u, _, h => by cases h with | mv b hg hm => exact .mv b hg hm
 | .lp id off, u, ho, h => by cases h with | lp _ h1 h2 => exact .lp _ h1 fun b n hb => h2 b n (hl id _ n (by simpa [ygz] using ho) hb)
 | .ls id s n, u, ho, h => by cases h with | ls _ h1 h2 => exact .ls _ h1 fun b n hb => h2 b n (hl id _ n (by simpa [ygz] using ho) hb)
 | .mp id, u, ho, h => by cases h with | mp _ h1 h2 => exact .mp _ h1 fun b n hb => h2 b n (hl id _ n (by simpa [ygz] using ho) hb)
 | .agg cs, u, ho, h => by
  cases h with
  | agg vs hlen hc hr =>
   refine .agg vs (by rw [hlen, ycu]; simp) (fun c hm => ?_) (rows ho hr)
   rw [ycu] at hm
   obtain ⟨y, hy, rfl⟩ := List.mem_map.1 hm
   rw [yjw]; exact hc y hy
 | .tup cs, u, ho, h => by
  cases h with
  | tup vs hlen hr => exact .tup vs (by rw [hlen, ycu]; simp) (rows ho hr)
 | .fn f cs, u, ho, h => by
  cases h with
  | fn vs hlen hr => exact .fn vs (by rw [hlen, ycu]; simp) (rows ho hr)
 | .fm f cs, u, ho, h => by
  cases h with
  | fm vs hlen hr => exact .fm vs (by rw [hlen, ycu]; simp) (rows ho hr)
 where rows : ∀ {cs : List AV} {vs : List Value}, ygz.onlyL ids cs = true → (∀ (i : Nat) (c : AV) (u : Value), cs[i]? = some c → vs[i]? = some u → Rel ok w lv1 c u) → ∀ (i : Nat) (c : AV) (u : Value), (ygc.renL σ cs)[i]? = some c → vs[i]? = some u → Rel ok w lv c u
 | [], vs, _, _, i, c, u, hc, _ => by simp [ygc.renL] at hc
 | d :: cs, [], _, _, i, c, u, _, hu => by simp at hu
 | d :: cs, q :: vs, ho, h, 0, c, u, hc, hu => by
  simp only [ygz.onlyL, Bool.and_eq_true] at ho
  simp [ygc.renL] at hc hu
  subst hc hu
  exact Rel.ren hl ho.1 (h 0 _ _ rfl rfl)
 | d :: cs, q :: vs, ho, h, i + 1, c, u, hc, hu => by
  simp only [ygz.onlyL, Bool.and_eq_true] at ho
  exact rows ho.2 (fun j c u h1 h2 => h (j + 1) c u (by simpa using h1) (by simpa using h2)) i c u (by simpa [ygc.renL] using hc) (by simpa using hu)
end
def ypx (lv : Live) (b : Nat) : Prop := ∃ id n, lv id = some (some b, n)
def yga (w : World) (lv : Live) : Bse := ⟨w, ypx lv, fun _ => none, none, [], fun _ => undef⟩
def yhb (P : Program) (f : FuncId) (args : List AV) (hs : Nat → Option LObj) (r : AV) (hs' : Nat → Option LObj) : Prop :=
 ypi P f ∧ (∀ id o, hs' id = some o → isC o = true → ∃ o', hs id = some o' ∧ isC o' = true) ∧ ∀ (ok0 : Nat → Prop) (lv : Live) (w : World) (us : List Value), Inv (yga w lv) ok0 hs lv w → yck (ybt (yga w lv) ok0 lv w) w lv args us →
  Calls P f us.toArray w fun e w' => ∃ u lv', e = .returned u ∧ Rel (ybt (yga w lv) ok0 lv' w') w' lv' r u ∧ Inv (yga w lv) ok0 hs' lv' w' ∧ ∀ id o, hs' id = some o → isC o = true → ∃ b n n', lv id = some (some b, n) ∧ lv' id = some (some b, n')
theorem Inv.pinned {B : Bse} {ok0 : Nat → Prop} {h : Nat → Option LObj} {lv : Live} {w : World} (hi : Inv B ok0 h lv w) (p : Nat → Option Nat) (rd : Option Nat) (dl : List Deferred) (gv : Nat → Value) (hrd : ∀ l, rd = some l → (∃ r, B.w.heap[l]? = some (.loop r)) ∧ ¬ B.lent l) : Inv ⟨B.w, B.lent, p, rd, dl, gv⟩ ok0 h lv w :=
 ⟨⟨hi.base.os, hi.base.tape, hi.base.output, hi.base.size, hi.base.block, hi.base.glob, hi.base.gsize, hi.base.lentG, hrd⟩, hi.ok0lt, hi.dom, hi.inj, fun id x hx => by
  obtain ⟨b, n, h1, h2⟩ := hi.obj id x hx
  refine ⟨b, n, h1, ?_⟩
  cases b with
  | none => exact h2
  | some b => exact h2⟩
def zpc (T : Nat → Option Ty) (rs : List ResultVar) (r : AV) (hs' : Nat → Option LObj) : Exit → SS → Prop
 | .normal, s => ∃ x, yym T s rs = some x ∧ Wk x r ∧ ∀ id o, hs' id = some o → s.h id = some o
 | .ret, s => ∃ x, yym T s rs = some x ∧ Wk x r ∧ ∀ id o, hs' id = some o → s.h id = some o
 | _, _ => False
theorem ybb {P : Program} {T : Nat → Option Ty} (hT : TOK P T) {f : FuncId} {fn : Func} {c : Code} {N : Nat} {rs : List ResultVar} {args : List AV} {hs hs' : Nat → Option LObj} {r : AV} (hf : P.funcs[f]? = some fn) (hn : (fn.name == "runtime.NumGoroutine") = false) (hb : fn.body = some c) (hN : fn.ntmps = N) (hrs : fn.results = rs.toArray) (hlen : (Nat.ble args.length N && Nat.ble N 1000000) = true)
  (hcl : ∀ id o, hs' id = some o → isC o = true → N ≤ id ∧ ∃ o', hs id = some o' ∧ isC o' = true) (h : A P N c (zpc T rs r hs') ⟨look (yid 0 args), hs⟩) : yhb P f args hs r hs' := by
 refine ⟨⟨fn, hf, hn, by simp [hb]⟩, fun id o hx hc => (hcl id o hx hc).2, fun ok0 lv w us hi hus => ?_⟩
 simp only [Bool.and_eq_true, Nat.ble_eq] at hlen
 obtain ⟨hlen', hbig⟩ := hlen
 refine (callsIn_wide (n := 0)).1 (callsIn_of_wp_marks hf hb trivial ?_)
 have hsim : Sim ⟨w, ypx lv, fun id => (lv id).bind (·.1), none, [], fun _ => undef⟩ ok0 N ⟨look (yid 0 args), hs⟩ lv { tmps := us.toArray ++ Array.replicate (fn.ntmps - us.toArray.size) undef, defers := [] } w := by
  refine ⟨hi.pinned _ _ _ _ (fun l h => by cases h), ?_, fun x y hy => ?_, ⟨[], rfl, List.nodup_nil, fun d hd => by cases hd⟩, hbig, fun id b o hN hx hc hb => ?_⟩
  ·simp [hN, hus.1]; omega
  ·simp only [ynm] at hy
   have hlt := (List.getElem?_eq_some_iff.1 hy).1
   refine ⟨.inl (by omega), ?_⟩
   rw [yfi, if_pos (by omega)]
   obtain ⟨u, hu⟩ : ∃ u, us[x]? = some u := ⟨_, List.getElem?_eq_getElem (by rw [hus.1]; exact hlt)⟩
   simp only [ypv us _ x u hu]
   exact hus.2 x y u hy hu
  ·simp only at hb
   cases hl : lv id with
   | none => simp [hl] at hb
   | some q => obtain ⟨q1, q2⟩ := q; simp [hl] at hb; subst hb; exact ⟨q2, rfl⟩
 refine wpIn_mono (h _ ok0 _ _ w hsim) fun e a' w' ⟨s', lv', hq, hs2⟩ => ?_
 have fin : ∀ x, yym T s' rs = some x → Wk x r → (∀ id o, hs' id = some o → s'.h id = some o) → ∀ (a' : Act) (w' : World), Sim ⟨w, ypx lv, fun id => (lv id).bind (·.1), none, [], fun _ => undef⟩ ok0 N s' lv' a' w' → ∃ v, (results fn a'.tmps).run P w' = .ok v w' ∧ ∃ u lv2, Ending.returned v = .returned u ∧ Rel (ybt (yga w lv) ok0 lv2 w') w' lv2 r u ∧ Inv (yga w lv) ok0 hs' lv2 w' ∧ ∀ id o, hs' id = some o → isC o = true → ∃ b n n', lv id = some (some b, n) ∧ lv2 id = some (some b, n') := by
  intro x hx hwk hsub a' w' hs2
  obtain ⟨u, hu, hrun⟩ := zbx (P := P) hT hs2 hrs hx
  obtain ⟨lv2, i1, i2, i3⟩ := hs2.inv.weak hsub
  refine ⟨u, hrun, u, lv2, rfl, hwk.rel _ _ _ _ ((hu.relive fun id b n hb _ => i2 id b n hb).keep fun g hg => ⟨i3 g hg, rfl⟩), i1.pinned _ _ _ _ (fun l h => by cases h), fun id o hx hc => ?_⟩
  obtain ⟨h1, o', hy, hc'⟩ := hcl id o hx hc
  obtain ⟨b, n, hb, ho⟩ := hi.obj id _ hy
  cases b with
  | none => simp only [yle] at ho; rcases ho with rfl | ⟨e, rfl⟩ <;> cases hc'
  | some b =>
   obtain ⟨n', hn'⟩ := hs2.pin id b o h1 (hsub id _ hx) hc (by simp [hb])
   obtain ⟨b2, n2, hb2, _⟩ := i1.obj id _ hx
   have := i2 id b2 n2 hb2
   rw [hn'] at this
   cases this
   exact ⟨b, n, _, hb, hb2⟩
 cases e with
 | normal => obtain ⟨x, hx, h1, h2⟩ := hq; exact yeg rfl rfl (fin x hx h1 h2) _ a' w' rfl hs2
 | ret => obtain ⟨x, hx, h1, h2⟩ := hq; exact yeg rfl rfl (fin x hx h1 h2) _ a' w' rfl hs2
 | _ => exact hq.elim
theorem yhn.unren {ok ok' : Nat → Prop} {w : World} {lv lv1 : Live} {σ : Nat → Nat} {b n : Nat} {x : LObj} (hl : ∀ id b n, lv1 id = some (b, n) → lv (σ id) = some (b, n)) (hk : ∀ g, ok g → ok' g) (h : yhn ok lv w b n (yzf σ x)) : yhn ok' lv1 w b n x := by
 cases x with
 | cells xs =>
  obtain ⟨c, e, g1, g2, g3, g4, g5⟩ := h
  rw [ycu] at g3 g4 g5
  refine ⟨c, e, g1, g2, by simpa using g3, fun y hy => by rw [← yjw σ]; exact g4 _ (List.mem_map_of_mem hy), fun j y u hy hu => ?_⟩
  exact (Rel.unren hl (g5 j (ygc σ y) u (by simp [hy]) hu)).keep fun g hg => ⟨hk g hg, rfl⟩
 | vec xs =>
  obtain ⟨⟨c, e, g1, g2, g3, g4, g5⟩, hp⟩ := h
  exact ⟨⟨c, e, g1, g2, g3, g4, fun j y u hy hu => ((g5 j y u hy hu).relive fun id b n _ hm => by rw [ybc.ment (hp y (List.mem_of_getElem? hy))] at hm; cases hm).keep fun g hg => ⟨hk g hg, rfl⟩⟩, hp⟩
 | map es => exact h
 | iter es left cur => exact yro.keep h (fun g hg => ⟨hk g hg, rfl⟩) rfl
 | siter s pos => exact h
 | tcells e xs =>
  obtain ⟨⟨c, e', g1, g2, g3, g4, g5⟩, hsh⟩ := h
  rw [ycu] at g3 g4 g5 hsh
  exact ⟨⟨c, e', g1, g2, by simpa using g3, fun y hy => by rw [← yjw σ]; exact g4 _ (List.mem_map_of_mem hy), fun j y u hy hu => (Rel.unren hl (g5 j (ygc σ y) u (by simp [hy]) hu)).keep fun g hg => ⟨hk g hg, rfl⟩⟩, by simpa using hsh⟩
 | tvec e xs =>
  obtain ⟨⟨c, e', g1, g2, g3, g4, g5⟩, hp, hsh⟩ := h
  exact ⟨⟨c, e', g1, g2, g3, g4, fun j y u hy hu => ((g5 j y u hy hu).relive fun id b n _ hm => by rw [ybc.ment (hp y (List.mem_of_getElem? hy))] at hm; cases hm).keep fun g hg => ⟨hk g hg, rfl⟩⟩, hp, hsh⟩
 | mcells xs =>
  obtain ⟨c, e, g1, g2, g3, g4, g5⟩ := h
  rw [ycu] at g3 g4 g5
  refine ⟨c, e, g1, g2, by simpa using g3, fun y hy => by rw [← yjw σ]; exact g4 _ (List.mem_map_of_mem hy), fun j y u hy hu => ?_⟩
  exact (Rel.unren hl (g5 j (ygc σ y) u (by simp [hy]) hu)).keep fun g hg => ⟨hk g hg, rfl⟩
theorem yhn.ren {ok ok' : Nat → Prop} {w : World} {lv lv1 : Live} {σ : Nat → Nat} {ids : List Nat} {b n : Nat} {x : LObj} (hl : ∀ id b n, id ∈ ids → lv (σ id) = some (b, n) → lv1 id = some (b, n)) (ho : ywf ids x = true) (hk : ∀ g, ok g → ok' g) (h : yhn ok lv1 w b n x) : yhn ok' lv w b n (yzf σ x) := by
 cases x with
 | cells xs =>
  obtain ⟨c, e, g1, g2, g3, g4, g5⟩ := h
  refine ⟨c, e, g1, g2, by rw [ycu]; simpa using g3, fun y hy => ?_, fun j y u hy hu => ?_⟩
  ·rw [ycu] at hy
   obtain ⟨z, hz, rfl⟩ := List.mem_map.1 hy
   rw [yjw]; exact g4 z hz
  ·exact (Rel.ren.rows (vs := c.toList) hl ho (fun j y u hy hu => g5 j y u hy (by simpa using hu)) j y u hy (by simpa using hu)).keep fun g hg => ⟨hk g hg, rfl⟩
 | vec xs =>
  obtain ⟨⟨c, e, g1, g2, g3, g4, g5⟩, hp⟩ := h
  exact ⟨⟨c, e, g1, g2, g3, g4, fun j y u hy hu => ((g5 j y u hy hu).relive fun id b n _ hm => by rw [ybc.ment (hp y (List.mem_of_getElem? hy))] at hm; cases hm).keep fun g hg => ⟨hk g hg, rfl⟩⟩, hp⟩
 | map es => exact h
 | iter es left cur => exact yro.keep h (fun g hg => ⟨hk g hg, rfl⟩) rfl
 | siter s pos => exact h
 | tcells e xs =>
  obtain ⟨⟨c, e', g1, g2, g3, g4, g5⟩, hsh⟩ := h
  refine ⟨⟨c, e', g1, g2, by rw [ycu]; simpa using g3, fun y hy => ?_, fun j y u hy hu => ?_⟩, by rw [ycu]; simpa using hsh⟩
  ·rw [ycu] at hy
   obtain ⟨z, hz, rfl⟩ := List.mem_map.1 hy
   rw [yjw]; exact g4 z hz
  ·exact (Rel.ren.rows (vs := c.toList) hl ho (fun j y u hy hu => g5 j y u hy (by simpa using hu)) j y u hy (by simpa using hu)).keep fun g hg => ⟨hk g hg, rfl⟩
 | tvec e xs =>
  obtain ⟨⟨c, e', g1, g2, g3, g4, g5⟩, hp, hsh⟩ := h
  exact ⟨⟨c, e', g1, g2, g3, g4, fun j y u hy hu => ((g5 j y u hy hu).relive fun id b n _ hm => by rw [ybc.ment (hp y (List.mem_of_getElem? hy))] at hm; cases hm).keep fun g hg => ⟨hk g hg, rfl⟩⟩, hp, hsh⟩
 | mcells xs =>
  obtain ⟨c, e, g1, g2, g3, g4, g5⟩ := h
  refine ⟨c, e, g1, g2, by rw [ycu]; simpa using g3, fun y hy => ?_, fun j y u hy hu => ?_⟩
  ·rw [ycu] at hy
   obtain ⟨z, hz, rfl⟩ := List.mem_map.1 hy
   rw [yjw]; exact g4 z hz
  ·exact (Rel.ren.rows (vs := c.toList) hl ho (fun j y u hy hu => g5 j y u hy (by simpa using hu)) j y u hy (by simpa using hu)).keep fun g hg => ⟨hk g hg, rfl⟩
theorem yzg (σ : Nat → Nat) (x : LObj) : isC (yzf σ x) = isC x := by cases x <;> rfl
theorem zgk {σ : Nat → Nat} {x : LObj} (h : yzf σ x = .vec [] ∨ ∃ e, yzf σ x = .tvec e []) : x = .vec [] ∨ ∃ e, x = .tvec e [] := by
 cases x <;> simp_all [yzf]
def zws (σ : Nat → Nat) (ids : List Nat) (hm' : Nat → Option LObj) (y : AV) : Prop := (∀ i ∈ ids, ment (σ i) y = false) ∨ ∃ i ∈ ids, ∃ off o, (y = .lp (σ i) off ∨ ∃ f, y = .fm f [.lp (σ i) off]) ∧ hm' i = some o ∧ isC o = true
set_option maxHeartbeats 4000000
section
variable {P : Program} {N : Nat}
def zlj (y : Option AV) (f : FuncId) (caps : List AV) (args : List Operand) : Prop := y = some (.fn f caps) ∨ (y = some (.fm f caps) ∧ args = [])
theorem callee_run {B : Bse} {ok0 : Nat → Prop} {s : SS} {lv : Live} {a : Act} {w : World} (hs : Sim B ok0 N s lv a w) {o : Oper} {g : Operand} {args : List Operand} {ats : Array TypeId} {f : FuncId} {caps : List AV} (ho : o.op = .call { callee := .value g, args := args.toArray, argTypes := ats }) (hb : ypi P f) (hg : zlj (evF s.t g) f caps args) :
  ∃ vs : List Value, vs.length = caps.length ∧ (∀ (i : Nat) (c : AV) (u : Value), caps[i]? = some c → vs[i]? = some u → Rel (ybt B ok0 lv w) w lv c u) ∧ (execOp a.eval o).run P w = .ok (.enter f (args.map a.eval ++ vs).toArray) w := by
 rcases hg with hg | ⟨hg, rfl⟩
 ·have hfr := hs.eval hg
  generalize hv : a.eval g = v at hfr
  cases hfr with
  | fn vs hl hrc =>
  refine ⟨vs, hl, hrc, ?_⟩
  unfold execOp
  simp only [ho, resolve, Deferred.ofValue, hv, Sem.run_bind, Sem.run_pure, Result.andThen_ok, invoke]
  rw [ykd hb]
  simp
 ·have hfr := hs.eval hg
  generalize hv : a.eval g = v at hfr
  cases hfr with
  | fm vs hl hrc =>
  refine ⟨vs, hl, hrc, ?_⟩
  unfold execOp
  simp only [ho, resolve, Deferred.ofValue, hv, Sem.run_bind, Sem.run_pure, Result.andThen_ok, invoke]
  rw [ykd hb]
  simp
theorem yvt {o : Oper} {g : Operand} {args : List Operand} {ats : Array TypeId} {f : FuncId} {caps xs args0 : List AV} {hm hm' : Nat → Option LObj} {r : AV} {σ : Nat → Nat} {ids : List Nat} {d : Nat} {s s2 : SS}
  (ho : o.op = .call { callee := .value g, args := args.toArray, argTypes := ats }) (hd : o.dst = some d) (hdN : d < N) (hg : zlj (evF s.t g) f caps args) (hx : evL (evF s.t) args = some xs) (hargs : xs ++ caps = args0.map (ygc σ)) (hc : yhb P f args0 hm r hm')
  (hinj : ∀ i ∈ ids, ∀ j ∈ ids, σ i = σ j → i = j) (hdom : ∀ id, (hm id).isSome → id ∈ ids) (hdom' : ∀ id, (hm' id).isSome → id ∈ ids) (hmem : ∀ id o, hm id = some o → s.h (σ id) = some (yzf σ o)) (hr : ygz ids r = true) (hro : ∀ id o, hm' id = some o → ywf ids o = true)
  (ht : ∀ x y, s2.t x = some y → (x = d ∧ y = ygc σ r) ∨ (x ≠ d ∧ ((y = .any ∧ ∃ z, s.t x = some z) ∨ (s.t x = some y ∧ zws σ ids hm' y))))
  (hh1 : ∀ i ∈ ids, s2.h (σ i) = (hm' i).map (yzf σ)) (hh2 : ∀ j ob', (∀ i ∈ ids, σ i ≠ j) → s2.h j = some ob' → (∀ i ∈ ids, ygr (σ i) ob' = false) ∧ ∃ ob, s.h j = some ob ∧ yog ob ob') : yif P N o s (· = s2) := by
 intro B ok0 lv a w hs Q
 have har := ysj (a := a) args xs (fun x y _ hxy => hs.eval hxy) hx
 obtain ⟨vs, hl, hrc, hrun⟩ := callee_run hs ho hc.1 hg
 let lv1 : Live := fun id => if id ∈ ids ∧ (hm id).isSome then lv (σ id) else none
 have hl1 : ∀ id b n, lv1 id = some (b, n) → id ∈ ids ∧ (hm id).isSome ∧ lv (σ id) = some (b, n) := by
  intro id b n hb
  simp only [lv1] at hb
  split at hb
  ·rename_i h; exact ⟨h.1, h.2, hb⟩
  ·cases hb
 have hl2 : ∀ id b n, lv1 id = some (b, n) → lv (σ id) = some (b, n) := fun id b n h => (hl1 id b n h).2.2
 have hmine : ∀ b, ypx lv1 b → B.mine b ∧ b < w.heap.size ∧ ∃ i ∈ ids, ∃ n, lv (σ i) = some (some b, n) := by
  rintro b ⟨id, n, hb⟩
  obtain ⟨h1, h2, h3⟩ := hl1 id _ n hb
  obtain ⟨_, _, h4, h5, _⟩ := hs.inv.lvat h3
  exact ⟨h4, h5, id, h1, n, h3⟩
 have hok1 : ∀ g, ybt B ok0 lv w g → ybt (yga w lv1) (ybt B ok0 lv w) lv1 w g := fun g hg => ⟨.inl hg, hg.2.1, fun id b n hb => hg.2.2 (σ id) b n (hl2 id _ n hb)⟩
 have hinv : Inv (yga w lv1) (ybt B ok0 lv w) hm lv1 w := by
  refine ⟨⟨rfl, rfl, rfl, Nat.le_refl _, fun _ _ _ => rfl, hs.inv.base.glob, hs.inv.base.glob.size, fun k hk => hs.inv.base.mineG (hmine k hk).1, fun l h => by cases h⟩, fun g hg => hg.2.1, fun id hid => by simp [lv1, hid], fun i j b n m h1 h2 => ?_, fun id x hx => ?_⟩
  ·obtain ⟨q1, _, q2⟩ := hl1 _ _ _ h1
   obtain ⟨r1, _, r2⟩ := hl1 _ _ _ h2
   exact hinj i q1 j r1 (hs.inv.inj _ _ b n m q2 r2)
  ·obtain ⟨b, n, h1, h2⟩ := hs.inv.obj (σ id) _ (hmem id x hx)
   have hlv : lv1 id = some (b, n) := by simp [lv1, hdom id (by simp [hx]), hx, h1]
   refine ⟨b, n, hlv, ?_⟩
   cases b with
   | none => exact zgk h2
   | some b => exact ⟨.inl ⟨id, n, hlv⟩, h2.2.1, yhn.unren hl2 hok1 h2.2.2⟩
 have hall : yck (ybt (yga w lv1) (ybt B ok0 lv w) lv1 w) w lv1 args0 (args.map a.eval ++ vs) := by
  have hlen : (args.map a.eval ++ vs).length = args0.length := by
   have := congrArg List.length hargs
   simp only [List.length_append, List.length_map] at this ⊢
   have := har.1
   simp at this
   omega
  refine ⟨hlen, fun i x u hx hu => ?_⟩
  have hxi : (xs ++ caps)[i]? = some (ygc σ x) := by rw [hargs]; simp [hx]
  have hrel : Rel (ybt B ok0 lv w) w lv (ygc σ x) u := by
   by_cases hlt : i < xs.length
   ·rw [List.getElem?_append_left hlt] at hxi
    rw [List.getElem?_append_left (by rw [har.1]; exact hlt)] at hu
    exact har.2 i _ u hxi hu
   ·rw [List.getElem?_append_right (by omega)] at hxi
    rw [List.getElem?_append_right (by rw [har.1]; omega), har.1] at hu
    exact hrc _ _ u hxi hu
  exact (Rel.unren hl2 hrel).keep fun g hg => ⟨hok1 g hg, rfl⟩
 unfold Oper.wp
 rw [hrun]
 refine (hc.2.2 (ybt B ok0 lv w) lv1 w (args.map a.eval ++ vs) hinv hall).mono fun e w' ⟨u, lv3, he, hu, hi3, hpin⟩ => ?_
 subst he
 simp only [hd]
 have hb3 := hi3.base
 -- the blocks that are not lent stay
 have hstay : ∀ k, k < w.heap.size → (∀ i ∈ ids, ∀ n, lv (σ i) ≠ some (some k, n)) → w'.heap[k]? = w.heap[k]? := by
  intro k hk hn
  exact hb3.block k hk fun hlent => by
   obtain ⟨_, _, i, hi, n, hn'⟩ := hmine k hlent
   exact hn i hi n hn'
 have hsz : w.heap.size ≤ w'.heap.size := hb3.size
 have hmine3 : ∀ id b n, lv3 id = some (some b, n) → B.mine b ∧ b < w'.heap.size ∧ (w.heap.size ≤ b ∨ ∃ i ∈ ids, ∃ n, lv (σ i) = some (some b, n)) := by
  intro id b n hb
  obtain ⟨_, _, q1, q2, _⟩ := hi3.lvat hb
  rcases q1 with q1 | q1
  ·have := hmine b q1
   exact ⟨this.1, q2, .inr this.2.2⟩
  ·exact ⟨.inr (Nat.le_trans hs.inv.base.size q1), q2, .inl q1⟩
 have hid3 : ∀ id b n, lv3 id = some (b, n) → id ∈ ids := fun id b n hb => by
  cases hq : hm' id with
  | none => rw [hi3.dom id hq] at hb; cases hb
  | some o => exact hdom' id (by simp [hq])
 let find : Nat → Option Nat := fun j => ids.find? fun i => σ i == j
 have hf1 : ∀ j i, find j = some i → i ∈ ids ∧ σ i = j := fun j i h => ⟨List.mem_of_find?_eq_some h, by simpa using List.find?_some h⟩
 have hf2 : ∀ i ∈ ids, find (σ i) = some i := fun i hi => by
  cases hq : find (σ i) with
  | none =>
   have := List.find?_eq_none.1 hq i hi
   simp at this
  | some k => obtain ⟨h1, h2⟩ := hf1 _ _ hq; rw [hinj k h1 i hi h2]
 have hf3 : ∀ j, find j = none → ∀ i ∈ ids, σ i ≠ j := fun j h i hi e => by
  have := List.find?_eq_none.1 h i hi
  simp [e] at this
 let lv2 : Live := fun j => match find j with
  | some i => lv3 i
  | none => if (s2.h j).isSome then lv j else none
 have hlv2a : ∀ i ∈ ids, lv2 (σ i) = lv3 i := fun i hi => by simp only [lv2, hf2 i hi]
 have hlv2b : ∀ j, (∀ i ∈ ids, σ i ≠ j) → ∀ b n, lv2 j = some (b, n) → lv j = some (b, n) ∧ (s2.h j).isSome := by
  intro j hj b n hb
  have hn : find j = none := by
   cases hq : find j with
   | none => rfl
   | some i => obtain ⟨h1, h2⟩ := hf1 _ _ hq; exact absurd h2 (hj i h1)
  simp only [lv2, hn] at hb
  split at hb
  ·rename_i h; exact ⟨hb, h⟩
  ·cases hb
 have hcase : ∀ j, (∃ i ∈ ids, σ i = j) ∨ ∀ i ∈ ids, σ i ≠ j := fun j => by
  cases hq : find j with
  | none => exact .inr (hf3 j hq)
  | some i => obtain ⟨h1, h2⟩ := hf1 _ _ hq; exact .inl ⟨i, h1, h2⟩
 have hok2 : ∀ g, ybt B ok0 lv w g → ybt B ok0 lv2 w' g ∧ w'.heap[g]? = w.heap[g]? := by
  intro g hg
  refine ⟨⟨hg.1, Nat.lt_of_lt_of_le hg.2.1 hsz, fun j b n hb => ?_⟩, hstay g hg.2.1 fun i _ n hn => hg.2.2 _ _ n hn rfl⟩
  rcases hcase j with ⟨i, hi, rfl⟩ | hj
  ·rw [hlv2a i hi] at hb
   rcases (hmine3 i b n hb).2.2 with h | ⟨i', _, n', h⟩
   ·have := hg.2.1; omega
   ·exact hg.2.2 _ _ n' h
  ·exact hg.2.2 j b n (hlv2b j hj _ n hb).1
 have hok3 : ∀ g, ybt (yga w lv1) (ybt B ok0 lv w) lv3 w' g → ybt B ok0 lv2 w' g := by
  intro g hg
  refine ⟨?_, hg.2.1, fun j b n hb => ?_⟩
  ·rcases hg.1 with h | h | h
   ·exact h.1
   ·exact .inr (hmine g h).1
   ·exact .inr (.inr (Nat.le_trans hs.inv.base.size h))
  ·rcases hcase j with ⟨i, hi, rfl⟩ | hj
   ·rw [hlv2a i hi] at hb
    exact hg.2.2 i b n hb
   ·obtain ⟨hb', _⟩ := hlv2b j hj _ n hb
    have hlt := hs.inv.lvlt hb'
    rintro rfl
    rcases hg.1 with h | h | h
    ·exact h.2.2 j b n hb' rfl
    ·obtain ⟨_, _, i, hi, n', hn'⟩ := hmine b h
     exact hj i hi (hs.inv.inj _ _ b n' n hn' hb')
    ·simp only [yga] at h; omega
 have hren : ∀ id b n, id ∈ ids → lv2 (σ id) = some (b, n) → lv3 id = some (b, n) := fun id b n hi hb => by rwa [hlv2a id hi] at hb
 have hframe : ∀ (y : AV) (z : Value), (∀ i ∈ ids, ment (σ i) y = false) → Rel (ybt B ok0 lv w) w lv y z → Rel (ybt B ok0 lv2 w') w' lv2 y z := by
  intro y z hy hz
  refine (hz.relive fun j b n hb hm => ?_).keep hok2
  rcases hcase j with ⟨i, hi, rfl⟩ | hj
  ·rw [hy i hi] at hm; cases hm
  ·exact (hlv2b j hj b n hb).1
 refine ⟨s2, lv2, rfl, ⟨⟨?_, hs.inv.ok0lt, fun j hj => ?_, fun i j b n m h1 h2 => ?_, fun j x hx => ?_⟩, by simp [Act.put, hs.size], fun x y hy => ?_, hs.defers.same (fun g hg => (hstay g (Array.getElem?_eq_some_iff.1 hg).1 fun i hi n hn => (hs.inv.lvat hn).choose_spec.2.2.2.notDef hg).trans hg), hs.big, fun j b ws hN hj hcj hb => ?_⟩⟩
 ·-- base
  refine ⟨hb3.os.trans hs.inv.base.os, hb3.tape.trans hs.inv.base.tape, hb3.output.trans hs.inv.base.output, Nat.le_trans hs.inv.base.size hsz, fun k hk hnl => ?_, hb3.glob, hs.inv.base.gsize, hs.inv.base.lentG, hs.inv.base.rdok⟩
  refine (hstay k (Nat.lt_of_lt_of_le hk hs.inv.base.size) fun i hi n hn => ?_).trans (hs.inv.base.block k hk hnl)
  obtain ⟨_, _, q1, _, _⟩ := hs.inv.lvat hn
  rcases q1 with q1 | q1
  ·exact hnl q1
  ·omega
 ·-- dom
  rcases hcase j with ⟨i, hi, rfl⟩ | hj'
  ·rw [hlv2a i hi]
   refine hi3.dom i ?_
   rw [hh1 i hi] at hj
   cases hq : hm' i with
   | none => rfl
   | some o => simp [hq] at hj
  ·cases hq : lv2 j with
   | none => rfl
   | some q => obtain ⟨q1, q2⟩ := q; have := (hlv2b j hj' q1 q2 hq).2; simp [hj] at this
 ·-- inj
  rcases hcase i with ⟨i', hi, rfl⟩ | hi <;> rcases hcase j with ⟨j', hj, rfl⟩ | hj
  ·rw [hlv2a i' hi] at h1
   rw [hlv2a j' hj] at h2
   rw [hi3.inj i' j' b n m h1 h2]
  ·rw [hlv2a i' hi] at h1
   have h2' := (hlv2b j hj _ m h2).1
   have := hs.inv.lvlt h2'
   rcases (hmine3 i' b n h1).2.2 with h | ⟨k, hk, n', h⟩
   ·omega
   ·exact absurd (hs.inv.inj _ _ b n' m h h2') (hj k hk)
  ·rw [hlv2a j' hj] at h2
   have h1' := (hlv2b i hi _ n h1).1
   have := hs.inv.lvlt h1'
   rcases (hmine3 j' b m h2).2.2 with h | ⟨k, hk, n', h⟩
   ·omega
   ·exact absurd (hs.inv.inj _ _ b n' n h h1') (hi k hk)
  ·exact hs.inv.inj i j b n m (hlv2b i hi _ n h1).1 (hlv2b j hj _ m h2).1
 ·-- objects
  rcases hcase j with ⟨i, hi, rfl⟩ | hj
  ·rw [hh1 i hi] at hx
   cases hq : hm' i with
   | none => simp [hq] at hx
   | some ob =>
    simp only [hq, Option.map_some, Option.some.injEq] at hx
    subst hx
    obtain ⟨b, n, q1, q2⟩ := hi3.obj i ob hq
    refine ⟨b, n, by rw [hlv2a i hi]; exact q1, ?_⟩
    cases b with
    | none =>
     simp only [yle] at q2 ⊢
     rcases q2 with rfl | ⟨e, rfl⟩
     ·exact .inl rfl
     ·exact .inr ⟨e, rfl⟩
    | some b =>
     exact ⟨(hmine3 i b n q1).1, q2.2.1, yhn.ren hren (hro i ob hq) hok3 q2.2.2⟩
  ·obtain ⟨hm1, ob, hob, hfo⟩ := hh2 j x hj hx
   obtain ⟨b, n, q1, q2⟩ := hs.inv.obj j ob hob
   have hlv2 : lv2 j = some (b, n) := by
    have hn : find j = none := by
     cases hq : find j with
     | none => rfl
     | some i => obtain ⟨h1, h2⟩ := hf1 _ _ hq; exact absurd h2 (hj i h1)
    simp [lv2, hn, hx, q1]
   refine ⟨b, n, hlv2, ?_⟩
   cases b with
   | none =>
    simp only [yle] at q2 ⊢
    rcases hfo with rfl | ⟨_, _, rfl, _⟩ | ⟨_, _, _, rfl, _⟩
    ·exact q2
    ·simp at q2
    ·simp at q2
   | some b =>
    obtain ⟨q3, q4, q5⟩ := q2
    have hbk : w'.heap[b]? = w.heap[b]? := hstay b q4 fun i hi n' hn' => hj i hi (hs.inv.inj _ _ b n' n hn' q1)
    refine ⟨q3, Nat.lt_of_lt_of_le q4 hsz, ?_⟩
    rcases hfo with rfl | ⟨zs, ys, rfl, rfl, hyl, hyz⟩ | ⟨te, zs, ys, rfl, rfl, hyl, hyz⟩
    ·refine (q5.relive (lv' := lv2) fun k b' n' hb' hmk => ?_).keep hok2 hbk
     rcases hcase k with ⟨i, hi, rfl⟩ | hk
     ·rw [hm1 i hi] at hmk; cases hmk
     ·exact (hlv2b k hk b' n' hb').1
    ·obtain ⟨c, e, g1, g2, g3, g4, g5⟩ := q5
     refine ⟨c, e, by rw [hbk]; exact g1, g2, by omega, fun y hy => ?_, fun k y z hy hz => ?_⟩
     ·obtain ⟨k, hk⟩ := List.getElem?_of_mem hy
      obtain ⟨x, hx⟩ : ∃ x, zs[k]? = some x := ⟨_, List.getElem?_eq_getElem (by have := (List.getElem?_eq_some_iff.1 hk).1; omega)⟩
      rcases hyz k x y hx hk with rfl | rfl
      ·exact g4 _ (List.mem_of_getElem? hx)
      ·rfl
     ·obtain ⟨x, hx⟩ : ∃ x, zs[k]? = some x := ⟨_, List.getElem?_eq_getElem (by have := (List.getElem?_eq_some_iff.1 hy).1; omega)⟩
      rcases hyz k x y hx hy with rfl | rfl
      ·refine hframe _ z (fun i hi => ?_) (g5 k _ z hx hz)
       exact ygm hy (hm1 i hi)
      ·exact .one _ ((g5 k x z hx hz).oneCell (g4 x (List.mem_of_getElem? hx)))
    ·obtain ⟨⟨c, e, g1, g2, g3, g4, g5⟩, hsh⟩ := q5
     refine ⟨⟨c, e, by rw [hbk]; exact g1, g2, by omega, fun y hy => ?_, fun k y z hy hz => ?_⟩, by rw [hyl]; exact (yjs hbk).trans hsh⟩
     ·obtain ⟨k, hk⟩ := List.getElem?_of_mem hy
      obtain ⟨x, hx⟩ : ∃ x, zs[k]? = some x := ⟨_, List.getElem?_eq_getElem (by have := (List.getElem?_eq_some_iff.1 hk).1; omega)⟩
      rcases hyz k x y hx hk with rfl | rfl
      ·exact g4 _ (List.mem_of_getElem? hx)
      ·rfl
     ·obtain ⟨x, hx⟩ : ∃ x, zs[k]? = some x := ⟨_, List.getElem?_eq_getElem (by have := (List.getElem?_eq_some_iff.1 hy).1; omega)⟩
      rcases hyz k x y hx hy with rfl | rfl
      ·refine hframe _ z (fun i hi => ?_) (g5 k _ z hx hz)
       exact ygm hy (hm1 i hi)
      ·exact .one _ ((g5 k x z hx hz).oneCell (g4 x (List.mem_of_getElem? hx)))
 ·-- frame
  rcases ht x y hy with ⟨rfl, rfl⟩ | ⟨hxd, hxy⟩
  ·have hbig := hs.big
   refine ⟨.inl hdN, ?_⟩
   rw [yfi, if_pos (Nat.lt_of_lt_of_le hdN hbig)]
   simp only [Act.put]
   rw [show (a.tmps.setIfInBounds x u).getD x undef = u by simp [Array.getD, hs.size, hdN]]
   exact (Rel.ren hren hr hu).keep fun g hg => ⟨hok3 g hg, rfl⟩
  ·have hval : yfi B (a.put (some d) u) x = yfi B a x := by
    unfold yfi
    split
    ·simp only [Act.put, Array.getD_eq_getD_getElem?, Array.getElem?_setIfInBounds]
     rw [if_neg (by omega)]
    ·rfl
   rw [hval]
   rcases hxy with ⟨rfl, z, hz⟩ | ⟨hz, hk⟩
   ·exact ⟨(hs.frame x z hz).1, .any _⟩
   ·refine ⟨(hs.frame x y hz).1, ?_⟩
    have hold := (hs.frame x y hz).2
    rcases hk with hk | ⟨i, hi, off, o', hye, hci, hcc⟩
    ·exact hframe y _ hk hold
    ·have hlp : ∀ z : Value, Rel (ybt B ok0 lv w) w lv (.lp (σ i) off) z → Rel (ybt B ok0 lv2 w') w' lv2 (.lp (σ i) off) z := fun z hz => by
      cases hz with
      | lp _ h1 h2 =>
       refine .lp _ h1 fun b n hb => ?_
       rw [hlv2a i hi] at hb
       obtain ⟨b', n', n'', p1, p2⟩ := hpin i o' hci hcc
       rw [hb] at p2
       cases p2
       exact h2 b n' (hl2 i _ n' p1)
     rcases hye with rfl | ⟨f', rfl⟩
     ·exact hlp _ hold
     ·generalize yfi B a x = z at hold
      cases hold with
      | fm vs hvl hvr =>
       refine .fm vs hvl fun k c u h1 h2 => ?_
       have h3 := hvr k c u h1 h2
       match k, h1 with
       | 0, h1 =>
        simp only [List.getElem?_cons_zero, Option.some.injEq] at h1
        subst h1
        exact hlp _ h3
       | k + 1, h1 => simp at h1
 ·-- pins
  rcases hcase j with ⟨i, hi, rfl⟩ | hj'
  ·rw [hh1 i hi] at hj
   cases hq : hm' i with
   | none => simp [hq] at hj
   | some ob =>
    simp only [hq, Option.map_some, Option.some.injEq] at hj
    subst hj
    rw [yzg] at hcj
    obtain ⟨b', n', n'', p1, p2⟩ := hpin i ob hq hcj
    obtain ⟨zs, hz, hzc⟩ := hc.2.1 i ob hq hcj
    obtain ⟨n, hn⟩ := hs.pin (σ i) b _ hN (hmem i _ hz) (by rw [yzg]; exact hzc) hb
    rw [hl2 i _ n' p1] at hn
    cases hn
    exact ⟨n'', by rw [hlv2a i hi]; exact p2⟩
  ·obtain ⟨_, ob, hys, hfo⟩ := hh2 j _ hj' hj
   have hcc : isC ob = true := by
    rcases hfo with rfl | ⟨xs', ys', rfl, _, _⟩ | ⟨e, xs', ys', rfl, _, _⟩
    ·exact hcj
    ·rfl
    ·rfl
   obtain ⟨n, hn⟩ := hs.pin j b ob hN hys hcc hb
   obtain ⟨b2, n2, q1, _⟩ := hs.inv.obj j _ hys
   rw [hn] at q1
   cases q1
   have hn' : find j = none := by
    cases hq : find j with
    | none => rfl
    | some i => obtain ⟨h1, h2⟩ := hf1 _ _ hq; exact absurd h2 (hj' i h1)
   exact ⟨n, by simp [lv2, hn', hj, hn]⟩
end
def yey : List (Nat × Nat) → Nat → Nat
 | [], i => i
 | (k, j) :: sg, i => match Nat.beq i k with
  | true => j
  | false => yey sg i
def ybv : List (Nat × Nat) → List Nat
 | [] => []
 | (k, _) :: sg => k :: ybv sg
def ycv : List (Nat × Nat) → List Nat
 | [] => []
 | (_, j) :: sg => j :: ycv sg
def zmx (i : Nat) : List Nat → Bool
 | [] => false
 | k :: l => match Nat.beq i k with
  | true => true
  | false => zmx i l
def yfv : List Nat → Bool
 | [] => true
 | k :: l => match zmx k l with
  | true => false
  | false => yfv l
theorem yol {i : Nat} : ∀ {l : List Nat}, zmx i l = true ↔ i ∈ l
 | [] => by simp [zmx]
 | k :: l => by
  simp only [zmx, List.mem_cons]
  cases h : Nat.beq i k with
  | true => simp [Nat.eq_of_beq_eq_true h]
  | false =>
   have : i ≠ k := fun e => by subst e; simp at h
   simp [this, yol (l := l)]
theorem yls {sg : List (Nat × Nat)} {i : Nat} (h : i ∈ ybv sg) : yey sg i ∈ ycv sg := by
 induction sg with
 | nil => simp [ybv] at h
 | cons q sg ih =>
  obtain ⟨k, j⟩ := q
  simp only [yey, ycv]
  cases hb : Nat.beq i k with
  | true => simp
  | false =>
   have hne : i ≠ k := fun e => by subst e; simp at hb
   simp only [ybv, List.mem_cons, hne, false_or] at h
   simp [ih h]
theorem yvc {sg : List (Nat × Nat)} (h : yfv (ycv sg) = true) : ∀ i ∈ ybv sg, ∀ j ∈ ybv sg, yey sg i = yey sg j → i = j := by
 induction sg with
 | nil => intro i hi; simp [ybv] at hi
 | cons q sg ih =>
  obtain ⟨k, v⟩ := q
  simp only [ycv, yfv] at h
  cases hv : zmx v (ycv sg) with
  | true => simp [hv] at h
  | false =>
   simp only [hv] at h
   have hnv : v ∉ ycv sg := fun hm => by rw [yol.2 hm] at hv; cases hv
   intro i hi j hj he
   simp only [yey] at he
   cases hik : Nat.beq i k <;> cases hjk : Nat.beq j k <;> simp only [hik, hjk] at he
   ·have h1 : i ≠ k := fun e => by subst e; simp at hik
    have h2 : j ≠ k := fun e => by subst e; simp at hjk
    simp only [ybv, List.mem_cons, h1, h2, false_or] at hi hj
    exact ih h i hi j hj he
   ·have h1 : i ≠ k := fun e => by subst e; simp at hik
    simp only [ybv, List.mem_cons, h1, false_or] at hi
    exact absurd (he ▸ yls hi) hnv
   ·have h2 : j ≠ k := fun e => by subst e; simp at hjk
    simp only [ybv, List.mem_cons, h2, false_or] at hj
    exact absurd (he ▸ yls hj) hnv
   ·rw [Nat.eq_of_beq_eq_true hik, Nat.eq_of_beq_eq_true hjk]
theorem ywt {sg : List (Nat × Nat)} {j : Nat} (h : j ∈ ycv sg) (hk : yfv (ybv sg) = true) : ∃ i ∈ ybv sg, yey sg i = j := by
 induction sg with
 | nil => simp [ycv] at h
 | cons q sg ih =>
  obtain ⟨k, v⟩ := q
  simp only [ybv, yfv] at hk
  cases hm : zmx k (ybv sg) with
  | true => simp [hm] at hk
  | false =>
   simp only [hm] at hk
   simp only [ycv, List.mem_cons] at h
   rcases h with rfl | h
   ·exact ⟨k, by simp [ybv], by simp [yey]⟩
   ·obtain ⟨i, hi, he⟩ := ih h hk
    refine ⟨i, by simp [ybv, hi], ?_⟩
    have : i ≠ k := fun e => by subst e; rw [yol.2 hi] at hm; cases hm
    simp only [yey, ygk this]
    exact he
def ytv (ids : List Nat) : List (Nat × Option LObj) → Bool
 | [] => true
 | (k, _) :: h => zmx k ids && ytv ids h
theorem yhy {ids : List Nat} : ∀ {h : List (Nat × Option LObj)}, ytv ids h = true → ∀ id, (yaf h id).isSome → id ∈ ids
 | [], _, id, hs => by simp [yaf] at hs
 | (k, o) :: h, hd, id, hs => by
  simp only [ytv, Bool.and_eq_true] at hd
  simp only [yaf] at hs
  cases hb : Nat.beq id k with
  | true => rw [Nat.eq_of_beq_eq_true hb]; exact yol.1 hd.1
  | false => simp only [hb] at hs; exact yhy hd.2 id hs
def zot (sg : List (Nat × Nat)) : List (Nat × Option LObj) → List (Nat × Option LObj)
 | [] => []
 | (k, some o) :: h => (yey sg k, some (yzf (yey sg) o)) :: zot sg h
 | (k, none) :: h => (yey sg k, none) :: zot sg h
theorem yrd {sg : List (Nat × Nat)} {h : List (Nat × Option LObj)} : ∀ {hs : List (Nat × Option LObj)}, zdd h (zot sg hs) → ∀ id o, yaf hs id = some o → yaf h (yey sg id) = some (yzf (yey sg) o)
 | [], _, id, o, hl => by simp [yaf] at hl
 | (k, x) :: hs, hsub, id, o, hl => by
  simp only [yaf] at hl
  cases hb : Nat.beq id k with
  | true =>
   simp only [hb] at hl
   subst hl
   rw [Nat.eq_of_beq_eq_true hb]
   simp only [zot, zdd] at hsub
   exact hsub.1 _ rfl
  | false =>
   simp only [hb] at hl
   cases x with
   | none => simp only [zot, zdd] at hsub; exact yrd hsub.2 id o hl
   | some x => simp only [zot, zdd] at hsub; exact yrd hsub.2 id o hl
def ymo (ids : List Nat) : List (Nat × Option LObj) → Bool
 | [] => true
 | (_, some o) :: h => ywf ids o && ymo ids h
 | (_, none) :: h => ymo ids h
theorem ylp {ids : List Nat} : ∀ {h : List (Nat × Option LObj)}, ymo ids h = true → ∀ id o, yaf h id = some o → ywf ids o = true
 | [], _, id, o, hl => by simp [yaf] at hl
 | (k, x) :: h, ho, id, o, hl => by
  simp only [yaf] at hl
  cases hb : Nat.beq id k with
  | true =>
   simp only [hb] at hl
   subst hl
   simp only [ymo, Bool.and_eq_true] at ho
   exact ho.1
  | false =>
   simp only [hb] at hl
   cases x with
   | none => exact ylp (by simpa [ymo] using ho) id o hl
   | some x => simp only [ymo, Bool.and_eq_true] at ho; exact ylp ho.2 id o hl
def ylz (sg : List (Nat × Nat)) (hs' : List (Nat × Option LObj)) : List (Nat × Nat) → List (Nat × Option LObj)
 | [] => []
 | (k, j) :: r => (j, match yaf hs' k with
  | some o => some (yzf (yey sg) o)
  | none => none) :: ylz sg hs' r
theorem yyq {sg : List (Nat × Nat)} {hs' h : List (Nat × Option LObj)} : ∀ {l : List (Nat × Nat)}, yfv (ybv l) = true → yfv (ycv l) = true → ∀ i ∈ ybv l, yaf (ylz sg hs' l ++ h) (yey l i) = (yaf hs' i).map (yzf (yey sg))
 | [], _, _, i, hi => by simp [ybv] at hi
 | (k, j) :: l, h1, h2, i, hi => by
  simp only [ybv, yfv] at h1
  cases hm : zmx k (ybv l) with
  | true => simp [hm] at h1
  | false =>
  simp only [hm] at h1
  simp only [ycv, yfv] at h2
  cases hm2 : zmx j (ycv l) with
  | true => simp [hm2] at h2
  | false =>
  simp only [hm2] at h2
  simp only [yey]
  cases hb : Nat.beq i k with
  | true =>
   have e := Nat.eq_of_beq_eq_true hb
   subst e
   simp only [ylz, List.cons_append, yaf, Nat.beq_refl]
   cases yaf hs' i <;> rfl
  | false =>
   have hne : i ≠ k := fun e => by subst e; simp at hb
   simp only [ybv, List.mem_cons, hne, false_or] at hi
   have hv := yls hi
   have hnj : yey l i ≠ j := fun e => by rw [e] at hv; rw [yol.2 hv] at hm2; cases hm2
   simp only [ylz, List.cons_append, yaf, ygk hnj]
   exact yyq h1 h2 i hi
theorem yoi {sg : List (Nat × Nat)} {hs' h : List (Nat × Option LObj)} : ∀ {l : List (Nat × Nat)} {j : Nat}, j ∉ ycv l → yaf (ylz sg hs' l ++ h) j = yaf h j
 | [], j, _ => rfl
 | (k, v) :: l, j, hj => by
  simp only [ycv, List.mem_cons, not_or] at hj
  simp only [ylz, List.cons_append, yaf, ygk hj.1]
  exact yoi hj.2
def yim : List Nat → List (Nat × Option LObj) → Option (List (Nat × Option LObj))
 | [], h => some h
 | i :: l, h => match zft i h with
  | some h' => yim l h'
  | none => none
theorem yog.trans {a b c : LObj} (h1 : yog a b) (h2 : yog b c) : yog a c := by
 rcases h1 with rfl | ⟨xs, ys, rfl, rfl, hl, hxy⟩ | ⟨te, xs, ys, rfl, rfl, hl, hxy⟩
 ·exact h2
 ·rcases h2 with rfl | ⟨xs', zs, e, rfl, hl', hyz⟩ | ⟨_, _, _, e, _⟩
  ·exact .inr (.inl ⟨xs, ys, rfl, rfl, hl, hxy⟩)
  ·cases e
   refine .inr (.inl ⟨xs, zs, rfl, rfl, by omega, fun j x z hx hz => ?_⟩)
   obtain ⟨y, hy⟩ : ∃ y, ys[j]? = some y := ⟨_, List.getElem?_eq_getElem (by have := (List.getElem?_eq_some_iff.1 hx).1; omega)⟩
   rcases hyz j y z hy hz with rfl | rfl
   ·exact hxy j x _ hx hy
   ·exact .inr rfl
  ·cases e
 ·rcases h2 with rfl | ⟨_, _, e, _⟩ | ⟨te', xs', zs, e, rfl, hl', hyz⟩
  ·exact .inr (.inr ⟨te, xs, ys, rfl, rfl, hl, hxy⟩)
  ·cases e
  ·cases e
   refine .inr (.inr ⟨te, xs, zs, rfl, rfl, by omega, fun j x z hx hz => ?_⟩)
   obtain ⟨y, hy⟩ : ∃ y, ys[j]? = some y := ⟨_, List.getElem?_eq_getElem (by have := (List.getElem?_eq_some_iff.1 hx).1; omega)⟩
   rcases hyz j y z hy hz with rfl | rfl
   ·exact hxy j x _ hx hy
   ·exact .inr rfl
theorem zmy {i : Nat} : ∀ {zs : List AV}, ment.mentL i zs = true → ∃ (j : Nat) (z : AV), zs[j]? = some z ∧ ment i z = true
 | [], h => by simp [ment.mentL] at h
 | z :: zs, h => by
  simp only [ment.mentL, Bool.or_eq_true] at h
  rcases h with h | h
  ·exact ⟨0, z, rfl, h⟩
  ·obtain ⟨j, y, h1, h2⟩ := zmy h
   exact ⟨j + 1, y, by simpa using h1, h2⟩
theorem zdx {i : Nat} {xs ys : List AV} (hl : ys.length = xs.length) (hxy : ∀ (j : Nat) (x y : AV), xs[j]? = some x → ys[j]? = some y → y = x ∨ y = .one) (hm : ment.mentL i xs = false) : ment.mentL i ys = false := by
 cases hq : ment.mentL i ys with
 | false => rfl
 | true =>
  exfalso
  obtain ⟨j, y, hy, hmy⟩ := zmy hq
  obtain ⟨x, hx⟩ : ∃ x, xs[j]? = some x := ⟨_, List.getElem?_eq_getElem (by have := (List.getElem?_eq_some_iff.1 hy).1; omega)⟩
  rcases hxy j x y hx hy with rfl | rfl
  ·rw [ygm hx hm] at hmy; cases hmy
  ·simp [ment] at hmy
theorem forgO_ment {a b : LObj} {i : Nat} (h : yog a b) (hm : ygr i a = false) : ygr i b = false := by
 rcases h with rfl | ⟨xs, ys, rfl, rfl, hl, hxy⟩ | ⟨te, xs, ys, rfl, rfl, hl, hxy⟩
 ·exact hm
 ·exact zdx hl hxy hm
 ·exact zdx hl hxy hm
theorem ysp : ∀ {l : List Nat} {h h' : List (Nat × Option LObj)}, yim l h = some h' → ∀ j ob', yaf h' j = some ob' → (∀ i ∈ l, ygr i ob' = false) ∧ ∃ ob, yaf h j = some ob ∧ yog ob ob'
 | [], h, h', he, j, ob', hj => by simp only [yim, Option.some.injEq] at he; subst he; exact ⟨by simp, ob', hj, .inl rfl⟩
 | i :: l, h, h', he, j, ob', hj => by
  simp only [yim] at he
  split at he
  ·rename_i h1 hh
   obtain ⟨g1, ob1, g2, g3⟩ := ysp he j ob' hj
   obtain ⟨g4, ob, g5, g6⟩ := ykv hh j ob1 g2
   refine ⟨fun k hk => ?_, ob, g5, g6.trans g3⟩
   rcases List.mem_cons.1 hk with rfl | hk
   ·exact forgO_ment g3 g4
   ·exact g1 k hk
  ·cases he
def ysv (l : List Nat) (y : AV) : Bool := match l with
 | [] => false
 | i :: l => match ment i y with
  | true => true
  | false => ysv l y
theorem yxu : ∀ {l : List Nat} {y : AV}, ysv l y = false → ∀ i ∈ l, ment i y = false
 | [], y, _, i, hi => by simp at hi
 | k :: l, y, h, i, hi => by
  simp only [ysv] at h
  cases hk : ment k y with
  | true => simp [hk] at h
  | false =>
   simp only [hk] at h
   rcases List.mem_cons.1 hi with rfl | hi
   ·exact hk
   ·exact yxu h i hi
def zfw : Option LObj → Bool
 | some o => isC o
 | none => false
def yxo (hs' : List (Nat × Option LObj)) (j : Nat) : List (Nat × Nat) → Bool
 | [] => false
 | (k, v) :: l => match Nat.beq v j with
  | true => zfw (yaf hs' k)
  | false => yxo hs' j l
theorem ysm {hs' : List (Nat × Option LObj)} {j : Nat} : ∀ {l : List (Nat × Nat)}, yfv (ybv l) = true → yxo hs' j l = true → ∃ i ∈ ybv l, yey l i = j ∧ ∃ o, yaf hs' i = some o ∧ isC o = true
 | [], _, h => by simp [yxo] at h
 | (k, v) :: l, hn, h => by
  simp only [ybv, yfv] at hn
  cases hm : zmx k (ybv l) with
  | true => simp [hm] at hn
  | false =>
  simp only [hm] at hn
  simp only [yxo] at h
  cases hb : Nat.beq v j with
  | true =>
   simp only [hb] at h
   refine ⟨k, by simp [ybv], by simp [yey, Nat.eq_of_beq_eq_true hb], ?_⟩
   cases hq : yaf hs' k with
   | none => simp [hq, zfw] at h
   | some o => exact ⟨o, rfl, by simpa [hq, zfw] using h⟩
  | false =>
   simp only [hb] at h
   obtain ⟨i, h1, h2, h3⟩ := ysm hn h
   refine ⟨i, by simp [ybv, h1], ?_, h3⟩
   have : i ≠ k := fun e => by subst e; rw [yol.2 h1] at hm; cases hm
   simp only [yey, ygk this]
   exact h2
def zfx (sg : List (Nat × Nat)) (hs' : List (Nat × Option LObj)) (y : AV) : Bool := match ysv (ycv sg) y with
 | false => true
 | true => match y with
  | .lp j _ => yxo hs' j sg
  | .fm _ [.lp j _] => yxo hs' j sg
  | _ => false
def yhd (sg : List (Nat × Nat)) (hs' : List (Nat × Option LObj)) : List (Nat × AV) → List (Nat × AV)
 | [] => []
 | (s, x) :: t => match zfx sg hs' x with
  | true => (s, x) :: yhd sg hs' t
  | false => (s, .any) :: yhd sg hs' t
theorem ywc {sg : List (Nat × Nat)} {hs' : List (Nat × Option LObj)} {y : AV} (hn : yfv (ybv sg) = true) (h : zfx sg hs' y = true) : zws (yey sg) (ybv sg) (yaf hs') y := by
 unfold zfx at h
 cases hm : ysv (ycv sg) y with
 | false => exact .inl fun i hi => yxu hm _ (yls hi)
 | true =>
  simp only [hm] at h
  split at h
  ·rename_i j off
   obtain ⟨i, h1, h2, o, h3, h4⟩ := ysm hn h
   exact .inr ⟨i, h1, off, o, .inl (by rw [h2]), h3, h4⟩
  ·rename_i f j off
   obtain ⟨i, h1, h2, o, h3, h4⟩ := ysm hn h
   exact .inr ⟨i, h1, off, o, .inr ⟨f, by rw [h2]⟩, h3, h4⟩
  ·cases h
theorem yjd {sg : List (Nat × Nat)} {hs' : List (Nat × Option LObj)} : ∀ {t : List (Nat × AV)} {x : Nat} {y : AV}, look (yhd sg hs' t) x = some y → (y = .any ∧ ∃ z, look t x = some z) ∨ (look t x = some y ∧ zfx sg hs' y = true)
 | [], x, y, h => by simp [yhd, look] at h
 | (s, z) :: t, x, y, h => by
  simp only [yhd] at h
  cases hk : zfx sg hs' z with
  | true =>
   simp only [hk, look] at h ⊢
   cases hb : Nat.beq x s with
   | true => simp only [hb, Option.some.injEq] at h ⊢; subst h; exact .inr ⟨rfl, hk⟩
   | false => simp only [hb] at h ⊢; exact yjd h
  | false =>
   simp only [hk, look] at h ⊢
   cases hb : Nat.beq x s with
   | true => simp only [hb, Option.some.injEq] at h ⊢; subst h; exact .inl ⟨rfl, z, rfl⟩
   | false => simp only [hb] at h ⊢; exact yjd h
section
variable {P : Program} {T : Nat → Option Ty} {N : Nat} {ops : Array Oper} {lf : Oper → Bool} {Q : SS → Prop} {t : List (Nat × AV)} {h : List (Nat × Option LObj)} {rest : List Oper} {d : Nat} {ty : TypeId} {pos : String} {af : Array Edge} {gd : Option (Nat × Bool)} {r : AV}
def ynj (l : List Nat) : List (Nat × Option LObj) → List (Nat × Option LObj)
 | [] => []
 | (k, o) :: h => match zmx k l with
  | true => ynj l h
  | false => (k, o) :: ynj l h
theorem yyu {l : List Nat} {j : Nat} (hj : j ∉ l) : ∀ h : List (Nat × Option LObj), yaf (ynj l h) j = yaf h j
 | [] => rfl
 | (k, o) :: h => by
  simp only [ynj]
  cases hm : zmx k l with
  | true =>
   have hk : Nat.beq j k = false := ygk fun e => hj (e ▸ yol.1 hm)
   simp only [yaf, hk]
   exact yyu hj h
  | false =>
   simp only [yaf]
   cases Nat.beq j k with
   | true => rfl
   | false => exact yyu hj h
theorem zln (sg : List (Nat × Nat)) {g : Operand} {args : List Operand} {ats : Array TypeId} {f : FuncId} {caps xs args0 : List AV} {hs hs' h' : List (Nat × Option LObj)} (hc : yhb P f args0 (yaf hs) r (yaf hs')) (hg : zlj (evF (look t) g) f caps args) (hx : evL (evF (look t)) args = some xs) (hargs : xs ++ caps = args0.map (ygc (yey sg)))
  (hk : yfv (ybv sg) = true) (hv : yfv (ycv sg) = true) (hd1 : ytv (ybv sg) hs = true) (hd2 : ytv (ybv sg) hs' = true) (hsub : zdd h (zot sg hs)) (hr : ygz (ybv sg) r = true) (ho : ymo (ybv sg) hs' = true) (hh : yim (ycv sg) (ynj (ycv sg) h) = some h')
  (hl : lf ⟨some d, .call { callee := .value g, args := args.toArray, argTypes := ats }, ty, pos, af, gd⟩ = true) (hw : yan ops (look t) ⟨some d, .call { callee := .value g, args := args.toArray, argTypes := ats }, ty, pos, af, gd⟩ = some true) (hd : Nat.blt d N = true)
  (k : Lex P N ops lf Q rest (S ((d, ygc (yey sg) r) :: yhd sg hs' t) (ylz sg hs' sg ++ h'))) : Lex P N ops lf Q (⟨some d, .call { callee := .value g, args := args.toArray, argTypes := ats }, ty, pos, af, gd⟩ :: rest) (S t h) := by
 refine ykn hl hw ?_ k
 refine yvt (σ := yey sg) (ids := ybv sg) rfl rfl (by simpa using hd) hg hx hargs hc (yvc hv) (yhy hd1) (yhy hd2) (yrd hsub) hr (ylp ho) (fun x y hy => ?_) (fun i hi => yyq hk hv i hi) (fun j ob' hj hob => ?_)
 ·simp only [S, look] at hy
  cases hb : Nat.beq x d with
  | true => simp only [hb, Option.some.injEq] at hy; exact .inl ⟨Nat.eq_of_beq_eq_true hb, hy.symm⟩
  | false =>
   simp only [hb] at hy
   refine .inr ⟨fun e => by subst e; simp at hb, ?_⟩
   rcases yjd hy with hq | ⟨h1, h2⟩
   ·exact .inl hq
   ·exact .inr ⟨h1, ywc hk h2⟩
 ·have hjv : j ∉ ycv sg := fun hm => by
   obtain ⟨i, h1, h2⟩ := ywt hm hk
   exact hj i h1 h2
  simp only [S, yoi hjv] at hob
  obtain ⟨h1, h2⟩ := ysp hh j ob' hob
  rw [yyu hjv] at h2
  exact ⟨fun i hi => h1 _ (yls hi), h2⟩
theorem yek (sg : List (Nat × Nat)) {g : Operand} {args : List Operand} {ats : Array TypeId} {f : FuncId} {caps xs args0 : List AV} {hs hs' h' : List (Nat × Option LObj)} (hc : yhb P f args0 (yaf hs) r (yaf hs')) (hg : evF (look t) g = some (.fn f caps)) (hx : evL (evF (look t)) args = some xs) (hargs : xs ++ caps = args0.map (ygc (yey sg)))
  (hk : yfv (ybv sg) = true) (hv : yfv (ycv sg) = true) (hd1 : ytv (ybv sg) hs = true) (hd2 : ytv (ybv sg) hs' = true) (hsub : zdd h (zot sg hs)) (hr : ygz (ybv sg) r = true) (ho : ymo (ybv sg) hs' = true) (hh : yim (ycv sg) (ynj (ycv sg) h) = some h')
  (hl : lf ⟨some d, .call { callee := .value g, args := args.toArray, argTypes := ats }, ty, pos, af, gd⟩ = true) (hw : yan ops (look t) ⟨some d, .call { callee := .value g, args := args.toArray, argTypes := ats }, ty, pos, af, gd⟩ = some true) (hd : Nat.blt d N = true)
  (k : Lex P N ops lf Q rest (S ((d, ygc (yey sg) r) :: yhd sg hs' t) (ylz sg hs' sg ++ h'))) : Lex P N ops lf Q (⟨some d, .call { callee := .value g, args := args.toArray, argTypes := ats }, ty, pos, af, gd⟩ :: rest) (S t h) :=
 zln sg hc (.inl hg) hx hargs hk hv hd1 hd2 hsub hr ho hh hl hw hd k
theorem zlo (sg : List (Nat × Nat)) {g : Operand} {ats : Array TypeId} {f : FuncId} {caps args0 : List AV} {hs hs' h' : List (Nat × Option LObj)} (hc : yhb P f args0 (yaf hs) r (yaf hs')) (hg : evF (look t) g = some (.fm f caps)) (hargs : caps = args0.map (ygc (yey sg)))
  (hk : yfv (ybv sg) = true) (hv : yfv (ycv sg) = true) (hd1 : ytv (ybv sg) hs = true) (hd2 : ytv (ybv sg) hs' = true) (hsub : zdd h (zot sg hs)) (hr : ygz (ybv sg) r = true) (ho : ymo (ybv sg) hs' = true) (hh : yim (ycv sg) (ynj (ycv sg) h) = some h')
  (hl : lf ⟨some d, .call { callee := .value g, args := #[], argTypes := ats }, ty, pos, af, gd⟩ = true) (hw : yan ops (look t) ⟨some d, .call { callee := .value g, args := #[], argTypes := ats }, ty, pos, af, gd⟩ = some true) (hd : Nat.blt d N = true)
  (k : Lex P N ops lf Q rest (S ((d, ygc (yey sg) r) :: yhd sg hs' t) (ylz sg hs' sg ++ h'))) : Lex P N ops lf Q (⟨some d, .call { callee := .value g, args := #[], argTypes := ats }, ty, pos, af, gd⟩ :: rest) (S t h) :=
 zln sg (args := []) (xs := []) hc (.inr ⟨hg, rfl⟩) rfl hargs hk hv hd1 hd2 hsub hr ho hh hl hw hd k
end
end
section
open Go.RowKit
def yds (l : List UInt8) : List AV := l.map fun b => .v (.int .u8 b.toNat)
theorem yvs (a b : List UInt8) : yds (a ++ b) = yds a ++ yds b := by simp [yds]
theorem yqs (l : List UInt8) : (yds l).length = l.length := by simp [yds]
theorem bytesA_pure (l : List UInt8) : ∀ c ∈ yds l, ybc c = true := by
 intro c hc; obtain ⟨b, _, rfl⟩ := List.mem_map.1 hc; rfl
theorem bytesA_cell (l : List UInt8) : ∀ c ∈ yds l, yfh c = true := by
 intro c hc; obtain ⟨b, _, rfl⟩ := List.mem_map.1 hc; rfl
theorem bytesA_rel {ok : Nat → Prop} {w : World} {lv : Live} (l : List UInt8) : yck ok w lv (yds l) (l.map fun b => Value.int .u8 b.toNat) := by
 refine ⟨by simp [yds], fun i x u hx hu => ?_⟩
 simp only [yds, List.getElem?_map, Option.map_eq_some_iff] at hx hu
 obtain ⟨a, ha, rfl⟩ := hx
 obtain ⟨b, hb, rfl⟩ := hu
 rw [ha] at hb; cases hb
 exact .v _
theorem zch {w : World} {c : Array Value} {e : TypeId} : (w.alloc (.cells c e)).shape? w.heap.size = some (e, c.size) := by
 have h : (w.alloc (.cells c e)).heap[w.heap.size]? = some (.cells c e) := by show (w.heap.push _)[w.heap.size]? = _; simp
 simp only [World.shape?, h]
theorem zbp {B : Bse} {ok : Nat → Prop} {lv : Live} {w : World} {n : Nat} {e : TypeId} {xs : List AV} (h : yle B ok lv w n (.tvec e xs) none) : xs = [] := by
 rcases h with h | ⟨e', h⟩
 ·cases h
 ·cases h; rfl
section
variable {P : Program} {T : Nat → Option Ty} {N : Nat} {ty : TypeId}
theorem appendS_world {B : Bse} {ok0 : Nat → Prop} {s : SS} {lv : Live} {a : Act} {w : World} (hs : Sim B ok0 N s lv a w) {ti tj e es eb : Nat} {ea : Bool} {ez : List Value} (hk : ygh P ti (.slc e es ea eb ez)) (hes : es = 1) (hj0 : ygh P tj .string) {id len m : Nat} {xs cs : List AV} {v : Value} {s0 : ByteArray} {news : List Value} (hmv : m = s0.size) (hcv : cs = yds s0.data.toList) (hnv : news = Lib.strCells s0) (hid : s.h id = some (.tvec e xs)) (hxl : xs.length = len * es)
  (hv : Rel (ybt B ok0 lv w) w lv (.ls id es len) v) (hlim : len + m ≤ 4294967296 ∧ (len + m) * eb ≤ 140737488355328)
  {s' : SS} (ht : ∀ x y, s'.t x = some y → y = .any ∨ (s.t x = some y ∧ ment id y = false)) (hlt : ∀ x y, s'.t x = some y → ∃ z, s.t x = some z) (hh : ∀ j ob', j ≠ id → s'.h j = some ob' → ygr id ob' = false ∧ ∃ ob, s.h j = some ob ∧ yog ob ob') (hid' : s'.h id = some (.tvec e (xs ++ cs))) :
  ∃ v' w' lv', (Builtin.append_ #[ti, tj] ty #[v, .string s0]).run P w = .ok v' w' ∧ Sim B ok0 N s' lv' a w' ∧ Rel (ybt B ok0 lv' w') w' lv' (.ls id es (len + m)) v' := by
 have hcc : ∀ c ∈ cs, yfh c = true := by rw [hcv]; exact bytesA_cell _
 have hcp : ∀ c ∈ cs, ybc c = true := by rw [hcv]; exact bytesA_pure _
 have hnl : news.length = m * es := by rw [hnv, Lib.strCells_length, hmv, hes, Nat.mul_one]
 have hnr : yck (ybt B ok0 lv w) w (fun _ => none) cs news := by rw [hcv, hnv]; exact bytesA_rel _
 obtain ⟨hu, hsz, hby, hz, hzl, hpos⟩ := hk
 obtain ⟨i, hi, hisz, hiby, zv, hiz, hizc⟩ : ∃ i, P.info? e = some i ∧ i.size = es ∧ i.bytes = eb ∧ ∃ zv, i.zero = some zv ∧ zv.cells = ez.toArray := by
  cases hi : P.info? e with
  | none => simp [hi] at hby
  | some i =>
   have h1 := hsz.1
   unfold ytn at hz
   simp only [hi, Option.map_some, Option.some.injEq] at hby h1 hz
   cases hzz : i.zero with
   | none => simp [hzz] at hz
   | some zv => simp only [hzz, Option.map_some, Option.some.injEq] at hz; exact ⟨i, rfl, h1, hby, zv, hzz, hz⟩
 have hcl : cs.length = m * es := by rw [← hnr.1, hnl]
 -- the state with the block written in place, or the same, forgets
 have forget : ∀ (w' : World) (lv1 : Live), Sim B ok0 N ⟨s.t, ydf s.h id (some (.tvec e (xs ++ cs)))⟩ lv1 a w' → ∃ lv', Sim B ok0 N s' lv' a w' ∧ lv' id = lv1 id := by
  intro w' lv1 h1
  obtain ⟨lv', g1, g2, g3, g4⟩ := h1.forg (s' := s') (fun x y hy => (ht x y hy).imp (fun h => h) And.left) hlt (fun j ob' hj => by
   by_cases hji : j = id
   ·subst hji
    rw [hid'] at hj
    cases hj
    exact ⟨.tvec e (xs ++ cs), by simp [ydf], .inl rfl⟩
   ·obtain ⟨_, ob, q1, q2⟩ := hh j ob' hji hj
    exact ⟨ob, by simp [ydf, hji, q1], q2⟩)
  exact ⟨lv', g1, g3 id (by simp [hid'])⟩
 obtain ⟨bo, n, hl, hown⟩ := hs.inv.obj id _ hid
 cases hv with
 | ls _ hone hls =>
  have hlsv := hls bo n hl
  have grown : ∀ (old : Nat) (olds : List Value), yck (ybt B ok0 lv w) w lv xs olds → old < len + m →
    let cap := grownCap w (len + m) old e
    let w' := w.drew.alloc (.cells (olds.toArray ++ news.toArray ++ Builtin.zeroCells zv.cells (cap - (len + m))) e)
    ∃ lv', Sim B ok0 N s' lv' a w' ∧ Rel (ybt B ok0 lv' w') w' lv' (.ls id es (len + m)) (.slice (some ⟨w.heap.size, 0, none⟩) (len + m) cap) := by
   intro old olds hor hold
   have hge := grownCap_ge w (len + m) old e
   have hmx : grownCap w (len + m) old e ≤ maxLen := grownCap_le_maxLen w (len + m) old e (by unfold maxLen; omega)
   intro cap w'
   -- first forget, id given up
   obtain ⟨lv0, q1, q2, q3, q4⟩ := hs.forg (s' := ⟨s'.t, fun j => if j = id then none else s'.h j⟩) (fun x y hy => (ht x y hy).imp (fun h => h) And.left) hlt (fun j ob' hj => by
    simp only at hj
    split at hj
    ·cases hj
    ·rename_i hji; exact (hh j ob' hji hj).2)
   have q0 : Sim B ok0 N ⟨s'.t, fun j => if j = id then none else s'.h j⟩ lv0 a w.drew := q1.drew (Below.drew (Below.refl _ _))
   have hall : yck (ybt B ok0 lv0 w.drew) w.drew lv0 (xs ++ cs) (olds ++ news) := by
    refine ⟨by simp [hor.1, hnr.1], fun j x u hx hu => ?_⟩
    have hpu := (show yhn (ybt B ok0 lv w) lv w (bo.getD 0) n (.tvec e xs) ∨ xs = [] by
     cases bo with
     | none => exact .inr (zbp hown)
     | some b => exact .inl hown.2.2)
    have hpx : ∀ x ∈ xs, ybc x = true := by
     rcases hpu with h | h
     ·exact h.2.1
     ·intro x hx; rw [h] at hx; cases hx
    rcases Nat.lt_or_ge j xs.length with h1 | h1
    ·rw [List.getElem?_append_left h1] at hx
     rw [List.getElem?_append_left (by rw [hor.1]; exact h1)] at hu
     exact ((hor.2 j x u hx hu).relive fun id b n hb hmm => by rw [ybc.ment (hpx x (List.mem_of_getElem? hx))] at hmm; cases hmm).keep fun g hg => ⟨q4 g hg, rfl⟩
    ·rw [List.getElem?_append_right h1] at hx
     rw [List.getElem?_append_right (by rw [hor.1]; exact h1), hor.1] at hu
     exact ((hnr.2 _ x u hx hu).relive fun id b n hb hmm => by rw [ybc.ment (hcp x (List.mem_of_getElem? hx))] at hmm; cases hmm).keep fun g hg => ⟨q4 g hg, rfl⟩
   have hcell' : ∀ x ∈ xs ++ cs, yfh x = true := by
    intro x hx
    rcases List.mem_append.1 hx with hx | hx
    ·cases bo with
     | none => rw [zbp hown] at hx; cases hx
     | some b => obtain ⟨_, _, ⟨c, _, _, _, _, g4, _⟩, _⟩ := hown; exact g4 x hx
    ·exact hcc x hx
   have hpure' : ∀ x ∈ xs ++ cs, ybc x = true := by
    intro x hx
    rcases List.mem_append.1 hx with hx | hx
    ·cases bo with
     | none => rw [zbp hown] at hx; cases hx
     | some b => exact hown.2.2.2.1 x hx
    ·exact hcp x hx
   have hfr : ylx (⟨s'.t, fun j => if j = id then none else s'.h j⟩ : SS) id := by
    refine ⟨by simp, fun x y hy => ?_, fun j ob hj => ?_⟩
    ·rcases ht x y hy with rfl | ⟨_, hm⟩
     ·rfl
     ·exact hm
    ·simp only at hj
     split at hj
     ·cases hj
     ·rename_i hji; exact (hh j ob hji hj).1
   have hzc : (olds ++ news).length + (Builtin.zeroCells zv.cells (cap - (len + m))).toList.length = cap * es := by
    have e1 := size_zeroCells zv.cells (cap - (len + m))
    rw [hizc] at e1
    simp only [List.size_toArray, hzl] at e1
    rw [hizc]
    simp only [Array.length_toList, List.length_append, e1, hor.1, hxl, hnl]
    rw [← Nat.add_mul, ← Nat.add_mul]
    congr 1
    omega
   have hw' : w' = w.drew.alloc (.cells ((olds ++ news) ++ (Builtin.zeroCells zv.cells (cap - (len + m))).toList).toArray e) := by
    simp only [w']
    congr 2
    simp
   have hnew := q0.newBlock (ob := .tvec e (xs ++ cs)) (n := cap * es) hfr (w' := w') (by rw [hw']; exact yez w.drew _) (by rw [hw']; simp) rfl (fun h => by cases h)
    (fun ok' lv' g1 g2 => ⟨yse (e := e) hzc.symm (by rw [hw']; exact yew w.drew _) hall hcell' ok' lv' g1 (fun i b mm hb hmm => by
     obtain ⟨c, hc, hcm⟩ : ∃ c ∈ xs ++ cs, ment i c = true := by
      generalize xs ++ cs = l at hmm
      induction l with
      | nil => simp [ment.mentL] at hmm
      | cons a l ih =>
       simp only [ment.mentL, Bool.or_eq_true] at hmm
       rcases hmm with h | h
       ·exact ⟨a, by simp, h⟩
       ·obtain ⟨c, h1, h2⟩ := ih h; exact ⟨c, by simp [h1], h2⟩
     rw [ybc.ment (hpure' c hc)] at hcm; cases hcm), hpure', by rw [hw', zch]; congr 2; simp only [List.size_toArray, List.length_append] at hzc ⊢; omega⟩)
   have hs'' : (⟨s'.t, ydf (fun j => if j = id then none else s'.h j) id (some (.tvec e (xs ++ cs)))⟩ : SS) = s' := by
    have : ydf (fun j => if j = id then none else s'.h j) id (some (.tvec e (xs ++ cs))) = s'.h := by
     funext j
     by_cases hj : j = id
     ·subst hj; simp [ydf, hid']
     ·simp [ydf, hj]
    rw [this]
   rw [hs''] at hnew
   refine ⟨_, hnew, .ls _ rfl fun b n' hb => ?_⟩
   simp only [ykl, if_true, Option.some.injEq, Prod.mk.injEq] at hb
   obtain ⟨rfl, rfl⟩ := hb
   exact ⟨cap, rfl, hge, hmx, rfl⟩
  cases bo with
  | none =>
   obtain rfl := zbp hown
   obtain ⟨rfl, rfl⟩ := hlsv
   by_cases hm : s0.size = 0
   ·have hf := Lib.run_firstCells_string (P := P) w 1 s0
    rw [hm] at hf
    have hcs : cs = [] := List.eq_nil_of_length_eq_zero (by rw [hcl, hmv, hm]; simp)
    have hsame : (⟨s.t, ydf s.h id (some (.tvec e ([] ++ cs)))⟩ : SS) = s := by
     have : ydf s.h id (some (.tvec e ([] ++ cs))) = s.h := by
      funext j
      by_cases hj : j = id
      ·subst hj; simp [ydf, hid, hcs]
      ·simp [ydf, hj]
     rw [this]
    obtain ⟨lv', q1, q2⟩ := forget w lv (by rw [hsame]; exact hs)
    refine ⟨.slice none 0 0, w, lv', ?_, q1, .ls _ rfl fun b n' hb => ?_⟩
    ·simp [Builtin.append_, run_underlying hu, run_underlying hj0, sizeOf, typeInfo, hi, hisz, hes, Builtin.lenOf, hm, hf]
    ·rw [q2, hl] at hb; cases hb; exact ⟨rfl, by omega⟩
   ·have hr := run_append_nil_string (P := P) w ti tj ty e i zv hu hj0 hi hiz s0 (by omega) (by omega) (by have := hlim.2; rw [hiby]; simp only [Nat.zero_add] at this; rw [← hmv]; omega)
    obtain ⟨lv', g1, g2⟩ := grown 0 [] ⟨rfl, fun i x u h => by simp at h⟩ (by omega)
    have e1 : (s0.data.map fun b => Value.int .u8 b.toNat) = news.toArray := by
     rw [hnv]
     apply Array.ext'
     simp [Lib.strCells]
    rw [e1] at hr
    subst hmv
    simp only [Nat.zero_add, Array.empty_append] at hr g1 g2 ⊢
    exact ⟨_, _, lv', hr, g1, g2⟩
  | some b =>
   obtain ⟨cap, rfl, hlc, hmx, hcn⟩ := hlsv
   obtain ⟨hb1, hb2, ⟨cu, e', g1, g2, g3, g4, g5⟩, hpu, hsh⟩ := hown
   obtain rfl : e' = e := by simp only [World.shape?, g1, Option.some.injEq, Prod.mk.injEq] at hsh; exact hsh.1
   subst hes
   by_cases hroom : len + m ≤ cap
   ·have hfit : len * 1 + news.length ≤ cu.size := by rw [hnl, g2, ← hcn, ← Nat.add_mul]; exact Nat.mul_le_mul_right _ hroom
    have hr := Lib.run_append_room_string (P := P) w ti tj ty e' i hu hj0 hi hisz b len cap cu g1 s0 (by rw [← hmv]; exact hroom) (by rw [hnl] at hfit; omega)
    have hwe : (cu.toList.take len ++ Lib.strCells s0 ++ cu.toList.drop (len + s0.size)).toArray = (cu.toList.take (len * 1) ++ news ++ cu.toList.drop (len * 1 + news.length)).toArray := by
     rw [hnl, Nat.mul_one, Nat.mul_one, ← hnv, ← hmv]
    rw [hwe, ← hmv] at hr
    have hwr := hs.write (w' := w.setRow b (cu.toList.take (len * 1) ++ news ++ cu.toList.drop (len * 1 + news.length)).toArray) hl rfl rfl rfl (by simp) (fun g hg => setRow_other w b g _ hg) (ob := .tvec e' (xs ++ cs)) (fun h => by cases h)
     (fun ok' hk => ⟨zpn (w := w) g2 hxl g4 g5 hnr hcc hcp (by omega) (setRow_heap w b cu _ e' _ g1) ok' hk, fun x hx => by
      rcases List.mem_append.1 hx with hx | hx
      ·exact hpu x hx
      ·exact hcp x hx, by
      simp only [World.shape?, setRow_heap w b cu _ e' _ g1]
      congr 2
      rw [← g2]
      simp; omega⟩)
    obtain ⟨lv', q1, q2⟩ := forget _ _ hwr
    refine ⟨_, _, lv', hr, q1, .ls _ rfl fun b' n' hb => ?_⟩
    rw [q2, hl] at hb; cases hb; exact ⟨cap, rfl, hroom, hmx, hcn⟩
   ·have hxle : xs.length ≤ cu.size := by omega
    have hor : yck (ybt B ok0 lv w) w lv xs (cu.toList.take xs.length) := ⟨by simp; omega, fun j x u hx hu => by
     have hlt := (List.getElem?_eq_some_iff.1 hx).1
     rw [List.getElem?_take, if_pos hlt] at hu
     exact g5 j x u hx (by simpa using hu)⟩
    have hr := Lib.run_append_grow_string (P := P) w ti tj ty e' i zv hu hj0 hi hiz ⟨b, 0, none⟩ len cap (cu.toList.take xs.length) (by simp [hisz]; omega) (fun j v hj => by
     rw [List.getElem?_take] at hj
     split at hj
     ·rw [yma]; simp only [World.cell?, g1, Nat.zero_add]; simpa using hj
     ·cases hj) s0 (by omega) (by omega) (by rw [hiby, ← hmv]; exact growslice_fits (by omega) hlim.2)
    obtain ⟨lv', q1, q2⟩ := grown cap _ hor (by omega)
    subst hmv hnv
    exact ⟨_, _, lv', hr, q1, q2⟩
end
end
end Go.Proofs.YtefiainojfeagaaGreatDoor
