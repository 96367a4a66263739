/- Part 5 of the texts under ProgramFormats,ProgramReadsBack,ProgramTellsProgramsApart,ProgramGrowsByLines,ProgramIgnoresBlanks: joined, with what it needs alone. -/
import Derived.Lib.UnsafeStr
import Derived.Lib.Builder
import Derived.Laws.Externs
import Derived.Laws.Pointers
import Derived.LaidEqlPtr
import Derived.Test.YtefiainojfeagaaGreatDoorProg
import Derived.KernelRfl
import Derived.RangeFuncNested
import Derived.RangeFuncSeq
import Derived.Test.YtefiainojfeagaaGreatDoorPa3
import Derived.Test.YtefiainojfeagaaGreatDoorPa4
set_option linter.unusedVariables false
namespace Go.Proofs.YtefiainojfeagaaGreatDoor
section
open Go.RowKit
section
variable {P : Program} {T : Nat → Option Ty} {N : Nat} {ops : Array Oper} {lf : Oper → Bool} {Q : SS → Prop} {t : List (Nat × AV)} {h : List (Nat × Option LObj)} {rest : List Oper} {d : Nat} {op : Op} {ty : TypeId} {pos : String} {af : Array Edge} {gd : Option (Nat × Bool)} {r : AV}
theorem Sim.ownHT {B : Bse} {ok0 : Nat → Prop} {s : SS} {lv : Live} {a : Act} {w : World} (hs : Sim B ok0 N s lv a w) {id : Nat} (e0 : TypeId) (hf : ylx s id) :
  ∃ lv', Sim B ok0 N ⟨s.t, ydf s.h id (some (.tvec e0 []))⟩ lv' a w ∧ ∀ size, Rel (ybt B ok0 lv' w) w lv' (.ls id size 0) (.slice none 0 0) := by
 have hid : lv id = none := hs.inv.dom id hf.1
 have hsame : ∀ j b n, (fun j => if j = id then some (none, 0) else lv j : Live) j = some (some b, n) → lv j = some (some b, n) := by
  intro j b n hj
  simp only at hj
  split at hj
  ·cases hj
  ·exact hj
 have hok : ∀ g, ybt B ok0 lv w g → ybt B ok0 (fun j => if j = id then some (none, 0) else lv j) w g := fun g hg => ⟨hg.1, hg.2.1, fun j b n hj => hg.2.2 j b n (hsame j b n hj)⟩
 have hre : ∀ (x : AV) (u : Value), ment id x = false → Rel (ybt B ok0 lv w) w lv x u → Rel (ybt B ok0 (fun j => if j = id then some (none, 0) else lv j) w) w (fun j => if j = id then some (none, 0) else lv j) x u := fun x u hm hr =>
  (hr.relive fun j b n hj hmj => by
   split at hj
   ·rename_i e; subst e; rw [hm] at hmj; cases hmj
   ·exact hj).keep fun g hg => ⟨hok g hg, rfl⟩
 refine ⟨fun j => if j = id then some (none, 0) else lv j, ⟨⟨hs.inv.base, hs.inv.ok0lt, fun j hj => ?_, fun i j b n m h1 h2 => hs.inv.inj i j b n m (hsame _ _ _ h1) (hsame _ _ _ h2), fun j x hx => ?_⟩, hs.size, fun x y hy => ?_, hs.defers, hs.big, fun j b o hN hj hc hb => ?_⟩, fun size => ?_⟩
 ·by_cases h : j = id
  ·subst h; simp [ydf] at hj
  ·simp only [ydf, h, if_false] at hj ⊢; exact hs.inv.dom j hj
 ·by_cases h : j = id
  ·subst h
   simp only [ydf, if_true, Option.some.injEq] at hx
   subst hx
   exact ⟨none, 0, by simp, .inr ⟨e0, rfl⟩⟩
  ·simp only [ydf, h, if_false] at hx
   obtain ⟨b, n, h1, h2⟩ := hs.inv.obj j x hx
   refine ⟨b, n, by simp [h, h1], ?_⟩
   cases b with
   | none => exact h2
   | some b =>
    refine ⟨h2.1, h2.2.1, (h2.2.2.relive fun i b n hi hmi => ?_).keep (fun g hg => ⟨hok g hg, rfl⟩) rfl⟩
    split at hi
    ·rename_i e; subst e; rw [hf.2.2 j x hx] at hmi; cases hmi
    ·exact hi
 ·have := hs.frame x y hy
  exact ⟨this.1, hre y _ (hf.2.1 x y hy) this.2⟩
 ·by_cases h : j = id
  ·subst h; simp only [ydf, if_true, Option.some.injEq] at hj; subst hj; cases hc
  ·simp only [ydf, h, if_false] at hj ⊢
   exact hs.pin j b o hN hj hc hb
 ·refine .ls _ rfl fun b n hb => ?_
  simp only [if_true, Option.some.injEq, Prod.mk.injEq] at hb
  obtain ⟨rfl, rfl⟩ := hb
  exact ⟨rfl, rfl⟩
theorem zpb {c : Code} {Q : Exit → SS → Prop} (jb k id size : Nat) (e0 : TypeId) {te : TypeId} {ys : List AV} (hj : yaf h jb = some (.tcells te ys)) (hk : ys[k]? = some (.v (.slice none 0 0))) (h1 : yfe id t = true) (h2 : yen id h = true) (hne : Nat.beq jb id = false)
  (kk : A P N c Q (S t ((jb, some (.tcells te (ys.set k (.ls id size 0)))) :: (id, some (.tvec e0 [])) :: h))) : A P N c Q (S t h) := by
 intro B ok0 lv a w hs
 obtain ⟨lv', hs1, hnil⟩ := hs.ownHT e0 (yjq (t := t) (h := h) h1 h2)
 have hnj : jb ≠ id := fun e => by subst e; simp at hne
 have hj1 : ydf (yaf h) id (some (.tvec e0 [])) jb = some (.tcells te ys) := by simp only [ydf, hnj, if_false]; exact hj
 refine kk B ok0 lv' a w ?_
 rw [← S_h]
 obtain ⟨bo, n, k1, k2⟩ := hs1.inv.obj jb _ hj1
 cases bo with
 | none => simp [yle] at k2
 | some b =>
  obtain ⟨q1, q2, ⟨cc, e, q3, q4, q5, q6, q7⟩, hsh⟩ := k2
  have hkl := (List.getElem?_eq_some_iff.1 hk).1
  have hkc : k < cc.size := by omega
  have hold := yfp (q7 k _ cc[k] hk (by simp [hkc]))
  have hnew := hnil size
  rw [← hold] at hnew
  have hS : yaf ((id, some (.tvec e0 [])) :: h) = ydf (yaf h) id (some (.tvec e0 [])) := (yqu id _ h).symm
  refine ⟨⟨hs1.inv.base, hs1.inv.ok0lt, fun j hjn => ?_, hs1.inv.inj, fun j x hxj => ?_⟩, hs1.size, hs1.frame, hs1.defers, hs1.big, fun j b' o hN hjx hc hb' => ?_⟩
  ·by_cases hjj : j = jb
   ·subst hjj; simp [ydf] at hjn
   ·simp only [ydf, hjj, if_false, hS] at hjn; exact hs1.inv.dom j hjn
  ·by_cases hjj : j = jb
   ·subst hjj
    simp only [ydf, if_true, Option.some.injEq] at hxj
    subst hxj
    refine ⟨some b, n, k1, q1, q2, ⟨cc, e, q3, q4, by simpa using q5, fun x hxm => ?_, fun i x u hi hu => ?_⟩, by simpa using hsh⟩
    ·rcases List.mem_or_eq_of_mem_set hxm with hm | hm
     ·exact q6 x hm
     ·subst hm; rfl
    ·rw [List.getElem?_set] at hi
     split at hi
     ·rename_i e1
      subst e1
      cases hi
      simp only [hkc, Array.getElem?_eq_getElem, Option.some.injEq] at hu
      subst hu
      exact hnew
     ·exact q7 i x u hi hu
   ·simp only [ydf, hjj, if_false, hS] at hxj
    exact hs1.inv.obj j x hxj
  ·by_cases hjj : j = jb
   ·subst hjj
    exact hs1.pin j b' _ hN hj1 rfl hb'
   ·simp only [ydf, hjj, if_false, hS] at hjx
    exact hs1.pin j b' o hN hjx hc hb'
theorem appendS_loud (hT : TOK P T) {o : Oper} {ti tj e es eb sz s2 : Nat} {ea ag a2 : Bool} {ez z z2 : List Value} {x y : Operand} {id len : Nat} {xs : List AV} {s0 : ByteArray} {s s' : SS} (ho : o.op = .call { callee := .builtin .append, args := #[x, y], argTypes := #[ti, tj] }) (hd : o.dst = some d) (hdN : d < N) (hk : T ti = some ⟨.slc e es ea eb ez, sz, ag, z⟩) (hk2 : T tj = some ⟨.string, s2, a2, z2⟩) (hes : es = 1)
  (hx : evF s.t x = some (.ls id es len)) (hid : s.h id = some (.tvec e xs)) (hxl : xs.length = len * es) (hy : evF s.t y = some (.v (.string s0))) (hlim : len + s0.size ≤ 4294967296 ∧ (len + s0.size) * eb ≤ 140737488355328)
  (ht : ∀ x y, s'.t x = some y → y = .any ∨ (s.t x = some y ∧ ment id y = false)) (hlt : ∀ x y, s'.t x = some y → ∃ z, s.t x = some z) (hh : ∀ j ob', j ≠ id → s'.h j = some ob' → ygr id ob' = false ∧ ∃ ob, s.h j = some ob ∧ yog ob ob') (hid' : s'.h id = some (.tvec e (xs ++ yds s0.data.toList))) :
  yif P N o s (· = ⟨yhi s'.t (some d) (.ls id es (len + s0.size)), s'.h⟩) := by
 intro B ok0 lv a w hs Q
 have hyv := yfp (hs.eval hy)
 obtain ⟨v', w', lv', hrun0, hs', hrel⟩ := appendS_world (ty := o.type) hs (hT _ _ hk).2.2 hes (hT _ _ hk2).2.2 rfl rfl rfl hid hxl (hs.eval hx) hlim ht hlt hh hid'
 have hrun : (execOp a.eval o).run P w = .ok (.value v') w' := by
  simp only [execOp, ho, resolve, invoke, builtin, Sem.run_bind, Sem.run_pure, Result.andThen_ok, List.map_toArray, List.map_cons, List.map_nil, hyv, hrun0]
 unfold Oper.wp
 rw [hrun]
 simp only [Oper.upon, hd]
 exact ⟨_, lv', rfl, hs'.putOnly hdN hrel⟩
theorem yzt (hT : TOK P T) {ti tj e es eb sz s2 : Nat} {ea ag a2 : Bool} {ez z z2 : List Value} {x y : Operand} {id len : Nat} {xs : List AV} {s0 : ByteArray} {t' : List (Nat × AV)} {h' : List (Nat × Option LObj)} (hk : T ti = some ⟨.slc e es ea eb ez, sz, ag, z⟩) (hk2 : T tj = some ⟨.string, s2, a2, z2⟩) (hes : es = 1) (hx : evF (look t) x = some (.ls id es len)) (hid : yaf h id = some (.tvec e xs)) (hxl : xs.length = len * es) (hy : evF (look t) y = some (.v (.string s0)))
  (hlim : len + s0.size ≤ 4294967296 ∧ (len + s0.size) * eb ≤ 140737488355328) (ht : zia id t = some t') (hh : zft id h = some h') (hl : lf ⟨some d, .call { callee := .builtin .append, args := #[x, y], argTypes := #[ti, tj] }, ty, pos, af, gd⟩ = true)
  (hw : yan ops (look t) ⟨some d, .call { callee := .builtin .append, args := #[x, y], argTypes := #[ti, tj] }, ty, pos, af, gd⟩ = some true) (hd : Nat.blt d N = true) (k : Lex P N ops lf Q rest (S ((d, .ls id es (len + s0.size)) :: t') ((id, some (.tvec e (xs ++ yds s0.data.toList))) :: h'))) :
  Lex P N ops lf Q (⟨some d, .call { callee := .builtin .append, args := #[x, y], argTypes := #[ti, tj] }, ty, pos, af, gd⟩ :: rest) (S t h) := by
 obtain ⟨g1, g2⟩ := yno ht
 have e : S ((d, .ls id es (len + s0.size)) :: t') ((id, some (.tvec e (xs ++ yds s0.data.toList))) :: h') = (⟨yhi (S t' ((id, some (.tvec e (xs ++ yds s0.data.toList))) :: h')).t (some d) (.ls id es (len + s0.size)), (S t' ((id, some (.tvec e (xs ++ yds s0.data.toList))) :: h')).h⟩ : SS) := by
  unfold S; rw [yhe]
 refine ykn hl hw ?_ k
 rw [e]
 refine appendS_loud hT rfl rfl (by simpa using hd) hk hk2 hes hx hid hxl hy hlim g1 g2 (fun j ob' hj hob => ?_) ?_
 ·simp only [S, yaf, ygk hj] at hob
  exact ykv hh j ob' hob
 ·simp [S, yaf]
theorem allocT_loud (hT : TOK P T) {o : Oper} {elem : TypeId} {y : Ty} {s : SS} (ho : o.op = .alloc elem) (hd : o.dst = some d) (hdN : d < N) (id : Nat) (hy : T elem = some y) (hone : y.zero.all Value.oneCell' = true) (hf : ylx s id) (hidN : id < N) :
  yif P N o s (· = ⟨yhi s.t (some d) (.lp id 0), ydf s.h id (some (.tcells elem (y.zero.map .v)))⟩) := by
 intro B ok0 lv a w hs Q
 obtain ⟨z, h1, h2⟩ := (hT _ _ hy).2.1.run (w := w)
 have hrun : (execOp a.eval o).run P w = .ok (.value (.pointer (some ⟨w.heap.size, 0, none⟩))) (w.alloc (.cells y.zero.toArray elem)) := by
  simp [execOp, ho, Instr.alloc, newVar, newRow, h1, h2]
 unfold Oper.wp
 rw [hrun]
 have hm : ment.mentL id (y.zero.map .v) = false := by
  induction y.zero with
  | nil => rfl
  | cons a l ih => simp [ment.mentL, ment, ih]
 have hra : yck (ybt B ok0 lv w) w lv (y.zero.map .v) y.zero := ⟨by simp, fun i x u hx hu => by rw [List.getElem?_map, hu] at hx; simp at hx; subst hx; exact .v u⟩
 have hnew := hs.newBlock (ob := .tcells elem (y.zero.map .v)) (n := y.zero.length) hf (yez w (.cells y.zero.toArray elem)) (by simp) (by simpa [ygr] using hm) (fun _ => hidN)
  (fun ok' lv' g1 g2 => ⟨yse (extra := []) (e := elem) (by simp) (by rw [yew]; simp) hra (fun c hc => by
   obtain ⟨v, hv, rfl⟩ := List.mem_map.1 hc
   exact List.all_eq_true.1 hone v hv) ok' lv' g1 g2, by rw [zch]; simp⟩)
 simp only [Oper.upon, hd]
 exact ⟨_, _, rfl, hnew.putOnly hdN (.lp _ rfl fun b n hb => by simp only [ykl, if_true, Option.some.injEq, Prod.mk.injEq] at hb; rw [hb.1])⟩
theorem zll (hT : TOK P T) {elem : TypeId} {y : Ty} (hy : T elem = some y) (hone : y.zero.all Value.oneCell' = true) (h1 : yfe d t = true) (h2 : yen d h = true) (hl : lf ⟨some d, .alloc elem, ty, pos, af, gd⟩ = true) (hw : yan ops (look t) ⟨some d, .alloc elem, ty, pos, af, gd⟩ = some true) (hd : Nat.blt d N = true)
  (k : Lex P N ops lf Q rest (S ((d, .lp d 0) :: t) ((d, some (.tcells elem (ywy y.zero))) :: h))) : Lex P N ops lf Q (⟨some d, .alloc elem, ty, pos, af, gd⟩ :: rest) (S t h) :=
 ykn hl hw (by rw [← zhd, yot]; exact allocT_loud hT rfl rfl (by simpa using hd) d hy hone (yjq h1 h2) (by simpa using hd)) k
theorem yqp (hT : TOK P T) {ti : Nat} {y : Ty} {x v : Operand} {id off : Nat} {te : TypeId} {xs cs ys : List AV} {u : AV} (hy : T ti = some y) (hx : evF (look t) x = some (.lp id off)) (hv : evF (look t) v = some u) (hcs : yft u = some cs) (hcl : Nat.beq cs.length y.size = true) (hh : yaf h id = some (.tcells te xs)) (hne : xs ≠ []) (hsp : ykm off cs xs = some ys)
  (hl : lf ⟨none, .store ti x v, ty, pos, af, gd⟩ = true) (hw : yan ops (look t) ⟨none, .store ti x v, ty, pos, af, gd⟩ = some true) (k : Lex P N ops lf Q rest (S t ((id, some (.tcells te ys)) :: h))) : Lex P N ops lf Q (⟨none, .store ti x v, ty, pos, af, gd⟩ :: rest) (S t h) := by
 obtain ⟨h1, h2⟩ := yob hsp
 refine ykn hl hw (by rw [← S_h]; exact yri rfl rfl (hT _ _ hy).1 hx hv hcs (by simpa using hcl) hh (by rw [h2]; exact .tcells h1 hne)) k
theorem yield_nilCheck {ρ : Operand → Option AV} {hp : Nat → Option LObj} {x : Operand} {id off : Nat} {xs : List AV} (hx : ρ x = some (.lp id off)) (hh : yrt (hp id) = some xs) : ydl P hp ρ (.nilCheck x) ty (.lp id off) :=
 yat fun B ok0 lv w a o ho hty hi' hops => by
  have hr := hops x _ (by simp [Op.operands]) hx
  obtain ⟨g1, g2⟩ := yfa hh
  obtain ⟨b, n, hb, hu, _⟩ := ydz hi' g1 g2 hr
  exact ⟨a.eval x, by simp [execOp, ho, hu], hr⟩
theorem yhu {x : Operand} {id off : Nat} {xs : List AV} (hx : evF (look t) x = some (.lp id off)) (hh : yrt (yaf h id) = some xs) (hw : yan ops (look t) ⟨some d, .nilCheck x, ty, pos, af, gd⟩ = some true) (hd : Nat.blt d N = true) (k : Lex P N ops lf Q rest (S ((d, .lp id off) :: t) h)) : Lex P N ops lf Q (⟨some d, .nilCheck x, ty, pos, af, gd⟩ :: rest) (S t h) :=
 ycf (yield_nilCheck hx hh) hw hd k
theorem yield_sliceData {ρ : Operand → Option AV} {hp : Nat → Option LObj} {x : Operand} {ts : Array TypeId} {id len : Nat} {te : TypeId} {y : AV} {xs : List AV} (hx : ρ x = some (.ls id 1 len)) (hh : hp id = some (.tvec te (y :: xs))) (hlen : len ≠ 0) : ydl P hp ρ (.call { callee := .builtin .unsafeSliceData, args := #[x], argTypes := ts }) ty (.lp id 0) :=
 yat fun B ok0 lv w a o ho hty hi' hops => by
  have hr := hops x _ (by simp [Op.operands, Call.operands]) hx
  obtain ⟨b, n, hb, hown⟩ := hi'.obj id _ hh
  cases b with
  | none => exact absurd (zbp hown) (by simp)
  | some b =>
   generalize hv : a.eval x = v at hr
   cases hr with
   | ls _ h1 h2 =>
    obtain ⟨cap, rfl, hle, hmx, hcn⟩ := h2 (some b) n hb
    refine ⟨.pointer (some ⟨b, 0, none⟩), ?_, .lp _ rfl fun b' n' hb' => by rw [hb] at hb'; cases hb'; rfl⟩
    simp [execOp, ho, resolve, invoke, builtin, hv, Lib.run_unsafeSliceData_row (P := P) w ts o.type ⟨b, 0, none⟩ len cap (by omega)]
theorem yzu {x : Operand} {ts : Array TypeId} {id len : Nat} {te : TypeId} {y : AV} {xs : List AV} (hx : evF (look t) x = some (.ls id 1 len)) (hh : yaf h id = some (.tvec te (y :: xs))) (hlen : len ≠ 0) (hw : yan ops (look t) ⟨some d, .call { callee := .builtin .unsafeSliceData, args := #[x], argTypes := ts }, ty, pos, af, gd⟩ = some true) (hd : Nat.blt d N = true) (k : Lex P N ops lf Q rest (S ((d, .lp id 0) :: t) h)) : Lex P N ops lf Q (⟨some d, .call { callee := .builtin .unsafeSliceData, args := #[x], argTypes := ts }, ty, pos, af, gd⟩ :: rest) (S t h) :=
 ycf (yield_sliceData hx hh hlen) hw hd k
theorem Sim.dropWrite {B : Bse} {ok0 : Nat → Prop} {s : SS} {lv : Live} {a : Act} {w w' : World} (hs : Sim B ok0 N s lv a w) {id b n : Nat} (hl : lv id = some (some b, n)) (hos : w'.os = w.os) (htp : w'.tape = w.tape) (hout : w'.output = w.output) (hsz : w'.heap.size = w.heap.size)
  (hoth : ∀ g, g ≠ b → w'.heap[g]? = w.heap[g]?) : ∃ lv', Sim B ok0 N ⟨s.t, ydf s.h id none⟩ lv' a w' := by
 obtain ⟨x0, hx0, hb1, hb2, hb3⟩ := hs.inv.lvat hl
 have hsub : ∀ j b n, (fun j => if j = id then none else lv j : Live) j = some (b, n) → lv j = some (b, n) := by
  intro j b n hj
  simp only at hj
  split at hj
  ·cases hj
  ·exact hj
 have hok : ∀ g, ybt B ok0 lv w g → ybt B ok0 (fun j => if j = id then none else lv j) w' g ∧ w'.heap[g]? = w.heap[g]? := fun g hg => ⟨⟨hg.1, by rw [hsz]; exact hg.2.1, fun j b' n' hj => hg.2.2 j b' n' (hsub j _ n' hj)⟩, hoth g (hg.2.2 id b n hl).symm⟩
 refine ⟨fun j => if j = id then none else lv j, ⟨?_, hs.inv.ok0lt, fun j hj => ?_, fun i j b n m h1 h2 => hs.inv.inj i j b n m (hsub _ _ _ h1) (hsub _ _ _ h2), fun j x hx => ?_⟩, hs.size, fun x y hy => ⟨(hs.frame x y hy).1, ((hs.frame x y hy).2.relive fun j b n hb _ => hsub j b n hb).keep hok⟩, hs.defers.same (fun g hg => (hoth g fun e => by subst e; exact (hs.inv.lvat hl).choose_spec.2.2.2.notDef hg).trans hg), hs.big, fun j b' o hN hj hc hb' => ?_⟩
 ·exact hs.inv.base.written hb1 hos htp hout hsz hoth
 ·by_cases h : j = id
  ·simp [h]
  ·simp only [ydf, h, if_false] at hj ⊢; exact hs.inv.dom j hj
 ·by_cases h : j = id
  ·subst h; simp [ydf] at hx
  ·simp only [ydf, h, if_false] at hx
   obtain ⟨b', m, h1, h2⟩ := hs.inv.obj j x hx
   refine ⟨b', m, by simp [h, h1], ?_⟩
   cases b' with
   | none => exact h2
   | some b' =>
    obtain ⟨h2, h3, h4⟩ := h2
    refine ⟨h2, by rw [hsz]; exact h3, (h4.relive fun k b n hb _ => hsub k b n hb).keep hok (hoth b' ?_)⟩
    intro he
    subst he
    exact h (hs.inv.inj j id b' m n h1 hl)
 ·by_cases h : j = id
  ·subst h; simp [ydf] at hj
  ·simp only [ydf, h, if_false] at hj ⊢
   exact hs.pin j b' o hN hj hc hb'
theorem freeze_other (w : World) (b n g : Nat) (hg : g ≠ b) : (w.freeze ⟨b, 0, none⟩ n).heap[g]? = w.heap[g]? := by
 unfold World.freeze
 split
 ·rfl
 ·simp [Array.getElem?_modify, Ne.symm hg]
theorem freeze_same (w : World) (a : Addr) (n : Nat) : (w.freeze a n).os = w.os ∧ (w.freeze a n).tape = w.tape ∧ (w.freeze a n).output = w.output ∧ (w.freeze a n).heap.size = w.heap.size := by
 unfold World.freeze
 split
 ·exact ⟨rfl, rfl, rfl, rfl⟩
 ·exact ⟨rfl, rfl, rfl, by simp⟩
theorem unsafeString_loud {o : Oper} {x y : Operand} {pt it te : TypeId} {id : Nat} {l : List UInt8} {s : SS} (ho : o.op = .call { callee := .builtin .unsafeString, args := #[x, y], argTypes := #[pt, it] }) (hd : o.dst = some d) (hdN : d < N) (hp : P.underlying pt = some (.pointer te)) (hc : P.cellsOf te = 1)
  (hx : evF s.t x = some (.lp id 0)) (hid : s.h id = some (.tvec te (yds l))) (hy : evF s.t y = some (.v (.int .i64 l.length))) (h0 : l ≠ []) (h63 : l.length ≤ 9223372036854775807) :
  yif P N o s (· = ⟨yhi s.t (some d) (.v (.string ⟨l.toArray⟩)), ydf s.h id none⟩) := by
 intro B ok0 lv a w hs Q
 have hyv := yfp (hs.eval hy)
 have hne : yds l ≠ [] := by intro e; exact h0 (by simpa [yds] using e)
 obtain ⟨b, n, hb, hxv, hcells⟩ := ydz hs.inv (xs := yds l) (by rw [hid]; rfl) (.inl hne) (hs.eval hx)
 obtain ⟨b2, n2, hb2, hown⟩ := hs.inv.obj id _ hid
 rw [hb] at hb2
 cases hb2
 obtain ⟨_, _, ⟨c, e, g1, g2, g3, _, _⟩, _, hsh⟩ := hown
 have hrun0 := Lib.run_unsafeString_row (P := P) w pt it o.type te hp hc b n hsh l h0 (by rw [yqs] at g3; exact g3) h63 (fun j x hjx => by
  obtain ⟨_, u, hu, hr⟩ := hcells j (.v (.int .u8 x.toNat)) (by simp [yds, hjx])
  rw [yma]
  rw [yfp hr] at hu
  exact hu)
 have hrun : (execOp a.eval o).run P w = .ok (.value (.string ⟨l.toArray⟩)) (w.freeze ⟨b, 0, none⟩ l.length) := by
  simp only [execOp, ho, resolve, invoke, builtin, Sem.run_bind, Sem.run_pure, Result.andThen_ok, List.map_toArray, List.map_cons, List.map_nil, hyv, hxv, hrun0]
 unfold Oper.wp
 rw [hrun]
 simp only [Oper.upon, hd]
 obtain ⟨f1, f2, f3, f4⟩ := freeze_same w ⟨b, 0, none⟩ l.length
 obtain ⟨lv', hs'⟩ := hs.dropWrite hb f1 f2 f3 f4 (fun g hg => freeze_other w b l.length g hg)
 exact ⟨_, lv', rfl, hs'.putOnly hdN (.v _)⟩
theorem yrr {x y : Operand} {pt it te : TypeId} {id : Nat} {l : List UInt8} (hp : P.underlying pt = some (.pointer te)) (hc : P.cellsOf te = 1) (hx : evF (look t) x = some (.lp id 0)) (hid : yaf h id = some (.tvec te (yds l))) (hy : evF (look t) y = some (.v (.int .i64 l.length))) (h0 : l ≠ []) (h63 : l.length ≤ 9223372036854775807)
  (hl : lf ⟨some d, .call { callee := .builtin .unsafeString, args := #[x, y], argTypes := #[pt, it] }, ty, pos, af, gd⟩ = true) (hw : yan ops (look t) ⟨some d, .call { callee := .builtin .unsafeString, args := #[x, y], argTypes := #[pt, it] }, ty, pos, af, gd⟩ = some true) (hd : Nat.blt d N = true)
  (k : Lex P N ops lf Q rest (S ((d, .v (.string ⟨l.toArray⟩)) :: t) ((id, none) :: h))) : Lex P N ops lf Q (⟨some d, .call { callee := .builtin .unsafeString, args := #[x, y], argTypes := #[pt, it] }, ty, pos, af, gd⟩ :: rest) (S t h) :=
 ykn hl hw (by rw [← zhd]; exact unsafeString_loud rfl rfl (by simpa using hd) hp hc hx hid hy h0 h63) k
theorem ymu {ρ : Operand → Option AV} {hp : Nat → Option LObj} {x y : Operand} {tp ty' : TypeId} (hu : P.underlying tp = some (.pointer (P.pointee tp))) (hx : ρ x = some (.v (.pointer none))) (hy : ρ y = some (.v (.pointer none))) : ydl P hp ρ (.binOp .eql tp x y ty') ty (.v (.bool true)) :=
 yec (fun _ _ => by simp) (by simp [yiq, Op.operands, hx, hy, toV]) fun w => by
  have := run_eql_pointer_nil (P := P) w tp none hu
  simp [execOp, yiz hx, yiz hy, eqGuard, this]
theorem zct {ρ : Operand → Option AV} {hp : Nat → Option LObj} {x y : Operand} {tp ty' : TypeId} {id off : Nat} {xs : List AV} (hu : P.underlying tp = some (.pointer (P.pointee tp))) (hx : ρ x = some (.lp id off)) (hh : yrt (hp id) = some xs) (hy : ρ y = some (.v (.pointer none))) : ydl P hp ρ (.binOp .eql tp x y ty') ty (.v (.bool false)) :=
 yat fun B ok0 lv w a o ho hty hi' hops => by
  obtain ⟨g1, g2⟩ := yfa hh
  obtain ⟨b, n, hb, hv, _⟩ := ydz hi' g1 g2 (hops x _ (by simp [Op.operands]) hx)
  have hyv := yfp (hops y _ (by simp [Op.operands]) hy)
  have := run_eql_pointer_nil (P := P) w tp (some ⟨b, off, none⟩) hu
  exact ⟨_, by simp [execOp, ho, hv, hyv, eqGuard, this], .v _⟩
theorem zcv {ρ : Operand → Option AV} {hp : Nat → Option LObj} {x y : Operand} {tp te ty' : TypeId} {id off : Nat} {xs : List AV} (hu : P.underlying tp = some (.pointer te)) (hi0 : (P.info? te).isSome = true) (hx : ρ x = some (.lp id off)) (hh : yrt (hp id) = some xs) (hy : ρ y = some (.lp id off)) : ydl P hp ρ (.binOp .neq tp x y ty') ty (.v (.bool false)) :=
 yat fun B ok0 lv w a o ho hty hi' hops => by
  obtain ⟨g1, g2⟩ := yfa hh
  obtain ⟨b, n, hb, hv, _⟩ := ydz hi' g1 g2 (hops x _ (by simp [Op.operands]) hx)
  obtain ⟨b', n', hb', hv', _⟩ := ydz hi' g1 g2 (hops y _ (by simp [Op.operands]) hy)
  rw [hb] at hb'
  cases hb'
  obtain ⟨j, hj⟩ := Option.isSome_iff_exists.1 hi0
  have := Lib.run_neq_ptr_same (P := P) w ⟨b, off, none⟩ hu hj
  exact ⟨_, by simp [execOp, ho, hv, hv', eqGuard, this], .v _⟩
theorem yju {ρ : Operand → Option AV} {hp : Nat → Option LObj} {x : Operand} {src dst te t0 : TypeId} {id off : Nat} {xs : List AV} (hs : P.underlying src = some (.pointer t0)) (hd : P.underlying dst = some .unsafePointer) (ht : (P.info? t0).map (·.size) = some 2) (hx : ρ x = some (.lp id off)) (hh : hp id = some (.tcells te xs)) (hoff : off < xs.length) : ydl P hp ρ (.convert src dst x) ty (.lp id off) :=
 yat fun B ok0 lv w a o ho hty hi' hops => by
  have hr := hops x _ (by simp [Op.operands]) hx
  obtain ⟨b, n, hb, hv, _⟩ := ydz hi' (xs := xs) (by rw [hh]; rfl) (.inl (by intro e; rw [e] at hoff; simp at hoff)) hr
  obtain ⟨b2, n2, hb2, hown⟩ := hi'.obj id _ hh
  rw [hb] at hb2
  cases hb2
  obtain ⟨j, hj, hj2⟩ := Option.map_eq_some_iff.1 ht
  have := Lib.run_to_unsafe (P := P) w ⟨b, off, none⟩ hs hd hj (by rw [hj2]; decide) hown.2.2.2 hoff
  rw [hv] at hr
  exact ⟨_, by simp [execOp, ho, hv, this], hr⟩
theorem ypb {ρ : Operand → Option AV} {hp : Nat → Option LObj} {x : Operand} {src dst te t0 : TypeId} {id off : Nat} {xs : List AV} (hs : P.underlying src = some .unsafePointer) (hd : P.underlying dst = some (.pointer t0)) (ht : (P.info? t0).isSome = true) (hx : ρ x = some (.lp id off)) (hh : hp id = some (.tcells te xs)) (hne : xs ≠ []) (hlies : liesAt P P.depth te (xs.length / P.cellsOf te) off t0 1 = true) : ydl P hp ρ (.convert src dst x) ty (.lp id off) :=
 yat fun B ok0 lv w a o ho hty hi' hops => by
  have hr := hops x _ (by simp [Op.operands]) hx
  obtain ⟨b, n, hb, hv, _⟩ := ydz hi' (xs := xs) (by rw [hh]; rfl) (.inl hne) hr
  obtain ⟨b2, n2, hb2, hown⟩ := hi'.obj id _ hh
  rw [hb] at hb2
  cases hb2
  obtain ⟨j, hj⟩ := Option.isSome_iff_exists.1 ht
  have := Lib.run_from_unsafe (P := P) w ⟨b, off, none⟩ hs hd hj hown.2.2.2 hlies
  rw [hv] at hr
  exact ⟨_, by simp [execOp, ho, hv, this], hr⟩
theorem yrz {ρ : Operand → Option AV} {hp : Nat → Option LObj} {x : Operand} {f : FuncId} {fn : Func} {ats : Array TypeId} {y : AV} (hf : P.funcs[f]? = some fn) (hname : (fn.name == "runtime.NumGoroutine") = false) (hb : fn.body.isNone = true) (hn : Extern.findNext fn = none) (he : Extern.find fn = some Extern.AbiNoEscape.same) (hx : ρ x = some y) : ydl P hp ρ (.call { callee := .value (.func f), args := #[x], argTypes := ats }) ty y :=
 yat fun B ok0 lv w a o ho hty hi' hops => by
  have hr := hops x _ (by simp [Op.operands, Call.operands]) hx
  refine ⟨a.eval x, ?_, hr⟩
  have := run_callFunc_extern hf hname hb hn he #[a.eval x] w
  rw [Lib.run_noEscape] at this
  simp only [Result.andThen_ok] at this
  have hfe : a.eval (.func f) = .func (.func f) #[] #[] := rfl
  simp [execOp, ho, resolve, Deferred.ofValue, hfe, invoke, this]
end
end
set_option maxRecDepth 100000
section
theorem sz_1 : ycm Tryz.prog 1 1 false := ⟨by kernel_rfl, by kernel_rfl⟩
theorem zob : ycm Tryz.prog 3 1 false := ⟨by kernel_rfl, by kernel_rfl⟩
theorem sz_4 : ycm Tryz.prog 4 1 false := ⟨by kernel_rfl, by kernel_rfl⟩
theorem zxl : ycm Tryz.prog 5 1 false := ⟨by kernel_rfl, by kernel_rfl⟩
theorem zuk : ycm Tryz.prog 9 1 false := ⟨by kernel_rfl, by kernel_rfl⟩
theorem sz_20 : ycm Tryz.prog 20 1 false := ⟨by kernel_rfl, by kernel_rfl⟩
theorem zvg : ycm Tryz.prog 22 1 false := ⟨by kernel_rfl, by kernel_rfl⟩
theorem zvh : ycm Tryz.prog 23 1 false := ⟨by kernel_rfl, by kernel_rfl⟩
theorem zvi : ycm Tryz.prog 25 3 true := ⟨by kernel_rfl, by kernel_rfl⟩
theorem zvj : ycm Tryz.prog 28 1 false := ⟨by kernel_rfl, by kernel_rfl⟩
theorem zvk : ycm Tryz.prog 34 1 false := ⟨by kernel_rfl, by kernel_rfl⟩
theorem zvl : ycm Tryz.prog 35 1 false := ⟨by kernel_rfl, by kernel_rfl⟩
theorem zvm : ycm Tryz.prog 39 4 true := ⟨by kernel_rfl, by kernel_rfl⟩
theorem zvn : ycm Tryz.prog 43 6 true := ⟨by kernel_rfl, by kernel_rfl⟩
theorem zri : ycm Tryz.prog 44 1 false := ⟨by kernel_rfl, by kernel_rfl⟩
theorem zvo : ycm Tryz.prog 45 1 false := ⟨by kernel_rfl, by kernel_rfl⟩
theorem zvp : ycm Tryz.prog 47 3 true := ⟨by kernel_rfl, by kernel_rfl⟩
theorem zvq : ycm Tryz.prog 50 2 true := ⟨by kernel_rfl, by kernel_rfl⟩
theorem zsg : ycm Tryz.prog 51 1 false := ⟨by kernel_rfl, by kernel_rfl⟩
theorem zvr : ycm Tryz.prog 52 1 false := ⟨by kernel_rfl, by kernel_rfl⟩
theorem zvs : ycm Tryz.prog 54 2 true := ⟨by kernel_rfl, by kernel_rfl⟩
theorem sz_64 : ycm Tryz.prog 64 1 false := ⟨by kernel_rfl, by kernel_rfl⟩
theorem zvt : ycm Tryz.prog 66 3 true := ⟨by kernel_rfl, by kernel_rfl⟩
theorem sz_68 : ycm Tryz.prog 68 7 true := ⟨by kernel_rfl, by kernel_rfl⟩
theorem sz_79 : ycm Tryz.prog 79 1 false := ⟨by kernel_rfl, by kernel_rfl⟩
theorem zvu : ycm Tryz.prog 81 2 true := ⟨by kernel_rfl, by kernel_rfl⟩
theorem sz_87 : ycm Tryz.prog 87 2 true := ⟨by kernel_rfl, by kernel_rfl⟩
theorem sz_103 : ycm Tryz.prog 103 1 false := ⟨by kernel_rfl, by kernel_rfl⟩
theorem sz_108 : ycm Tryz.prog 108 4 true := ⟨by kernel_rfl, by kernel_rfl⟩
theorem sz_114 : ycm Tryz.prog 114 1 false := ⟨by kernel_rfl, by kernel_rfl⟩
theorem sz_118 : ycm Tryz.prog 118 1 false := ⟨by kernel_rfl, by kernel_rfl⟩
theorem sz_128 : ycm Tryz.prog 128 1 false := ⟨by kernel_rfl, by kernel_rfl⟩
theorem sz_148 : ycm Tryz.prog 148 1 false := ⟨by kernel_rfl, by kernel_rfl⟩
def zxm : Ty := ⟨.other, 1, false, [.nilFunc]⟩
theorem ok_1 : ypj Tryz.prog 1 zxm := ⟨sz_1, yax (by kernel_rfl), trivial⟩
def zxn : Ty := ⟨(.int .i64), 1, false, [(.int .i64 0)]⟩
theorem ok_3 : ypj Tryz.prog 3 zxn := ⟨zob, yax (by kernel_rfl), Tryz.underlying3⟩
def zxo : Ty := ⟨.bool, 1, false, [(.bool false)]⟩
theorem ok_4 : ypj Tryz.prog 4 zxo := ⟨sz_4, yax (by kernel_rfl), Tryz.underlying4⟩
def zxp : Ty := ⟨(.int .u8), 1, false, [(.int .u8 0)]⟩
theorem ok_5 : ypj Tryz.prog 5 zxp := ⟨zxl, yax (by kernel_rfl), Tryz.underlying5⟩
def zxq : Ty := ⟨.string, 1, false, [(.string ByteArray.empty)]⟩
theorem ok_9 : ypj Tryz.prog 9 zxq := ⟨zuk, yax (by kernel_rfl), Tryz.underlying9⟩
def zvv : Ty := ⟨.other, 1, false, [.nilIface]⟩
theorem ok_20 : ypj Tryz.prog 20 zvv := ⟨sz_20, yax (by kernel_rfl), trivial⟩
def zvw : Ty := ⟨(.slc 43 6 true 56 [(.string ByteArray.empty), (.int .i64 0), (.int .i64 0), (.int .i64 0), (.int .i64 0), (.int .i64 0)]), 1, false, [(.slice none 0 0)]⟩
theorem ok_22 : ypj Tryz.prog 22 zvw := ⟨zvg, yax (by kernel_rfl), ⟨Tryz.underlying22, zvn, by kernel_rfl, yax (by kernel_rfl), rfl, by decide⟩⟩
def zvx : Ty := ⟨(.slc 47 3 true 64 [(.string ByteArray.empty), (.slice none 0 0), (.slice none 0 0)]), 1, false, [(.slice none 0 0)]⟩
theorem ok_23 : ypj Tryz.prog 23 zvx := ⟨zvh, yax (by kernel_rfl), ⟨Tryz.underlying23, zvp, by kernel_rfl, yax (by kernel_rfl), rfl, by decide⟩⟩
def zvy : Ty := ⟨(.strct [(0, 1, false), (1, 1, false), (2, 1, false)]), 3, true, [(.string ByteArray.empty), (.slice none 0 0), (.slice none 0 0)]⟩
theorem ok_25 : ypj Tryz.prog 25 zvy := ⟨zvi, yax (by kernel_rfl), (yit Tryz.underlying25 ⟨⟨rfl, zuk, by decide⟩, ⟨rfl, zvg, by decide⟩, ⟨rfl, zvh, by decide⟩, trivial⟩)⟩
def zvz : Ty := ⟨(.int .i64), 1, false, [(.int .i64 0)]⟩
theorem ok_28 : ypj Tryz.prog 28 zvz := ⟨zvj, yax (by kernel_rfl), Tryz.underlying28⟩
def zwa : Ty := ⟨(.slc 5 1 false 1 [(.int .u8 0)]), 1, false, [(.slice none 0 0)]⟩
theorem ok_34 : ypj Tryz.prog 34 zwa := ⟨zvk, yax (by kernel_rfl), ⟨Tryz.underlying34, zxl, by kernel_rfl, yax (by kernel_rfl), rfl, by decide⟩⟩
def zwb : Ty := ⟨(.slc 39 4 true 32 [(.int .i64 0), (.int .i64 0), (.int .i64 0), (.int .i64 0)]), 1, false, [(.slice none 0 0)]⟩
theorem ok_35 : ypj Tryz.prog 35 zwb := ⟨zvl, yax (by kernel_rfl), ⟨Tryz.underlying35, zvm, by kernel_rfl, yax (by kernel_rfl), rfl, by decide⟩⟩
def zwc : Ty := ⟨(.strct [(0, 1, false), (1, 1, false), (2, 1, false), (3, 1, false)]), 4, true, [(.int .i64 0), (.int .i64 0), (.int .i64 0), (.int .i64 0)]⟩
theorem ok_39 : ypj Tryz.prog 39 zwc := ⟨zvm, yax (by kernel_rfl), (yit Tryz.underlying39 ⟨⟨rfl, zob, by decide⟩, ⟨rfl, zob, by decide⟩, ⟨rfl, zob, by decide⟩, ⟨rfl, zob, by decide⟩, trivial⟩)⟩
def zwd : Ty := ⟨(.strct [(0, 1, false), (1, 1, false), (2, 1, false), (3, 1, false), (4, 1, false), (5, 1, false)]), 6, true, [(.string ByteArray.empty), (.int .i64 0), (.int .i64 0), (.int .i64 0), (.int .i64 0), (.int .i64 0)]⟩
theorem ok_43 : ypj Tryz.prog 43 zwd := ⟨zvn, yax (by kernel_rfl), (yit Tryz.underlying43 ⟨⟨rfl, zuk, by decide⟩, ⟨rfl, zob, by decide⟩, ⟨rfl, zob, by decide⟩, ⟨rfl, zob, by decide⟩, ⟨rfl, zob, by decide⟩, ⟨rfl, zob, by decide⟩, trivial⟩)⟩
def zwe : Ty := ⟨(.slc 81 2 true 16 [(.int .i64 0), (.int .i64 0)]), 1, false, [(.slice none 0 0)]⟩
theorem ok_44 : ypj Tryz.prog 44 zwe := ⟨zri, yax (by kernel_rfl), ⟨Tryz.underlying44, zvu, by kernel_rfl, yax (by kernel_rfl), rfl, by decide⟩⟩
def zwf : Ty := ⟨(.slc 50 2 true 32 [(.int .i64 0), (.slice none 0 0)]), 1, false, [(.slice none 0 0)]⟩
theorem ok_45 : ypj Tryz.prog 45 zwf := ⟨zvo, yax (by kernel_rfl), ⟨Tryz.underlying45, zvq, by kernel_rfl, yax (by kernel_rfl), rfl, by decide⟩⟩
def zwg : Ty := ⟨(.strct [(0, 1, false), (1, 1, false), (2, 1, false)]), 3, true, [(.string ByteArray.empty), (.slice none 0 0), (.slice none 0 0)]⟩
theorem ok_47 : ypj Tryz.prog 47 zwg := ⟨zvp, yax (by kernel_rfl), (yit Tryz.underlying47 ⟨⟨rfl, zuk, by decide⟩, ⟨rfl, zri, by decide⟩, ⟨rfl, zvo, by decide⟩, trivial⟩)⟩
def zwh : Ty := ⟨(.strct [(0, 1, false), (1, 1, false)]), 2, true, [(.int .i64 0), (.slice none 0 0)]⟩
theorem ok_50 : ypj Tryz.prog 50 zwh := ⟨zvq, yax (by kernel_rfl), (yit Tryz.underlying50 ⟨⟨rfl, zob, by decide⟩, ⟨rfl, zri, by decide⟩, trivial⟩)⟩
def zwi : Ty := ⟨(.slc 9 1 false 16 [(.string ByteArray.empty)]), 1, false, [(.slice none 0 0)]⟩
theorem ok_51 : ypj Tryz.prog 51 zwi := ⟨zsg, yax (by kernel_rfl), ⟨Tryz.underlying51, zuk, by kernel_rfl, yax (by kernel_rfl), rfl, by decide⟩⟩
def zwj : Ty := ⟨.other, 1, false, [(.pointer none)]⟩
theorem ok_52 : ypj Tryz.prog 52 zwj := ⟨zvr, yax (by kernel_rfl), trivial⟩
def zwk : Ty := ⟨(.strct [(0, 1, false), (1, 1, false)]), 2, true, [(.pointer none), (.slice none 0 0)]⟩
theorem ok_54 : ypj Tryz.prog 54 zwk := ⟨zvs, yax (by kernel_rfl), (yit Tryz.underlying54 ⟨⟨rfl, zvr, by decide⟩, ⟨rfl, zvk, by decide⟩, trivial⟩)⟩
def zwl : Ty := ⟨.other, 1, false, [(.pointer none)]⟩
theorem ok_64 : ypj Tryz.prog 64 zwl := ⟨sz_64, yax (by kernel_rfl), trivial⟩
def zwm : Ty := ⟨(.strct [(0, 1, false), (1, 1, false), (2, 1, false)]), 3, true, [(.string ByteArray.empty), (.slice none 0 0), (.slice none 0 0)]⟩
theorem ok_66 : ypj Tryz.prog 66 zwm := ⟨zvt, yax (by kernel_rfl), (yit Tryz.underlying66 ⟨⟨rfl, zuk, by decide⟩, ⟨rfl, zvl, by decide⟩, ⟨rfl, zsg, by decide⟩, trivial⟩)⟩
def zwn : Ty := ⟨(.strct [(0, 3, true), (3, 3, true), (6, 1, false)]), 7, true, [(.string ByteArray.empty), (.slice none 0 0), (.slice none 0 0), (.string ByteArray.empty), (.slice none 0 0), (.slice none 0 0), (.slice none 0 0)]⟩
theorem ok_68 : ypj Tryz.prog 68 zwn := ⟨sz_68, yax (by kernel_rfl), (yit Tryz.underlying68 ⟨⟨rfl, zvt, by decide⟩, ⟨rfl, zvi, by decide⟩, ⟨rfl, zsg, by decide⟩, trivial⟩)⟩
def zwo : Ty := ⟨.other, 1, false, [(.pointer none)]⟩
theorem ok_79 : ypj Tryz.prog 79 zwo := ⟨sz_79, yax (by kernel_rfl), trivial⟩
def zwp : Ty := ⟨(.strct [(0, 1, false), (1, 1, false)]), 2, true, [(.int .i64 0), (.int .i64 0)]⟩
theorem ok_81 : ypj Tryz.prog 81 zwp := ⟨zvu, yax (by kernel_rfl), (yit Tryz.underlying81 ⟨⟨rfl, zob, by decide⟩, ⟨rfl, zob, by decide⟩, trivial⟩)⟩
def zwq : Ty := ⟨(.strct [(0, 1, false), (1, 1, false)]), 2, true, [(.int .i64 0), (.int .i64 0)]⟩
theorem ok_87 : ypj Tryz.prog 87 zwq := ⟨sz_87, yax (by kernel_rfl), (yit Tryz.underlying87 ⟨⟨rfl, zob, by decide⟩, ⟨rfl, zvj, by decide⟩, trivial⟩)⟩
def ztg : Ty := ⟨.other, 1, false, [(.pointer none)]⟩
theorem ok_103 : ypj Tryz.prog 103 ztg := ⟨sz_103, yax (by kernel_rfl), trivial⟩
def zth : Ty := ⟨(.strct [(0, 2, true), (2, 1, false), (3, 1, false)]), 4, true, [(.pointer none), (.slice none 0 0), (.slice none 0 0), (.slice none 0 0)]⟩
theorem ok_108 : ypj Tryz.prog 108 zth := ⟨sz_108, yax (by kernel_rfl), (yit Tryz.underlying108 ⟨⟨rfl, zvs, by decide⟩, ⟨rfl, zri, by decide⟩, ⟨rfl, zsg, by decide⟩, trivial⟩)⟩
def zti : Ty := ⟨.other, 1, false, [(.pointer none)]⟩
theorem ok_114 : ypj Tryz.prog 114 zti := ⟨sz_114, yax (by kernel_rfl), trivial⟩
def ztj : Ty := ⟨.other, 1, false, [(.pointer none)]⟩
theorem ok_118 : ypj Tryz.prog 118 ztj := ⟨sz_118, yax (by kernel_rfl), trivial⟩
def ztk : Ty := ⟨.other, 1, false, [(.pointer none)]⟩
theorem ok_128 : ypj Tryz.prog 128 ztk := ⟨sz_128, yax (by kernel_rfl), trivial⟩
def ztl : Ty := ⟨(.slc 44 1 false 24 [(.slice none 0 0)]), 1, false, [(.slice none 0 0)]⟩
theorem ok_148 : ypj Tryz.prog 148 ztl := ⟨sz_148, yax (by kernel_rfl), ⟨Tryz.underlying148, zri, by kernel_rfl, yax (by kernel_rfl), rfl, by decide⟩⟩
def TT : Nat → Option Ty := zrj [(1, zxm), (3, zxn), (4, zxo), (5, zxp), (9, zxq), (20, zvv), (22, zvw), (23, zvx), (25, zvy), (28, zvz), (34, zwa), (35, zwb), (39, zwc), (43, zwd), (44, zwe), (45, zwf), (47, zwg), (50, zwh), (51, zwi), (52, zwj), (54, zwk), (64, zwl), (66, zwm), (68, zwn), (79, zwo), (81, zwp), (87, zwq), (103, ztg), (108, zth), (114, zti), (118, ztj), (128, ztk), (148, ztl)]
theorem tok : TOK Tryz.prog TT := ztf ⟨ok_1, ok_3, ok_4, ok_5, ok_9, ok_20, ok_22, ok_23, ok_25, ok_28, ok_34, ok_35, ok_39, ok_43, ok_44, ok_45, ok_47, ok_50, ok_51, ok_52, ok_54, ok_64, ok_66, ok_68, ok_79, ok_81, ok_87, ok_103, ok_108, ok_114, ok_118, ok_128, ok_148, trivial⟩
theorem mixed : Tryz.prog.follows .mixedOrders = true := by kernel_rfl
end
section
open Go.RowKit
variable {N : Nat} {ops : Array Oper} {lf : Oper → Bool} {Q : SS → Prop} {t : List (Nat × AV)} {h : List (Nat × Option LObj)} {rest : List Oper} {d : Nat} {op : Op} {ty : TypeId} {pos : String} {af : Array Edge} {gd : Option (Nat × Bool)} {r : AV}
theorem zI {z : Int} (k : Lex Tryz.prog N ops lf Q rest (S ((d, .v (.int .i64 z)) :: t) h)) (hr : zle TT t h op ty = some (.v (.int .i64 (IntKind.i64.wrap z))) := by rfl) (h0 : -9223372036854775808 ≤ z ∧ z ≤ 9223372036854775807 := by constructor <;> omega) (hw : yan ops (look t) ⟨some d, op, ty, pos, af, gd⟩ = some true := by rfl) (hd : Nat.blt d N = true := by rfl) : Lex Tryz.prog N ops lf Q (⟨some d, op, ty, pos, af, gd⟩ :: rest) (S t h) := L_int tok hr h0 hw hd k
theorem zL {ti e es eb sz z : Nat} {ea ag : Bool} {ez z0 : List Value} {x : Operand} {α : Type} {f : α → List AV} {l : List α} (k : Lex Tryz.prog N ops lf Q rest (S ((d, .v (.int .i64 l.length)) :: t) h)) (hk : TT ti = some ⟨.slc e es ea eb ez, sz, ag, z0⟩ := by rfl) (hx : evF (look t) x = some (.sl z (l.map f)) := by rfl) (hw : yan ops (look t) ⟨some d, .call { callee := .builtin .len, args := #[x], argTypes := #[ti] }, ty, pos, af, gd⟩ = some true := by rfl) (hd : Nat.blt d N = true := by rfl) : Lex Tryz.prog N ops lf Q (⟨some d, .call { callee := .builtin .len, args := #[x], argTypes := #[ti] }, ty, pos, af, gd⟩ :: rest) (S t h) := L_lenMap tok hk hx hw hd k
theorem zC  (k : Lex Tryz.prog N ops lf Q rest (S ((d, r) :: t) h)) (hr : zle TT t h op ty = some r := by rfl) (hw : yan ops (look t) ⟨some d, op, ty, pos, af, gd⟩ = some true := by rfl) (hd : Nat.blt d N = true := by rfl) : Lex Tryz.prog N ops lf Q (⟨some d, op, ty, pos, af, gd⟩ :: rest) (S t h) := zpd tok hr hw hd k
theorem zK (k : Lex Tryz.prog N ops lf Q rest (S ((d, .v undef) :: t) h)) (hw : yan ops (look t) ⟨some d, op, ty, pos, af, gd⟩ = some false := by rfl) (hd : Nat.blt d N = true := by rfl) : Lex Tryz.prog N ops lf Q (⟨some d, op, ty, pos, af, gd⟩ :: rest) (S t h) := L_skip hw hd k
theorem zB {elem : TypeId} {x : Operand} {y : AV} {cs : List AV} (k : Lex Tryz.prog N ops lf Q rest (S ((d, .lp d 0) :: t) ((d, some (.cells cs)) :: h))) (hx : evF (look t) x = some y := by rfl) (hcs : yft y = some cs := by rfl) (h1 : yfe d t = true := by rfl) (h2 : yen d h = true := by rfl) (hm : ment.mentL d cs = false := by rfl) (hl : lf ⟨some d, .box elem x, ty, pos, af, gd⟩ = true := by rfl) (hw : yan ops (look t) ⟨some d, .box elem x, ty, pos, af, gd⟩ = some true := by rfl) (hd : Nat.blt d N = true := by rfl) : Lex Tryz.prog N ops lf Q (⟨some d, .box elem x, ty, pos, af, gd⟩ :: rest) (S t h) := L_box hx hcs h1 h2 hm hl hw hd k
theorem zA {elem : TypeId} {y : Ty} (k : Lex Tryz.prog N ops lf Q rest (S ((d, .lp d 0) :: t) ((d, some (.cells (ywy y.zero))) :: h))) (hy : TT elem = some y := by rfl) (hone : y.zero.all Value.oneCell' = true := by rfl) (h1 : yfe d t = true := by rfl) (h2 : yen d h = true := by rfl) (hl : lf ⟨some d, .alloc elem, ty, pos, af, gd⟩ = true := by rfl) (hw : yan ops (look t) ⟨some d, .alloc elem, ty, pos, af, gd⟩ = some true := by rfl) (hd : Nat.blt d N = true := by rfl) : Lex Tryz.prog N ops lf Q (⟨some d, .alloc elem, ty, pos, af, gd⟩ :: rest) (S t h) := L_alloc tok hy hone h1 h2 hl hw hd k
theorem zS {ti : Nat} {y : Ty} {x v : Operand} {id off : Nat} {xs cs ys : List AV} {u : AV} (k : Lex Tryz.prog N ops lf Q rest (S t ((id, some (.cells ys)) :: h))) (hy : TT ti = some y := by rfl) (hx : evF (look t) x = some (.lp id off) := by rfl) (hv : evF (look t) v = some u := by rfl) (hcs : yft u = some cs := by rfl) (hcl : Nat.beq cs.length y.size = true := by rfl) (hh : yaf h id = some (.cells xs) := by rfl) (hsp : ykm off cs xs = some ys := by rfl) (hl : lf ⟨none, .store ti x v, ty, pos, af, gd⟩ = true := by rfl) (hw : yan ops (look t) ⟨none, .store ti x v, ty, pos, af, gd⟩ = some true := by rfl) : Lex Tryz.prog N ops lf Q (⟨none, .store ti x v, ty, pos, af, gd⟩ :: rest) (S t h) := L_store tok hy hx hv hcs hcl hh hsp hl hw k
theorem zU {ti : Nat} {y : Ty} {parts : List (Nat × Operand)} {ps : List (Nat × AV)} (k : Lex Tryz.prog N ops lf Q rest (S ((d, r) :: t) h)) (hy : TT ti = some y := by rfl) (hone : y.zero.all Value.oneCell' = true := by rfl) (hps : evP (evF (look t)) parts = some ps := by rfl) (hr : zly TT ti ps = some r := by rfl) (hw : yan ops (look t) ⟨some d, .build ti parts.toArray, ty, pos, af, gd⟩ = some true := by rfl) (hd : Nat.blt d N = true := by rfl) : Lex Tryz.prog N ops lf Q (⟨some d, .build ti parts.toArray, ty, pos, af, gd⟩ :: rest) (S t h) := L_build tok hy hone hps hr hw hd k
theorem zV {ti e es eb sz len : Nat} {ea ag : Bool} {ez z : List Value} {parts : List (Nat × Operand)} {ps : List (Nat × AV)} {ys : List AV} {rows : List (List AV)} (k : Lex Tryz.prog N ops lf Q rest (S ((d, .sl es rows) :: t) h)) (hk : TT ti = some ⟨.slc e es ea eb ez, sz, ag, z⟩ := by rfl) (hone : ez.all Value.oneCell' = true := by rfl) (hps : evP (evF (look t)) parts = some ps := by rfl) (hf : zal (fun i => some (i * es, es)) (yus len (ywy ez)) ps = some ys := by rfl) (hpu : ybc.pureL ys = true := by rfl) (hch : yxk es len ys = some rows := by rfl) (hlim : Nat.ble (len * es) 16777216 = true := by rfl) (hw : yan ops (look t) ⟨some d, .buildSlice ti len parts.toArray, ty, pos, af, gd⟩ = some true := by rfl) (hd : Nat.blt d N = true := by rfl) : Lex Tryz.prog N ops lf Q (⟨some d, .buildSlice ti len parts.toArray, ty, pos, af, gd⟩ :: rest) (S t h) := L_buildSlice tok hk hone hps hf hpu hch hlim hw hd k
theorem zF {f : Nat} {caps : List Operand} {xs : List AV} (k : Lex Tryz.prog N ops lf Q rest (S ((d, .fn f xs) :: t) h)) (hx : evL (evF (look t)) caps = some xs := by rfl) (hw : yan ops (look t) ⟨some d, .makeFunc (.func f) #[] caps.toArray, ty, pos, af, gd⟩ = some true := by rfl) (hd : Nat.blt d N = true := by rfl) : Lex Tryz.prog N ops lf Q (⟨some d, .makeFunc (.func f) #[] caps.toArray, ty, pos, af, gd⟩ :: rest) (S t h) := L_makeFunc hx hw hd k
theorem zX {ti e es eb sz : Nat} {ea ag : Bool} {ez z : List Value} {x y : Operand} {ki : IntKind} {i : Int} {rows : List (List AV)} {row : List AV} (k : Lex Tryz.prog N ops lf Q rest (S ((d, .dp row 0) :: t) h)) (hk : TT ti = some ⟨.slc e es ea eb ez, sz, ag, z⟩ := by rfl) (hx : evF (look t) x = some (.sl es rows) := by rfl) (hy : evF (look t) y = some (.v (.int ki i)) := by rfl) (h0 : 0 ≤ i := by omega) (hrow : rows[i.toNat]? = some row := by first | exact ybo (by assumption) | exact ygt (by assumption)) (hw : yan ops (look t) ⟨some d, .indexAddr ti x y, ty, pos, af, gd⟩ = some true := by rfl) (hd : Nat.blt d N = true := by rfl) : Lex Tryz.prog N ops lf Q (⟨some d, .indexAddr ti x y, ty, pos, af, gd⟩ :: rest) (S t h) := yas tok hk hx hy h0 hrow hw hd k
theorem zR {Q : Exit → SS → Prop} {s : SS} {id : Nat} {l : List Oper} (k : Lex Tryz.prog N l.toArray lfT (Q .normal) l s) (hn : yhr l = true := by rfl) : A Tryz.prog N (.region id l.toArray false) Q s := yac (lf := lfT) hn k
theorem zD {Q : Exit → SS → Prop} {s : SS} {id : Nat} {l : List Oper} (k : Lex Tryz.prog N l.toArray lf0 (Q .normal) l s) (hB : zpo lf0 l = true := by kernel_rfl) (hD : ytw N l = true := by rfl) : A Tryz.prog N (.region id l.toArray true) Q s := ybp (lf := lf0) mixed hB hD k
theorem zT {Q : Exit → SS → Prop} {s : SS} {c : Operand} {x y : Code} (k : A Tryz.prog N x Q s) (hc : evF s.t c = some (.v (.bool true)) := by rfl) : A Tryz.prog N (.cond c x y) Q s := yag hc (fun _ => k) (fun e => by cases e)
theorem zE {Q : Exit → SS → Prop} {s : SS} {c : Operand} {x y : Code} (k : A Tryz.prog N y Q s) (hc : evF s.t c = some (.v (.bool false)) := by rfl) : A Tryz.prog N (.cond c x y) Q s := yag hc (fun e => by cases e) (fun _ => k)
structure Zk (q : Prop) : Prop where
 out : q
theorem zy {p q : Prop} (k : q) (h : Zk q → p := by intro hq; (first | refine zI ?_ | refine zL ?_ | refine zC ?_ | refine yoh ?_ | refine yvj ?_ | refine zR ?_ | refine zD ?_ | refine zK ?_ | refine zB ?_ | refine zA ?_ | refine zS ?_ | refine zU ?_ | refine zV ?_ | refine zF ?_ | with_reducible refine ylk ?_ | with_reducible refine yqj ?_ | refine ylb ?_ | refine ynd ?_ | refine yov ?_ | refine zT ?_ | refine zE ?_ | refine zX ?_ | refine yhu rfl rfl rfl rfl ?_); (repeat (first | refine zI ?_ | refine zL ?_ | refine zC ?_ | refine yoh ?_ | refine yvj ?_ | refine zR ?_ | refine zD ?_ | refine zK ?_ | refine zB ?_ | refine zA ?_ | refine zS ?_ | refine zU ?_ | refine zV ?_ | refine zF ?_ | with_reducible refine ylk ?_ | with_reducible refine yqj ?_ | refine ylb ?_ | refine ynd ?_ | refine yov ?_ | refine zT ?_ | refine zE ?_ | refine zX ?_ | refine yhu rfl rfl rfl rfl ?_)); exact hq.out) : p := h ⟨k⟩
theorem zw {p q : Prop} (k : q) (h : Zk q → p := by intro hq; (first | refine zI ?_ | refine zL ?_ | refine zC ?_ | refine yoh ?_ | refine yvj ?_ | refine zR ?_ | refine zK ?_ | refine zB ?_ | refine zA ?_ | refine zS ?_ | refine zU ?_ | refine zV ?_ | refine zF ?_ | with_reducible refine ylk ?_ | with_reducible refine yqj ?_ | refine ylb ?_ | refine ynd ?_ | refine yov ?_ | refine zT ?_ | refine zE ?_ | refine zX ?_ | refine yhu rfl rfl rfl rfl ?_); (repeat (first | refine zI ?_ | refine zL ?_ | refine zC ?_ | refine yoh ?_ | refine yvj ?_ | refine zR ?_ | refine zK ?_ | refine zB ?_ | refine zA ?_ | refine zS ?_ | refine zU ?_ | refine zV ?_ | refine zF ?_ | with_reducible refine ylk ?_ | with_reducible refine yqj ?_ | refine ylb ?_ | refine ynd ?_ | refine yov ?_ | refine zT ?_ | refine zE ?_ | refine zX ?_ | refine yhu rfl rfl rfl rfl ?_)); exact hq.out) : p := h ⟨k⟩
theorem zo {p q : Prop} (k : q) (h : Zk q → p := by intro hq; (first | refine zI ?_ | refine zL ?_ | refine zC ?_ | refine zK ?_ | refine zB ?_ | refine zA ?_ | refine zS ?_ | refine zU ?_ | refine zV ?_ | refine zF ?_ | refine zX ?_ | refine yoh ?_ | refine yhu rfl rfl rfl rfl ?_); (repeat (first | refine zI ?_ | refine zL ?_ | refine zC ?_ | refine zK ?_ | refine zB ?_ | refine zA ?_ | refine zS ?_ | refine zU ?_ | refine zV ?_ | refine zF ?_ | refine zX ?_ | refine yoh ?_ | refine yhu rfl rfl rfl rfl ?_)); exact hq.out) : p := h ⟨k⟩
theorem zt {p q : Prop} (k : q) (h : Zk q → p := by intro hq; (repeat (first | with_reducible refine yqj ?_ | with_reducible refine ylk ?_ | refine ynd ?_ | refine yvj ?_ | refine ylb ?_)); exact hq.out) : p := h ⟨k⟩
theorem zs {t t' : List (Nat × AV)} (h : zsf t t' := by (repeat (first | exact zgw | refine yke rfl ?_))) : zsf t t' := h
theorem zh {t t' : List (Nat × Option LObj)} (h : zdd t t' := by first | exact yai | exact yab rfl yai | exact yab rfl (yab rfl yai) | exact yab rfl (yab rfl (yab rfl yai)) | exact yab rfl (yab rfl (yab rfl (yab rfl yai)))) : zdd t t' := h
end
set_option maxHeartbeats 4000000
section
open Go.RowKit
def zfc (P : Program) (N : Nat) (o : Oper) (s : SS) (D : List PanicEntry → SS → Prop) : Prop :=
 ∀ (B : Bse) (ok0 : Nat → Prop) (lv : Live) (a : Act) (w : World), Sim B ok0 N s lv a w → ∀ (K : Act → World → Prop) (Q : Exit → Act → World → Prop), (∀ ch a' w', (∃ s' lv', D ch s' ∧ Sim B ok0 N s' lv' a' w') → Q (.panic ch) a' w') → o.wp P a w K Q
variable {P : Program} {N : Nat}
theorem lex_opsK {ops : Array Oper} {lf : Oper → Bool} {Q : SS → Prop} {B : Bse} {ok0 : Nat → Prop} {Q' : Exit → Act → World → Prop} {n : Nat} {rest : List Nat} (hQ : ∀ s lv a w, Q s → Sim B ok0 N s lv a w → wpOpsIn (FW B.rd) n P ops Q' rest a w) {l : List Oper} {s : SS} (hnd : ∀ (i : Nat) (o : Oper), ops[i]? = some o → ywa o.op = false)
  (h : Lex P N ops lf Q l s) : ∀ (k : Nat), (∀ (j : Nat) (o : Oper), l[j]? = some o → ops[k + j]? = some o) → ∀ (lv : Live) (a : Act) (w : World), Sim B ok0 N s lv a w → wpOpsIn (FW B.rd) n P ops Q' (List.range' k l.length ++ rest) a w := by
 induction h with
 | nil h => intro k hl lv a w hs; exact hQ _ lv a w h hs
 | @calm o l s r hw hd hy k ih =>
  intro k hl lv a w hs
  have h0 : ops[k]? = some o := by simpa using hl 0 o rfl
  simp only [List.length_cons, List.range'_succ, List.cons_append, wpOpsIn, h0, hs.wanted hw, if_true]
  exact yon (hnd k o h0) (yzq hs hd hy Q' fun a' w' hs' => ih (k + 1) (fun j o' ho' => by have := hl (j + 1) o' (by simpa using ho'); rwa [show k + (j + 1) = k + 1 + j by omega] at this) lv a' w' hs')
 | @skip o l s hw hd k ih =>
  intro k hl lv a w hs
  have h0 : ops[k]? = some o := by simpa using hl 0 o rfl
  simp only [List.length_cons, List.range'_succ, List.cons_append, wpOpsIn, h0, hs.wanted hw, Bool.false_eq_true, if_false]
  exact ⟨fun _ _ => trivial, ih (k + 1) (fun j o' ho' => by have := hl (j + 1) o' (by simpa using ho'); rwa [show k + (j + 1) = k + 1 + j by omega] at this) lv _ w (hs.put hd hs.inv (Below.refl _ _) (.v _))⟩
 | @loud o l s R hl' hw hy k ih =>
  intro k hl lv a w hs
  have h0 : ops[k]? = some o := by simpa using hl 0 o rfl
  simp only [List.length_cons, List.range'_succ, List.cons_append, wpOpsIn, h0, hs.wanted hw, if_true]
  refine yon (hnd k o h0) (Oper.wp_mono (fun a' w' ⟨s', lv', hR, hs'⟩ => ?_) (hy B ok0 lv a w hs Q'))
  exact ih s' hR (k + 1) (fun j o' ho' => by have := hl (j + 1) o' (by simpa using ho'); rwa [show k + (j + 1) = k + 1 + j by omega] at this) lv' a' w' hs'
 | @split l s d b hb k ih =>
  intro k hl lv a w hs
  refine ih b rfl k hl lv a w ?_
  rw [ykf hb]
  exact hs
theorem yaz {Q : Exit → SS → Prop} {s : SS} {lf : Oper → Bool} {id : Nat} {l : List Oper} (k : Nat) {o : Oper} {l1 : List Oper} (hnd : yhr l = true) (hk : l[k]? = some o) (h1 : l.take k = l1) (h : Lex P N l.toArray lf (fun s1 => yan l.toArray s1.t o = some true ∧ zfc P N o s1 fun ch s' => Q (.panic ch) s') l1 s) : A P N (.region id l.toArray false) Q s := by
 intro B ok0 lv a w hs
 have hlt := (List.getElem?_eq_some_iff.1 hk).1
 have hlen : l1.length = k := by rw [← h1, List.length_take]; omega
 refine wpIn_region ?_
 have hsp : List.range l.toArray.size = List.range' 0 l1.length ++ (k :: List.range' (k + 1) (l.length - k - 1)) := by
  rw [List.size_toArray, List.range_eq_range', hlen]
  have e : l.length = k + ((l.length - k - 1) + 1) := by omega
  conv => lhs; rw [e]
  rw [← List.range'_append_1, Nat.zero_add, List.range'_succ]
 rw [hsp]
 refine lex_opsK (fun s1 lv1 a1 w1 hq hs1 => ?_) (ylo hnd) h 0 (fun j o' ho' => ?_) lv a w hs
 ·have h0 : l.toArray[k]? = some o := by simpa using hk
  simp only [wpOpsIn, h0, hs1.wanted hq.1, if_true]
  exact yon (ylo hnd k o h0) (hq.2 B ok0 lv1 a1 w1 hs1 _ _ fun ch a' w' hh => hh)
 ·rw [← h1, List.getElem?_take] at ho'
  split at ho'
  ·rw [Nat.zero_add]; simpa using ho'
  ·cases ho'
def zrn (P : Program) (f : FuncId) (args : List AV) (hs : Nat → Option LObj) (ch : List PanicEntry) : Prop :=
 ypi P f ∧ ∀ (ok0 : Nat → Prop) (lv : Live) (w : World) (us : List Value), Inv (yga w lv) ok0 hs lv w → yck (ybt (yga w lv) ok0 lv w) w lv args us →
  Calls P f us.toArray w fun e w' => e = .panicked ch ∧ ∃ lv', Inv (yga w lv) ok0 (fun _ => none) lv' w'
def zuo (ch : List PanicEntry) : Exit → SS → Prop
 | .panic c, _ => c = ch
 | _, _ => False
theorem yue {P : Program} {fn : Func} {R : Ending → World → Prop} {B : Bse} {ok0 : Nat → Prop} {N : Nat} {s : SS} {lv : Live} (hB : B.dl = []) {n : Nat} {fr : FrameMode} {ch : List PanicEntry} (hfr : fr = .panicking ch) {tm : Array Value}
  (fin : ∀ (a : Act) (w : World), Sim B ok0 N s lv a w → LeavesIn Fence.wide n P fn tm R [] fr w) : ∀ (ms : List Deferred) (a : Act) (w : World), a.defers = ms → Sim B ok0 N s lv a w → LeavesInM Fence.wide n P fn tm R a.defers fr w
 | [], a, w, hm, hs => by rw [hm]; exact fin a w hs
 | d :: ms, a, w, hm, hs => by
  obtain ⟨ms', h1, hn, h2⟩ := hs.defers
  rw [hB, List.append_nil, hm] at h1
  subst h1
  obtain ⟨D, hd, hD, hge⟩ := h2 d (by simp)
  rw [hm]
  refine ⟨by rw [hfr]; simp, .inl ⟨D, _, by rw [hd], run_takeDeferred hD, ?_⟩⟩
  simp only [List.nodup_cons] at hn
  have hsh := Shut.put hD
  have hs' := hs.shut hsh (fun k hk => World.putObj_heap_other (by omega)) (l := ms) ⟨ms, by rw [hB, List.append_nil], hn.2, fun d' hd' => by
   obtain ⟨D', e1, e2, e3⟩ := h2 d' (by simp [hd'])
   refine ⟨D', e1, (World.putObj_heap_other fun e => ?_).trans e2, e3⟩
   subst e
   exact hn.1 (by rw [hd, ← e1]; exact hd')⟩
  exact yue hB hfr fin ms { a with defers := ms } _ rfl hs'
theorem zfj {P : Program} {f : FuncId} {fn : Func} {c : Code} {N : Nat} {args : List AV} {hs : Nat → Option LObj} {ch : List PanicEntry} (hf : P.funcs[f]? = some fn) (hn : (fn.name == "runtime.NumGoroutine") = false) (hb : fn.body = some c) (hN : fn.ntmps = N) (hlen : (Nat.ble args.length N && Nat.ble N 1000000) = true)
  (h : A P N c (zuo ch) ⟨look (yid 0 args), hs⟩) : zrn P f args hs ch := by
 refine ⟨⟨fn, hf, hn, by simp [hb]⟩, fun ok0 lv w us hi hus => ?_⟩
 simp only [Bool.and_eq_true, Nat.ble_eq] at hlen
 obtain ⟨hlen', hbig⟩ := hlen
 refine (callsIn_wide (n := 0)).1 (callsIn_of_wp_marks hf hb trivial ?_)
 have hsim : Sim ⟨w, ypx lv, fun id => (lv id).bind (·.1), none, [], fun _ => undef⟩ ok0 N ⟨look (yid 0 args), hs⟩ lv { tmps := us.toArray ++ Array.replicate (fn.ntmps - us.toArray.size) undef, defers := [] } w := by
  refine ⟨hi.pinned _ _ _ _ (fun l h => by cases h), ?_, fun x y hy => ?_, ⟨[], rfl, List.nodup_nil, fun d hd => by cases hd⟩, hbig, fun id b o hN hx hc hb => ?_⟩
  ·simp [hN, hus.1]; omega
  ·simp only [ynm] at hy
   have hlt := (List.getElem?_eq_some_iff.1 hy).1
   refine ⟨.inl (by omega), ?_⟩
   rw [yfi, if_pos (by omega)]
   obtain ⟨u, hu⟩ : ∃ u, us[x]? = some u := ⟨_, List.getElem?_eq_getElem (by rw [hus.1]; exact hlt)⟩
   simp only [ypv us _ x u hu]
   exact hus.2 x y u hy hu
  ·simp only at hb
   cases hl : lv id with
   | none => simp [hl] at hb
   | some q => obtain ⟨q1, q2⟩ := q; simp [hl] at hb; subst hb; exact ⟨q2, rfl⟩
 refine wpIn_mono (h _ ok0 _ _ w hsim) fun e a' w' ⟨s', lv', hq, hs2⟩ => ?_
 cases e with
 | panic c =>
  obtain rfl : c = ch := hq
  refine yue rfl rfl (fun a2 w2 hs3 => ?_) _ a' w' rfl hs2
  obtain ⟨lv2, i1, i2, i3⟩ := hs3.inv.weak (h' := fun _ => none) (fun id x hx => by cases hx)
  exact ⟨rfl, lv2, i1.pinned _ _ _ _ (fun l h => by cases h)⟩
 | _ => exact hq.elim
theorem callP_die {o : Oper} {g : Operand} {args : List Operand} {ats : Array TypeId} {f : FuncId} {caps xs args0 : List AV} {hm : Nat → Option LObj} {ch : List PanicEntry} {σ : Nat → Nat} {ids : List Nat} {s : SS} {h2 : Nat → Option LObj}
  (ho : o.op = .call { callee := .value g, args := args.toArray, argTypes := ats }) (hg : evF s.t g = some (.fn f caps)) (hx : evL (evF s.t) args = some xs) (hargs : xs ++ caps = args0.map (ygc σ)) (hc : zrn P f args0 hm ch)
  (hinj : ∀ i ∈ ids, ∀ j ∈ ids, σ i = σ j → i = j) (hdom : ∀ id, (hm id).isSome → id ∈ ids) (hmem : ∀ id o, hm id = some o → s.h (σ id) = some (yzf σ o))
  (hh2 : ∀ j ob', h2 j = some ob' → (∀ i ∈ ids, σ i ≠ j ∧ ygr (σ i) ob' = false) ∧ s.h j = some ob') : zfc P N o s (fun c s' => c = ch ∧ s' = ⟨fun _ => none, h2⟩) := by
 intro B ok0 lv a w hs K Q hQ
 have hfr := hs.eval hg
 have har := ysj (a := a) args xs (fun x y _ hxy => hs.eval hxy) hx
 generalize hv : a.eval g = v at hfr
 cases hfr with
 | fn vs hl hrc =>
 have hrun : (execOp a.eval o).run P w = .ok (.enter f (args.map a.eval ++ vs).toArray) w := by
  unfold execOp
  simp only [ho, resolve, Deferred.ofValue, hv, Sem.run_bind, Sem.run_pure, Result.andThen_ok, invoke]
  rw [ykd hc.1]
  simp
 let lv1 : Live := fun id => if id ∈ ids ∧ (hm id).isSome then lv (σ id) else none
 have hl1 : ∀ id b n, lv1 id = some (b, n) → id ∈ ids ∧ (hm id).isSome ∧ lv (σ id) = some (b, n) := by
  intro id b n hb
  simp only [lv1] at hb
  split at hb
  ·rename_i h; exact ⟨h.1, h.2, hb⟩
  ·cases hb
 have hl2 : ∀ id b n, lv1 id = some (b, n) → lv (σ id) = some (b, n) := fun id b n h => (hl1 id b n h).2.2
 have hmine : ∀ b, ypx lv1 b → B.mine b ∧ b < w.heap.size ∧ ∃ i ∈ ids, ∃ n, lv (σ i) = some (some b, n) := by
  rintro b ⟨id, n, hb⟩
  obtain ⟨h1, h2, h3⟩ := hl1 id _ n hb
  obtain ⟨_, _, h4, h5, _⟩ := hs.inv.lvat h3
  exact ⟨h4, h5, id, h1, n, h3⟩
 have hok1 : ∀ g, ybt B ok0 lv w g → ybt (yga w lv1) (ybt B ok0 lv w) lv1 w g := fun g hg => ⟨.inl hg, hg.2.1, fun id b n hb => hg.2.2 (σ id) b n (hl2 id _ n hb)⟩
 have hinv : Inv (yga w lv1) (ybt B ok0 lv w) hm lv1 w := by
  refine ⟨⟨rfl, rfl, rfl, Nat.le_refl _, fun _ _ _ => rfl, hs.inv.base.glob, hs.inv.base.glob.size, fun k hk => hs.inv.base.mineG (hmine k hk).1, fun l h => by cases h⟩, fun g hg => hg.2.1, fun id hid => by simp [lv1, hid], fun i j b n m h1 h2 => ?_, fun id x hx => ?_⟩
  ·obtain ⟨q1, _, q2⟩ := hl1 _ _ _ h1
   obtain ⟨r1, _, r2⟩ := hl1 _ _ _ h2
   exact hinj i q1 j r1 (hs.inv.inj _ _ b n m q2 r2)
  ·obtain ⟨b, n, h1, h2⟩ := hs.inv.obj (σ id) _ (hmem id x hx)
   have hlv : lv1 id = some (b, n) := by simp [lv1, hdom id (by simp [hx]), hx, h1]
   refine ⟨b, n, hlv, ?_⟩
   cases b with
   | none => exact zgk h2
   | some b => exact ⟨.inl ⟨id, n, hlv⟩, h2.2.1, yhn.unren hl2 hok1 h2.2.2⟩
 have hall : yck (ybt (yga w lv1) (ybt B ok0 lv w) lv1 w) w lv1 args0 (args.map a.eval ++ vs) := by
  have hlen : (args.map a.eval ++ vs).length = args0.length := by
   have := congrArg List.length hargs
   simp only [List.length_append, List.length_map] at this ⊢
   have := har.1
   simp at this
   omega
  refine ⟨hlen, fun i x u hx hu => ?_⟩
  have hxi : (xs ++ caps)[i]? = some (ygc σ x) := by rw [hargs]; simp [hx]
  have hrel : Rel (ybt B ok0 lv w) w lv (ygc σ x) u := by
   by_cases hlt : i < xs.length
   ·rw [List.getElem?_append_left hlt] at hxi
    rw [List.getElem?_append_left (by rw [har.1]; exact hlt)] at hu
    exact har.2 i _ u hxi hu
   ·rw [List.getElem?_append_right (by omega)] at hxi
    rw [List.getElem?_append_right (by rw [har.1]; omega), har.1] at hu
    exact hrc _ _ u hxi hu
  exact (Rel.unren hl2 hrel).keep fun g hg => ⟨hok1 g hg, rfl⟩
 unfold Oper.wp
 rw [hrun]
 refine (hc.2 (ybt B ok0 lv w) lv1 w (args.map a.eval ++ vs) hinv hall).mono fun e w' ⟨he, lv3, hi3⟩ => ?_
 subst he
 have hb3 := hi3.base
 have hstay : ∀ k, k < w.heap.size → (∀ i ∈ ids, ∀ n, lv (σ i) ≠ some (some k, n)) → w'.heap[k]? = w.heap[k]? := by
  intro k hk hn
  exact hb3.block k hk fun hlent => by
   obtain ⟨_, _, i, hi, n, hn'⟩ := hmine k hlent
   exact hn i hi n hn'
 have hsz : w.heap.size ≤ w'.heap.size := hb3.size
 let lv2 : Live := fun j => if (h2 j).isSome then lv j else none
 have hlv2 : ∀ j b n, lv2 j = some (b, n) → lv j = some (b, n) ∧ ∃ ob, h2 j = some ob := by
  intro j b n hb
  simp only [lv2] at hb
  split at hb
  ·rename_i h; exact ⟨hb, Option.isSome_iff_exists.1 h⟩
  ·cases hb
 have hnl : ∀ j b n, lv2 j = some (some b, n) → ∀ i ∈ ids, ∀ n', lv (σ i) ≠ some (some b, n') := by
  intro j b n hb i hi n' hn'
  obtain ⟨h1, ob, h3⟩ := hlv2 j _ n hb
  exact ((hh2 j ob h3).1 i hi).1 (hs.inv.inj _ _ b n' n hn' h1)
 have hok2 : ∀ g, ybt B ok0 lv w g → ybt B ok0 lv2 w' g ∧ w'.heap[g]? = w.heap[g]? := by
  intro g hg
  exact ⟨⟨hg.1, Nat.lt_of_lt_of_le hg.2.1 hsz, fun j b n hb => hg.2.2 j b n (hlv2 j _ n hb).1⟩, hstay g hg.2.1 fun i _ n hn => hg.2.2 _ _ n hn rfl⟩
 refine hQ ch a w' ⟨⟨fun _ => none, h2⟩, lv2, ⟨rfl, rfl⟩, ⟨⟨?_, hs.inv.ok0lt, fun j hj => ?_, fun i j b n m h1 h2' => ?_, fun j x hx => ?_⟩, hs.size, (fun x y hy => by cases hy), hs.defers.same (fun g hg => (hstay g (Array.getElem?_eq_some_iff.1 hg).1 fun i hi n hn => (hs.inv.lvat hn).choose_spec.2.2.2.notDef hg).trans hg), hs.big, fun j b o' hN hj hcj hb => ?_⟩⟩
 ·refine ⟨hb3.os.trans hs.inv.base.os, hb3.tape.trans hs.inv.base.tape, hb3.output.trans hs.inv.base.output, Nat.le_trans hs.inv.base.size hsz, fun k hk hnl => ?_, hb3.glob, hs.inv.base.gsize, hs.inv.base.lentG, hs.inv.base.rdok⟩
  refine (hstay k (Nat.lt_of_lt_of_le hk hs.inv.base.size) fun i hi n hn => ?_).trans (hs.inv.base.block k hk hnl)
  obtain ⟨_, _, q1, _, _⟩ := hs.inv.lvat hn
  rcases q1 with q1 | q1
  ·exact hnl q1
  ·omega
 ·show lv2 j = none
  simp only [lv2]
  rw [if_neg (by rw [show h2 j = none from hj]; simp)]
 ·exact hs.inv.inj i j b n m (hlv2 i _ n h1).1 (hlv2 j _ m h2').1
 ·obtain ⟨hne, hsj⟩ := hh2 j x hx
  obtain ⟨b, n, h1, h3⟩ := hs.inv.obj j x hsj
  have hl : lv2 j = some (b, n) := by
   show (if (h2 j).isSome = true then lv j else none) = _
   rw [if_pos (by rw [show h2 j = some x from hx]; rfl)]; exact h1
  refine ⟨b, n, hl, ?_⟩
  cases b with
  | none => exact h3
  | some b =>
   refine ⟨h3.1, Nat.lt_of_lt_of_le h3.2.1 hsz, ?_⟩
   exact (h3.2.2.relive fun i b' n' hb' _ => (hlv2 i b' n' hb').1).keep hok2 (hstay b h3.2.1 (hnl j b n hl))
 ·obtain ⟨hne, hsj⟩ := hh2 j o' hj
  obtain ⟨n, hn⟩ := hs.pin j b o' hN hsj hcj hb
  exact ⟨n, by show (if (h2 j).isSome = true then lv j else none) = _; rw [if_pos (by rw [show h2 j = some o' from hj]; rfl)]; exact hn⟩
theorem panic_die {o : Oper} {x : Operand} {t : TypeId} {u : Value} {s : SS} (ho : o.op = .panic x) (hx : evF s.t x = some (.v (.iface t u))) : zfc P N o s (fun c s' => c = [{ v := .iface t u, recovered := false }] ∧ s' = s) := by
 intro B ok0 lv a w hs K Q hQ
 have hv := hs.eval hx
 have hrun : (execOp a.eval o).run P w = .halt (.panic (.iface t u)) w := by
  have e : a.eval x = .iface t u := yfp hv
  unfold execOp
  simp [ho, Instr.panic, e, goPanic]
 unfold Oper.wp
 rw [hrun]
 exact hQ _ a w ⟨s, lv, ⟨rfl, rfl⟩, hs⟩
theorem zfc.mono {o : Oper} {s : SS} {D D' : List PanicEntry → SS → Prop} (h : zfc P N o s D) (hD : ∀ c s', D c s' → D' c s') : zfc P N o s D' :=
 fun B ok0 lv a w hs K Q hQ => h B ok0 lv a w hs K Q fun ch a' w' ⟨s', lv', h1, h2⟩ => hQ ch a' w' ⟨s', lv', hD ch s' h1, h2⟩
variable {t : List (Nat × AV)} {h : List (Nat × Option LObj)} {ty : TypeId} {pos : String} {af : Array Edge} {gd : Option (Nat × Bool)}
theorem dieC (sg : List (Nat × Nat)) {dst : Option Tmp} {g : Operand} {args : List Operand} {ats : Array TypeId} {f : FuncId} {caps xs args0 : List AV} {hs : List (Nat × Option LObj)} {ch : List PanicEntry} {D : List PanicEntry → SS → Prop} (hc : zrn P f args0 (yaf hs) ch) (hg : evF (look t) g = some (.fn f caps)) (hx : evL (evF (look t)) args = some xs)
  (hargs : xs ++ caps = args0.map (ygc (yey sg))) (hv : yfv (ycv sg) = true) (hd1 : ytv (ybv sg) hs = true) (hsub : zdd h (zot sg hs)) (hD : D ch ⟨fun _ => none, fun _ => none⟩) : zfc P N ⟨dst, .call { callee := .value g, args := args.toArray, argTypes := ats }, ty, pos, af, gd⟩ (S t h) D := by
 refine (callP_die (σ := yey sg) (ids := ybv sg) (h2 := fun _ => none) rfl hg hx hargs hc (yvc hv) (yhy hd1) (fun id o ho => yrd hsub id o ho) (fun j ob hj => by cases hj)).mono ?_
 rintro c s' ⟨rfl, rfl⟩
 exact hD
theorem zxh {dst : Option Tmp} {x : Operand} {tt : TypeId} {u : Value} {D : List PanicEntry → SS → Prop} (hx : evF (look t) x = some (.v (.iface tt u))) (hD : D [{ v := .iface tt u, recovered := false }] (S t h)) : zfc P N ⟨dst, .panic x, ty, pos, af, gd⟩ (S t h) D := by
 refine (panic_die rfl hx).mono ?_
 rintro c s' ⟨rfl, rfl⟩
 exact hD
end
section
open Go.RowKit
def ztu : List (Nat × AV) → List (Nat × AV)
 | [] => []
 | (x, y) :: t => (x + 1000000, y) :: ztu t
theorem look_aside : ∀ (t : List (Nat × AV)) (x : Nat), look (ztu t) (x + 1000000) = look t x
 | [], x => rfl
 | (a, y) :: t, x => by
  simp only [ztu, look]
  have e : Nat.beq (x + 1000000) (a + 1000000) = Nat.beq x a := by
   cases h : Nat.beq x a with
   | true => rw [Nat.eq_of_beq_eq_true h]; simp
   | false =>
    refine ygk fun e => ?_
    obtain rfl : x = a := by omega
    simp at h
  rw [e]
  cases Nat.beq x a with
  | true => rfl
  | false => exact look_aside t x
def yto (n : Nat) : List (Nat × AV) → Bool
 | [] => true
 | (x, _) :: t => Nat.blt x n && yto n t
theorem ynf {n : Nat} : ∀ {t : List (Nat × AV)}, yto n t = true → ∀ x y, look t x = some y → x < n
 | [], _, x, y, h => by simp [look] at h
 | (a, z) :: t, hl, x, y, h => by
  simp only [yto, Bool.and_eq_true, Nat.blt_eq] at hl
  simp only [look] at h
  cases hb : Nat.beq x a with
  | true => rw [Nat.eq_of_beq_eq_true hb]; exact hl.1
  | false => simp only [hb] at h; exact ynf hl.2 x y h
def zrp : List (Nat × AV) → List (Nat × AV)
 | [] => []
 | (x, y) :: t => match Nat.ble 1000000 x with
  | true => zrp t
  | false => (x, y) :: zrp t
theorem zbe : ∀ {t : List (Nat × AV)} {x : Nat}, look (zrp t) x = match Nat.ble 1000000 x with | true => none | false => look t x
 | [], x => by cases h : Nat.ble 1000000 x <;> rfl
 | (a, z) :: t, x => by
  have ih := zbe (t := t) (x := x)
  simp only [zrp]
  cases ha : Nat.ble 1000000 a with
  | true =>
   simp only
   rw [ih]
   cases hx : Nat.ble 1000000 x with
   | true => rfl
   | false =>
    simp only [look]
    rw [ygk (fun e => by subst e; rw [ha] at hx; cases hx)]
  | false =>
   simp only [look]
   cases hb : Nat.beq x a with
   | true => rw [Nat.eq_of_beq_eq_true hb, ha]
   | false => simp only; rw [ih]
section
variable {P : Program} {n : Nat} {ops : Array Oper} {Q : Exit → Act → World → Prop} {a : Act} {w : World}
end
end
end Go.Proofs.YtefiainojfeagaaGreatDoor
