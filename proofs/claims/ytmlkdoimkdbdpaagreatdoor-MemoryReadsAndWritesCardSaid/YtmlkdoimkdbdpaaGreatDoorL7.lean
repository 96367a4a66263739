/- Part 7 of the texts under MemoryReadsAndWrites,MemoryReadsBack: joined, with what it needs alone. -/
import Derived.Lib.UnsafeStr
import Derived.Lib.Builder
import Derived.Laws.Externs
import Derived.Laws.Pointers
import Derived.LaidEqlPtr
import Derived.RangeFuncNested
import Derived.RangeFuncSeq
import Derived.Test.YtmlkdoimkdbdpaaGreatDoorL6
set_option linter.unusedVariables false
namespace Go.Proofs.YtmlkdoimkdbdpaaGreatDoor
open Go.RowKit
section
variable {P : Program} {T : Nat → Option Ty} {N : Nat} {ops : Array Oper} {lf : Oper → Bool} {Q : SS → Prop} {t : List (Nat × AV)} {h : List (Nat × Option LObj)} {rest : List Oper} {d : Nat} {op : Op} {ty : TypeId} {pos : String} {af : Array Edge} {gd : Option (Nat × Bool)} {r : AV}
theorem Sim.ownHT {B : Bse} {ok0 : Nat → Prop} {s : SS} {lv : Live} {a : Act} {w : World} (hs : Sim B ok0 N s lv a w) {id : Nat} (e0 : TypeId) (hf : Fresh s id) :
    ∃ lv', Sim B ok0 N ⟨s.t, ydm s.h id (some (.tvec e0 []))⟩ lv' a w ∧ ∀ size, Rel (ybo B ok0 lv' w) w lv' (.ls id size 0) (.slice none 0 0) := by
  have hid : lv id = none := hs.inv.dom id hf.1
  have hsame : ∀ j b n, (fun j => if j = id then some (none, 0) else lv j : Live) j = some (some b, n) → lv j = some (some b, n) := by
    intro j b n hj
    simp only at hj
    split at hj
    · cases hj
    · exact hj
  have hok : ∀ g, ybo B ok0 lv w g → ybo B ok0 (fun j => if j = id then some (none, 0) else lv j) w g := fun g hg => ⟨hg.1, hg.2.1, fun j b n hj => hg.2.2 j b n (hsame j b n hj)⟩
  have hre : ∀ (x : AV) (u : Value), ment id x = false → Rel (ybo B ok0 lv w) w lv x u → Rel (ybo B ok0 (fun j => if j = id then some (none, 0) else lv j) w) w (fun j => if j = id then some (none, 0) else lv j) x u := fun x u hm hr =>
    (hr.relive fun j b n hj hmj => by
      split at hj
      · rename_i e; subst e; rw [hm] at hmj; cases hmj
      · exact hj).keep fun g hg => ⟨hok g hg, rfl⟩
  refine ⟨fun j => if j = id then some (none, 0) else lv j, ⟨⟨hs.inv.base, hs.inv.ok0lt, fun j hj => ?_, fun i j b n m h1 h2 => hs.inv.inj i j b n m (hsame _ _ _ h1) (hsame _ _ _ h2), fun j x hx => ?_⟩, hs.size, fun x y hy => ?_, hs.defers, hs.big, fun j b o hN hj hc hb => ?_⟩, fun size => ?_⟩
  · by_cases h : j = id
    · subst h; simp [ydm] at hj
    · simp only [ydm, h, if_false] at hj ⊢; exact hs.inv.dom j hj
  · by_cases h : j = id
    · subst h
      simp only [ydm, if_true, Option.some.injEq] at hx
      subst hx
      exact ⟨none, 0, by simp, .inr ⟨e0, rfl⟩⟩
    · simp only [ydm, h, if_false] at hx
      obtain ⟨b, n, h1, h2⟩ := hs.inv.obj j x hx
      refine ⟨b, n, by simp [h, h1], ?_⟩
      cases b with
      | none => exact h2
      | some b =>
        refine ⟨h2.1, h2.2.1, (h2.2.2.relive fun i b n hi hmi => ?_).keep (fun g hg => ⟨hok g hg, rfl⟩) rfl⟩
        split at hi
        · rename_i e; subst e; rw [hf.2.2 j x hx] at hmi; cases hmi
        · exact hi
  · have := hs.frame x y hy
    exact ⟨this.1, hre y _ (hf.2.1 x y hy) this.2⟩
  · by_cases h : j = id
    · subst h; simp only [ydm, if_true, Option.some.injEq] at hj; subst hj; cases hc
    · simp only [ydm, h, if_false] at hj ⊢
      exact hs.pin j b o hN hj hc hb
  · refine .ls _ rfl fun b n hb => ?_
    simp only [if_true, Option.some.injEq, Prod.mk.injEq] at hb
    obtain ⟨rfl, rfl⟩ := hb
    exact ⟨rfl, rfl⟩
theorem A_ownCT {c : Code} {Q : Exit → SS → Prop} (jb k id size : Nat) (e0 : TypeId) {te : TypeId} {ys : List AV} (hj : yap h jb = some (.tcells te ys)) (hk : ys[k]? = some (.v (.slice none 0 0))) (h1 : freshT id t = true) (h2 : ycr id h = true) (hne : Nat.beq jb id = false)
    (kk : A P N c Q (S t ((jb, some (.tcells te (ys.set k (.ls id size 0)))) :: (id, some (.tvec e0 [])) :: h))) : A P N c Q (S t h) := by
  intro B ok0 lv a w hs
  obtain ⟨lv', hs1, hnil⟩ := hs.ownHT e0 (fresh_of (t := t) (h := h) h1 h2)
  have hnj : jb ≠ id := fun e => by subst e; simp at hne
  have hj1 : ydm (yap h) id (some (.tvec e0 [])) jb = some (.tcells te ys) := by simp only [ydm, hnj, if_false]; exact hj
  refine kk B ok0 lv' a w ?_
  rw [← S_h]
  obtain ⟨bo, n, k1, k2⟩ := hs1.inv.obj jb _ hj1
  cases bo with
  | none => simp [OwnAt] at k2
  | some b =>
    obtain ⟨q1, q2, ⟨cc, e, q3, q4, q5, q6, q7⟩, hsh⟩ := k2
    have hkl := (List.getElem?_eq_some_iff.1 hk).1
    have hkc : k < cc.size := by omega
    have hold := ydy (q7 k _ cc[k] hk (by simp [hkc]))
    have hnew := hnil size
    rw [← hold] at hnew
    have hS : yap ((id, some (.tvec e0 [])) :: h) = ydm (yap h) id (some (.tvec e0 [])) := (hlook_cons id _ h).symm
    refine ⟨⟨hs1.inv.base, hs1.inv.ok0lt, fun j hjn => ?_, hs1.inv.inj, fun j x hxj => ?_⟩, hs1.size, hs1.frame, hs1.defers, hs1.big, fun j b' o hN hjx hc hb' => ?_⟩
    · by_cases hjj : j = jb
      · subst hjj; simp [ydm] at hjn
      · simp only [ydm, hjj, if_false, hS] at hjn; exact hs1.inv.dom j hjn
    · by_cases hjj : j = jb
      · subst hjj
        simp only [ydm, if_true, Option.some.injEq] at hxj
        subst hxj
        refine ⟨some b, n, k1, q1, q2, ⟨cc, e, q3, q4, by simpa using q5, fun x hxm => ?_, fun i x u hi hu => ?_⟩, by simpa using hsh⟩
        · rcases List.mem_or_eq_of_mem_set hxm with hm | hm
          · exact q6 x hm
          · subst hm; rfl
        · rw [List.getElem?_set] at hi
          split at hi
          · rename_i e1
            subst e1
            cases hi
            simp only [hkc, Array.getElem?_eq_getElem, Option.some.injEq] at hu
            subst hu
            exact hnew
          · exact q7 i x u hi hu
      · simp only [ydm, hjj, if_false, hS] at hxj
        exact hs1.inv.obj j x hxj
    · by_cases hjj : j = jb
      · subst hjj
        exact hs1.pin j b' _ hN hj1 rfl hb'
      · simp only [ydm, hjj, if_false, hS] at hjx
        exact hs1.pin j b' o hN hjx hc hb'
theorem appendS_loud (hT : TOK P T) {o : Oper} {ti tj e es eb sz s2 : Nat} {ea ag a2 : Bool} {ez z z2 : List Value} {x y : Operand} {id len : Nat} {xs : List AV} {s0 : ByteArray} {s s' : SS} (ho : o.op = .call { callee := .builtin .append, args := #[x, y], argTypes := #[ti, tj] }) (hd : o.dst = some d) (hdN : d < N) (hk : T ti = some ⟨.slc e es ea eb ez, sz, ag, z⟩) (hk2 : T tj = some ⟨.string, s2, a2, z2⟩) (hes : es = 1)
    (hx : evF s.t x = some (.ls id es len)) (hid : s.h id = some (.tvec e xs)) (hxl : xs.length = len * es) (hy : evF s.t y = some (.v (.string s0))) (hlim : len + s0.size ≤ 4294967296 ∧ (len + s0.size) * eb ≤ 140737488355328)
    (ht : ∀ x y, s'.t x = some y → y = .any ∨ (s.t x = some y ∧ ment id y = false)) (hlt : ∀ x y, s'.t x = some y → ∃ z, s.t x = some z) (hh : ∀ j ob', j ≠ id → s'.h j = some ob' → mentO id ob' = false ∧ ∃ ob, s.h j = some ob ∧ ForgO ob ob') (hid' : s'.h id = some (.tvec e (xs ++ ydh s0.data.toList))) :
    LoudAt P N o s (· = ⟨yfq s'.t (some d) (.ls id es (len + s0.size)), s'.h⟩) := by
  intro B ok0 lv a w hs Q
  have hyv := ydy (hs.eval hy)
  obtain ⟨v', w', lv', hrun0, hs', hrel⟩ := appendS_world (ty := o.type) hs (hT _ _ hk).2.2 hes (hT _ _ hk2).2.2 rfl rfl rfl hid hxl (hs.eval hx) hlim ht hlt hh hid'
  have hrun : (execOp a.eval o).run P w = .ok (.value v') w' := by
    simp only [execOp, ho, resolve, invoke, builtin, Sem.run_bind, Sem.run_pure, Result.andThen_ok, List.map_toArray, List.map_cons, List.map_nil, hyv, hrun0]
  unfold Oper.wp
  rw [hrun]
  simp only [Oper.upon, hd]
  exact ⟨_, lv', rfl, hs'.putOnly hdN hrel⟩
theorem L_appendS (hT : TOK P T) {ti tj e es eb sz s2 : Nat} {ea ag a2 : Bool} {ez z z2 : List Value} {x y : Operand} {id len : Nat} {xs : List AV} {s0 : ByteArray} {t' : List (Nat × AV)} {h' : List (Nat × Option LObj)} (hk : T ti = some ⟨.slc e es ea eb ez, sz, ag, z⟩) (hk2 : T tj = some ⟨.string, s2, a2, z2⟩) (hes : es = 1) (hx : evF (look t) x = some (.ls id es len)) (hid : yap h id = some (.tvec e xs)) (hxl : xs.length = len * es) (hy : evF (look t) y = some (.v (.string s0)))
    (hlim : len + s0.size ≤ 4294967296 ∧ (len + s0.size) * eb ≤ 140737488355328) (ht : forgT id t = some t') (hh : forgH id h = some h') (hl : lf ⟨some d, .call { callee := .builtin .append, args := #[x, y], argTypes := #[ti, tj] }, ty, pos, af, gd⟩ = true)
    (hw : yax ops (look t) ⟨some d, .call { callee := .builtin .append, args := #[x, y], argTypes := #[ti, tj] }, ty, pos, af, gd⟩ = some true) (hd : Nat.blt d N = true) (k : Lex P N ops lf Q rest (S ((d, .ls id es (len + s0.size)) :: t') ((id, some (.tvec e (xs ++ ydh s0.data.toList))) :: h'))) :
    Lex P N ops lf Q (⟨some d, .call { callee := .builtin .append, args := #[x, y], argTypes := #[ti, tj] }, ty, pos, af, gd⟩ :: rest) (S t h) := by
  obtain ⟨g1, g2⟩ := forgT_spec ht
  have e : S ((d, .ls id es (len + s0.size)) :: t') ((id, some (.tvec e (xs ++ ydh s0.data.toList))) :: h') = (⟨yfq (S t' ((id, some (.tvec e (xs ++ ydh s0.data.toList))) :: h')).t (some d) (.ls id es (len + s0.size)), (S t' ((id, some (.tvec e (xs ++ ydh s0.data.toList))) :: h')).h⟩ : SS) := by
    unfold S; rw [ydx]
  refine L_loud hl hw ?_ k
  rw [e]
  refine appendS_loud hT rfl rfl (by simpa using hd) hk hk2 hes hx hid hxl hy hlim g1 g2 (fun j ob' hj hob => ?_) ?_
  · simp only [S, yap, yfr hj] at hob
    exact forgH_spec hh j ob' hob
  · simp [S, yap]
theorem allocT_loud (hT : TOK P T) {o : Oper} {elem : TypeId} {y : Ty} {s : SS} (ho : o.op = .alloc elem) (hd : o.dst = some d) (hdN : d < N) (id : Nat) (hy : T elem = some y) (hone : y.zero.all Value.oneCell' = true) (hf : Fresh s id) (hidN : id < N) :
    LoudAt P N o s (· = ⟨yfq s.t (some d) (.lp id 0), ydm s.h id (some (.tcells elem (y.zero.map .v)))⟩) := by
  intro B ok0 lv a w hs Q
  obtain ⟨z, h1, h2⟩ := (hT _ _ hy).2.1.run (w := w)
  have hrun : (execOp a.eval o).run P w = .ok (.value (.pointer (some ⟨w.heap.size, 0, none⟩))) (w.alloc (.cells y.zero.toArray elem)) := by
    simp [execOp, ho, Instr.alloc, newVar, newRow, h1, h2]
  unfold Oper.wp
  rw [hrun]
  have hm : ment.mentL id (y.zero.map .v) = false := by
    induction y.zero with
    | nil => rfl
    | cons a l ih => simp [ment.mentL, ment, ih]
  have hra : ybt (ybo B ok0 lv w) w lv (y.zero.map .v) y.zero := ⟨by simp, fun i x u hx hu => by rw [List.getElem?_map, hu] at hx; simp at hx; subst hx; exact .v u⟩
  have hnew := hs.newBlock (ob := .tcells elem (y.zero.map .v)) (n := y.zero.length) hf (ycv w (.cells y.zero.toArray elem)) (by simp) (by simpa [mentO] using hm) (fun _ => hidN)
    (fun ok' lv' g1 g2 => ⟨blk_new (extra := []) (e := elem) (by simp) (by rw [ycs]; simp) hra (fun c hc => by
      obtain ⟨v, hv, rfl⟩ := List.mem_map.1 hc
      exact List.all_eq_true.1 hone v hv) ok' lv' g1 g2, by rw [shape_alloc]; simp⟩)
  simp only [Oper.upon, hd]
  exact ⟨_, _, rfl, hnew.putOnly hdN (.lp _ rfl fun b n hb => by simp only [setLv, if_true, Option.some.injEq, Prod.mk.injEq] at hb; rw [hb.1])⟩
theorem L_allocT (hT : TOK P T) {elem : TypeId} {y : Ty} (hy : T elem = some y) (hone : y.zero.all Value.oneCell' = true) (h1 : freshT d t = true) (h2 : ycr d h = true) (hl : lf ⟨some d, .alloc elem, ty, pos, af, gd⟩ = true) (hw : yax ops (look t) ⟨some d, .alloc elem, ty, pos, af, gd⟩ = some true) (hd : Nat.blt d N = true)
    (k : Lex P N ops lf Q rest (S ((d, .lp d 0) :: t) ((d, some (.tcells elem (vMap y.zero))) :: h))) : Lex P N ops lf Q (⟨some d, .alloc elem, ty, pos, af, gd⟩ :: rest) (S t h) :=
  L_loud hl hw (by rw [← S_upd, vMap_eq]; exact allocT_loud hT rfl rfl (by simpa using hd) d hy hone (fresh_of h1 h2) (by simpa using hd)) k
theorem L_storeT (hT : TOK P T) {ti : Nat} {y : Ty} {x v : Operand} {id off : Nat} {te : TypeId} {xs cs ys : List AV} {u : AV} (hy : T ti = some y) (hx : evF (look t) x = some (.lp id off)) (hv : evF (look t) v = some u) (hcs : ydr u = some cs) (hcl : Nat.beq cs.length y.size = true) (hh : yap h id = some (.tcells te xs)) (hne : xs ≠ []) (hsp : spliceN off cs xs = some ys)
    (hl : lf ⟨none, .store ti x v, ty, pos, af, gd⟩ = true) (hw : yax ops (look t) ⟨none, .store ti x v, ty, pos, af, gd⟩ = some true) (k : Lex P N ops lf Q rest (S t ((id, some (.tcells te ys)) :: h))) : Lex P N ops lf Q (⟨none, .store ti x v, ty, pos, af, gd⟩ :: rest) (S t h) := by
  obtain ⟨h1, h2⟩ := spliceN_eq hsp
  refine L_loud hl hw (by rw [← S_h]; exact store_loud rfl rfl (hT _ _ hy).1 hx hv hcs (by simpa using hcl) hh (by rw [h2]; exact .tcells h1 hne)) k
theorem yield_nilCheck {ρ : Operand → Option AV} {hp : Nat → Option LObj} {x : Operand} {id off : Nat} {xs : List AV} (hx : ρ x = some (.lp id off)) (hh : cellsL (hp id) = some xs) : ycl P hp ρ (.nilCheck x) ty (.lp id off) :=
  yav fun B ok0 lv w a o ho hty hi' hops => by
    have hr := hops x _ (by simp [Op.operands]) hx
    obtain ⟨g1, g2⟩ := ydd hh
    obtain ⟨b, n, hb, hu, _⟩ := ycp hi' g1 g2 hr
    exact ⟨a.eval x, by simp [execOp, ho, hu], hr⟩
theorem L_nilCheck {x : Operand} {id off : Nat} {xs : List AV} (hx : evF (look t) x = some (.lp id off)) (hh : cellsL (yap h id) = some xs) (hw : yax ops (look t) ⟨some d, .nilCheck x, ty, pos, af, gd⟩ = some true) (hd : Nat.blt d N = true) (k : Lex P N ops lf Q rest (S ((d, .lp id off) :: t) h)) : Lex P N ops lf Q (⟨some d, .nilCheck x, ty, pos, af, gd⟩ :: rest) (S t h) :=
  yca (yield_nilCheck hx hh) hw hd k
theorem yield_sliceData {ρ : Operand → Option AV} {hp : Nat → Option LObj} {x : Operand} {ts : Array TypeId} {id len : Nat} {te : TypeId} {y : AV} {xs : List AV} (hx : ρ x = some (.ls id 1 len)) (hh : hp id = some (.tvec te (y :: xs))) (hlen : len ≠ 0) : ycl P hp ρ (.call { callee := .builtin .unsafeSliceData, args := #[x], argTypes := ts }) ty (.lp id 0) :=
  yav fun B ok0 lv w a o ho hty hi' hops => by
    have hr := hops x _ (by simp [Op.operands, Call.operands]) hx
    obtain ⟨b, n, hb, hown⟩ := hi'.obj id _ hh
    cases b with
    | none => exact absurd (own_nil hown) (by simp)
    | some b =>
      generalize hv : a.eval x = v at hr
      cases hr with
      | ls _ h1 h2 =>
        obtain ⟨cap, rfl, hle, hmx, hcn⟩ := h2 (some b) n hb
        refine ⟨.pointer (some ⟨b, 0, none⟩), ?_, .lp _ rfl fun b' n' hb' => by rw [hb] at hb'; cases hb'; rfl⟩
        simp [execOp, ho, resolve, invoke, builtin, hv, Lib.run_unsafeSliceData_row (P := P) w ts o.type ⟨b, 0, none⟩ len cap (by omega)]
theorem L_sliceData {x : Operand} {ts : Array TypeId} {id len : Nat} {te : TypeId} {y : AV} {xs : List AV} (hx : evF (look t) x = some (.ls id 1 len)) (hh : yap h id = some (.tvec te (y :: xs))) (hlen : len ≠ 0) (hw : yax ops (look t) ⟨some d, .call { callee := .builtin .unsafeSliceData, args := #[x], argTypes := ts }, ty, pos, af, gd⟩ = some true) (hd : Nat.blt d N = true) (k : Lex P N ops lf Q rest (S ((d, .lp id 0) :: t) h)) : Lex P N ops lf Q (⟨some d, .call { callee := .builtin .unsafeSliceData, args := #[x], argTypes := ts }, ty, pos, af, gd⟩ :: rest) (S t h) :=
  yca (yield_sliceData hx hh hlen) hw hd k

theorem Sim.dropWrite {B : Bse} {ok0 : Nat → Prop} {s : SS} {lv : Live} {a : Act} {w w' : World} (hs : Sim B ok0 N s lv a w) {id b n : Nat} (hl : lv id = some (some b, n)) (hos : w'.os = w.os) (htp : w'.tape = w.tape) (hout : w'.output = w.output) (hsz : w'.heap.size = w.heap.size)
    (hoth : ∀ g, g ≠ b → w'.heap[g]? = w.heap[g]?) : ∃ lv', Sim B ok0 N ⟨s.t, ydm s.h id none⟩ lv' a w' := by
  obtain ⟨x0, hx0, hb1, hb2, hb3⟩ := hs.inv.lvat hl
  have hsub : ∀ j b n, (fun j => if j = id then none else lv j : Live) j = some (b, n) → lv j = some (b, n) := by
    intro j b n hj
    simp only at hj
    split at hj
    · cases hj
    · exact hj
  have hok : ∀ g, ybo B ok0 lv w g → ybo B ok0 (fun j => if j = id then none else lv j) w' g ∧ w'.heap[g]? = w.heap[g]? := fun g hg => ⟨⟨hg.1, by rw [hsz]; exact hg.2.1, fun j b' n' hj => hg.2.2 j b' n' (hsub j _ n' hj)⟩, hoth g (hg.2.2 id b n hl).symm⟩
  refine ⟨fun j => if j = id then none else lv j, ⟨?_, hs.inv.ok0lt, fun j hj => ?_, fun i j b n m h1 h2 => hs.inv.inj i j b n m (hsub _ _ _ h1) (hsub _ _ _ h2), fun j x hx => ?_⟩, hs.size, fun x y hy => ⟨(hs.frame x y hy).1, ((hs.frame x y hy).2.relive fun j b n hb _ => hsub j b n hb).keep hok⟩, hs.defers.same (fun g hg => (hoth g fun e => by subst e; exact (hs.inv.lvat hl).choose_spec.2.2.2.notDef hg).trans hg), hs.big, fun j b' o hN hj hc hb' => ?_⟩
  · exact hs.inv.base.written hb1 hos htp hout hsz hoth
  · by_cases h : j = id
    · simp [h]
    · simp only [ydm, h, if_false] at hj ⊢; exact hs.inv.dom j hj
  · by_cases h : j = id
    · subst h; simp [ydm] at hx
    · simp only [ydm, h, if_false] at hx
      obtain ⟨b', m, h1, h2⟩ := hs.inv.obj j x hx
      refine ⟨b', m, by simp [h, h1], ?_⟩
      cases b' with
      | none => exact h2
      | some b' =>
        obtain ⟨h2, h3, h4⟩ := h2
        refine ⟨h2, by rw [hsz]; exact h3, (h4.relive fun k b n hb _ => hsub k b n hb).keep hok (hoth b' ?_)⟩
        intro he
        subst he
        exact h (hs.inv.inj j id b' m n h1 hl)
  · by_cases h : j = id
    · subst h; simp [ydm] at hj
    · simp only [ydm, h, if_false] at hj ⊢
      exact hs.pin j b' o hN hj hc hb'
theorem freeze_other (w : World) (b n g : Nat) (hg : g ≠ b) : (w.freeze ⟨b, 0, none⟩ n).heap[g]? = w.heap[g]? := by
  unfold World.freeze
  split
  · rfl
  · simp [Array.getElem?_modify, Ne.symm hg]
theorem freeze_same (w : World) (a : Addr) (n : Nat) : (w.freeze a n).os = w.os ∧ (w.freeze a n).tape = w.tape ∧ (w.freeze a n).output = w.output ∧ (w.freeze a n).heap.size = w.heap.size := by
  unfold World.freeze
  split
  · exact ⟨rfl, rfl, rfl, rfl⟩
  · exact ⟨rfl, rfl, rfl, by simp⟩
theorem unsafeString_loud {o : Oper} {x y : Operand} {pt it te : TypeId} {id : Nat} {l : List UInt8} {s : SS} (ho : o.op = .call { callee := .builtin .unsafeString, args := #[x, y], argTypes := #[pt, it] }) (hd : o.dst = some d) (hdN : d < N) (hp : P.underlying pt = some (.pointer te)) (hc : P.cellsOf te = 1)
    (hx : evF s.t x = some (.lp id 0)) (hid : s.h id = some (.tvec te (ydh l))) (hy : evF s.t y = some (.v (.int .i64 l.length))) (h0 : l ≠ []) (h63 : l.length ≤ 9223372036854775807) :
    LoudAt P N o s (· = ⟨yfq s.t (some d) (.v (.string ⟨l.toArray⟩)), ydm s.h id none⟩) := by
  intro B ok0 lv a w hs Q
  have hyv := ydy (hs.eval hy)
  have hne : ydh l ≠ [] := by intro e; exact h0 (by simpa [ydh] using e)
  obtain ⟨b, n, hb, hxv, hcells⟩ := ycp hs.inv (xs := ydh l) (by rw [hid]; rfl) (.inl hne) (hs.eval hx)
  obtain ⟨b2, n2, hb2, hown⟩ := hs.inv.obj id _ hid
  rw [hb] at hb2
  cases hb2
  obtain ⟨_, _, ⟨c, e, g1, g2, g3, _, _⟩, _, hsh⟩ := hown
  have hrun0 := Lib.run_unsafeString_row (P := P) w pt it o.type te hp hc b n hsh l h0 (by rw [bytesA_len] at g3; exact g3) h63 (fun j x hjx => by
    obtain ⟨_, u, hu, hr⟩ := hcells j (.v (.int .u8 x.toNat)) (by simp [ydh, hjx])
    rw [addr_add]
    rw [ydy hr] at hu
    exact hu)
  have hrun : (execOp a.eval o).run P w = .ok (.value (.string ⟨l.toArray⟩)) (w.freeze ⟨b, 0, none⟩ l.length) := by
    simp only [execOp, ho, resolve, invoke, builtin, Sem.run_bind, Sem.run_pure, Result.andThen_ok, List.map_toArray, List.map_cons, List.map_nil, hyv, hxv, hrun0]
  unfold Oper.wp
  rw [hrun]
  simp only [Oper.upon, hd]
  obtain ⟨f1, f2, f3, f4⟩ := freeze_same w ⟨b, 0, none⟩ l.length
  obtain ⟨lv', hs'⟩ := hs.dropWrite hb f1 f2 f3 f4 (fun g hg => freeze_other w b l.length g hg)
  exact ⟨_, lv', rfl, hs'.putOnly hdN (.v _)⟩
theorem L_unsafeString {x y : Operand} {pt it te : TypeId} {id : Nat} {l : List UInt8} (hp : P.underlying pt = some (.pointer te)) (hc : P.cellsOf te = 1) (hx : evF (look t) x = some (.lp id 0)) (hid : yap h id = some (.tvec te (ydh l))) (hy : evF (look t) y = some (.v (.int .i64 l.length))) (h0 : l ≠ []) (h63 : l.length ≤ 9223372036854775807)
    (hl : lf ⟨some d, .call { callee := .builtin .unsafeString, args := #[x, y], argTypes := #[pt, it] }, ty, pos, af, gd⟩ = true) (hw : yax ops (look t) ⟨some d, .call { callee := .builtin .unsafeString, args := #[x, y], argTypes := #[pt, it] }, ty, pos, af, gd⟩ = some true) (hd : Nat.blt d N = true)
    (k : Lex P N ops lf Q rest (S ((d, .v (.string ⟨l.toArray⟩)) :: t) ((id, none) :: h))) : Lex P N ops lf Q (⟨some d, .call { callee := .builtin .unsafeString, args := #[x, y], argTypes := #[pt, it] }, ty, pos, af, gd⟩ :: rest) (S t h) :=
  L_loud hl hw (by rw [← S_upd]; exact unsafeString_loud rfl rfl (by simpa using hd) hp hc hx hid hy h0 h63) k

theorem yield_eqlNil {ρ : Operand → Option AV} {hp : Nat → Option LObj} {x y : Operand} {tp ty' : TypeId} (hu : P.underlying tp = some (.pointer (P.pointee tp))) (hx : ρ x = some (.v (.pointer none))) (hy : ρ y = some (.v (.pointer none))) : ycl P hp ρ (.binOp .eql tp x y ty') ty (.v (.bool true)) :=
  ydo (fun _ _ => by simp) (by simp [plainL, Op.operands, hx, hy, toV]) fun w => by
    have := run_eql_pointer_nil (P := P) w tp none hu
    simp [execOp, envV_v hx, envV_v hy, eqGuard, this]
theorem yield_eqlLp {ρ : Operand → Option AV} {hp : Nat → Option LObj} {x y : Operand} {tp ty' : TypeId} {id off : Nat} {xs : List AV} (hu : P.underlying tp = some (.pointer (P.pointee tp))) (hx : ρ x = some (.lp id off)) (hh : cellsL (hp id) = some xs) (hy : ρ y = some (.v (.pointer none))) : ycl P hp ρ (.binOp .eql tp x y ty') ty (.v (.bool false)) :=
  yav fun B ok0 lv w a o ho hty hi' hops => by
    obtain ⟨g1, g2⟩ := ydd hh
    obtain ⟨b, n, hb, hv, _⟩ := ycp hi' g1 g2 (hops x _ (by simp [Op.operands]) hx)
    have hyv := ydy (hops y _ (by simp [Op.operands]) hy)
    have := run_eql_pointer_nil (P := P) w tp (some ⟨b, off, none⟩) hu
    exact ⟨_, by simp [execOp, ho, hv, hyv, eqGuard, this], .v _⟩
theorem yield_neqLp {ρ : Operand → Option AV} {hp : Nat → Option LObj} {x y : Operand} {tp te ty' : TypeId} {id off : Nat} {xs : List AV} (hu : P.underlying tp = some (.pointer te)) (hi0 : (P.info? te).isSome = true) (hx : ρ x = some (.lp id off)) (hh : cellsL (hp id) = some xs) (hy : ρ y = some (.lp id off)) : ycl P hp ρ (.binOp .neq tp x y ty') ty (.v (.bool false)) :=
  yav fun B ok0 lv w a o ho hty hi' hops => by
    obtain ⟨g1, g2⟩ := ydd hh
    obtain ⟨b, n, hb, hv, _⟩ := ycp hi' g1 g2 (hops x _ (by simp [Op.operands]) hx)
    obtain ⟨b', n', hb', hv', _⟩ := ycp hi' g1 g2 (hops y _ (by simp [Op.operands]) hy)
    rw [hb] at hb'
    cases hb'
    obtain ⟨j, hj⟩ := Option.isSome_iff_exists.1 hi0
    have := Lib.run_neq_ptr_same (P := P) w ⟨b, off, none⟩ hu hj
    exact ⟨_, by simp [execOp, ho, hv, hv', eqGuard, this], .v _⟩
theorem yield_toUnsafe {ρ : Operand → Option AV} {hp : Nat → Option LObj} {x : Operand} {src dst te t0 : TypeId} {id off : Nat} {xs : List AV} (hs : P.underlying src = some (.pointer t0)) (hd : P.underlying dst = some .unsafePointer) (ht : (P.info? t0).map (·.size) = some 2) (hx : ρ x = some (.lp id off)) (hh : hp id = some (.tcells te xs)) (hoff : off < xs.length) : ycl P hp ρ (.convert src dst x) ty (.lp id off) :=
  yav fun B ok0 lv w a o ho hty hi' hops => by
    have hr := hops x _ (by simp [Op.operands]) hx
    obtain ⟨b, n, hb, hv, _⟩ := ycp hi' (xs := xs) (by rw [hh]; rfl) (.inl (by intro e; rw [e] at hoff; simp at hoff)) hr
    obtain ⟨b2, n2, hb2, hown⟩ := hi'.obj id _ hh
    rw [hb] at hb2
    cases hb2
    obtain ⟨j, hj, hj2⟩ := Option.map_eq_some_iff.1 ht
    have := Lib.run_to_unsafe (P := P) w ⟨b, off, none⟩ hs hd hj (by rw [hj2]; decide) hown.2.2.2 hoff
    rw [hv] at hr
    exact ⟨_, by simp [execOp, ho, hv, this], hr⟩
theorem yield_fromUnsafe {ρ : Operand → Option AV} {hp : Nat → Option LObj} {x : Operand} {src dst te t0 : TypeId} {id off : Nat} {xs : List AV} (hs : P.underlying src = some .unsafePointer) (hd : P.underlying dst = some (.pointer t0)) (ht : (P.info? t0).isSome = true) (hx : ρ x = some (.lp id off)) (hh : hp id = some (.tcells te xs)) (hne : xs ≠ []) (hlies : liesAt P P.depth te (xs.length / P.cellsOf te) off t0 1 = true) : ycl P hp ρ (.convert src dst x) ty (.lp id off) :=
  yav fun B ok0 lv w a o ho hty hi' hops => by
    have hr := hops x _ (by simp [Op.operands]) hx
    obtain ⟨b, n, hb, hv, _⟩ := ycp hi' (xs := xs) (by rw [hh]; rfl) (.inl hne) hr
    obtain ⟨b2, n2, hb2, hown⟩ := hi'.obj id _ hh
    rw [hb] at hb2
    cases hb2
    obtain ⟨j, hj⟩ := Option.isSome_iff_exists.1 ht
    have := Lib.run_from_unsafe (P := P) w ⟨b, off, none⟩ hs hd hj hown.2.2.2 hlies
    rw [hv] at hr
    exact ⟨_, by simp [execOp, ho, hv, this], hr⟩
theorem yield_noEscape {ρ : Operand → Option AV} {hp : Nat → Option LObj} {x : Operand} {f : FuncId} {fn : Func} {ats : Array TypeId} {y : AV} (hf : P.funcs[f]? = some fn) (hname : (fn.name == "runtime.NumGoroutine") = false) (hb : fn.body.isNone = true) (hn : Extern.findNext fn = none) (he : Extern.find fn = some Extern.AbiNoEscape.same) (hx : ρ x = some y) : ycl P hp ρ (.call { callee := .value (.func f), args := #[x], argTypes := ats }) ty y :=
  yav fun B ok0 lv w a o ho hty hi' hops => by
    have hr := hops x _ (by simp [Op.operands, Call.operands]) hx
    refine ⟨a.eval x, ?_, hr⟩
    have := run_callFunc_extern hf hname hb hn he #[a.eval x] w
    rw [Lib.run_noEscape] at this
    simp only [Result.andThen_ok] at this
    have hfe : a.eval (.func f) = .func (.func f) #[] #[] := rfl
    simp [execOp, ho, resolve, Deferred.ofValue, hfe, invoke, this]
end
end Go.Proofs.YtmlkdoimkdbdpaaGreatDoor
set_option linter.unusedVariables false
set_option maxHeartbeats 4000000
namespace Go.Proofs.YtmlkdoimkdbdpaaGreatDoor
open Go.RowKit

theorem Inv.mineOf {B : Bse} {ok0 : Nat → Prop} {h : Nat → Option LObj} {lv : Live} {w : World} (hi : Inv B ok0 h lv w) {b : Nat} (hb : ycc lv b) : B.mine b ∧ b < w.heap.size := by
  obtain ⟨id, n, h⟩ := hb
  obtain ⟨_, _, h1, h2, _⟩ := hi.lvat h
  exact ⟨h1, h2⟩
theorem Inv.rebase {B : Bse} {ok0 : Nat → Prop} {h : Nat → Option LObj} {lv : Live} {w : World} (hi : Inv B ok0 h lv w) {W1 : World} (hG : Glob W1) (hsz : w.heap.size ≤ W1.heap.size) (hok : ∀ g, ybo B ok0 lv w g → W1.heap[g]? = w.heap[g]?) (hlv : ∀ b, ycc lv b → W1.heap[b]? = w.heap[b]?)
    (pin : Nat → Option Nat) (rd : Option Nat) (dl : List Deferred) (gv : Nat → Value) (hrd : ∀ l, rd = some l → (∃ r, W1.heap[l]? = some (.loop r)) ∧ ¬ ycc lv l) : Inv ⟨W1, ycc lv, pin, rd, dl, gv⟩ (ybo B ok0 lv w) h lv W1 := by
  have hk : ∀ g, ybo B ok0 lv w g → ybo ⟨W1, ycc lv, pin, rd, dl, gv⟩ (ybo B ok0 lv w) lv W1 g ∧ W1.heap[g]? = w.heap[g]? := fun g hg => ⟨⟨.inl hg, Nat.lt_of_lt_of_le hg.2.1 hsz, hg.2.2⟩, hok g hg⟩
  refine ⟨⟨rfl, rfl, rfl, Nat.le_refl _, fun _ _ _ => rfl, hG, hG.size, fun k hk => hi.base.mineG (hi.mineOf hk).1, hrd⟩, fun g hg => Nat.lt_of_lt_of_le hg.2.1 hsz, hi.dom, hi.inj, fun id x hx => ?_⟩
  obtain ⟨b, n, h1, h2⟩ := hi.obj id x hx
  refine ⟨b, n, h1, ?_⟩
  cases b with
  | none => exact h2
  | some b => exact ⟨.inl ⟨id, n, h1⟩, Nat.lt_of_lt_of_le h2.2.1 hsz, h2.2.2.keep hk (hlv b ⟨id, n, h1⟩)⟩
theorem ok_back {B : Bse} {ok0 : Nat → Prop} {h : Nat → Option LObj} {lv : Live} {w : World} (h0 : Inv B ok0 h lv w) {W1 : World} (hsz : w.heap.size ≤ W1.heap.size) {pin : Nat → Option Nat} {rd : Option Nat} {dl : List Deferred} {gv : Nat → Value} {lv' : Live} {w' : World} {g : Nat} (hg : ybo ⟨W1, ycc lv, pin, rd, dl, gv⟩ (ybo B ok0 lv w) lv' w' g) : ok0 g ∨ B.mine g := by
  rcases hg.1 with h | h | h
  · exact h.1
  · exact .inr (h0.mineOf h).1
  · exact .inr (.inr (by have := h0.base.size; simp only at h; omega))
theorem Inv.back {B : Bse} {ok0 : Nat → Prop} {h : Nat → Option LObj} {lv : Live} {w : World} (h0 : Inv B ok0 h lv w) {W1 : World} (hsz : w.heap.size ≤ W1.heap.size) {pin : Nat → Option Nat} {rd : Option Nat} {dl : List Deferred} {gv : Nat → Value} {h' : Nat → Option LObj} {lv' : Live} {w' : World}
    (hi : Inv ⟨W1, ycc lv, pin, rd, dl, gv⟩ (ybo B ok0 lv w) h' lv' w') {W2 : World} (hB : Based B W2) (hsz2 : w'.heap.size ≤ W2.heap.size) (hok : ∀ g, ybo ⟨W1, ycc lv, pin, rd, dl, gv⟩ (ybo B ok0 lv w) lv' w' g → W2.heap[g]? = w'.heap[g]?) (hlv : ∀ b, ycc lv' b → W2.heap[b]? = w'.heap[b]?) :
    Inv B ok0 h' lv' W2 ∧ ∀ g, ybo ⟨W1, ycc lv, pin, rd, dl, gv⟩ (ybo B ok0 lv w) lv' w' g → ybo B ok0 lv' W2 g ∧ W2.heap[g]? = w'.heap[g]? := by
  have hk : ∀ g, ybo ⟨W1, ycc lv, pin, rd, dl, gv⟩ (ybo B ok0 lv w) lv' w' g → ybo B ok0 lv' W2 g ∧ W2.heap[g]? = w'.heap[g]? := fun g hg => ⟨⟨ok_back h0 hsz hg, Nat.lt_of_lt_of_le hg.2.1 hsz2, hg.2.2⟩, hok g hg⟩
  refine ⟨⟨hB, h0.ok0lt, hi.dom, hi.inj, fun id x hx => ?_⟩, hk⟩
  obtain ⟨b, n, h1, h2⟩ := hi.obj id x hx
  refine ⟨b, n, h1, ?_⟩
  cases b with
  | none => exact h2
  | some b =>
    refine ⟨?_, Nat.lt_of_lt_of_le h2.2.1 hsz2, h2.2.2.keep hk (hlv b ⟨id, n, h1⟩)⟩
    rcases h2.1 with h3 | h3
    · exact (h0.mineOf h3).1
    · exact .inr (by have := h0.base.size; simp only at h3; omega)
theorem live_back {ok0 : Nat → Prop} {h' : Nat → Option LObj} {W1 : World} {lv lv' : Live} {w' : World} {pin : Nat → Option Nat} {rd : Option Nat} {dl : List Deferred} {gv : Nat → Value} (hi : Inv ⟨W1, ycc lv, pin, rd, dl, gv⟩ ok0 h' lv' w') {b : Nat} (hb : ycc lv' b) : ycc lv b ∨ W1.heap.size ≤ b := (hi.mineOf hb).1

def IterCon (P : Program) (f : FuncId) (caps : List AV) (els : List (List AV)) : Prop :=
  HasBody P f ∧ ∀ (l : Nat) (ok : Nat → Prop) (W : World) (us : List Value) (J : Nat → World → Prop) (X : World → Prop), (∀ g, ok g → g < W.heap.size) → ybt ok W (fun _ => none) caps us →
    (∀ k W', J k W' → W.heap.size ≤ W'.heap.size ∧ ∀ g, ok g → W'.heap[g]? = W.heap[g]?) → (∀ k W1 W2, J k W1 → Below W1.heap.size W1 W2 → J k W2) → (∀ W1 W2, X W1 → Below W1.heap.size W1 W2 → X W2) →
    (∀ k el vs W1, els[k]? = some el → J k W1 → ybt ok W1 (fun _ => none) el vs → YieldAt Fence.wide 0 P l vs.toArray W1 fun e W' => (e = .returned (.bool true) ∧ J (k + 1) W') ∨ (e = .returned (.bool false) ∧ X W')) →
    J 0 W → CallsIn Fence.wide 0 P f (#[.func (.yield l) #[] #[]] ++ us.toArray) W fun e W' => (∃ v, e = .returned v) ∧ (J els.length W' ∨ X W')

theorem fold_get : ∀ (ps : List Nat) (vs : List Value) (tm : Array Value), ps.length = vs.length → ps.Nodup → (∀ p ∈ ps, p < tm.size) →
    ((ps.zip vs).foldl (fun t (x : Nat × Value) => t.setIfInBounds x.1 x.2) tm).size = tm.size ∧ (∀ x, x ∉ ps → ((ps.zip vs).foldl (fun t (x : Nat × Value) => t.setIfInBounds x.1 x.2) tm).getD x undef = tm.getD x undef) ∧
      ∀ (j p : Nat) (v : Value), ps[j]? = some p → vs[j]? = some v → ((ps.zip vs).foldl (fun t (x : Nat × Value) => t.setIfInBounds x.1 x.2) tm).getD p undef = v
  | [], [], tm, _, _, _ => ⟨rfl, fun _ _ => rfl, fun j p v h => by simp at h⟩
  | p :: ps, v :: vs, tm, hl, hn, hlt => by
    simp only [List.nodup_cons] at hn
    obtain ⟨h1, h2, h3⟩ := fold_get ps vs (tm.setIfInBounds p v) (by simpa using hl) hn.2 (fun q hq => by simpa using hlt q (by simp [hq]))
    have hset : ∀ x, x ≠ p → (tm.setIfInBounds p v).getD x undef = tm.getD x undef := fun x hx => by
      simp only [Array.getD_eq_getD_getElem?, Array.getElem?_setIfInBounds]
      rw [if_neg (by omega)]
    simp only [List.zip_cons_cons, List.foldl_cons]
    refine ⟨by rw [h1]; simp, fun x hx => ?_, fun j q u hj hu => ?_⟩
    · simp only [List.mem_cons, not_or] at hx
      rw [h2 x hx.2, hset x hx.1]
    · cases j with
      | zero =>
        simp only [List.getElem?_cons_zero, Option.some.injEq] at hj hu
        subst hj hu
        rw [h2 p hn.1]
        have := hlt p (by simp)
        simp [Array.getD, this]
      | succ j => exact h3 j q u (by simpa using hj) (by simpa using hu)
  | [], _ :: _, _, h, _, _ => by simp at h
  | _ :: _, [], _, h, _, _ => by simp at h
theorem look_zip : ∀ {ps : List Nat} {el : List AV} {x : Nat} {y : AV}, look (ps.zip el) x = some y → ∃ j : Nat, ps[j]? = some x ∧ el[j]? = some y
  | [], _, x, y, h => by simp [look] at h
  | _ :: _, [], x, y, h => by simp [look] at h
  | p :: ps, e :: el, x, y, h => by
    simp only [List.zip_cons_cons, look] at h
    cases hb : Nat.beq x p with
    | true =>
      simp only [hb, Option.some.injEq] at h
      exact ⟨0, by simp [Nat.eq_of_beq_eq_true hb], by simp [h]⟩
    | false =>
      simp only [hb] at h
      obtain ⟨j, h1, h2⟩ := look_zip h
      exact ⟨j + 1, by simpa using h1, by simpa using h2⟩
theorem look_zip_none : ∀ {ps : List Nat} {el : List AV} {x : Nat}, ps.length = el.length → look (ps.zip el) x = none → x ∉ ps
  | [], _, x, _, _ => by simp
  | _ :: _, [], x, hl, _ => by simp at hl
  | p :: ps, e :: el, x, hl, h => by
    simp only [List.zip_cons_cons, look] at h
    cases hb : Nat.beq x p with
    | true => simp [hb] at h
    | false =>
      simp only [hb] at h
      simp only [List.mem_cons, not_or]
      exact ⟨fun e => by subst e; simp at hb, look_zip_none (by simpa using hl) h⟩

def roundT (t0 : Nat → Option AV) (ps : List Nat) (el : List AV) (x : Nat) : Option AV :=
  match Nat.ble 1000000 x with
  | true => t0 (x - 1000000)
  | false => match look (ps.zip el) x with
    | some y => some y
    | none => t0 x
def RndF (t0 : Nat → Option AV) (hk : Nat → Nat → Option LObj) (k : Nat) (Q : Exit → SS → Prop) : Exit → SS → Prop
  | .normal, s => (∀ x y, t0 x = some y → s.t (x + 1000000) = some y) ∧ ∀ id o, hk (k + 1) id = some o → s.h id = some o
  | .ret, s => ∃ hx : Nat → Option LObj, (∀ x y, t0 x = some y → s.t (x + 1000000) = some y) ∧ (∀ id o, hx id = some o → s.h id = some o) ∧ Q .ret ⟨t0, hx⟩
  | .exit i, s => ∃ hx : Nat → Option LObj, (∀ x y, t0 x = some y → s.t (x + 1000000) = some y) ∧ (∀ id o, hx id = some o → s.h id = some o) ∧ Q (.exit i) ⟨t0, hx⟩
  | _, _ => False

theorem putObj_self {w : World} {l : Nat} {o : Obj} (h : w.heap[l]? = some o) : w.putObj l o = w := by
  have : w.heap.setIfInBounds l o = w.heap := by
    apply Array.ext_getElem?
    intro i
    rw [Array.getElem?_setIfInBounds]
    split
    · rename_i e
      subst e
      split
      · exact h.symm
      · rename_i hlt
        rw [Array.getElem?_eq_none (by omega)]
    · rfl
  unfold World.putObj
  rw [this]
theorem putObj_twice {w : World} {l : Nat} {o o' : Obj} : (w.putObj l o).putObj l o' = w.putObj l o' := by
  unfold World.putObj
  simp only [World.mk.injEq, and_true]
  apply Array.ext_getElem?
  intro i
  simp only [Array.getElem?_setIfInBounds, Array.size_setIfInBounds]
  split <;> rfl
theorem glob_put {w : World} (h : Glob w) {l : Nat} {o : Obj} (hl : GN ≤ l) : Glob (w.putObj l o) :=
  h.keep (fun k hk => World.putObj_heap_other (by omega)) (by simp)

section
variable {P : Program} {N : Nat} {g : Operand} {ps : List Nat} {assign body : Code} {Q : Exit → SS → Prop} {s : SS} {gf : Nat} {caps : List AV} {els : List (List AV)}
def KLoop (B : Bse) (Bx : Bse) (okx : Nat → Prop) (N l : Nat) (rec : LoopState → Option Code → Loop) (t0 : Nat → Option AV) (vt : Nat → Value) (o : Loop) (h : Nat → Option LObj) (W : World) : Prop :=
  W.heap[l]? = some (.loop o) ∧ ∃ lv', Inv Bx okx h lv' (W.putObj l (.loop (rec .ready none))) ∧ (∀ x y, t0 x = some y → Rel (ybo Bx okx lv' (W.putObj l (.loop (rec .ready none)))) (W.putObj l (.loop (rec .ready none))) lv' y (vt x)) ∧
    ∀ id b o, N ≤ id → h id = some o → isC o = true → B.pin id = some b → ∃ n, lv' id = some (some b, n)
theorem KLoop.grow {B Bx : Bse} {okx : Nat → Prop} {N l : Nat} {rec : LoopState → Option Code → Loop} {t0 : Nat → Option AV} {vt : Nat → Value} {o : Loop} {h : Nat → Option LObj} {W W2 : World} (hK : KLoop B Bx okx N l rec t0 vt o h W) (hb : Below W.heap.size W W2) : KLoop B Bx okx N l rec t0 vt o h W2 := by
  obtain ⟨h1, lv', h2, h3, h4⟩ := hK
  have hlt := (Array.getElem?_eq_some_iff.1 h1).1
  have hb' : Below (W.putObj l (.loop (rec .ready none))).heap.size (W.putObj l (.loop (rec .ready none))) (W2.putObj l (.loop (rec .ready none))) := by
    refine ⟨hb.os, hb.tape, hb.output, by simpa using hb.size, fun k hk => ?_⟩
    by_cases e : k = l
    · subst e
      rw [World.putObj_heap_same hlt, World.putObj_heap_same (Nat.lt_of_lt_of_le hlt hb.size)]
    · rw [World.putObj_heap_other e, World.putObj_heap_other e]
      exact hb.block k (by simpa using hk)
  exact ⟨(hb.block l hlt).trans h1, lv', h2.grow hb', fun x y hx => (h3 x y hx).grow hb', h4⟩

theorem live_ne {B : Bse} {ok0 : Nat → Prop} {h : Nat → Option LObj} {lv : Live} {w : World} (hi : Inv B ok0 h lv w) {l : Nat} (h1 : ¬ B.mine l) {b : Nat} (hb : ycc lv b) : b ≠ l := by
  rintro rfl; exact h1 (hi.mineOf hb).1
theorem round_K {B Bx : Bse} {okx : Nat → Prop} {l : Nat} {rec : LoopState → Option Code → Loop} {t0 : Nat → Option AV} {tm : Array Value} {vt : Nat → Value} {fn : FuncId} (hrec : ∀ st pe, (rec st pe).state = st ∧ (rec st pe).pending = pe ∧ ∀ st' pe', { rec st pe with state := st', pending := pe' } = rec st' pe')
    (hl : Bx.w.heap[l]? = some (.loop (rec .ready none))) (hlx : ¬ Bx.lent l) (hlk : ¬ okx l) (hdis : ∀ g, okx g → ¬ Bx.lent g) (hlg : GN ≤ l) (htm : tm.size = N) (hvt : ∀ x, x < 1000000 → vt x = tm.getD x undef) (hbig : N ≤ 1000000) (hps : ∀ p ∈ ps, p < N) (hpn : ps.Nodup) (ht0 : ∀ x y, t0 x = some y → x < N ∨ 1000000 ≤ x) {hk : Nat → Nat → Option LObj} {k : Nat} {el : List AV} (hel : el.length = ps.length ∧ ybl.pureL el = true)
    (round : A P N assign (fun e s1 => e = .normal ∧ A P N body (RndF t0 hk k Q) s1) ⟨roundT t0 ps el, hk k⟩) {vs : List Value} {W : World} (hK : KLoop B Bx okx N l rec t0 vt (rec .ready none) (hk k) W) (hvs : ybt okx W (fun _ => none) el vs) :
    RoundIn Fence.wide 0 P l fn ((ps.toArray.zip vs.toArray).foldl (fun tmps (x : Nat × Value) => tmps.setIfInBounds x.1 x.2) tm) assign body W fun e W' =>
      (e = .returned (.bool true) ∧ KLoop B Bx okx N l rec t0 vt (rec .ready none) (hk (k + 1)) W') ∨
      (e = .returned (.bool false) ∧ ∃ c h, ((c = .ret ∧ Q .ret ⟨t0, h⟩) ∨ ∃ i, c = .exit i ∧ Q (.exit i) ⟨t0, h⟩) ∧ KLoop B Bx okx N l rec t0 vt (rec .done (some c)) h W') := by
  obtain ⟨hWl, lv1, i1, f1, p1⟩ := hK
  rw [putObj_self hWl] at i1 f1
  have hlt := (Array.getElem?_eq_some_iff.1 hWl).1
  have hltx := (Array.getElem?_eq_some_iff.1 hl).1
  have hmx : ¬ Bx.mine l := fun h => by rcases h with h | h; exact hlx h; omega
  have hnl1 : ∀ b, ycc lv1 b → b ≠ l := fun b hb => live_ne i1 hmx hb
  have hnok1 : ∀ g, ybo Bx okx lv1 W g → g ≠ l := fun g hg e => by subst e; rcases hg.1 with h | h; exact hlk h; exact hmx h
  obtain ⟨hvl, hvr⟩ := hvs
  obtain ⟨z1, z2, z3⟩ := fold_get ps vs tm (by rw [hvl, hel.1]) hpn (fun p hp => by rw [htm]; exact hps p hp)
  have hfold : (ps.toArray.zip vs.toArray).foldl (fun tmps (x : Nat × Value) => tmps.setIfInBounds x.1 x.2) tm = (ps.zip vs).foldl (fun t (x : Nat × Value) => t.setIfInBounds x.1 x.2) tm := by
    rw [List.zip_toArray, List.foldl_toArray]
  rw [hfold]
  generalize (ps.zip vs).foldl (fun t (x : Nat × Value) => t.setIfInBounds x.1 x.2) tm = tr at z1 z2 z3
  have j1 := i1.rebase (W1 := W) i1.base.glob (Nat.le_refl _) (fun _ _ => rfl) (fun _ _ => rfl) B.pin (some l) [] (fun x => vt (x - 1000000)) (fun l' h => by cases h; exact ⟨⟨_, hWl⟩, fun h => hnl1 l h rfl⟩)
  have up1 : ∀ g, ybo Bx okx lv1 W g → ybo ⟨W, ycc lv1, B.pin, some l, [], fun x => vt (x - 1000000)⟩ (ybo Bx okx lv1 W) lv1 W g := fun g hg => ⟨.inl hg, hg.2.1, hg.2.2⟩
  have s1 : Sim ⟨W, ycc lv1, B.pin, some l, [], fun x => vt (x - 1000000)⟩ (ybo Bx okx lv1 W) N ⟨roundT t0 ps el, hk k⟩ lv1 { tmps := tr, defers := [] } W := by
    refine ⟨j1, by simp only; rw [z1, htm], fun x y hy => ?_, ⟨[], rfl, List.nodup_nil, fun d hd => by cases hd⟩, hbig, p1⟩
    unfold roundT at hy
    cases hb : Nat.ble 1000000 x with
    | true =>
      simp only [hb] at hy
      have hx : 1000000 ≤ x := by simpa using hb
      refine ⟨.inr hx, ?_⟩
      rw [yfo, if_neg (by omega)]
      exact (f1 _ y hy).keep fun g hg => ⟨up1 g hg, rfl⟩
    | false =>
      simp only [hb] at hy
      have hx := nble hb
      cases hz : look (ps.zip el) x with
      | some y' =>
        simp only [hz, Option.some.injEq] at hy
        subst hy
        obtain ⟨j, hj1, hj2⟩ := look_zip hz
        have hpx := hps x (List.mem_of_getElem? hj1)
        refine ⟨.inl hpx, ?_⟩
        obtain ⟨u, hu⟩ : ∃ u, vs[j]? = some u := ⟨_, List.getElem?_eq_getElem (by rw [hvl]; exact (List.getElem?_eq_some_iff.1 hj2).1)⟩
        rw [yfo, if_pos hx]
        simp only
        rw [z3 j x u hj1 hu]
        have hp : ybl y' = true := pureL_mem hel.2 y' (List.mem_of_getElem? hj2)
        refine ((hvr j y' u hj2 hu).relive (fun id b n _ hm => by rw [ybl.ment hp] at hm; cases hm)).keep fun g hg => ⟨up1 g ⟨.inl hg, Nat.lt_of_lt_of_le (i1.ok0lt g hg) i1.base.size, fun id b n hb e => ?_⟩, rfl⟩
        subst e
        rcases (i1.mineOf ⟨id, n, hb⟩).1 with h | h
        · exact hdis b hg h
        · have := i1.ok0lt b hg; omega
      | none =>
        simp only [hz] at hy
        have hxN : x < N := (ht0 x y hy).resolve_right (by omega)
        refine ⟨.inl hxN, ?_⟩
        rw [yfo, if_pos hx]
        simp only
        rw [z2 x (look_zip_none hel.1.symm hz), ← hvt x hx]
        exact (f1 x y hy).keep fun g hg => ⟨up1 g hg, rfl⟩
  have hA := round _ _ _ _ _ s1
  refine roundIn_of_wpIn trivial (wpIn_mono hA ?_)
  rintro e a2 W2 ⟨s2, lv2, ⟨rfl, hbody⟩, h2⟩
  have hW2l : W2.heap[l]? = some (.loop (rec .ready none)) := (h2.inv.base.block l hlt fun h => hnl1 l h rfl).trans hWl
  have hsz2 : W.heap.size ≤ W2.heap.size := h2.inv.base.size
  have hm2 : ¬ Bse.mine ⟨W, ycc lv1, B.pin, some l, [], fun x => vt (x - 1000000)⟩ l := fun h => by rcases h with h | h; exact hnl1 l h rfl; simp only at h; omega
  have hnl2 : ∀ b, ycc lv2 b → b ≠ l := fun b hb => live_ne h2.inv hm2 hb
  have hnok2 : ∀ g, ybo ⟨W, ycc lv1, B.pin, some l, [], fun x => vt (x - 1000000)⟩ (ybo Bx okx lv1 W) lv2 W2 g → g ≠ l := fun g hg e => by subst e; rcases hg.1 with h | h; exact hnok1 _ h rfl; exact hm2 h
  refine ⟨_, run_beginRound hW2l (hrec _ _).1, ?_⟩
  rw [(hrec _ _).2.2, (hrec _ _).2.1]
  generalize hW3 : W2.putObj l (.loop (rec .busy none)) = W3
  have hW3l : W3.heap[l]? = some (.loop (rec .busy none)) := by rw [← hW3]; exact World.putObj_heap_same (by omega)
  have hW3o : ∀ k, k ≠ l → W3.heap[k]? = W2.heap[k]? := fun k hk => by rw [← hW3]; exact World.putObj_heap_other hk
  have hW3s : W3.heap.size = W2.heap.size := by rw [← hW3]; simp
  have j3 := h2.inv.rebase (W1 := W3) (by rw [← hW3]; exact glob_put h2.inv.base.glob hlg) (by omega) (fun g hg => hW3o g (hnok2 g hg)) (fun b hb => hW3o b (hnl2 b hb)) B.pin (some l) a2.defers (fun x => vt (x - 1000000)) (fun l' h => by cases h; exact ⟨⟨_, hW3l⟩, fun h => hnl2 l h rfl⟩)
  have up3 : ∀ g, ybo ⟨W, ycc lv1, B.pin, some l, [], fun x => vt (x - 1000000)⟩ (ybo Bx okx lv1 W) lv2 W2 g → ybo ⟨W3, ycc lv2, B.pin, some l, a2.defers, fun x => vt (x - 1000000)⟩ (ybo ⟨W, ycc lv1, B.pin, some l, [], fun x => vt (x - 1000000)⟩ (ybo Bx okx lv1 W) lv2 W2) lv2 W3 g ∧ W3.heap[g]? = W2.heap[g]? :=
    fun g hg => ⟨⟨.inl hg, by rw [hW3s]; exact hg.2.1, hg.2.2⟩, hW3o g (hnok2 g hg)⟩
  have s3 : Sim ⟨W3, ycc lv2, B.pin, some l, a2.defers, fun x => vt (x - 1000000)⟩ (ybo ⟨W, ycc lv1, B.pin, some l, [], fun x => vt (x - 1000000)⟩ (ybo Bx okx lv1 W) lv2 W2) N s2 lv2 a2 W3 :=
    ⟨j3, h2.size, fun x y hx => ⟨(h2.frame x y hx).1, (h2.frame x y hx).2.keep up3⟩, ⟨[], rfl, List.nodup_nil, fun d hd => by cases hd⟩, hbig, h2.pin⟩
  refine wpIn_mono (hbody _ _ _ _ _ s3) ?_
  rintro e a4 W4 ⟨s4, lv4, hq, h4⟩
  have hlt3 : l < W3.heap.size := by omega
  have hW4l : W4.heap[l]? = some (.loop (rec .busy none)) := (h4.inv.base.block l hlt3 fun h => hnl2 l h rfl).trans hW3l
  have hsz4 : W3.heap.size ≤ W4.heap.size := h4.inv.base.size
  have fin : ∀ (h' : Nat → Option LObj) (st : LoopState) (pe : Option Code), (∀ x y, t0 x = some y → s4.t (x + 1000000) = some y) → (∀ id o, h' id = some o → s4.h id = some o) → KLoop B Bx okx N l rec t0 vt (rec st pe) h' (W4.putObj l (.loop (rec st pe))) := by
    intro h' st pe hgt hsub
    refine ⟨World.putObj_heap_same (by omega), ?_⟩
    rw [putObj_twice]
    obtain ⟨lv5, i5, sub5, ok5⟩ := h4.inv.weak hsub
    generalize hW5 : W4.putObj l (.loop (rec .ready none)) = W5
    have hW5l : W5.heap[l]? = some (.loop (rec .ready none)) := by rw [← hW5]; exact World.putObj_heap_same (by omega)
    have hW5o : ∀ k, k ≠ l → W5.heap[k]? = W4.heap[k]? := fun k hk => by rw [← hW5]; exact World.putObj_heap_other hk
    have hW5s : W5.heap.size = W4.heap.size := by rw [← hW5]; simp
    have hm3 : ¬ Bse.mine ⟨W3, ycc lv2, B.pin, some l, a2.defers, fun x => vt (x - 1000000)⟩ l := fun h => by rcases h with h | h; exact hnl2 l h rfl; simp only at h; omega
    have hG5 : Glob W5 := by rw [← hW5]; exact glob_put h4.inv.base.glob hlg
    have hb1 : Based ⟨W, ycc lv1, B.pin, some l, [], fun x => vt (x - 1000000)⟩ W5 := by
      have b4 := h4.inv.base
      have b2 := h2.inv.base
      have e5 : W5.os = W4.os ∧ W5.tape = W4.tape ∧ W5.output = W4.output := by rw [← hW5]; exact ⟨rfl, rfl, rfl⟩
      have e3 : W3.os = W2.os ∧ W3.tape = W2.tape ∧ W3.output = W2.output := by rw [← hW3]; exact ⟨rfl, rfl, rfl⟩
      refine ⟨e5.1.trans (b4.os.trans (e3.1.trans b2.os)), e5.2.1.trans (b4.tape.trans (e3.2.1.trans b2.tape)), e5.2.2.trans (b4.output.trans (e3.2.2.trans b2.output)), by simp only; omega, fun k hk hnl => ?_, hG5, b2.gsize, b2.lentG, b2.rdok⟩
      by_cases e : k = l
      · subst e; exact hW5l.trans hWl.symm
      · refine (hW5o k e).trans ((b4.block k (by simp only at hk ⊢; omega) fun h => ?_).trans ((hW3o k e).trans (b2.block k hk hnl)))
        rcases live_back h2.inv h with h' | h'
        · exact hnl h'
        · simp only at hk; omega
    obtain ⟨k1, k2⟩ := Inv.back h2.inv (by omega) i5 hb1 (by omega) (fun g hg => hW5o g fun e => by
      subst e
      rcases hg.1 with h | h
      · exact hnok2 _ h rfl
      · exact hm3 h) (fun b hb => hW5o b (live_ne i5 hm3 hb))
    have hbx : Based Bx W5 := by
      have bx := i1.base
      refine ⟨hb1.os.trans bx.os, hb1.tape.trans bx.tape, hb1.output.trans bx.output, Nat.le_trans bx.size hb1.size, fun k hk hnl => ?_, hG5, bx.gsize, bx.lentG, bx.rdok⟩
      refine (hb1.block k (Nat.lt_of_lt_of_le hk bx.size) fun h => ?_).trans (bx.block k hk hnl)
      rcases (i1.mineOf h).1 with h' | h'
      · exact hnl h'
      · omega
    obtain ⟨q1, q2⟩ := Inv.back i1 (Nat.le_refl _) k1 hbx (Nat.le_refl _) (fun _ _ => rfl) (fun _ _ => rfl)
    refine ⟨lv5, q1, fun x y hx => ?_, fun id b o hN hx hc hb => ?_⟩
    · have hf := (h4.frame _ _ (hgt x y hx)).2
      rw [yfo, if_neg (by omega)] at hf
      simp only [Nat.add_sub_cancel] at hf
      have hf5 := (hf.relive fun id b n hb _ => sub5 id b n hb).keep (fun g hg => ⟨ok5 g hg, rfl⟩)
      exact (hf5.keep k2).keep q2
    · obtain ⟨n, hn⟩ := h4.pin id b o hN (hsub id o hx) hc hb
      obtain ⟨b', n', g1, _⟩ := i5.obj id _ hx
      have := sub5 id b' n' g1
      rw [hn] at this
      cases this
      exact ⟨n, g1⟩
  cases e with
  | normal =>
    refine ⟨_, _, run_endRound none hW4l, .inl ⟨rfl, ?_⟩⟩
    rw [(hrec _ _).2.2]
    exact fin _ .ready none hq.1 hq.2
  | ret =>
    obtain ⟨hx, g1, g2, g3⟩ := hq
    refine ⟨_, _, run_endRound (some .ret) hW4l, .inr ⟨rfl, .ret, hx, .inl ⟨rfl, g3⟩, ?_⟩⟩
    rw [(hrec _ _).2.2]
    exact fin _ .done (some .ret) g1 g2
  | exit i =>
    obtain ⟨hx, g1, g2, g3⟩ := hq
    refine ⟨_, _, run_endRound (some (.exit i)) hW4l, .inr ⟨rfl, .exit i, hx, .inr ⟨i, rfl, g3⟩, ?_⟩⟩
    rw [(hrec _ _).2.2]
    exact fin _ .done (some (.exit i)) g1 g2
  | goto l => exact hq.elim
  | panic c => exact hq.elim
  | outgrown => exact hq.elim

theorem A_rangeF (hgv : evF s.t g = some (.fn gf caps)) (hit : IterCon P gf caps els) (hpe : ∀ el ∈ els, el.length = ps.length ∧ ybl.pureL el = true) (hps : ∀ p ∈ ps, p < N) (hpn : ps.Nodup) (t0 : Nat → Option AV) (ht0 : ∀ x y, t0 x = some y → s.t x = some y ∧ (x < N ∨ 1000000 ≤ x))
    (hk : Nat → Nat → Option LObj) (h0 : ∀ id o, hk 0 id = some o → s.h id = some o) (round : ∀ k el, els[k]? = some el → A P N assign (fun e s1 => e = .normal ∧ A P N body (RndF t0 hk k Q) s1) ⟨roundT t0 ps el, hk k⟩)
    (done : Q .normal ⟨t0, hk els.length⟩) : A P N (.rangeFunc g ps.toArray assign body) Q s := by
  intro B ok0 lvs a w hs
  have hfr := hs.eval hgv
  generalize hv : a.eval g = v at hfr
  cases hfr with
  | fn lb hl hr =>
  obtain ⟨lv, hi, hsub, hok⟩ := hs.inv.weak h0
  have hbig := hs.big
  have hframe0 : ∀ x y, t0 x = some y → Rel (ybo B ok0 lv w) w lv y (yfo B a x) := by
    intro x y hx
    obtain ⟨g1, g2⟩ := ht0 x y hx
    have := (hs.frame x y g1).2
    exact (this.relive fun id b n hb _ => hsub id b n hb).keep fun g hg => ⟨hok g hg, rfl⟩
  have hcaps : ybt (ybo B ok0 lv w) w (fun _ => none) caps lb := ⟨hl, fun i c u h1 h2 => ((hr i c u h1 h2).relive (fun id b n hb _ => by cases hb)).keep fun g hg => ⟨hok g hg, rfl⟩⟩
  have hpins : ∀ id b o, N ≤ id → hk 0 id = some o → isC o = true → B.pin id = some b → ∃ n, lv id = some (some b, n) := by
    intro id b o hN hx hc hb
    obtain ⟨n, hn⟩ := hs.pin id b o hN (h0 id o hx) hc hb
    obtain ⟨b', n', g1, _⟩ := hi.obj id _ hx
    have := hsub id b' n' g1
    rw [hn] at this
    cases this
    exact ⟨n, g1⟩
  refine wpIn_rangeFunc fun fn hfn => ?_
  obtain ⟨l, mark, W1, D0, henter, hgrow, hl1, hlw, hmark⟩ : ∃ (l : Nat) (mark : List Deferred) (W1 : World) (D0 : Nat),
      (Instr.enterLoop fn a.tmps ps.toArray assign body (FW B.rd).round).run P w = .ok (l, mark) W1 ∧ Below w.heap.size w W1 ∧ W1.heap[l]? = some (.loop ({ state := .ready, pending := none, fn, tmps := a.tmps, params := ps.toArray, assign, body, defers := D0 } : Loop)) ∧ w.heap.size ≤ l ∧
      (mark = [] ∨ ∃ D, mark = [{ target := .collected D, args := #[] }] ∧ W1.heap[D]? = some (.deferred (some [])) ∧ w.heap.size ≤ D ∧ D ≠ l) := by
    cases hrd : B.rd with
    | none =>
      refine ⟨_, _, _, w.heap.size, run_enterLoop_outer _ _ _ _ _, ((Below.refl _ w).alloc (Nat.le_refl _) _).alloc (by simp) _, ?_, by omega, .inr ⟨_, rfl, ?_, Nat.le_refl _, by omega⟩⟩
      · have := World.alloc_heap_new (w.alloc (.deferred (some []))) (.loop { state := .ready, pending := none, fn, tmps := a.tmps, params := ps.toArray, assign, body, defers := w.heap.size })
        rwa [World.size_alloc] at this
      · exact (Below.heap_alloc _ _ _ (by simp)).trans (World.alloc_heap_new w _)
    | some l0 =>
      obtain ⟨⟨r0, hr0⟩, hnl⟩ := hs.inv.base.rdok l0 hrd
      have hr1 : w.heap[l0]? = some (.loop r0) := (hs.inv.base.block l0 (Array.getElem?_eq_some_iff.1 hr0).1 hnl).trans hr0
      exact ⟨_, _, _, r0.defers, run_enterLoop_inner hr1 _ _ _ _ _, (Below.refl _ w).alloc (Nat.le_refl _) _, World.alloc_heap_new w _, Nat.le_refl _, .inl rfl⟩
  obtain ⟨rec, hrecd⟩ : ∃ rec : LoopState → Option Code → Loop, rec = fun st pe => ({ state := st, pending := pe, fn, tmps := a.tmps, params := ps.toArray, assign, body, defers := D0 } : Loop) := ⟨_, rfl⟩
  have hrec : ∀ st pe, (rec st pe).state = st ∧ (rec st pe).pending = pe ∧ ∀ st' pe', { rec st pe with state := st', pending := pe' } = rec st' pe' := fun st pe => by subst hrecd; exact ⟨rfl, rfl, fun _ _ => rfl⟩
  have hl1' : W1.heap[l]? = some (.loop (rec .ready none)) := by rw [hrecd]; exact hl1
  have hG1 : Glob W1 := (hi.base.grow hgrow).glob
  have hGN : GN ≤ w.heap.size := Nat.le_trans hi.base.gsize hi.base.size
  have hltw : ∀ b, ycc lv b → b < w.heap.size := fun b hb => (hi.mineOf hb).2
  have hlt1 := (Array.getElem?_eq_some_iff.1 hl1').1
  have j1 := hi.rebase hG1 hgrow.size (fun g hg => hgrow.block g hg.2.1) (fun b hb => hgrow.block b (hltw b hb)) (fun _ => none) none [] (fun _ => undef) (fun l h => by cases h)
  have hnlive : ∀ g, ybo B ok0 lv w g → ¬ ycc lv g := fun g hg ⟨id, n, h⟩ => hg.2.2 id g n h rfl
  refine ⟨l, mark, W1, { target := .fn (.func gf) lb.toArray, args := #[.func (.yield l) #[] #[]] }, W1, gf, #[.func (.yield l) #[] #[]] ++ lb.toArray, W1, henter, ?_, fun _ _ => trivial, ?_, fun hc => (by cases hc), ?_⟩
  · simp only [resolve, hv]
    simp [go_sem]
  · simp [invoke, go_sem, run_callFunc hit.1]
  · have hK0 : KLoop B ⟨W1, ycc lv, fun _ => none, none, [], fun _ => undef⟩ (ybo B ok0 lv w) N l rec t0 (yfo B a) (rec .ready none) (hk 0) W1 := by
      refine ⟨hl1', lv, ?_, fun x y hx => ?_, hpins⟩
      · rw [putObj_self hl1']; exact j1
      · rw [putObj_self hl1']
        exact (hframe0 x y hx).keep fun g hg => ⟨⟨.inl hg, Nat.lt_of_lt_of_le hg.2.1 hgrow.size, hg.2.2⟩, hgrow.block g hg.2.1⟩
    have hback : ∀ (o : Loop) (h : Nat → Option LObj) (W : World), KLoop B ⟨W1, ycc lv, fun _ => none, none, [], fun _ => undef⟩ (ybo B ok0 lv w) N l rec t0 (yfo B a) o h W → ∃ lv', Sim B ok0 N ⟨t0, h⟩ lv' { a with defers := mark ++ a.defers } (W.putObj l (.loop { o with state := .exhausted })) := by
      rintro o h W ⟨hWl, lv', i1, f1, p1⟩
      have hlt := (Array.getElem?_eq_some_iff.1 hWl).1
      have b1 := i1.base
      generalize hW5 : W.putObj l (.loop { o with state := .exhausted }) = W5
      have hW5o : ∀ k, k ≠ l → W5.heap[k]? = (W.putObj l (.loop (rec .ready none))).heap[k]? := fun k hk => by rw [← hW5, World.putObj_heap_other hk, World.putObj_heap_other hk]
      have hW5s : W5.heap.size = (W.putObj l (.loop (rec .ready none))).heap.size := by rw [← hW5]; simp
      have hG5 : Glob W5 := by
        have := glob_put (o := .loop { o with state := .exhausted }) b1.glob (l := l) (by omega)
        rwa [putObj_twice, hW5] at this
      have e5 : W5.os = W.os ∧ W5.tape = W.tape ∧ W5.output = W.output := by rw [← hW5]; exact ⟨rfl, rfl, rfl⟩
      have hold : ∀ k, k < w.heap.size → ¬ ycc lv k → W5.heap[k]? = w.heap[k]? := fun k hk hn => (hW5o k (by omega)).trans ((b1.block k (Nat.lt_of_lt_of_le hk hgrow.size) hn).trans (hgrow.block k hk))
      have hbB : Based B W5 := by
        refine ⟨e5.1.trans (b1.os.trans (hgrow.os.trans hi.base.os)), e5.2.1.trans (b1.tape.trans (hgrow.tape.trans hi.base.tape)), e5.2.2.trans (b1.output.trans (hgrow.output.trans hi.base.output)), ?_, fun k hk hnl => ?_, hG5, hi.base.gsize, hi.base.lentG, hi.base.rdok⟩
        · rw [hW5s]; exact Nat.le_trans hi.base.size (Nat.le_trans hgrow.size b1.size)
        · refine (hold k (Nat.lt_of_lt_of_le hk hi.base.size) fun hb => ?_).trans (hi.base.block k hk hnl)
          rcases (hi.mineOf hb).1 with h' | h'
          · exact hnl h'
          · omega
      have hmx : ¬ Bse.mine ⟨W1, ycc lv, fun _ => none, none, [], fun _ => undef⟩ l := fun h => by rcases h with h | h; exact absurd (hltw l h) (by omega); simp only at h; omega
      obtain ⟨k1, k2⟩ := Inv.back hi hgrow.size i1 hbB (by omega) (fun g hg => hW5o g fun e => by
        subst e
        rcases hg.1 with h | h
        · have := h.2.1; omega
        · exact hmx h) (fun b hb => hW5o b (live_ne i1 hmx hb))
      refine ⟨lv', k1, hs.size, fun x y hx => ⟨(ht0 x y hx).2, ?_⟩, ?_, hbig, p1⟩
      · exact (f1 x y hx).keep k2
      · obtain ⟨ms, g1, g2, g3⟩ := hs.defers
        have hm : ∀ d ∈ ms, ∃ D, d = { target := .collected D, args := #[] } ∧ W5.heap[D]? = some (.deferred (some [])) ∧ B.w.heap.size ≤ D ∧ D < w.heap.size := by
          intro d hd
          obtain ⟨D, q1, q2, q3⟩ := g3 d hd
          have hDlt := (Array.getElem?_eq_some_iff.1 q2).1
          exact ⟨D, q1, (hold D hDlt fun ⟨id, n, h⟩ => (hi.lvat h).choose_spec.2.2.2.notDef q2).trans q2, q3, hDlt⟩
        refine ⟨mark ++ ms, by simp only; rw [g1, List.append_assoc], ?_, fun d hd => ?_⟩
        · rcases hmark with rfl | ⟨D, rfl, _, hD, _⟩
          · simpa using g2
          · simp only [List.cons_append, List.nil_append, List.nodup_cons]
            refine ⟨fun hin => ?_, g2⟩
            obtain ⟨D', q1, _, _, q4⟩ := hm _ hin
            simp only [Deferred.mk.injEq, Target.collected.injEq, and_true] at q1
            omega
        · rcases List.mem_append.1 hd with hd | hd
          · rcases hmark with rfl | ⟨D, rfl, hD1, hD2, hD3⟩
            · cases hd
            · simp only [List.mem_singleton] at hd
              refine ⟨D, hd, ?_, Nat.le_trans hi.base.size hD2⟩
              exact (hW5o D hD3).trans ((b1.block D (Array.getElem?_eq_some_iff.1 hD1).1 fun h => by have := hltw D h; omega).trans hD1)
          · obtain ⟨D, q1, q2, q3, _⟩ := hm d hd
            exact ⟨D, q1, q2, q3⟩
    have hcall := hit.2 l (ybo B ok0 lv w) W1 lb (fun k W => KLoop B ⟨W1, ycc lv, fun _ => none, none, [], fun _ => undef⟩ (ybo B ok0 lv w) N l rec t0 (yfo B a) (rec .ready none) (hk k) W)
      (fun W => ∃ (c : Code) (h : Nat → Option LObj), ((c = .ret ∧ Q .ret ⟨t0, h⟩) ∨ ∃ i, c = .exit i ∧ Q (.exit i) ⟨t0, h⟩) ∧ KLoop B ⟨W1, ycc lv, fun _ => none, none, [], fun _ => undef⟩ (ybo B ok0 lv w) N l rec t0 (yfo B a) (rec .done (some c)) h W)
      (fun g hg => Nat.lt_of_lt_of_le hg.2.1 hgrow.size) ⟨hcaps.1, fun i x u hx hu => (hcaps.2 i x u hx hu).keep fun g hg => ⟨hg, hgrow.block g hg.2.1⟩⟩ (fun k W' hK => ?_) (fun k W2 W3 hK hb => hK.grow hb) (fun W2 W3 ⟨c, h, hc, hK⟩ hb => ⟨c, h, hc, hK.grow hb⟩) (fun k el vs W2 hel hK hvs => ?_) hK0
    · have hcall' : CallsIn (FW B.rd) (0 - 1) P gf (#[.func (.yield l) #[] #[]] ++ lb.toArray) W1 _ := hcall
      refine hcall'.mono ?_
      rintro e W' ⟨⟨v, rfl⟩, hK | ⟨c, h, hc, hK⟩⟩
      · obtain ⟨lv', hsim⟩ := hback _ _ _ hK
        refine ⟨none, W'.putObj l (.loop { rec .ready none with state := .exhausted }), ?_, ⟨_, lv', done, hsim⟩⟩
        exact (run_endLoop (P := P) hK.1 (by rw [(hrec _ _).1]; simp)).trans (congrArg (fun x => Result.ok x (W'.putObj l (.loop { rec .ready none with state := .exhausted }))) (hrec _ _).2.1)
      · obtain ⟨lv', hsim⟩ := hback _ _ _ hK
        refine ⟨some c, W'.putObj l (.loop { rec .done (some c) with state := .exhausted }), ?_, ?_⟩
        · exact (run_endLoop (P := P) hK.1 (by rw [(hrec _ _).1]; simp)).trans (congrArg (fun x => Result.ok x (W'.putObj l (.loop { rec .done (some c) with state := .exhausted }))) (hrec _ _).2.1)
        · rcases hc with ⟨rfl, hq⟩ | ⟨i, rfl, hq⟩
          · exact wpIn_ret ⟨_, lv', hq, hsim⟩
          · exact wpIn_exit ⟨_, lv', hq, hsim⟩
    · obtain ⟨_, lv', hI, _, _⟩ := hK
      have hb := hI.base
      refine ⟨by simpa using hb.size, fun g hg => ?_⟩
      have hne : g ≠ l := by have := hg.2.1; omega
      rw [← World.putObj_heap_other (w := W') (o := .loop (rec .ready none)) hne]
      exact hb.block g (Nat.lt_of_lt_of_le hg.2.1 hgrow.size) (hnlive g hg)
    · have hel' := hpe el (List.mem_of_getElem? hel)
      refine ⟨fn, _, assign, body, ?_, round_K hrec hl1' (fun h => by have := hltw l h; omega) (fun h => by have := h.2.1; omega) (fun g hg => hnlive g hg) (by omega) hs.size (fun x hx => by rw [yfo, if_pos hx]) hbig hps hpn (fun x y hx => (ht0 x y hx).2) hel' (round k el hel) hK hvs⟩
      have := run_yield (P := P) (args := vs.toArray) hK.1 (by rw [hrecd]; simp [hvs.1, hel'.1])
      rw [hrecd] at this
      exact this
end
end Go.Proofs.YtmlkdoimkdbdpaaGreatDoor
set_option linter.unusedVariables false
set_option maxHeartbeats 4000000
namespace Go.Proofs.YtmlkdoimkdbdpaaGreatDoor
open Go.RowKit

def aside : List (Nat × AV) → List (Nat × AV)
  | [] => []
  | (x, y) :: t => (x + 1000000, y) :: aside t
theorem look_aside : ∀ (t : List (Nat × AV)) (x : Nat), look (aside t) (x + 1000000) = look t x
  | [], x => rfl
  | (a, y) :: t, x => by
    simp only [aside, look]
    have e : Nat.beq (x + 1000000) (a + 1000000) = Nat.beq x a := by
      cases h : Nat.beq x a with
      | true => rw [Nat.eq_of_beq_eq_true h]; simp
      | false =>
        refine yfr fun e => ?_
        obtain rfl : x = a := by omega
        simp at h
    rw [e]
    cases Nat.beq x a with
    | true => rfl
    | false => exact look_aside t x
theorem look_aside_big : ∀ {t : List (Nat × AV)} {x : Nat} {y : AV}, look (aside t) x = some y → 1000000 ≤ x
  | [], x, y, h => by simp [aside, look] at h
  | (a, z) :: t, x, y, h => by
    simp only [aside, look] at h
    cases hb : Nat.beq x (a + 1000000) with
    | true => have := Nat.eq_of_beq_eq_true hb; omega
    | false => simp only [hb] at h; exact look_aside_big h
theorem look_append : ∀ {a b : List (Nat × AV)} {x : Nat}, look (a ++ b) x = match look a x with | some y => some y | none => look b x
  | [], b, x => rfl
  | (d, r) :: a, b, x => by
    simp only [List.cons_append, look]
    cases Nat.beq x d with
    | true => rfl
    | false => exact look_append
def ltAll (n : Nat) : List Nat → Bool
  | [] => true
  | x :: t => Nat.blt x n && ltAll n t
theorem ltAll_spec {n : Nat} : ∀ {t : List Nat}, ltAll n t = true → ∀ x ∈ t, x < n
  | [], _, x, h => by cases h
  | a :: t, hl, x, h => by
    simp only [ltAll, Bool.and_eq_true, Nat.blt_eq] at hl
    rcases List.mem_cons.1 h with rfl | h
    · exact hl.1
    · exact ltAll_spec hl.2 x h
theorem nodupN_spec : ∀ {l : List Nat}, yfl l = true → l.Nodup
  | [], _ => List.nodup_nil
  | k :: l, h => by
    simp only [yfl] at h
    cases hm : memN k l with
    | true => simp [hm] at h
    | false =>
      simp only [hm] at h
      exact List.nodup_cons.2 ⟨fun hin => (by rw [memN_iff.2 hin] at hm; cases hm), nodupN_spec h⟩
def lowS : List (Nat × AV) → List (Nat × AV)
  | [] => []
  | (x, y) :: t => match Nat.ble 1000000 x with
    | true => lowS t
    | false => (x, y) :: lowS t
theorem look_lowS : ∀ {t : List (Nat × AV)} {x : Nat}, look (lowS t) x = match Nat.ble 1000000 x with | true => none | false => look t x
  | [], x => by cases h : Nat.ble 1000000 x <;> rfl
  | (a, z) :: t, x => by
    have ih := look_lowS (t := t) (x := x)
    simp only [lowS]
    cases ha : Nat.ble 1000000 a with
    | true =>
      simp only
      rw [ih]
      cases hx : Nat.ble 1000000 x with
      | true => rfl
      | false =>
        simp only [look]
        rw [yfr (fun e => by subst e; rw [ha] at hx; cases hx)]
    | false =>
      simp only [look]
      cases hb : Nat.beq x a with
      | true => rw [Nat.eq_of_beq_eq_true hb, ha]
      | false => simp only; rw [ih]
def keysOk (n : Nat) : List (Nat × AV) → Bool
  | [] => true
  | (x, _) :: t => (Nat.blt x n || Nat.ble 1000000 x) && keysOk n t
theorem keysOk_spec {n : Nat} : ∀ {t : List (Nat × AV)}, keysOk n t = true → ∀ x y, look t x = some y → x < n ∨ 1000000 ≤ x
  | [], _, x, y, h => by simp [look] at h
  | (a, z) :: t, hl, x, y, h => by
    simp only [keysOk, Bool.and_eq_true, Bool.or_eq_true, Nat.blt_eq, Nat.ble_eq] at hl
    simp only [look] at h
    cases hb : Nat.beq x a with
    | true => rw [Nat.eq_of_beq_eq_true hb]; exact hl.1
    | false => simp only [hb] at h; exact keysOk_spec hl.2 x y h
def roundL (ps : List Nat) (el : List AV) (t0 : List (Nat × AV)) : List (Nat × AV) := ps.zip el ++ (lowS t0 ++ aside t0)
theorem A_range {P : Program} {N : Nat} {g : Operand} {ps : List Nat} {assign body : Code} {Q : Exit → SS → Prop} {t : List (Nat × AV)} {h : List (Nat × Option LObj)} {gf : Nat} {caps : List AV} {els : List (List AV)} (hgv : evF (look t) g = some (.fn gf caps)) (hit : IterCon P gf caps els)
    (hpe : ∀ el ∈ els, el.length = ps.length ∧ ybl.pureL el = true) (hps : (ltAll N ps && (yfl ps && ltAll 1000000 ps)) = true) (t0 : List (Nat × AV)) (ht0 : subT t t0) (hlt : keysOk N t0 = true) (hk : Nat → List (Nat × Option LObj)) (h0 : ∀ id o, yap (hk 0) id = some o → yap h id = some o)
    (round : ∀ k el, els[k]? = some el → A P N assign (fun e s1 => e = .normal ∧ A P N body (RndF (look t0) (fun k => yap (hk k)) k Q) s1) (S (roundL ps el t0) (hk k))) (done : Q .normal (S t0 (hk els.length))) : A P N (.rangeFunc g ps.toArray assign body) Q (S t h) := by
  simp only [Bool.and_eq_true] at hps
  refine A_rangeF hgv hit hpe (ltAll_spec hps.1) (nodupN_spec hps.2.1) (look t0) (fun x y hx => ⟨yce ht0 x y hx, keysOk_spec hlt x y hx⟩) (fun k => yap (hk k)) h0 (fun k el hel => ?_) done
  refine A_weak (round k el hel) ⟨fun x y hx => ?_, fun id o ho => ho⟩
  simp only [S, roundL, look_append, look_lowS] at hx
  show roundT (look t0) ps el x = some y
  unfold roundT
  cases hb : Nat.ble 1000000 x with
  | true =>
    have hx1 : 1000000 ≤ x := by simpa using hb
    simp only
    cases hz : look (ps.zip el) x with
    | some y' =>
      obtain ⟨j, hj, _⟩ := look_zip hz
      have := ltAll_spec hps.2.2 x (List.mem_of_getElem? hj)
      omega
    | none =>
      simp only [hz, hb] at hx
      have := look_aside t0 (x - 1000000)
      rw [show x - 1000000 + 1000000 = x by omega] at this
      rw [← this]; exact hx
  | false =>
    simp only
    have hx1 := nble hb
    cases hz : look (ps.zip el) x with
    | some y' => simp only [hz] at hx; exact hx
    | none =>
      simp only [hz, hb] at hx
      simp only
      cases hz2 : look t0 x with
      | some y' => simp only [hz2] at hx; exact hx
      | none => simp only [hz2] at hx; have := look_aside_big hx; omega
theorem rndF {t0 t1 : List (Nat × AV)} {hk : Nat → List (Nat × Option LObj)} {h1 : List (Nat × Option LObj)} {k : Nat} {Q : Exit → SS → Prop} (g1 : subT t1 (aside t0)) (g2 : ∀ id o, yap (hk (k + 1)) id = some o → yap h1 id = some o) : RndF (look t0) (fun k => yap (hk k)) k Q .normal (S t1 h1) :=
  ⟨fun x y hx => yce g1 _ y (by rw [look_aside]; exact hx), g2⟩
section
variable {P : Program} {n : Nat} {ops : Array Oper} {Q : Exit → Act → World → Prop} {a : Act} {w : World}
theorem opI {i : Nat} {rest : List Nat} {o : Oper} (u : Value) (ho : ops[i]? = some o) (hg : o.guard = none) (hd : isDefer o.op = false) (hr : (execOp a.eval o).run P w = .ok (.value u) w) (k : wpOpsIn Fence.wide n P ops Q rest (a.put o.dst u) w) : wpOpsIn Fence.wide n P ops Q (i :: rest) a w := by
  have hw : Region.wanted o (yielded ops a.tmps) = true := by simp [Region.wanted, hg]
  simp only [wpOpsIn, ho, hw, if_true]
  refine oper_FW (rd := none) hd ?_
  unfold Oper.wp
  rw [hr]
  exact k
theorem opI_yield {i : Nat} {rest : List Nat} {o : Oper} {g : Operand} {args : Array Operand} {ats : Array TypeId} {l : Nat} {R : Ending → World → Prop} (ho : ops[i]? = some o) (hg : o.guard = none) (hop : o.op = .call { callee := .value g, args := args, argTypes := ats }) (hv : a.eval g = .func (.yield l) #[] #[])
    (hy : YieldAt Fence.wide 0 P l (args.map a.eval) w R) (k : ∀ e w', R e w' → ∃ u, e = .returned u ∧ wpOpsIn Fence.wide n P ops Q rest (a.put o.dst u) w') : wpOpsIn Fence.wide n P ops Q (i :: rest) a w := by
  have hw : Region.wanted o (yielded ops a.tmps) = true := by simp [Region.wanted, hg]
  simp only [wpOpsIn, ho, hw, if_true]
  obtain ⟨fn, tmps, assign, body, hrun, hround⟩ := hy
  refine ⟨fun _ _ => trivial, ?_⟩
  have hrun2 : (o.semAt (Fence.wide).round a.eval).run P w = .ok (.round l fn tmps assign body) w := by
    show (execOp a.eval o).run P w = _
    unfold execOp
    simp only [hop, resolve, Deferred.ofValue, hv, Sem.run_bind, Sem.run_pure, Result.andThen_ok, invoke]
    simpa using hrun
  rw [hrun2]
  refine ⟨fun hc => (by cases hc), ?_⟩
  have hround' : RoundIn Fence.wide (n - 1) P l fn tmps assign body w R := ⟨trivial, fun c cs _ => hround.2 c cs (room_wide _)⟩
  refine hround'.mono fun e w' hR => ?_
  obtain ⟨u, rfl, hk⟩ := k e w' hR
  exact hk
end
end Go.Proofs.YtmlkdoimkdbdpaaGreatDoor
