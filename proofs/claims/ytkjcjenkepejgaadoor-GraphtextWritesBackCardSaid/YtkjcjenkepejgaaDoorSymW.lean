/- Builders: typed blocks made, rows owned, bytes appended, strings taken. No program. -/
import Derived.Test.YtkjcjenkepejgaaDoorSymV
import Derived.Lib.UnsafeStr
import Derived.Lib.Builder
import Derived.Laws.Externs
import Derived.Laws.Pointers
import Derived.LaidEqlPtr
set_option linter.unusedVariables false
namespace Go.Proofs.YtkjcjenkepejgaaDoor
open Go.RowKit
section
variable {P : Program} {T : Nat → Option Ty} {N : Nat} {ops : Array Oper} {lf : Oper → Bool} {Q : SS → Prop} {t : List (Nat × AV)} {h : List (Nat × Option LObj)} {rest : List Oper} {d : Nat} {op : Op} {ty : TypeId} {pos : String} {af : Array Edge} {gd : Option (Nat × Bool)} {r : AV}
theorem Sim.ownHT {B : Bse} {ok0 : Nat → Prop} {s : SS} {lv : Live} {a : Act} {w : World} (hs : Sim B ok0 N s lv a w) {id : Nat} (e0 : TypeId) (hf : Fresh s id) :
    ∃ lv', Sim B ok0 N ⟨s.t, hupd s.h id (some (.tvec e0 []))⟩ lv' a w ∧ ∀ size, Rel (okOf B ok0 lv' w) w lv' (.ls id size 0) (.slice none 0 0) := by
  have hid : lv id = none := hs.inv.dom id hf.1
  have hsame : ∀ j b n, (fun j => if j = id then some (none, 0) else lv j : Live) j = some (some b, n) → lv j = some (some b, n) := by
    intro j b n hj
    simp only at hj
    split at hj
    · cases hj
    · exact hj
  have hok : ∀ g, okOf B ok0 lv w g → okOf B ok0 (fun j => if j = id then some (none, 0) else lv j) w g := fun g hg => ⟨hg.1, hg.2.1, fun j b n hj => hg.2.2 j b n (hsame j b n hj)⟩
  have hre : ∀ (x : AV) (u : Value), ment id x = false → Rel (okOf B ok0 lv w) w lv x u → Rel (okOf B ok0 (fun j => if j = id then some (none, 0) else lv j) w) w (fun j => if j = id then some (none, 0) else lv j) x u := fun x u hm hr =>
    (hr.relive fun j b n hj hmj => by
      split at hj
      · rename_i e; subst e; rw [hm] at hmj; cases hmj
      · exact hj).keep fun g hg => ⟨hok g hg, rfl⟩
  refine ⟨fun j => if j = id then some (none, 0) else lv j, ⟨⟨hs.inv.base, hs.inv.ok0lt, fun j hj => ?_, fun i j b n m h1 h2 => hs.inv.inj i j b n m (hsame _ _ _ h1) (hsame _ _ _ h2), fun j x hx => ?_⟩, hs.size, fun x y hy => ?_, hs.defers, fun j b o hN hj hc hb => ?_⟩, fun size => ?_⟩
  · by_cases h : j = id
    · subst h; simp [hupd] at hj
    · simp only [hupd, h, if_false] at hj ⊢; exact hs.inv.dom j hj
  · by_cases h : j = id
    · subst h
      simp only [hupd, if_true, Option.some.injEq] at hx
      subst hx
      exact ⟨none, 0, by simp, .inr ⟨e0, rfl⟩⟩
    · simp only [hupd, h, if_false] at hx
      obtain ⟨b, n, h1, h2⟩ := hs.inv.obj j x hx
      refine ⟨b, n, by simp [h, h1], ?_⟩
      cases b with
      | none => exact h2
      | some b =>
        refine ⟨h2.1, h2.2.1, (h2.2.2.relive fun i b n hi hmi => ?_).keep (fun g hg => ⟨hok g hg, rfl⟩) rfl⟩
        split at hi
        · rename_i e; subst e; rw [hf.2.2 j x hx] at hmi; cases hmi
        · exact hi
  · have := hs.frame x y hy
    exact ⟨this.1, hre y _ (hf.2.1 x y hy) this.2⟩
  · by_cases h : j = id
    · subst h; simp only [hupd, if_true, Option.some.injEq] at hj; subst hj; cases hc
    · simp only [hupd, h, if_false] at hj ⊢
      exact hs.pin j b o hN hj hc hb
  · refine .ls _ rfl fun b n hb => ?_
    simp only [if_true, Option.some.injEq, Prod.mk.injEq] at hb
    obtain ⟨rfl, rfl⟩ := hb
    exact ⟨rfl, rfl⟩
theorem A_ownCT {c : Code} {Q : Exit → SS → Prop} (jb k id size : Nat) (e0 : TypeId) {te : TypeId} {ys : List AV} (hj : hlook h jb = some (.tcells te ys)) (hk : ys[k]? = some (.v (.slice none 0 0))) (h1 : freshT id t = true) (h2 : freshH id h = true) (hne : Nat.beq jb id = false)
    (kk : A P N c Q (S t ((jb, some (.tcells te (ys.set k (.ls id size 0)))) :: (id, some (.tvec e0 [])) :: h))) : A P N c Q (S t h) := by
  intro B ok0 lv a w hs
  obtain ⟨lv', hs1, hnil⟩ := hs.ownHT e0 (fresh_of (t := t) (h := h) h1 h2)
  have hnj : jb ≠ id := fun e => by subst e; simp at hne
  have hj1 : hupd (hlook h) id (some (.tvec e0 [])) jb = some (.tcells te ys) := by simp only [hupd, hnj, if_false]; exact hj
  refine kk B ok0 lv' a w ?_
  rw [← S_h]
  obtain ⟨bo, n, k1, k2⟩ := hs1.inv.obj jb _ hj1
  cases bo with
  | none => simp [OwnAt] at k2
  | some b =>
    obtain ⟨q1, q2, ⟨cc, e, q3, q4, q5, q6, q7⟩, hsh⟩ := k2
    have hkl := (List.getElem?_eq_some_iff.1 hk).1
    have hkc : k < cc.size := by omega
    have hold := rel_v (q7 k _ cc[k] hk (by simp [hkc]))
    have hnew := hnil size
    rw [← hold] at hnew
    have hS : hlook ((id, some (.tvec e0 [])) :: h) = hupd (hlook h) id (some (.tvec e0 [])) := (hlook_cons id _ h).symm
    refine ⟨⟨hs1.inv.base, hs1.inv.ok0lt, fun j hjn => ?_, hs1.inv.inj, fun j x hxj => ?_⟩, hs1.size, hs1.frame, hs1.defers, fun j b' o hN hjx hc hb' => ?_⟩
    · by_cases hjj : j = jb
      · subst hjj; simp [hupd] at hjn
      · simp only [hupd, hjj, if_false, hS] at hjn; exact hs1.inv.dom j hjn
    · by_cases hjj : j = jb
      · subst hjj
        simp only [hupd, if_true, Option.some.injEq] at hxj
        subst hxj
        refine ⟨some b, n, k1, q1, q2, ⟨cc, e, q3, q4, by simpa using q5, fun x hxm => ?_, fun i x u hi hu => ?_⟩, by simpa using hsh⟩
        · rcases List.mem_or_eq_of_mem_set hxm with hm | hm
          · exact q6 x hm
          · subst hm; rfl
        · rw [List.getElem?_set] at hi
          split at hi
          · rename_i e1
            subst e1
            cases hi
            simp only [hkc, Array.getElem?_eq_getElem, Option.some.injEq] at hu
            subst hu
            exact hnew
          · exact q7 i x u hi hu
      · simp only [hupd, hjj, if_false, hS] at hxj
        exact hs1.inv.obj j x hxj
    · by_cases hjj : j = jb
      · subst hjj
        exact hs1.pin j b' _ hN hj1 rfl hb'
      · simp only [hupd, hjj, if_false, hS] at hjx
        exact hs1.pin j b' o hN hjx hc hb'
theorem appendS_loud (hT : TOK P T) {o : Oper} {ti tj e es eb sz s2 : Nat} {ea ag a2 : Bool} {ez z z2 : List Value} {x y : Operand} {id len : Nat} {xs : List AV} {s0 : ByteArray} {s s' : SS} (ho : o.op = .call { callee := .builtin .append, args := #[x, y], argTypes := #[ti, tj] }) (hd : o.dst = some d) (hdN : d < N) (hk : T ti = some ⟨.slc e es ea eb ez, sz, ag, z⟩) (hk2 : T tj = some ⟨.string, s2, a2, z2⟩) (hes : es = 1)
    (hx : evF s.t x = some (.ls id es len)) (hid : s.h id = some (.tvec e xs)) (hxl : xs.length = len * es) (hy : evF s.t y = some (.v (.string s0))) (hlim : len + s0.size ≤ 4294967296 ∧ (len + s0.size) * eb ≤ 140737488355328)
    (ht : ∀ x y, s'.t x = some y → y = .any ∨ (s.t x = some y ∧ ment id y = false)) (hlt : ∀ x y, s'.t x = some y → ∃ z, s.t x = some z) (hh : ∀ j ob', j ≠ id → s'.h j = some ob' → mentO id ob' = false ∧ ∃ ob, s.h j = some ob ∧ ForgO ob ob') (hid' : s'.h id = some (.tvec e (xs ++ bytesA s0.data.toList))) :
    LoudAt P N o s (· = ⟨updF s'.t (some d) (.ls id es (len + s0.size)), s'.h⟩) := by
  intro B ok0 lv a w hs Q
  have hyv := rel_v (hs.eval hy)
  obtain ⟨v', w', lv', hrun0, hs', hrel⟩ := appendS_world (ty := o.type) hs (hT _ _ hk).2.2 hes (hT _ _ hk2).2.2 rfl rfl rfl hid hxl (hs.eval hx) hlim ht hlt hh hid'
  have hrun : (execOp a.eval o).run P w = .ok (.value v') w' := by
    simp only [execOp, ho, resolve, invoke, builtin, Sem.run_bind, Sem.run_pure, Result.andThen_ok, List.map_toArray, List.map_cons, List.map_nil, hyv, hrun0]
  unfold Oper.wp
  rw [hrun]
  simp only [Oper.upon, hd]
  exact ⟨_, lv', rfl, hs'.putOnly hdN hrel⟩
theorem L_appendS (hT : TOK P T) {ti tj e es eb sz s2 : Nat} {ea ag a2 : Bool} {ez z z2 : List Value} {x y : Operand} {id len : Nat} {xs : List AV} {s0 : ByteArray} {t' : List (Nat × AV)} {h' : List (Nat × Option LObj)} (hk : T ti = some ⟨.slc e es ea eb ez, sz, ag, z⟩) (hk2 : T tj = some ⟨.string, s2, a2, z2⟩) (hes : es = 1) (hx : evF (look t) x = some (.ls id es len)) (hid : hlook h id = some (.tvec e xs)) (hxl : xs.length = len * es) (hy : evF (look t) y = some (.v (.string s0)))
    (hlim : len + s0.size ≤ 4294967296 ∧ (len + s0.size) * eb ≤ 140737488355328) (ht : forgT id t = some t') (hh : forgH id h = some h') (hl : lf ⟨some d, .call { callee := .builtin .append, args := #[x, y], argTypes := #[ti, tj] }, ty, pos, af, gd⟩ = true)
    (hw : wantedF ops (look t) ⟨some d, .call { callee := .builtin .append, args := #[x, y], argTypes := #[ti, tj] }, ty, pos, af, gd⟩ = some true) (hd : Nat.blt d N = true) (k : Lex P N ops lf Q rest (S ((d, .ls id es (len + s0.size)) :: t') ((id, some (.tvec e (xs ++ bytesA s0.data.toList))) :: h'))) :
    Lex P N ops lf Q (⟨some d, .call { callee := .builtin .append, args := #[x, y], argTypes := #[ti, tj] }, ty, pos, af, gd⟩ :: rest) (S t h) := by
  obtain ⟨g1, g2⟩ := forgT_spec ht
  have e : S ((d, .ls id es (len + s0.size)) :: t') ((id, some (.tvec e (xs ++ bytesA s0.data.toList))) :: h') = (⟨updF (S t' ((id, some (.tvec e (xs ++ bytesA s0.data.toList))) :: h')).t (some d) (.ls id es (len + s0.size)), (S t' ((id, some (.tvec e (xs ++ bytesA s0.data.toList))) :: h')).h⟩ : SS) := by
    unfold S; rw [look_cons]
  refine L_loud hl hw ?_ k
  rw [e]
  refine appendS_loud hT rfl rfl (by simpa using hd) hk hk2 hes hx hid hxl hy hlim g1 g2 (fun j ob' hj hob => ?_) ?_
  · simp only [S, hlook, beq_ne hj] at hob
    exact forgH_spec hh j ob' hob
  · simp [S, hlook]
theorem allocT_loud (hT : TOK P T) {o : Oper} {elem : TypeId} {y : Ty} {s : SS} (ho : o.op = .alloc elem) (hd : o.dst = some d) (hdN : d < N) (id : Nat) (hy : T elem = some y) (hone : y.zero.all Value.oneCell' = true) (hf : Fresh s id) (hidN : id < N) :
    LoudAt P N o s (· = ⟨updF s.t (some d) (.lp id 0), hupd s.h id (some (.tcells elem (y.zero.map .v)))⟩) := by
  intro B ok0 lv a w hs Q
  obtain ⟨z, h1, h2⟩ := (hT _ _ hy).2.1.run (w := w)
  have hrun : (execOp a.eval o).run P w = .ok (.value (.pointer (some ⟨w.heap.size, 0, none⟩))) (w.alloc (.cells y.zero.toArray elem)) := by
    simp [execOp, ho, Instr.alloc, newVar, newRow, h1, h2]
  unfold Oper.wp
  rw [hrun]
  have hm : ment.mentL id (y.zero.map .v) = false := by
    induction y.zero with
    | nil => rfl
    | cons a l ih => simp [ment.mentL, ment, ih]
  have hra : RelAll (okOf B ok0 lv w) w lv (y.zero.map .v) y.zero := ⟨by simp, fun i x u hx hu => by rw [List.getElem?_map, hu] at hx; simp at hx; subst hx; exact .v u⟩
  have hnew := hs.newBlock (ob := .tcells elem (y.zero.map .v)) (n := y.zero.length) hf (below_alloc w (.cells y.zero.toArray elem)) (by simp) (by simpa [mentO] using hm) (fun _ => hidN)
    (fun ok' lv' g1 g2 => ⟨blk_new (extra := []) (e := elem) (by simp) (by rw [heap_alloc_eq]; simp) hra (fun c hc => by
      obtain ⟨v, hv, rfl⟩ := List.mem_map.1 hc
      exact List.all_eq_true.1 hone v hv) ok' lv' g1 g2, by rw [shape_alloc]; simp⟩)
  simp only [Oper.upon, hd]
  exact ⟨_, _, rfl, hnew.putOnly hdN (.lp _ rfl fun b n hb => by simp only [setLv, if_true, Option.some.injEq, Prod.mk.injEq] at hb; rw [hb.1])⟩
theorem L_allocT (hT : TOK P T) {elem : TypeId} {y : Ty} (hy : T elem = some y) (hone : y.zero.all Value.oneCell' = true) (h1 : freshT d t = true) (h2 : freshH d h = true) (hl : lf ⟨some d, .alloc elem, ty, pos, af, gd⟩ = true) (hw : wantedF ops (look t) ⟨some d, .alloc elem, ty, pos, af, gd⟩ = some true) (hd : Nat.blt d N = true)
    (k : Lex P N ops lf Q rest (S ((d, .lp d 0) :: t) ((d, some (.tcells elem (vMap y.zero))) :: h))) : Lex P N ops lf Q (⟨some d, .alloc elem, ty, pos, af, gd⟩ :: rest) (S t h) :=
  L_loud hl hw (by rw [← S_upd, vMap_eq]; exact allocT_loud hT rfl rfl (by simpa using hd) d hy hone (fresh_of h1 h2) (by simpa using hd)) k
theorem L_storeT (hT : TOK P T) {ti : Nat} {y : Ty} {x v : Operand} {id off : Nat} {te : TypeId} {xs cs ys : List AV} {u : AV} (hy : T ti = some y) (hx : evF (look t) x = some (.lp id off)) (hv : evF (look t) v = some u) (hcs : cellsC u = some cs) (hcl : Nat.beq cs.length y.size = true) (hh : hlook h id = some (.tcells te xs)) (hne : xs ≠ []) (hsp : spliceN off cs xs = some ys)
    (hl : lf ⟨none, .store ti x v, ty, pos, af, gd⟩ = true) (hw : wantedF ops (look t) ⟨none, .store ti x v, ty, pos, af, gd⟩ = some true) (k : Lex P N ops lf Q rest (S t ((id, some (.tcells te ys)) :: h))) : Lex P N ops lf Q (⟨none, .store ti x v, ty, pos, af, gd⟩ :: rest) (S t h) := by
  obtain ⟨h1, h2⟩ := spliceN_eq hsp
  refine L_loud hl hw (by rw [← S_h]; exact store_loud rfl rfl (hT _ _ hy).1 hx hv hcs (by simpa using hcl) hh (by rw [h2]; exact .tcells h1 hne)) k
theorem yield_nilCheck {ρ : Operand → Option AV} {hp : Nat → Option LObj} {x : Operand} {id off : Nat} {xs : List AV} (hx : ρ x = some (.lp id off)) (hh : cellsL (hp id) = some xs) : Yield P hp ρ (.nilCheck x) ty (.lp id off) :=
  yield_of_run fun B ok0 lv w a o ho hty hi' hops => by
    have hr := hops x _ (by simp [Op.operands]) hx
    obtain ⟨g1, g2⟩ := cellsL_spec hh
    obtain ⟨b, n, hb, hu, _⟩ := cells_of_lp hi' g1 g2 hr
    exact ⟨a.eval x, by simp [execOp, ho, hu], hr⟩
theorem L_nilCheck {x : Operand} {id off : Nat} {xs : List AV} (hx : evF (look t) x = some (.lp id off)) (hh : cellsL (hlook h id) = some xs) (hw : wantedF ops (look t) ⟨some d, .nilCheck x, ty, pos, af, gd⟩ = some true) (hd : Nat.blt d N = true) (k : Lex P N ops lf Q rest (S ((d, .lp id off) :: t) h)) : Lex P N ops lf Q (⟨some d, .nilCheck x, ty, pos, af, gd⟩ :: rest) (S t h) :=
  L_yield (yield_nilCheck hx hh) hw hd k
theorem yield_sliceData {ρ : Operand → Option AV} {hp : Nat → Option LObj} {x : Operand} {ts : Array TypeId} {id len : Nat} {te : TypeId} {y : AV} {xs : List AV} (hx : ρ x = some (.ls id 1 len)) (hh : hp id = some (.tvec te (y :: xs))) (hlen : len ≠ 0) : Yield P hp ρ (.call { callee := .builtin .unsafeSliceData, args := #[x], argTypes := ts }) ty (.lp id 0) :=
  yield_of_run fun B ok0 lv w a o ho hty hi' hops => by
    have hr := hops x _ (by simp [Op.operands, Call.operands]) hx
    obtain ⟨b, n, hb, hown⟩ := hi'.obj id _ hh
    cases b with
    | none => exact absurd (own_nil hown) (by simp)
    | some b =>
      generalize hv : a.eval x = v at hr
      cases hr with
      | ls _ h1 h2 =>
        obtain ⟨cap, rfl, hle, hmx, hcn⟩ := h2 (some b) n hb
        refine ⟨.pointer (some ⟨b, 0, none⟩), ?_, .lp _ rfl fun b' n' hb' => by rw [hb] at hb'; cases hb'; rfl⟩
        simp [execOp, ho, resolve, invoke, builtin, hv, Lib.run_unsafeSliceData_row (P := P) w ts o.type ⟨b, 0, none⟩ len cap (by omega)]
theorem L_sliceData {x : Operand} {ts : Array TypeId} {id len : Nat} {te : TypeId} {y : AV} {xs : List AV} (hx : evF (look t) x = some (.ls id 1 len)) (hh : hlook h id = some (.tvec te (y :: xs))) (hlen : len ≠ 0) (hw : wantedF ops (look t) ⟨some d, .call { callee := .builtin .unsafeSliceData, args := #[x], argTypes := ts }, ty, pos, af, gd⟩ = some true) (hd : Nat.blt d N = true) (k : Lex P N ops lf Q rest (S ((d, .lp id 0) :: t) h)) : Lex P N ops lf Q (⟨some d, .call { callee := .builtin .unsafeSliceData, args := #[x], argTypes := ts }, ty, pos, af, gd⟩ :: rest) (S t h) :=
  L_yield (yield_sliceData hx hh hlen) hw hd k

theorem Sim.dropWrite {B : Bse} {ok0 : Nat → Prop} {s : SS} {lv : Live} {a : Act} {w w' : World} (hs : Sim B ok0 N s lv a w) {id b n : Nat} (hl : lv id = some (some b, n)) (hos : w'.os = w.os) (htp : w'.tape = w.tape) (hout : w'.output = w.output) (hsz : w'.heap.size = w.heap.size)
    (hoth : ∀ g, g ≠ b → w'.heap[g]? = w.heap[g]?) : ∃ lv', Sim B ok0 N ⟨s.t, hupd s.h id none⟩ lv' a w' := by
  obtain ⟨x0, hx0, hb1, hb2, hb3⟩ := hs.inv.lvat hl
  have hsub : ∀ j b n, (fun j => if j = id then none else lv j : Live) j = some (b, n) → lv j = some (b, n) := by
    intro j b n hj
    simp only at hj
    split at hj
    · cases hj
    · exact hj
  have hok : ∀ g, okOf B ok0 lv w g → okOf B ok0 (fun j => if j = id then none else lv j) w' g ∧ w'.heap[g]? = w.heap[g]? := fun g hg => ⟨⟨hg.1, by rw [hsz]; exact hg.2.1, fun j b' n' hj => hg.2.2 j b' n' (hsub j _ n' hj)⟩, hoth g (hg.2.2 id b n hl).symm⟩
  refine ⟨fun j => if j = id then none else lv j, ⟨?_, hs.inv.ok0lt, fun j hj => ?_, fun i j b n m h1 h2 => hs.inv.inj i j b n m (hsub _ _ _ h1) (hsub _ _ _ h2), fun j x hx => ?_⟩, hs.size, fun x y hy => ⟨(hs.frame x y hy).1, ((hs.frame x y hy).2.relive fun j b n hb _ => hsub j b n hb).keep hok⟩, hs.defers, fun j b' o hN hj hc hb' => ?_⟩
  · exact hs.inv.base.written hb1 hos htp hout hsz hoth
  · by_cases h : j = id
    · simp [h]
    · simp only [hupd, h, if_false] at hj ⊢; exact hs.inv.dom j hj
  · by_cases h : j = id
    · subst h; simp [hupd] at hx
    · simp only [hupd, h, if_false] at hx
      obtain ⟨b', m, h1, h2⟩ := hs.inv.obj j x hx
      refine ⟨b', m, by simp [h, h1], ?_⟩
      cases b' with
      | none => exact h2
      | some b' =>
        obtain ⟨h2, h3, h4⟩ := h2
        refine ⟨h2, by rw [hsz]; exact h3, (h4.relive fun k b n hb _ => hsub k b n hb).keep hok (hoth b' ?_)⟩
        intro he
        subst he
        exact h (hs.inv.inj j id b' m n h1 hl)
  · by_cases h : j = id
    · subst h; simp [hupd] at hj
    · simp only [hupd, h, if_false] at hj ⊢
      exact hs.pin j b' o hN hj hc hb'
theorem freeze_other (w : World) (b n g : Nat) (hg : g ≠ b) : (w.freeze ⟨b, 0, none⟩ n).heap[g]? = w.heap[g]? := by
  unfold World.freeze
  split
  · rfl
  · simp [Array.getElem?_modify, Ne.symm hg]
theorem freeze_same (w : World) (a : Addr) (n : Nat) : (w.freeze a n).os = w.os ∧ (w.freeze a n).tape = w.tape ∧ (w.freeze a n).output = w.output ∧ (w.freeze a n).heap.size = w.heap.size := by
  unfold World.freeze
  split
  · exact ⟨rfl, rfl, rfl, rfl⟩
  · exact ⟨rfl, rfl, rfl, by simp⟩
theorem unsafeString_loud {o : Oper} {x y : Operand} {pt it te : TypeId} {id : Nat} {l : List UInt8} {s : SS} (ho : o.op = .call { callee := .builtin .unsafeString, args := #[x, y], argTypes := #[pt, it] }) (hd : o.dst = some d) (hdN : d < N) (hp : P.underlying pt = some (.pointer te)) (hc : P.cellsOf te = 1)
    (hx : evF s.t x = some (.lp id 0)) (hid : s.h id = some (.tvec te (bytesA l))) (hy : evF s.t y = some (.v (.int .i64 l.length))) (h0 : l ≠ []) (h63 : l.length ≤ 9223372036854775807) :
    LoudAt P N o s (· = ⟨updF s.t (some d) (.v (.string ⟨l.toArray⟩)), hupd s.h id none⟩) := by
  intro B ok0 lv a w hs Q
  have hyv := rel_v (hs.eval hy)
  have hne : bytesA l ≠ [] := by intro e; exact h0 (by simpa [bytesA] using e)
  obtain ⟨b, n, hb, hxv, hcells⟩ := cells_of_lp hs.inv (xs := bytesA l) (by rw [hid]; rfl) (.inl hne) (hs.eval hx)
  obtain ⟨b2, n2, hb2, hown⟩ := hs.inv.obj id _ hid
  rw [hb] at hb2
  cases hb2
  obtain ⟨_, _, ⟨c, e, g1, g2, g3, _, _⟩, _, hsh⟩ := hown
  have hrun0 := Lib.run_unsafeString_row (P := P) w pt it o.type te hp hc b n hsh l h0 (by rw [bytesA_len] at g3; exact g3) h63 (fun j x hjx => by
    obtain ⟨_, u, hu, hr⟩ := hcells j (.v (.int .u8 x.toNat)) (by simp [bytesA, hjx])
    rw [addr_add]
    rw [rel_v hr] at hu
    exact hu)
  have hrun : (execOp a.eval o).run P w = .ok (.value (.string ⟨l.toArray⟩)) (w.freeze ⟨b, 0, none⟩ l.length) := by
    simp only [execOp, ho, resolve, invoke, builtin, Sem.run_bind, Sem.run_pure, Result.andThen_ok, List.map_toArray, List.map_cons, List.map_nil, hyv, hxv, hrun0]
  unfold Oper.wp
  rw [hrun]
  simp only [Oper.upon, hd]
  obtain ⟨f1, f2, f3, f4⟩ := freeze_same w ⟨b, 0, none⟩ l.length
  obtain ⟨lv', hs'⟩ := hs.dropWrite hb f1 f2 f3 f4 (fun g hg => freeze_other w b l.length g hg)
  exact ⟨_, lv', rfl, hs'.putOnly hdN (.v _)⟩
theorem L_unsafeString {x y : Operand} {pt it te : TypeId} {id : Nat} {l : List UInt8} (hp : P.underlying pt = some (.pointer te)) (hc : P.cellsOf te = 1) (hx : evF (look t) x = some (.lp id 0)) (hid : hlook h id = some (.tvec te (bytesA l))) (hy : evF (look t) y = some (.v (.int .i64 l.length))) (h0 : l ≠ []) (h63 : l.length ≤ 9223372036854775807)
    (hl : lf ⟨some d, .call { callee := .builtin .unsafeString, args := #[x, y], argTypes := #[pt, it] }, ty, pos, af, gd⟩ = true) (hw : wantedF ops (look t) ⟨some d, .call { callee := .builtin .unsafeString, args := #[x, y], argTypes := #[pt, it] }, ty, pos, af, gd⟩ = some true) (hd : Nat.blt d N = true)
    (k : Lex P N ops lf Q rest (S ((d, .v (.string ⟨l.toArray⟩)) :: t) ((id, none) :: h))) : Lex P N ops lf Q (⟨some d, .call { callee := .builtin .unsafeString, args := #[x, y], argTypes := #[pt, it] }, ty, pos, af, gd⟩ :: rest) (S t h) :=
  L_loud hl hw (by rw [← S_upd]; exact unsafeString_loud rfl rfl (by simpa using hd) hp hc hx hid hy h0 h63) k

theorem yield_eqlNil {ρ : Operand → Option AV} {hp : Nat → Option LObj} {x y : Operand} {tp ty' : TypeId} (hu : P.underlying tp = some (.pointer (P.pointee tp))) (hx : ρ x = some (.v (.pointer none))) (hy : ρ y = some (.v (.pointer none))) : Yield P hp ρ (.binOp .eql tp x y ty') ty (.v (.bool true)) :=
  yield_plain (fun _ _ => by simp) (by simp [plainL, Op.operands, hx, hy, toV]) fun w => by
    have := run_eql_pointer_nil (P := P) w tp none hu
    simp [execOp, envV_v hx, envV_v hy, eqGuard, this]
theorem yield_eqlLp {ρ : Operand → Option AV} {hp : Nat → Option LObj} {x y : Operand} {tp ty' : TypeId} {id off : Nat} {xs : List AV} (hu : P.underlying tp = some (.pointer (P.pointee tp))) (hx : ρ x = some (.lp id off)) (hh : cellsL (hp id) = some xs) (hy : ρ y = some (.v (.pointer none))) : Yield P hp ρ (.binOp .eql tp x y ty') ty (.v (.bool false)) :=
  yield_of_run fun B ok0 lv w a o ho hty hi' hops => by
    obtain ⟨g1, g2⟩ := cellsL_spec hh
    obtain ⟨b, n, hb, hv, _⟩ := cells_of_lp hi' g1 g2 (hops x _ (by simp [Op.operands]) hx)
    have hyv := rel_v (hops y _ (by simp [Op.operands]) hy)
    have := run_eql_pointer_nil (P := P) w tp (some ⟨b, off, none⟩) hu
    exact ⟨_, by simp [execOp, ho, hv, hyv, eqGuard, this], .v _⟩
theorem yield_neqLp {ρ : Operand → Option AV} {hp : Nat → Option LObj} {x y : Operand} {tp te ty' : TypeId} {id off : Nat} {xs : List AV} (hu : P.underlying tp = some (.pointer te)) (hi0 : (P.info? te).isSome = true) (hx : ρ x = some (.lp id off)) (hh : cellsL (hp id) = some xs) (hy : ρ y = some (.lp id off)) : Yield P hp ρ (.binOp .neq tp x y ty') ty (.v (.bool false)) :=
  yield_of_run fun B ok0 lv w a o ho hty hi' hops => by
    obtain ⟨g1, g2⟩ := cellsL_spec hh
    obtain ⟨b, n, hb, hv, _⟩ := cells_of_lp hi' g1 g2 (hops x _ (by simp [Op.operands]) hx)
    obtain ⟨b', n', hb', hv', _⟩ := cells_of_lp hi' g1 g2 (hops y _ (by simp [Op.operands]) hy)
    rw [hb] at hb'
    cases hb'
    obtain ⟨j, hj⟩ := Option.isSome_iff_exists.1 hi0
    have := Lib.run_neq_ptr_same (P := P) w ⟨b, off, none⟩ hu hj
    exact ⟨_, by simp [execOp, ho, hv, hv', eqGuard, this], .v _⟩
theorem yield_toUnsafe {ρ : Operand → Option AV} {hp : Nat → Option LObj} {x : Operand} {src dst te t0 : TypeId} {id off : Nat} {xs : List AV} (hs : P.underlying src = some (.pointer t0)) (hd : P.underlying dst = some .unsafePointer) (ht : (P.info? t0).map (·.size) = some 2) (hx : ρ x = some (.lp id off)) (hh : hp id = some (.tcells te xs)) (hoff : off < xs.length) : Yield P hp ρ (.convert src dst x) ty (.lp id off) :=
  yield_of_run fun B ok0 lv w a o ho hty hi' hops => by
    have hr := hops x _ (by simp [Op.operands]) hx
    obtain ⟨b, n, hb, hv, _⟩ := cells_of_lp hi' (xs := xs) (by rw [hh]; rfl) (.inl (by intro e; rw [e] at hoff; simp at hoff)) hr
    obtain ⟨b2, n2, hb2, hown⟩ := hi'.obj id _ hh
    rw [hb] at hb2
    cases hb2
    obtain ⟨j, hj, hj2⟩ := Option.map_eq_some_iff.1 ht
    have := Lib.run_to_unsafe (P := P) w ⟨b, off, none⟩ hs hd hj (by rw [hj2]; decide) hown.2.2.2 hoff
    rw [hv] at hr
    exact ⟨_, by simp [execOp, ho, hv, this], hr⟩
theorem yield_fromUnsafe {ρ : Operand → Option AV} {hp : Nat → Option LObj} {x : Operand} {src dst te t0 : TypeId} {id off : Nat} {xs : List AV} (hs : P.underlying src = some .unsafePointer) (hd : P.underlying dst = some (.pointer t0)) (ht : (P.info? t0).isSome = true) (hx : ρ x = some (.lp id off)) (hh : hp id = some (.tcells te xs)) (hne : xs ≠ []) (hlies : liesAt P P.depth te (xs.length / P.cellsOf te) off t0 1 = true) : Yield P hp ρ (.convert src dst x) ty (.lp id off) :=
  yield_of_run fun B ok0 lv w a o ho hty hi' hops => by
    have hr := hops x _ (by simp [Op.operands]) hx
    obtain ⟨b, n, hb, hv, _⟩ := cells_of_lp hi' (xs := xs) (by rw [hh]; rfl) (.inl hne) hr
    obtain ⟨b2, n2, hb2, hown⟩ := hi'.obj id _ hh
    rw [hb] at hb2
    cases hb2
    obtain ⟨j, hj⟩ := Option.isSome_iff_exists.1 ht
    have := Lib.run_from_unsafe (P := P) w ⟨b, off, none⟩ hs hd hj hown.2.2.2 hlies
    rw [hv] at hr
    exact ⟨_, by simp [execOp, ho, hv, this], hr⟩
theorem yield_noEscape {ρ : Operand → Option AV} {hp : Nat → Option LObj} {x : Operand} {f : FuncId} {fn : Func} {ats : Array TypeId} {y : AV} (hf : P.funcs[f]? = some fn) (hname : (fn.name == "runtime.NumGoroutine") = false) (hb : fn.body.isNone = true) (hn : Extern.findNext fn = none) (he : Extern.find fn = some Extern.AbiNoEscape.same) (hx : ρ x = some y) : Yield P hp ρ (.call { callee := .value (.func f), args := #[x], argTypes := ats }) ty y :=
  yield_of_run fun B ok0 lv w a o ho hty hi' hops => by
    have hr := hops x _ (by simp [Op.operands, Call.operands]) hx
    refine ⟨a.eval x, ?_, hr⟩
    have := run_callFunc_extern hf hname hb hn he #[a.eval x] w
    rw [Lib.run_noEscape] at this
    simp only [Result.andThen_ok] at this
    have hfe : a.eval (.func f) = .func (.func f) #[] #[] := rfl
    simp [execOp, ho, resolve, Deferred.ofValue, hfe, invoke, this]
end
end Go.Proofs.YtkjcjenkepejgaaDoor
