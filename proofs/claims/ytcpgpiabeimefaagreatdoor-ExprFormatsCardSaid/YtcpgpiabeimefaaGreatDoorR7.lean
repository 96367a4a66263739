/- Part 7 of the texts under ExprFormats,ExprBracketsEverything: joined, with what it needs alone. -/
import Derived.Lib.UnsafeStr
import Derived.Lib.Builder
import Derived.Laws.Externs
import Derived.Laws.Pointers
import Derived.LaidEqlPtr
import Derived.Test.YtcpgpiabeimefaaGreatDoorProg
import Derived.KernelRfl
import Derived.Test.YtcpgpiabeimefaaGreatDoorR4
import Derived.Test.YtcpgpiabeimefaaGreatDoorR6
set_option linter.unusedVariables false
namespace Go.Proofs.YtcpgpiabeimefaaGreatDoor
open Go.RowKit
section
variable {P : Program} {T : Nat → Option Ty} {N : Nat} {ops : Array Oper} {lf : Oper → Bool} {Q : SS → Prop} {t : List (Nat × AV)} {h : List (Nat × Option LObj)} {rest : List Oper} {d : Nat} {op : Op} {ty : TypeId} {pos : String} {af : Array Edge} {gd : Option (Nat × Bool)} {r : AV}
theorem Sim.ownHT {B : Bse} {ok0 : Nat → Prop} {s : SS} {lv : Live} {a : Act} {w : World} (hs : Sim B ok0 N s lv a w) {id : Nat} (e0 : TypeId) (hf : yir s id) :
    ∃ lv', Sim B ok0 N ⟨s.t, yde s.h id (some (.tvec e0 []))⟩ lv' a w ∧ ∀ size, Rel (ybi B ok0 lv' w) w lv' (.ls id size 0) (.slice none 0 0) := by
  have hid : lv id = none := hs.inv.dom id hf.1
  have hsame : ∀ j b n, (fun j => if j = id then some (none, 0) else lv j : Live) j = some (some b, n) → lv j = some (some b, n) := by
    intro j b n hj
    simp only at hj
    split at hj
    · cases hj
    · exact hj
  have hok : ∀ g, ybi B ok0 lv w g → ybi B ok0 (fun j => if j = id then some (none, 0) else lv j) w g := fun g hg => ⟨hg.1, hg.2.1, fun j b n hj => hg.2.2 j b n (hsame j b n hj)⟩
  have hre : ∀ (x : AV) (u : Value), ment id x = false → Rel (ybi B ok0 lv w) w lv x u → Rel (ybi B ok0 (fun j => if j = id then some (none, 0) else lv j) w) w (fun j => if j = id then some (none, 0) else lv j) x u := fun x u hm hr =>
    (hr.relive fun j b n hj hmj => by
      split at hj
      · rename_i e; subst e; rw [hm] at hmj; cases hmj
      · exact hj).keep fun g hg => ⟨hok g hg, rfl⟩
  refine ⟨fun j => if j = id then some (none, 0) else lv j, ⟨⟨hs.inv.base, hs.inv.ok0lt, fun j hj => ?_, fun i j b n m h1 h2 => hs.inv.inj i j b n m (hsame _ _ _ h1) (hsame _ _ _ h2), fun j x hx => ?_⟩, hs.size, fun x y hy => ?_, hs.defers, hs.big, fun j b o hN hj hc hb => ?_⟩, fun size => ?_⟩
  · by_cases h : j = id
    · subst h; simp [yde] at hj
    · simp only [yde, h, if_false] at hj ⊢; exact hs.inv.dom j hj
  · by_cases h : j = id
    · subst h
      simp only [yde, if_true, Option.some.injEq] at hx
      subst hx
      exact ⟨none, 0, by simp, .inr ⟨e0, rfl⟩⟩
    · simp only [yde, h, if_false] at hx
      obtain ⟨b, n, h1, h2⟩ := hs.inv.obj j x hx
      refine ⟨b, n, by simp [h, h1], ?_⟩
      cases b with
      | none => exact h2
      | some b =>
        refine ⟨h2.1, h2.2.1, (h2.2.2.relive fun i b n hi hmi => ?_).keep (fun g hg => ⟨hok g hg, rfl⟩) rfl⟩
        split at hi
        · rename_i e; subst e; rw [hf.2.2 j x hx] at hmi; cases hmi
        · exact hi
  · have := hs.frame x y hy
    exact ⟨this.1, hre y _ (hf.2.1 x y hy) this.2⟩
  · by_cases h : j = id
    · subst h; simp only [yde, if_true, Option.some.injEq] at hj; subst hj; cases hc
    · simp only [yde, h, if_false] at hj ⊢
      exact hs.pin j b o hN hj hc hb
  · refine .ls _ rfl fun b n hb => ?_
    simp only [if_true, Option.some.injEq, Prod.mk.injEq] at hb
    obtain ⟨rfl, rfl⟩ := hb
    exact ⟨rfl, rfl⟩
theorem A_ownCT {c : Code} {Q : Exit → SS → Prop} (jb k id size : Nat) (e0 : TypeId) {te : TypeId} {ys : List AV} (hj : yao h jb = some (.tcells te ys)) (hk : ys[k]? = some (.v (.slice none 0 0))) (h1 : yea id t = true) (h2 : ydt id h = true) (hne : Nat.beq jb id = false)
    (kk : A P N c Q (S t ((jb, some (.tcells te (ys.set k (.ls id size 0)))) :: (id, some (.tvec e0 [])) :: h))) : A P N c Q (S t h) := by
  intro B ok0 lv a w hs
  obtain ⟨lv', hs1, hnil⟩ := hs.ownHT e0 (fresh_of (t := t) (h := h) h1 h2)
  have hnj : jb ≠ id := fun e => by subst e; simp at hne
  have hj1 : yde (yao h) id (some (.tvec e0 [])) jb = some (.tcells te ys) := by simp only [yde, hnj, if_false]; exact hj
  refine kk B ok0 lv' a w ?_
  rw [← S_h]
  obtain ⟨bo, n, k1, k2⟩ := hs1.inv.obj jb _ hj1
  cases bo with
  | none => simp [yhn] at k2
  | some b =>
    obtain ⟨q1, q2, ⟨cc, e, q3, q4, q5, q6, q7⟩, hsh⟩ := k2
    have hkl := (List.getElem?_eq_some_iff.1 hk).1
    have hkc : k < cc.size := by omega
    have hold := yfv (q7 k _ cc[k] hk (by simp [hkc]))
    have hnew := hnil size
    rw [← hold] at hnew
    have hS : yao ((id, some (.tvec e0 [])) :: h) = yde (yao h) id (some (.tvec e0 [])) := (hlook_cons id _ h).symm
    refine ⟨⟨hs1.inv.base, hs1.inv.ok0lt, fun j hjn => ?_, hs1.inv.inj, fun j x hxj => ?_⟩, hs1.size, hs1.frame, hs1.defers, hs1.big, fun j b' o hN hjx hc hb' => ?_⟩
    · by_cases hjj : j = jb
      · subst hjj; simp [yde] at hjn
      · simp only [yde, hjj, if_false, hS] at hjn; exact hs1.inv.dom j hjn
    · by_cases hjj : j = jb
      · subst hjj
        simp only [yde, if_true, Option.some.injEq] at hxj
        subst hxj
        refine ⟨some b, n, k1, q1, q2, ⟨cc, e, q3, q4, by simpa using q5, fun x hxm => ?_, fun i x u hi hu => ?_⟩, by simpa using hsh⟩
        · rcases List.mem_or_eq_of_mem_set hxm with hm | hm
          · exact q6 x hm
          · subst hm; rfl
        · rw [List.getElem?_set] at hi
          split at hi
          · rename_i e1
            subst e1
            cases hi
            simp only [hkc, Array.getElem?_eq_getElem, Option.some.injEq] at hu
            subst hu
            exact hnew
          · exact q7 i x u hi hu
      · simp only [yde, hjj, if_false, hS] at hxj
        exact hs1.inv.obj j x hxj
    · by_cases hjj : j = jb
      · subst hjj
        exact hs1.pin j b' _ hN hj1 rfl hb'
      · simp only [yde, hjj, if_false, hS] at hjx
        exact hs1.pin j b' o hN hjx hc hb'
theorem appendS_loud (hT : TOK P T) {o : Oper} {ti tj e es eb sz s2 : Nat} {ea ag a2 : Bool} {ez z z2 : List Value} {x y : Operand} {id len : Nat} {xs : List AV} {s0 : ByteArray} {s s' : SS} (ho : o.op = .call { callee := .builtin .append, args := #[x, y], argTypes := #[ti, tj] }) (hd : o.dst = some d) (hdN : d < N) (hk : T ti = some ⟨.slc e es ea eb ez, sz, ag, z⟩) (hk2 : T tj = some ⟨.string, s2, a2, z2⟩) (hes : es = 1)
    (hx : evF s.t x = some (.ls id es len)) (hid : s.h id = some (.tvec e xs)) (hxl : xs.length = len * es) (hy : evF s.t y = some (.v (.string s0))) (hlim : len + s0.size ≤ 4294967296 ∧ (len + s0.size) * eb ≤ 140737488355328)
    (ht : ∀ x y, s'.t x = some y → y = .any ∨ (s.t x = some y ∧ ment id y = false)) (hlt : ∀ x y, s'.t x = some y → ∃ z, s.t x = some z) (hh : ∀ j ob', j ≠ id → s'.h j = some ob' → yfe id ob' = false ∧ ∃ ob, s.h j = some ob ∧ yhm ob ob') (hid' : s'.h id = some (.tvec e (xs ++ ydc s0.data.toList))) :
    ygx P N o s (· = ⟨ygh s'.t (some d) (.ls id es (len + s0.size)), s'.h⟩) := by
  intro B ok0 lv a w hs Q
  have hyv := yfv (hs.eval hy)
  obtain ⟨v', w', lv', hrun0, hs', hrel⟩ := appendS_world (ty := o.type) hs (hT _ _ hk).2.2 hes (hT _ _ hk2).2.2 rfl rfl rfl hid hxl (hs.eval hx) hlim ht hlt hh hid'
  have hrun : (execOp a.eval o).run P w = .ok (.value v') w' := by
    simp only [execOp, ho, resolve, invoke, builtin, Sem.run_bind, Sem.run_pure, Result.andThen_ok, List.map_toArray, List.map_cons, List.map_nil, hyv, hrun0]
  unfold Oper.wp
  rw [hrun]
  simp only [Oper.upon, hd]
  exact ⟨_, lv', rfl, hs'.putOnly hdN hrel⟩
theorem L_appendS (hT : TOK P T) {ti tj e es eb sz s2 : Nat} {ea ag a2 : Bool} {ez z z2 : List Value} {x y : Operand} {id len : Nat} {xs : List AV} {s0 : ByteArray} {t' : List (Nat × AV)} {h' : List (Nat × Option LObj)} (hk : T ti = some ⟨.slc e es ea eb ez, sz, ag, z⟩) (hk2 : T tj = some ⟨.string, s2, a2, z2⟩) (hes : es = 1) (hx : evF (ybb t) x = some (.ls id es len)) (hid : yao h id = some (.tvec e xs)) (hxl : xs.length = len * es) (hy : evF (ybb t) y = some (.v (.string s0)))
    (hlim : len + s0.size ≤ 4294967296 ∧ (len + s0.size) * eb ≤ 140737488355328) (ht : forgT id t = some t') (hh : forgH id h = some h') (hl : lf ⟨some d, .call { callee := .builtin .append, args := #[x, y], argTypes := #[ti, tj] }, ty, pos, af, gd⟩ = true)
    (hw : yaz ops (ybb t) ⟨some d, .call { callee := .builtin .append, args := #[x, y], argTypes := #[ti, tj] }, ty, pos, af, gd⟩ = some true) (hd : Nat.blt d N = true) (k : Lex P N ops lf Q rest (S ((d, .ls id es (len + s0.size)) :: t') ((id, some (.tvec e (xs ++ ydc s0.data.toList))) :: h'))) :
    Lex P N ops lf Q (⟨some d, .call { callee := .builtin .append, args := #[x, y], argTypes := #[ti, tj] }, ty, pos, af, gd⟩ :: rest) (S t h) := by
  obtain ⟨g1, g2⟩ := forgT_spec ht
  have e : S ((d, .ls id es (len + s0.size)) :: t') ((id, some (.tvec e (xs ++ ydc s0.data.toList))) :: h') = (⟨ygh (S t' ((id, some (.tvec e (xs ++ ydc s0.data.toList))) :: h')).t (some d) (.ls id es (len + s0.size)), (S t' ((id, some (.tvec e (xs ++ ydc s0.data.toList))) :: h')).h⟩ : SS) := by
    unfold S; rw [yfi]
  refine yhi hl hw ?_ k
  rw [e]
  refine appendS_loud hT rfl rfl (by simpa using hd) hk hk2 hes hx hid hxl hy hlim g1 g2 (fun j ob' hj hob => ?_) ?_
  · simp only [S, yao, yeq hj] at hob
    exact forgH_spec hh j ob' hob
  · simp [S, yao]
theorem allocT_loud (hT : TOK P T) {o : Oper} {elem : TypeId} {y : Ty} {s : SS} (ho : o.op = .alloc elem) (hd : o.dst = some d) (hdN : d < N) (id : Nat) (hy : T elem = some y) (hone : y.zero.all Value.oneCell' = true) (hf : yir s id) (hidN : id < N) :
    ygx P N o s (· = ⟨ygh s.t (some d) (.lp id 0), yde s.h id (some (.tcells elem (y.zero.map .v)))⟩) := by
  intro B ok0 lv a w hs Q
  obtain ⟨z, h1, h2⟩ := (hT _ _ hy).2.1.run (w := w)
  have hrun : (execOp a.eval o).run P w = .ok (.value (.pointer (some ⟨w.heap.size, 0, none⟩))) (w.alloc (.cells y.zero.toArray elem)) := by
    simp [execOp, ho, Instr.alloc, newVar, newRow, h1, h2]
  unfold Oper.wp
  rw [hrun]
  have hm : ment.mentL id (y.zero.map .v) = false := by
    induction y.zero with
    | nil => rfl
    | cons a l ih => simp [ment.mentL, ment, ih]
  have hra : ybr (ybi B ok0 lv w) w lv (y.zero.map .v) y.zero := ⟨by simp, fun i x u hx hu => by rw [List.getElem?_map, hu] at hx; simp at hx; subst hx; exact .v u⟩
  have hnew := hs.newBlock (ob := .tcells elem (y.zero.map .v)) (n := y.zero.length) hf (ydr w (.cells y.zero.toArray elem)) (by simp) (by simpa [yfe] using hm) (fun _ => hidN)
    (fun ok' lv' g1 g2 => ⟨blk_new (extra := []) (e := elem) (by simp) (by rw [heap_alloc_eq]; simp) hra (fun c hc => by
      obtain ⟨v, hv, rfl⟩ := List.mem_map.1 hc
      exact List.all_eq_true.1 hone v hv) ok' lv' g1 g2, by rw [shape_alloc]; simp⟩)
  simp only [Oper.upon, hd]
  exact ⟨_, _, rfl, hnew.putOnly hdN (.lp _ rfl fun b n hb => by simp only [yge, if_true, Option.some.injEq, Prod.mk.injEq] at hb; rw [hb.1])⟩
theorem L_allocT (hT : TOK P T) {elem : TypeId} {y : Ty} (hy : T elem = some y) (hone : y.zero.all Value.oneCell' = true) (h1 : yea d t = true) (h2 : ydt d h = true) (hl : lf ⟨some d, .alloc elem, ty, pos, af, gd⟩ = true) (hw : yaz ops (ybb t) ⟨some d, .alloc elem, ty, pos, af, gd⟩ = some true) (hd : Nat.blt d N = true)
    (k : Lex P N ops lf Q rest (S ((d, .lp d 0) :: t) ((d, some (.tcells elem (ykd y.zero))) :: h))) : Lex P N ops lf Q (⟨some d, .alloc elem, ty, pos, af, gd⟩ :: rest) (S t h) :=
  yhi hl hw (by rw [← S_upd, yhw]; exact allocT_loud hT rfl rfl (by simpa using hd) d hy hone (fresh_of h1 h2) (by simpa using hd)) k
theorem L_storeT (hT : TOK P T) {ti : Nat} {y : Ty} {x v : Operand} {id off : Nat} {te : TypeId} {xs cs ys : List AV} {u : AV} (hy : T ti = some y) (hx : evF (ybb t) x = some (.lp id off)) (hv : evF (ybb t) v = some u) (hcs : yek u = some cs) (hcl : Nat.beq cs.length y.size = true) (hh : yao h id = some (.tcells te xs)) (hne : xs ≠ []) (hsp : yfx off cs xs = some ys)
    (hl : lf ⟨none, .store ti x v, ty, pos, af, gd⟩ = true) (hw : yaz ops (ybb t) ⟨none, .store ti x v, ty, pos, af, gd⟩ = some true) (k : Lex P N ops lf Q rest (S t ((id, some (.tcells te ys)) :: h))) : Lex P N ops lf Q (⟨none, .store ti x v, ty, pos, af, gd⟩ :: rest) (S t h) := by
  obtain ⟨h1, h2⟩ := spliceN_eq hsp
  refine yhi hl hw (by rw [← S_h]; exact store_loud rfl rfl (hT _ _ hy).1 hx hv hcs (by simpa using hcl) hh (by rw [h2]; exact .tcells h1 hne)) k
theorem yield_nilCheck {ρ : Operand → Option AV} {hp : Nat → Option LObj} {x : Operand} {id off : Nat} {xs : List AV} (hx : ρ x = some (.lp id off)) (hh : yid (hp id) = some xs) : yct P hp ρ (.nilCheck x) ty (.lp id off) :=
  yat fun B ok0 lv w a o ho hty hi' hops => by
    have hr := hops x _ (by simp [Op.operands]) hx
    obtain ⟨g1, g2⟩ := ydf hh
    obtain ⟨b, n, hb, hu, _⟩ := ycq hi' g1 g2 hr
    exact ⟨a.eval x, by simp [execOp, ho, hu], hr⟩
theorem yam {x : Operand} {id off : Nat} {xs : List AV} (hx : evF (ybb t) x = some (.lp id off)) (hh : yid (yao h id) = some xs) (hw : yaz ops (ybb t) ⟨some d, .nilCheck x, ty, pos, af, gd⟩ = some true) (hd : Nat.blt d N = true) (k : Lex P N ops lf Q rest (S ((d, .lp id off) :: t) h)) : Lex P N ops lf Q (⟨some d, .nilCheck x, ty, pos, af, gd⟩ :: rest) (S t h) :=
  ycc (yield_nilCheck hx hh) hw hd k
theorem yield_sliceData {ρ : Operand → Option AV} {hp : Nat → Option LObj} {x : Operand} {ts : Array TypeId} {id len : Nat} {te : TypeId} {y : AV} {xs : List AV} (hx : ρ x = some (.ls id 1 len)) (hh : hp id = some (.tvec te (y :: xs))) (hlen : len ≠ 0) : yct P hp ρ (.call { callee := .builtin .unsafeSliceData, args := #[x], argTypes := ts }) ty (.lp id 0) :=
  yat fun B ok0 lv w a o ho hty hi' hops => by
    have hr := hops x _ (by simp [Op.operands, Call.operands]) hx
    obtain ⟨b, n, hb, hown⟩ := hi'.obj id _ hh
    cases b with
    | none => exact absurd (own_nil hown) (by simp)
    | some b =>
      generalize hv : a.eval x = v at hr
      cases hr with
      | ls _ h1 h2 =>
        obtain ⟨cap, rfl, hle, hmx, hcn⟩ := h2 (some b) n hb
        refine ⟨.pointer (some ⟨b, 0, none⟩), ?_, .lp _ rfl fun b' n' hb' => by rw [hb] at hb'; cases hb'; rfl⟩
        simp [execOp, ho, resolve, invoke, builtin, hv, Lib.run_unsafeSliceData_row (P := P) w ts o.type ⟨b, 0, none⟩ len cap (by omega)]
theorem L_sliceData {x : Operand} {ts : Array TypeId} {id len : Nat} {te : TypeId} {y : AV} {xs : List AV} (hx : evF (ybb t) x = some (.ls id 1 len)) (hh : yao h id = some (.tvec te (y :: xs))) (hlen : len ≠ 0) (hw : yaz ops (ybb t) ⟨some d, .call { callee := .builtin .unsafeSliceData, args := #[x], argTypes := ts }, ty, pos, af, gd⟩ = some true) (hd : Nat.blt d N = true) (k : Lex P N ops lf Q rest (S ((d, .lp id 0) :: t) h)) : Lex P N ops lf Q (⟨some d, .call { callee := .builtin .unsafeSliceData, args := #[x], argTypes := ts }, ty, pos, af, gd⟩ :: rest) (S t h) :=
  ycc (yield_sliceData hx hh hlen) hw hd k

theorem Sim.dropWrite {B : Bse} {ok0 : Nat → Prop} {s : SS} {lv : Live} {a : Act} {w w' : World} (hs : Sim B ok0 N s lv a w) {id b n : Nat} (hl : lv id = some (some b, n)) (hos : w'.os = w.os) (htp : w'.tape = w.tape) (hout : w'.output = w.output) (hsz : w'.heap.size = w.heap.size)
    (hoth : ∀ g, g ≠ b → w'.heap[g]? = w.heap[g]?) : ∃ lv', Sim B ok0 N ⟨s.t, yde s.h id none⟩ lv' a w' := by
  obtain ⟨x0, hx0, hb1, hb2, hb3⟩ := hs.inv.lvat hl
  have hsub : ∀ j b n, (fun j => if j = id then none else lv j : Live) j = some (b, n) → lv j = some (b, n) := by
    intro j b n hj
    simp only at hj
    split at hj
    · cases hj
    · exact hj
  have hok : ∀ g, ybi B ok0 lv w g → ybi B ok0 (fun j => if j = id then none else lv j) w' g ∧ w'.heap[g]? = w.heap[g]? := fun g hg => ⟨⟨hg.1, by rw [hsz]; exact hg.2.1, fun j b' n' hj => hg.2.2 j b' n' (hsub j _ n' hj)⟩, hoth g (hg.2.2 id b n hl).symm⟩
  refine ⟨fun j => if j = id then none else lv j, ⟨?_, hs.inv.ok0lt, fun j hj => ?_, fun i j b n m h1 h2 => hs.inv.inj i j b n m (hsub _ _ _ h1) (hsub _ _ _ h2), fun j x hx => ?_⟩, hs.size, fun x y hy => ⟨(hs.frame x y hy).1, ((hs.frame x y hy).2.relive fun j b n hb _ => hsub j b n hb).keep hok⟩, hs.defers.same (fun g hg => (hoth g fun e => by subst e; exact (hs.inv.lvat hl).choose_spec.2.2.2.notDef hg).trans hg), hs.big, fun j b' o hN hj hc hb' => ?_⟩
  · exact hs.inv.base.written hb1 hos htp hout hsz hoth
  · by_cases h : j = id
    · simp [h]
    · simp only [yde, h, if_false] at hj ⊢; exact hs.inv.dom j hj
  · by_cases h : j = id
    · subst h; simp [yde] at hx
    · simp only [yde, h, if_false] at hx
      obtain ⟨b', m, h1, h2⟩ := hs.inv.obj j x hx
      refine ⟨b', m, by simp [h, h1], ?_⟩
      cases b' with
      | none => exact h2
      | some b' =>
        obtain ⟨h2, h3, h4⟩ := h2
        refine ⟨h2, by rw [hsz]; exact h3, (h4.relive fun k b n hb _ => hsub k b n hb).keep hok (hoth b' ?_)⟩
        intro he
        subst he
        exact h (hs.inv.inj j id b' m n h1 hl)
  · by_cases h : j = id
    · subst h; simp [yde] at hj
    · simp only [yde, h, if_false] at hj ⊢
      exact hs.pin j b' o hN hj hc hb'
theorem freeze_other (w : World) (b n g : Nat) (hg : g ≠ b) : (w.freeze ⟨b, 0, none⟩ n).heap[g]? = w.heap[g]? := by
  unfold World.freeze
  split
  · rfl
  · simp [Array.getElem?_modify, Ne.symm hg]
theorem freeze_same (w : World) (a : Addr) (n : Nat) : (w.freeze a n).os = w.os ∧ (w.freeze a n).tape = w.tape ∧ (w.freeze a n).output = w.output ∧ (w.freeze a n).heap.size = w.heap.size := by
  unfold World.freeze
  split
  · exact ⟨rfl, rfl, rfl, rfl⟩
  · exact ⟨rfl, rfl, rfl, by simp⟩
theorem unsafeString_loud {o : Oper} {x y : Operand} {pt it te : TypeId} {id : Nat} {l : List UInt8} {s : SS} (ho : o.op = .call { callee := .builtin .unsafeString, args := #[x, y], argTypes := #[pt, it] }) (hd : o.dst = some d) (hdN : d < N) (hp : P.underlying pt = some (.pointer te)) (hc : P.cellsOf te = 1)
    (hx : evF s.t x = some (.lp id 0)) (hid : s.h id = some (.tvec te (ydc l))) (hy : evF s.t y = some (.v (.int .i64 l.length))) (h0 : l ≠ []) (h63 : l.length ≤ 9223372036854775807) :
    ygx P N o s (· = ⟨ygh s.t (some d) (.v (.string ⟨l.toArray⟩)), yde s.h id none⟩) := by
  intro B ok0 lv a w hs Q
  have hyv := yfv (hs.eval hy)
  have hne : ydc l ≠ [] := by intro e; exact h0 (by simpa [ydc] using e)
  obtain ⟨b, n, hb, hxv, hcells⟩ := ycq hs.inv (xs := ydc l) (by rw [hid]; rfl) (.inl hne) (hs.eval hx)
  obtain ⟨b2, n2, hb2, hown⟩ := hs.inv.obj id _ hid
  rw [hb] at hb2
  cases hb2
  obtain ⟨_, _, ⟨c, e, g1, g2, g3, _, _⟩, _, hsh⟩ := hown
  have hrun0 := Lib.run_unsafeString_row (P := P) w pt it o.type te hp hc b n hsh l h0 (by rw [bytesA_len] at g3; exact g3) h63 (fun j x hjx => by
    obtain ⟨_, u, hu, hr⟩ := hcells j (.v (.int .u8 x.toNat)) (by simp [ydc, hjx])
    rw [ygm]
    rw [yfv hr] at hu
    exact hu)
  have hrun : (execOp a.eval o).run P w = .ok (.value (.string ⟨l.toArray⟩)) (w.freeze ⟨b, 0, none⟩ l.length) := by
    simp only [execOp, ho, resolve, invoke, builtin, Sem.run_bind, Sem.run_pure, Result.andThen_ok, List.map_toArray, List.map_cons, List.map_nil, hyv, hxv, hrun0]
  unfold Oper.wp
  rw [hrun]
  simp only [Oper.upon, hd]
  obtain ⟨f1, f2, f3, f4⟩ := freeze_same w ⟨b, 0, none⟩ l.length
  obtain ⟨lv', hs'⟩ := hs.dropWrite hb f1 f2 f3 f4 (fun g hg => freeze_other w b l.length g hg)
  exact ⟨_, lv', rfl, hs'.putOnly hdN (.v _)⟩
theorem L_unsafeString {x y : Operand} {pt it te : TypeId} {id : Nat} {l : List UInt8} (hp : P.underlying pt = some (.pointer te)) (hc : P.cellsOf te = 1) (hx : evF (ybb t) x = some (.lp id 0)) (hid : yao h id = some (.tvec te (ydc l))) (hy : evF (ybb t) y = some (.v (.int .i64 l.length))) (h0 : l ≠ []) (h63 : l.length ≤ 9223372036854775807)
    (hl : lf ⟨some d, .call { callee := .builtin .unsafeString, args := #[x, y], argTypes := #[pt, it] }, ty, pos, af, gd⟩ = true) (hw : yaz ops (ybb t) ⟨some d, .call { callee := .builtin .unsafeString, args := #[x, y], argTypes := #[pt, it] }, ty, pos, af, gd⟩ = some true) (hd : Nat.blt d N = true)
    (k : Lex P N ops lf Q rest (S ((d, .v (.string ⟨l.toArray⟩)) :: t) ((id, none) :: h))) : Lex P N ops lf Q (⟨some d, .call { callee := .builtin .unsafeString, args := #[x, y], argTypes := #[pt, it] }, ty, pos, af, gd⟩ :: rest) (S t h) :=
  yhi hl hw (by rw [← S_upd]; exact unsafeString_loud rfl rfl (by simpa using hd) hp hc hx hid hy h0 h63) k

theorem yield_eqlNil {ρ : Operand → Option AV} {hp : Nat → Option LObj} {x y : Operand} {tp ty' : TypeId} (hu : P.underlying tp = some (.pointer (P.pointee tp))) (hx : ρ x = some (.v (.pointer none))) (hy : ρ y = some (.v (.pointer none))) : yct P hp ρ (.binOp .eql tp x y ty') ty (.v (.bool true)) :=
  ydh (fun _ _ => by simp) (by simp [yfu, Op.operands, hx, hy, toV]) fun w => by
    have := run_eql_pointer_nil (P := P) w tp none hu
    simp [execOp, yfy hx, yfy hy, eqGuard, this]
theorem yield_eqlLp {ρ : Operand → Option AV} {hp : Nat → Option LObj} {x y : Operand} {tp ty' : TypeId} {id off : Nat} {xs : List AV} (hu : P.underlying tp = some (.pointer (P.pointee tp))) (hx : ρ x = some (.lp id off)) (hh : yid (hp id) = some xs) (hy : ρ y = some (.v (.pointer none))) : yct P hp ρ (.binOp .eql tp x y ty') ty (.v (.bool false)) :=
  yat fun B ok0 lv w a o ho hty hi' hops => by
    obtain ⟨g1, g2⟩ := ydf hh
    obtain ⟨b, n, hb, hv, _⟩ := ycq hi' g1 g2 (hops x _ (by simp [Op.operands]) hx)
    have hyv := yfv (hops y _ (by simp [Op.operands]) hy)
    have := run_eql_pointer_nil (P := P) w tp (some ⟨b, off, none⟩) hu
    exact ⟨_, by simp [execOp, ho, hv, hyv, eqGuard, this], .v _⟩
theorem yield_neqLp {ρ : Operand → Option AV} {hp : Nat → Option LObj} {x y : Operand} {tp te ty' : TypeId} {id off : Nat} {xs : List AV} (hu : P.underlying tp = some (.pointer te)) (hi0 : (P.info? te).isSome = true) (hx : ρ x = some (.lp id off)) (hh : yid (hp id) = some xs) (hy : ρ y = some (.lp id off)) : yct P hp ρ (.binOp .neq tp x y ty') ty (.v (.bool false)) :=
  yat fun B ok0 lv w a o ho hty hi' hops => by
    obtain ⟨g1, g2⟩ := ydf hh
    obtain ⟨b, n, hb, hv, _⟩ := ycq hi' g1 g2 (hops x _ (by simp [Op.operands]) hx)
    obtain ⟨b', n', hb', hv', _⟩ := ycq hi' g1 g2 (hops y _ (by simp [Op.operands]) hy)
    rw [hb] at hb'
    cases hb'
    obtain ⟨j, hj⟩ := Option.isSome_iff_exists.1 hi0
    have := Lib.run_neq_ptr_same (P := P) w ⟨b, off, none⟩ hu hj
    exact ⟨_, by simp [execOp, ho, hv, hv', eqGuard, this], .v _⟩
theorem yield_toUnsafe {ρ : Operand → Option AV} {hp : Nat → Option LObj} {x : Operand} {src dst te t0 : TypeId} {id off : Nat} {xs : List AV} (hs : P.underlying src = some (.pointer t0)) (hd : P.underlying dst = some .unsafePointer) (ht : (P.info? t0).map (·.size) = some 2) (hx : ρ x = some (.lp id off)) (hh : hp id = some (.tcells te xs)) (hoff : off < xs.length) : yct P hp ρ (.convert src dst x) ty (.lp id off) :=
  yat fun B ok0 lv w a o ho hty hi' hops => by
    have hr := hops x _ (by simp [Op.operands]) hx
    obtain ⟨b, n, hb, hv, _⟩ := ycq hi' (xs := xs) (by rw [hh]; rfl) (.inl (by intro e; rw [e] at hoff; simp at hoff)) hr
    obtain ⟨b2, n2, hb2, hown⟩ := hi'.obj id _ hh
    rw [hb] at hb2
    cases hb2
    obtain ⟨j, hj, hj2⟩ := Option.map_eq_some_iff.1 ht
    have := Lib.run_to_unsafe (P := P) w ⟨b, off, none⟩ hs hd hj (by rw [hj2]; decide) hown.2.2.2 hoff
    rw [hv] at hr
    exact ⟨_, by simp [execOp, ho, hv, this], hr⟩
theorem yield_fromUnsafe {ρ : Operand → Option AV} {hp : Nat → Option LObj} {x : Operand} {src dst te t0 : TypeId} {id off : Nat} {xs : List AV} (hs : P.underlying src = some .unsafePointer) (hd : P.underlying dst = some (.pointer t0)) (ht : (P.info? t0).isSome = true) (hx : ρ x = some (.lp id off)) (hh : hp id = some (.tcells te xs)) (hne : xs ≠ []) (hlies : liesAt P P.depth te (xs.length / P.cellsOf te) off t0 1 = true) : yct P hp ρ (.convert src dst x) ty (.lp id off) :=
  yat fun B ok0 lv w a o ho hty hi' hops => by
    have hr := hops x _ (by simp [Op.operands]) hx
    obtain ⟨b, n, hb, hv, _⟩ := ycq hi' (xs := xs) (by rw [hh]; rfl) (.inl hne) hr
    obtain ⟨b2, n2, hb2, hown⟩ := hi'.obj id _ hh
    rw [hb] at hb2
    cases hb2
    obtain ⟨j, hj⟩ := Option.isSome_iff_exists.1 ht
    have := Lib.run_from_unsafe (P := P) w ⟨b, off, none⟩ hs hd hj hown.2.2.2 hlies
    rw [hv] at hr
    exact ⟨_, by simp [execOp, ho, hv, this], hr⟩
theorem yield_noEscape {ρ : Operand → Option AV} {hp : Nat → Option LObj} {x : Operand} {f : FuncId} {fn : Func} {ats : Array TypeId} {y : AV} (hf : P.funcs[f]? = some fn) (hname : (fn.name == "runtime.NumGoroutine") = false) (hb : fn.body.isNone = true) (hn : Extern.findNext fn = none) (he : Extern.find fn = some Extern.AbiNoEscape.same) (hx : ρ x = some y) : yct P hp ρ (.call { callee := .value (.func f), args := #[x], argTypes := ats }) ty y :=
  yat fun B ok0 lv w a o ho hty hi' hops => by
    have hr := hops x _ (by simp [Op.operands, Call.operands]) hx
    refine ⟨a.eval x, ?_, hr⟩
    have := run_callFunc_extern hf hname hb hn he #[a.eval x] w
    rw [Lib.run_noEscape] at this
    simp only [Result.andThen_ok] at this
    have hfe : a.eval (.func f) = .func (.func f) #[] #[] := rfl
    simp [execOp, ho, resolve, Deferred.ofValue, hfe, invoke, this]
end
end Go.Proofs.YtcpgpiabeimefaaGreatDoor
set_option linter.unusedVariables false
set_option maxRecDepth 100000
namespace Go.Proofs.YtcpgpiabeimefaaGreatDoor
theorem sz_1 : yap Tryz.prog 1 1 false := ⟨by kernel_rfl, by kernel_rfl⟩
theorem sz_2 : yap Tryz.prog 2 1 false := ⟨by kernel_rfl, by kernel_rfl⟩
theorem yjt : yap Tryz.prog 3 1 false := ⟨by kernel_rfl, by kernel_rfl⟩
theorem sz_4 : yap Tryz.prog 4 1 false := ⟨by kernel_rfl, by kernel_rfl⟩
theorem ylf : yap Tryz.prog 5 1 false := ⟨by kernel_rfl, by kernel_rfl⟩
theorem sz_6 : yap Tryz.prog 6 1 false := ⟨by kernel_rfl, by kernel_rfl⟩
theorem sz_7 : yap Tryz.prog 7 4 true := ⟨by kernel_rfl, by kernel_rfl⟩
theorem sz_8 : yap Tryz.prog 8 4 true := ⟨by kernel_rfl, by kernel_rfl⟩
theorem ylg : yap Tryz.prog 9 1 false := ⟨by kernel_rfl, by kernel_rfl⟩
theorem sz_10 : yap Tryz.prog 10 1 false := ⟨by kernel_rfl, by kernel_rfl⟩
theorem sz_11 : yap Tryz.prog 11 1 false := ⟨by kernel_rfl, by kernel_rfl⟩
theorem sz_12 : yap Tryz.prog 12 1 false := ⟨by kernel_rfl, by kernel_rfl⟩
theorem sz_13 : yap Tryz.prog 13 2 true := ⟨by kernel_rfl, by kernel_rfl⟩
theorem sz_14 : yap Tryz.prog 14 2 true := ⟨by kernel_rfl, by kernel_rfl⟩
theorem sz_15 : yap Tryz.prog 15 1 false := ⟨by kernel_rfl, by kernel_rfl⟩
theorem sz_16 : yap Tryz.prog 16 1 false := ⟨by kernel_rfl, by kernel_rfl⟩
theorem ykb : yap Tryz.prog 17 1 false := ⟨by kernel_rfl, by kernel_rfl⟩
theorem sz_18 : yap Tryz.prog 18 1 true := ⟨by kernel_rfl, by kernel_rfl⟩
theorem sz_19 : yap Tryz.prog 19 1 true := ⟨by kernel_rfl, by kernel_rfl⟩
theorem sz_20 : yap Tryz.prog 20 1 false := ⟨by kernel_rfl, by kernel_rfl⟩
theorem sz_21 : yap Tryz.prog 21 1 false := ⟨by kernel_rfl, by kernel_rfl⟩
theorem sz_22 : yap Tryz.prog 22 1 false := ⟨by kernel_rfl, by kernel_rfl⟩
theorem sz_23 : yap Tryz.prog 23 1 false := ⟨by kernel_rfl, by kernel_rfl⟩
theorem sz_24 : yap Tryz.prog 24 1 false := ⟨by kernel_rfl, by kernel_rfl⟩
theorem sz_25 : yap Tryz.prog 25 1 false := ⟨by kernel_rfl, by kernel_rfl⟩
theorem sz_26 : yap Tryz.prog 26 1 false := ⟨by kernel_rfl, by kernel_rfl⟩
theorem sz_28 : yap Tryz.prog 28 1 false := ⟨by kernel_rfl, by kernel_rfl⟩
theorem sz_29 : yap Tryz.prog 29 1 false := ⟨by kernel_rfl, by kernel_rfl⟩
theorem sz_30 : yap Tryz.prog 30 1 false := ⟨by kernel_rfl, by kernel_rfl⟩
theorem sz_31 : yap Tryz.prog 31 1 false := ⟨by kernel_rfl, by kernel_rfl⟩
theorem sz_33 : yap Tryz.prog 33 1 false := ⟨by kernel_rfl, by kernel_rfl⟩
theorem sz_34 : yap Tryz.prog 34 1 false := ⟨by kernel_rfl, by kernel_rfl⟩
theorem sz_35 : yap Tryz.prog 35 1 false := ⟨by kernel_rfl, by kernel_rfl⟩
theorem sz_36 : yap Tryz.prog 36 1 false := ⟨by kernel_rfl, by kernel_rfl⟩
theorem sz_37 : yap Tryz.prog 37 2 true := ⟨by kernel_rfl, by kernel_rfl⟩
theorem sz_38 : yap Tryz.prog 38 2 true := ⟨by kernel_rfl, by kernel_rfl⟩
theorem sz_39 : yap Tryz.prog 39 1 false := ⟨by kernel_rfl, by kernel_rfl⟩
theorem sz_41 : yap Tryz.prog 41 1 false := ⟨by kernel_rfl, by kernel_rfl⟩
theorem sz_42 : yap Tryz.prog 42 3 true := ⟨by kernel_rfl, by kernel_rfl⟩
theorem sz_43 : yap Tryz.prog 43 3 true := ⟨by kernel_rfl, by kernel_rfl⟩
theorem sz_45 : yap Tryz.prog 45 1 false := ⟨by kernel_rfl, by kernel_rfl⟩
theorem sz_46 : yap Tryz.prog 46 1 false := ⟨by kernel_rfl, by kernel_rfl⟩
theorem sz_47 : yap Tryz.prog 47 1 false := ⟨by kernel_rfl, by kernel_rfl⟩
theorem sz_48 : yap Tryz.prog 48 1 false := ⟨by kernel_rfl, by kernel_rfl⟩
theorem sz_49 : yap Tryz.prog 49 1 false := ⟨by kernel_rfl, by kernel_rfl⟩
theorem sz_50 : yap Tryz.prog 50 6 true := ⟨by kernel_rfl, by kernel_rfl⟩
theorem sz_51 : yap Tryz.prog 51 6 true := ⟨by kernel_rfl, by kernel_rfl⟩
theorem sz_52 : yap Tryz.prog 52 1 false := ⟨by kernel_rfl, by kernel_rfl⟩
theorem sz_53 : yap Tryz.prog 53 1 false := ⟨by kernel_rfl, by kernel_rfl⟩
theorem sz_54 : yap Tryz.prog 54 2 true := ⟨by kernel_rfl, by kernel_rfl⟩
theorem sz_55 : yap Tryz.prog 55 2 true := ⟨by kernel_rfl, by kernel_rfl⟩
theorem sz_56 : yap Tryz.prog 56 4 true := ⟨by kernel_rfl, by kernel_rfl⟩
theorem sz_57 : yap Tryz.prog 57 4 true := ⟨by kernel_rfl, by kernel_rfl⟩
theorem sz_58 : yap Tryz.prog 58 1 false := ⟨by kernel_rfl, by kernel_rfl⟩
theorem sz_59 : yap Tryz.prog 59 1 false := ⟨by kernel_rfl, by kernel_rfl⟩
theorem sz_60 : yap Tryz.prog 60 1 false := ⟨by kernel_rfl, by kernel_rfl⟩
theorem sz_61 : yap Tryz.prog 61 1 false := ⟨by kernel_rfl, by kernel_rfl⟩
theorem sz_62 : yap Tryz.prog 62 1 false := ⟨by kernel_rfl, by kernel_rfl⟩
theorem sz_63 : yap Tryz.prog 63 1 false := ⟨by kernel_rfl, by kernel_rfl⟩
theorem sz_64 : yap Tryz.prog 64 1 false := ⟨by kernel_rfl, by kernel_rfl⟩
theorem sz_65 : yap Tryz.prog 65 1 false := ⟨by kernel_rfl, by kernel_rfl⟩
theorem sz_66 : yap Tryz.prog 66 1 false := ⟨by kernel_rfl, by kernel_rfl⟩
theorem sz_67 : yap Tryz.prog 67 4 true := ⟨by kernel_rfl, by kernel_rfl⟩
theorem sz_68 : yap Tryz.prog 68 4 true := ⟨by kernel_rfl, by kernel_rfl⟩
theorem sz_70 : yap Tryz.prog 70 1 false := ⟨by kernel_rfl, by kernel_rfl⟩
theorem sz_71 : yap Tryz.prog 71 2 true := ⟨by kernel_rfl, by kernel_rfl⟩
theorem sz_72 : yap Tryz.prog 72 2 true := ⟨by kernel_rfl, by kernel_rfl⟩
theorem sz_74 : yap Tryz.prog 74 1 false := ⟨by kernel_rfl, by kernel_rfl⟩
theorem sz_75 : yap Tryz.prog 75 1 false := ⟨by kernel_rfl, by kernel_rfl⟩
theorem sz_76 : yap Tryz.prog 76 1 false := ⟨by kernel_rfl, by kernel_rfl⟩
theorem sz_77 : yap Tryz.prog 77 1 false := ⟨by kernel_rfl, by kernel_rfl⟩
theorem sz_78 : yap Tryz.prog 78 1 false := ⟨by kernel_rfl, by kernel_rfl⟩
theorem sz_79 : yap Tryz.prog 79 1 false := ⟨by kernel_rfl, by kernel_rfl⟩
theorem sz_80 : yap Tryz.prog 80 1 false := ⟨by kernel_rfl, by kernel_rfl⟩
theorem sz_81 : yap Tryz.prog 81 1 false := ⟨by kernel_rfl, by kernel_rfl⟩
theorem sz_82 : yap Tryz.prog 82 1 false := ⟨by kernel_rfl, by kernel_rfl⟩
theorem sz_83 : yap Tryz.prog 83 1 false := ⟨by kernel_rfl, by kernel_rfl⟩
theorem sz_84 : yap Tryz.prog 84 1 false := ⟨by kernel_rfl, by kernel_rfl⟩
theorem sz_86 : yap Tryz.prog 86 1 false := ⟨by kernel_rfl, by kernel_rfl⟩
theorem sz_87 : yap Tryz.prog 87 1 false := ⟨by kernel_rfl, by kernel_rfl⟩
theorem sz_88 : yap Tryz.prog 88 1 false := ⟨by kernel_rfl, by kernel_rfl⟩
theorem sz_89 : yap Tryz.prog 89 1 false := ⟨by kernel_rfl, by kernel_rfl⟩
theorem sz_90 : yap Tryz.prog 90 1 false := ⟨by kernel_rfl, by kernel_rfl⟩
theorem sz_91 : yap Tryz.prog 91 1 false := ⟨by kernel_rfl, by kernel_rfl⟩
theorem sz_92 : yap Tryz.prog 92 1 false := ⟨by kernel_rfl, by kernel_rfl⟩
theorem sz_93 : yap Tryz.prog 93 1 false := ⟨by kernel_rfl, by kernel_rfl⟩
theorem sz_95 : yap Tryz.prog 95 1 false := ⟨by kernel_rfl, by kernel_rfl⟩
theorem sz_96 : yap Tryz.prog 96 1 false := ⟨by kernel_rfl, by kernel_rfl⟩
theorem sz_97 : yap Tryz.prog 97 1 false := ⟨by kernel_rfl, by kernel_rfl⟩
theorem sz_98 : yap Tryz.prog 98 1 false := ⟨by kernel_rfl, by kernel_rfl⟩
theorem sz_99 : yap Tryz.prog 99 1 false := ⟨by kernel_rfl, by kernel_rfl⟩
theorem sz_100 : yap Tryz.prog 100 1 false := ⟨by kernel_rfl, by kernel_rfl⟩
theorem sz_102 : yap Tryz.prog 102 1 false := ⟨by kernel_rfl, by kernel_rfl⟩
theorem sz_103 : yap Tryz.prog 103 1 false := ⟨by kernel_rfl, by kernel_rfl⟩
theorem sz_104 : yap Tryz.prog 104 1 false := ⟨by kernel_rfl, by kernel_rfl⟩
theorem sz_105 : yap Tryz.prog 105 1 false := ⟨by kernel_rfl, by kernel_rfl⟩
theorem sz_106 : yap Tryz.prog 106 1 false := ⟨by kernel_rfl, by kernel_rfl⟩
theorem sz_107 : yap Tryz.prog 107 1 false := ⟨by kernel_rfl, by kernel_rfl⟩
theorem sz_108 : yap Tryz.prog 108 1 false := ⟨by kernel_rfl, by kernel_rfl⟩
theorem sz_109 : yap Tryz.prog 109 1 false := ⟨by kernel_rfl, by kernel_rfl⟩
theorem sz_110 : yap Tryz.prog 110 1 false := ⟨by kernel_rfl, by kernel_rfl⟩
theorem sz_111 : yap Tryz.prog 111 1 false := ⟨by kernel_rfl, by kernel_rfl⟩
theorem sz_112 : yap Tryz.prog 112 24 true := ⟨by kernel_rfl, by kernel_rfl⟩
theorem sz_113 : yap Tryz.prog 113 1 false := ⟨by kernel_rfl, by kernel_rfl⟩
theorem sz_114 : yap Tryz.prog 114 1 false := ⟨by kernel_rfl, by kernel_rfl⟩
theorem sz_115 : yap Tryz.prog 115 1 false := ⟨by kernel_rfl, by kernel_rfl⟩
theorem sz_117 : yap Tryz.prog 117 1 false := ⟨by kernel_rfl, by kernel_rfl⟩
theorem sz_118 : yap Tryz.prog 118 1 false := ⟨by kernel_rfl, by kernel_rfl⟩
theorem sz_119 : yap Tryz.prog 119 20 true := ⟨by kernel_rfl, by kernel_rfl⟩
theorem sz_120 : yap Tryz.prog 120 1 false := ⟨by kernel_rfl, by kernel_rfl⟩
theorem sz_121 : yap Tryz.prog 121 65 true := ⟨by kernel_rfl, by kernel_rfl⟩
theorem sz_122 : yap Tryz.prog 122 1 false := ⟨by kernel_rfl, by kernel_rfl⟩
theorem sz_123 : yap Tryz.prog 123 1 false := ⟨by kernel_rfl, by kernel_rfl⟩
theorem sz_124 : yap Tryz.prog 124 1 false := ⟨by kernel_rfl, by kernel_rfl⟩
theorem sz_125 : yap Tryz.prog 125 32 true := ⟨by kernel_rfl, by kernel_rfl⟩
theorem sz_126 : yap Tryz.prog 126 64 true := ⟨by kernel_rfl, by kernel_rfl⟩
theorem sz_127 : yap Tryz.prog 127 4 true := ⟨by kernel_rfl, by kernel_rfl⟩
theorem sz_128 : yap Tryz.prog 128 4 true := ⟨by kernel_rfl, by kernel_rfl⟩
theorem sz_132 : yap Tryz.prog 132 1 false := ⟨by kernel_rfl, by kernel_rfl⟩
theorem sz_133 : yap Tryz.prog 133 1 false := ⟨by kernel_rfl, by kernel_rfl⟩
theorem sz_134 : yap Tryz.prog 134 1 false := ⟨by kernel_rfl, by kernel_rfl⟩
theorem sz_135 : yap Tryz.prog 135 1 false := ⟨by kernel_rfl, by kernel_rfl⟩
theorem sz_136 : yap Tryz.prog 136 1 false := ⟨by kernel_rfl, by kernel_rfl⟩
theorem sz_137 : yap Tryz.prog 137 11 true := ⟨by kernel_rfl, by kernel_rfl⟩
theorem sz_138 : yap Tryz.prog 138 11 true := ⟨by kernel_rfl, by kernel_rfl⟩
def ty_1 : Ty := ⟨.other, 1, false, [.nilFunc]⟩
theorem ok_1 : ybw Tryz.prog 1 ty_1 := ⟨sz_1, yai (by kernel_rfl), trivial⟩
def ty_2 : Ty := ⟨(.int .i64), 1, false, [(.int .i64 0)]⟩
theorem ok_2 : ybw Tryz.prog 2 ty_2 := ⟨sz_2, yai (by kernel_rfl), Tryz.underlying2⟩
def ty_3 : Ty := ⟨(.int .i64), 1, false, [(.int .i64 0)]⟩
theorem ok_3 : ybw Tryz.prog 3 ty_3 := ⟨yjt, yai (by kernel_rfl), Tryz.underlying3⟩
def ty_4 : Ty := ⟨.bool, 1, false, [(.bool false)]⟩
theorem ok_4 : ybw Tryz.prog 4 ty_4 := ⟨sz_4, yai (by kernel_rfl), Tryz.underlying4⟩
def ty_5 : Ty := ⟨(.int .u8), 1, false, [(.int .u8 0)]⟩
theorem ok_5 : ybw Tryz.prog 5 ty_5 := ⟨ylf, yai (by kernel_rfl), Tryz.underlying5⟩
def ty_6 : Ty := ⟨(.int .u8), 1, false, [(.int .u8 0)]⟩
theorem ok_6 : ybw Tryz.prog 6 ty_6 := ⟨sz_6, yai (by kernel_rfl), Tryz.underlying6⟩
def ty_7 : Ty := ⟨(.strct [(0, 1, false), (1, 1, false), (2, 1, false), (3, 1, false)]), 4, true, [(.int .i64 0), (.int .i64 0), (.bool false), (.int .u8 0)]⟩
theorem ok_7 : ybw Tryz.prog 7 ty_7 := ⟨sz_7, yai (by kernel_rfl), (ybz Tryz.underlying7 ⟨⟨rfl, sz_2, by decide⟩, ⟨rfl, yjt, by decide⟩, ⟨rfl, sz_4, by decide⟩, ⟨rfl, sz_6, by decide⟩, trivial⟩)⟩
def ty_8 : Ty := ⟨(.strct [(0, 1, false), (1, 1, false), (2, 1, false), (3, 1, false)]), 4, true, [(.int .i64 0), (.int .i64 0), (.bool false), (.int .u8 0)]⟩
theorem ok_8 : ybw Tryz.prog 8 ty_8 := ⟨sz_8, yai (by kernel_rfl), (ybz Tryz.underlying8 ⟨⟨rfl, sz_2, by decide⟩, ⟨rfl, yjt, by decide⟩, ⟨rfl, sz_4, by decide⟩, ⟨rfl, sz_6, by decide⟩, trivial⟩)⟩
def ty_9 : Ty := ⟨.string, 1, false, [(.string ByteArray.empty)]⟩
theorem ok_9 : ybw Tryz.prog 9 ty_9 := ⟨ylg, yai (by kernel_rfl), Tryz.underlying9⟩
def ty_10 : Ty := ⟨.string, 1, false, [(.string ByteArray.empty)]⟩
theorem ok_10 : ybw Tryz.prog 10 ty_10 := ⟨sz_10, yai (by kernel_rfl), Tryz.underlying10⟩
def ty_11 : Ty := ⟨.string, 1, false, [(.string ByteArray.empty)]⟩
theorem ok_11 : ybw Tryz.prog 11 ty_11 := ⟨sz_11, yai (by kernel_rfl), Tryz.underlying11⟩
def ty_12 : Ty := ⟨(.int .u64), 1, false, [(.int .u64 0)]⟩
theorem ok_12 : ybw Tryz.prog 12 ty_12 := ⟨sz_12, yai (by kernel_rfl), Tryz.underlying12⟩
def ty_13 : Ty := ⟨(.strct [(0, 1, false), (1, 1, false)]), 2, true, [(.string ByteArray.empty), (.int .u64 0)]⟩
theorem ok_13 : ybw Tryz.prog 13 ty_13 := ⟨sz_13, yai (by kernel_rfl), (ybz Tryz.underlying13 ⟨⟨rfl, ylg, by decide⟩, ⟨rfl, sz_12, by decide⟩, trivial⟩)⟩
def ty_14 : Ty := ⟨(.strct [(0, 1, false), (1, 1, false)]), 2, true, [(.string ByteArray.empty), (.int .u64 0)]⟩
theorem ok_14 : ybw Tryz.prog 14 ty_14 := ⟨sz_14, yai (by kernel_rfl), (ybz Tryz.underlying14 ⟨⟨rfl, ylg, by decide⟩, ⟨rfl, sz_12, by decide⟩, trivial⟩)⟩
def ty_15 : Ty := ⟨.other, 1, false, [(.pointer none)]⟩
theorem ok_15 : ybw Tryz.prog 15 ty_15 := ⟨sz_15, yai (by kernel_rfl), trivial⟩
def ty_16 : Ty := ⟨.other, 1, false, [(.pointer none)]⟩
theorem ok_16 : ybw Tryz.prog 16 ty_16 := ⟨sz_16, yai (by kernel_rfl), trivial⟩
def ty_17 : Ty := ⟨.other, 1, false, [(.pointer none)]⟩
theorem ok_17 : ybw Tryz.prog 17 ty_17 := ⟨ykb, yai (by kernel_rfl), trivial⟩
def ty_18 : Ty := ⟨(.strct [(0, 1, false)]), 1, true, [(.pointer none)]⟩
theorem ok_18 : ybw Tryz.prog 18 ty_18 := ⟨sz_18, yai (by kernel_rfl), (ybz Tryz.underlying18 ⟨⟨rfl, ykb, by decide⟩, trivial⟩)⟩
def ty_19 : Ty := ⟨(.strct [(0, 1, false)]), 1, true, [(.pointer none)]⟩
theorem ok_19 : ybw Tryz.prog 19 ty_19 := ⟨sz_19, yai (by kernel_rfl), (ybz Tryz.underlying19 ⟨⟨rfl, ykb, by decide⟩, trivial⟩)⟩
def ty_20 : Ty := ⟨.other, 1, false, [.nilIface]⟩
theorem ok_20 : ybw Tryz.prog 20 ty_20 := ⟨sz_20, yai (by kernel_rfl), trivial⟩
def ty_21 : Ty := ⟨(.int .i32), 1, false, [(.int .i32 0)]⟩
theorem ok_21 : ybw Tryz.prog 21 ty_21 := ⟨sz_21, yai (by kernel_rfl), Tryz.underlying21⟩
def ty_22 : Ty := ⟨(.slc 9 1 false 16 [(.string ByteArray.empty)]), 1, false, [(.slice none 0 0)]⟩
theorem ok_22 : ybw Tryz.prog 22 ty_22 := ⟨sz_22, yai (by kernel_rfl), ⟨Tryz.underlying22, ylg, by kernel_rfl, yai (by kernel_rfl), rfl, by decide⟩⟩
def ty_23 : Ty := ⟨.other, 1, false, [.nilFunc]⟩
theorem ok_23 : ybw Tryz.prog 23 ty_23 := ⟨sz_23, yai (by kernel_rfl), trivial⟩
def ty_24 : Ty := ⟨.other, 1, false, [.nilFunc]⟩
theorem ok_24 : ybw Tryz.prog 24 ty_24 := ⟨sz_24, yai (by kernel_rfl), trivial⟩
def ty_25 : Ty := ⟨(.slc 38 2 true 16 [(.int .i64 0), (.int .i64 0)]), 1, false, [(.slice none 0 0)]⟩
theorem ok_25 : ybw Tryz.prog 25 ty_25 := ⟨sz_25, yai (by kernel_rfl), ⟨Tryz.underlying25, sz_38, by kernel_rfl, yai (by kernel_rfl), rfl, by decide⟩⟩
def ty_26 : Ty := ⟨(.int .i64), 1, false, [(.int .i64 0)]⟩
theorem ok_26 : ybw Tryz.prog 26 ty_26 := ⟨sz_26, yai (by kernel_rfl), Tryz.underlying26⟩
def ty_28 : Ty := ⟨.other, 1, false, [.nilFunc]⟩
theorem ok_28 : ybw Tryz.prog 28 ty_28 := ⟨sz_28, yai (by kernel_rfl), trivial⟩
def ty_29 : Ty := ⟨.other, 1, false, [.nilFunc]⟩
theorem ok_29 : ybw Tryz.prog 29 ty_29 := ⟨sz_29, yai (by kernel_rfl), trivial⟩
def ty_30 : Ty := ⟨.other, 1, false, [.nilFunc]⟩
theorem ok_30 : ybw Tryz.prog 30 ty_30 := ⟨sz_30, yai (by kernel_rfl), trivial⟩
def ty_31 : Ty := ⟨.other, 1, false, [.nilFunc]⟩
theorem ok_31 : ybw Tryz.prog 31 ty_31 := ⟨sz_31, yai (by kernel_rfl), trivial⟩
def ty_33 : Ty := ⟨.other, 1, false, [.nilFunc]⟩
theorem ok_33 : ybw Tryz.prog 33 ty_33 := ⟨sz_33, yai (by kernel_rfl), trivial⟩
def ty_34 : Ty := ⟨.other, 1, false, [.nilFunc]⟩
theorem ok_34 : ybw Tryz.prog 34 ty_34 := ⟨sz_34, yai (by kernel_rfl), trivial⟩
def ty_35 : Ty := ⟨.other, 1, false, [.nilFunc]⟩
theorem ok_35 : ybw Tryz.prog 35 ty_35 := ⟨sz_35, yai (by kernel_rfl), trivial⟩
def ty_36 : Ty := ⟨.other, 1, false, [.nilFunc]⟩
theorem ok_36 : ybw Tryz.prog 36 ty_36 := ⟨sz_36, yai (by kernel_rfl), trivial⟩
def ty_37 : Ty := ⟨(.strct [(0, 1, false), (1, 1, false)]), 2, true, [(.int .i64 0), (.int .i64 0)]⟩
theorem ok_37 : ybw Tryz.prog 37 ty_37 := ⟨sz_37, yai (by kernel_rfl), (ybz Tryz.underlying37 ⟨⟨rfl, yjt, by decide⟩, ⟨rfl, yjt, by decide⟩, trivial⟩)⟩
def ty_38 : Ty := ⟨(.strct [(0, 1, false), (1, 1, false)]), 2, true, [(.int .i64 0), (.int .i64 0)]⟩
theorem ok_38 : ybw Tryz.prog 38 ty_38 := ⟨sz_38, yai (by kernel_rfl), (ybz Tryz.underlying38 ⟨⟨rfl, yjt, by decide⟩, ⟨rfl, yjt, by decide⟩, trivial⟩)⟩
def ty_39 : Ty := ⟨(.slc 68 4 true 32 [(.int .i64 0), (.int .i64 0), (.int .i64 0), (.int .i64 0)]), 1, false, [(.slice none 0 0)]⟩
theorem ok_39 : ybw Tryz.prog 39 ty_39 := ⟨sz_39, yai (by kernel_rfl), ⟨Tryz.underlying39, sz_68, by kernel_rfl, yai (by kernel_rfl), rfl, by decide⟩⟩
def ty_41 : Ty := ⟨.other, 1, false, [.nilFunc]⟩
theorem ok_41 : ybw Tryz.prog 41 ty_41 := ⟨sz_41, yai (by kernel_rfl), trivial⟩
def ty_42 : Ty := ⟨(.strct [(0, 1, false), (1, 1, false), (2, 1, false)]), 3, true, [(.string ByteArray.empty), (.slice none 0 0), (.slice none 0 0)]⟩
theorem ok_42 : ybw Tryz.prog 42 ty_42 := ⟨sz_42, yai (by kernel_rfl), (ybz Tryz.underlying42 ⟨⟨rfl, ylg, by decide⟩, ⟨rfl, sz_39, by decide⟩, ⟨rfl, sz_22, by decide⟩, trivial⟩)⟩
def ty_43 : Ty := ⟨(.strct [(0, 1, false), (1, 1, false), (2, 1, false)]), 3, true, [(.string ByteArray.empty), (.slice none 0 0), (.slice none 0 0)]⟩
theorem ok_43 : ybw Tryz.prog 43 ty_43 := ⟨sz_43, yai (by kernel_rfl), (ybz Tryz.underlying43 ⟨⟨rfl, ylg, by decide⟩, ⟨rfl, sz_39, by decide⟩, ⟨rfl, sz_22, by decide⟩, trivial⟩)⟩
def ty_45 : Ty := ⟨.other, 1, false, [.nilFunc]⟩
theorem ok_45 : ybw Tryz.prog 45 ty_45 := ⟨sz_45, yai (by kernel_rfl), trivial⟩
def ty_46 : Ty := ⟨.other, 1, false, [.nilFunc]⟩
theorem ok_46 : ybw Tryz.prog 46 ty_46 := ⟨sz_46, yai (by kernel_rfl), trivial⟩
def ty_47 : Ty := ⟨.other, 1, false, [.nilFunc]⟩
theorem ok_47 : ybw Tryz.prog 47 ty_47 := ⟨sz_47, yai (by kernel_rfl), trivial⟩
def ty_48 : Ty := ⟨.other, 1, false, [.nilFunc]⟩
theorem ok_48 : ybw Tryz.prog 48 ty_48 := ⟨sz_48, yai (by kernel_rfl), trivial⟩
def ty_49 : Ty := ⟨.other, 1, false, [(.pointer none)]⟩
theorem ok_49 : ybw Tryz.prog 49 ty_49 := ⟨sz_49, yai (by kernel_rfl), trivial⟩
def ty_50 : Ty := ⟨(.strct [(0, 1, false), (1, 1, false), (2, 1, false), (3, 1, false), (4, 1, false), (5, 1, false)]), 6, true, [(.string ByteArray.empty), (.slice none 0 0), (.slice none 0 0), (.int .i64 0), (.int .i64 0), (.int .i64 0)]⟩
theorem ok_50 : ybw Tryz.prog 50 ty_50 := ⟨sz_50, yai (by kernel_rfl), (ybz Tryz.underlying50 ⟨⟨rfl, ylg, by decide⟩, ⟨rfl, sz_22, by decide⟩, ⟨rfl, sz_39, by decide⟩, ⟨rfl, yjt, by decide⟩, ⟨rfl, sz_26, by decide⟩, ⟨rfl, yjt, by decide⟩, trivial⟩)⟩
def ty_51 : Ty := ⟨(.strct [(0, 1, false), (1, 1, false), (2, 1, false), (3, 1, false), (4, 1, false), (5, 1, false)]), 6, true, [(.string ByteArray.empty), (.slice none 0 0), (.slice none 0 0), (.int .i64 0), (.int .i64 0), (.int .i64 0)]⟩
theorem ok_51 : ybw Tryz.prog 51 ty_51 := ⟨sz_51, yai (by kernel_rfl), (ybz Tryz.underlying51 ⟨⟨rfl, ylg, by decide⟩, ⟨rfl, sz_22, by decide⟩, ⟨rfl, sz_39, by decide⟩, ⟨rfl, yjt, by decide⟩, ⟨rfl, sz_26, by decide⟩, ⟨rfl, yjt, by decide⟩, trivial⟩)⟩
def ty_52 : Ty := ⟨.other, 1, false, [(.pointer none)]⟩
theorem ok_52 : ybw Tryz.prog 52 ty_52 := ⟨sz_52, yai (by kernel_rfl), trivial⟩
def ty_53 : Ty := ⟨(.slc 5 1 false 1 [(.int .u8 0)]), 1, false, [(.slice none 0 0)]⟩
theorem ok_53 : ybw Tryz.prog 53 ty_53 := ⟨sz_53, yai (by kernel_rfl), ⟨Tryz.underlying53, ylf, by kernel_rfl, yai (by kernel_rfl), rfl, by decide⟩⟩
def ty_54 : Ty := ⟨(.strct [(0, 1, false), (1, 1, false)]), 2, true, [(.pointer none), (.slice none 0 0)]⟩
theorem ok_54 : ybw Tryz.prog 54 ty_54 := ⟨sz_54, yai (by kernel_rfl), (ybz Tryz.underlying54 ⟨⟨rfl, sz_52, by decide⟩, ⟨rfl, sz_53, by decide⟩, trivial⟩)⟩
def ty_55 : Ty := ⟨(.strct [(0, 1, false), (1, 1, false)]), 2, true, [(.pointer none), (.slice none 0 0)]⟩
theorem ok_55 : ybw Tryz.prog 55 ty_55 := ⟨sz_55, yai (by kernel_rfl), (ybz Tryz.underlying55 ⟨⟨rfl, sz_52, by decide⟩, ⟨rfl, sz_53, by decide⟩, trivial⟩)⟩
def ty_56 : Ty := ⟨(.strct [(0, 2, true), (2, 1, false), (3, 1, false)]), 4, true, [(.pointer none), (.slice none 0 0), (.slice none 0 0), (.slice none 0 0)]⟩
theorem ok_56 : ybw Tryz.prog 56 ty_56 := ⟨sz_56, yai (by kernel_rfl), (ybz Tryz.underlying56 ⟨⟨rfl, sz_55, by decide⟩, ⟨rfl, sz_25, by decide⟩, ⟨rfl, sz_22, by decide⟩, trivial⟩)⟩
def ty_57 : Ty := ⟨(.strct [(0, 2, true), (2, 1, false), (3, 1, false)]), 4, true, [(.pointer none), (.slice none 0 0), (.slice none 0 0), (.slice none 0 0)]⟩
theorem ok_57 : ybw Tryz.prog 57 ty_57 := ⟨sz_57, yai (by kernel_rfl), (ybz Tryz.underlying57 ⟨⟨rfl, sz_55, by decide⟩, ⟨rfl, sz_25, by decide⟩, ⟨rfl, sz_22, by decide⟩, trivial⟩)⟩
def ty_58 : Ty := ⟨.other, 1, false, [.nilFunc]⟩
theorem ok_58 : ybw Tryz.prog 58 ty_58 := ⟨sz_58, yai (by kernel_rfl), trivial⟩
def ty_59 : Ty := ⟨.other, 1, false, [.nilFunc]⟩
theorem ok_59 : ybw Tryz.prog 59 ty_59 := ⟨sz_59, yai (by kernel_rfl), trivial⟩
def ty_60 : Ty := ⟨.other, 1, false, [.nilFunc]⟩
theorem ok_60 : ybw Tryz.prog 60 ty_60 := ⟨sz_60, yai (by kernel_rfl), trivial⟩
def ty_61 : Ty := ⟨.other, 1, false, [.nilFunc]⟩
theorem ok_61 : ybw Tryz.prog 61 ty_61 := ⟨sz_61, yai (by kernel_rfl), trivial⟩
def ty_62 : Ty := ⟨.other, 1, false, [.nilFunc]⟩
theorem ok_62 : ybw Tryz.prog 62 ty_62 := ⟨sz_62, yai (by kernel_rfl), trivial⟩
def ty_63 : Ty := ⟨.other, 1, false, [.nilFunc]⟩
theorem ok_63 : ybw Tryz.prog 63 ty_63 := ⟨sz_63, yai (by kernel_rfl), trivial⟩
def ty_64 : Ty := ⟨.other, 1, false, [.nilFunc]⟩
theorem ok_64 : ybw Tryz.prog 64 ty_64 := ⟨sz_64, yai (by kernel_rfl), trivial⟩
def ty_65 : Ty := ⟨.other, 1, false, [.nilFunc]⟩
theorem ok_65 : ybw Tryz.prog 65 ty_65 := ⟨sz_65, yai (by kernel_rfl), trivial⟩
def ty_66 : Ty := ⟨.other, 1, false, [.nilFunc]⟩
theorem ok_66 : ybw Tryz.prog 66 ty_66 := ⟨sz_66, yai (by kernel_rfl), trivial⟩
def ty_67 : Ty := ⟨(.strct [(0, 1, false), (1, 1, false), (2, 1, false), (3, 1, false)]), 4, true, [(.int .i64 0), (.int .i64 0), (.int .i64 0), (.int .i64 0)]⟩
theorem ok_67 : ybw Tryz.prog 67 ty_67 := ⟨sz_67, yai (by kernel_rfl), (ybz Tryz.underlying67 ⟨⟨rfl, yjt, by decide⟩, ⟨rfl, yjt, by decide⟩, ⟨rfl, yjt, by decide⟩, ⟨rfl, yjt, by decide⟩, trivial⟩)⟩
def ty_68 : Ty := ⟨(.strct [(0, 1, false), (1, 1, false), (2, 1, false), (3, 1, false)]), 4, true, [(.int .i64 0), (.int .i64 0), (.int .i64 0), (.int .i64 0)]⟩
theorem ok_68 : ybw Tryz.prog 68 ty_68 := ⟨sz_68, yai (by kernel_rfl), (ybz Tryz.underlying68 ⟨⟨rfl, yjt, by decide⟩, ⟨rfl, yjt, by decide⟩, ⟨rfl, yjt, by decide⟩, ⟨rfl, yjt, by decide⟩, trivial⟩)⟩
def ty_70 : Ty := ⟨.other, 1, false, [.nilFunc]⟩
theorem ok_70 : ybw Tryz.prog 70 ty_70 := ⟨sz_70, yai (by kernel_rfl), trivial⟩
def ty_71 : Ty := ⟨(.strct [(0, 1, false), (1, 1, false)]), 2, true, [(.int .i64 0), (.int .i64 0)]⟩
theorem ok_71 : ybw Tryz.prog 71 ty_71 := ⟨sz_71, yai (by kernel_rfl), (ybz Tryz.underlying71 ⟨⟨rfl, yjt, by decide⟩, ⟨rfl, sz_26, by decide⟩, trivial⟩)⟩
def ty_72 : Ty := ⟨(.strct [(0, 1, false), (1, 1, false)]), 2, true, [(.int .i64 0), (.int .i64 0)]⟩
theorem ok_72 : ybw Tryz.prog 72 ty_72 := ⟨sz_72, yai (by kernel_rfl), (ybz Tryz.underlying72 ⟨⟨rfl, yjt, by decide⟩, ⟨rfl, sz_26, by decide⟩, trivial⟩)⟩
def ty_74 : Ty := ⟨.other, 1, false, [.nilFunc]⟩
theorem ok_74 : ybw Tryz.prog 74 ty_74 := ⟨sz_74, yai (by kernel_rfl), trivial⟩
def ty_75 : Ty := ⟨.other, 1, false, [(.pointer none)]⟩
theorem ok_75 : ybw Tryz.prog 75 ty_75 := ⟨sz_75, yai (by kernel_rfl), trivial⟩
def ty_76 : Ty := ⟨.other, 1, false, [.nilFunc]⟩
theorem ok_76 : ybw Tryz.prog 76 ty_76 := ⟨sz_76, yai (by kernel_rfl), trivial⟩
def ty_77 : Ty := ⟨.other, 1, false, [.nilFunc]⟩
theorem ok_77 : ybw Tryz.prog 77 ty_77 := ⟨sz_77, yai (by kernel_rfl), trivial⟩
def ty_78 : Ty := ⟨.other, 1, false, [.nilFunc]⟩
theorem ok_78 : ybw Tryz.prog 78 ty_78 := ⟨sz_78, yai (by kernel_rfl), trivial⟩
def ty_79 : Ty := ⟨.other, 1, false, [.nilFunc]⟩
theorem ok_79 : ybw Tryz.prog 79 ty_79 := ⟨sz_79, yai (by kernel_rfl), trivial⟩
def ty_80 : Ty := ⟨.other, 1, false, [.nilFunc]⟩
theorem ok_80 : ybw Tryz.prog 80 ty_80 := ⟨sz_80, yai (by kernel_rfl), trivial⟩
def ty_81 : Ty := ⟨.other, 1, false, [.nilFunc]⟩
theorem ok_81 : ybw Tryz.prog 81 ty_81 := ⟨sz_81, yai (by kernel_rfl), trivial⟩
def ty_82 : Ty := ⟨.other, 1, false, [(.pointer none)]⟩
theorem ok_82 : ybw Tryz.prog 82 ty_82 := ⟨sz_82, yai (by kernel_rfl), trivial⟩
def ty_83 : Ty := ⟨.other, 1, false, [.nilIface]⟩
theorem ok_83 : ybw Tryz.prog 83 ty_83 := ⟨sz_83, yai (by kernel_rfl), trivial⟩
def ty_84 : Ty := ⟨.other, 1, false, [.nilIface]⟩
theorem ok_84 : ybw Tryz.prog 84 ty_84 := ⟨sz_84, yai (by kernel_rfl), trivial⟩
def ty_86 : Ty := ⟨.other, 1, false, [.nilFunc]⟩
theorem ok_86 : ybw Tryz.prog 86 ty_86 := ⟨sz_86, yai (by kernel_rfl), trivial⟩
def ty_87 : Ty := ⟨.other, 1, false, [.nilFunc]⟩
theorem ok_87 : ybw Tryz.prog 87 ty_87 := ⟨sz_87, yai (by kernel_rfl), trivial⟩
def ty_88 : Ty := ⟨.other, 1, false, [(.pointer none)]⟩
theorem ok_88 : ybw Tryz.prog 88 ty_88 := ⟨sz_88, yai (by kernel_rfl), trivial⟩
def ty_89 : Ty := ⟨.other, 1, false, [.nilFunc]⟩
theorem ok_89 : ybw Tryz.prog 89 ty_89 := ⟨sz_89, yai (by kernel_rfl), trivial⟩
def ty_90 : Ty := ⟨.other, 1, false, [.nilFunc]⟩
theorem ok_90 : ybw Tryz.prog 90 ty_90 := ⟨sz_90, yai (by kernel_rfl), trivial⟩
def ty_91 : Ty := ⟨.other, 1, false, [.nilFunc]⟩
theorem ok_91 : ybw Tryz.prog 91 ty_91 := ⟨sz_91, yai (by kernel_rfl), trivial⟩
def ty_92 : Ty := ⟨.other, 1, false, [.nilFunc]⟩
theorem ok_92 : ybw Tryz.prog 92 ty_92 := ⟨sz_92, yai (by kernel_rfl), trivial⟩
def ty_93 : Ty := ⟨.other, 1, false, [.nilFunc]⟩
theorem ok_93 : ybw Tryz.prog 93 ty_93 := ⟨sz_93, yai (by kernel_rfl), trivial⟩
def ty_95 : Ty := ⟨.other, 1, false, [.nilFunc]⟩
theorem ok_95 : ybw Tryz.prog 95 ty_95 := ⟨sz_95, yai (by kernel_rfl), trivial⟩
def ty_96 : Ty := ⟨.other, 1, false, [.nilFunc]⟩
theorem ok_96 : ybw Tryz.prog 96 ty_96 := ⟨sz_96, yai (by kernel_rfl), trivial⟩
def ty_97 : Ty := ⟨.other, 1, false, [.nilFunc]⟩
theorem ok_97 : ybw Tryz.prog 97 ty_97 := ⟨sz_97, yai (by kernel_rfl), trivial⟩
def ty_98 : Ty := ⟨(.slc 25 1 false 24 [(.slice none 0 0)]), 1, false, [(.slice none 0 0)]⟩
theorem ok_98 : ybw Tryz.prog 98 ty_98 := ⟨sz_98, yai (by kernel_rfl), ⟨Tryz.underlying98, sz_25, by kernel_rfl, yai (by kernel_rfl), rfl, by decide⟩⟩
def ty_99 : Ty := ⟨.other, 1, false, [.nilFunc]⟩
theorem ok_99 : ybw Tryz.prog 99 ty_99 := ⟨sz_99, yai (by kernel_rfl), trivial⟩
def ty_100 : Ty := ⟨.other, 1, false, [.nilFunc]⟩
theorem ok_100 : ybw Tryz.prog 100 ty_100 := ⟨sz_100, yai (by kernel_rfl), trivial⟩
def ty_102 : Ty := ⟨.other, 1, false, [.nilFunc]⟩
theorem ok_102 : ybw Tryz.prog 102 ty_102 := ⟨sz_102, yai (by kernel_rfl), trivial⟩
def ty_103 : Ty := ⟨.other, 1, false, [.nilFunc]⟩
theorem ok_103 : ybw Tryz.prog 103 ty_103 := ⟨sz_103, yai (by kernel_rfl), trivial⟩
def ty_104 : Ty := ⟨.other, 1, false, [.nilFunc]⟩
theorem ok_104 : ybw Tryz.prog 104 ty_104 := ⟨sz_104, yai (by kernel_rfl), trivial⟩
def ty_105 : Ty := ⟨.other, 1, false, [.nilFunc]⟩
theorem ok_105 : ybw Tryz.prog 105 ty_105 := ⟨sz_105, yai (by kernel_rfl), trivial⟩
def ty_106 : Ty := ⟨.other, 1, false, [.nilFunc]⟩
theorem ok_106 : ybw Tryz.prog 106 ty_106 := ⟨sz_106, yai (by kernel_rfl), trivial⟩
def ty_107 : Ty := ⟨(.slc 3 1 false 8 [(.int .i64 0)]), 1, false, [(.slice none 0 0)]⟩
theorem ok_107 : ybw Tryz.prog 107 ty_107 := ⟨sz_107, yai (by kernel_rfl), ⟨Tryz.underlying107, yjt, by kernel_rfl, yai (by kernel_rfl), rfl, by decide⟩⟩
def ty_108 : Ty := ⟨(.slc 4 1 false 1 [(.bool false)]), 1, false, [(.slice none 0 0)]⟩
theorem ok_108 : ybw Tryz.prog 108 ty_108 := ⟨sz_108, yai (by kernel_rfl), ⟨Tryz.underlying108, sz_4, by kernel_rfl, yai (by kernel_rfl), rfl, by decide⟩⟩
def ty_109 : Ty := ⟨.other, 1, false, [(.pointer none)]⟩
theorem ok_109 : ybw Tryz.prog 109 ty_109 := ⟨sz_109, yai (by kernel_rfl), trivial⟩
def ty_110 : Ty := ⟨.other, 1, false, [.nilFunc]⟩
theorem ok_110 : ybw Tryz.prog 110 ty_110 := ⟨sz_110, yai (by kernel_rfl), trivial⟩
def ty_111 : Ty := ⟨.other, 1, false, [.nilFunc]⟩
theorem ok_111 : ybw Tryz.prog 111 ty_111 := ⟨sz_111, yai (by kernel_rfl), trivial⟩
def ty_112 : Ty := ⟨(.arr 24 1 false), 24, true, [(.int .u8 0), (.int .u8 0), (.int .u8 0), (.int .u8 0), (.int .u8 0), (.int .u8 0), (.int .u8 0), (.int .u8 0), (.int .u8 0), (.int .u8 0), (.int .u8 0), (.int .u8 0), (.int .u8 0), (.int .u8 0), (.int .u8 0), (.int .u8 0), (.int .u8 0), (.int .u8 0), (.int .u8 0), (.int .u8 0), (.int .u8 0), (.int .u8 0), (.int .u8 0), (.int .u8 0)]⟩
theorem ok_112 : ybw Tryz.prog 112 ty_112 := ⟨sz_112, yai (by kernel_rfl), ⟨_, Tryz.underlying112, ylf⟩⟩
def ty_113 : Ty := ⟨(.int .u64), 1, false, [(.int .u64 0)]⟩
theorem ok_113 : ybw Tryz.prog 113 ty_113 := ⟨sz_113, yai (by kernel_rfl), Tryz.underlying113⟩
def ty_114 : Ty := ⟨.other, 1, false, [.nilFunc]⟩
theorem ok_114 : ybw Tryz.prog 114 ty_114 := ⟨sz_114, yai (by kernel_rfl), trivial⟩
def ty_115 : Ty := ⟨.other, 1, false, [.nilFunc]⟩
theorem ok_115 : ybw Tryz.prog 115 ty_115 := ⟨sz_115, yai (by kernel_rfl), trivial⟩
def ty_117 : Ty := ⟨.other, 1, false, [.nilFunc]⟩
theorem ok_117 : ybw Tryz.prog 117 ty_117 := ⟨sz_117, yai (by kernel_rfl), trivial⟩
def ty_118 : Ty := ⟨.other, 1, false, [.nilFunc]⟩
theorem ok_118 : ybw Tryz.prog 118 ty_118 := ⟨sz_118, yai (by kernel_rfl), trivial⟩
def ty_119 : Ty := ⟨(.arr 20 1 false), 20, true, [(.int .u64 0), (.int .u64 0), (.int .u64 0), (.int .u64 0), (.int .u64 0), (.int .u64 0), (.int .u64 0), (.int .u64 0), (.int .u64 0), (.int .u64 0), (.int .u64 0), (.int .u64 0), (.int .u64 0), (.int .u64 0), (.int .u64 0), (.int .u64 0), (.int .u64 0), (.int .u64 0), (.int .u64 0), (.int .u64 0)]⟩
theorem ok_119 : ybw Tryz.prog 119 ty_119 := ⟨sz_119, yai (by kernel_rfl), ⟨_, Tryz.underlying119, sz_113⟩⟩
def ty_120 : Ty := ⟨(.int .u32), 1, false, [(.int .u32 0)]⟩
theorem ok_120 : ybw Tryz.prog 120 ty_120 := ⟨sz_120, yai (by kernel_rfl), Tryz.underlying120⟩
def ty_121 : Ty := ⟨(.arr 65 1 false), 65, true, [(.int .u8 0), (.int .u8 0), (.int .u8 0), (.int .u8 0), (.int .u8 0), (.int .u8 0), (.int .u8 0), (.int .u8 0), (.int .u8 0), (.int .u8 0), (.int .u8 0), (.int .u8 0), (.int .u8 0), (.int .u8 0), (.int .u8 0), (.int .u8 0), (.int .u8 0), (.int .u8 0), (.int .u8 0), (.int .u8 0), (.int .u8 0), (.int .u8 0), (.int .u8 0), (.int .u8 0), (.int .u8 0), (.int .u8 0), (.int .u8 0), (.int .u8 0), (.int .u8 0), (.int .u8 0), (.int .u8 0), (.int .u8 0), (.int .u8 0), (.int .u8 0), (.int .u8 0), (.int .u8 0), (.int .u8 0), (.int .u8 0), (.int .u8 0), (.int .u8 0), (.int .u8 0), (.int .u8 0), (.int .u8 0), (.int .u8 0), (.int .u8 0), (.int .u8 0), (.int .u8 0), (.int .u8 0), (.int .u8 0), (.int .u8 0), (.int .u8 0), (.int .u8 0), (.int .u8 0), (.int .u8 0), (.int .u8 0), (.int .u8 0), (.int .u8 0), (.int .u8 0), (.int .u8 0), (.int .u8 0), (.int .u8 0), (.int .u8 0), (.int .u8 0), (.int .u8 0), (.int .u8 0)]⟩
theorem ok_121 : ybw Tryz.prog 121 ty_121 := ⟨sz_121, yai (by kernel_rfl), ⟨_, Tryz.underlying121, ylf⟩⟩
def ty_122 : Ty := ⟨(.int .u64), 1, false, [(.int .u64 0)]⟩
theorem ok_122 : ybw Tryz.prog 122 ty_122 := ⟨sz_122, yai (by kernel_rfl), Tryz.underlying122⟩
def ty_123 : Ty := ⟨.other, 1, false, [.nilFunc]⟩
theorem ok_123 : ybw Tryz.prog 123 ty_123 := ⟨sz_123, yai (by kernel_rfl), trivial⟩
def ty_124 : Ty := ⟨.other, 1, false, [.nilFunc]⟩
theorem ok_124 : ybw Tryz.prog 124 ty_124 := ⟨sz_124, yai (by kernel_rfl), trivial⟩
def ty_125 : Ty := ⟨(.arr 32 1 false), 32, true, [(.int .u8 0), (.int .u8 0), (.int .u8 0), (.int .u8 0), (.int .u8 0), (.int .u8 0), (.int .u8 0), (.int .u8 0), (.int .u8 0), (.int .u8 0), (.int .u8 0), (.int .u8 0), (.int .u8 0), (.int .u8 0), (.int .u8 0), (.int .u8 0), (.int .u8 0), (.int .u8 0), (.int .u8 0), (.int .u8 0), (.int .u8 0), (.int .u8 0), (.int .u8 0), (.int .u8 0), (.int .u8 0), (.int .u8 0), (.int .u8 0), (.int .u8 0), (.int .u8 0), (.int .u8 0), (.int .u8 0), (.int .u8 0)]⟩
theorem ok_125 : ybw Tryz.prog 125 ty_125 := ⟨sz_125, yai (by kernel_rfl), ⟨_, Tryz.underlying125, ylf⟩⟩
def ty_126 : Ty := ⟨(.arr 64 1 false), 64, true, [(.int .u8 0), (.int .u8 0), (.int .u8 0), (.int .u8 0), (.int .u8 0), (.int .u8 0), (.int .u8 0), (.int .u8 0), (.int .u8 0), (.int .u8 0), (.int .u8 0), (.int .u8 0), (.int .u8 0), (.int .u8 0), (.int .u8 0), (.int .u8 0), (.int .u8 0), (.int .u8 0), (.int .u8 0), (.int .u8 0), (.int .u8 0), (.int .u8 0), (.int .u8 0), (.int .u8 0), (.int .u8 0), (.int .u8 0), (.int .u8 0), (.int .u8 0), (.int .u8 0), (.int .u8 0), (.int .u8 0), (.int .u8 0), (.int .u8 0), (.int .u8 0), (.int .u8 0), (.int .u8 0), (.int .u8 0), (.int .u8 0), (.int .u8 0), (.int .u8 0), (.int .u8 0), (.int .u8 0), (.int .u8 0), (.int .u8 0), (.int .u8 0), (.int .u8 0), (.int .u8 0), (.int .u8 0), (.int .u8 0), (.int .u8 0), (.int .u8 0), (.int .u8 0), (.int .u8 0), (.int .u8 0), (.int .u8 0), (.int .u8 0), (.int .u8 0), (.int .u8 0), (.int .u8 0), (.int .u8 0), (.int .u8 0), (.int .u8 0), (.int .u8 0), (.int .u8 0)]⟩
theorem ok_126 : ybw Tryz.prog 126 ty_126 := ⟨sz_126, yai (by kernel_rfl), ⟨_, Tryz.underlying126, ylf⟩⟩
def ty_127 : Ty := ⟨(.strct [(0, 1, false), (1, 1, false), (2, 1, false), (3, 1, false)]), 4, true, [(.pointer none), (.pointer none), (.pointer none), (.string ByteArray.empty)]⟩
theorem ok_127 : ybw Tryz.prog 127 ty_127 := ⟨sz_127, yai (by kernel_rfl), (ybz Tryz.underlying127 ⟨⟨rfl, ykb, by decide⟩, ⟨rfl, ykb, by decide⟩, ⟨rfl, ykb, by decide⟩, ⟨rfl, ylg, by decide⟩, trivial⟩)⟩
def ty_128 : Ty := ⟨(.strct [(0, 1, false), (1, 1, false), (2, 1, false), (3, 1, false)]), 4, true, [(.pointer none), (.pointer none), (.pointer none), (.string ByteArray.empty)]⟩
theorem ok_128 : ybw Tryz.prog 128 ty_128 := ⟨sz_128, yai (by kernel_rfl), (ybz Tryz.underlying128 ⟨⟨rfl, ykb, by decide⟩, ⟨rfl, ykb, by decide⟩, ⟨rfl, ykb, by decide⟩, ⟨rfl, ylg, by decide⟩, trivial⟩)⟩
def ty_132 : Ty := ⟨(.int .u8), 1, false, [(.int .u8 0)]⟩
theorem ok_132 : ybw Tryz.prog 132 ty_132 := ⟨sz_132, yai (by kernel_rfl), Tryz.underlying132⟩
def ty_133 : Ty := ⟨(.int .u8), 1, false, [(.int .u8 0)]⟩
theorem ok_133 : ybw Tryz.prog 133 ty_133 := ⟨sz_133, yai (by kernel_rfl), Tryz.underlying133⟩
def ty_134 : Ty := ⟨.other, 1, false, [.nilFunc]⟩
theorem ok_134 : ybw Tryz.prog 134 ty_134 := ⟨sz_134, yai (by kernel_rfl), trivial⟩
def ty_135 : Ty := ⟨(.int .i32), 1, false, [(.int .i32 0)]⟩
theorem ok_135 : ybw Tryz.prog 135 ty_135 := ⟨sz_135, yai (by kernel_rfl), Tryz.underlying135⟩
def ty_136 : Ty := ⟨(.int .i32), 1, false, [(.int .i32 0)]⟩
theorem ok_136 : ybw Tryz.prog 136 ty_136 := ⟨sz_136, yai (by kernel_rfl), Tryz.underlying136⟩
def ty_137 : Ty := ⟨(.strct [(0, 1, false), (1, 1, false), (2, 1, false), (3, 1, false), (4, 1, false), (5, 1, false), (6, 1, false), (7, 1, false), (8, 1, false), (9, 1, false), (10, 1, false)]), 11, true, [(.int .u64 0), (.int .u64 0), (.int .u32 0), (.int .u8 0), (.int .u8 0), (.int .u8 0), (.int .u8 0), .nilFunc, (.pointer none), (.int .i32 0), (.int .i32 0)]⟩
theorem ok_137 : ybw Tryz.prog 137 ty_137 := ⟨sz_137, yai (by kernel_rfl), (ybz Tryz.underlying137 ⟨⟨rfl, sz_12, by decide⟩, ⟨rfl, sz_12, by decide⟩, ⟨rfl, sz_120, by decide⟩, ⟨rfl, sz_132, by decide⟩, ⟨rfl, ylf, by decide⟩, ⟨rfl, ylf, by decide⟩, ⟨rfl, sz_133, by decide⟩, ⟨rfl, sz_134, by decide⟩, ⟨rfl, sz_88, by decide⟩, ⟨rfl, sz_135, by decide⟩, ⟨rfl, sz_136, by decide⟩, trivial⟩)⟩
def ty_138 : Ty := ⟨(.strct [(0, 1, false), (1, 1, false), (2, 1, false), (3, 1, false), (4, 1, false), (5, 1, false), (6, 1, false), (7, 1, false), (8, 1, false), (9, 1, false), (10, 1, false)]), 11, true, [(.int .u64 0), (.int .u64 0), (.int .u32 0), (.int .u8 0), (.int .u8 0), (.int .u8 0), (.int .u8 0), .nilFunc, (.pointer none), (.int .i32 0), (.int .i32 0)]⟩
theorem ok_138 : ybw Tryz.prog 138 ty_138 := ⟨sz_138, yai (by kernel_rfl), (ybz Tryz.underlying138 ⟨⟨rfl, sz_12, by decide⟩, ⟨rfl, sz_12, by decide⟩, ⟨rfl, sz_120, by decide⟩, ⟨rfl, sz_132, by decide⟩, ⟨rfl, ylf, by decide⟩, ⟨rfl, ylf, by decide⟩, ⟨rfl, sz_133, by decide⟩, ⟨rfl, sz_134, by decide⟩, ⟨rfl, sz_88, by decide⟩, ⟨rfl, sz_135, by decide⟩, ⟨rfl, sz_136, by decide⟩, trivial⟩)⟩
def TT : Nat → Option Ty := tlook [(1, ty_1), (2, ty_2), (3, ty_3), (4, ty_4), (5, ty_5), (6, ty_6), (7, ty_7), (8, ty_8), (9, ty_9), (10, ty_10), (11, ty_11), (12, ty_12), (13, ty_13), (14, ty_14), (15, ty_15), (16, ty_16), (17, ty_17), (18, ty_18), (19, ty_19), (20, ty_20), (21, ty_21), (22, ty_22), (23, ty_23), (24, ty_24), (25, ty_25), (26, ty_26), (28, ty_28), (29, ty_29), (30, ty_30), (31, ty_31), (33, ty_33), (34, ty_34), (35, ty_35), (36, ty_36), (37, ty_37), (38, ty_38), (39, ty_39), (41, ty_41), (42, ty_42), (43, ty_43), (45, ty_45), (46, ty_46), (47, ty_47), (48, ty_48), (49, ty_49), (50, ty_50), (51, ty_51), (52, ty_52), (53, ty_53), (54, ty_54), (55, ty_55), (56, ty_56), (57, ty_57), (58, ty_58), (59, ty_59), (60, ty_60), (61, ty_61), (62, ty_62), (63, ty_63), (64, ty_64), (65, ty_65), (66, ty_66), (67, ty_67), (68, ty_68), (70, ty_70), (71, ty_71), (72, ty_72), (74, ty_74), (75, ty_75), (76, ty_76), (77, ty_77), (78, ty_78), (79, ty_79), (80, ty_80), (81, ty_81), (82, ty_82), (83, ty_83), (84, ty_84), (86, ty_86), (87, ty_87), (88, ty_88), (89, ty_89), (90, ty_90), (91, ty_91), (92, ty_92), (93, ty_93), (95, ty_95), (96, ty_96), (97, ty_97), (98, ty_98), (99, ty_99), (100, ty_100), (102, ty_102), (103, ty_103), (104, ty_104), (105, ty_105), (106, ty_106), (107, ty_107), (108, ty_108), (109, ty_109), (110, ty_110), (111, ty_111), (112, ty_112), (113, ty_113), (114, ty_114), (115, ty_115), (117, ty_117), (118, ty_118), (119, ty_119), (120, ty_120), (121, ty_121), (122, ty_122), (123, ty_123), (124, ty_124), (125, ty_125), (126, ty_126), (127, ty_127), (128, ty_128), (132, ty_132), (133, ty_133), (134, ty_134), (135, ty_135), (136, ty_136), (137, ty_137), (138, ty_138)]
theorem tok : TOK Tryz.prog TT := tok_of ⟨ok_1, ok_2, ok_3, ok_4, ok_5, ok_6, ok_7, ok_8, ok_9, ok_10, ok_11, ok_12, ok_13, ok_14, ok_15, ok_16, ok_17, ok_18, ok_19, ok_20, ok_21, ok_22, ok_23, ok_24, ok_25, ok_26, ok_28, ok_29, ok_30, ok_31, ok_33, ok_34, ok_35, ok_36, ok_37, ok_38, ok_39, ok_41, ok_42, ok_43, ok_45, ok_46, ok_47, ok_48, ok_49, ok_50, ok_51, ok_52, ok_53, ok_54, ok_55, ok_56, ok_57, ok_58, ok_59, ok_60, ok_61, ok_62, ok_63, ok_64, ok_65, ok_66, ok_67, ok_68, ok_70, ok_71, ok_72, ok_74, ok_75, ok_76, ok_77, ok_78, ok_79, ok_80, ok_81, ok_82, ok_83, ok_84, ok_86, ok_87, ok_88, ok_89, ok_90, ok_91, ok_92, ok_93, ok_95, ok_96, ok_97, ok_98, ok_99, ok_100, ok_102, ok_103, ok_104, ok_105, ok_106, ok_107, ok_108, ok_109, ok_110, ok_111, ok_112, ok_113, ok_114, ok_115, ok_117, ok_118, ok_119, ok_120, ok_121, ok_122, ok_123, ok_124, ok_125, ok_126, ok_127, ok_128, ok_132, ok_133, ok_134, ok_135, ok_136, ok_137, ok_138, trivial⟩
theorem mixed : Tryz.prog.follows .mixedOrders = true := by kernel_rfl
end Go.Proofs.YtcpgpiabeimefaaGreatDoor
set_option linter.unusedVariables false
namespace Go.Proofs.YtcpgpiabeimefaaGreatDoor
open Go.RowKit
variable {N : Nat} {ops : Array Oper} {lf : Oper → Bool} {Q : SS → Prop} {t : List (Nat × AV)} {h : List (Nat × Option LObj)} {rest : List Oper} {d : Nat} {op : Op} {ty : TypeId} {pos : String} {af : Array Edge} {gd : Option (Nat × Bool)} {r : AV}
theorem zI {z : Int} (k : Lex Tryz.prog N ops lf Q rest (S ((d, .v (.int .i64 z)) :: t) h)) (hr : stepC TT t h op ty = some (.v (.int .i64 (IntKind.i64.wrap z))) := by rfl) (h0 : -9223372036854775808 ≤ z ∧ z ≤ 9223372036854775807 := by constructor <;> omega) (hw : yaz ops (ybb t) ⟨some d, op, ty, pos, af, gd⟩ = some true := by rfl) (hd : Nat.blt d N = true := by rfl) : Lex Tryz.prog N ops lf Q (⟨some d, op, ty, pos, af, gd⟩ :: rest) (S t h) := L_int tok hr h0 hw hd k
theorem zL {ti e es eb sz z : Nat} {ea ag : Bool} {ez z0 : List Value} {x : Operand} {α : Type} {f : α → List AV} {l : List α} (k : Lex Tryz.prog N ops lf Q rest (S ((d, .v (.int .i64 l.length)) :: t) h)) (hk : TT ti = some ⟨.slc e es ea eb ez, sz, ag, z0⟩ := by rfl) (hx : evF (ybb t) x = some (.sl z (l.map f)) := by rfl) (hw : yaz ops (ybb t) ⟨some d, .call { callee := .builtin .len, args := #[x], argTypes := #[ti] }, ty, pos, af, gd⟩ = some true := by rfl) (hd : Nat.blt d N = true := by rfl) : Lex Tryz.prog N ops lf Q (⟨some d, .call { callee := .builtin .len, args := #[x], argTypes := #[ti] }, ty, pos, af, gd⟩ :: rest) (S t h) := L_lenMap tok hk hx hw hd k
theorem zC  (k : Lex Tryz.prog N ops lf Q rest (S ((d, r) :: t) h)) (hr : stepC TT t h op ty = some r := by rfl) (hw : yaz ops (ybb t) ⟨some d, op, ty, pos, af, gd⟩ = some true := by rfl) (hd : Nat.blt d N = true := by rfl) : Lex Tryz.prog N ops lf Q (⟨some d, op, ty, pos, af, gd⟩ :: rest) (S t h) := L_calm tok hr hw hd k
theorem zK (k : Lex Tryz.prog N ops lf Q rest (S ((d, .v undef) :: t) h)) (hw : yaz ops (ybb t) ⟨some d, op, ty, pos, af, gd⟩ = some false := by rfl) (hd : Nat.blt d N = true := by rfl) : Lex Tryz.prog N ops lf Q (⟨some d, op, ty, pos, af, gd⟩ :: rest) (S t h) := L_skip hw hd k
theorem zB {elem : TypeId} {x : Operand} {y : AV} {cs : List AV} (k : Lex Tryz.prog N ops lf Q rest (S ((d, .lp d 0) :: t) ((d, some (.cells cs)) :: h))) (hx : evF (ybb t) x = some y := by rfl) (hcs : yek y = some cs := by rfl) (h1 : yea d t = true := by rfl) (h2 : ydt d h = true := by rfl) (hm : ment.mentL d cs = false := by rfl) (hl : lf ⟨some d, .box elem x, ty, pos, af, gd⟩ = true := by rfl) (hw : yaz ops (ybb t) ⟨some d, .box elem x, ty, pos, af, gd⟩ = some true := by rfl) (hd : Nat.blt d N = true := by rfl) : Lex Tryz.prog N ops lf Q (⟨some d, .box elem x, ty, pos, af, gd⟩ :: rest) (S t h) := L_box hx hcs h1 h2 hm hl hw hd k
theorem zA {elem : TypeId} {y : Ty} (k : Lex Tryz.prog N ops lf Q rest (S ((d, .lp d 0) :: t) ((d, some (.cells (ykd y.zero))) :: h))) (hy : TT elem = some y := by rfl) (hone : y.zero.all Value.oneCell' = true := by rfl) (h1 : yea d t = true := by rfl) (h2 : ydt d h = true := by rfl) (hl : lf ⟨some d, .alloc elem, ty, pos, af, gd⟩ = true := by rfl) (hw : yaz ops (ybb t) ⟨some d, .alloc elem, ty, pos, af, gd⟩ = some true := by rfl) (hd : Nat.blt d N = true := by rfl) : Lex Tryz.prog N ops lf Q (⟨some d, .alloc elem, ty, pos, af, gd⟩ :: rest) (S t h) := L_alloc tok hy hone h1 h2 hl hw hd k
theorem zS {ti : Nat} {y : Ty} {x v : Operand} {id off : Nat} {xs cs ys : List AV} {u : AV} (k : Lex Tryz.prog N ops lf Q rest (S t ((id, some (.cells ys)) :: h))) (hy : TT ti = some y := by rfl) (hx : evF (ybb t) x = some (.lp id off) := by rfl) (hv : evF (ybb t) v = some u := by rfl) (hcs : yek u = some cs := by rfl) (hcl : Nat.beq cs.length y.size = true := by rfl) (hh : yao h id = some (.cells xs) := by rfl) (hsp : yfx off cs xs = some ys := by rfl) (hl : lf ⟨none, .store ti x v, ty, pos, af, gd⟩ = true := by rfl) (hw : yaz ops (ybb t) ⟨none, .store ti x v, ty, pos, af, gd⟩ = some true := by rfl) : Lex Tryz.prog N ops lf Q (⟨none, .store ti x v, ty, pos, af, gd⟩ :: rest) (S t h) := L_store tok hy hx hv hcs hcl hh hsp hl hw k
theorem zU {ti : Nat} {y : Ty} {parts : List (Nat × Operand)} {ps : List (Nat × AV)} (k : Lex Tryz.prog N ops lf Q rest (S ((d, r) :: t) h)) (hy : TT ti = some y := by rfl) (hone : y.zero.all Value.oneCell' = true := by rfl) (hps : evP (evF (ybb t)) parts = some ps := by rfl) (hr : buildC TT ti ps = some r := by rfl) (hw : yaz ops (ybb t) ⟨some d, .build ti parts.toArray, ty, pos, af, gd⟩ = some true := by rfl) (hd : Nat.blt d N = true := by rfl) : Lex Tryz.prog N ops lf Q (⟨some d, .build ti parts.toArray, ty, pos, af, gd⟩ :: rest) (S t h) := L_build tok hy hone hps hr hw hd k
theorem zV {ti e es eb sz len : Nat} {ea ag : Bool} {ez z : List Value} {parts : List (Nat × Operand)} {ps : List (Nat × AV)} {ys : List AV} {rows : List (List AV)} (k : Lex Tryz.prog N ops lf Q rest (S ((d, .sl es rows) :: t) h)) (hk : TT ti = some ⟨.slc e es ea eb ez, sz, ag, z⟩ := by rfl) (hone : ez.all Value.oneCell' = true := by rfl) (hps : evP (evF (ybb t)) parts = some ps := by rfl) (hf : yjn (fun i => some (i * es, es)) (ykg len (ykd ez)) ps = some ys := by rfl) (hpu : ybp.pureL ys = true := by rfl) (hch : yiy es len ys = some rows := by rfl) (hlim : Nat.ble (len * es) 16777216 = true := by rfl) (hw : yaz ops (ybb t) ⟨some d, .buildSlice ti len parts.toArray, ty, pos, af, gd⟩ = some true := by rfl) (hd : Nat.blt d N = true := by rfl) : Lex Tryz.prog N ops lf Q (⟨some d, .buildSlice ti len parts.toArray, ty, pos, af, gd⟩ :: rest) (S t h) := L_buildSlice tok hk hone hps hf hpu hch hlim hw hd k
theorem zF {f : Nat} {caps : List Operand} {xs : List AV} (k : Lex Tryz.prog N ops lf Q rest (S ((d, .fn f xs) :: t) h)) (hx : evL (evF (ybb t)) caps = some xs := by rfl) (hw : yaz ops (ybb t) ⟨some d, .makeFunc (.func f) #[] caps.toArray, ty, pos, af, gd⟩ = some true := by rfl) (hd : Nat.blt d N = true := by rfl) : Lex Tryz.prog N ops lf Q (⟨some d, .makeFunc (.func f) #[] caps.toArray, ty, pos, af, gd⟩ :: rest) (S t h) := L_makeFunc hx hw hd k
theorem zX {ti e es eb sz : Nat} {ea ag : Bool} {ez z : List Value} {x y : Operand} {ki : IntKind} {i : Int} {rows : List (List AV)} {row : List AV} (k : Lex Tryz.prog N ops lf Q rest (S ((d, .dp row 0) :: t) h)) (hk : TT ti = some ⟨.slc e es ea eb ez, sz, ag, z⟩ := by rfl) (hx : evF (ybb t) x = some (.sl es rows) := by rfl) (hy : evF (ybb t) y = some (.v (.int ki i)) := by rfl) (h0 : 0 ≤ i := by omega) (hrow : rows[i.toNat]? = some row := by first | exact ycb (by assumption) | exact yds (by assumption)) (hw : yaz ops (ybb t) ⟨some d, .indexAddr ti x y, ty, pos, af, gd⟩ = some true := by rfl) (hd : Nat.blt d N = true := by rfl) : Lex Tryz.prog N ops lf Q (⟨some d, .indexAddr ti x y, ty, pos, af, gd⟩ :: rest) (S t h) := ybd tok hk hx hy h0 hrow hw hd k
theorem zR {Q : Exit → SS → Prop} {s : SS} {id : Nat} {l : List Oper} (k : Lex Tryz.prog N l.toArray lfT (Q .normal) l s) (hn : yex l = true := by rfl) : A Tryz.prog N (.region id l.toArray false) Q s := yah (lf := lfT) hn k
theorem zD {Q : Exit → SS → Prop} {s : SS} {id : Nat} {l : List Oper} (k : Lex Tryz.prog N l.toArray lf0 (Q .normal) l s) (hB : chkOps lf0 l = true := by kernel_rfl) (hD : yja N l = true := by rfl) : A Tryz.prog N (.region id l.toArray true) Q s := ybs (lf := lf0) mixed hB hD k
theorem zT {Q : Exit → SS → Prop} {s : SS} {c : Operand} {x y : Code} (k : A Tryz.prog N x Q s) (hc : evF s.t c = some (.v (.bool true)) := by rfl) : A Tryz.prog N (.cond c x y) Q s := yaq hc (fun _ => k) (fun e => by cases e)
theorem zE {Q : Exit → SS → Prop} {s : SS} {c : Operand} {x y : Code} (k : A Tryz.prog N y Q s) (hc : evF s.t c = some (.v (.bool false)) := by rfl) : A Tryz.prog N (.cond c x y) Q s := yaq hc (fun e => by cases e) (fun _ => k)
end Go.Proofs.YtcpgpiabeimefaaGreatDoor
