/- Ranges over strings. No program. -/
import Derived.Test.YtkjcjenkepejgaaDoorSymN
import GoSem.Core.Utf8
set_option linter.unusedVariables false
namespace Go.Proofs.YtkjcjenkepejgaaDoor
open Go.RowKit
section
variable {P : Program} {T : Nat → Option Ty} {N : Nat} {ops : Array Oper} {lf : Oper → Bool} {Q : SS → Prop} {t : List (Nat × AV)} {h : List (Nat × Option LObj)} {rest : List Oper} {d : Nat} {op : Op} {ty : TypeId} {pos : String} {af : Array Edge} {gd : Option (Nat × Bool)} {r : AV}
theorem rangeS_loud {o : Oper} {ti : Nat} {x : Operand} {b : ByteArray} {s : SS} (ho : o.op = .range ti x) (hd : o.dst = some d) (hdN : d < N) (id : Nat) (hk : KindOK P ti .string) (hx : evF s.t x = some (.v (.string b))) (hf : Fresh s id) : LoudAt P N o s (· = ⟨updF s.t (some d) (.lp id 0), hupd s.h id (some (.siter b 0))⟩) := by
  intro B ok0 lv a w hs Q
  have hv := rel_v (hs.eval hx)
  have hk' : P.underlying ti = some .string := hk
  have hrun : (execOp a.eval o).run P w = .ok (.value (.pointer (some ⟨w.heap.size, 0, none⟩))) (w.alloc (.stringIter b 0)) := by
    simp [execOp, ho, hv, Instr.range, run_underlying hk']
  unfold Oper.wp
  rw [hrun]
  have hnew := hs.newBlock (ob := .siter b 0) (n := 0) hf (below_alloc w (.stringIter b 0)) (by simp) rfl (fun h => by cases h) (fun ok' lv' g1 g2 => heap_alloc_eq w _)
  simp only [Oper.upon, hd]
  exact ⟨_, _, rfl, hnew.putOnly hdN (.lp _ rfl fun b n hb => by simp only [setLv, if_true, Option.some.injEq, Prod.mk.injEq] at hb; rw [hb.1])⟩
/-- A range over a string begins. -/
theorem L_rangeS (hT : TOK P T) {ti sz : Nat} {ag : Bool} {z : List Value} {x : Operand} {b : ByteArray} (hk : T ti = some ⟨.string, sz, ag, z⟩) (hx : evF (look t) x = some (.v (.string b))) (h1 : freshT d t = true) (h2 : freshH d h = true) (hl : lf ⟨some d, .range ti x, ty, pos, af, gd⟩ = true) (hw : wantedF ops (look t) ⟨some d, .range ti x, ty, pos, af, gd⟩ = some true) (hd : Nat.blt d N = true)
    (k : Lex P N ops lf Q rest (S ((d, .lp d 0) :: t) ((d, some (.siter b 0)) :: h))) : Lex P N ops lf Q (⟨some d, .range ti x, ty, pos, af, gd⟩ :: rest) (S t h) :=
  L_loud hl hw (by rw [← S_upd]; exact rangeS_loud rfl rfl (by simpa using hd) d (hT _ _ hk).2.2 hx (fresh_of h1 h2)) k
/-- A round of a range over a string. -/
theorem nextS_loud {o : Oper} {x : Operand} {id p : Nat} {b : ByteArray} {s : SS} (ho : o.op = .next x true) (hd : o.dst = some d) (hdN : d < N) (hx : evF s.t x = some (.lp id 0)) (hid : s.h id = some (.siter b p)) (hp : p < b.size) :
    LoudAt P N o s (· = ⟨updF s.t (some d) (.tup [.v (.bool true), .v (.int .i64 p), .v (.int .i32 (Utf8.decode b p).1)]), hupd s.h id (some (.siter b (p + (Utf8.decode b p).2)))⟩) := by
  intro B ok0 lv a w hs Q
  have hr := hs.eval hx
  obtain ⟨bo, n, hb, hown⟩ := hs.inv.obj id _ hid
  generalize hv : a.eval x = u at hr
  cases hr with
  | lp _ _ hlp =>
    cases bo with
    | none => simp [OwnAt] at hown
    | some g =>
      obtain rfl := hlp g n hb
      obtain ⟨hb1, hb2, hat⟩ := hown
      have hat : w.heap[g]? = some (.stringIter b p) := hat
      obtain ⟨w2, hw2⟩ : ∃ w2 : World, { w with heap := w.heap.setIfInBounds g (.stringIter b (p + (Utf8.decode b p).2)) } = w2 := ⟨_, rfl⟩
      have hrun : (execOp a.eval o).run P w = .ok (.value (.tuple #[.bool true, .int .i64 p, .int .i32 (Utf8.decode b p).1])) w2 := by
        rw [← hw2]
        simp [execOp, ho, hv, Instr.next, getObj, setObj, Sem.run, hat, hp, goInt]
      unfold Oper.wp
      rw [hrun]
      simp only [Oper.upon, hd]
      have hwr := hs.write (w' := w2) hb (by rw [← hw2]) (by rw [← hw2]) (by rw [← hw2]) (by rw [← hw2]; simp) (fun g' hg' => by rw [← hw2]; simp [Ne.symm hg']) (ob := .siter b (p + (Utf8.decode b p).2)) (fun h => by cases h) (fun ok' hk => by
        show w2.heap[g]? = _
        rw [← hw2]; simp [hb2])
      refine ⟨_, lv, rfl, hwr.putOnly hdN (.tup [.bool true, .int .i64 p, .int .i32 (Utf8.decode b p).1] rfl fun i c u hc hu => ?_)⟩
      match i with
      | 0 => simp at hc hu; subst hc hu; exact .v _
      | 1 => simp at hc hu; subst hc hu; exact .v _
      | 2 => simp at hc hu; subst hc hu; exact .v _
      | i + 3 => simp at hc
theorem yield_nextS {ρ : Operand → Option AV} {hp : Nat → Option LObj} {x : Operand} {id p : Nat} {b : ByteArray} (hx : ρ x = some (.lp id 0)) (hid : hp id = some (.siter b p)) (hlt : ¬ p < b.size) : Yield P hp ρ (.next x true) ty (.tup [.v (.bool false)]) :=
  yield_of_run fun B ok0 lv w a o ho hty hi hops => by
    have hr := hops x _ (by simp [Op.operands]) hx
    obtain ⟨bo, n, hb, hown⟩ := hi.obj id _ hid
    generalize hv : a.eval x = u at hr
    cases hr with
    | lp _ _ hlp =>
      cases bo with
      | none => simp [OwnAt] at hown
      | some g =>
        obtain rfl := hlp g n hb
        have hat : w.heap[g]? = some (.stringIter b p) := hown.2.2
        refine ⟨.tuple #[.bool false], by simp [execOp, ho, hv, Instr.next, getObj, Sem.run, hat, hlt], .tup [.bool false] rfl fun i c u hc hu => ?_⟩
        match i with
        | 0 => simp at hc hu; subst hc hu; exact .v _
        | i + 1 => simp at hc
theorem L_nextS {x : Operand} {id p : Nat} {b : ByteArray} (hx : evF (look t) x = some (.lp id 0)) (hid : hlook h id = some (.siter b p)) (hp : p < b.size) (hl : lf ⟨some d, .next x true, ty, pos, af, gd⟩ = true) (hw : wantedF ops (look t) ⟨some d, .next x true, ty, pos, af, gd⟩ = some true) (hd : Nat.blt d N = true)
    (k : Lex P N ops lf Q rest (S ((d, .tup [.v (.bool true), .v (.int .i64 p), .v (.int .i32 (Utf8.decode b p).1)]) :: t) ((id, some (.siter b (p + (Utf8.decode b p).2))) :: h))) : Lex P N ops lf Q (⟨some d, .next x true, ty, pos, af, gd⟩ :: rest) (S t h) :=
  L_loud hl hw (by rw [← S_upd]; exact nextS_loud rfl rfl (by simpa using hd) hx hid hp) k
theorem L_nextS0 {x : Operand} {id p : Nat} {b : ByteArray} (hx : evF (look t) x = some (.lp id 0)) (hid : hlook h id = some (.siter b p)) (hp : ¬ p < b.size) (hw : wantedF ops (look t) ⟨some d, .next x true, ty, pos, af, gd⟩ = some true) (hd : Nat.blt d N = true)
    (k : Lex P N ops lf Q rest (S ((d, .tup [.v (.bool false)]) :: t) h)) : Lex P N ops lf Q (⟨some d, .next x true, ty, pos, af, gd⟩ :: rest) (S t h) :=
  L_yield (yield_nextS hx hid hp) hw hd k
/-- A difference or sum of bytes that does not wrap. -/
theorem L_u8 (hT : TOK P T) {z : Int} (hr : stepC T t h op ty = some (.v (.int .u8 (IntKind.u8.wrap z)))) (h0 : 0 ≤ z ∧ z ≤ 255) (hw : wantedF ops (look t) ⟨some d, op, ty, pos, af, gd⟩ = some true) (hd : Nat.blt d N = true) (k : Lex P N ops lf Q rest (S ((d, .v (.int .u8 z)) :: t) h)) :
    Lex P N ops lf Q (⟨some d, op, ty, pos, af, gd⟩ :: rest) (S t h) := by
  refine L_calm hT hr hw hd ?_
  have e : IntKind.u8.wrap z = z := by
    show z % 256 = z
    omega
  rw [e]
  exact k
/-- A nil slice in a cell of a box of the call's own is a slice of the call's own. -/
theorem A_ownC {c : Code} {Q : Exit → SS → Prop} (jb k id size : Nat) {ys : List AV} (hj : hlook h jb = some (.cells ys)) (hk : ys[k]? = some (.v (.slice none 0 0))) (h1 : freshT id t = true) (h2 : freshH id h = true) (hne : Nat.beq jb id = false)
    (kk : A P N c Q (S t ((jb, some (.cells (ys.set k (.ls id size 0)))) :: (id, some (.vec [])) :: h))) : A P N c Q (S t h) := by
  intro B ok0 lv a w hs
  obtain ⟨lv', hs1, hnil⟩ := hs.ownH (fresh_of (t := t) (h := h) h1 h2)
  have hnj : jb ≠ id := fun e => by subst e; simp at hne
  have hj1 : hupd (hlook h) id (some (.vec [])) jb = some (.cells ys) := by simp only [hupd, hnj, if_false]; exact hj
  refine kk B ok0 lv' a w ?_
  rw [← S_h]
  obtain ⟨bo, n, k1, k2⟩ := hs1.inv.obj jb _ hj1
  cases bo with
  | none => simp [OwnAt] at k2
  | some b =>
    obtain ⟨q1, q2, cc, e, q3, q4, q5, q6, q7⟩ := k2
    have hkl := (List.getElem?_eq_some_iff.1 hk).1
    have hkc : k < cc.size := by omega
    have hold := rel_v (q7 k _ cc[k] hk (by simp [hkc]))
    have hnew := hnil size
    rw [← hold] at hnew
    have hS : hlook ((id, some (.vec [])) :: h) = hupd (hlook h) id (some (.vec [])) := (hlook_cons id _ h).symm
    refine ⟨⟨hs1.inv.base, hs1.inv.ok0lt, fun j hjn => ?_, hs1.inv.inj, fun j x hxj => ?_⟩, hs1.size, hs1.frame, hs1.defers, fun j b' o hN hjx hc hb' => ?_⟩
    · by_cases hjj : j = jb
      · subst hjj; simp [hupd] at hjn
      · simp only [hupd, hjj, if_false, hS] at hjn; exact hs1.inv.dom j hjn
    · by_cases hjj : j = jb
      · subst hjj
        simp only [hupd, if_true, Option.some.injEq] at hxj
        subst hxj
        refine ⟨some b, n, k1, q1, q2, cc, e, q3, q4, by simpa using q5, fun x hxm => ?_, fun i x u hi hu => ?_⟩
        · rcases List.mem_or_eq_of_mem_set hxm with hm | hm
          · exact q6 x hm
          · subst hm; rfl
        · rw [List.getElem?_set] at hi
          split at hi
          · rename_i e1
            subst e1
            cases hi
            simp only [hkc, Array.getElem?_eq_getElem, Option.some.injEq] at hu
            subst hu
            exact hnew
          · exact q7 i x u hi hu
      · simp only [hupd, hjj, if_false, hS] at hxj
        exact hs1.inv.obj j x hxj
    · by_cases hjj : j = jb
      · subst hjj
        exact hs1.pin j b' _ hN hj1 rfl hb'
      · simp only [hupd, hjj, if_false, hS] at hjx
        exact hs1.pin j b' o hN hjx hc hb'
end
/-! ### Results that lie in cells -/
def resOneT (T : Nat → Option Ty) (s : SS) : ResultVar → Option AV
  | .tmp t => s.t t
  | .cell b t => match T t with
    | some y => match s.t b with
      | some (.lp id off) => match cellsL (s.h id) with
        | some xs => getA y.agg y.size (xs.drop off)
        | none => none
      | _ => none
    | none => none
def resLT (T : Nat → Option Ty) (s : SS) : List ResultVar → Option (List AV)
  | [] => some []
  | r :: rs => match resOneT T s r, resLT T s rs with
    | some x, some xs => some (x :: xs)
    | _, _ => none
def resAT (T : Nat → Option Ty) (s : SS) (rs : List ResultVar) : Option AV :=
  match resLT T s rs with
  | some [x] => some x
  | some xs => some (.tup xs)
  | none => none
theorem resOneT_run {P : Program} {T : Nat → Option Ty} (hT : TOK P T) {B : Bse} {ok0 : Nat → Prop} {N : Nat} {s : SS} {lv : Live} {a : Act} {w : World} (hs : Sim B ok0 N s lv a w) {r : ResultVar} {x : AV} (h : resOneT T s r = some x) : ∃ u, Rel (okOf B ok0 lv w) w lv x u ∧ (resF a.tmps r).run P w = .ok u w := by
  cases r with
  | tmp t => exact ⟨_, (hs.frame t x h).2, by simp [resF]⟩
  | cell b t =>
    simp only [resOneT] at h
    split at h
    · rename_i y hy
      split at h
      · rename_i id off hb
        split at h
        · rename_i xs hx
          obtain ⟨g1, g2⟩ := cellsL_spec hx
          obtain ⟨b', n, k1, k2, k3⟩ := cells_of_lp hs.inv g1 g2 (hs.frame b _ hb).2
          have k4 := k3.drop off
          rw [Nat.zero_add] at k4
          obtain ⟨u, k5, k6⟩ := load_run (hT _ _ hy).1 k4 h
          exact ⟨u, k6, by simp [resF, k2, asAddr, k5]⟩
        · cases h
      · cases h
    · cases h
theorem resLT_run {P : Program} {T : Nat → Option Ty} (hT : TOK P T) {B : Bse} {ok0 : Nat → Prop} {N : Nat} {s : SS} {lv : Live} {a : Act} {w : World} (hs : Sim B ok0 N s lv a w) : ∀ (rs : List ResultVar) (xs : List AV), resLT T s rs = some xs →
    ∃ us : List Value, RelAll (okOf B ok0 lv w) w lv xs us ∧ (rs.mapM (resF a.tmps)).run P w = .ok us w
  | [], xs, h => by simp only [resLT, Option.some.injEq] at h; subst h; exact ⟨[], ⟨rfl, fun i x u h => by simp at h⟩, by simp⟩
  | r :: rs, xs, h => by
    simp only [resLT] at h
    split at h
    · rename_i x xs' h1 h2
      simp only [Option.some.injEq] at h
      subst h
      obtain ⟨us, hus, hrun⟩ := resLT_run hT hs rs xs' h2
      obtain ⟨u, hu, hrun1⟩ := resOneT_run hT hs h1
      refine ⟨u :: us, ⟨by simp [hus.1], fun i y v hy hv => ?_⟩, ?_⟩
      · cases i with
        | zero => simp only [List.getElem?_cons_zero, Option.some.injEq] at hy hv; subst hy hv; exact hu
        | succ i => exact hus.2 i y v (by simpa using hy) (by simpa using hv)
      · simp only [List.mapM_cons, Sem.run_bind, hrun1, Sem.run_pure, Result.andThen_ok, hrun]
    · cases h
theorem resAT_run {P : Program} {T : Nat → Option Ty} (hT : TOK P T) {B : Bse} {ok0 : Nat → Prop} {N : Nat} {s : SS} {lv : Live} {a : Act} {w : World} (hs : Sim B ok0 N s lv a w) {fn : Func} {rs : List ResultVar} (hr : fn.results = rs.toArray) {x : AV} (h : resAT T s rs = some x) :
    ∃ u, Rel (okOf B ok0 lv w) w lv x u ∧ (results fn a.tmps).run P w = .ok u w := by
  unfold resAT at h
  have key : ∀ xs, resLT T s rs = some xs → ∃ us : List Value, RelAll (okOf B ok0 lv w) w lv xs us ∧ (results fn a.tmps).run P w = .ok (if h : us.toArray.size = 1 then us.toArray[0] else .tuple us.toArray) w := by
    intro xs hx
    obtain ⟨us, h1, h2⟩ := resLT_run hT hs rs xs hx
    refine ⟨us, h1, ?_⟩
    have e : results fn a.tmps = (fn.results.mapM (resF a.tmps) >>= fun vs => pure (if h : vs.size = 1 then vs[0] else .tuple vs)) := rfl
    have e2 : (List.toArray <$> rs.mapM (resF a.tmps)) = (rs.mapM (resF a.tmps) >>= fun l => pure l.toArray) := rfl
    rw [e, hr, List.mapM_toArray, e2]
    simp only [Sem.run_bind, h2, Result.andThen_ok, Sem.run_pure]
  split at h
  · rename_i y hy
    simp only [Option.some.injEq] at h
    subst h
    obtain ⟨us, h1, h2⟩ := key _ hy
    match us, h1 with
    | [u], h1 => exact ⟨u, h1.2 0 _ _ rfl rfl, by simpa using h2⟩
  · rename_i xs hne hy
    simp only [Option.some.injEq] at h
    subst h
    obtain ⟨us, h1, h2⟩ := key _ hy
    refine ⟨.tuple us.toArray, .tup us h1.1 h1.2, ?_⟩
    rw [h2, dif_neg]
    intro h
    have hl := h1.1
    simp only [List.size_toArray] at h
    rw [h] at hl
    match xs, hl with
    | [x], _ => exact hne x rfl
  · cases h
def EndsT (T : Nat → Option Ty) (rs : List ResultVar) (y : AV) : Exit → SS → Prop
  | .normal, s => ∃ x, resAT T s rs = some x ∧ Frz s.h x y
  | .ret, s => ∃ x, resAT T s rs = some x ∧ Frz s.h x y
  | _, _ => False
theorem con_ofT {P : Program} {T : Nat → Option Ty} (hT : TOK P T) {f : FuncId} {fn : Func} {c : Code} {N : Nat} {rs : List ResultVar} {args : List AV} {r : AV} (hf : P.funcs[f]? = some fn) (hn : (fn.name == "runtime.NumGoroutine") = false) (hb : fn.body = some c) (hN : fn.ntmps = N) (hrs : fn.results = rs.toArray) (hlen : Nat.ble args.length N = true) (hp : pureA r = true)
    (h : A P N c (EndsT T rs r) (S (enumF 0 args) [])) : Con P f args r := by
  refine ⟨⟨fn, hf, hn, by simp [hb]⟩, hp, fun ok0 w us hG hok hus => ?_⟩
  have hlen' : args.length ≤ N := by simpa using hlen
  refine calls_of_wp hf hb ?_
  have hst : S (enumF 0 args) [] = ⟨argsF args, fun _ => none⟩ := by unfold S; rw [enumF_args]; rfl
  have hs : Sim ⟨w, fun _ => False, fun _ => none⟩ ok0 N (S (enumF 0 args) []) (fun _ => none) { tmps := us.toArray ++ Array.replicate (fn.ntmps - us.toArray.size) undef, defers := [] } w := by
    rw [hst]
    refine ⟨⟨Based.start hG, hok, fun _ _ => rfl, (fun i j b n m h => by cases h), (fun id x hx => by cases hx)⟩, ?_, fun x y hy => ?_, rfl, fun id b xs _ hx => by cases hx⟩
    · simp [hN, hus.1]; omega
    · have hlt := (List.getElem?_eq_some_iff.1 hy).1
      refine ⟨by omega, ?_⟩
      obtain ⟨u, hu⟩ : ∃ u, us[x]? = some u := ⟨_, List.getElem?_eq_getElem (by rw [hus.1]; exact hlt)⟩
      simp only [getD_args us _ x u hu]
      exact (hus.2 x y u hy hu).keep fun g hg => ⟨⟨.inl hg, hok g hg, fun id b n hb => by cases hb⟩, rfl⟩
  refine wp_mono (h _ ok0 _ _ w hs) fun e a' w' ⟨s', lv', hq, hs'⟩ => ?_
  have fin : ∀ x, resAT T s' rs = some x → Frz s'.h x r → a'.defers = [] ∧ ∃ v, (results fn a'.tmps).run P w' = .ok v w' ∧ ∃ u, Ending.returned v = .returned u ∧ Rel (fun g => (ok0 g ∨ w.heap.size ≤ g) ∧ g < w'.heap.size) w' (fun _ => none) r u ∧ Below w.heap.size w w' := by
    intro x hx hfz
    obtain ⟨u, hu, hrun⟩ := resAT_run hT hs' hrs hx
    exact ⟨hs'.defers, u, hrun, u, rfl, (hfz _ _ _ _ _ hs'.inv hu).keep (fun g hg => ⟨⟨hg.1.imp (fun h => h) (fun h => h.elim (fun h => h.elim) (fun h => h)), hg.2⟩, rfl⟩), hs'.inv.base.below⟩
  cases e with
  | normal => obtain ⟨x, hx, hfz⟩ := hq; exact fin x hx hfz
  | ret => obtain ⟨x, hx, hfz⟩ := hq; exact fin x hx hfz
  | _ => exact hq.elim
end Go.Proofs.YtkjcjenkepejgaaDoor
