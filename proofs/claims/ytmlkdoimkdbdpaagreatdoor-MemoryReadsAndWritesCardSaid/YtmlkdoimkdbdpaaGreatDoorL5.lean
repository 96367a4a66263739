/- Part 5 of the texts under MemoryReadsAndWrites,MemoryReadsBack: joined, with what it needs alone. -/
import Derived.Maps.RangeRun
import Derived.Maps.Keyed
import Derived.Carry
import GoSem.Core.Utf8
import Derived.Laws.BytesArg
import Derived.Test.YtmlkdoimkdbdpaaGreatDoorL4
set_option linter.unusedVariables false
namespace Go.Proofs.YtmlkdoimkdbdpaaGreatDoor
open Go.RowKit Go.Maps

def LoopA (P : Program) (N : Nat) (c : Code) (Q : Exit → SS → Prop) (s : SS) : Prop :=
  ∀ (B : Bse) (ok0 : Nat → Prop) (lv : Live) (a : Act) (w : World), Sim B ok0 N s lv a w → ∀ (b : Frame) (k : List Item) (cs : List Frame), b.roundOf = (FW B.rd).round → (FW B.rd).fn b.fn → (FW B.rd).room (cs.length + 1 + 0) →
    ∃ e a' w', (∃ s' lv', Q e s' ∧ Sim B ok0 N s' lv' a' w') ∧ ArrivesIn (Machine.fenced P (FW B.rd)) P (lone (b.atR a (.code c :: .inLoop c :: k)) cs w) b k cs e a' w'
def RndL (P : Program) (N : Nat) (c : Code) (Q : Exit → SS → Prop) : Exit → SS → Prop
  | .normal, s => LoopA P N c Q s
  | e, s => Q e s
theorem A_loopU {P : Program} {N : Nat} {c : Code} {Q : Exit → SS → Prop} {s : SS} (h : LoopA P N c Q s) : A P N (.loop c) Q s := by
  intro B ok0 lv a w hs b k cs hro hfn hroom
  obtain ⟨e, a', w', hq, harr⟩ := h B ok0 lv a w hs b k cs hro hfn hroom
  exact ⟨e, a', w', hq, .of_steps (.one (fenced_calm hfn hroom rfl) stepR_loop) harr⟩
theorem LoopA_step {P : Program} {N : Nat} {c : Code} {Q : Exit → SS → Prop} {s : SS} (h : A P N c (RndL P N c Q) s) : LoopA P N c Q s := by
  intro B ok0 lv a w hs b k cs hro hfn hroom
  obtain ⟨e, a₁, w₁, ⟨s₁, lv₁, hq, hs₁⟩, harr⟩ := h B ok0 lv a w hs b (.inLoop c :: k) cs hro hfn hroom
  cases e with
  | normal =>
    obtain ⟨e₂, a₂, w₂, hq₂, harr₂⟩ := hq B ok0 lv₁ a₁ w₁ hs₁ b k cs hro hfn hroom
    exact ⟨e₂, a₂, w₂, hq₂, .of_steps (StepsIn.trans harr (.one (fenced_calm hfn hroom rfl) stepR_inLoop)) harr₂⟩
  | exit id => exact ⟨_, a₁, w₁, ⟨s₁, lv₁, hq, hs₁⟩, .pass (x := .inLoop c) rfl (fun _ _ => .inl (by simp)) harr⟩
  | goto l => exact ⟨_, a₁, w₁, ⟨s₁, lv₁, hq, hs₁⟩, .pass (x := .inLoop c) rfl (fun _ _ => .inl (by simp)) harr⟩
  | ret => exact ⟨_, a₁, w₁, ⟨s₁, lv₁, hq, hs₁⟩, .pass (x := .inLoop c) rfl (fun _ _ => .inl (by simp)) harr⟩
  | panic ch => exact ⟨_, a₁, w₁, ⟨s₁, lv₁, hq, hs₁⟩, .pass (x := .inLoop c) rfl (fun _ _ => .inl (by simp)) harr⟩
  | outgrown => exact ⟨_, a₁, w₁, ⟨s₁, lv₁, hq, hs₁⟩, .pass (x := .inLoop c) rfl (fun _ _ => .inl (by simp)) harr⟩

theorem LoopA_sub {P : Program} {N : Nat} {c : Code} {Q : Exit → SS → Prop} {t t' : List (Nat × AV)} {h h' : List (Nat × Option LObj)} (k : LoopA P N c Q (S t' h')) (h1 : subT t t') (h2 : subH h h') : LoopA P N c Q (S t h) := by
  intro B ok0 lv a w hs b kk cs hro hfn hroom
  obtain ⟨lv', hs'⟩ := hs.weak (s' := S t' h') ⟨yce h1, yen h2⟩
  exact k B ok0 lv' a w hs' b kk cs hro hfn hroom
section
variable {P : Program} {T : Nat → Option Ty} {N : Nat} {ops : Array Oper} {lf : Oper → Bool} {Q : SS → Prop} {t : List (Nat × AV)} {h : List (Nat × Option LObj)} {rest : List Oper} {d : Nat} {op : Op} {ty : TypeId} {pos : String} {af : Array Edge} {gd : Option (Nat × Bool)} {r : AV}

theorem ybg (hT : TOK P T) {ti n es sz : Nat} {ea ag : Bool} {z : List Value} {x y : Operand} {k : IntKind} {i : Int} {id off : Nat} {xs : List AV} (hk : T ti = some ⟨.arr n es ea, sz, ag, z⟩) (hx : evF (look t) x = some (.lp id off)) (hh : ycn (yap h id) = some xs) (hne : xs ≠ []) (hy : evF (look t) y = some (.v (.int k i))) (h0 : 0 ≤ i) (h1 : i < n)
    (hw : yax ops (look t) ⟨some d, .indexAddr ti x y, ty, pos, af, gd⟩ = some true) (hd : Nat.blt d N = true) (k : Lex P N ops lf Q rest (S ((d, .lp id (off + i.toNat * es)) :: t) h)) : Lex P N ops lf Q (⟨some d, .indexAddr ti x y, ty, pos, af, gd⟩ :: rest) (S t h) :=
  yca (yield_indexArr_lp (hT _ _ hk).2.2 hx hh (.inl hne) hy h0 h1) hw hd k
theorem A_asVec {c : Code} {Q : Exit → SS → Prop} (id : Nat) {xs : List AV} (ys : List AV) (hx : yap h id = some (.cells xs)) (he : xs = ys) (hp : ∀ y ∈ ys, ybl y = true) (k : A P N c Q (S t ((id, some (.vec ys)) :: h))) : A P N c Q (S t h) := by
  subst he
  intro B ok0 lv a w hs
  refine k B ok0 lv a w ⟨⟨hs.inv.base, hs.inv.ok0lt, fun j hj => ?_, hs.inv.inj, fun j x hj => ?_⟩, hs.size, hs.frame, hs.defers, hs.big, fun j b ws hN hj hc hb => ?_⟩
  · refine hs.inv.dom j ?_
    simp only [S, yap] at hj ⊢
    split at hj
    · cases hj
    · exact hj
  · simp only [S, yap] at hj
    split at hj
    · rename_i hb
      cases hj
      have e := Nat.eq_of_beq_eq_true hb
      subst e
      obtain ⟨b, n, h1, h2⟩ := hs.inv.obj j _ hx
      refine ⟨b, n, h1, ?_⟩
      cases b with
      | none => simp [OwnAt] at h2
      | some b => exact ⟨h2.1, h2.2.1, h2.2.2, hp⟩
    · exact hs.inv.obj j x hj
  · simp only [S, yap] at hj
    split at hj
    · cases hj; cases hc
    · exact hs.pin j b ws hN hj hc hb

theorem setBlock_at {w : World} {b : Nat} {o : Obj} (hb : b < w.heap.size) : (ChangeMaps.setBlock w b o).heap[b]? = some o := by
  simp [ChangeMaps.setBlock, hb]
theorem setBlock_other {w : World} {b g : Nat} {o : Obj} (hg : g ≠ b) : (ChangeMaps.setBlock w b o).heap[g]? = w.heap[g]? := by
  simp [ChangeMaps.setBlock, Ne.symm hg]
theorem makeMap_loud {o : Oper} {ti : Nat} {s : SS} (ho : o.op = .makeMap ti none) (hd : o.dst = some d) (hdN : d < N) (id : Nat) (hf : Fresh s id) : LoudAt P N o s (· = ⟨yfq s.t (some d) (.mp id), ydm s.h id (some (.map []))⟩) := by
  intro B ok0 lv a w hs Q
  have hrun : (execOp a.eval o).run P w = .ok (.value (.map (some w.heap.size))) (w.alloc (.map #[] 0)) := by
    simp [execOp, ho, run_makeMap]
  unfold Oper.wp
  rw [hrun]
  have hnew := hs.newBlock (ob := .map []) (n := 0) hf (ycv w (.map #[] 0)) (by simp) rfl (fun h => by cases h) (fun ok' lv' g1 g2 => ⟨#[], 0, ycs w _, by simp, by simp, by simp⟩)
  simp only [Oper.upon, hd]
  exact ⟨_, _, rfl, hnew.putOnly hdN (.mp _ rfl fun b n hb => by simp only [setLv, if_true, Option.some.injEq, Prod.mk.injEq] at hb; rw [hb.1])⟩
theorem L_makeMap {ti : Nat} (h1 : freshT d t = true) (h2 : ycr d h = true) (hl : lf ⟨some d, .makeMap ti none, ty, pos, af, gd⟩ = true) (hw : yax ops (look t) ⟨some d, .makeMap ti none, ty, pos, af, gd⟩ = some true) (hd : Nat.blt d N = true)
    (k : Lex P N ops lf Q rest (S ((d, .mp d) :: t) ((d, some (.map [])) :: h))) : Lex P N ops lf Q (⟨some d, .makeMap ti none, ty, pos, af, gd⟩ :: rest) (S t h) :=
  L_loud hl hw (by rw [← S_upd]; exact makeMap_loud rfl rfl (by simpa using hd) d (fresh_of h1 h2)) k

inductive Found (z : Value) (es : List (Value × Value)) (key : Value) : Value → Bool → Prop
  | hit {v : Value} (h1 : ∃ e ∈ es, e.1 = key) (h2 : ∀ e ∈ es, e.1 = key → e.2 = v) : Found z es key v true
  | miss (h : ∀ e ∈ es, e.1 ≠ key) : Found z es key z false
theorem lookup_run {w : World} {b ti kt et : Nat} {es : List (Value × Value)} {key z v : Value} {kl : Lit} {okb cm : Bool} (hm : MapAt w b es) (ht : P.underlying ti = some (.map kt et)) (K : Keyed P kt) (hks : ∀ e ∈ es, ∃ l, keyOf P kt e.1 = some l) (hkey : keyOf P kt key = some kl) (hz : (zeroValue et).run P w = .ok z w) (hf : Found z es key v okb) :
    (Instr.lookup ti (.map (some b)) key cm).run P w = .ok (if cm then .tuple #[v, .bool okb] else v) w := by
  obtain ⟨en, clock, h1, h2, h3, h4⟩ := hm
  have hks' : ∀ e ∈ en.toList, ∃ l, keyOf P kt e.key = some l := fun e he => hks (e.key, e.val) (by rw [← h2]; exact List.mem_map_of_mem (f := fun e : MapEntry => (e.key, e.val)) he)
  have hc := K.check w en.isEmpty hkey
  have hfind := K.find w hkey en.toList hks'
  have main : ∀ (o : Option (Nat × Value)), (Instr.findKey kt key en.toList).run P w = .ok o w → ((match o with | some (_, x) => (x, true) | none => (z, false)) = (v, okb)) → (Instr.lookup ti (.map (some b)) key cm).run P w = .ok (if cm then .tuple #[v, .bool okb] else v) w := by
    intro o ho he
    have hg : (getObj b).run P w = .ok (.map en clock) w := by simp [getObj, Sem.run, h1]
    simp only [Instr.lookup, Sem.run_bind, run_underlying ht, Result.andThen_ok, hg, Sem.run_pure, hc, ho]
    cases o with
    | none => simp only [Prod.mk.injEq] at he; obtain ⟨rfl, rfl⟩ := he; simp only [Sem.run_bind, hz, Result.andThen_ok, Sem.run_pure]
    | some p => simp only [Prod.mk.injEq] at he; obtain ⟨rfl, rfl⟩ := he; simp
  rcases hfind with ⟨g1, g2⟩ | ⟨j, e, g1, g2, g3⟩
  · refine main none g1 ?_
    cases hf with
    | hit q1 q2 =>
      obtain ⟨p, hp, hpk⟩ := q1
      rw [← h2] at hp
      obtain ⟨e, he, rfl⟩ := List.mem_map.1 hp
      exact absurd hpk (g2 e he)
    | miss q => rfl
  · refine main (some (j, e.val)) g1 ?_
    have hmem : (e.key, e.val) ∈ es := by rw [← h2]; exact List.mem_map_of_mem (f := fun e : MapEntry => (e.key, e.val)) (List.mem_of_getElem? g2)
    cases hf with
    | hit q1 q2 => rw [← q2 _ hmem g3]
    | miss q => exact absurd g3 (q _ hmem)
def lookR (cm : Bool) (v : Value) (okb : Bool) : AV := if cm then .tup [.v v, .v (.bool okb)] else .v v
theorem lookR_rel {ok : Nat → Prop} {w : World} {lv : Live} (cm : Bool) (v : Value) (okb : Bool) : Rel ok w lv (lookR cm v okb) (if cm then .tuple #[v, .bool okb] else v) := by
  cases cm
  · exact .v v
  · refine .tup [v, .bool okb] rfl fun i c u hc hu => ?_
    match i with
    | 0 => simp at hc hu; subst hc hu; exact .v _
    | 1 => simp at hc hu; subst hc hu; exact .v _
    | i + 2 => simp at hc
theorem yield_lookup_mp {ρ : Operand → Option AV} {hp : Nat → Option LObj} {ti kt et id : Nat} {x y : Operand} {yv : AV} {es : List (Value × Value)} {key z v : Value} {kl : Lit} {okb cm : Bool} (ht : P.underlying ti = some (.map kt et)) (K : Keyed P kt) (hx : ρ x = some (.mp id)) (hid : hp id = some (.map es)) (hy : ρ y = some yv) (hyk : toV yv = some key)
    (hks : ∀ e ∈ es, ∃ l, keyOf P kt e.1 = some l) (hkey : keyOf P kt key = some kl) (hz : ∀ w, (zeroValue et).run P w = .ok z w) (hf : Found z es key v okb) : ycl P hp ρ (.lookup ti x y cm) ty (lookR cm v okb) :=
  yav fun B ok0 lv w a o ho hty hi hops => by
    have hr := hops x _ (by simp [Op.operands]) hx
    have hk := toV_rel hyk (hops y _ (by simp [Op.operands]) hy)
    obtain ⟨b, n, hb, hown⟩ := hi.obj id _ hid
    generalize hv : a.eval x = u at hr
    cases hr with
    | mp _ _ hmp =>
      cases b with
      | none => simp [OwnAt] at hown
      | some b =>
        obtain rfl := hmp b n hb
        refine ⟨_, ?_, lookR_rel cm v okb⟩
        simp [execOp, ho, hv, hk, lookup_run (cm := cm) hown.2.2 ht K hks hkey (hz w) hf]
theorem yield_lookup_mv {ρ : Operand → Option AV} {hp : Nat → Option LObj} {ti kt et : Nat} {x y : Operand} {yv : AV} {es : List (Value × Value)} {key z v : Value} {kl : Lit} {okb cm : Bool} (ht : P.underlying ti = some (.map kt et)) (K : Keyed P kt) (hx : ρ x = some (.mv es)) (hy : ρ y = some yv) (hyk : toV yv = some key)
    (hks : ∀ e ∈ es, ∃ l, keyOf P kt e.1 = some l) (hkey : keyOf P kt key = some kl) (hz : ∀ w, (zeroValue et).run P w = .ok z w) (hf : Found z es key v okb) : ycl P hp ρ (.lookup ti x y cm) ty (lookR cm v okb) :=
  yav fun B ok0 lv w a o ho hty hi hops => by
    have hr := hops x _ (by simp [Op.operands]) hx
    have hk := toV_rel hyk (hops y _ (by simp [Op.operands]) hy)
    generalize hv : a.eval x = u at hr
    cases hr with
    | mv b hg hm =>
      refine ⟨_, ?_, lookR_rel cm v okb⟩
      simp [execOp, ho, hv, hk, lookup_run (cm := cm) hm ht K hks hkey (hz w) hf]
theorem L_lookup_mp {ti kt et id : Nat} {x y : Operand} {yv : AV} {es : List (Value × Value)} {key z v : Value} {kl : Lit} {okb cm : Bool} (ht : P.underlying ti = some (.map kt et)) (K : Keyed P kt) (hx : evF (look t) x = some (.mp id)) (hid : yap h id = some (.map es)) (hy : evF (look t) y = some yv) (hyk : toV yv = some key)
    (hks : ∀ e ∈ es, ∃ l, keyOf P kt e.1 = some l) (hkey : keyOf P kt key = some kl) (hz : ∀ w, (zeroValue et).run P w = .ok z w) (hf : Found z es key v okb) (hw : yax ops (look t) ⟨some d, .lookup ti x y cm, ty, pos, af, gd⟩ = some true) (hd : Nat.blt d N = true)
    (k : Lex P N ops lf Q rest (S ((d, lookR cm v okb) :: t) h)) : Lex P N ops lf Q (⟨some d, .lookup ti x y cm, ty, pos, af, gd⟩ :: rest) (S t h) := yca (yield_lookup_mp ht K hx hid hy hyk hks hkey hz hf) hw hd k
theorem L_lookup_mv {ti kt et : Nat} {x y : Operand} {yv : AV} {es : List (Value × Value)} {key z v : Value} {kl : Lit} {okb cm : Bool} (ht : P.underlying ti = some (.map kt et)) (K : Keyed P kt) (hx : evF (look t) x = some (.mv es)) (hy : evF (look t) y = some yv) (hyk : toV yv = some key)
    (hks : ∀ e ∈ es, ∃ l, keyOf P kt e.1 = some l) (hkey : keyOf P kt key = some kl) (hz : ∀ w, (zeroValue et).run P w = .ok z w) (hf : Found z es key v okb) (hw : yax ops (look t) ⟨some d, .lookup ti x y cm, ty, pos, af, gd⟩ = some true) (hd : Nat.blt d N = true)
    (k : Lex P N ops lf Q rest (S ((d, lookR cm v okb) :: t) h)) : Lex P N ops lf Q (⟨some d, .lookup ti x y cm, ty, pos, af, gd⟩ :: rest) (S t h) := yca (yield_lookup_mv ht K hx hy hyk hks hkey hz hf) hw hd k

theorem update_loud {o : Oper} {ti kt et id : Nat} {x y v : Operand} {yv vv : AV} {es : List (Value × Value)} {key val : Value} {kl : Lit} {s : SS} (ho : o.op = .mapUpdate ti x y v) (hd : o.dst = none) (ht : P.underlying ti = some (.map kt et)) (K : Keyed P kt) (hx : evF s.t x = some (.mp id)) (hid : s.h id = some (.map es)) (hy : evF s.t y = some yv) (hyk : toV yv = some key) (hvv : evF s.t v = some vv) (hvk : toV vv = some val)
    (hks : ∀ e ∈ es, ∃ l, keyOf P kt e.1 = some l) (hkey : keyOf P kt key = some kl) (hnew : ∀ e ∈ es, e.1 ≠ key) : LoudAt P N o s (· = ⟨s.t, ydm s.h id (some (.map (es ++ [(key, val)])))⟩) := by
  intro B ok0 lv a w hs Q
  have hk := toV_rel hyk (hs.eval hy)
  have hvl := toV_rel hvk (hs.eval hvv)
  have hr := hs.eval hx
  obtain ⟨b, n, hb, hown⟩ := hs.inv.obj id _ hid
  generalize hv : a.eval x = u at hr
  cases hr with
  | mp _ _ hmp =>
    cases b with
    | none => simp [OwnAt] at hown
    | some b =>
      obtain rfl := hmp b n hb
      obtain ⟨hb1, hb2, en, clock, h1, h2, h3, h4⟩ := hown
      have hks' : ∀ e ∈ en.toList, ∃ l, keyOf P kt e.key = some l := fun e he => hks (e.key, e.val) (by rw [← h2]; exact List.mem_map_of_mem (f := fun e : MapEntry => (e.key, e.val)) he)
      have hfind : (Instr.findKey kt key en.toList).run P w = .ok none w := by
        rcases K.find w hkey en.toList hks' with ⟨g1, _⟩ | ⟨j, e, _, g2, g3⟩
        · exact g1
        · exact absurd g3 (hnew (e.key, e.val) (by rw [← h2]; exact List.mem_map_of_mem (f := fun e : MapEntry => (e.key, e.val)) (List.mem_of_getElem? g2)))
      have hg : (getObj b).run P w = .ok (.map en clock) w := by simp [getObj, Sem.run, h1]
      have hrun : (execOp a.eval o).run P w = .ok .skip (ChangeMaps.setBlock w b (.map (en.push { key, val, born := clock }) (clock + 1))) := by
        have hset : (setObj b (.map (en.push { key, val, born := clock }) (clock + 1))).run P w = .ok () (ChangeMaps.setBlock w b (.map (en.push { key, val, born := clock }) (clock + 1))) := by simp [setObj, Sem.run, h1, ChangeMaps.setBlock]
        simp only [execOp, ho, hv, hk, hvl, Instr.mapUpdate, Sem.run_bind, run_underlying ht, Result.andThen_ok, hg, K.check w false hkey, hfind, hset, Sem.run_pure]
      unfold Oper.wp
      rw [hrun]
      simp only [Oper.upon, hd, Act.put]
      refine ⟨_, lv, rfl, hs.write (w' := ChangeMaps.setBlock w b (.map (en.push { key, val, born := clock }) (clock + 1))) hb rfl rfl rfl (by simp [ChangeMaps.setBlock]) (fun g hg => setBlock_other hg) (fun h => by cases h) fun ok' hk => ?_⟩
      refine ⟨_, _, setBlock_at hb2, by simp [← h2], ?_, fun e he => ?_⟩
      · rw [Array.toList_push, List.map_append, List.nodup_append]
        refine ⟨h3, by simp, fun x hx y hy => ?_⟩
        obtain ⟨e, he, rfl⟩ := List.mem_map.1 hx
        simp at hy
        subst hy
        have := h4 e he
        omega
      · simp only [Array.toList_push, List.mem_append, List.mem_singleton] at he
        rcases he with he | rfl
        · have := h4 e he; omega
        · simp
theorem L_mapUpdate {ti kt et id : Nat} {x y v : Operand} {yv vv : AV} {es : List (Value × Value)} {key val : Value} {kl : Lit} (ht : P.underlying ti = some (.map kt et)) (K : Keyed P kt) (hx : evF (look t) x = some (.mp id)) (hid : yap h id = some (.map es)) (hy : evF (look t) y = some yv) (hyk : toV yv = some key) (hvv : evF (look t) v = some vv) (hvk : toV vv = some val)
    (hks : ∀ e ∈ es, ∃ l, keyOf P kt e.1 = some l) (hkey : keyOf P kt key = some kl) (hnew : ∀ e ∈ es, e.1 ≠ key) (hl : lf ⟨none, .mapUpdate ti x y v, ty, pos, af, gd⟩ = true) (hw : yax ops (look t) ⟨none, .mapUpdate ti x y v, ty, pos, af, gd⟩ = some true)
    (k : Lex P N ops lf Q rest (S t ((id, some (.map (es ++ [(key, val)]))) :: h))) : Lex P N ops lf Q (⟨none, .mapUpdate ti x y v, ty, pos, af, gd⟩ :: rest) (S t h) :=
  L_loud hl hw (by rw [← S_h]; exact update_loud rfl rfl ht K hx hid hy hyk hvv hvk hks hkey hnew) k

theorem Sim.freezeMap {B : Bse} {ok0 : Nat → Prop} {s : SS} {lv : Live} {a : Act} {w : World} (hs : Sim B ok0 N s lv a w) {d id : Nat} {es : List (Value × Value)} (hd : s.t d = some (.mp id)) (hx : s.h id = some (.map es))
    {s' : SS} (ht : ∀ x y, s'.t x = some y → y = .any ∨ s.t x = some y) (hlt : ∀ x y, s'.t x = some y → ∃ z, s.t x = some z) (hid : s'.h id = none) (hh : ∀ j ob', s'.h j = some ob' → ∃ ob, s.h j = some ob ∧ ForgO ob ob') : ∃ lv', Sim B ok0 N ⟨yfq s'.t (some d) (.mv es), s'.h⟩ lv' a w := by
  obtain ⟨lv', h1, h2, h3, h4⟩ := hs.forg ht hlt hh
  refine ⟨lv', h1.inv, h1.size, fun x y hy => ?_, h1.defers, h1.big, h1.pin⟩
  simp only [yfq] at hy
  split at hy
  · rename_i e
    subst e
    simp only [Option.some.injEq] at hy
    subst hy
    have hf := hs.frame x _ hd
    refine ⟨hf.1, ?_⟩
    have hr := hf.2
    obtain ⟨b, n, hb, hown⟩ := hs.inv.obj id _ hx
    generalize yfo B a x = u at hr
    cases hr with
    | mp _ _ hmp =>
      cases b with
      | none => simp [OwnAt] at hown
      | some b =>
        obtain rfl := hmp b n hb
        refine .mv b ⟨.inr hown.1, hown.2.1, fun j b' m hj he => ?_⟩ hown.2.2
        subst he
        have := hs.inv.inj j id b' m n (h2 j _ m hj) hb
        subst this
        rw [h1.inv.dom j hid] at hj
        cases hj
  · exact h1.frame x y hy
theorem A_freezeMap {c : Code} {Q : Exit → SS → Prop} {t' : List (Nat × AV)} {h' : List (Nat × Option LObj)} (d : Nat) {id : Nat} {es : List (Value × Value)} (hd : look t d = some (.mp id)) (hx : yap h id = some (.map es)) (ht : forgT id t = some t') (hh : forgH id h = some h') (k : A P N c Q (S ((d, .mv es) :: t') ((id, none) :: h'))) : A P N c Q (S t h) := by
  intro B ok0 lv a w hs
  obtain ⟨g1, g2⟩ := forgT_spec ht
  obtain ⟨lv', hs'⟩ := hs.freezeMap (s' := S t' ((id, none) :: h')) hd hx (fun x y hy => (g1 x y hy).imp (fun h => h) And.left) g2 (by simp [S, yap]) (fun j ob' hj => by
    simp only [S, yap] at hj
    split at hj
    · cases hj
    · exact (forgH_spec hh j ob' hj).2)
  rw [show (⟨yfq (S t' ((id, none) :: h')).t (some d) (.mv es), (S t' ((id, none) :: h')).h⟩ : SS) = S ((d, .mv es) :: t') ((id, none) :: h') by unfold S; rw [ydx]] at hs'
  exact k B ok0 lv' a w hs'

theorem range_loud {o : Oper} {ti kt et : Nat} {x : Operand} {es : List (Value × Value)} {s : SS} (ho : o.op = .range ti x) (hd : o.dst = some d) (hdN : d < N) (id : Nat) (ht : P.underlying ti = some (.map kt et)) (hx : evF s.t x = some (.mv es)) (hf : Fresh s id) : LoudAt P N o s (· = ⟨yfq s.t (some d) (.lp id 0), ydm s.h id (some (.iter es es none))⟩) := by
  intro B ok0 lv a w hs Q
  have hr := hs.eval hx
  generalize hv : a.eval x = u at hr
  cases hr with
  | mv b hg hm =>
    obtain ⟨en, clock, h1, h2, h3, h4⟩ := hm
    have hgo : (getObj b).run P w = .ok (.map en clock) w := by simp [getObj, Sem.run, h1]
    have hrun : (execOp a.eval o).run P w = .ok (.value (.pointer (some ⟨w.heap.size, 0, none⟩))) (w.alloc (.mapIter (some b) clock #[] clock)) := by
      simp [execOp, ho, hv, Instr.range, run_underlying ht, hgo]
    unfold Oper.wp
    rw [hrun]
    have hnew := hs.newBlock (ob := .iter es es none) (n := 0) hf (ycv w (.mapIter (some b) clock #[] clock)) (by simp) rfl (fun h => by cases h) (fun ok' lv' g1 g2 => by
      have hgb := g1 b hg
      refine ⟨b, en, clock, #[], clock, hgb.1, by rw [hgb.2]; exact h1, h2, h3, h4, ycs w _, Nat.le_refl _, ?_, fun p hp => by cases hp⟩
      have : (en.toList.filter fun e => !(#[] : Array Nat).contains e.born) = en.toList := by simp
      rw [this, h2])
    simp only [Oper.upon, hd]
    exact ⟨_, _, rfl, hnew.putOnly hdN (.lp _ rfl fun b n hb => by simp only [setLv, if_true, Option.some.injEq, Prod.mk.injEq] at hb; rw [hb.1])⟩
theorem L_range {ti kt et : Nat} {x : Operand} {es : List (Value × Value)} (ht : P.underlying ti = some (.map kt et)) (hx : evF (look t) x = some (.mv es)) (h1 : freshT d t = true) (h2 : ycr d h = true) (hl : lf ⟨some d, .range ti x, ty, pos, af, gd⟩ = true) (hw : yax ops (look t) ⟨some d, .range ti x, ty, pos, af, gd⟩ = some true) (hd : Nat.blt d N = true)
    (k : Lex P N ops lf Q rest (S ((d, .lp d 0) :: t) ((d, some (.iter es es none)) :: h))) : Lex P N ops lf Q (⟨some d, .range ti x, ty, pos, af, gd⟩ :: rest) (S t h) :=
  L_loud hl hw (by rw [← S_upd]; exact range_loud rfl rfl (by simpa using hd) d ht hx (fresh_of h1 h2)) k
theorem yield_entry {ρ : Operand → Option AV} {hp : Nat → Option LObj} {x : Operand} {id : Nat} {es left : List (Value × Value)} {p : Value × Value} (hx : ρ x = some (.lp id 0)) (hid : hp id = some (.iter es left (some p))) : ycl P hp ρ (.entry x) ty (.tup [.v p.1, .v p.2]) :=
  yav fun B ok0 lv w a o ho hty hi hops => by
    have hr := hops x _ (by simp [Op.operands]) hx
    generalize hv : a.eval x = u at hr
    obtain ⟨r, n, hb, hown⟩ := hi.obj id _ hid
    cases hr with
    | lp _ _ hlp =>
      cases r with
      | none => simp [OwnAt] at hown
      | some r =>
        obtain rfl := hlp r n hb
        obtain ⟨_, _, b, en, clock, seen, st, h2, h3, h4, h5, h6, h7, h8, h9, h10⟩ := hown
        obtain ⟨e, seen', g1, g2, g3, g4⟩ := h10 p rfl
        subst g2 g3 g4
        have hrun := run_entry_at (P := P) w r b st seen' en st e h7 h3 g1 h5
        refine ⟨.tuple #[e.key, e.val], by simp [execOp, ho, hv, hrun], ?_⟩
        refine .tup [e.key, e.val] rfl fun i c u hc hu => ?_
        match i with
        | 0 => simp at hc hu; subst hc hu; exact .v _
        | 1 => simp at hc hu; subst hc hu; exact .v _
        | i + 2 => simp at hc
theorem L_entry {x : Operand} {id : Nat} {es left : List (Value × Value)} {p : Value × Value} (hx : evF (look t) x = some (.lp id 0)) (hid : yap h id = some (.iter es left (some p))) (hw : yax ops (look t) ⟨some d, .entry x, ty, pos, af, gd⟩ = some true) (hd : Nat.blt d N = true)
    (k : Lex P N ops lf Q rest (S ((d, .tup [.v p.1, .v p.2]) :: t) h)) : Lex P N ops lf Q (⟨some d, .entry x, ty, pos, af, gd⟩ :: rest) (S t h) := yca (yield_entry hx hid) hw hd k
theorem left_step {en : List MapEntry} {e : MapEntry} {seen : Array Nat} (hn : (en.map (·.born)).Nodup) (he : e ∈ en.filter fun e => !seen.contains e.born) :
    List.Perm (en.filter fun e => !seen.contains e.born) (e :: en.filter fun x => !(seen.push e.born).contains x.born) := by
  have hf : (en.filter fun x => !(seen.push e.born).contains x.born) = (en.filter fun e => !seen.contains e.born).filter fun x => x.born != e.born := by
    rw [List.filter_filter]
    apply List.filter_congr
    intro x hx
    rw [Bool.eq_iff_iff]
    simp
    constructor
    · rintro ⟨h1, h2⟩; exact ⟨h2, h1⟩
    · rintro ⟨h1, h2⟩; exact ⟨h2, h1⟩
  rw [hf]
  have hn' : ((en.filter fun e => !seen.contains e.born).map (·.born)).Nodup := hn.sublist ((List.filter_sublist).map _)
  generalize en.filter (fun e => !seen.contains e.born) = l at he hn'
  induction l with
  | nil => cases he
  | cons y l ih =>
    simp only [List.map_cons, List.nodup_cons] at hn'
    rcases List.mem_cons.1 he with rfl | he'
    · have : (e :: l).filter (fun x => x.born != e.born) = l := by
        simp only [List.filter_cons, bne_self_eq_false, Bool.false_eq_true, if_false]
        rw [List.filter_eq_self]
        intro x hx
        simp only [bne_iff_ne, ne_eq]
        intro hb
        exact hn'.1 (by rw [← hb]; exact List.mem_map_of_mem (f := (·.born)) hx)
      rw [this]
    · have hne : (y.born != e.born) = true := by
        simp only [bne_iff_ne, ne_eq]
        intro hb
        exact hn'.1 (by rw [hb]; exact List.mem_map_of_mem (f := (·.born)) he')
      simp only [List.filter_cons, hne, if_true]
      exact ((ih he' hn'.2).cons y).trans (List.Perm.swap e y _)


theorem next_loud {o : Oper} {x : Operand} {id : Nat} {es left : List (Value × Value)} {cur : Option (Value × Value)} {s : SS} (ho : o.op = .next x false) (hd : o.dst = some d) (hdN : d < N) (hx : evF s.t x = some (.lp id 0)) (hid : s.h id = some (.iter es left cur)) :
    LoudAt P N o s (fun s' => (left = [] ∧ s' = ⟨yfq s.t (some d) (.tup [.v (.bool false)]), s.h⟩) ∨ ∃ p left', List.Perm left (p :: left') ∧ s' = ⟨yfq s.t (some d) (.tup [.v (.bool true), .v p.1, .v p.2]), ydm s.h id (some (.iter es left' (some p)))⟩) := by
  intro B ok0 lv a w hs Q
  have hr := hs.eval hx
  generalize hv : a.eval x = u at hr
  obtain ⟨r, n, hb, hown⟩ := hs.inv.obj id _ hid
  cases hr with
  | lp _ _ hlp =>
    cases r with
    | none => simp [OwnAt] at hown
    | some r =>
      obtain rfl := hlp r n hb
      obtain ⟨hr1, hr2, b, en, clock, seen, st, h2, h3, h4, h5, h6, h7, h8, h9, h10⟩ := hown
      have hlo : (leftOf en seen).toList = en.toList.filter fun e => !seen.contains e.born := by simp [leftOf]
      unfold Oper.wp
      rcases run_next_at (P := P) w o.type r b clock st seen en clock h7 h3 h6 h8 with ⟨g1, g2⟩ | ⟨e, g1, w1, g2, g3⟩
      · have hleft : left = [] := by
          have hz : (en.toList.filter fun e => !seen.contains e.born) = [] := by
            rw [← hlo]
            exact List.eq_nil_of_length_eq_zero (by simpa using g1)
          rw [hz] at h9
          exact h9.eq_nil
        have hrun : (execOp a.eval o).run P w = .ok (.value (.tuple #[.bool false])) w := by
          simp only [execOp, ho, hv, Sem.run_bind, g2, Result.andThen_ok, Sem.run_pure]
        rw [hrun]
        simp only [Oper.upon, hd]
        refine ⟨_, lv, .inl ⟨hleft, rfl⟩, hs.putOnly hdN (.tup [.bool false] rfl fun i c u hc hu => ?_)⟩
        match i with
        | 0 => simp at hc hu; subst hc hu; exact .v _
        | i + 1 => simp at hc
      · have hrun : (execOp a.eval o).run P w = .ok (.value (.tuple #[.bool true, e.key, e.val])) (ChangeMaps.setBlock w1 r (.mapIter (some b) clock (seen.push e.born) clock)) := by
          simp only [execOp, ho, hv, Sem.run_bind, g3, Result.andThen_ok, Sem.run_pure]
        have hw1 : w1.heap = w.heap ∧ w1.os = w.os ∧ w1.tape = w.tape ∧ w1.output = w.output := by rcases g2 with rfl | rfl <;> exact ⟨rfl, rfl, rfl, rfl⟩
        generalize hw2 : ChangeMaps.setBlock w1 r (.mapIter (some b) clock (seen.push e.born) clock) = w2 at hrun
        have hrlt : r < w1.heap.size := by rw [hw1.1]; exact hr2
        have hoth : ∀ g, g ≠ r → w2.heap[g]? = w.heap[g]? := fun g hg => by rw [← hw2, setBlock_other hg, hw1.1]
        have hat : w2.heap[r]? = some (.mapIter (some b) clock (seen.push e.born) clock) := by rw [← hw2]; exact setBlock_at hrlt
        have hel : e ∈ en.toList.filter fun e => !seen.contains e.born := by rw [← hlo]; exact g1
        have hperm : List.Perm left ((e.key, e.val) :: (en.toList.filter fun x => !(seen.push e.born).contains x.born).map fun e => (e.key, e.val)) := h9.trans ((left_step h5 hel).map fun e => (e.key, e.val))
        rw [hrun]
        simp only [Oper.upon, hd]
        have hbr : b ≠ r := fun hbr => h2.2.2 id r n hb hbr.symm
        have hwr := hs.write (w' := w2) hb (by rw [← hw2]; exact hw1.2.1) (by rw [← hw2]; exact hw1.2.2.1) (by rw [← hw2]; exact hw1.2.2.2) (by rw [← hw2]; simp [ChangeMaps.setBlock, hw1.1]) hoth
          (ob := .iter es ((en.toList.filter fun x => !(seen.push e.born).contains x.born).map fun e => (e.key, e.val)) (some (e.key, e.val))) (fun h => by cases h) (fun ok' hk => ⟨b, en, clock, seen.push e.born, clock, (hk b h2).1, by rw [hoth b hbr]; exact h3, h4, h5, h6, hat, Nat.le_refl _, List.Perm.refl _, fun p hp => by
            cases hp
            exact ⟨e, seen, (List.mem_filter.1 hel).1, rfl, rfl, rfl⟩⟩)
        refine ⟨_, lv, .inr ⟨(e.key, e.val), _, hperm, rfl⟩, hwr.putOnly hdN (.tup [.bool true, e.key, e.val] rfl fun i c u hc hu => ?_)⟩
        match i with
        | 0 => simp at hc hu; subst hc hu; exact .v _
        | 1 => simp at hc hu; subst hc hu; exact .v _
        | 2 => simp at hc hu; subst hc hu; exact .v _
        | i + 3 => simp at hc
theorem L_next {x : Operand} {id : Nat} {es left : List (Value × Value)} {cur : Option (Value × Value)} (hx : evF (look t) x = some (.lp id 0)) (hid : yap h id = some (.iter es left cur)) (hl : lf ⟨some d, .next x false, ty, pos, af, gd⟩ = true) (hw : yax ops (look t) ⟨some d, .next x false, ty, pos, af, gd⟩ = some true) (hd : Nat.blt d N = true)
    (k1 : left = [] → Lex P N ops lf Q rest (S ((d, .tup [.v (.bool false)]) :: t) h)) (k2 : ∀ p left', List.Perm left (p :: left') → Lex P N ops lf Q rest (S ((d, .tup [.v (.bool true), .v p.1, .v p.2]) :: t) ((id, some (.iter es left' (some p))) :: h))) :
    Lex P N ops lf Q (⟨some d, .next x false, ty, pos, af, gd⟩ :: rest) (S t h) := by
  refine .loud _ hl hw (next_loud rfl rfl (by simpa using hd) hx hid) ?_
  rintro s' (⟨h1, rfl⟩ | ⟨p, left', h1, rfl⟩)
  · have : (⟨yfq (S t h).t (some d) (.tup [.v (.bool false)]), (S t h).h⟩ : SS) = S ((d, .tup [.v (.bool false)]) :: t) h := by unfold S; rw [ydx]
    rw [this]; exact k1 h1
  · have : (⟨yfq (S t h).t (some d) (.tup [.v (.bool true), .v p.1, .v p.2]), ydm (S t h).h id (some (.iter es left' (some p)))⟩ : SS) = S ((d, .tup [.v (.bool true), .v p.1, .v p.2]) :: t) ((id, some (.iter es left' (some p))) :: h) := S_upd
    rw [this]; exact k2 p left' h1
end
end Go.Proofs.YtmlkdoimkdbdpaaGreatDoor

set_option linter.unusedVariables false
namespace Go.Proofs.YtmlkdoimkdbdpaaGreatDoor
open Go.RowKit

structure Wk (a b : AV) : Prop where
  cell : ydj a = true → ydj b = true
  rel : ∀ (ok : Nat → Prop) (w : World) (lv : Live) (v : Value), Rel ok w lv a v → Rel ok w lv b v
theorem wk_refl (a : AV) : Wk a a := ⟨fun h => h, fun _ _ _ _ h => h⟩
theorem wk_nil (size : Nat) : Wk (.v (.slice none 0 0)) (.sl size []) := by
  refine ⟨fun _ => rfl, fun ok w lv v h => ?_⟩
  cases h
  exact .sl none 0 (fun _ _ => .slice none 0 0) 0 0 (by simp) (by simp [maxLen]) (fun _ => rfl) (fun row h => by simp at h) (fun h => absurd rfl h) (fun i j row c h => by simp at h) (fun i j row c h => by simp at h)
inductive WkL : List AV → List AV → Prop
  | nil : WkL [] []
  | cons {a b : AV} {l m : List AV} (h : Wk a b) (t : WkL l m) : WkL (a :: l) (b :: m)
inductive WkR : List (List AV) → List (List AV) → Prop
  | nil : WkR [] []
  | cons {a b : List AV} {l m : List (List AV)} (h : WkL a b) (t : WkR l m) : WkR (a :: l) (b :: m)
theorem WkL.spec {l m : List AV} (h : WkL l m) : l.length = m.length ∧ ∀ (j : Nat) (c' : AV), m[j]? = some c' → ∃ c, l[j]? = some c ∧ Wk c c' := by
  induction h with
  | nil => exact ⟨rfl, fun j c' h => by simp at h⟩
  | cons h t ih =>
    refine ⟨by simp [ih.1], fun j c' hj => ?_⟩
    cases j with
    | zero => simp at hj; subst hj; exact ⟨_, rfl, h⟩
    | succ j => simp at hj; simpa using ih.2 j c' hj
theorem wk_agg {l m : List AV} (h : WkL l m) : Wk (.agg l) (.agg m) := by
  obtain ⟨h1, h2⟩ := h.spec
  refine ⟨fun h => by simp [ydj] at h, fun ok w lv v hv => ?_⟩
  cases hv with
  | agg vs hl hc hr =>
    refine .agg vs (by omega) (fun c hc' => ?_) (fun i c u h3 h4 => ?_)
    · obtain ⟨i, hi⟩ := List.getElem?_of_mem hc'
      obtain ⟨c0, g1, g2⟩ := h2 i c hi
      exact g2.cell (hc c0 (List.mem_of_getElem? g1))
    · obtain ⟨c0, g1, g2⟩ := h2 i c h3
      exact g2.rel _ _ _ _ (hr i c0 u g1 h4)
theorem Con.weak {P : Program} {f : FuncId} {args args' : List AV} {r : AV} (h : WkL args args') (hc : Con P f args' r) : Con P f args r := by
  obtain ⟨h1, h2, h3⟩ := hc
  obtain ⟨g1, g2⟩ := h.spec
  refine ⟨h1, h2, fun ok0 w us hG hok hr => h3 ok0 w us hG hok ⟨hr.1.trans g1, fun i x u hx hu => ?_⟩⟩
  obtain ⟨c, k1, k2⟩ := g2 i x hx
  exact k2.rel _ _ _ _ (hr.2 i c u k1 hu)

theorem calls_of_con {P : Program} {f : FuncId} {args : List AV} {x : Value} (hc : Con P f args (.v x)) {w : World} (hG : Glob w) {us : List Value} {ok : Nat → Prop} (hok : ∀ g, ok g → g < w.heap.size) (h : ybt ok w (fun _ => none) args us) : Calls P f us.toArray w fun e w' => e = .returned x ∧ Below w.heap.size w w' :=
  (hc.2.2 ok w us hG hok h).mono fun e w' ⟨u, h1, h2, h3⟩ => by cases h2; exact ⟨h1, h3⟩

section
variable {P : Program} {T : Nat → Option Ty} {N : Nat} {ops : Array Oper} {lf : Oper → Bool} {Q : SS → Prop} {t : List (Nat × AV)} {h : List (Nat × Option LObj)} {rest : List Oper} {d : Nat} {op : Op} {ty : TypeId} {pos : String} {af : Array Edge} {gd : Option (Nat × Bool)} {r : AV}
theorem L_rem {x y : Operand} {a b : Int} {tx ty' : TypeId} (hx : evF (look t) x = some (i64 a)) (hy : evF (look t) y = some (i64 b)) (hb : b ≠ 0)
    (hw : yax ops (look t) ⟨some d, .binOp .rem tx x y ty', ty, pos, af, gd⟩ = some true) (hd : Nat.blt d N = true) (k : Lex P N ops lf Q rest (S ((d, i64 (a.tmod b)) :: t) h)) : Lex P N ops lf Q (⟨some d, .binOp .rem tx x y ty', ty, pos, af, gd⟩ :: rest) (S t h) :=
  yca (yield_rem hx hy hb) hw hd k
theorem L_quo {x y : Operand} {a b : Int} {tx ty' : TypeId} (hx : evF (look t) x = some (i64 a)) (hy : evF (look t) y = some (i64 b)) (hb : b ≠ 0) (hlo : -9223372036854775808 ≤ a.tdiv b) (hhi : a.tdiv b ≤ 9223372036854775807)
    (hw : yax ops (look t) ⟨some d, .binOp .quo tx x y ty', ty, pos, af, gd⟩ = some true) (hd : Nat.blt d N = true) (k : Lex P N ops lf Q rest (S ((d, i64 (a.tdiv b)) :: t) h)) : Lex P N ops lf Q (⟨some d, .binOp .quo tx x y ty', ty, pos, af, gd⟩ :: rest) (S t h) := by
  have e := yield_quo (P := P) (hp := yap h) (ty := ty) (tx := tx) (ty' := ty') hx hy hb
  rw [IntWalk.i64_in _ ⟨hlo, hhi⟩] at e
  exact yca e hw hd k
end
end Go.Proofs.YtmlkdoimkdbdpaaGreatDoor
set_option linter.unusedVariables false
namespace Go.Proofs.YtmlkdoimkdbdpaaGreatDoor
open Go.RowKit

section
variable {P : Program} {T : Nat → Option Ty} {N : Nat} {ops : Array Oper} {lf : Oper → Bool} {Q : SS → Prop} {t : List (Nat × AV)} {h : List (Nat × Option LObj)} {rest : List Oper} {d : Nat} {op : Op} {ty : TypeId} {pos : String} {af : Array Edge} {gd : Option (Nat × Bool)} {r : AV}
end
section
variable {P : Program} {N : Nat} {ops : Array Oper} {lf : Oper → Bool} {Q Q0 : SS → Prop}
def stepOk (ops : Array Oper) (lf : Oper → Bool) (k : Nat) (listed : Array Bool) : Bool :=
  (Region.ready .any ops listed).contains k && (match ops[k]? with
      | none => false
      | some o => (if lf o then Region.ready .any ops listed == [k] else (List.range ops.size).all fun j => j == k || listed.getD j true || waits ops ops.size j k || match ops[j]? with
        | some oj => o.apart ops oj && !lf oj
        | none => true))
def preOk (ops : Array Oper) (lf : Oper → Bool) : List Nat → Array Bool → Bool
  | [], _ => true
  | k :: ks, listed => stepOk ops lf k listed && preOk ops lf ks (listed.setIfInBounds k true)
def listAll : List Nat → Array Bool → Array Bool
  | [], listed => listed
  | k :: ks, listed => listAll ks (listed.setIfInBounds k true)
theorem anyA_pre {l : List Oper} {s : SS} {fuel : Nat} (h : Lex P N ops lf Q0 l s) (hD : ∀ (k : Nat) (o : Oper), ops[k]? = some o → DstOk N o) : ∀ (ks : List Nat) (listed : Array Bool), (∀ j : Nat, l[j]? = (ks[j]?).bind (fun k : Nat => ops[k]?)) → ks.length = l.length → Closed ops listed →
    (Closed ops (listAll ks listed) → ∀ s', Q0 s' → anyA P N ops lf Q fuel (listAll ks listed) s') → preOk ops lf ks listed = true → anyA P N ops lf Q (l.length + fuel) listed s := by
  induction h with
  | @nil s h =>
    intro ks listed hl hlen hcl hend hB
    have : ks = [] := List.eq_nil_of_length_eq_zero (by simpa using hlen)
    subst this
    simpa [listAll] using hend hcl s h
  | @split l s d b hb k ih =>
    intro ks listed hl hlen hcl hend hB
    have := ih b rfl ks listed hl hlen hcl hend hB
    rw [updF_same hb] at this
    exact this
  | @calm o l s r hw hd hy k ih =>
    intro ks listed hl hlen hcl hend hB
    match ks, hlen with
    | k :: ks, hlen =>
      have h0 : ops[k]? = some o := by simpa using (hl 0).symm
      simp only [preOk, stepOk, h0, Bool.and_eq_true] at hB
      obtain ⟨⟨hr, hf⟩, hB'⟩ := hB
      have hr' : k ∈ Region.ready .any ops listed := by simpa using hr
      have hk := ih ks (listed.setIfInBounds k true) (fun j => by have := hl (j + 1); simpa using this) (by simpa using hlen) (hcl.set hr') hend hB'
      rw [List.length_cons, Nat.add_right_comm]
      by_cases hlo : lf o = true
      · simp only [hlo, if_true, beq_iff_eq] at hf
        refine ⟨fun h => (by rw [hf] at h; cases h), fun i hi => ?_⟩
        rw [hf] at hi
        simp only [List.mem_singleton] at hi
        subst hi
        unfold aOp
        simp only [h0]
        exact ⟨hd, .inl ⟨r, .inl ⟨hw, hy⟩, hk⟩⟩
      · simp only [hlo] at hf
        refine anyA_first h0 hd (l.length + fuel) listed s hcl ?_ hr' (.inl ⟨hw, hy⟩) hk
        intro j oj hj hne hun
        simp only [Bool.false_eq_true, if_false, List.all_eq_true, List.mem_range] at hf
        have := hf j (Array.getElem?_eq_some_iff.1 hj).1
        simp only [hj, hun, Bool.or_eq_true, beq_iff_eq, hne, false_or, Bool.false_eq_true, Bool.and_eq_true, Bool.not_eq_true', or_false] at this
        exact this
  | @skip o l s hw hd k ih =>
    intro ks listed hl hlen hcl hend hB
    match ks, hlen with
    | k :: ks, hlen =>
      have h0 : ops[k]? = some o := by simpa using (hl 0).symm
      simp only [preOk, stepOk, h0, Bool.and_eq_true] at hB
      obtain ⟨⟨hr, hf⟩, hB'⟩ := hB
      have hr' : k ∈ Region.ready .any ops listed := by simpa using hr
      have hk := ih ks (listed.setIfInBounds k true) (fun j => by have := hl (j + 1); simpa using this) (by simpa using hlen) (hcl.set hr') hend hB'
      rw [List.length_cons, Nat.add_right_comm]
      by_cases hlo : lf o = true
      · simp only [hlo, if_true, beq_iff_eq] at hf
        refine ⟨fun h => (by rw [hf] at h; cases h), fun i hi => ?_⟩
        rw [hf] at hi
        simp only [List.mem_singleton] at hi
        subst hi
        unfold aOp
        simp only [h0]
        exact ⟨hd, .inl ⟨.v undef, .inr ⟨hw, rfl⟩, hk⟩⟩
      · simp only [hlo] at hf
        refine anyA_first h0 hd (l.length + fuel) listed s hcl ?_ hr' (.inr ⟨hw, rfl⟩) hk
        intro j oj hj hne hun
        simp only [Bool.false_eq_true, if_false, List.all_eq_true, List.mem_range] at hf
        have := hf j (Array.getElem?_eq_some_iff.1 hj).1
        simp only [hj, hun, Bool.or_eq_true, beq_iff_eq, hne, false_or, Bool.false_eq_true, Bool.and_eq_true, Bool.not_eq_true', or_false] at this
        exact this
  | @loud o l s R hlo hw hy k ih =>
    intro ks listed hl hlen hcl hend hB
    match ks, hlen with
    | k :: ks, hlen =>
      have h0 : ops[k]? = some o := by simpa using (hl 0).symm
      simp only [preOk, stepOk, h0, Bool.and_eq_true] at hB
      obtain ⟨⟨hr, hf⟩, hB'⟩ := hB
      have hr' : k ∈ Region.ready .any ops listed := by simpa using hr
      simp only [hlo, if_true, beq_iff_eq] at hf
      rw [List.length_cons, Nat.add_right_comm]
      refine ⟨fun h => (by rw [hf] at h; cases h), fun i hi => ?_⟩
      rw [hf] at hi
      simp only [List.mem_singleton] at hi
      subst hi
      unfold aOp
      simp only [h0]
      exact ⟨hD _ _ h0, .inr ⟨hlo, hw, R, hy, fun s' hs' => ih s' hs' ks (listed.setIfInBounds i true) (fun j => by have := hl (j + 1); simpa using this) (by simpa using hlen) (hcl.set hr') hend hB'⟩⟩
def numOk (ops : Array Oper) : List Nat → List Oper → Prop
  | [], [] => True
  | k :: ks, o :: l => ops[k]? = some o ∧ numOk ops ks l
  | _, _ => False
theorem yek : numOk ops [] [] := trivial
theorem yat {k : Nat} {ks : List Nat} {o : Oper} {l : List Oper} (h : ops[k]? = some o) (hl : numOk ops ks l) : numOk ops (k :: ks) (o :: l) := ⟨h, hl⟩
theorem numOk_get {ks : List Nat} : ∀ {l : List Oper}, numOk ops ks l → ks.length = l.length ∧ ∀ j : Nat, l[j]? = (ks[j]?).bind (fun k : Nat => ops[k]?) := by
  induction ks with
  | nil =>
    intro l h
    cases l with
    | nil => exact ⟨rfl, fun j => by simp⟩
    | cons o l => exact h.elim
  | cons k ks ih =>
    intro l h
    cases l with
    | nil => exact h.elim
    | cons o l =>
      obtain ⟨h1, h2⟩ := ih h.2
      refine ⟨by simp [h1], fun j => ?_⟩
      cases j with
      | zero => simp only [List.getElem?_cons_zero, Option.bind_some, h.1]
      | succ j => simpa using h2 j
def AnyB (P : Program) (N : Nat) (ops : Array Oper) (lf : Oper → Bool) (Q : SS → Prop) (fuel : Nat) (listed : Array Bool) (s : SS) : Prop :=
  (∀ (k : Nat) (o : Oper), ops[k]? = some o → DstOk N o) → Closed ops listed → anyA P N ops lf Q fuel listed s
theorem A_region_any {P : Program} {N : Nat} {Q : Exit → SS → Prop} {s : SS} {lf : Oper → Bool} (hm : P.follows .mixedOrders = true) {id : Nat} {l : List Oper} (hD : dstsOk N l = true) (k : AnyB P N l.toArray lf (Q .normal) l.length (Array.replicate l.length false) s) : A P N (.region id l.toArray true) Q s := by
  intro B ok0 lv ac w hs
  have hDst : ∀ (k : Nat) (o : Oper), l.toArray[k]? = some o → DstOk N o := fun k o ho d hd => by
    simp only [dstsOk, Bool.and_eq_true, List.all_eq_true] at hD
    have := hD.1 o (by have := Array.mem_of_getElem? ho; simpa using this)
    simp only [hd, Nat.blt_eq] at this
    exact this
  have hnd : noDefer l = true := by simp only [dstsOk, Bool.and_eq_true] at hD; exact hD.2
  refine wpIn_region_any hm ?_
  have key := k hDst (fun k o hk => by
    simp only [Array.getD_eq_getD_getElem?, Array.getElem?_replicate] at hk
    split at hk <;> simp at hk)
  have := anyA_sound (n := 0) (noDefer_get hnd) (Q' := fun e a' w' => ∃ s' lv', Q e s' ∧ Sim B ok0 N s' lv' a' w') (fun s lv a w hq hs => ⟨s, lv, hq, hs⟩) l.length _ s lv ac _ (hs.drew (w' := { w with drawn := w.drawn + 1 }) ⟨rfl, rfl, rfl, Nat.le_refl _, fun _ _ => rfl⟩) key
  simpa using this
theorem any_pre (ks : List Nat) (fuel : Nat) {n : Nat} {listed : Array Bool} {l : List Oper} {s : SS} (hn : numOk ops ks l) (hf : n = l.length + fuel) (hB : preOk ops lf ks listed = true) (k : Lex P N ops lf (AnyB P N ops lf Q fuel (listAll ks listed)) l s) : AnyB P N ops lf Q n listed s := by
  intro hD hcl
  subst hf
  obtain ⟨p1, p2⟩ := numOk_get hn
  exact anyA_pre k hD ks listed p2 p1 hcl (fun hc s' h => h hD hc) hB
theorem any_rest (ks : List Nat) {n : Nat} {listed : Array Bool} {l : List Oper} {s : SS} (hn : numOk ops ks l) (hf : n = l.length) (hB : ordOk ops lf ks listed = true) (k : Lex P N ops lf Q l s) : AnyB P N ops lf Q n listed s := by
  intro hD hcl
  subst hf
  obtain ⟨p1, p2⟩ := numOk_get hn
  exact anyA_lex k hD ks listed p2 p1 hcl hB
def forkAll (P : Program) (N : Nat) (ops : Array Oper) (lf : Oper → Bool) (Q : SS → Prop) (fuel : Nat) (listed : Array Bool) (s : SS) : List Nat → Prop
  | [] => True
  | k :: ks => (∃ o, ops[k]? = some o ∧ Lex P N ops lf (AnyB P N ops lf Q fuel (listed.setIfInBounds k true)) [o] s) ∧ forkAll P N ops lf Q fuel listed s ks
theorem forkAll_get {fuel : Nat} {listed : Array Bool} {s : SS} : ∀ {ks : List Nat}, forkAll P N ops lf Q fuel listed s ks → ∀ k ∈ ks, ∃ o, ops[k]? = some o ∧ Lex P N ops lf (AnyB P N ops lf Q fuel (listed.setIfInBounds k true)) [o] s
  | [], _, k, h => by cases h
  | x :: ks, hh, k, h => by
    rcases List.mem_cons.1 h with rfl | h
    · exact hh.1
    · exact forkAll_get hh.2 k h
theorem aOp_one {l : List Oper} {s : SS} {Q0 : SS → Prop} (h : Lex P N ops lf Q0 l s) (hD : ∀ (k : Nat) (o : Oper), ops[k]? = some o → DstOk N o) : ∀ (o : Oper), l = [o] → ∀ (k : Nat), ops[k]? = some o → aOp P N ops lf k Q0 s := by
  have nilQ : ∀ {s : SS}, Lex P N ops lf Q0 [] s → Q0 s := by
    intro s h
    generalize hl : ([] : List Oper) = l at h
    induction h with
    | nil h => exact h
    | calm => cases hl
    | skip => cases hl
    | loud => cases hl
    | @split l s d b hb k ih =>
      have := ih b rfl hl
      rw [updF_same hb] at this
      exact this
  induction h with
  | nil h => intro o hl; cases hl
  | @split l s d b hb k ih =>
    intro o hl k h0
    have := ih b rfl o hl k h0
    rw [updF_same hb] at this
    exact this
  | @calm o l s r hw hd hy k ih =>
    intro o' hl k' h0
    cases hl
    unfold aOp
    simp only [h0]
    exact ⟨hd, .inl ⟨r, .inl ⟨hw, hy⟩, nilQ k⟩⟩
  | @skip o l s hw hd k ih =>
    intro o' hl k' h0
    cases hl
    unfold aOp
    simp only [h0]
    exact ⟨hd, .inl ⟨.v undef, .inr ⟨hw, rfl⟩, nilQ k⟩⟩
  | @loud o l s R hlo hw hy k ih =>
    intro o' hl k' h0
    cases hl
    unfold aOp
    simp only [h0]
    exact ⟨hD _ _ h0, .inr ⟨hlo, hw, R, hy, fun s' hs' => nilQ (k s' hs')⟩⟩
theorem any_fork (ks : List Nat) (fuel : Nat) {n : Nat} {listed : Array Bool} {s : SS} (hf : n = fuel + 1) (hr : Region.ready .any ops listed = ks) (hne : ks ≠ []) (k : forkAll P N ops lf Q fuel listed s ks) : AnyB P N ops lf Q n listed s := by
  intro hD hcl
  subst hf
  refine ⟨fun h => absurd (hr.symm.trans h) hne, fun i hi => ?_⟩
  obtain ⟨o, ho, hL⟩ := forkAll_get k i (hr ▸ hi)
  exact aOp_mono (fun s' h => h hD (hcl.set hi)) (aOp_one hL hD o rfl i ho)
def Mid (t0 : List (Nat × AV)) (h0 : List (Nat × Option LObj)) (e : Exit) (s : SS) : Prop := e = .normal ∧ Sub (S t0 h0) s
theorem rows_len {α : Type} {f : α → List AV} {k : Nat} (hf : ∀ x, (f x).length = k) : ∀ l : List α, (l.map f).flatten.length = l.length * k
  | [] => by simp
  | x :: l => by simp [hf x, Nat.succ_mul, Nat.add_comm, ← rows_len hf l]
end
end Go.Proofs.YtmlkdoimkdbdpaaGreatDoor
set_option linter.unusedVariables false
namespace Go.Proofs.YtmlkdoimkdbdpaaGreatDoor
open Go.RowKit
section
variable {P : Program} {T : Nat → Option Ty} {N : Nat} {ops : Array Oper} {lf : Oper → Bool} {Q : SS → Prop} {t : List (Nat × AV)} {h : List (Nat × Option LObj)} {rest : List Oper} {d : Nat} {op : Op} {ty : TypeId} {pos : String} {af : Array Edge} {gd : Option (Nat × Bool)} {r : AV}
theorem L_u8 (hT : TOK P T) {z : Int} (hr : stepC T t h op ty = some (.v (.int .u8 (IntKind.u8.wrap z)))) (h0 : 0 ≤ z ∧ z ≤ 255) (hw : yax ops (look t) ⟨some d, op, ty, pos, af, gd⟩ = some true) (hd : Nat.blt d N = true) (k : Lex P N ops lf Q rest (S ((d, .v (.int .u8 z)) :: t) h)) :
    Lex P N ops lf Q (⟨some d, op, ty, pos, af, gd⟩ :: rest) (S t h) := by
  refine L_calm hT hr hw hd ?_
  have e : IntKind.u8.wrap z = z := by
    show z % 256 = z
    omega
  rw [e]
  exact k
end
def resOneT (T : Nat → Option Ty) (s : SS) : ResultVar → Option AV
  | .tmp t => evF s.t (.tmp t)
  | .cell b t => match T t with
    | some y => match evF s.t (.tmp b) with
      | some (.lp id off) => match cellsL (s.h id) with
        | some xs => getA y.agg y.size (xs.drop off)
        | none => none
      | _ => none
    | none => none
def resLT (T : Nat → Option Ty) (s : SS) : List ResultVar → Option (List AV)
  | [] => some []
  | r :: rs => match resOneT T s r, resLT T s rs with
    | some x, some xs => some (x :: xs)
    | _, _ => none
def resAT (T : Nat → Option Ty) (s : SS) (rs : List ResultVar) : Option AV :=
  match resLT T s rs with
  | some [x] => some x
  | some xs => some (.tup xs)
  | none => none
theorem resOneT_run {P : Program} {T : Nat → Option Ty} (hT : TOK P T) {B : Bse} {ok0 : Nat → Prop} {N : Nat} {s : SS} {lv : Live} {a : Act} {w : World} (hs : Sim B ok0 N s lv a w) {r : ResultVar} {x : AV} (h : resOneT T s r = some x) : ∃ u, Rel (ybo B ok0 lv w) w lv x u ∧ (resF a.tmps r).run P w = .ok u w := by
  cases r with
  | tmp t => exact ⟨_, hs.eval (x := .tmp t) h, by simp [resF, Act.eval]⟩
  | cell b t =>
    simp only [resOneT] at h
    split at h
    · rename_i y hy
      split at h
      · rename_i id off hb
        split at h
        · rename_i xs hx
          obtain ⟨g1, g2⟩ := ydd hx
          obtain ⟨b', n, k1, k2, k3⟩ := ycp hs.inv g1 g2 (hs.eval (x := .tmp b) hb)
          have k4 := k3.drop off
          rw [Nat.zero_add] at k4
          obtain ⟨u, k5, k6⟩ := load_run (hT _ _ hy).1 k4 h
          have k2' : a.tmps.getD b undef = .pointer (some ⟨b', off, none⟩) := k2
          exact ⟨u, k6, by simp [resF, k2', asAddr, k5]⟩
        · cases h
      · cases h
    · cases h
theorem resLT_run {P : Program} {T : Nat → Option Ty} (hT : TOK P T) {B : Bse} {ok0 : Nat → Prop} {N : Nat} {s : SS} {lv : Live} {a : Act} {w : World} (hs : Sim B ok0 N s lv a w) : ∀ (rs : List ResultVar) (xs : List AV), resLT T s rs = some xs →
    ∃ us : List Value, ybt (ybo B ok0 lv w) w lv xs us ∧ (rs.mapM (resF a.tmps)).run P w = .ok us w
  | [], xs, h => by simp only [resLT, Option.some.injEq] at h; subst h; exact ⟨[], ⟨rfl, fun i x u h => by simp at h⟩, by simp⟩
  | r :: rs, xs, h => by
    simp only [resLT] at h
    split at h
    · rename_i x xs' h1 h2
      simp only [Option.some.injEq] at h
      subst h
      obtain ⟨us, hus, hrun⟩ := resLT_run hT hs rs xs' h2
      obtain ⟨u, hu, hrun1⟩ := resOneT_run hT hs h1
      refine ⟨u :: us, ⟨by simp [hus.1], fun i y v hy hv => ?_⟩, ?_⟩
      · cases i with
        | zero => simp only [List.getElem?_cons_zero, Option.some.injEq] at hy hv; subst hy hv; exact hu
        | succ i => exact hus.2 i y v (by simpa using hy) (by simpa using hv)
      · simp only [List.mapM_cons, Sem.run_bind, hrun1, Sem.run_pure, Result.andThen_ok, hrun]
    · cases h
theorem resAT_run {P : Program} {T : Nat → Option Ty} (hT : TOK P T) {B : Bse} {ok0 : Nat → Prop} {N : Nat} {s : SS} {lv : Live} {a : Act} {w : World} (hs : Sim B ok0 N s lv a w) {fn : Func} {rs : List ResultVar} (hr : fn.results = rs.toArray) {x : AV} (h : resAT T s rs = some x) :
    ∃ u, Rel (ybo B ok0 lv w) w lv x u ∧ (results fn a.tmps).run P w = .ok u w := by
  unfold resAT at h
  have key : ∀ xs, resLT T s rs = some xs → ∃ us : List Value, ybt (ybo B ok0 lv w) w lv xs us ∧ (results fn a.tmps).run P w = .ok (if h : us.toArray.size = 1 then us.toArray[0] else .tuple us.toArray) w := by
    intro xs hx
    obtain ⟨us, h1, h2⟩ := resLT_run hT hs rs xs hx
    refine ⟨us, h1, ?_⟩
    have e : results fn a.tmps = (fn.results.mapM (resF a.tmps) >>= fun vs => pure (if h : vs.size = 1 then vs[0] else .tuple vs)) := rfl
    have e2 : (List.toArray <$> rs.mapM (resF a.tmps)) = (rs.mapM (resF a.tmps) >>= fun l => pure l.toArray) := rfl
    rw [e, hr, List.mapM_toArray, e2]
    simp only [Sem.run_bind, h2, Result.andThen_ok, Sem.run_pure]
  split at h
  · rename_i y hy
    simp only [Option.some.injEq] at h
    subst h
    obtain ⟨us, h1, h2⟩ := key _ hy
    match us, h1 with
    | [u], h1 => exact ⟨u, h1.2 0 _ _ rfl rfl, by simpa using h2⟩
  · rename_i xs hne hy
    simp only [Option.some.injEq] at h
    subst h
    obtain ⟨us, h1, h2⟩ := key _ hy
    refine ⟨.tuple us.toArray, .tup us h1.1 h1.2, ?_⟩
    rw [h2, dif_neg]
    intro h
    have hl := h1.1
    simp only [List.size_toArray] at h
    rw [h] at hl
    match xs, hl with
    | [x], _ => exact hne x rfl
  · cases h
def EndsT (T : Nat → Option Ty) (rs : List ResultVar) (y : AV) : Exit → SS → Prop
  | .normal, s => ∃ x, resAT T s rs = some x ∧ Frz s.h x y
  | .ret, s => ∃ x, resAT T s rs = some x ∧ Frz s.h x y
  | _, _ => False
theorem con_ofT {P : Program} {T : Nat → Option Ty} (hT : TOK P T) {f : FuncId} {fn : Func} {c : Code} {N : Nat} {rs : List ResultVar} {args : List AV} {r : AV} (hf : P.funcs[f]? = some fn) (hn : (fn.name == "runtime.NumGoroutine") = false) (hb : fn.body = some c) (hN : fn.ntmps = N) (hrs : fn.results = rs.toArray) (hlen : (Nat.ble args.length N && Nat.ble N 1000000) = true) (hp : ybl r = true)
    (h : A P N c (EndsT T rs r) (S (enumF 0 args) [])) : Con P f args r := by
  refine ⟨⟨fn, hf, hn, by simp [hb]⟩, hp, fun ok0 w us hG hok hus => ?_⟩
  simp only [Bool.and_eq_true, Nat.ble_eq] at hlen
  obtain ⟨hlen', hbig⟩ := hlen
  refine (callsIn_wide (n := 0)).1 (callsIn_of_wp_marks hf hb trivial ?_)
  have hst : S (enumF 0 args) [] = ⟨argsF args, fun _ => none⟩ := by unfold S; rw [enumF_args]; rfl
  have hs : Sim (bse0 w) ok0 N (S (enumF 0 args) []) (fun _ => none) { tmps := us.toArray ++ Array.replicate (fn.ntmps - us.toArray.size) undef, defers := [] } w := by
    rw [hst]
    refine ⟨⟨Based.start hG, hok, fun _ _ => rfl, (fun i j b n m h => by cases h), (fun id x hx => by cases hx)⟩, ?_, fun x y hy => ?_, ⟨[], rfl, List.nodup_nil, fun d hd => by cases hd⟩, hbig, fun id b xs _ hx => by cases hx⟩
    · simp [hN, hus.1]; omega
    · have hlt := (List.getElem?_eq_some_iff.1 hy).1
      refine ⟨.inl (by omega), ?_⟩
      rw [yfo, if_pos (by omega)]
      obtain ⟨u, hu⟩ : ∃ u, us[x]? = some u := ⟨_, List.getElem?_eq_getElem (by rw [hus.1]; exact hlt)⟩
      simp only [getD_args us _ x u hu]
      exact (hus.2 x y u hy hu).keep fun g hg => ⟨⟨.inl hg, hok g hg, fun id b n hb => by cases hb⟩, rfl⟩
  refine wpIn_mono (h _ ok0 _ _ w hs) fun e a' w' ⟨s', lv', hq, hs'⟩ => ?_
  have fin : ∀ x, resAT T s' rs = some x → Frz s'.h x r → ∀ (a' : Act) (w' : World), Sim (bse0 w) ok0 N s' lv' a' w' → ∃ v, (results fn a'.tmps).run P w' = .ok v w' ∧ ∃ u, Ending.returned v = .returned u ∧ Rel (fun g => (ok0 g ∨ w.heap.size ≤ g) ∧ g < w'.heap.size) w' (fun _ => none) r u ∧ Below w.heap.size w w' := by
    intro x hx hfz a' w' hs'
    obtain ⟨u, hu, hrun⟩ := resAT_run hT hs' hrs hx
    exact ⟨u, hrun, u, rfl, (hfz _ _ _ _ _ hs'.inv hu).keep (fun g hg => ⟨⟨hg.1.imp (fun h => h) (fun h => h.elim (fun h => h.elim) (fun h => h)), hg.2⟩, rfl⟩), hs'.inv.base.below⟩
  cases e with
  | normal => obtain ⟨x, hx, hfz⟩ := hq; exact leaves_marks rfl rfl (fin x hx hfz) _ a' w' rfl hs'
  | ret => obtain ⟨x, hx, hfz⟩ := hq; exact leaves_marks rfl rfl (fin x hx hfz) _ a' w' rfl hs'
  | _ => exact hq.elim
end Go.Proofs.YtmlkdoimkdbdpaaGreatDoor
set_option linter.unusedVariables false
namespace Go.Proofs.YtmlkdoimkdbdpaaGreatDoor
open Go.RowKit
section
variable {P : Program} {T : Nat → Option Ty} {N : Nat} {ops : Array Oper} {lf : Oper → Bool} {Q : SS → Prop} {t : List (Nat × AV)} {h : List (Nat × Option LObj)} {rest : List Oper} {d : Nat} {op : Op} {ty : TypeId} {pos : String} {af : Array Edge} {gd : Option (Nat × Bool)} {r : AV}
theorem yield_b2s {ρ : Operand → Option AV} {hp : Nat → Option LObj} {src dst e : TypeId} {x : Operand} {n : Int} (hs : P.underlying src = some (.slice e)) (he : P.underlying e = some (.int .u8)) (hd : P.underlying dst = some .string) (hx : ρ x = some (.sl 1 [[.v (.int .u8 n)]])) :
    ycl P hp ρ (.convert src dst x) ty (.v (.string (strOfNums [n]))) :=
  yav fun B ok0 lv w a o ho hty hi' hops => by
    have hr := hops x _ (by simp [Op.operands]) hx
    generalize hv : a.eval x = v at hr
    cases hr with
    | sl ad cap u g q hn hc ha hsz hg hcell hrel =>
      obtain ⟨rfl, hok⟩ := hg (by simp)
      have h1 := (hcell 0 0 _ _ rfl rfl).1
      have h2 := ydy (hrel 0 0 _ _ rfl rfl)
      rw [h2] at h1
      have hrun := run_convert_bytes_arg w src e hs he g q 1 cap [n] rfl (fun i hi => by
        obtain rfl : i = 0 := by omega
        simpa using h1) dst hd
      have hv' : a.eval x = .slice (some ⟨g, q, none⟩) 1 cap := hv
      exact ⟨_, by simp [execOp, ho, hv', hrun], .v _⟩
theorem L_b2s (hT : TOK P T) {src dst e es eb s1 s2 s3 : Nat} {ea a1 a2 a3 : Bool} {ez z1 z2 z3 : List Value} {x : Operand} {n : Int} (hs : T src = some ⟨.slc e es ea eb ez, s1, a1, z1⟩) (he : T e = some ⟨.int .u8, s2, a2, z2⟩) (hd' : T dst = some ⟨.string, s3, a3, z3⟩)
    (hx : evF (look t) x = some (.sl 1 [[.v (.int .u8 n)]])) (hw : yax ops (look t) ⟨some d, .convert src dst x, ty, pos, af, gd⟩ = some true) (hd : Nat.blt d N = true) (k : Lex P N ops lf Q rest (S ((d, .v (.string (strOfNums [n]))) :: t) h)) : Lex P N ops lf Q (⟨some d, .convert src dst x, ty, pos, af, gd⟩ :: rest) (S t h) :=
  yca (yield_b2s (hT _ _ hs).2.2.1 (hT _ _ he).2.2 (hT _ _ hd').2.2 hx) hw hd k
end
end Go.Proofs.YtmlkdoimkdbdpaaGreatDoor
