/- Part 12 of the texts under ExprParses,ExprIsStable,ExprReadsBack,ExprIgnoresBrackets,ExprFormats,ExprBracketsEverything: joined, with what it needs alone. -/
import Derived.Below
import Derived.WalkSmall
import Derived.Deep.Slices
import Derived.ChangeArms
import Derived.OpenShut
import Derived.WideShapes
import Derived.Test.YtcpgpiabeimefaaGreatDoorRows
import Derived.WalkKit
import Derived.WalkSpells
import Derived.WalkLawsBesides
import Derived.Lib.Hide
import Derived.Test.YtcpgpiabeimefaaGreatDoorP4
import Derived.Test.YtcpgpiabeimefaaGreatDoorP5
import Derived.Test.YtcpgpiabeimefaaGreatDoorP10
import Derived.Test.YtcpgpiabeimefaaGreatDoorP11
set_option linter.unusedVariables false
set_option maxHeartbeats 4000000
namespace Go.Proofs.YtcpgpiabeimefaaGreatDoor
open Go.RowKit
theorem box_to_dp {h : Nat → Option LObj} {id off : Nat} {xs : List AV} {B : Bse} {ok0 : Nat → Prop} {lv : Live} {w : World} {u : Value} (hi : Inv B ok0 h lv w) (hx : h id = some (.cells xs)) (hr : Rel (ybt B ok0 lv w) w lv (.lp id off) u) (hp : ybv.pureL xs = true) (ok' : Nat → Prop) (hk1 : ∀ g, ybt B ok0 lv w g → ok' g) (hk2 : ∀ b n, lv id = some (some b, n) → ok' b) : Rel ok' w (fun _ => none) (.dp xs off) u := by
  obtain ⟨b, n, h1, rfl, h2⟩ := ydb hi (by rw [hx]; rfl) (.inr hx) hr
  have := Rel.dp (ok := ok') (w := w) (lv := fun _ => none) (row := xs) (off := off) b 0 (fun j => (w.cell? ⟨b, 0 + j, none⟩).getD undef) (hk2 b n h1) (fun j c hc => ?_) (fun j c hc => ?_)
  · rwa [Nat.zero_add] at this
  · obtain ⟨q1, v, q2, _⟩ := h2 j c hc
    exact ⟨by rw [q2]; rfl, q1⟩
  · obtain ⟨_, v, q2, q3⟩ := h2 j c hc
    rw [q2]
    exact (q3.relive fun id b n hb _ => by cases hb).keep fun g hg => ⟨hk1 g hg, rfl⟩
theorem Frz.box {h : Nat → Option LObj} {id off : Nat} {xs : List AV} (hx : h id = some (.cells xs)) (hp : ybv.pureL xs = true) : Frz h (.lp id off) (.dp xs off) :=
  fun B ok0 lv w u hi hr => box_to_dp hi hx hr hp _ (fun g hg => ⟨hg.1, hg.2.1⟩) fun b n hb => by obtain ⟨_, _, h1, h2, _⟩ := hi.lvat hb; exact ⟨.inr h1, h2⟩
theorem Frz.fn {h : Nat → Option LObj} {f : Nat} {xs ys : List AV} (hl : xs.length = ys.length) (hf : ∀ (i : Nat) (x y : AV), xs[i]? = some x → ys[i]? = some y → Frz h x y) : Frz h (.fn f xs) (.fn f ys) := by
  intro B ok0 lv w u hi hr
  cases hr with
  | fn vs hvl hrr =>
    refine .fn vs (hvl.trans hl) fun i c v hc hv => ?_
    obtain ⟨x, hx⟩ : ∃ x, xs[i]? = some x := ⟨_, List.getElem?_eq_getElem (by have := (List.getElem?_eq_some_iff.1 hc).1; omega)⟩
    exact hf i x c hx hc B ok0 lv w v hi (hrr i x v hx hv)
variable {P : Program} {N : Nat} {t : List (Nat × AV)} {h : List (Nat × Option LObj)}
end Go.Proofs.YtcpgpiabeimefaaGreatDoor
set_option linter.unusedVariables false
set_option maxHeartbeats 4000000
namespace Go.Proofs.YtcpgpiabeimefaaGreatDoor
open Go.RowKit
theorem isC_matO (xs : List AV) : isC (matO xs) = false := by cases xs <;> rfl
theorem objAt_matO {ok : Nat → Prop} {lv : Live} {w : World} {b n : Nat} {xs : List AV} : ObjAt ok lv w b n (matO xs) ↔ BlkAt ok lv w b n xs := by
  cases xs with
  | nil => exact ⟨fun h => h.1, fun h => ⟨h, fun x hx => by cases hx⟩⟩
  | cons x xs => exact Iff.rfl
variable {P : Program} {T : Nat → Option Ty} {N : Nat} {ops : Array Oper} {lf : Oper → Bool} {Q : SS → Prop} {t : List (Nat × AV)} {h : List (Nat × Option LObj)} {rest : List Oper} {d : Nat} {op : Op} {ty : TypeId} {pos : String} {af : Array Edge} {gd : Option (Nat × Bool)} {r : AV}
theorem buildM_loud (hT : TOK P T) {o : Oper} {ti e es eb sz len : Nat} {ea ag : Bool} {ez z : List Value} {parts : List (Nat × Operand)} {ps : List (Nat × AV)} {ys : List AV} {s : SS} (id : Nat) (ho : o.op = .buildSlice ti len parts.toArray) (hd : o.dst = some d) (hdN : d < N) (hk : T ti = some ⟨.slc e es ea eb ez, sz, ag, z⟩) (hone : ez.all Value.oneCell' = true)
    (hps : evP (evF s.t) parts = some ps) (hf : fillA (fun i => some (i * es, es)) (repA len (vMap ez)) ps = some ys) (hlen : ys.length = len * es) (hlim : Nat.ble (len * es) 16777216 = true) (hfr : Fresh s id) (hm : ment.mentL id ys = false) :
    LoudAt P N o s (· = ⟨updF s.t (some d) (.ls id es len), yed s.h id (some (matO ys))⟩) := by
  intro B ok0 lv a w hs Q
  obtain ⟨h1, h2⟩ := evP_rel (ok := ybt B ok0 lv w) (w := w) (lv := lv) (a := a) hps fun x y hx hxy => hs.eval hxy
  obtain ⟨hu, hsz, _, hz, hzl, hpos⟩ := (hT _ _ hk).2.2
  obtain ⟨zv, hz1, hz2⟩ := hz.run (w := w)
  obtain ⟨out, g1, g2, g3⟩ := fill_rel (place' := fun i => some (i * es, es)) (fun i p h => h) hf (repA_rel (z := ez) len (by omega)) (repA_cell (vMap_cell hone) len) h1 h2
  have hlim' : len * es ≤ 16777216 := by simpa using hlim
  have hle : len ≤ len * es := Nat.le_mul_of_pos_right _ hpos
  have hrun : (execOp a.eval o).run P w = .ok (.value (.slice (some ⟨w.heap.size, 0, none⟩) len len)) (w.alloc (.cells out.toArray e)) := by
    have e' : Instr.fill (fun i => some (i * es, es)) (madeCells ez.toArray (len * es)) (parts.toArray.map fun x => (x.1, a.eval x.2)).toList = some out.toArray := by
      have : (madeCells ez.toArray (len * ez.length)).toList.toArray = madeCells ez.toArray (len * es) := by rw [hzl]
      rw [← this]
      have e : (parts.toArray.map fun x => (x.1, a.eval x.2)).toList = parts.map fun x => (x.1, a.eval x.2) := by simp
      rw [e]; exact g1
    unfold madeCells at e'
    have n1 : ¬ (len * es > 2 ^ 24) := by omega
    by_cases h0 : len * es = 0
    · have hl0 : len = 0 := by omega
      subst hl0
      simp only [Nat.zero_mul, Array.range_zero', Array.map_empty] at e'
      simp [execOp, ho, Instr.buildSlice, run_underlying hu, (hsz.run (w := w)).1, newRow, Array.range_zero']
      simp at e'
      rw [e']
      simp
    · simp only [execOp, ho, Instr.buildSlice, Sem.run_bind, run_underlying hu, (hsz.run (w := w)).1, Result.andThen_ok, if_neg n1, if_neg h0, hz1, hz2, Sem.run_pure, e', newRow]
      simp
  unfold Oper.wp
  rw [hrun]
  simp only [Oper.upon, hd]
  have hnew := hs.newBlock (ob := matO ys) (n := len * es) hfr (w' := w.alloc (.cells out.toArray e)) (yer w _) (by simp) (by rw [mentO_matO]; exact hm) (fun h => by rw [isC_matO] at h; cases h)
    (fun ok' lv' k1 k2 => objAt_matO.2 (blk_new (e := e) (extra := []) (by rw [g2.1, hlen]; simp) (by rw [List.append_nil]; exact heap_alloc_eq w _) g2 g3 ok' lv' k1 fun i b mm hb hmm => k2 i b mm hb (by rw [mentO_matO]; exact hmm)))
  refine ⟨_, _, rfl, hnew.putOnly hdN (.ls _ rfl fun b n' hb => ?_)⟩
  simp only [setLv, if_true, Option.some.injEq, Prod.mk.injEq] at hb
  obtain ⟨rfl, rfl⟩ := hb
  exact ⟨len, rfl, Nat.le_refl _, by unfold maxLen; omega, rfl⟩
theorem L_buildM (hT : TOK P T) {ti e es eb sz len : Nat} {ea ag : Bool} {ez z : List Value} {parts : List (Nat × Operand)} {ps : List (Nat × AV)} {ys : List AV} (id : Nat) (hk : T ti = some ⟨.slc e es ea eb ez, sz, ag, z⟩) (hone : ez.all Value.oneCell' = true)
    (hps : evP (evF (ybk t)) parts = some ps) (hf : fillA (fun i => some (i * es, es)) (repA len (vMap ez)) ps = some ys) (hlen : ys.length = len * es) (hlim : Nat.ble (len * es) 16777216 = true) (hfr : Fresh (S t h) id) (hm : ment.mentL id ys = false)
    (hl : lf ⟨some d, .buildSlice ti len parts.toArray, ty, pos, af, gd⟩ = true) (hw : ybh ops (ybk t) ⟨some d, .buildSlice ti len parts.toArray, ty, pos, af, gd⟩ = some true) (hd : Nat.blt d N = true) (k : Lex P N ops lf Q rest (S ((d, .ls id es len) :: t) ((id, some (matO ys)) :: h))) :
    Lex P N ops lf Q (⟨some d, .buildSlice ti len parts.toArray, ty, pos, af, gd⟩ :: rest) (S t h) := by
  refine L_loud hl hw ?_ k
  have := buildM_loud (N := N) (s := S t h) (P := P) hT (o := ⟨some d, .buildSlice ti len parts.toArray, ty, pos, af, gd⟩) id rfl rfl (by simpa using hd) hk hone hps hf hlen hlim hfr hm
  rwa [show (⟨updF (S t h).t (some d) (.ls id es len), yed (S t h).h id (some (matO ys))⟩ : SS) = S ((d, .ls id es len) :: t) ((id, some (matO ys)) :: h) from S_upd] at this
def subTM (id : Nat) (t : List (Nat × AV)) : List (Nat × AV) → Prop
  | [] => True
  | (x, y) :: t' => (ybk t x = some y ∧ ment id y = false) ∧ subTM id t t'
theorem subTM_nil {id : Nat} {t : List (Nat × AV)} : subTM id t [] := trivial
theorem subTM_cons {id : Nat} {t : List (Nat × AV)} {x : Nat} {y : AV} {t' : List (Nat × AV)} (h1 : ybk t x = some y) (h2 : ment id y = false) (h : subTM id t t') : subTM id t ((x, y) :: t') := ⟨⟨h1, h2⟩, h⟩
theorem subTM_look {id : Nat} {t : List (Nat × AV)} : ∀ {t' : List (Nat × AV)}, subTM id t t' → ∀ x y, ybk t' x = some y → ybk t x = some y ∧ ment id y = false
  | [], _, x, y, h => by simp [ybk] at h
  | (s, z) :: t', hs, x, y, h => by
    simp only [ybk] at h
    split at h
    · rename_i e
      have e : x = s := by simpa using e
      subst e
      simp only [Option.some.injEq] at h
      subst h
      exact hs.1
    · exact subTM_look hs.2 x y h
theorem L_appendV (hT : TOK P T) {ti e es eb sz : Nat} {ea ag : Bool} {ez z : List Value} {x y : Operand} {id len : Nat} {xs : List AV} {rows : List (List AV)} {t' : List (Nat × AV)} {h0 : List (Nat × Option LObj)} (hk : T ti = some ⟨.slc e es ea eb ez, sz, ag, z⟩) (hx : evF (ybk t) x = some (.ls id es len)) (hxl : xs.length = len * es) (hy : evF (ybk t) y = some (.sl es rows))
    (hcp : ∀ c ∈ rows.flatten, ybv c = true) (hlim : len + rows.length ≤ 4294967296 ∧ (len + rows.length) * eb ≤ 140737488355328) (ht : subTM id t t') (h2 : yev id h0 = true) (hl : lf ⟨some d, .call { callee := .builtin .append, args := #[x, y], argTypes := #[ti, ti] }, ty, pos, af, gd⟩ = true)
    (hw : ybh ops (ybk t) ⟨some d, .call { callee := .builtin .append, args := #[x, y], argTypes := #[ti, ti] }, ty, pos, af, gd⟩ = some true) (hd : Nat.blt d N = true) (k : Lex P N ops lf Q rest (S ((d, .ls id es (len + rows.length)) :: t') ((id, some (.vec (xs ++ rows.flatten))) :: h0))) :
    Lex P N ops lf Q (⟨some d, .call { callee := .builtin .append, args := #[x, y], argTypes := #[ti, ti] }, ty, pos, af, gd⟩ :: rest) (S t ((id, some (.vec xs)) :: h0)) := by
  have e : S ((d, .ls id es (len + rows.length)) :: t') ((id, some (.vec (xs ++ rows.flatten))) :: h0) = (⟨updF (S t' ((id, some (.vec (xs ++ rows.flatten))) :: h0)).t (some d) (.ls id es (len + rows.length)), (S t' ((id, some (.vec (xs ++ rows.flatten))) :: h0)).h⟩ : SS) := by
    unfold S; rw [look_cons]
  refine L_loud hl hw ?_ k
  rw [e]
  refine append_loud hT rfl rfl (by simpa using hd) hk hx (by simp [S, yaq]) hxl hy (fun ok w lv u hr => src_sl hr) hcp hlim (fun x y h => .inr (subTM_look ht x y h)) (fun x y h => ⟨y, (subTM_look ht x y h).1⟩) (fun j ob' hj hob => ?_) ?_
  · simp only [S] at hob ⊢
    rw [hlook_ne hj] at hob ⊢
    exact ⟨(freshH_look h2).2 j ob' hob, ob', hob, .inl rfl⟩
  · simp [S, yaq]
theorem L_lenI (hT : TOK P T) {ti e es eb sz : Nat} {ea ag : Bool} {ez z0 : List Value} {x : Operand} {id z len : Nat} {ob : LObj} (hk : T ti = some ⟨.slc e es ea eb ez, sz, ag, z0⟩) (hx : evF (ybk t) x = some (.ls id z len)) (hh : yaq h id = some ob)
    (hw : ybh ops (ybk t) ⟨some d, .call { callee := .builtin .len, args := #[x], argTypes := #[ti] }, ty, pos, af, gd⟩ = some true) (hd : Nat.blt d N = true) (k : Lex P N ops lf Q rest (S ((d, .v (.int .i64 len)) :: t) h)) : Lex P N ops lf Q (⟨some d, .call { callee := .builtin .len, args := #[x], argTypes := #[ti] }, ty, pos, af, gd⟩ :: rest) (S t h) :=
  yaw (yield_len_ls (hT _ _ hk).2.2 hx hh) hw hd k
end Go.Proofs.YtcpgpiabeimefaaGreatDoor
set_option linter.unusedVariables false
namespace Go.Proofs.YtcpgpiabeimefaaGreatDoor
open Go.RowKit
def okW (w : World) (g : Nat) : Prop := g < w.heap.size
theorem relAll1 {ok : Nat → Prop} {w : World} {lv : Live} {a : AV} {cs : List Value} (h : ycg ok w lv [a] cs) : ∃ u, cs = [u] ∧ Rel ok w lv a u := by
  match cs, h with
  | [u], h => exact ⟨u, rfl, h.2 0 _ _ rfl rfl⟩
theorem relAll2 {ok : Nat → Prop} {w : World} {lv : Live} {a b : AV} {cs : List Value} (h : ycg ok w lv [a, b] cs) : ∃ u v, cs = [u, v] ∧ Rel ok w lv a u ∧ Rel ok w lv b v := by
  match cs, h with
  | [u, v], h => exact ⟨u, v, rfl, h.2 0 _ _ rfl rfl, h.2 1 _ _ rfl rfl⟩
theorem yep {P : Program} {f : FuncId} {args : List AV} {x : Value} (hb : HasBody P f) (h : ∀ (w : World) (us : List Value) (ok : Nat → Prop), (∀ g, ok g → g < w.heap.size) → ycg ok w (fun _ => none) args us → Calls P f us.toArray w fun e w' => e = .returned x ∧ Below w.heap.size w w') : Con P f args (.v x) :=
  ⟨hb, rfl, fun ok0 w us _ hok hr => (h w us ok0 hok hr).mono fun e w' ⟨h1, h2⟩ => ⟨x, h1, .v x, h2⟩⟩
end Go.Proofs.YtcpgpiabeimefaaGreatDoor
namespace Go.Proofs.YtcpgpiabeimefaaGreatDoor
open Go.RowKit

theorem bcell {W w1 : World} (hb : Below W.heap.size W w1) : (∀ b o, b < W.heap.size → w1.cell? ⟨b, o, none⟩ = W.cell? ⟨b, o, none⟩) ∧ (∀ b o, b < W.heap.size → w1.frozen? ⟨b, o, none⟩ = W.frozen? ⟨b, o, none⟩) :=
  ⟨fun b o h => hb.cell (p := ⟨b, o, none⟩) h, fun b o h => hb.frozen (p := ⟨b, o, none⟩) h⟩
theorem bthen {w w1 w2 : World} (h1 : Below w.heap.size w w1) (h2 : Below w1.heap.size w1 w2) : Below w.heap.size w w2 := h1.trans (h2.mono h1.size)
theorem bdrew {w w1 : World} (h1 : Below w.heap.size w w1) (n : Nat) : Below w.heap.size w (w1.drewN n) := below_drewN h1 n
theorem yas {a b : Bool} (h : a = b) : Ending.returned (.bool a) = .returned (.bool b) := by rw [h]
theorem ybc {k : IntKind} {a b : Int} (h : a = b) : Ending.returned (.int k a) = .returned (.int k b) := by rw [h]

def Row (w : World) (v : Value) (size n : Nat) (xs : List Value) : Prop :=
  ∃ a cap, v = .slice a n cap ∧ n ≤ cap ∧ cap ≤ maxLen ∧ xs.length = n * size ∧ (a = none → cap = 0) ∧
    (n = 0 ∨ ∃ g o, a = some ⟨g, o, none⟩ ∧ g < w.heap.size ∧ ∀ j u, xs[j]? = some u → w.cell? ⟨g, o + j, none⟩ = some u)

theorem Row.below {w w' : World} {v : Value} {size n : Nat} {xs : List Value} (h : Row w v size n xs) (hb : Below w.heap.size w w') : Row w' v size n xs := by
  obtain ⟨a, cap, hv, h1, h2, h3, h4, h5⟩ := h
  refine ⟨a, cap, hv, h1, h2, h3, h4, ?_⟩
  rcases h5 with h5 | ⟨g, o, ha, hg, hc⟩
  · exact .inl h5
  · exact .inr ⟨g, o, ha, Nat.lt_of_lt_of_le hg hb.size, fun j u hu => (hb.cell (p := ⟨g, _, none⟩) hg).trans (hc j u hu)⟩
theorem yew {w w' : World} {B e size n : Nat} {v : Value} {xs : List Value} (h : w.ownsRow B e size v n xs) (hb : Below w.heap.size w w') : w'.ownsRow B e size v n xs := by
  obtain ⟨h1, h2⟩ := h
  refine ⟨h1, ?_⟩
  rcases h2 with h2 | ⟨g, cap, cur, hv, hg, hh, r⟩
  · exact .inl h2
  · exact .inr ⟨g, cap, cur, hv, hg, by rw [hb.block g (by rcases Nat.lt_or_ge g w.heap.size with h | h; exact h; simp [Array.getElem?_eq_none h] at hh)]; exact hh, r⟩
theorem own_shape {w : World} {B e size n : Nat} {v : Value} {xs : List Value} (h : w.ownsRow B e size v n xs) : ∃ a cap, v = .slice a n cap := by
  rcases h.2 with ⟨rfl, rfl⟩ | ⟨g, cap, cur, hv, _⟩
  · exact ⟨_, _, rfl⟩
  · exact ⟨_, _, hv⟩
theorem own_lt {w : World} {B e size n : Nat} {v : Value} {xs : List Value} (h : w.ownsRow B e size v n xs) (x : Nat) (hx : w.heap.size ≤ x) : some x ≠ v.ownBlock :=
  fun h1 => by have := (h.lt x h1.symm).2; omega
theorem own_ge {w : World} {B e size n : Nat} {v : Value} {xs : List Value} (h : w.ownsRow B e size v n xs) : ∀ k, v.ownBlock = some k → B ≤ k := fun k hk => (h.lt k hk).1
theorem new_cells (W : World) (l : List Value) (e n : Nat) (hn : n = W.heap.size) : ∀ j u, l[j]? = some u → (W.alloc (.cells l.toArray e)).cell? ((⟨n, 0, none⟩ : Addr).add j) = some u := by
  intro j u h
  subst hn
  have h0 : (⟨W.heap.size, 0, none⟩ : Addr).add j = ⟨W.heap.size, j, none⟩ := by
    unfold Addr.add
    split <;> simp_all
  rw [h0]
  have h1 : (W.alloc (.cells l.toArray e)).heap[W.heap.size]? = some (.cells l.toArray e) := by
    show (W.heap.push (.cells l.toArray e))[W.heap.size]? = _
    rw [Array.getElem?_push, if_pos rfl]
  unfold World.cell?
  simp only [h1]
  simpa using h

theorem row_of_own {w : World} {B e size n : Nat} {v : Value} {xs : List Value} (h : w.ownsRow B e size v n xs) : Row w v size n xs := by
  obtain ⟨h1, h2⟩ := h
  rcases h2 with ⟨rfl, rfl⟩ | ⟨g, cap, cur, hv, hg, hh, hle, hcap, hcs, htk⟩
  · exact ⟨none, 0, rfl, by omega, by simp [maxLen], h1, fun _ => rfl, .inl rfl⟩
  · refine ⟨some ⟨g, 0, none⟩, cap, hv, hle, hcap, h1, (fun h => by cases h), .inr ⟨g, 0, rfl, ?_, fun j u hu => ?_⟩⟩
    · rcases Nat.lt_or_ge g w.heap.size with h | h
      · exact h
      · simp [Array.getElem?_eq_none h] at hh
    · have hj : (cur.toList.take (n * size))[j]? = some u := by rw [htk]; exact hu
      rw [List.getElem?_take] at hj
      unfold World.cell?
      simp only [hh, Nat.zero_add]
      split at hj
      · simpa using hj
      · cases hj
theorem row_nil (w : World) (size : Nat) : Row w (.slice none 0 0) size 0 [] := ⟨none, 0, rfl, by simp, by simp [maxLen], by simp, fun _ => rfl, .inl rfl⟩

theorem Row.open {w : World} {v : Value} {size n : Nat} {xs : List Value} (h : Row w v size n xs) : ∃ a cap, v = .slice a n cap ∧ n ≤ cap ∧ cap ≤ 9223372036854775807 ∧ (a = none → cap = 0) ∧
    (0 < n → ∃ g o, a = some ⟨g, o, none⟩ ∧ g < w.heap.size ∧ ∀ j u, xs[j]? = some u → w.cell? ⟨g, o + j, none⟩ = some u) := by
  obtain ⟨a, cap, hv, h1, h2, h3, h4, h5⟩ := h
  unfold maxLen at h2
  refine ⟨a, cap, hv, h1, by omega, h4, fun hn => ?_⟩
  rcases h5 with h5 | h5
  · omega
  · exact h5

theorem flat_get {α : Type} (f : α → List Value) (k : Nat) (hf : ∀ x, (f x).length = k) (l : List α) : ∀ (i j : Nat) (x : α) (u : Value), l[i]? = some x → (f x)[j]? = some u → (l.flatMap f)[i * k + j]? = some u := by
  induction l with
  | nil => intro i j x u h; simp at h
  | cons y l ih =>
    intro i j x u h hu
    rw [List.flatMap_cons]
    have hj : j < k := by have := (List.getElem?_eq_some_iff.1 hu).1; rw [hf] at this; exact this
    cases i with
    | zero =>
      simp at h; subst h
      rw [Nat.zero_mul, Nat.zero_add, List.getElem?_append_left (by rw [hf]; exact hj)]; exact hu
    | succ i =>
      rw [Nat.succ_mul, List.getElem?_append_right (by rw [hf]; omega), hf, show i * k + k + j - k = i * k + j by omega]
      exact ih i j x u (by simpa using h) hu
theorem flat_len {α : Type} (f : α → List Value) (k : Nat) (hf : ∀ x, (f x).length = k) (l : List α) : (l.flatMap f).length = l.length * k := by
  induction l with
  | nil => simp
  | cons y l ih => rw [List.flatMap_cons, List.length_append, hf, ih, List.length_cons, Nat.succ_mul]; omega

end Go.Proofs.YtcpgpiabeimefaaGreatDoor
namespace Go.Proofs.YtcpgpiabeimefaaGreatDoor
open Go.ChangeShapes Go.WideShapes Go.RowKit

def Rd {H : Type} (enc : TypeId × Value → H) (P : Program) (w : World) (t : TypeId) (cs : List Value) : Prop := ∃ fuel x, DataW.trod enc P w 0 (fun _ => true) true fuel t cs = some x

section
variable {H : Type} {enc : TypeId × Value → H} {P : Program} {w : World} {t : TypeId} {cs : List Value}

theorem rd_int {k : IntKind} (ht : P.underlying t = some (.int k)) (h : Rd enc P w t cs) : ∃ n, cs = [.int k n] ∧ (Lit.int k n).wf = true := by
  obtain ⟨fuel, x, h⟩ := h
  obtain ⟨n, h1, _, h2⟩ := DataW.trod_int ht h
  exact ⟨n, h1, h2⟩
theorem wf64 {n : Int} (h : (Lit.int .i64 n).wf = true) : -9223372036854775808 ≤ n ∧ n ≤ 9223372036854775807 := by
  simp only [Lit.wf, Bool.and_eq_true, decide_eq_true_eq] at h
  have e1 : IntKind.i64.min = -9223372036854775808 := by decide
  have e2 : IntKind.i64.max = 9223372036854775807 := by decide
  omega
theorem rd_int64 (ht : P.underlying t = some (.int .i64)) (h : Rd enc P w t cs) : ∃ n, cs = [.int .i64 n] ∧ -9223372036854775808 ≤ n ∧ n ≤ 9223372036854775807 := by
  obtain ⟨n, h1, h2⟩ := rd_int ht h
  exact ⟨n, h1, wf64 h2⟩
theorem rd_string (ht : P.underlying t = some .string) (h : Rd enc P w t cs) : ∃ s : ByteArray, cs = [.string s] ∧ s.size ≤ maxLen := by
  obtain ⟨fuel, x, h⟩ := h
  obtain ⟨s, h1, _, h2⟩ := DataW.trod_string ht h
  exact ⟨s, h1, h2⟩
theorem rd_struct {fs : Array Field} (ht : P.underlying t = some (.struct fs)) (h : Rd enc P w t cs) :
    cs.length = P.cellsOf t ∧ ∀ (i : Nat) (f : Field), fs[i]? = some f → Rd enc P w f.type ((cs.drop f.offset).take (P.cellsOf f.type)) := by
  obtain ⟨fuel, x, h⟩ := h
  obtain ⟨xs, n, _, _, h1, h2, h3⟩ := DataW.trod_struct ht h
  refine ⟨h1, fun i f hf => ?_⟩
  have hi : i < xs.length := by rw [h2]; exact (Array.getElem?_eq_some_iff.1 hf).1
  exact ⟨n, xs[i], by rw [h3 i f hf, List.getElem?_eq_getElem hi]⟩
theorem rd_slice {e : TypeId} (ht : P.underlying t = some (.slice e)) (h : Rd enc P w t cs) :
    cs = [.slice none 0 0] ∨ ∃ (a : Addr) (len cap : Nat), cs = [.slice (some a) len cap] ∧ len ≤ cap ∧ cap ≤ maxLen ∧
      ∀ i, i < len → ∃ cs', cs'.length = P.cellsOf e ∧ (∀ j, j < P.cellsOf e → w.cell? ((a.add (i * P.cellsOf e)).add j) = cs'[j]?) ∧ Rd enc P w e cs' := by
  obtain ⟨fuel, x, h⟩ := h
  rcases Deep.open_slice ht h with ⟨h0, _⟩ | ⟨a, len, cap, m, n, D, Pl, h1, _, h2, h3, h4, _, h5⟩
  · exact .inl h0
  · refine .inr ⟨a, len, cap, h1, h2, h3, fun i hi => ?_⟩
    have hm : m = cap := by simpa using h4
    obtain ⟨cs', h6, h7⟩ := h5 i (by omega)
    obtain ⟨_, h8, h9⟩ := World.cells?_some h6
    exact ⟨cs', h8, h9, ⟨n, _, h7⟩⟩
end

def Seq {α : Type} (R : List Value → α → Prop) (size : Nat) (w : World) (v : Value) (l : List α) : Prop :=
  ∃ xs, Row w v size l.length xs ∧ ∀ i x, l[i]? = some x → R ((xs.drop (i * size)).take size) x

theorem Seq.imp {α : Type} {R R' : List Value → α → Prop} {size : Nat} {w : World} {v : Value} {l : List α} (h : Seq R size w v l) (hR : ∀ cs x, x ∈ l → R cs x → R' cs x) : Seq R' size w v l := by
  obtain ⟨xs, h1, h2⟩ := h
  exact ⟨xs, h1, fun i x hx => hR _ _ (List.mem_of_getElem? hx) (h2 i x hx)⟩

theorem flat_chunk (f : Nat → List Value) (size : Nat) (hf : ∀ i, (f i).length = size) (n i : Nat) (hi : i < n) : (((List.range n).flatMap f).drop (i * size)).take size = f i := by
  apply List.ext_getElem?
  intro j
  rw [List.getElem?_take]
  split
  · rename_i hj
    rw [List.getElem?_drop]
    obtain ⟨u, hu⟩ : ∃ u, (f i)[j]? = some u := ⟨_, List.getElem?_eq_getElem (by rw [hf]; exact hj)⟩
    rw [hu]
    exact flat_get f size hf (List.range n) i j i u (by rw [List.getElem?_range hi]) hu
  · rename_i hj
    rw [List.getElem?_eq_none (by rw [hf]; omega)]

theorem open_seq {H : Type} {enc : TypeId × Value → H} {P : Program} {w : World} {t e : TypeId} {cs : List Value} {α : Type} {R : List Value → α → Prop} {size : Nat} (ht : P.underlying t = some (.slice e)) (hs : P.cellsOf e = size) (h0 : 0 < size)
    (hR : ∀ cs, Rd enc P w e cs → ∃ x, R cs x) (h : Rd enc P w t cs) : ∃ v l, cs = [v] ∧ Seq R size w v l := by
  rcases rd_slice ht h with rfl | ⟨a, len, cap, rfl, h1, h2, h3⟩
  · exact ⟨_, [], rfl, [], row_nil w size, fun i x hx => by simp at hx⟩
  · rw [hs] at h3
    by_cases hl : len = 0
    · subst hl
      exact ⟨_, [], rfl, [], ⟨_, cap, rfl, by simp, h2, by simp, (fun h => by cases h), .inl rfl⟩, fun i x hx => by simp at hx⟩
    have hch : ∀ i : Nat, ∃ q : List Value, q.length = size ∧ (i < len → (∀ j, j < size → w.cell? ((a.add (i * size)).add j) = q[j]?) ∧ ∃ x, R q x) := by
      intro i
      by_cases hi : i < len
      · obtain ⟨c, c1, c2, c3⟩ := h3 i hi
        exact ⟨c, c1, fun _ => ⟨c2, hR c c3⟩⟩
      · exact ⟨List.replicate size undef, by simp, fun h => absurd h hi⟩
    obtain ⟨f, hf⟩ := Classical.axiomOfChoice hch
    obtain ⟨x0, _⟩ := ((hf 0).2 (by omega)).2
    have hx : ∀ i : Nat, ∃ x : α, i < len → R (f i) x := by
      intro i
      by_cases hi : i < len
      · obtain ⟨x, hx⟩ := ((hf i).2 hi).2
        exact ⟨x, fun _ => hx⟩
      · exact ⟨x0, fun h => absurd h hi⟩
    obtain ⟨g, hg⟩ := Classical.axiomOfChoice hx
    have hc0 : w.cell? a = (f 0)[0]? := by
      have := ((hf 0).2 (by omega)).1 0 h0
      simpa [Addr.add] using this
    obtain ⟨u0, hu0⟩ : ∃ u, (f 0)[0]? = some u := ⟨_, List.getElem?_eq_getElem (by rw [(hf 0).1]; exact h0)⟩
    rw [hu0] at hc0
    obtain ⟨b, o, sp⟩ := a
    have hsp : sp = none := by
      unfold World.cell? at hc0
      split at hc0
      · split at hc0
        · cases hc0
        · rename_i hsp; simpa using hsp
      · cases hc0
    subst hsp
    have hb : b < w.heap.size := by
      rcases Nat.lt_or_ge b w.heap.size with h | h
      · exact h
      · unfold World.cell? at hc0; simp [Array.getElem?_eq_none h] at hc0
    have hadd : ∀ n : Nat, (⟨b, o, none⟩ : Addr).add n = ⟨b, o + n, none⟩ := by intro n; unfold Addr.add; split <;> simp_all
    refine ⟨_, (List.range len).map g, rfl, (List.range len).flatMap f, ?_, ?_⟩
    · rw [List.length_map, List.length_range]
      refine ⟨_, cap, rfl, h1, h2, by rw [flat_len f size (fun i => (hf i).1), List.length_range], (fun h => by cases h), .inr ⟨b, o, rfl, hb, fun j u hu => ?_⟩⟩
      have hj : j < len * size := by
        have := (List.getElem?_eq_some_iff.1 hu).1
        rw [flat_len f size (fun i => (hf i).1), List.length_range] at this; exact this
      have hi : j / size < len := (Nat.div_lt_iff_lt_mul h0).2 hj
      have hr : j % size < size := Nat.mod_lt _ h0
      have hjd : j / size * size + j % size = j := by rw [Nat.mul_comm]; exact Nat.div_add_mod j size
      have c := ((hf (j / size)).2 hi).1 (j % size) hr
      obtain ⟨u', hu'⟩ : ∃ u, (f (j / size))[j % size]? = some u := ⟨_, List.getElem?_eq_getElem (by rw [(hf _).1]; exact hr)⟩
      have e1 := flat_get f size (fun i => (hf i).1) (List.range len) (j / size) (j % size) (j / size) u' (by rw [List.getElem?_range hi]) hu'
      rw [hjd, hu] at e1
      cases e1
      rw [hadd] at c
      have h5 : (⟨b, o + j / size * size, none⟩ : Addr).add (j % size) = ⟨b, o + j, none⟩ := by
        have : (⟨b, o + j / size * size, none⟩ : Addr).add (j % size) = ⟨b, o + j / size * size + j % size, none⟩ := by unfold Addr.add; split <;> simp_all
        rw [this, Nat.add_assoc, hjd]
      rw [h5] at c
      rw [c, hu']
    · intro i x hx
      have hi : i < len := by
        have := (List.getElem?_eq_some_iff.1 hx).1
        simpa using this
      rw [List.getElem?_map, List.getElem?_range hi] at hx
      simp at hx
      subst hx
      rw [flat_chunk f size (fun i => (hf i).1) len i hi]
      exact hg i hi

theorem seq_flat {α : Type} {R : List Value → α → Prop} {size : Nat} {w : World} {v : Value} {l : List α} (f : α → List Value) (hf : ∀ x, (f x).length = size) (h0 : 0 < size) (h : Seq R size w v l) (hR : ∀ cs x, R cs x → cs = f x) : Row w v size l.length (l.flatMap f) := by
  obtain ⟨xs, ⟨a, cap, hv, h1, h2, h3, h4, h5⟩, h6⟩ := h
  refine ⟨a, cap, hv, h1, h2, flat_len f size hf l, h4, ?_⟩
  rcases h5 with h5 | ⟨g, o, ha, hg, hc⟩
  · exact .inl h5
  · refine .inr ⟨g, o, ha, hg, fun j u hu => hc j u ?_⟩
    have hj : j < l.length * size := by
      have := (List.getElem?_eq_some_iff.1 hu).1
      rw [flat_len f size hf] at this; exact this
    have hi : j / size < l.length := (Nat.div_lt_iff_lt_mul h0).2 hj
    have hr : j % size < size := Nat.mod_lt _ h0
    have hjd : j / size * size + j % size = j := by rw [Nat.mul_comm]; exact Nat.div_add_mod j size
    have e1 := flat_get f size hf l (j / size) (j % size) l[j / size] ((f l[j / size])[j % size]'(by rw [hf]; exact hr)) (List.getElem?_eq_getElem hi) (List.getElem?_eq_getElem (by rw [hf]; exact hr))
    rw [hjd, hu] at e1
    cases e1
    have e2 := hR _ _ (h6 (j / size) _ (List.getElem?_eq_getElem hi))
    have e3 : ((xs.drop (j / size * size)).take size)[j % size]? = some ((f l[j / size])[j % size]'(by rw [hf]; exact hr)) := by rw [e2]; exact List.getElem?_eq_getElem (by rw [hf]; exact hr)
    rw [List.getElem?_take, if_pos hr, List.getElem?_drop, hjd] at e3
    exact e3

theorem rd_of {H : Type} {enc : TypeId × Value → H} {P : Program} {w : World} {t : TypeId} {v : Value} {d : DataW H} {ps : List MemPlace} (h : DataW.Trod enc P w 0 (fun _ => true) true t v d ps) : Rd enc P w t v.cells.toList := by
  obtain ⟨fuel, h⟩ := h
  exact ⟨fuel, _, h⟩

theorem open_seq_arg {H : Type} {enc : TypeId × Value → H} {P : Program} {w : World} {base : Nat} {t e : TypeId} {v : Value} {d : DataW H} {ps : List MemPlace} {α : Type} {R : List Value → α → Prop} {size : Nat} (ht : P.underlying t = some (.slice e)) (hs : P.cellsOf e = size) (h0 : 0 < size)
    (hR : ∀ cs, Rd enc P w e cs → ∃ x, R cs x) (hv : Value.okWide P w .any base t v) (h : DataW.Trod enc P w 0 (fun _ => true) true t v d ps) : ∃ l, Seq R size w v l := by
  obtain ⟨a, len, cap, rfl⟩ := okWide_slice ht hv
  obtain ⟨v', l, h1, h2⟩ := open_seq ht hs h0 hR (rd_of h)
  simp [Value.cells] at h1
  subst h1
  exact ⟨l, h2⟩

def In64 (n : Int) : Prop := -9223372036854775808 ≤ n ∧ n ≤ 9223372036854775807
end Go.Proofs.YtcpgpiabeimefaaGreatDoor
set_option linter.unusedVariables false
namespace Go.Proofs.YtcpgpiabeimefaaGreatDoor
open Go.RowKit

theorem rel_of_seq {α : Type} {f : α → List AV} {R : List Value → α → Prop} {w : World} {lv : Live} {size : Nat} {l : List α} {v : Value} (h : Seq R size w v l) (hf : ∀ x, (f x).length = size) (hfc : ∀ x, ∀ c ∈ f x, yek c = true)
    (hR : ∀ x ∈ l, ∀ cs, R cs x → ycg (okW w) w (fun _ => none) (f x) cs) : Rel (okW w) w lv (.sl size (l.map f)) v := by
  obtain ⟨xs, ⟨a, cap, rfl, h1, h2, h3, h4, h5⟩, h6⟩ := h
  have hget : ∀ (i j : Nat) (row : List AV) (c : AV), (l.map f)[i]? = some row → row[j]? = some c → ∃ x, l[i]? = some x ∧ row = f x ∧ ∃ u, xs[i * size + j]? = some u ∧ Rel (okW w) w (fun _ => none) c u := by
    intro i j row c hrow hc
    rw [List.getElem?_map] at hrow
    cases hx : l[i]? with
    | none => simp [hx] at hrow
    | some x =>
      simp only [hx, Option.map_some, Option.some.injEq] at hrow
      subst hrow
      have hj : j < size := by have := (List.getElem?_eq_some_iff.1 hc).1; rw [hf] at this; exact this
      have hi := (List.getElem?_eq_some_iff.1 hx).1
      have hlt : i * size + j < xs.length := by
        have : i * size + size ≤ l.length * size := by rw [← Nat.succ_mul]; exact Nat.mul_le_mul_right _ hi
        omega
      refine ⟨x, rfl, rfl, xs[i * size + j], List.getElem?_eq_getElem hlt, ?_⟩
      refine (hR x (List.mem_of_getElem? hx) _ (h6 i x hx)).2 j c _ hc ?_
      rw [List.getElem?_take, if_pos hj, List.getElem?_drop, List.getElem?_eq_getElem hlt]
  have hgo : ∃ g o, l ≠ [] → a = some ⟨g, o, none⟩ ∧ g < w.heap.size ∧ ∀ (j : Nat) (u : Value), xs[j]? = some u → w.cell? ⟨g, o + j, none⟩ = some u := by
    rcases h5 with h5 | ⟨g, o, q1, q2, q3⟩
    · exact ⟨0, 0, fun h => absurd (List.eq_nil_of_length_eq_zero h5) h⟩
    · exact ⟨g, o, fun _ => ⟨q1, q2, q3⟩⟩
  obtain ⟨g, o, hgo⟩ := hgo
  have := Rel.sl (ok := okW w) (w := w) (lv := lv) (size := size) (rows := l.map f) a cap (fun i j => xs.getD (i * size + j) undef) g o (by simpa using h1) h2 h4 (fun row hr => by obtain ⟨x, _, rfl⟩ := List.mem_map.1 hr; exact hf x)
    (fun hne => by have := hgo (by intro h; simp [h] at hne); exact ⟨this.1, this.2.1⟩) (fun i j row c hrow hc => by
      obtain ⟨x, hx, rfl, u, hu, hr⟩ := hget i j row c hrow hc
      have hne : l ≠ [] := by intro h; simp [h] at hx
      refine ⟨?_, hfc x c (List.mem_of_getElem? hc)⟩
      rw [Nat.add_assoc, (hgo hne).2.2 _ u hu]
      simp [hu]) (fun i j row c hrow hc => by
      obtain ⟨x, hx, rfl, u, hu, hr⟩ := hget i j row c hrow hc
      have : xs.getD (i * size + j) undef = u := by simp [hu]
      rw [this]; exact hr)
  simpa using this
theorem flat_slice {α : Type} {g : α → List Value} {size : Nat} (hg : ∀ x, (g x).length = size) {l : List α} {i : Nat} {x : α} (hx : l[i]? = some x) : ((l.flatMap g).drop (i * size)).take size = g x := by
  apply List.ext_getElem?
  intro j
  rw [List.getElem?_take]
  by_cases hj : j < size
  · rw [if_pos hj, List.getElem?_drop]
    have hu : (g x)[j]? = some ((g x)[j]'(by rw [hg]; exact hj)) := List.getElem?_eq_getElem _
    rw [hu]
    exact flat_get g size hg l i j x _ hx hu
  · rw [if_neg hj, List.getElem?_eq_none (by rw [hg]; omega)]
theorem seq_of_row {α : Type} {g : α → List Value} {size : Nat} (hg : ∀ x, (g x).length = size) {w : World} {v : Value} {l : List α} (h : Row w v size l.length (l.flatMap g)) : Seq (fun cs x => cs = g x) size w v l :=
  ⟨_, h, fun i x hx => flat_slice hg hx⟩
theorem relAll_v {ok : Nat → Prop} {w : World} {lv : Live} (vs : List Value) : ycg ok w lv (vs.map AV.v) vs := by
  refine ⟨by simp, fun i x u hx hu => ?_⟩
  rw [List.getElem?_map, hu] at hx
  cases hx
  exact .v u
theorem relAll_nil {ok : Nat → Prop} {w : World} {lv : Live} : ycg ok w lv [] [] := ⟨rfl, fun i x u hx hu => by simp at hx⟩
theorem ycv {ok : Nat → Prop} {w : World} {lv : Live} {a : AV} {v : Value} {xs : List AV} {vs : List Value} (h : Rel ok w lv a v) (t : ycg ok w lv xs vs) : ycg ok w lv (a :: xs) (v :: vs) := by
  refine ⟨by simp [t.1], fun i x u hx hu => ?_⟩
  cases i with
  | zero => simp at hx hu; subst hx hu; exact h
  | succ i => simp at hx hu; exact t.2 i x u hx hu
theorem rel_plain {w : World} {lv : Live} {α : Type} {g : α → List Value} {size : Nat} (hg : ∀ x, (g x).length = size) (h1 : ∀ x, ∀ u ∈ g x, u.oneCell' = true) {v : Value} {l : List α} (h : Row w v size l.length (l.flatMap g)) : Rel (okW w) w lv (.sl size (l.map fun x => (g x).map AV.v)) v :=
  rel_of_seq (seq_of_row hg h) (fun x => by simp [hg]) (fun x c hc => by
    obtain ⟨u, hu, rfl⟩ := List.mem_map.1 hc
    exact h1 x u hu) (fun x _ cs hc => by subst hc; exact relAll_v _)
theorem okW_lt (w : World) : ∀ g, okW w g → g < w.heap.size := fun _ h => h
end Go.Proofs.YtcpgpiabeimefaaGreatDoor
namespace Go.Proofs.YtcpgpiabeimefaaGreatDoor
open Go.RowKit

def maxl : List Nat → Nat
  | [] => 0
  | a :: l => max a (maxl l)
def val (f : Int → Nat → Nat) : Ex → Nat
  | .lf t => f t.1 0
  | .un t a => f t.1 (val f a)
  | .bi t a b => f t.1 (max (val f a) (val f b))
  | .tr t a b c => f t.1 (max (val f a) (max (val f b) (val f c)))
def lev (f : Int → Nat → Nat) : List Tm → List Nat
  | [] => []
  | t :: l => f t.1 (maxl ((lev f l).take (ar t.1).toNat)) :: (lev f l).drop (ar t.1).toNat
theorem lev_forest (f : Int → Nat → Nat) (l : List Tm) : ∀ F, yel l = some F → lev f l = F.map (val f) := by
  induction l with
  | nil => intro F h; simp [yel] at h; subst h; rfl
  | cons t l ih =>
    intro F h
    simp only [yel] at h
    cases hl : yel l with
    | none => rw [hl] at h; cases h
    | some G =>
      have hG := ih G hl
      rw [hl] at h
      simp only at h
      simp only [lev, hG]
      by_cases a0 : ar t.1 = 0
      · rw [if_pos a0] at h; cases h
        rw [a0]; simp [maxl, val]
      rw [if_neg a0] at h
      by_cases a1 : ar t.1 = 1
      · rw [if_pos a1] at h
        match G, h with
        | a :: G, h => cases h; rw [a1]; simp [maxl, val]
      rw [if_neg a1] at h
      by_cases a2 : ar t.1 = 2
      · rw [if_pos a2] at h
        match G, h with
        | a :: b :: G, h => cases h; rw [a2]; simp [maxl, val]
      rw [if_neg a2] at h
      by_cases a3 : ar t.1 = 3
      · rw [if_pos a3] at h
        match G, h with
        | a :: b :: c :: G, h => cases h; rw [a3]; simp [maxl, val]
      rw [if_neg a3] at h; cases h
theorem forest_enough (l : List Tm) (t : Tm) (F : List Ex) (h : yel (t :: l) = some F) : ∃ G, yel l = some G ∧ 0 ≤ ar t.1 ∧ (ar t.1).toNat ≤ G.length ∧ F.length = G.length - (ar t.1).toNat + 1 := by
  simp only [yel] at h
  cases hl : yel l with
  | none => rw [hl] at h; cases h
  | some G =>
    rw [hl] at h
    simp only at h
    by_cases a0 : ar t.1 = 0
    · rw [if_pos a0] at h; cases h; exact ⟨G, rfl, by omega, by rw [a0]; simp, by rw [a0]; simp⟩
    rw [if_neg a0] at h
    by_cases a1 : ar t.1 = 1
    · rw [if_pos a1] at h
      match G, h with
      | a :: G, h => cases h; exact ⟨_, rfl, by omega, by rw [a1]; simp, by rw [a1]; simp⟩
    rw [if_neg a1] at h
    by_cases a2 : ar t.1 = 2
    · rw [if_pos a2] at h
      match G, h with
      | a :: b :: G, h => cases h; exact ⟨_, rfl, by omega, by rw [a2]; simp, by rw [a2]; simp⟩
    rw [if_neg a2] at h
    by_cases a3 : ar t.1 = 3
    · rw [if_pos a3] at h
      match G, h with
      | a :: b :: c :: G, h => cases h; exact ⟨_, rfl, by omega, by rw [a3]; simp, by rw [a3]; simp⟩
    rw [if_neg a3] at h; cases h
theorem forest_suffix (l : List Tm) : ∀ (k : Nat) (F : List Ex), yel l = some F → ∃ G, yel (l.drop k) = some G := by
  induction l with
  | nil => intro k F h; simp [yel]
  | cons t l ih =>
    intro k F h
    cases k with
    | zero => exact ⟨F, h⟩
    | succ k =>
      obtain ⟨G, hG, _⟩ := forest_enough l t F h
      exact ih k G hG

def depthF : Int → Nat → Nat := fun _ g => g + 1
def nestF : Int → Nat → Nat := fun op g => if aggB op then g + 1 else g
theorem val_depth (E : Ex) : val depthF E = E.dp := by
  induction E with
  | lf t => rfl
  | un t a iha => simp only [val, Ex.dp, iha, depthF]
  | bi t a b iha ihb => simp only [val, Ex.dp, iha, ihb, depthF]
  | tr t a b c iha ihb ihc => simp only [val, Ex.dp, iha, ihb, ihc, depthF]
theorem agg_ar {op : Int} (h : aggB op = true) : ar op = 1 := by
  simp [aggB] at h
  unfold ar; rw [if_neg (by omega), if_neg (by omega), if_pos (by omega)]
theorem agg_no {op : Int} (h : ar op ≠ 1) : aggB op = false := by
  cases hb : aggB op
  · rfl
  · exact absurd (agg_ar hb) h
theorem val_nest (E : Ex) : E.ok → val nestF E = E.ns := by
  induction E with
  | lf t => intro h; have h' : ar t.1 = 0 := h; simp only [val, Ex.ns, nestF, agg_no (op := t.1) (by omega)]; rfl
  | un t a iha => intro ⟨h, ha⟩; simp only [val, Ex.ns, iha ha, nestF]
  | bi t a b iha ihb => intro ⟨h, ha, hb⟩; simp only [val, Ex.ns, iha ha, ihb hb, nestF, agg_no (op := t.1) (by omega)]; rfl
  | tr t a b c iha ihb ihc => intro ⟨h, ha, hb, hc⟩; simp only [val, Ex.ns, iha ha, ihb hb, ihc hc, nestF, agg_no (op := t.1) (by omega)]; rfl

abbrev Open := List (Nat × Bool)
def closeK (k : Nat) (b : Bool) : Open → Open
  | [] => if k = 0 then [] else [(k, b)]
  | (x, c) :: S => if k = 0 then closeK (x - 1) c S else (k, b) :: (x, c) :: S
def finS : Open → Open
  | [] => []
  | (x, c) :: S => closeK (x - 1) c S
def cnt (S : Open) : Nat := (S.filter (·.2)).length
structure Lev where
  S : Open
  d : Nat
  n : Nat
def levStep (s : Lev) (t : Tm) : Lev :=
  ⟨closeK (ar t.1).toNat (aggB t.1) s.S, max s.d (s.S.length + 1), max s.n (cnt (((ar t.1).toNat, aggB t.1) :: s.S))⟩
def levR (s : Lev) (l : List Tm) : Lev := l.foldl levStep s
theorem levR_append (s : Lev) (l m : List Tm) : levR s (l ++ m) = levR (levR s l) m := by unfold levR; rw [List.foldl_append]
theorem levR_cons (s : Lev) (t : Tm) (l : List Tm) : levR s (t :: l) = levR (levStep s t) l := rfl
theorem closeK_pos (k : Nat) (b : Bool) (S : Open) (h : k ≠ 0) : closeK k b S = (k, b) :: S := by
  cases S with
  | nil => simp [closeK, h]
  | cons x S => obtain ⟨x, c⟩ := x; simp [closeK, h]
theorem closeK_zero (b : Bool) (S : Open) : closeK 0 b S = finS S := by
  cases S with
  | nil => simp [closeK, finS]
  | cons x S => obtain ⟨x, c⟩ := x; simp [closeK, finS]
theorem finS_succ (k : Nat) (b : Bool) (S : Open) : finS ((k + 2, b) :: S) = (k + 1, b) :: S := by
  simp only [finS]; rw [closeK_pos _ _ _ (by omega)]; rfl
theorem finS_two (b : Bool) (S : Open) : finS ((2, b) :: S) = (1, b) :: S := finS_succ 0 b S
theorem finS_three (b : Bool) (S : Open) : finS ((3, b) :: S) = (2, b) :: S := finS_succ 1 b S
theorem finS_one (b : Bool) (S : Open) : finS ((1, b) :: S) = finS S := by simp only [finS]; exact closeK_zero b S
theorem cnt_cons (k : Nat) (b : Bool) (S : Open) : cnt ((k, b) :: S) = cnt S + (if b then 1 else 0) := by
  unfold cnt; cases b <;> simp

theorem levR_fl (E : Ex) : E.ok → ∀ s : Lev, levR s E.fl = ⟨finS s.S, max s.d (s.S.length + E.dp), max s.n (cnt s.S + E.ns)⟩ := by
  induction E with
  | lf t =>
    intro h s
    have h' : ar t.1 = 0 := h
    show levStep s t = _
    unfold levStep
    rw [h', agg_no (op := t.1) (by omega)]
    simp only [Int.toNat_zero, closeK_zero, cnt_cons, Ex.dp, Ex.ns]; rfl
  | un t a iha =>
    intro ⟨h, ha⟩ s
    simp only [Ex.fl, levR_cons]
    rw [iha ha]
    unfold levStep
    rw [h]
    simp only [Int.toNat_one, closeK_pos 1 _ _ (by omega), finS_one, List.length_cons, cnt_cons, Ex.dp, Ex.ns]
    congr 1
    · omega
    · split <;> omega
  | bi t a b iha ihb =>
    intro ⟨h, ha, hb⟩ s
    simp only [Ex.fl, levR_cons, levR_append]
    rw [iha ha, ihb hb]
    unfold levStep
    rw [h, agg_no (op := t.1) (by omega)]
    simp only [show (2 : Int).toNat = 2 from rfl, closeK_pos 2 _ _ (by omega), finS_two, finS_one, List.length_cons, cnt_cons, Ex.dp, Ex.ns]
    simp only [Lev.mk.injEq, Bool.false_eq_true, if_false, true_and]
    omega
  | tr t a b c iha ihb ihc =>
    intro ⟨h, ha, hb, hc⟩ s
    simp only [Ex.fl, levR_cons, levR_append]
    rw [iha ha, ihb hb, ihc hc]
    unfold levStep
    rw [h, agg_no (op := t.1) (by omega)]
    simp only [show (3 : Int).toNat = 3 from rfl, closeK_pos 3 _ _ (by omega), finS_three, finS_two, finS_one, List.length_cons, cnt_cons, Ex.dp, Ex.ns]
    simp only [Lev.mk.injEq, Bool.false_eq_true, if_false, true_and]
    omega
end Go.Proofs.YtcpgpiabeimefaaGreatDoor
namespace Go.Proofs.YtcpgpiabeimefaaGreatDoor
open Go.RowKit

def nearB (op : Int) : Bool := decide (11 ≤ op) && decide (op ≤ 17)
def leafTy (kinds : List Int) (t : Tm) : Int :=
  if t.1 = 2 ∨ t.1 = 3 ∨ t.1 = 10 ∨ t.1 = 15 then 2 else if t.1 = 4 ∨ t.1 = 11 ∨ t.1 = 17 then 3 else if t.1 = 5 ∨ t.1 = 12 then kinds.getD t.2.toNat 0 else 1
def ty1 (op a : Int) : Int :=
  if op = 19 ∨ op = 20 ∨ op = 21 then (if a = 2 then 2 else 0) else if op = 22 then (if a = 2 then 1 else 0) else if op = 23 then (if a = 2 then 3 else 0) else (if a = 1 then 1 else 0)
def ty2 (op a b : Int) : Int :=
  if op = 35 ∨ op = 36 then (if a = b ∧ a ≠ 0 then 2 else 0) else if op = 41 ∨ op = 42 then (if a = 2 ∧ b = 2 then 2 else 0) else if a = 1 ∧ b = 1 then (if 37 ≤ op ∧ op ≤ 40 then 2 else 1) else 0
def ty3 (a b c : Int) : Int := if a = 2 ∧ b = c then b else 0
def ty (kinds : List Int) : Bool → Ex → Int
  | bound, .lf t => if nearB t.1 && !bound then 0 else leafTy kinds t
  | bound, .un t a => ty1 t.1 (ty kinds (bound || aggB t.1) a)
  | bound, .bi t a b => ty2 t.1 (ty kinds bound a) (ty kinds bound b)
  | bound, .tr _ a b c => ty3 (ty kinds bound a) (ty kinds bound b) (ty kinds bound c)
end Go.Proofs.YtcpgpiabeimefaaGreatDoor
namespace Go.Proofs.YtcpgpiabeimefaaGreatDoor
open Go.RowKit

set_option maxHeartbeats 400000 in
theorem arity_any (op : Int) (w : World) : Calls Tryz.prog 87 #[.int .i64 op] w fun e w' => e = .returned (.int .i64 (ar op)) ∧ w = w' := by
  go_enter Tryz.func87, Tryz.ntmps87
  go_wp2
  all_goals go_ret
  all_goals exact ⟨ybc (by unfold ar; (repeat' split) <;> omega), rfl⟩
set_option maxHeartbeats 400000 in
theorem aggregate_any (op : Int) (w : World) : Calls Tryz.prog 91 #[.int .i64 op] w fun e w' => e = .returned (.bool (aggB op)) ∧ w = w' := by
  go_enter Tryz.func91, Tryz.ntmps91
  go_wp2
  all_goals go_ret
  all_goals exact ⟨yas (by rw [Bool.eq_iff_iff]; simp [aggB]; omega), rfl⟩
set_option maxHeartbeats 400000 in
theorem rarity_any (op : Int) (w : World) : Calls Tryz.prog 37 #[.int .i64 op] w fun e w' => e = .returned (.int .i64 (ar op)) ∧ w = w' := by
  go_enter Tryz.func37, Tryz.ntmps37
  go_wp2
  all_goals go_ret
  all_goals refine ⟨ybc ?_, rfl⟩
  all_goals try simp only [beq_iff_eq, beq_eq_false_iff_ne, ne_eq] at *
  all_goals (unfold ar; (repeat' split) <;> omega)
set_option maxHeartbeats 400000 in
theorem raggregate_any (op : Int) (w : World) : Calls Tryz.prog 73 #[.int .i64 op] w fun e w' => e = .returned (.bool (aggB op)) ∧ w = w' := by
  go_enter Tryz.func73, Tryz.ntmps73
  go_wp2
  all_goals go_ret
  all_goals exact ⟨yas (by rw [Bool.eq_iff_iff]; simp [aggB]; omega), rfl⟩

def Terms (w : World) (v : Value) (l : List Tm) : Prop := Row w v 2 l.length (l.flatMap fun t => [.int .i64 t.1, .int .i64 t.2])
theorem Terms.below {w w' : World} {v : Value} {l : List Tm} (h : Terms w v l) (hb : Below w.heap.size w w') : Terms w' v l := Row.below h hb
theorem Terms.open {w : World} {v : Value} {l : List Tm} (h : Terms w v l) : ∃ a cap, v = .slice a l.length cap ∧ l.length ≤ cap ∧ cap ≤ 9223372036854775807 ∧
    (0 < l.length → ∃ g o, a = some ⟨g, o, none⟩ ∧ g < w.heap.size ∧ ∀ i t, l[i]? = some t → w.cell? ⟨g, o + i * 2, none⟩ = some (.int .i64 t.1) ∧ w.cell? ⟨g, o + i * 2 + 1, none⟩ = some (.int .i64 t.2)) := by
  obtain ⟨a, cap, hv, h1, h2, h3, h4⟩ := Row.open h
  refine ⟨a, cap, hv, h1, h2, fun hn => ?_⟩
  obtain ⟨g, o, ha, hg, hc⟩ := h4 hn
  exact ⟨g, o, ha, hg, fun i t ht => ⟨hc _ _ (flat_get _ 2 (fun _ => rfl) l i 0 t _ ht rfl), hc _ _ (flat_get _ 2 (fun _ => rfl) l i 1 t _ ht rfl)⟩⟩

def endR (w k : Nat) (l : List Tm) : Int := match endN w (l.drop k) with | none => -1 | some n => (k : Int) + n
theorem endR_none (m k : Nat) (l : List Tm) (hm : 1 ≤ m) (h : l.length ≤ k) : endR m k l = -1 := by
  obtain ⟨m, rfl⟩ : ∃ q, m = q + 1 := ⟨m - 1, by omega⟩
  unfold endR; rw [List.drop_eq_nil_of_le h, endN_nil]
theorem endR_bad (m k : Nat) (l : List Tm) (hm : 1 ≤ m) (h : k < l.length) (hn : ar l[k].1 < 0) : endR m k l = -1 := by
  obtain ⟨m, rfl⟩ : ∃ q, m = q + 1 := ⟨m - 1, by omega⟩
  unfold endR; rw [List.drop_eq_getElem_cons h, endN_bad _ _ _ hn]
theorem endR_step (m k : Nat) (l : List Tm) (hm : 1 ≤ m) (h : k < l.length) (hn : ¬ ar l[k].1 < 0) : endR m k l = endR (m + (ar l[k].1).toNat - 1) (k + 1) l := by
  obtain ⟨m, rfl⟩ : ∃ q, m = q + 1 := ⟨m - 1, by omega⟩
  unfold endR; rw [List.drop_eq_getElem_cons h, endN_step _ _ _ hn, show m + 1 + (ar l[k].1).toNat - 1 = m + (ar l[k].1).toNat by omega]
  cases endN (m + (ar l[k].1).toNat) (l.drop (k + 1)) with
  | none => rfl
  | some n => simp; omega
theorem endR_done (m k : Nat) (l : List Tm) (hm : 1 ≤ m) (h : k < l.length) (hn : ¬ ar l[k].1 < 0) (hz : (m : Int) + (ar l[k].1 - 1) = 0) : endR m k l = k + 1 := by
  rw [endR_step m k l hm h hn, show m + (ar l[k].1).toNat - 1 = 0 by omega]
  unfold endR; rw [endN_zero]; simp

set_option maxHeartbeats 1000000 in
theorem argument_any (t : Tm) (vars : Int) (w : World) : Calls Tryz.prog 50 #[.agg #[.int .i64 t.1, .int .i64 t.2], .int .i64 vars] w fun e w' => e = .returned (.bool (argB vars t)) ∧ Below w.heap.size w w' := by
  obtain ⟨op, x⟩ := t
  have hcases : (op == 1) = true ∨ (op == 1) = false ∧ ((op == 5) = true ∨ (op == 5) = false ∧ ((op == 12) = true ∨ (op == 12) = false)) := by
    cases (op == 1) <;> cases (op == 5) <;> cases (op == 12) <;> simp
  rcases hcases with q0 | ⟨q0, q1 | ⟨q1, q2 | q2⟩⟩
  all_goals
    go_enter Tryz.func50, Tryz.ntmps50
    go_wp2
    all_goals go_ret
    all_goals refine ⟨yas ?_, (Below.refl _ _).alloc (Nat.le_refl _) _⟩
    all_goals simp only [beq_iff_eq, beq_eq_false_iff_ne, ne_eq] at *
    all_goals rw [Bool.eq_iff_iff]
    all_goals simp [argB, *]
    all_goals try omega

set_option maxHeartbeats 1000000 in
theorem rargument_any (t : Tm) (vars : Int) (w : World) : Calls Tryz.prog 64 #[.agg #[.int .i64 t.1, .int .i64 t.2], .int .i64 vars] w fun e w' => e = .returned (.bool (argB vars t)) ∧ Below w.heap.size w w' := by
  obtain ⟨op, x⟩ := t
  have hcases : (op == 1) = true ∨ (op == 1) = false ∧ ((op == 5) = true ∨ (op == 5) = false ∧ ((op == 12) = true ∨ (op == 12) = false)) := by
    cases (op == 1) <;> cases (op == 5) <;> cases (op == 12) <;> simp
  rcases hcases with q0 | ⟨q0, q1 | ⟨q1, q2 | q2⟩⟩
  all_goals
    go_enter Tryz.func64, Tryz.ntmps64
    go_wp2
    all_goals go_ret
    all_goals refine ⟨yas ?_, (Below.refl _ _).alloc (Nat.le_refl _) _⟩
    all_goals simp only [beq_iff_eq, beq_eq_false_iff_ne, ne_eq] at *
    all_goals rw [Bool.eq_iff_iff]
    all_goals simp [argB, *]
    all_goals try omega

set_option maxHeartbeats 1000000 in
theorem end_any_in (v : Value) (l : List Tm) (at_ : Nat) (w : World) (hl : l.length ≤ 1000) (hv : Hid (Terms w v l)) (ha : at_ < l.length) :
    Calls Tryz.prog 49 #[v, .int .i64 at_] w fun e w' => e = .returned (.int .i64 (endR 1 at_ l)) ∧ w = w' := by
  obtain ⟨a, cap, rfl, h1, h2, h3⟩ := hv.out.open
  obtain ⟨g, o, rfl, hg, hc⟩ := h3 (by omega)
  have HC := Lib.hid hc
  have b1 : decide ((at_ : Int) < 0) = false := by simp
  have b2 : decide (l.length ≤ at_) = false := by simp; omega
  clear hc h3
  go_enter Tryz.func49, Tryz.ntmps49
  go_wp2
  go_loop [1, 5, 6] (fun i x _ => ∃ k m : Nat, k ≤ l.length ∧ 1 ≤ m ∧ m ≤ 2 * k + 1 ∧ i = .int .i64 k ∧ x = .int .i64 m ∧ Hid (endR 1 at_ l = endR m k l)) (fun i _ _ => l.length - (intOf i).toNat)
  case atStart => exact ⟨at_, 1, by omega, by omega, by omega, rfl, rfl, rfl⟩
  case round =>
    obtain ⟨k, m, hk, hm1, hm2, rfl, rfl, he⟩ := hrel
    by_cases hlt : k < l.length
    · obtain ⟨c0, c1⟩ := HC.out k _ (List.getElem?_eq_getElem hlt)
      have hb := ar_bd l[k].1
      have hb1 := hb.1
      have hb2 := hb.2
      clear hb
      have HD := Lib.hid (List.drop_eq_getElem_cons hlt)
      by_cases hneg : ar l[k].1 < 0
      · go_wp2_with (go_at_call 87; refine (arity_any _ _).mono ?_; rintro e w' ⟨rfl, rfl⟩)
        go_ret
        exact ⟨ybc (by rw [he.out, endR_bad m k l hm1 hlt hneg]), rfl⟩
      · by_cases hz : (m : Int) + (ar l[k].1 - 1) = 0
        · have hz' : ((m : Int) + (ar l[k].1 - 1) == 0) = true := by simp; omega
          have HZ := Lib.hid hz
          clear hz
          go_wp2_with (go_at_call 87; refine (arity_any _ _).mono ?_; rintro e w' ⟨rfl, rfl⟩)
          go_ret
          exact ⟨ybc (by rw [he.out, endR_done m k l hm1 hlt (by omega) HZ.out]), rfl⟩
        · have hz' : ((m : Int) + (ar l[k].1 - 1) == 0) = false := by simp; omega
          go_wp2_with (go_at_call 87; refine (arity_any _ _).mono ?_; rintro e w' ⟨rfl, rfl⟩)
          exact ⟨⟨k + 1, m + (ar l[k].1).toNat - 1, by omega, by omega, by omega, by go_num, by congr 1; omega, he.out.trans (endR_step m k l hm1 hlt (by omega))⟩, by simp [intOf]; omega⟩
    · go_wp2
      go_ret
      exact ⟨ybc (by rw [he.out, endR_none m k l hm1 (by omega)]), rfl⟩

set_option maxHeartbeats 1000000 in
theorem rend_any_in (v : Value) (l : List Tm) (at_ : Nat) (w : World) (hl : l.length ≤ 1000) (hv : Hid (Terms w v l)) (ha : at_ < l.length) :
    Calls Tryz.prog 36 #[v, .int .i64 at_] w fun e w' => e = .returned (.int .i64 (endR 1 at_ l)) ∧ w = w' := by
  obtain ⟨a, cap, rfl, h1, h2, h3⟩ := hv.out.open
  obtain ⟨g, o, rfl, hg, hc⟩ := h3 (by omega)
  have HC := Lib.hid hc
  have b1 : decide ((at_ : Int) < 0) = false := by simp
  have b2 : decide (l.length ≤ at_) = false := by simp; omega
  clear hc h3
  go_enter Tryz.func36, Tryz.ntmps36
  go_wp2
  go_loop [5, 6, 7] (fun x i _ => ∃ k m : Nat, k ≤ l.length ∧ 1 ≤ m ∧ m ≤ 2 * k + 1 ∧ i = .int .i64 k ∧ x = .int .i64 m ∧ Hid (endR 1 at_ l = endR m k l)) (fun _ i _ => l.length - (intOf i).toNat)
  case atStart => exact ⟨at_, 1, by omega, by omega, by omega, rfl, rfl, rfl⟩
  case round =>
    obtain ⟨k, m, hk, hm1, hm2, rfl, rfl, he⟩ := hrel
    by_cases hlt : k < l.length
    · obtain ⟨c0, c1⟩ := HC.out k _ (List.getElem?_eq_getElem hlt)
      have hb := ar_bd l[k].1
      have hb1 := hb.1
      have hb2 := hb.2
      clear hb
      have HD := Lib.hid (List.drop_eq_getElem_cons hlt)
      by_cases hneg : ar l[k].1 < 0
      · go_wp2_with (go_at_call 37; refine (rarity_any _ _).mono ?_; rintro e w' ⟨rfl, rfl⟩)
        go_ret
        exact ⟨ybc (by rw [he.out, endR_bad m k l hm1 hlt hneg]), rfl⟩
      · by_cases hz : (m : Int) + (ar l[k].1 - 1) = 0
        · have hz' : ((m : Int) + (ar l[k].1 - 1) == 0) = true := by simp; omega
          have HZ := Lib.hid hz
          clear hz
          go_wp2_with (go_at_call 37; refine (rarity_any _ _).mono ?_; rintro e w' ⟨rfl, rfl⟩)
          go_ret
          exact ⟨ybc (by rw [he.out, endR_done m k l hm1 hlt (by omega) HZ.out]), rfl⟩
        · have hz' : ((m : Int) + (ar l[k].1 - 1) == 0) = false := by simp; omega
          go_wp2_with (go_at_call 37; refine (rarity_any _ _).mono ?_; rintro e w' ⟨rfl, rfl⟩)
          exact ⟨⟨k + 1, m + (ar l[k].1).toNat - 1, by omega, by omega, by omega, by go_num, by congr 1; omega, he.out.trans (endR_step m k l hm1 hlt (by omega))⟩, by simp [intOf]; omega⟩
    · go_wp2
      go_ret
      exact ⟨ybc (by rw [he.out, endR_none m k l hm1 (by omega)]), rfl⟩
end Go.Proofs.YtcpgpiabeimefaaGreatDoor
set_option maxRecDepth 100000
namespace Go.Proofs.YtcpgpiabeimefaaGreatDoor
open Go.ChangeShapes Go.WideShapes Go.RowKit

theorem cellsInt : Tryz.prog.cellsOf 3 = 1 := by kernel_rfl
theorem cellsTerm : Tryz.prog.cellsOf 38 = 2 := by kernel_rfl
section
variable {H : Type} {enc : TypeId × Value → H} {w : World} {cs : List Value} {v : Value} {base : Nat} {d : DataW H} {ps : List MemPlace}
def TermIn (t : Tm) : Prop := In64 t.1 ∧ In64 t.2
theorem rd_term (h : Rd enc Tryz.prog w 38 cs) : ∃ t : Tm, cs = [.int .i64 t.1, .int .i64 t.2] ∧ TermIn t := by
  obtain ⟨h1, h2⟩ := rd_struct Tryz.underlying38 h
  rw [cellsTerm] at h1
  match cs, h1 with
  | [a, b], _ =>
    have g0 := h2 0 _ rfl
    have g1 := h2 1 _ rfl
    simp [cellsInt] at g0 g1
    obtain ⟨x, hx, hx'⟩ := rd_int64 Tryz.underlying3 g0
    obtain ⟨y, hy, hy'⟩ := rd_int64 Tryz.underlying3 g1
    simp at hx hy
    exact ⟨(x, y), by simp [hx, hy], hx', hy'⟩
theorem terms_of_seq {l : List Tm} (h : Seq (fun cs (t : Tm) => cs = [.int .i64 t.1, .int .i64 t.2] ∧ TermIn t) 2 w v l) : Terms w v l ∧ ∀ t ∈ l, TermIn t := by
  refine ⟨seq_flat (fun t : Tm => [.int .i64 t.1, .int .i64 t.2]) (fun _ => rfl) (by omega) h (fun cs x h => h.1), fun x hx => ?_⟩
  obtain ⟨xs, _, h2⟩ := h
  obtain ⟨i, hi⟩ := List.getElem?_of_mem hx
  exact (h2 i x hi).2
theorem open_terms (hv : Value.okWide Tryz.prog w .any base 25 v) (h : DataW.Trod enc Tryz.prog w 0 (fun _ => true) true 25 v d ps) : ∃ l, Terms w v l ∧ ∀ t ∈ l, TermIn t := by
  obtain ⟨l, hl⟩ := open_seq_arg (R := fun cs (t : Tm) => cs = [.int .i64 t.1, .int .i64 t.2] ∧ TermIn t) Tryz.underlying25 cellsTerm (Nat.succ_pos 1) (fun cs h => rd_term h) hv h
  exact ⟨l, terms_of_seq hl⟩
end
end Go.Proofs.YtcpgpiabeimefaaGreatDoor
set_option linter.unusedVariables false
set_option maxRecDepth 100000
namespace Go.Proofs.YtcpgpiabeimefaaGreatDoor
open Go.ChangeShapes Go.WideShapes Go.RowKit

structure VarD where
  name : ByteArray
  kind : Int
  lo : Int
  hi : Int
  perNode : Int
  perID : Int
structure SetD where
  var : Int
  val : List Tm
structure RuleD where
  name : ByteArray
  guard : List Tm
  sets : List SetD
structure ProgD where
  name : ByteArray
  vars : List VarD
  rules : List RuleD

section
variable {H : Type} {enc : TypeId × Value → H} {w : World} {cs : List Value} {v : Value} {base : Nat} {d : DataW H} {ps : List MemPlace}
end
end Go.Proofs.YtcpgpiabeimefaaGreatDoor
set_option linter.unusedVariables false
set_option maxRecDepth 100000
namespace Go.Proofs.YtcpgpiabeimefaaGreatDoor
open Go.RowKit

def ydg (t : Tm) : List AV := [i64 t.1, i64 t.2]
def yay (l : List Tm) : AV := .sl 2 (l.map ydg)
structure FaultD where
  node : Int
  var : Int
  value : Int
theorem seq_of_rel {α : Type} {f : α → List AV} {R : List Value → α → Prop} {ok : Nat → Prop} {w : World} {lv : Live} {size : Nat} {l : List α} {v : Value} (h : Rel ok w lv (.sl size (l.map f)) v) (hok : ∀ g, ok g → g < w.heap.size)
    (hR : ∀ x ∈ l, ∀ cs, ycg ok w (fun _ => none) (f x) cs → R cs x) : Seq R size w v l := by
  cases h with
  | sl a cap u g o hn hc ha hsz hg hcell hrel =>
    simp only [List.length_map] at hn ⊢
    have hfl : ∀ x ∈ l, (f x).length = size := fun x hx => hsz _ (List.mem_map_of_mem hx)
    refine ⟨(List.range (l.length * size)).map fun j => u (j / size) (j % size), ⟨a, cap, rfl, hn, hc, by simp, ha, ?_⟩, fun i x hx => ?_⟩
    · rcases Nat.eq_zero_or_pos l.length with h0 | h0
      · exact .inl h0
      · obtain ⟨rfl, hok'⟩ := hg (by intro h; simp at h; simp [h] at h0)
        refine .inr ⟨g, o, rfl, hok g hok', fun j v hj => ?_⟩
        have hlt := (List.getElem?_eq_some_iff.1 hj).1
        simp only [List.length_map, List.length_range] at hlt
        rw [List.getElem?_map, List.getElem?_range hlt] at hj
        simp only [Option.map_some, Option.some.injEq] at hj
        have hs0 : 0 < size := by
          rcases Nat.eq_zero_or_pos size with h | h
          · simp [h] at hlt
          · exact h
        have hi : j / size < l.length := by rw [Nat.div_lt_iff_lt_mul hs0]; exact hlt
        have hx := List.getElem?_eq_getElem hi
        have hm : j % size < (f l[j / size]).length := by rw [hfl _ (List.getElem_mem hi)]; exact Nat.mod_lt _ hs0
        have := (hcell (j / size) (j % size) (f l[j / size]) _ (by simp [hx]) (List.getElem?_eq_getElem hm)).1
        rw [← hj, ← this]
        congr 2
        rw [Nat.add_assoc, Nat.mul_comm, Nat.div_add_mod]
    · refine hR x (List.mem_of_getElem? hx) _ ⟨?_, fun j c v hc hv => ?_⟩
      · have hi := (List.getElem?_eq_some_iff.1 hx).1
        rw [hfl x (List.mem_of_getElem? hx), List.length_take, List.length_drop, List.length_map, List.length_range]
        have : i * size + size ≤ l.length * size := by rw [← Nat.succ_mul]; exact Nat.mul_le_mul_right _ hi
        omega
      · have hj : j < size := by have := (List.getElem?_eq_some_iff.1 hc).1; rw [hfl x (List.mem_of_getElem? hx)] at this; exact this
        have hi := (List.getElem?_eq_some_iff.1 hx).1
        have hlt : i * size + j < l.length * size := by
          have : i * size + size ≤ l.length * size := by rw [← Nat.succ_mul]; exact Nat.mul_le_mul_right _ hi
          omega
        rw [List.getElem?_take, if_pos hj, List.getElem?_drop, List.getElem?_map, List.getElem?_range hlt] at hv
        simp only [Option.map_some, Option.some.injEq] at hv
        have e1 : (i * size + j) / size = i := by rw [Nat.add_comm, Nat.add_mul_div_right _ _ (by omega), Nat.div_eq_of_lt hj, Nat.zero_add]
        have e2 : (i * size + j) % size = j := by rw [Nat.add_comm, Nat.add_mul_mod_self_right, Nat.mod_eq_of_lt hj]
        rw [e1, e2] at hv
        subst hv
        exact hrel i j (f x) c (by simp [hx]) hc
theorem rowFlat {α : Type} {g : α → List Value} {size : Nat} {w : World} {v : Value} {l : List α} (hg : ∀ x, (g x).length = size) (h0 : 0 < size) (h : Seq (fun cs x => cs = g x) size w v l) : Row w v size l.length (l.flatMap g) := seq_flat g hg h0 h fun cs x h => h

theorem terms_of_rel {ok : Nat → Prop} {w : World} {lv : Live} {l : List Tm} {v : Value} (h : Rel ok w lv (yay l) v) (hok : ∀ g, ok g → g < w.heap.size) : Terms w v l :=
  rowFlat (g := fun t : Tm => [.int .i64 t.1, .int .i64 t.2]) (fun _ => rfl) (by omega) (seq_of_rel h hok fun x _ cs hr => by
    obtain ⟨u, v, rfl, h1, h2⟩ := relAll2 hr
    rw [rel_v h1, rel_v h2])
end Go.Proofs.YtcpgpiabeimefaaGreatDoor
set_option maxRecDepth 100000
namespace Go.Proofs.YtcpgpiabeimefaaGreatDoor
open Go.RowKit

set_option maxHeartbeats 400000 in
theorem letter_any (c : UInt8) (w : World) :
    Calls Tryz.prog 74 #[.int .u8 (c.toNat : Int)] w fun e w' => e = .returned (.bool (ycm c)) ∧ w = w' := by
  go_enter Tryz.func74, Tryz.ntmps74
  go_wp2
  all_goals go_ret
  all_goals exact ⟨yas (by rw [Bool.eq_iff_iff]; simp [ycm, UInt8.le_iff_toNat_le]; omega), rfl⟩

set_option maxHeartbeats 400000 in
theorem digit_any (c : UInt8) (w : World) :
    Calls Tryz.prog 79 #[.int .u8 (c.toNat : Int)] w fun e w' => e = .returned (.bool (ybo c)) ∧ w = w' := by
  go_enter Tryz.func79, Tryz.ntmps79
  go_wp2
  all_goals go_ret
  all_goals exact ⟨yas (by rw [Bool.eq_iff_iff]; simp [ybo, UInt8.le_iff_toNat_le]; omega), rfl⟩

set_option maxHeartbeats 400000 in
theorem inWord_any (c : UInt8) (w : World) :
    Calls Tryz.prog 75 #[.int .u8 (c.toNat : Int)] w fun e w' => e = .returned (.bool (ydx c)) ∧ w = w' := by
  go_enter Tryz.func75, Tryz.ntmps75
  cases h1 : ycm c <;> cases h2 : ybo c
  all_goals
    go_wp2_with (first | (go_at_call 74; refine (letter_any _ _).mono ?_; rintro e w' ⟨rfl, rfl⟩) | (go_at_call 79; refine (digit_any _ _).mono ?_; rintro e w' ⟨rfl, rfl⟩))
    go_ret
    exact ⟨yas (by rw [Bool.eq_iff_iff]; simp [ydx, h1, h2, ← UInt8.toNat_inj]; try omega), rfl⟩
set_option maxHeartbeats 400000 in
theorem rletter_any (c : UInt8) (w : World) :
    Calls Tryz.prog 92 #[.int .u8 (c.toNat : Int)] w fun e w' => e = .returned (.bool (ycm c)) ∧ w = w' := by
  go_enter Tryz.func92, Tryz.ntmps92
  go_wp2
  all_goals go_ret
  all_goals exact ⟨yas (by rw [Bool.eq_iff_iff]; simp [ycm, UInt8.le_iff_toNat_le]; omega), rfl⟩

set_option maxHeartbeats 400000 in
theorem rdigit_any (c : UInt8) (w : World) :
    Calls Tryz.prog 95 #[.int .u8 (c.toNat : Int)] w fun e w' => e = .returned (.bool (ybo c)) ∧ w = w' := by
  go_enter Tryz.func95, Tryz.ntmps95
  go_wp2
  all_goals go_ret
  all_goals exact ⟨yas (by rw [Bool.eq_iff_iff]; simp [ybo, UInt8.le_iff_toNat_le]; omega), rfl⟩

set_option maxHeartbeats 400000 in
theorem rinner_any (c : UInt8) (w : World) :
    Calls Tryz.prog 93 #[.int .u8 (c.toNat : Int)] w fun e w' => e = .returned (.bool (ydx c)) ∧ w = w' := by
  go_enter Tryz.func93, Tryz.ntmps93
  cases h1 : ycm c <;> cases h2 : ybo c
  all_goals
    go_wp2_with (first | (go_at_call 92; refine (rletter_any _ _).mono ?_; rintro e w' ⟨rfl, rfl⟩) | (go_at_call 95; refine (rdigit_any _ _).mono ?_; rintro e w' ⟨rfl, rfl⟩))
    go_ret
    exact ⟨yas (by rw [Bool.eq_iff_iff]; simp [ydx, h1, h2, ← UInt8.toNat_inj]; try omega), rfl⟩

set_option maxHeartbeats 1000000 in
theorem skip_any (s : ByteArray) (a : Nat) (w : World) (hs : s.size ≤ 20000) (ha : a ≤ s.size) :
    Calls Tryz.prog 41 #[.string s, .int .i64 a] w fun e w' => e = .returned (.int .i64 (ybi s false a)) ∧ w = w' := by
  go_enter Tryz.func41, Tryz.ntmps41
  go_wp2
  go_loop [1] (fun i => ∃ k : Nat, k ≤ s.size ∧ i = .int .i64 k ∧ Hid (ybi s false a = ybi s false k)) (fun i => s.size - (intOf i).toNat)
  case atStart => exact ⟨a, ha, rfl, rfl⟩
  case round =>
    obtain ⟨k, hk, rfl, hk2⟩ := hrel
    by_cases hlt : k < s.size
    · go_wp2
      all_goals try simp only [beq_iff_eq, beq_eq_false_iff_ne, ne_eq] at *
      iterate 4 exact ⟨⟨k + 1, by omega, by go_num, hk2.out.trans (skipTo_blank s k hlt (by simp [← UInt8.toNat_inj]; omega))⟩, by simp [intOf]; omega⟩
      · go_loop [1] (fun i => ∃ j : Nat, k ≤ j ∧ j ≤ s.size ∧ i = .int .i64 j ∧ (k < j ∨ (j = k ∧ s[k].toNat = 35)) ∧ Hid (ybi s false a = ybi s true j)) (fun i => s.size - (intOf i).toNat)
        case atStart => exact ⟨k, by omega, by omega, rfl, .inr ⟨rfl, by omega⟩, hk2.out.trans (skipTo_hash s k hlt (by simp [← UInt8.toNat_inj]; omega))⟩
        case round =>
          obtain ⟨j, hj, hj', rfl, hjk, hj2⟩ := hrel
          by_cases hlj : j < s.size
          · go_wp2
            all_goals try simp only [bne_iff_ne, bne_eq_false_iff_eq, ne_eq] at *
            · exact ⟨⟨j + 1, by omega, by omega, by go_num, .inl (by omega), hj2.out.trans (skipTo_in s j hlj (by simp [← UInt8.toNat_inj]; omega))⟩, by simp [intOf]; omega⟩
            · have hkj : k < j := by rcases hjk with h | ⟨rfl, h⟩ <;> omega
              exact ⟨⟨j, by omega, rfl, hj2.out.trans (skipTo_nl s j hlj (by simp [← UInt8.toNat_inj]; omega))⟩, by simp [intOf]; omega⟩
          · go_wp2
            exact ⟨⟨j, by omega, rfl, hj2.out.trans (by rw [skipTo_end _ _ _ (by omega), skipTo_end _ _ _ (by omega)])⟩, by simp [intOf]; omega⟩
      · go_ret
        rw [hk2.out, skipTo_stop _ _ hlt (by simp [← UInt8.toNat_inj]; omega) (by simp [← UInt8.toNat_inj]; omega)]
        exact ⟨rfl, rfl⟩
    · go_wp2
      go_ret
      rw [hk2.out, skipTo_end _ _ _ (by omega)]
      exact ⟨rfl, rfl⟩

set_option maxHeartbeats 1000000 in
theorem rblanks_any (s : ByteArray) (a : Nat) (w : World) (hs : s.size ≤ 20000) (ha : a ≤ s.size) :
    Calls Tryz.prog 55 #[.string s, .int .i64 a] w fun e w' => e = .returned (.int .i64 (ybi s false a)) ∧ w = w' := by
  go_enter Tryz.func55, Tryz.ntmps55
  go_wp2
  go_loop [1] (fun i => ∃ k : Nat, k ≤ s.size ∧ i = .int .i64 k ∧ Hid (ybi s false a = ybi s false k)) (fun i => s.size - (intOf i).toNat)
  case atStart => exact ⟨a, ha, rfl, rfl⟩
  case round =>
    obtain ⟨k, hk, rfl, hk2⟩ := hrel
    by_cases hlt : k < s.size
    · go_wp2
      all_goals try simp only [beq_iff_eq, beq_eq_false_iff_ne, ne_eq] at *
      iterate 4 exact ⟨⟨k + 1, by omega, by go_num, hk2.out.trans (skipTo_blank s k hlt (by simp [← UInt8.toNat_inj]; omega))⟩, by simp [intOf]; omega⟩
      · go_loop [1] (fun i => ∃ j : Nat, k ≤ j ∧ j ≤ s.size ∧ i = .int .i64 j ∧ (k < j ∨ (j = k ∧ s[k].toNat = 35)) ∧ Hid (ybi s false a = ybi s true j)) (fun i => s.size - (intOf i).toNat)
        case atStart => exact ⟨k, by omega, by omega, rfl, .inr ⟨rfl, by omega⟩, hk2.out.trans (skipTo_hash s k hlt (by simp [← UInt8.toNat_inj]; omega))⟩
        case round =>
          obtain ⟨j, hj, hj', rfl, hjk, hj2⟩ := hrel
          by_cases hlj : j < s.size
          · go_wp2
            all_goals try simp only [bne_iff_ne, bne_eq_false_iff_eq, ne_eq] at *
            · exact ⟨⟨j + 1, by omega, by omega, by go_num, .inl (by omega), hj2.out.trans (skipTo_in s j hlj (by simp [← UInt8.toNat_inj]; omega))⟩, by simp [intOf]; omega⟩
            · have hkj : k < j := by rcases hjk with h | ⟨rfl, h⟩ <;> omega
              exact ⟨⟨j, by omega, rfl, hj2.out.trans (skipTo_nl s j hlj (by simp [← UInt8.toNat_inj]; omega))⟩, by simp [intOf]; omega⟩
          · go_wp2
            exact ⟨⟨j, by omega, rfl, hj2.out.trans (by rw [skipTo_end _ _ _ (by omega), skipTo_end _ _ _ (by omega)])⟩, by simp [intOf]; omega⟩
      · go_ret
        rw [hk2.out, skipTo_stop _ _ hlt (by simp [← UInt8.toNat_inj]; omega) (by simp [← UInt8.toNat_inj]; omega)]
        exact ⟨rfl, rfl⟩
    · go_wp2
      go_ret
      rw [hk2.out, skipTo_end _ _ _ (by omega)]
      exact ⟨rfl, rfl⟩

def NumRet (ds : List UInt8) (w : World) (e : Ending) (w' : World) : Prop :=
  w = w' ∧ ((∃ v : Nat, numRes ds = some v ∧ e = .returned (.tuple #[.int .i64 v, .bool true])) ∨ (∃ u : Int, numRes ds = none ∧ e = .returned (.tuple #[.int .i64 u, .bool false])))

set_option maxHeartbeats 1000000 in
theorem number_any (s : ByteArray) (w : World) (hs : s.size ≤ 20000) (h0 : 0 < s.size) (hd : Hid (∀ c ∈ yal s 0, ybo c = true)) :
    Calls Tryz.prog 80 #[.string s] w (NumRet (yal s 0) w) := by
  have hh : Hid _ := Lib.hid (head_bytes s h0)
  have hl : Hid _ := Lib.hid (ycf s 0)
  go_enter Tryz.func80, Tryz.ntmps80
  go_wp2
  · go_ret2
    exact ⟨rfl, .inr ⟨0, numRes_zero _ (by rw [hl.out]; omega) (by rw [hh.out]; simp [← UInt8.toNat_inj]; omega), rfl⟩⟩
  all_goals
    have hz : Hid (¬ (1 < (yal s 0).length ∧ (yal s 0).head? = some 48)) := Lib.hid (by rw [hl.out, hh.out]; simp [← UInt8.toNat_inj]; omega)
    go_loop [4, 5, 16] (fun v _ i => ∃ k n : Nat, k ≤ s.size ∧ i = .int .i64 k ∧ n ≤ 1073741824 ∧ v = .int .i64 n ∧ Hid (n = numL 0 ((yal s 0).take k))) (fun _ _ i => s.size - (intOf i).toNat)
    case atStart => exact ⟨0, 0, by omega, rfl, by omega, rfl, by rw [List.take_zero, numL_nil]; rfl⟩
    case round =>
      obtain ⟨k, n, hk, rfl, hn, rfl, hv⟩ := hrel
      by_cases hlt : k < s.size
      · have hb := digit_bd s[k] (hd.out _ (mem_bytes s k hlt))
        have hb1 := hb.1
        have hb2 := hb.2
        clear hb
        go_wp2
        · go_ret2
          exact ⟨rfl, .inr ⟨0, numRes_big _ (k + 1) (by rw [num_step s k hlt, ← hv.out]; have := dig_int n s[k] hb1; omega), rfl⟩⟩
        · have hdi := dig_int n s[k] hb1
          exact ⟨⟨k + 1, dig n s[k], by omega, by go_num, by omega, by rw [hdi], by rw [num_step s k hlt, ← hv.out]; rfl⟩, by simp [intOf]; omega⟩
      · go_wp2
        go_ret2
        have h1 := hv.out
        rw [take_all _ _ (by omega)] at h1
        exact ⟨rfl, .inl ⟨n, by rw [h1]; exact numRes_ok _ hz.out (by omega), rfl⟩⟩

set_option maxHeartbeats 1000000 in
theorem rnumber_any (s : ByteArray) (w : World) (hs : s.size ≤ 20000) (h0 : 0 < s.size) (hd : Hid (∀ c ∈ yal s 0, ybo c = true)) :
    Calls Tryz.prog 96 #[.string s] w (NumRet (yal s 0) w) := by
  have hh : Hid _ := Lib.hid (head_bytes s h0)
  have hl : Hid _ := Lib.hid (ycf s 0)
  go_enter Tryz.func96, Tryz.ntmps96
  by_cases h10 : 10 < s.size
  · go_wp2
    all_goals go_ret2
    all_goals exact ⟨rfl, .inr ⟨0, numRes_long _ hd.out (by rw [hl.out]; omega), rfl⟩⟩
  by_cases hq : 1 < s.size ∧ s[0].toNat = 48
  · obtain ⟨hq1, hq2⟩ := hq
    have hq3 : ((s[0].toNat : Int) == 48) = true := by simp; omega
    go_wp2
    go_ret2
    exact ⟨rfl, .inr ⟨0, numRes_zero _ (by rw [hl.out]; omega) (by rw [hh.out]; simp [← UInt8.toNat_inj]; omega), rfl⟩⟩
  · have hz : Hid (¬ (1 < (yal s 0).length ∧ (yal s 0).head? = some 48)) := Lib.hid (by rw [hl.out, hh.out]; simp [← UInt8.toNat_inj]; omega)
    have hq' : s.size ≤ 1 ∨ (1 < s.size ∧ ((s[0].toNat : Int) == 48) = false) := by
      rcases Nat.lt_or_ge 1 s.size with h | h
      · exact .inr ⟨h, by simp; omega⟩
      · exact .inl h
    clear hq
    rcases hq' with hq | ⟨hq, hq2⟩
    all_goals
      go_wp2
      go_loop [4, 5] (fun v i => ∃ k n : Nat, k ≤ s.size ∧ i = .int .i64 k ∧ n ≤ 9999999999 ∧ v = .int .i64 n ∧ Hid (n = numL 0 ((yal s 0).take k))) (fun _ i => s.size - (intOf i).toNat)
      case atStart => exact ⟨0, 0, by omega, rfl, by omega, rfl, by rw [List.take_zero, numL_nil]; rfl⟩
      case round =>
        obtain ⟨k, n, hk, rfl, hn, rfl, hv⟩ := hrel
        by_cases hlt : k < s.size
        · have hb := digit_bd s[k] (hd.out _ (mem_bytes s k hlt))
          have hb1 := hb.1
          have hb2 := hb.2
          clear hb
          go_wp2
          have hdi := dig_int n s[k] hb1
          have hs1 := num_step s k hlt
          have hs2 := num_take_bd (yal s 0) (k + 1) hd.out (by rw [hl.out]; omega)
          rw [hs1, ← hv.out] at hs2
          exact ⟨⟨k + 1, dig n s[k], by omega, by go_num, hs2, by rw [hdi], by rw [hs1, ← hv.out]; rfl⟩, by simp [intOf]; omega⟩
        · by_cases hm : n ≤ 1073741824
          · go_wp2
            go_ret2
            have h1 := hv.out
            rw [take_all _ _ (by omega)] at h1
            refine ⟨rfl, .inl ⟨n, by rw [h1]; exact numRes_ok _ hz.out (by omega), ?_⟩⟩
            first | rfl | (simp; omega)
          · go_wp2
            go_ret2
            have h1 := hv.out
            rw [take_all _ _ (by omega)] at h1
            refine ⟨rfl, .inr ⟨n, numRes_no _ (by omega), ?_⟩⟩
            first | rfl | (simp; omega)
end Go.Proofs.YtcpgpiabeimefaaGreatDoor
