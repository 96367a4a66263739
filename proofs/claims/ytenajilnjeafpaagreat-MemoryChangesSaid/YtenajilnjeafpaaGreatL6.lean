/- Part 6 of the texts under MemoryRanks,MemoryChanges,MemoryCarries,MemoryCorruptsNamedNodes,MemoryCarriesToItself: joined, with what it needs alone. -/
import Derived.Lib.AppendStr
import Derived.Lib.UnsafeStr
import Derived.Lib.Builder
import Derived.Laws.Externs
import Derived.Laws.Pointers
import Derived.LaidEqlPtr
import Derived.RangeFuncNested
import Derived.RangeFuncSeq
import Derived.Test.YtenajilnjeafpaaGreatL5
set_option linter.unusedVariables false
namespace Go.Proofs.YtenajilnjeafpaaGreat
open Go.RowKit

def renA (σ : Nat → Nat) : AV → AV
  | .lp id off => .lp (σ id) off
  | .ls id s n => .ls (σ id) s n
  | .mp id => .mp (σ id)
  | .agg cs => .agg (renL cs)
  | .tup cs => .tup (renL cs)
  | .fn f cs => .fn f (renL cs)
  | x => x
  where renL : List AV → List AV
  | [] => []
  | c :: cs => renA σ c :: renL cs
theorem renL_map (σ : Nat → Nat) : ∀ cs, renA.renL σ cs = cs.map (renA σ)
  | [] => rfl
  | c :: cs => by simp [renA.renL, renL_map σ cs]
def onlyA (ids : List Nat) : AV → Bool
  | .lp id _ => ids.contains id
  | .ls id _ _ => ids.contains id
  | .mp id => ids.contains id
  | .agg cs => onlyL cs
  | .tup cs => onlyL cs
  | .fn _ cs => onlyL cs
  | _ => true
  where onlyL : List AV → Bool
  | [] => true
  | c :: cs => onlyA ids c && onlyL cs
def renO (σ : Nat → Nat) : LObj → LObj
  | .cells xs => .cells (renA.renL σ xs)
  | .tcells e xs => .tcells e (renA.renL σ xs)
  | .mcells xs => .mcells (renA.renL σ xs)
  | o => o
def onlyO (ids : List Nat) : LObj → Bool
  | .cells xs => onlyA.onlyL ids xs
  | .tcells _ xs => onlyA.onlyL ids xs
  | .mcells xs => onlyA.onlyL ids xs
  | _ => true
theorem cellA_ren (σ : Nat → Nat) (x : AV) : cellA (renA σ x) = cellA x := by cases x <;> rfl

section
variable {ok : Nat → Prop} {w : World} {lv lv1 : Live} {σ : Nat → Nat}
theorem Rel.unren (hl : ∀ id b n, lv1 id = some (b, n) → lv (σ id) = some (b, n)) : ∀ {x : AV} {u : Value}, Rel ok w lv (renA σ x) u → Rel ok w lv1 x u
  | .v _, u, h => by cases h; exact .v _
  | .any, u, h => .any u
  | .one, u, h => by cases h with | one _ h1 => exact .one _ h1
  | .sl s rows, u, h => by cases h with | sl a cap u g o hn hc ha hr hg hcell hrel => exact .sl a cap u g o hn hc ha hr hg hcell hrel
  | .dp row off, u, h => by cases h with | dp g o u hg hcell hrel => exact .dp g o u hg hcell hrel
  | .mv es, u, h => by cases h with | mv b hg hm => exact .mv b hg hm
  | .lp id off, u, h => by cases h with | lp _ h1 h2 => exact .lp _ h1 fun b n hb => h2 b n (hl id _ n hb)
  | .ls id s n, u, h => by cases h with | ls _ h1 h2 => exact .ls _ h1 fun b n hb => h2 b n (hl id _ n hb)
  | .mp id, u, h => by cases h with | mp _ h1 h2 => exact .mp _ h1 fun b n hb => h2 b n (hl id _ n hb)
  | .agg cs, u, h => by
    cases h with
    | agg vs hlen hc hr =>
      exact .agg vs (by rw [hlen, renL_map]; simp) (fun c hm => by rw [← cellA_ren σ]; exact hc _ (by rw [renL_map]; exact List.mem_map_of_mem hm)) (rows hr)
  | .tup cs, u, h => by
    cases h with
    | tup vs hlen hr => exact .tup vs (by rw [hlen, renL_map]; simp) (rows hr)
  | .fn f cs, u, h => by
    cases h with
    | fn vs hlen hr => exact .fn vs (by rw [hlen, renL_map]; simp) (rows hr)
  where rows : ∀ {cs : List AV} {vs : List Value}, (∀ (i : Nat) (c : AV) (u : Value), (renA.renL σ cs)[i]? = some c → vs[i]? = some u → Rel ok w lv c u) → ∀ (i : Nat) (c : AV) (u : Value), cs[i]? = some c → vs[i]? = some u → Rel ok w lv1 c u
  | [], vs, _, i, c, u, hc, _ => by simp at hc
  | d :: cs, [], _, i, c, u, _, hu => by simp at hu
  | d :: cs, q :: vs, h, 0, c, u, hc, hu => by
    simp at hc hu
    subst hc hu
    exact Rel.unren hl (h 0 _ _ rfl rfl)
  | d :: cs, q :: vs, h, i + 1, c, u, hc, hu => rows (fun j c u h1 h2 => h (j + 1) c u (by simpa [renA.renL] using h1) (by simpa using h2)) i c u (by simpa using hc) (by simpa using hu)
theorem Rel.ren {ids : List Nat} (hl : ∀ id b n, id ∈ ids → lv (σ id) = some (b, n) → lv1 id = some (b, n)) : ∀ {x : AV} {u : Value}, onlyA ids x = true → Rel ok w lv1 x u → Rel ok w lv (renA σ x) u
  | .v _, u, _, h => by cases h; exact .v _
  | .any, u, _, h => .any u
  | .one, u, _, h => by cases h with | one _ h1 => exact .one _ h1
  | .sl s rows, u, _, h => by cases h with | sl a cap u g o hn hc ha hr hg hcell hrel => exact .sl a cap u g o hn hc ha hr hg hcell hrel
  | .dp row off, u, _, h => by cases h with | dp g o u hg hcell hrel => exact .dp g o u hg hcell hrel
  | .mv es, u, _, h => by cases h with | mv b hg hm => exact .mv b hg hm
  | .lp id off, u, ho, h => by cases h with | lp _ h1 h2 => exact .lp _ h1 fun b n hb => h2 b n (hl id _ n (by simpa [onlyA] using ho) hb)
  | .ls id s n, u, ho, h => by cases h with | ls _ h1 h2 => exact .ls _ h1 fun b n hb => h2 b n (hl id _ n (by simpa [onlyA] using ho) hb)
  | .mp id, u, ho, h => by cases h with | mp _ h1 h2 => exact .mp _ h1 fun b n hb => h2 b n (hl id _ n (by simpa [onlyA] using ho) hb)
  | .agg cs, u, ho, h => by
    cases h with
    | agg vs hlen hc hr =>
      refine .agg vs (by rw [hlen, renL_map]; simp) (fun c hm => ?_) (rows ho hr)
      rw [renL_map] at hm
      obtain ⟨y, hy, rfl⟩ := List.mem_map.1 hm
      rw [cellA_ren]; exact hc y hy
  | .tup cs, u, ho, h => by
    cases h with
    | tup vs hlen hr => exact .tup vs (by rw [hlen, renL_map]; simp) (rows ho hr)
  | .fn f cs, u, ho, h => by
    cases h with
    | fn vs hlen hr => exact .fn vs (by rw [hlen, renL_map]; simp) (rows ho hr)
  where rows : ∀ {cs : List AV} {vs : List Value}, onlyA.onlyL ids cs = true → (∀ (i : Nat) (c : AV) (u : Value), cs[i]? = some c → vs[i]? = some u → Rel ok w lv1 c u) → ∀ (i : Nat) (c : AV) (u : Value), (renA.renL σ cs)[i]? = some c → vs[i]? = some u → Rel ok w lv c u
  | [], vs, _, _, i, c, u, hc, _ => by simp [renA.renL] at hc
  | d :: cs, [], _, _, i, c, u, _, hu => by simp at hu
  | d :: cs, q :: vs, ho, h, 0, c, u, hc, hu => by
    simp only [onlyA.onlyL, Bool.and_eq_true] at ho
    simp [renA.renL] at hc hu
    subst hc hu
    exact Rel.ren hl ho.1 (h 0 _ _ rfl rfl)
  | d :: cs, q :: vs, ho, h, i + 1, c, u, hc, hu => by
    simp only [onlyA.onlyL, Bool.and_eq_true] at ho
    exact rows ho.2 (fun j c u h1 h2 => h (j + 1) c u (by simpa using h1) (by simpa using h2)) i c u (by simpa [renA.renL] using hc) (by simpa using hu)
end

def lentOf (lv : Live) (b : Nat) : Prop := ∃ id n, lv id = some (some b, n)
def baseM (w : World) (lv : Live) : Bse := ⟨w, lentOf lv, fun _ => none, none, [], fun _ => undef⟩
/-- The call of f, given blocks hs of the caller's own, returns r and leaves hs'. Structs and variables stay where they are. -/
def ConM (P : Program) (f : FuncId) (args : List AV) (hs : Nat → Option LObj) (r : AV) (hs' : Nat → Option LObj) : Prop :=
  HasBody P f ∧ (∀ id o, hs' id = some o → isC o = true → ∃ o', hs id = some o' ∧ isC o' = true) ∧ ∀ (ok0 : Nat → Prop) (lv : Live) (w : World) (us : List Value), Inv (baseM w lv) ok0 hs lv w → RelAll (okOf (baseM w lv) ok0 lv w) w lv args us →
    Calls P f us.toArray w fun e w' => ∃ u lv', e = .returned u ∧ Rel (okOf (baseM w lv) ok0 lv' w') w' lv' r u ∧ Inv (baseM w lv) ok0 hs' lv' w' ∧ ∀ id o, hs' id = some o → isC o = true → ∃ b n n', lv id = some (some b, n) ∧ lv' id = some (some b, n')

theorem Inv.pinned {B : Bse} {ok0 : Nat → Prop} {h : Nat → Option LObj} {lv : Live} {w : World} (hi : Inv B ok0 h lv w) (p : Nat → Option Nat) (rd : Option Nat) (dl : List Deferred) (gv : Nat → Value) (hrd : ∀ l, rd = some l → (∃ r, B.w.heap[l]? = some (.loop r)) ∧ ¬ B.lent l) : Inv ⟨B.w, B.lent, p, rd, dl, gv⟩ ok0 h lv w :=
  ⟨⟨hi.base.os, hi.base.tape, hi.base.output, hi.base.size, hi.base.block, hi.base.glob, hi.base.gsize, hi.base.lentG, hrd⟩, hi.ok0lt, hi.dom, hi.inj, fun id x hx => by
    obtain ⟨b, n, h1, h2⟩ := hi.obj id x hx
    refine ⟨b, n, h1, ?_⟩
    cases b with
    | none => exact h2
    | some b => exact h2⟩

def EndsM (T : Nat → Option Ty) (rs : List ResultVar) (r : AV) (hs' : Nat → Option LObj) : Exit → SS → Prop
  | .normal, s => ∃ x, resAT T s rs = some x ∧ Wk x r ∧ ∀ id o, hs' id = some o → s.h id = some o
  | .ret, s => ∃ x, resAT T s rs = some x ∧ Wk x r ∧ ∀ id o, hs' id = some o → s.h id = some o
  | _, _ => False

theorem conM_of {P : Program} {T : Nat → Option Ty} (hT : TOK P T) {f : FuncId} {fn : Func} {c : Code} {N : Nat} {rs : List ResultVar} {args : List AV} {hs hs' : Nat → Option LObj} {r : AV} (hf : P.funcs[f]? = some fn) (hn : (fn.name == "runtime.NumGoroutine") = false) (hb : fn.body = some c) (hN : fn.ntmps = N) (hrs : fn.results = rs.toArray) (hlen : (Nat.ble args.length N && Nat.ble N 1000000) = true)
    (hcl : ∀ id o, hs' id = some o → isC o = true → N ≤ id ∧ ∃ o', hs id = some o' ∧ isC o' = true) (h : A P N c (EndsM T rs r hs') ⟨look (enumF 0 args), hs⟩) : ConM P f args hs r hs' := by
  refine ⟨⟨fn, hf, hn, by simp [hb]⟩, fun id o hx hc => (hcl id o hx hc).2, fun ok0 lv w us hi hus => ?_⟩
  simp only [Bool.and_eq_true, Nat.ble_eq] at hlen
  obtain ⟨hlen', hbig⟩ := hlen
  refine (callsIn_wide (n := 0)).1 (callsIn_of_wp_marks hf hb trivial ?_)
  have hsim : Sim ⟨w, lentOf lv, fun id => (lv id).bind (·.1), none, [], fun _ => undef⟩ ok0 N ⟨look (enumF 0 args), hs⟩ lv { tmps := us.toArray ++ Array.replicate (fn.ntmps - us.toArray.size) undef, defers := [] } w := by
    refine ⟨hi.pinned _ _ _ _ (fun l h => by cases h), ?_, fun x y hy => ?_, ⟨[], rfl, List.nodup_nil, fun d hd => by cases hd⟩, hbig, fun id b o hN hx hc hb => ?_⟩
    · simp [hN, hus.1]; omega
    · simp only [enumF_args] at hy
      have hlt := (List.getElem?_eq_some_iff.1 hy).1
      refine ⟨.inl (by omega), ?_⟩
      rw [valAt, if_pos (by omega)]
      obtain ⟨u, hu⟩ : ∃ u, us[x]? = some u := ⟨_, List.getElem?_eq_getElem (by rw [hus.1]; exact hlt)⟩
      simp only [getD_args us _ x u hu]
      exact hus.2 x y u hy hu
    · simp only at hb
      cases hl : lv id with
      | none => simp [hl] at hb
      | some q => obtain ⟨q1, q2⟩ := q; simp [hl] at hb; subst hb; exact ⟨q2, rfl⟩
  refine wpIn_mono (h _ ok0 _ _ w hsim) fun e a' w' ⟨s', lv', hq, hs2⟩ => ?_
  have fin : ∀ x, resAT T s' rs = some x → Wk x r → (∀ id o, hs' id = some o → s'.h id = some o) → ∀ (a' : Act) (w' : World), Sim ⟨w, lentOf lv, fun id => (lv id).bind (·.1), none, [], fun _ => undef⟩ ok0 N s' lv' a' w' → ∃ v, (results fn a'.tmps).run P w' = .ok v w' ∧ ∃ u lv2, Ending.returned v = .returned u ∧ Rel (okOf (baseM w lv) ok0 lv2 w') w' lv2 r u ∧ Inv (baseM w lv) ok0 hs' lv2 w' ∧ ∀ id o, hs' id = some o → isC o = true → ∃ b n n', lv id = some (some b, n) ∧ lv2 id = some (some b, n') := by
    intro x hx hwk hsub a' w' hs2
    obtain ⟨u, hu, hrun⟩ := resAT_run (P := P) hT hs2 hrs hx
    obtain ⟨lv2, i1, i2, i3⟩ := hs2.inv.weak hsub
    refine ⟨u, hrun, u, lv2, rfl, hwk.rel _ _ _ _ ((hu.relive fun id b n hb _ => i2 id b n hb).keep fun g hg => ⟨i3 g hg, rfl⟩), i1.pinned _ _ _ _ (fun l h => by cases h), fun id o hx hc => ?_⟩
    obtain ⟨h1, o', hy, hc'⟩ := hcl id o hx hc
    obtain ⟨b, n, hb, ho⟩ := hi.obj id _ hy
    cases b with
    | none => simp only [OwnAt] at ho; rcases ho with rfl | ⟨e, rfl⟩ <;> cases hc'
    | some b =>
      obtain ⟨n', hn'⟩ := hs2.pin id b o h1 (hsub id _ hx) hc (by simp [hb])
      obtain ⟨b2, n2, hb2, _⟩ := i1.obj id _ hx
      have := i2 id b2 n2 hb2
      rw [hn'] at this
      cases this
      exact ⟨b, n, _, hb, hb2⟩
  cases e with
  | normal => obtain ⟨x, hx, h1, h2⟩ := hq; exact leaves_marks rfl rfl (fin x hx h1 h2) _ a' w' rfl hs2
  | ret => obtain ⟨x, hx, h1, h2⟩ := hq; exact leaves_marks rfl rfl (fin x hx h1 h2) _ a' w' rfl hs2
  | _ => exact hq.elim

theorem ObjAt.unren {ok ok' : Nat → Prop} {w : World} {lv lv1 : Live} {σ : Nat → Nat} {b n : Nat} {x : LObj} (hl : ∀ id b n, lv1 id = some (b, n) → lv (σ id) = some (b, n)) (hk : ∀ g, ok g → ok' g) (h : ObjAt ok lv w b n (renO σ x)) : ObjAt ok' lv1 w b n x := by
  cases x with
  | cells xs =>
    obtain ⟨c, e, g1, g2, g3, g4, g5⟩ := h
    rw [renL_map] at g3 g4 g5
    refine ⟨c, e, g1, g2, by simpa using g3, fun y hy => by rw [← cellA_ren σ]; exact g4 _ (List.mem_map_of_mem hy), fun j y u hy hu => ?_⟩
    exact (Rel.unren hl (g5 j (renA σ y) u (by simp [hy]) hu)).keep fun g hg => ⟨hk g hg, rfl⟩
  | vec xs =>
    obtain ⟨⟨c, e, g1, g2, g3, g4, g5⟩, hp⟩ := h
    exact ⟨⟨c, e, g1, g2, g3, g4, fun j y u hy hu => ((g5 j y u hy hu).relive fun id b n _ hm => by rw [pureA.ment (hp y (List.mem_of_getElem? hy))] at hm; cases hm).keep fun g hg => ⟨hk g hg, rfl⟩⟩, hp⟩
  | map es => exact h
  | iter es left cur => exact IterAt.keep h (fun g hg => ⟨hk g hg, rfl⟩) rfl
  | siter s pos => exact h
  | tcells e xs =>
    obtain ⟨⟨c, e', g1, g2, g3, g4, g5⟩, hsh⟩ := h
    rw [renL_map] at g3 g4 g5 hsh
    exact ⟨⟨c, e', g1, g2, by simpa using g3, fun y hy => by rw [← cellA_ren σ]; exact g4 _ (List.mem_map_of_mem hy), fun j y u hy hu => (Rel.unren hl (g5 j (renA σ y) u (by simp [hy]) hu)).keep fun g hg => ⟨hk g hg, rfl⟩⟩, by simpa using hsh⟩
  | tvec e xs =>
    obtain ⟨⟨c, e', g1, g2, g3, g4, g5⟩, hp, hsh⟩ := h
    exact ⟨⟨c, e', g1, g2, g3, g4, fun j y u hy hu => ((g5 j y u hy hu).relive fun id b n _ hm => by rw [pureA.ment (hp y (List.mem_of_getElem? hy))] at hm; cases hm).keep fun g hg => ⟨hk g hg, rfl⟩⟩, hp, hsh⟩
  | mcells xs =>
    obtain ⟨c, e, g1, g2, g3, g4, g5⟩ := h
    rw [renL_map] at g3 g4 g5
    refine ⟨c, e, g1, g2, by simpa using g3, fun y hy => by rw [← cellA_ren σ]; exact g4 _ (List.mem_map_of_mem hy), fun j y u hy hu => ?_⟩
    exact (Rel.unren hl (g5 j (renA σ y) u (by simp [hy]) hu)).keep fun g hg => ⟨hk g hg, rfl⟩
theorem ObjAt.ren {ok ok' : Nat → Prop} {w : World} {lv lv1 : Live} {σ : Nat → Nat} {ids : List Nat} {b n : Nat} {x : LObj} (hl : ∀ id b n, id ∈ ids → lv (σ id) = some (b, n) → lv1 id = some (b, n)) (ho : onlyO ids x = true) (hk : ∀ g, ok g → ok' g) (h : ObjAt ok lv1 w b n x) : ObjAt ok' lv w b n (renO σ x) := by
  cases x with
  | cells xs =>
    obtain ⟨c, e, g1, g2, g3, g4, g5⟩ := h
    refine ⟨c, e, g1, g2, by rw [renL_map]; simpa using g3, fun y hy => ?_, fun j y u hy hu => ?_⟩
    · rw [renL_map] at hy
      obtain ⟨z, hz, rfl⟩ := List.mem_map.1 hy
      rw [cellA_ren]; exact g4 z hz
    · exact (Rel.ren.rows (vs := c.toList) hl ho (fun j y u hy hu => g5 j y u hy (by simpa using hu)) j y u hy (by simpa using hu)).keep fun g hg => ⟨hk g hg, rfl⟩
  | vec xs =>
    obtain ⟨⟨c, e, g1, g2, g3, g4, g5⟩, hp⟩ := h
    exact ⟨⟨c, e, g1, g2, g3, g4, fun j y u hy hu => ((g5 j y u hy hu).relive fun id b n _ hm => by rw [pureA.ment (hp y (List.mem_of_getElem? hy))] at hm; cases hm).keep fun g hg => ⟨hk g hg, rfl⟩⟩, hp⟩
  | map es => exact h
  | iter es left cur => exact IterAt.keep h (fun g hg => ⟨hk g hg, rfl⟩) rfl
  | siter s pos => exact h
  | tcells e xs =>
    obtain ⟨⟨c, e', g1, g2, g3, g4, g5⟩, hsh⟩ := h
    refine ⟨⟨c, e', g1, g2, by rw [renL_map]; simpa using g3, fun y hy => ?_, fun j y u hy hu => ?_⟩, by rw [renL_map]; simpa using hsh⟩
    · rw [renL_map] at hy
      obtain ⟨z, hz, rfl⟩ := List.mem_map.1 hy
      rw [cellA_ren]; exact g4 z hz
    · exact (Rel.ren.rows (vs := c.toList) hl ho (fun j y u hy hu => g5 j y u hy (by simpa using hu)) j y u hy (by simpa using hu)).keep fun g hg => ⟨hk g hg, rfl⟩
  | tvec e xs =>
    obtain ⟨⟨c, e', g1, g2, g3, g4, g5⟩, hp, hsh⟩ := h
    exact ⟨⟨c, e', g1, g2, g3, g4, fun j y u hy hu => ((g5 j y u hy hu).relive fun id b n _ hm => by rw [pureA.ment (hp y (List.mem_of_getElem? hy))] at hm; cases hm).keep fun g hg => ⟨hk g hg, rfl⟩⟩, hp, hsh⟩
  | mcells xs =>
    obtain ⟨c, e, g1, g2, g3, g4, g5⟩ := h
    refine ⟨c, e, g1, g2, by rw [renL_map]; simpa using g3, fun y hy => ?_, fun j y u hy hu => ?_⟩
    · rw [renL_map] at hy
      obtain ⟨z, hz, rfl⟩ := List.mem_map.1 hy
      rw [cellA_ren]; exact g4 z hz
    · exact (Rel.ren.rows (vs := c.toList) hl ho (fun j y u hy hu => g5 j y u hy (by simpa using hu)) j y u hy (by simpa using hu)).keep fun g hg => ⟨hk g hg, rfl⟩
theorem renO_isC (σ : Nat → Nat) (x : LObj) : isC (renO σ x) = isC x := by cases x <;> rfl
theorem renO_nil {σ : Nat → Nat} {x : LObj} (h : renO σ x = .vec [] ∨ ∃ e, renO σ x = .tvec e []) : x = .vec [] ∨ ∃ e, x = .tvec e [] := by
  cases x <;> simp_all [renO]

/-- A value that stays known while the blocks ids are lent: it names none of them, or points into one that stays. -/
def Kept (σ : Nat → Nat) (ids : List Nat) (hm' : Nat → Option LObj) (y : AV) : Prop := (∀ i ∈ ids, ment (σ i) y = false) ∨ ∃ i ∈ ids, ∃ off o, y = .lp (σ i) off ∧ hm' i = some o ∧ isC o = true

set_option maxHeartbeats 4000000
section
variable {P : Program} {N : Nat}
theorem callM_loud {o : Oper} {g : Operand} {args : List Operand} {ats : Array TypeId} {f : FuncId} {caps xs args0 : List AV} {hm hm' : Nat → Option LObj} {r : AV} {σ : Nat → Nat} {ids : List Nat} {d : Nat} {s s2 : SS}
    (ho : o.op = .call { callee := .value g, args := args.toArray, argTypes := ats }) (hd : o.dst = some d) (hdN : d < N) (hg : evF s.t g = some (.fn f caps)) (hx : evL (evF s.t) args = some xs) (hargs : xs ++ caps = args0.map (renA σ)) (hc : ConM P f args0 hm r hm')
    (hinj : ∀ i ∈ ids, ∀ j ∈ ids, σ i = σ j → i = j) (hdom : ∀ id, (hm id).isSome → id ∈ ids) (hdom' : ∀ id, (hm' id).isSome → id ∈ ids) (hmem : ∀ id o, hm id = some o → s.h (σ id) = some (renO σ o)) (hr : onlyA ids r = true) (hro : ∀ id o, hm' id = some o → onlyO ids o = true)
    (ht : ∀ x y, s2.t x = some y → (x = d ∧ y = renA σ r) ∨ (x ≠ d ∧ ((y = .any ∧ ∃ z, s.t x = some z) ∨ (s.t x = some y ∧ Kept σ ids hm' y))))
    (hh1 : ∀ i ∈ ids, s2.h (σ i) = (hm' i).map (renO σ)) (hh2 : ∀ j ob', (∀ i ∈ ids, σ i ≠ j) → s2.h j = some ob' → (∀ i ∈ ids, mentO (σ i) ob' = false) ∧ ∃ ob, s.h j = some ob ∧ ForgO ob ob') : LoudAt P N o s (· = s2) := by
  intro B ok0 lv a w hs Q
  have hfr := hs.eval hg
  have har := evL_rel (a := a) args xs (fun x y _ hxy => hs.eval hxy) hx
  generalize hv : a.eval g = v at hfr
  cases hfr with
  | fn vs hl hrc =>
  have hrun : (execOp a.eval o).run P w = .ok (.enter f (args.map a.eval ++ vs).toArray) w := by
    unfold execOp
    simp only [ho, resolve, Deferred.ofValue, hv, Sem.run_bind, Sem.run_pure, Result.andThen_ok, invoke]
    rw [run_callFunc hc.1]
    simp
  let lv1 : Live := fun id => if id ∈ ids ∧ (hm id).isSome then lv (σ id) else none
  have hl1 : ∀ id b n, lv1 id = some (b, n) → id ∈ ids ∧ (hm id).isSome ∧ lv (σ id) = some (b, n) := by
    intro id b n hb
    simp only [lv1] at hb
    split at hb
    · rename_i h; exact ⟨h.1, h.2, hb⟩
    · cases hb
  have hl2 : ∀ id b n, lv1 id = some (b, n) → lv (σ id) = some (b, n) := fun id b n h => (hl1 id b n h).2.2
  have hmine : ∀ b, lentOf lv1 b → B.mine b ∧ b < w.heap.size ∧ ∃ i ∈ ids, ∃ n, lv (σ i) = some (some b, n) := by
    rintro b ⟨id, n, hb⟩
    obtain ⟨h1, h2, h3⟩ := hl1 id _ n hb
    obtain ⟨_, _, h4, h5, _⟩ := hs.inv.lvat h3
    exact ⟨h4, h5, id, h1, n, h3⟩
  have hok1 : ∀ g, okOf B ok0 lv w g → okOf (baseM w lv1) (okOf B ok0 lv w) lv1 w g := fun g hg => ⟨.inl hg, hg.2.1, fun id b n hb => hg.2.2 (σ id) b n (hl2 id _ n hb)⟩
  have hinv : Inv (baseM w lv1) (okOf B ok0 lv w) hm lv1 w := by
    refine ⟨⟨rfl, rfl, rfl, Nat.le_refl _, fun _ _ _ => rfl, hs.inv.base.glob, hs.inv.base.glob.size, fun k hk => hs.inv.base.mineG (hmine k hk).1, fun l h => by cases h⟩, fun g hg => hg.2.1, fun id hid => by simp [lv1, hid], fun i j b n m h1 h2 => ?_, fun id x hx => ?_⟩
    · obtain ⟨q1, _, q2⟩ := hl1 _ _ _ h1
      obtain ⟨r1, _, r2⟩ := hl1 _ _ _ h2
      exact hinj i q1 j r1 (hs.inv.inj _ _ b n m q2 r2)
    · obtain ⟨b, n, h1, h2⟩ := hs.inv.obj (σ id) _ (hmem id x hx)
      have hlv : lv1 id = some (b, n) := by simp [lv1, hdom id (by simp [hx]), hx, h1]
      refine ⟨b, n, hlv, ?_⟩
      cases b with
      | none => exact renO_nil h2
      | some b => exact ⟨.inl ⟨id, n, hlv⟩, h2.2.1, ObjAt.unren hl2 hok1 h2.2.2⟩
  have hall : RelAll (okOf (baseM w lv1) (okOf B ok0 lv w) lv1 w) w lv1 args0 (args.map a.eval ++ vs) := by
    have hlen : (args.map a.eval ++ vs).length = args0.length := by
      have := congrArg List.length hargs
      simp only [List.length_append, List.length_map] at this ⊢
      have := har.1
      simp at this
      omega
    refine ⟨hlen, fun i x u hx hu => ?_⟩
    have hxi : (xs ++ caps)[i]? = some (renA σ x) := by rw [hargs]; simp [hx]
    have hrel : Rel (okOf B ok0 lv w) w lv (renA σ x) u := by
      by_cases hlt : i < xs.length
      · rw [List.getElem?_append_left hlt] at hxi
        rw [List.getElem?_append_left (by rw [har.1]; exact hlt)] at hu
        exact har.2 i _ u hxi hu
      · rw [List.getElem?_append_right (by omega)] at hxi
        rw [List.getElem?_append_right (by rw [har.1]; omega), har.1] at hu
        exact hrc _ _ u hxi hu
    exact (Rel.unren hl2 hrel).keep fun g hg => ⟨hok1 g hg, rfl⟩
  unfold Oper.wp
  rw [hrun]
  refine (hc.2.2 (okOf B ok0 lv w) lv1 w (args.map a.eval ++ vs) hinv hall).mono fun e w' ⟨u, lv3, he, hu, hi3, hpin⟩ => ?_
  subst he
  simp only [hd]
  have hb3 := hi3.base
  -- the blocks that are not lent stay
  have hstay : ∀ k, k < w.heap.size → (∀ i ∈ ids, ∀ n, lv (σ i) ≠ some (some k, n)) → w'.heap[k]? = w.heap[k]? := by
    intro k hk hn
    exact hb3.block k hk fun hlent => by
      obtain ⟨_, _, i, hi, n, hn'⟩ := hmine k hlent
      exact hn i hi n hn'
  have hsz : w.heap.size ≤ w'.heap.size := hb3.size
  have hmine3 : ∀ id b n, lv3 id = some (some b, n) → B.mine b ∧ b < w'.heap.size ∧ (w.heap.size ≤ b ∨ ∃ i ∈ ids, ∃ n, lv (σ i) = some (some b, n)) := by
    intro id b n hb
    obtain ⟨_, _, q1, q2, _⟩ := hi3.lvat hb
    rcases q1 with q1 | q1
    · have := hmine b q1
      exact ⟨this.1, q2, .inr this.2.2⟩
    · exact ⟨.inr (Nat.le_trans hs.inv.base.size q1), q2, .inl q1⟩
  have hid3 : ∀ id b n, lv3 id = some (b, n) → id ∈ ids := fun id b n hb => by
    cases hq : hm' id with
    | none => rw [hi3.dom id hq] at hb; cases hb
    | some o => exact hdom' id (by simp [hq])
  let find : Nat → Option Nat := fun j => ids.find? fun i => σ i == j
  have hf1 : ∀ j i, find j = some i → i ∈ ids ∧ σ i = j := fun j i h => ⟨List.mem_of_find?_eq_some h, by simpa using List.find?_some h⟩
  have hf2 : ∀ i ∈ ids, find (σ i) = some i := fun i hi => by
    cases hq : find (σ i) with
    | none =>
      have := List.find?_eq_none.1 hq i hi
      simp at this
    | some k => obtain ⟨h1, h2⟩ := hf1 _ _ hq; rw [hinj k h1 i hi h2]
  have hf3 : ∀ j, find j = none → ∀ i ∈ ids, σ i ≠ j := fun j h i hi e => by
    have := List.find?_eq_none.1 h i hi
    simp [e] at this
  let lv2 : Live := fun j => match find j with
    | some i => lv3 i
    | none => if (s2.h j).isSome then lv j else none
  have hlv2a : ∀ i ∈ ids, lv2 (σ i) = lv3 i := fun i hi => by simp only [lv2, hf2 i hi]
  have hlv2b : ∀ j, (∀ i ∈ ids, σ i ≠ j) → ∀ b n, lv2 j = some (b, n) → lv j = some (b, n) ∧ (s2.h j).isSome := by
    intro j hj b n hb
    have hn : find j = none := by
      cases hq : find j with
      | none => rfl
      | some i => obtain ⟨h1, h2⟩ := hf1 _ _ hq; exact absurd h2 (hj i h1)
    simp only [lv2, hn] at hb
    split at hb
    · rename_i h; exact ⟨hb, h⟩
    · cases hb
  have hcase : ∀ j, (∃ i ∈ ids, σ i = j) ∨ ∀ i ∈ ids, σ i ≠ j := fun j => by
    cases hq : find j with
    | none => exact .inr (hf3 j hq)
    | some i => obtain ⟨h1, h2⟩ := hf1 _ _ hq; exact .inl ⟨i, h1, h2⟩
  have hok2 : ∀ g, okOf B ok0 lv w g → okOf B ok0 lv2 w' g ∧ w'.heap[g]? = w.heap[g]? := by
    intro g hg
    refine ⟨⟨hg.1, Nat.lt_of_lt_of_le hg.2.1 hsz, fun j b n hb => ?_⟩, hstay g hg.2.1 fun i _ n hn => hg.2.2 _ _ n hn rfl⟩
    rcases hcase j with ⟨i, hi, rfl⟩ | hj
    · rw [hlv2a i hi] at hb
      rcases (hmine3 i b n hb).2.2 with h | ⟨i', _, n', h⟩
      · have := hg.2.1; omega
      · exact hg.2.2 _ _ n' h
    · exact hg.2.2 j b n (hlv2b j hj _ n hb).1
  have hok3 : ∀ g, okOf (baseM w lv1) (okOf B ok0 lv w) lv3 w' g → okOf B ok0 lv2 w' g := by
    intro g hg
    refine ⟨?_, hg.2.1, fun j b n hb => ?_⟩
    · rcases hg.1 with h | h | h
      · exact h.1
      · exact .inr (hmine g h).1
      · exact .inr (.inr (Nat.le_trans hs.inv.base.size h))
    · rcases hcase j with ⟨i, hi, rfl⟩ | hj
      · rw [hlv2a i hi] at hb
        exact hg.2.2 i b n hb
      · obtain ⟨hb', _⟩ := hlv2b j hj _ n hb
        have hlt := hs.inv.lvlt hb'
        rintro rfl
        rcases hg.1 with h | h | h
        · exact h.2.2 j b n hb' rfl
        · obtain ⟨_, _, i, hi, n', hn'⟩ := hmine b h
          exact hj i hi (hs.inv.inj _ _ b n' n hn' hb')
        · simp only [baseM] at h; omega
  have hren : ∀ id b n, id ∈ ids → lv2 (σ id) = some (b, n) → lv3 id = some (b, n) := fun id b n hi hb => by rwa [hlv2a id hi] at hb
  have hframe : ∀ (y : AV) (z : Value), (∀ i ∈ ids, ment (σ i) y = false) → Rel (okOf B ok0 lv w) w lv y z → Rel (okOf B ok0 lv2 w') w' lv2 y z := by
    intro y z hy hz
    refine (hz.relive fun j b n hb hm => ?_).keep hok2
    rcases hcase j with ⟨i, hi, rfl⟩ | hj
    · rw [hy i hi] at hm; cases hm
    · exact (hlv2b j hj b n hb).1
  refine ⟨s2, lv2, rfl, ⟨⟨?_, hs.inv.ok0lt, fun j hj => ?_, fun i j b n m h1 h2 => ?_, fun j x hx => ?_⟩, by simp [Act.put, hs.size], fun x y hy => ?_, hs.defers.same (fun g hg => (hstay g (Array.getElem?_eq_some_iff.1 hg).1 fun i hi n hn => (hs.inv.lvat hn).choose_spec.2.2.2.notDef hg).trans hg), hs.big, fun j b ws hN hj hcj hb => ?_⟩⟩
  · -- base
    refine ⟨hb3.os.trans hs.inv.base.os, hb3.tape.trans hs.inv.base.tape, hb3.output.trans hs.inv.base.output, Nat.le_trans hs.inv.base.size hsz, fun k hk hnl => ?_, hb3.glob, hs.inv.base.gsize, hs.inv.base.lentG, hs.inv.base.rdok⟩
    refine (hstay k (Nat.lt_of_lt_of_le hk hs.inv.base.size) fun i hi n hn => ?_).trans (hs.inv.base.block k hk hnl)
    obtain ⟨_, _, q1, _, _⟩ := hs.inv.lvat hn
    rcases q1 with q1 | q1
    · exact hnl q1
    · omega
  · -- dom
    rcases hcase j with ⟨i, hi, rfl⟩ | hj'
    · rw [hlv2a i hi]
      refine hi3.dom i ?_
      rw [hh1 i hi] at hj
      cases hq : hm' i with
      | none => rfl
      | some o => simp [hq] at hj
    · cases hq : lv2 j with
      | none => rfl
      | some q => obtain ⟨q1, q2⟩ := q; have := (hlv2b j hj' q1 q2 hq).2; simp [hj] at this
  · -- inj
    rcases hcase i with ⟨i', hi, rfl⟩ | hi <;> rcases hcase j with ⟨j', hj, rfl⟩ | hj
    · rw [hlv2a i' hi] at h1
      rw [hlv2a j' hj] at h2
      rw [hi3.inj i' j' b n m h1 h2]
    · rw [hlv2a i' hi] at h1
      have h2' := (hlv2b j hj _ m h2).1
      have := hs.inv.lvlt h2'
      rcases (hmine3 i' b n h1).2.2 with h | ⟨k, hk, n', h⟩
      · omega
      · exact absurd (hs.inv.inj _ _ b n' m h h2') (hj k hk)
    · rw [hlv2a j' hj] at h2
      have h1' := (hlv2b i hi _ n h1).1
      have := hs.inv.lvlt h1'
      rcases (hmine3 j' b m h2).2.2 with h | ⟨k, hk, n', h⟩
      · omega
      · exact absurd (hs.inv.inj _ _ b n' n h h1') (hi k hk)
    · exact hs.inv.inj i j b n m (hlv2b i hi _ n h1).1 (hlv2b j hj _ m h2).1
  · -- objects
    rcases hcase j with ⟨i, hi, rfl⟩ | hj
    · rw [hh1 i hi] at hx
      cases hq : hm' i with
      | none => simp [hq] at hx
      | some ob =>
        simp only [hq, Option.map_some, Option.some.injEq] at hx
        subst hx
        obtain ⟨b, n, q1, q2⟩ := hi3.obj i ob hq
        refine ⟨b, n, by rw [hlv2a i hi]; exact q1, ?_⟩
        cases b with
        | none =>
          simp only [OwnAt] at q2 ⊢
          rcases q2 with rfl | ⟨e, rfl⟩
          · exact .inl rfl
          · exact .inr ⟨e, rfl⟩
        | some b =>
          exact ⟨(hmine3 i b n q1).1, q2.2.1, ObjAt.ren hren (hro i ob hq) hok3 q2.2.2⟩
    · obtain ⟨hm1, ob, hob, hfo⟩ := hh2 j x hj hx
      obtain ⟨b, n, q1, q2⟩ := hs.inv.obj j ob hob
      have hlv2 : lv2 j = some (b, n) := by
        have hn : find j = none := by
          cases hq : find j with
          | none => rfl
          | some i => obtain ⟨h1, h2⟩ := hf1 _ _ hq; exact absurd h2 (hj i h1)
        simp [lv2, hn, hx, q1]
      refine ⟨b, n, hlv2, ?_⟩
      cases b with
      | none =>
        simp only [OwnAt] at q2 ⊢
        rcases hfo with rfl | ⟨_, _, rfl, _⟩ | ⟨_, _, _, rfl, _⟩
        · exact q2
        · simp at q2
        · simp at q2
      | some b =>
        obtain ⟨q3, q4, q5⟩ := q2
        have hbk : w'.heap[b]? = w.heap[b]? := hstay b q4 fun i hi n' hn' => hj i hi (hs.inv.inj _ _ b n' n hn' q1)
        refine ⟨q3, Nat.lt_of_lt_of_le q4 hsz, ?_⟩
        rcases hfo with rfl | ⟨zs, ys, rfl, rfl, hyl, hyz⟩ | ⟨te, zs, ys, rfl, rfl, hyl, hyz⟩
        · refine (q5.relive (lv' := lv2) fun k b' n' hb' hmk => ?_).keep hok2 hbk
          rcases hcase k with ⟨i, hi, rfl⟩ | hk
          · rw [hm1 i hi] at hmk; cases hmk
          · exact (hlv2b k hk b' n' hb').1
        · obtain ⟨c, e, g1, g2, g3, g4, g5⟩ := q5
          refine ⟨c, e, by rw [hbk]; exact g1, g2, by omega, fun y hy => ?_, fun k y z hy hz => ?_⟩
          · obtain ⟨k, hk⟩ := List.getElem?_of_mem hy
            obtain ⟨x, hx⟩ : ∃ x, zs[k]? = some x := ⟨_, List.getElem?_eq_getElem (by have := (List.getElem?_eq_some_iff.1 hk).1; omega)⟩
            rcases hyz k x y hx hk with rfl | rfl
            · exact g4 _ (List.mem_of_getElem? hx)
            · rfl
          · obtain ⟨x, hx⟩ : ∃ x, zs[k]? = some x := ⟨_, List.getElem?_eq_getElem (by have := (List.getElem?_eq_some_iff.1 hy).1; omega)⟩
            rcases hyz k x y hx hy with rfl | rfl
            · refine hframe _ z (fun i hi => ?_) (g5 k _ z hx hz)
              exact mentL_get hy (hm1 i hi)
            · exact .one _ ((g5 k x z hx hz).oneCell (g4 x (List.mem_of_getElem? hx)))
        · obtain ⟨⟨c, e, g1, g2, g3, g4, g5⟩, hsh⟩ := q5
          refine ⟨⟨c, e, by rw [hbk]; exact g1, g2, by omega, fun y hy => ?_, fun k y z hy hz => ?_⟩, by rw [hyl]; exact (shape_of_block hbk).trans hsh⟩
          · obtain ⟨k, hk⟩ := List.getElem?_of_mem hy
            obtain ⟨x, hx⟩ : ∃ x, zs[k]? = some x := ⟨_, List.getElem?_eq_getElem (by have := (List.getElem?_eq_some_iff.1 hk).1; omega)⟩
            rcases hyz k x y hx hk with rfl | rfl
            · exact g4 _ (List.mem_of_getElem? hx)
            · rfl
          · obtain ⟨x, hx⟩ : ∃ x, zs[k]? = some x := ⟨_, List.getElem?_eq_getElem (by have := (List.getElem?_eq_some_iff.1 hy).1; omega)⟩
            rcases hyz k x y hx hy with rfl | rfl
            · refine hframe _ z (fun i hi => ?_) (g5 k _ z hx hz)
              exact mentL_get hy (hm1 i hi)
            · exact .one _ ((g5 k x z hx hz).oneCell (g4 x (List.mem_of_getElem? hx)))
  · -- frame
    rcases ht x y hy with ⟨rfl, rfl⟩ | ⟨hxd, hxy⟩
    · have hbig := hs.big
      refine ⟨.inl hdN, ?_⟩
      rw [valAt, if_pos (Nat.lt_of_lt_of_le hdN hbig)]
      simp only [Act.put]
      rw [show (a.tmps.setIfInBounds x u).getD x undef = u by simp [Array.getD, hs.size, hdN]]
      exact (Rel.ren hren hr hu).keep fun g hg => ⟨hok3 g hg, rfl⟩
    · have hval : valAt B (a.put (some d) u) x = valAt B a x := by
        unfold valAt
        split
        · simp only [Act.put, Array.getD_eq_getD_getElem?, Array.getElem?_setIfInBounds]
          rw [if_neg (by omega)]
        · rfl
      rw [hval]
      rcases hxy with ⟨rfl, z, hz⟩ | ⟨hz, hk⟩
      · exact ⟨(hs.frame x z hz).1, .any _⟩
      · refine ⟨(hs.frame x y hz).1, ?_⟩
        have hold := (hs.frame x y hz).2
        rcases hk with hk | ⟨i, hi, off, o', rfl, hci, hcc⟩
        · exact hframe y _ hk hold
        · cases hold with
          | lp _ h1 h2 =>
            refine .lp _ h1 fun b n hb => ?_
            rw [hlv2a i hi] at hb
            obtain ⟨b', n', n'', p1, p2⟩ := hpin i o' hci hcc
            rw [hb] at p2
            cases p2
            exact h2 b n' (hl2 i _ n' p1)
  · -- pins
    rcases hcase j with ⟨i, hi, rfl⟩ | hj'
    · rw [hh1 i hi] at hj
      cases hq : hm' i with
      | none => simp [hq] at hj
      | some ob =>
        simp only [hq, Option.map_some, Option.some.injEq] at hj
        subst hj
        rw [renO_isC] at hcj
        obtain ⟨b', n', n'', p1, p2⟩ := hpin i ob hq hcj
        obtain ⟨zs, hz, hzc⟩ := hc.2.1 i ob hq hcj
        obtain ⟨n, hn⟩ := hs.pin (σ i) b _ hN (hmem i _ hz) (by rw [renO_isC]; exact hzc) hb
        rw [hl2 i _ n' p1] at hn
        cases hn
        exact ⟨n'', by rw [hlv2a i hi]; exact p2⟩
    · obtain ⟨_, ob, hys, hfo⟩ := hh2 j _ hj' hj
      have hcc : isC ob = true := by
        rcases hfo with rfl | ⟨xs', ys', rfl, _, _⟩ | ⟨e, xs', ys', rfl, _, _⟩
        · exact hcj
        · rfl
        · rfl
      obtain ⟨n, hn⟩ := hs.pin j b ob hN hys hcc hb
      obtain ⟨b2, n2, q1, _⟩ := hs.inv.obj j _ hys
      rw [hn] at q1
      cases q1
      have hn' : find j = none := by
        cases hq : find j with
        | none => rfl
        | some i => obtain ⟨h1, h2⟩ := hf1 _ _ hq; exact absurd h2 (hj' i h1)
      exact ⟨n, by simp [lv2, hn', hj, hn]⟩
end
def memN (i : Nat) : List Nat → Bool
  | [] => false
  | k :: l => match Nat.beq i k with
    | true => true
    | false => memN i l
def nodupN : List Nat → Bool
  | [] => true
  | k :: l => match memN k l with
    | true => false
    | false => nodupN l
theorem memN_iff {i : Nat} : ∀ {l : List Nat}, memN i l = true ↔ i ∈ l
  | [] => by simp [memN]
  | k :: l => by
    simp only [memN, List.mem_cons]
    cases h : Nat.beq i k with
    | true => simp [Nat.eq_of_beq_eq_true h]
    | false =>
      have : i ≠ k := fun e => by subst e; simp at h
      simp [this, memN_iff (l := l)]
theorem ForgO.trans {a b c : LObj} (h1 : ForgO a b) (h2 : ForgO b c) : ForgO a c := by
  rcases h1 with rfl | ⟨xs, ys, rfl, rfl, hl, hxy⟩ | ⟨te, xs, ys, rfl, rfl, hl, hxy⟩
  · exact h2
  · rcases h2 with rfl | ⟨xs', zs, e, rfl, hl', hyz⟩ | ⟨_, _, _, e, _⟩
    · exact .inr (.inl ⟨xs, ys, rfl, rfl, hl, hxy⟩)
    · cases e
      refine .inr (.inl ⟨xs, zs, rfl, rfl, by omega, fun j x z hx hz => ?_⟩)
      obtain ⟨y, hy⟩ : ∃ y, ys[j]? = some y := ⟨_, List.getElem?_eq_getElem (by have := (List.getElem?_eq_some_iff.1 hx).1; omega)⟩
      rcases hyz j y z hy hz with rfl | rfl
      · exact hxy j x _ hx hy
      · exact .inr rfl
    · cases e
  · rcases h2 with rfl | ⟨_, _, e, _⟩ | ⟨te', xs', zs, e, rfl, hl', hyz⟩
    · exact .inr (.inr ⟨te, xs, ys, rfl, rfl, hl, hxy⟩)
    · cases e
    · cases e
      refine .inr (.inr ⟨te, xs, zs, rfl, rfl, by omega, fun j x z hx hz => ?_⟩)
      obtain ⟨y, hy⟩ : ∃ y, ys[j]? = some y := ⟨_, List.getElem?_eq_getElem (by have := (List.getElem?_eq_some_iff.1 hx).1; omega)⟩
      rcases hyz j y z hy hz with rfl | rfl
      · exact hxy j x _ hx hy
      · exact .inr rfl
section
variable {P : Program} {T : Nat → Option Ty} {N : Nat} {ops : Array Oper} {lf : Oper → Bool} {Q : SS → Prop} {t : List (Nat × AV)} {h : List (Nat × Option LObj)} {rest : List Oper} {d : Nat} {ty : TypeId} {pos : String} {af : Array Edge} {gd : Option (Nat × Bool)} {r : AV}
end
end Go.Proofs.YtenajilnjeafpaaGreat
set_option linter.unusedVariables false
set_option maxHeartbeats 4000000
namespace Go.Proofs.YtenajilnjeafpaaGreat
open Go.RowKit

theorem Inv.mineOf {B : Bse} {ok0 : Nat → Prop} {h : Nat → Option LObj} {lv : Live} {w : World} (hi : Inv B ok0 h lv w) {b : Nat} (hb : lentOf lv b) : B.mine b ∧ b < w.heap.size := by
  obtain ⟨id, n, h⟩ := hb
  obtain ⟨_, _, h1, h2, _⟩ := hi.lvat h
  exact ⟨h1, h2⟩
/-- The memory of a call, seen from a later beginning. -/
theorem Inv.rebase {B : Bse} {ok0 : Nat → Prop} {h : Nat → Option LObj} {lv : Live} {w : World} (hi : Inv B ok0 h lv w) {W1 : World} (hG : Glob W1) (hsz : w.heap.size ≤ W1.heap.size) (hok : ∀ g, okOf B ok0 lv w g → W1.heap[g]? = w.heap[g]?) (hlv : ∀ b, lentOf lv b → W1.heap[b]? = w.heap[b]?)
    (pin : Nat → Option Nat) (rd : Option Nat) (dl : List Deferred) (gv : Nat → Value) (hrd : ∀ l, rd = some l → (∃ r, W1.heap[l]? = some (.loop r)) ∧ ¬ lentOf lv l) : Inv ⟨W1, lentOf lv, pin, rd, dl, gv⟩ (okOf B ok0 lv w) h lv W1 := by
  have hk : ∀ g, okOf B ok0 lv w g → okOf ⟨W1, lentOf lv, pin, rd, dl, gv⟩ (okOf B ok0 lv w) lv W1 g ∧ W1.heap[g]? = w.heap[g]? := fun g hg => ⟨⟨.inl hg, Nat.lt_of_lt_of_le hg.2.1 hsz, hg.2.2⟩, hok g hg⟩
  refine ⟨⟨rfl, rfl, rfl, Nat.le_refl _, fun _ _ _ => rfl, hG, hG.size, fun k hk => hi.base.mineG (hi.mineOf hk).1, hrd⟩, fun g hg => Nat.lt_of_lt_of_le hg.2.1 hsz, hi.dom, hi.inj, fun id x hx => ?_⟩
  obtain ⟨b, n, h1, h2⟩ := hi.obj id x hx
  refine ⟨b, n, h1, ?_⟩
  cases b with
  | none => exact h2
  | some b => exact ⟨.inl ⟨id, n, h1⟩, Nat.lt_of_lt_of_le h2.2.1 hsz, h2.2.2.keep hk (hlv b ⟨id, n, h1⟩)⟩
/-- What may be read, seen from the earlier beginning. -/
theorem ok_back {B : Bse} {ok0 : Nat → Prop} {h : Nat → Option LObj} {lv : Live} {w : World} (h0 : Inv B ok0 h lv w) {W1 : World} (hsz : w.heap.size ≤ W1.heap.size) {pin : Nat → Option Nat} {rd : Option Nat} {dl : List Deferred} {gv : Nat → Value} {lv' : Live} {w' : World} {g : Nat} (hg : okOf ⟨W1, lentOf lv, pin, rd, dl, gv⟩ (okOf B ok0 lv w) lv' w' g) : ok0 g ∨ B.mine g := by
  rcases hg.1 with h | h | h
  · exact h.1
  · exact .inr (h0.mineOf h).1
  · exact .inr (.inr (by have := h0.base.size; simp only at h; omega))
theorem Inv.back {B : Bse} {ok0 : Nat → Prop} {h : Nat → Option LObj} {lv : Live} {w : World} (h0 : Inv B ok0 h lv w) {W1 : World} (hsz : w.heap.size ≤ W1.heap.size) {pin : Nat → Option Nat} {rd : Option Nat} {dl : List Deferred} {gv : Nat → Value} {h' : Nat → Option LObj} {lv' : Live} {w' : World}
    (hi : Inv ⟨W1, lentOf lv, pin, rd, dl, gv⟩ (okOf B ok0 lv w) h' lv' w') {W2 : World} (hB : Based B W2) (hsz2 : w'.heap.size ≤ W2.heap.size) (hok : ∀ g, okOf ⟨W1, lentOf lv, pin, rd, dl, gv⟩ (okOf B ok0 lv w) lv' w' g → W2.heap[g]? = w'.heap[g]?) (hlv : ∀ b, lentOf lv' b → W2.heap[b]? = w'.heap[b]?) :
    Inv B ok0 h' lv' W2 ∧ ∀ g, okOf ⟨W1, lentOf lv, pin, rd, dl, gv⟩ (okOf B ok0 lv w) lv' w' g → okOf B ok0 lv' W2 g ∧ W2.heap[g]? = w'.heap[g]? := by
  have hk : ∀ g, okOf ⟨W1, lentOf lv, pin, rd, dl, gv⟩ (okOf B ok0 lv w) lv' w' g → okOf B ok0 lv' W2 g ∧ W2.heap[g]? = w'.heap[g]? := fun g hg => ⟨⟨ok_back h0 hsz hg, Nat.lt_of_lt_of_le hg.2.1 hsz2, hg.2.2⟩, hok g hg⟩
  refine ⟨⟨hB, h0.ok0lt, hi.dom, hi.inj, fun id x hx => ?_⟩, hk⟩
  obtain ⟨b, n, h1, h2⟩ := hi.obj id x hx
  refine ⟨b, n, h1, ?_⟩
  cases b with
  | none => exact h2
  | some b =>
    refine ⟨?_, Nat.lt_of_lt_of_le h2.2.1 hsz2, h2.2.2.keep hk (hlv b ⟨id, n, h1⟩)⟩
    rcases h2.1 with h3 | h3
    · exact (h0.mineOf h3).1
    · exact .inr (by have := h0.base.size; simp only at h3; omega)
/-- The blocks that are the call's own after a walk from a later beginning. -/
theorem live_back {ok0 : Nat → Prop} {h' : Nat → Option LObj} {W1 : World} {lv lv' : Live} {w' : World} {pin : Nat → Option Nat} {rd : Option Nat} {dl : List Deferred} {gv : Nat → Value} (hi : Inv ⟨W1, lentOf lv, pin, rd, dl, gv⟩ ok0 h' lv' w') {b : Nat} (hb : lentOf lv' b) : lentOf lv b ∨ W1.heap.size ≤ b := (hi.mineOf hb).1

/-- The iterator's contract: it hands on these elements, one after the other, and stops where a round says so; it turns nothing but blocks that it has made since the last round. -/
def IterCon (P : Program) (f : FuncId) (caps : List AV) (els : List (List AV)) : Prop :=
  HasBody P f ∧ ∀ (l : Nat) (ok : Nat → Prop) (W : World) (us : List Value) (J : Nat → World → Prop) (X : World → Prop), (∀ g, ok g → g < W.heap.size) → RelAll ok W (fun _ => none) caps us →
    (∀ k W', J k W' → W.heap.size ≤ W'.heap.size ∧ ∀ g, ok g → W'.heap[g]? = W.heap[g]?) → (∀ k W1 W2, J k W1 → Below W1.heap.size W1 W2 → J k W2) → (∀ W1 W2, X W1 → Below W1.heap.size W1 W2 → X W2) →
    (∀ k el vs W1, els[k]? = some el → J k W1 → RelAll ok W1 (fun _ => none) el vs → YieldAt Fence.wide 0 P l vs.toArray W1 fun e W' => (e = .returned (.bool true) ∧ J (k + 1) W') ∨ (e = .returned (.bool false) ∧ X W')) →
    J 0 W → CallsIn Fence.wide 0 P f (#[.func (.yield l) #[] #[]] ++ us.toArray) W fun e W' => (∃ v, e = .returned v) ∧ (J els.length W' ∨ X W')

theorem fold_get : ∀ (ps : List Nat) (vs : List Value) (tm : Array Value), ps.length = vs.length → ps.Nodup → (∀ p ∈ ps, p < tm.size) →
    ((ps.zip vs).foldl (fun t (x : Nat × Value) => t.setIfInBounds x.1 x.2) tm).size = tm.size ∧ (∀ x, x ∉ ps → ((ps.zip vs).foldl (fun t (x : Nat × Value) => t.setIfInBounds x.1 x.2) tm).getD x undef = tm.getD x undef) ∧
      ∀ (j p : Nat) (v : Value), ps[j]? = some p → vs[j]? = some v → ((ps.zip vs).foldl (fun t (x : Nat × Value) => t.setIfInBounds x.1 x.2) tm).getD p undef = v
  | [], [], tm, _, _, _ => ⟨rfl, fun _ _ => rfl, fun j p v h => by simp at h⟩
  | p :: ps, v :: vs, tm, hl, hn, hlt => by
    simp only [List.nodup_cons] at hn
    obtain ⟨h1, h2, h3⟩ := fold_get ps vs (tm.setIfInBounds p v) (by simpa using hl) hn.2 (fun q hq => by simpa using hlt q (by simp [hq]))
    have hset : ∀ x, x ≠ p → (tm.setIfInBounds p v).getD x undef = tm.getD x undef := fun x hx => by
      simp only [Array.getD_eq_getD_getElem?, Array.getElem?_setIfInBounds]
      rw [if_neg (by omega)]
    simp only [List.zip_cons_cons, List.foldl_cons]
    refine ⟨by rw [h1]; simp, fun x hx => ?_, fun j q u hj hu => ?_⟩
    · simp only [List.mem_cons, not_or] at hx
      rw [h2 x hx.2, hset x hx.1]
    · cases j with
      | zero =>
        simp only [List.getElem?_cons_zero, Option.some.injEq] at hj hu
        subst hj hu
        rw [h2 p hn.1]
        have := hlt p (by simp)
        simp [Array.getD, this]
      | succ j => exact h3 j q u (by simpa using hj) (by simpa using hu)
  | [], _ :: _, _, h, _, _ => by simp at h
  | _ :: _, [], _, h, _, _ => by simp at h
theorem look_zip : ∀ {ps : List Nat} {el : List AV} {x : Nat} {y : AV}, look (ps.zip el) x = some y → ∃ j : Nat, ps[j]? = some x ∧ el[j]? = some y
  | [], _, x, y, h => by simp [look] at h
  | _ :: _, [], x, y, h => by simp [look] at h
  | p :: ps, e :: el, x, y, h => by
    simp only [List.zip_cons_cons, look] at h
    cases hb : Nat.beq x p with
    | true =>
      simp only [hb, Option.some.injEq] at h
      exact ⟨0, by simp [Nat.eq_of_beq_eq_true hb], by simp [h]⟩
    | false =>
      simp only [hb] at h
      obtain ⟨j, h1, h2⟩ := look_zip h
      exact ⟨j + 1, by simpa using h1, by simpa using h2⟩
theorem look_zip_none : ∀ {ps : List Nat} {el : List AV} {x : Nat}, ps.length = el.length → look (ps.zip el) x = none → x ∉ ps
  | [], _, x, _, _ => by simp
  | _ :: _, [], x, hl, _ => by simp at hl
  | p :: ps, e :: el, x, hl, h => by
    simp only [List.zip_cons_cons, look] at h
    cases hb : Nat.beq x p with
    | true => simp [hb] at h
    | false =>
      simp only [hb] at h
      simp only [List.mem_cons, not_or]
      exact ⟨fun e => by subst e; simp at hb, look_zip_none (by simpa using hl) h⟩

/-- The slots of a round: those known ahead of the loop, the parameters; and those known ahead, kept aside. -/
def roundT (t0 : Nat → Option AV) (ps : List Nat) (el : List AV) (x : Nat) : Option AV :=
  match Nat.ble 1000000 x with
  | true => t0 (x - 1000000)
  | false => match look (ps.zip el) x with
    | some y => some y
    | none => t0 x
/-- A round's end. -/
def RndF (t0 : Nat → Option AV) (hk : Nat → Nat → Option LObj) (k : Nat) (Q : Exit → SS → Prop) : Exit → SS → Prop
  | .normal, s => (∀ x y, t0 x = some y → s.t (x + 1000000) = some y) ∧ ∀ id o, hk (k + 1) id = some o → s.h id = some o
  | .ret, s => ∃ hx : Nat → Option LObj, (∀ x y, t0 x = some y → s.t (x + 1000000) = some y) ∧ (∀ id o, hx id = some o → s.h id = some o) ∧ Q .ret ⟨t0, hx⟩
  | .exit i, s => ∃ hx : Nat → Option LObj, (∀ x y, t0 x = some y → s.t (x + 1000000) = some y) ∧ (∀ id o, hx id = some o → s.h id = some o) ∧ Q (.exit i) ⟨t0, hx⟩
  | _, _ => False

theorem putObj_self {w : World} {l : Nat} {o : Obj} (h : w.heap[l]? = some o) : w.putObj l o = w := by
  have : w.heap.setIfInBounds l o = w.heap := by
    apply Array.ext_getElem?
    intro i
    rw [Array.getElem?_setIfInBounds]
    split
    · rename_i e
      subst e
      split
      · exact h.symm
      · rename_i hlt
        rw [Array.getElem?_eq_none (by omega)]
    · rfl
  unfold World.putObj
  rw [this]
theorem putObj_twice {w : World} {l : Nat} {o o' : Obj} : (w.putObj l o).putObj l o' = w.putObj l o' := by
  unfold World.putObj
  simp only [World.mk.injEq, and_true]
  apply Array.ext_getElem?
  intro i
  simp only [Array.getElem?_setIfInBounds, Array.size_setIfInBounds]
  split <;> rfl
theorem glob_put {w : World} (h : Glob w) {l : Nat} {o : Obj} (hl : GN ≤ l) : Glob (w.putObj l o) :=
  h.keep (fun k hk => World.putObj_heap_other (by omega)) (by simp)

section
variable {P : Program} {N : Nat} {g : Operand} {ps : List Nat} {assign body : Code} {Q : Exit → SS → Prop} {s : SS} {gf : Nat} {caps : List AV} {els : List (List AV)}
/-- Between two rounds: the record; the call's memory, read with the record ready; the slots known ahead of the loop. -/
def KLoop (B : Bse) (Bx : Bse) (okx : Nat → Prop) (N l : Nat) (rec : LoopState → Option Code → Loop) (t0 : Nat → Option AV) (vt : Nat → Value) (o : Loop) (h : Nat → Option LObj) (W : World) : Prop :=
  W.heap[l]? = some (.loop o) ∧ ∃ lv', Inv Bx okx h lv' (W.putObj l (.loop (rec .ready none))) ∧ (∀ x y, t0 x = some y → Rel (okOf Bx okx lv' (W.putObj l (.loop (rec .ready none)))) (W.putObj l (.loop (rec .ready none))) lv' y (vt x)) ∧
    ∀ id b o, N ≤ id → h id = some o → isC o = true → B.pin id = some b → ∃ n, lv' id = some (some b, n)
theorem KLoop.grow {B Bx : Bse} {okx : Nat → Prop} {N l : Nat} {rec : LoopState → Option Code → Loop} {t0 : Nat → Option AV} {vt : Nat → Value} {o : Loop} {h : Nat → Option LObj} {W W2 : World} (hK : KLoop B Bx okx N l rec t0 vt o h W) (hb : Below W.heap.size W W2) : KLoop B Bx okx N l rec t0 vt o h W2 := by
  obtain ⟨h1, lv', h2, h3, h4⟩ := hK
  have hlt := (Array.getElem?_eq_some_iff.1 h1).1
  have hb' : Below (W.putObj l (.loop (rec .ready none))).heap.size (W.putObj l (.loop (rec .ready none))) (W2.putObj l (.loop (rec .ready none))) := by
    refine ⟨hb.os, hb.tape, hb.output, by simpa using hb.size, fun k hk => ?_⟩
    by_cases e : k = l
    · subst e
      rw [World.putObj_heap_same hlt, World.putObj_heap_same (Nat.lt_of_lt_of_le hlt hb.size)]
    · rw [World.putObj_heap_other e, World.putObj_heap_other e]
      exact hb.block k (by simpa using hk)
  exact ⟨(hb.block l hlt).trans h1, lv', h2.grow hb', fun x y hx => (h3 x y hx).grow hb', h4⟩

theorem live_ne {B : Bse} {ok0 : Nat → Prop} {h : Nat → Option LObj} {lv : Live} {w : World} (hi : Inv B ok0 h lv w) {l : Nat} (h1 : ¬ B.mine l) {b : Nat} (hb : lentOf lv b) : b ≠ l := by
  rintro rfl; exact h1 (hi.mineOf hb).1
/-- One round. -/
theorem round_K {B Bx : Bse} {okx : Nat → Prop} {l : Nat} {rec : LoopState → Option Code → Loop} {t0 : Nat → Option AV} {tm : Array Value} {vt : Nat → Value} {fn : FuncId} (hrec : ∀ st pe, (rec st pe).state = st ∧ (rec st pe).pending = pe ∧ ∀ st' pe', { rec st pe with state := st', pending := pe' } = rec st' pe')
    (hl : Bx.w.heap[l]? = some (.loop (rec .ready none))) (hlx : ¬ Bx.lent l) (hlk : ¬ okx l) (hdis : ∀ g, okx g → ¬ Bx.lent g) (hlg : GN ≤ l) (htm : tm.size = N) (hvt : ∀ x, x < 1000000 → vt x = tm.getD x undef) (hbig : N ≤ 1000000) (hps : ∀ p ∈ ps, p < N) (hpn : ps.Nodup) (ht0 : ∀ x y, t0 x = some y → x < N ∨ 1000000 ≤ x) {hk : Nat → Nat → Option LObj} {k : Nat} {el : List AV} (hel : el.length = ps.length ∧ pureA.pureL el = true)
    (round : A P N assign (fun e s1 => e = .normal ∧ A P N body (RndF t0 hk k Q) s1) ⟨roundT t0 ps el, hk k⟩) {vs : List Value} {W : World} (hK : KLoop B Bx okx N l rec t0 vt (rec .ready none) (hk k) W) (hvs : RelAll okx W (fun _ => none) el vs) :
    RoundIn Fence.wide 0 P l fn ((ps.toArray.zip vs.toArray).foldl (fun tmps (x : Nat × Value) => tmps.setIfInBounds x.1 x.2) tm) assign body W fun e W' =>
      (e = .returned (.bool true) ∧ KLoop B Bx okx N l rec t0 vt (rec .ready none) (hk (k + 1)) W') ∨
      (e = .returned (.bool false) ∧ ∃ c h, ((c = .ret ∧ Q .ret ⟨t0, h⟩) ∨ ∃ i, c = .exit i ∧ Q (.exit i) ⟨t0, h⟩) ∧ KLoop B Bx okx N l rec t0 vt (rec .done (some c)) h W') := by
  obtain ⟨hWl, lv1, i1, f1, p1⟩ := hK
  rw [putObj_self hWl] at i1 f1
  have hlt := (Array.getElem?_eq_some_iff.1 hWl).1
  have hltx := (Array.getElem?_eq_some_iff.1 hl).1
  have hmx : ¬ Bx.mine l := fun h => by rcases h with h | h; exact hlx h; omega
  have hnl1 : ∀ b, lentOf lv1 b → b ≠ l := fun b hb => live_ne i1 hmx hb
  have hnok1 : ∀ g, okOf Bx okx lv1 W g → g ≠ l := fun g hg e => by subst e; rcases hg.1 with h | h; exact hlk h; exact hmx h
  obtain ⟨hvl, hvr⟩ := hvs
  obtain ⟨z1, z2, z3⟩ := fold_get ps vs tm (by rw [hvl, hel.1]) hpn (fun p hp => by rw [htm]; exact hps p hp)
  have hfold : (ps.toArray.zip vs.toArray).foldl (fun tmps (x : Nat × Value) => tmps.setIfInBounds x.1 x.2) tm = (ps.zip vs).foldl (fun t (x : Nat × Value) => t.setIfInBounds x.1 x.2) tm := by
    rw [List.zip_toArray, List.foldl_toArray]
  rw [hfold]
  generalize (ps.zip vs).foldl (fun t (x : Nat × Value) => t.setIfInBounds x.1 x.2) tm = tr at z1 z2 z3
  have j1 := i1.rebase (W1 := W) i1.base.glob (Nat.le_refl _) (fun _ _ => rfl) (fun _ _ => rfl) B.pin (some l) [] (fun x => vt (x - 1000000)) (fun l' h => by cases h; exact ⟨⟨_, hWl⟩, fun h => hnl1 l h rfl⟩)
  have up1 : ∀ g, okOf Bx okx lv1 W g → okOf ⟨W, lentOf lv1, B.pin, some l, [], fun x => vt (x - 1000000)⟩ (okOf Bx okx lv1 W) lv1 W g := fun g hg => ⟨.inl hg, hg.2.1, hg.2.2⟩
  have s1 : Sim ⟨W, lentOf lv1, B.pin, some l, [], fun x => vt (x - 1000000)⟩ (okOf Bx okx lv1 W) N ⟨roundT t0 ps el, hk k⟩ lv1 { tmps := tr, defers := [] } W := by
    refine ⟨j1, by simp only; rw [z1, htm], fun x y hy => ?_, ⟨[], rfl, List.nodup_nil, fun d hd => by cases hd⟩, hbig, p1⟩
    unfold roundT at hy
    cases hb : Nat.ble 1000000 x with
    | true =>
      simp only [hb] at hy
      have hx : 1000000 ≤ x := by simpa using hb
      refine ⟨.inr hx, ?_⟩
      rw [valAt, if_neg (by omega)]
      exact (f1 _ y hy).keep fun g hg => ⟨up1 g hg, rfl⟩
    | false =>
      simp only [hb] at hy
      have hx := nble hb
      cases hz : look (ps.zip el) x with
      | some y' =>
        simp only [hz, Option.some.injEq] at hy
        subst hy
        obtain ⟨j, hj1, hj2⟩ := look_zip hz
        have hpx := hps x (List.mem_of_getElem? hj1)
        refine ⟨.inl hpx, ?_⟩
        obtain ⟨u, hu⟩ : ∃ u, vs[j]? = some u := ⟨_, List.getElem?_eq_getElem (by rw [hvl]; exact (List.getElem?_eq_some_iff.1 hj2).1)⟩
        rw [valAt, if_pos hx]
        simp only
        rw [z3 j x u hj1 hu]
        have hp : pureA y' = true := pureL_mem hel.2 y' (List.mem_of_getElem? hj2)
        refine ((hvr j y' u hj2 hu).relive (fun id b n _ hm => by rw [pureA.ment hp] at hm; cases hm)).keep fun g hg => ⟨up1 g ⟨.inl hg, Nat.lt_of_lt_of_le (i1.ok0lt g hg) i1.base.size, fun id b n hb e => ?_⟩, rfl⟩
        subst e
        rcases (i1.mineOf ⟨id, n, hb⟩).1 with h | h
        · exact hdis b hg h
        · have := i1.ok0lt b hg; omega
      | none =>
        simp only [hz] at hy
        have hxN : x < N := (ht0 x y hy).resolve_right (by omega)
        refine ⟨.inl hxN, ?_⟩
        rw [valAt, if_pos hx]
        simp only
        rw [z2 x (look_zip_none hel.1.symm hz), ← hvt x hx]
        exact (f1 x y hy).keep fun g hg => ⟨up1 g hg, rfl⟩
  have hA := round _ _ _ _ _ s1
  refine roundIn_of_wpIn trivial (wpIn_mono hA ?_)
  rintro e a2 W2 ⟨s2, lv2, ⟨rfl, hbody⟩, h2⟩
  have hW2l : W2.heap[l]? = some (.loop (rec .ready none)) := (h2.inv.base.block l hlt fun h => hnl1 l h rfl).trans hWl
  have hsz2 : W.heap.size ≤ W2.heap.size := h2.inv.base.size
  have hm2 : ¬ Bse.mine ⟨W, lentOf lv1, B.pin, some l, [], fun x => vt (x - 1000000)⟩ l := fun h => by rcases h with h | h; exact hnl1 l h rfl; simp only at h; omega
  have hnl2 : ∀ b, lentOf lv2 b → b ≠ l := fun b hb => live_ne h2.inv hm2 hb
  have hnok2 : ∀ g, okOf ⟨W, lentOf lv1, B.pin, some l, [], fun x => vt (x - 1000000)⟩ (okOf Bx okx lv1 W) lv2 W2 g → g ≠ l := fun g hg e => by subst e; rcases hg.1 with h | h; exact hnok1 _ h rfl; exact hm2 h
  refine ⟨_, run_beginRound hW2l (hrec _ _).1, ?_⟩
  rw [(hrec _ _).2.2, (hrec _ _).2.1]
  generalize hW3 : W2.putObj l (.loop (rec .busy none)) = W3
  have hW3l : W3.heap[l]? = some (.loop (rec .busy none)) := by rw [← hW3]; exact World.putObj_heap_same (by omega)
  have hW3o : ∀ k, k ≠ l → W3.heap[k]? = W2.heap[k]? := fun k hk => by rw [← hW3]; exact World.putObj_heap_other hk
  have hW3s : W3.heap.size = W2.heap.size := by rw [← hW3]; simp
  have j3 := h2.inv.rebase (W1 := W3) (by rw [← hW3]; exact glob_put h2.inv.base.glob hlg) (by omega) (fun g hg => hW3o g (hnok2 g hg)) (fun b hb => hW3o b (hnl2 b hb)) B.pin (some l) a2.defers (fun x => vt (x - 1000000)) (fun l' h => by cases h; exact ⟨⟨_, hW3l⟩, fun h => hnl2 l h rfl⟩)
  have up3 : ∀ g, okOf ⟨W, lentOf lv1, B.pin, some l, [], fun x => vt (x - 1000000)⟩ (okOf Bx okx lv1 W) lv2 W2 g → okOf ⟨W3, lentOf lv2, B.pin, some l, a2.defers, fun x => vt (x - 1000000)⟩ (okOf ⟨W, lentOf lv1, B.pin, some l, [], fun x => vt (x - 1000000)⟩ (okOf Bx okx lv1 W) lv2 W2) lv2 W3 g ∧ W3.heap[g]? = W2.heap[g]? :=
    fun g hg => ⟨⟨.inl hg, by rw [hW3s]; exact hg.2.1, hg.2.2⟩, hW3o g (hnok2 g hg)⟩
  have s3 : Sim ⟨W3, lentOf lv2, B.pin, some l, a2.defers, fun x => vt (x - 1000000)⟩ (okOf ⟨W, lentOf lv1, B.pin, some l, [], fun x => vt (x - 1000000)⟩ (okOf Bx okx lv1 W) lv2 W2) N s2 lv2 a2 W3 :=
    ⟨j3, h2.size, fun x y hx => ⟨(h2.frame x y hx).1, (h2.frame x y hx).2.keep up3⟩, ⟨[], rfl, List.nodup_nil, fun d hd => by cases hd⟩, hbig, h2.pin⟩
  refine wpIn_mono (hbody _ _ _ _ _ s3) ?_
  rintro e a4 W4 ⟨s4, lv4, hq, h4⟩
  have hlt3 : l < W3.heap.size := by omega
  have hW4l : W4.heap[l]? = some (.loop (rec .busy none)) := (h4.inv.base.block l hlt3 fun h => hnl2 l h rfl).trans hW3l
  have hsz4 : W3.heap.size ≤ W4.heap.size := h4.inv.base.size
  have fin : ∀ (h' : Nat → Option LObj) (st : LoopState) (pe : Option Code), (∀ x y, t0 x = some y → s4.t (x + 1000000) = some y) → (∀ id o, h' id = some o → s4.h id = some o) → KLoop B Bx okx N l rec t0 vt (rec st pe) h' (W4.putObj l (.loop (rec st pe))) := by
    intro h' st pe hgt hsub
    refine ⟨World.putObj_heap_same (by omega), ?_⟩
    rw [putObj_twice]
    obtain ⟨lv5, i5, sub5, ok5⟩ := h4.inv.weak hsub
    generalize hW5 : W4.putObj l (.loop (rec .ready none)) = W5
    have hW5l : W5.heap[l]? = some (.loop (rec .ready none)) := by rw [← hW5]; exact World.putObj_heap_same (by omega)
    have hW5o : ∀ k, k ≠ l → W5.heap[k]? = W4.heap[k]? := fun k hk => by rw [← hW5]; exact World.putObj_heap_other hk
    have hW5s : W5.heap.size = W4.heap.size := by rw [← hW5]; simp
    have hm3 : ¬ Bse.mine ⟨W3, lentOf lv2, B.pin, some l, a2.defers, fun x => vt (x - 1000000)⟩ l := fun h => by rcases h with h | h; exact hnl2 l h rfl; simp only at h; omega
    have hG5 : Glob W5 := by rw [← hW5]; exact glob_put h4.inv.base.glob hlg
    have hb1 : Based ⟨W, lentOf lv1, B.pin, some l, [], fun x => vt (x - 1000000)⟩ W5 := by
      have b4 := h4.inv.base
      have b2 := h2.inv.base
      have e5 : W5.os = W4.os ∧ W5.tape = W4.tape ∧ W5.output = W4.output := by rw [← hW5]; exact ⟨rfl, rfl, rfl⟩
      have e3 : W3.os = W2.os ∧ W3.tape = W2.tape ∧ W3.output = W2.output := by rw [← hW3]; exact ⟨rfl, rfl, rfl⟩
      refine ⟨e5.1.trans (b4.os.trans (e3.1.trans b2.os)), e5.2.1.trans (b4.tape.trans (e3.2.1.trans b2.tape)), e5.2.2.trans (b4.output.trans (e3.2.2.trans b2.output)), by simp only; omega, fun k hk hnl => ?_, hG5, b2.gsize, b2.lentG, b2.rdok⟩
      by_cases e : k = l
      · subst e; exact hW5l.trans hWl.symm
      · refine (hW5o k e).trans ((b4.block k (by simp only at hk ⊢; omega) fun h => ?_).trans ((hW3o k e).trans (b2.block k hk hnl)))
        rcases live_back h2.inv h with h' | h'
        · exact hnl h'
        · simp only at hk; omega
    obtain ⟨k1, k2⟩ := Inv.back h2.inv (by omega) i5 hb1 (by omega) (fun g hg => hW5o g fun e => by
      subst e
      rcases hg.1 with h | h
      · exact hnok2 _ h rfl
      · exact hm3 h) (fun b hb => hW5o b (live_ne i5 hm3 hb))
    have hbx : Based Bx W5 := by
      have bx := i1.base
      refine ⟨hb1.os.trans bx.os, hb1.tape.trans bx.tape, hb1.output.trans bx.output, Nat.le_trans bx.size hb1.size, fun k hk hnl => ?_, hG5, bx.gsize, bx.lentG, bx.rdok⟩
      refine (hb1.block k (Nat.lt_of_lt_of_le hk bx.size) fun h => ?_).trans (bx.block k hk hnl)
      rcases (i1.mineOf h).1 with h' | h'
      · exact hnl h'
      · omega
    obtain ⟨q1, q2⟩ := Inv.back i1 (Nat.le_refl _) k1 hbx (Nat.le_refl _) (fun _ _ => rfl) (fun _ _ => rfl)
    refine ⟨lv5, q1, fun x y hx => ?_, fun id b o hN hx hc hb => ?_⟩
    · have hf := (h4.frame _ _ (hgt x y hx)).2
      rw [valAt, if_neg (by omega)] at hf
      simp only [Nat.add_sub_cancel] at hf
      have hf5 := (hf.relive fun id b n hb _ => sub5 id b n hb).keep (fun g hg => ⟨ok5 g hg, rfl⟩)
      exact (hf5.keep k2).keep q2
    · obtain ⟨n, hn⟩ := h4.pin id b o hN (hsub id o hx) hc hb
      obtain ⟨b', n', g1, _⟩ := i5.obj id _ hx
      have := sub5 id b' n' g1
      rw [hn] at this
      cases this
      exact ⟨n, g1⟩
  cases e with
  | normal =>
    refine ⟨_, _, run_endRound none hW4l, .inl ⟨rfl, ?_⟩⟩
    rw [(hrec _ _).2.2]
    exact fin _ .ready none hq.1 hq.2
  | ret =>
    obtain ⟨hx, g1, g2, g3⟩ := hq
    refine ⟨_, _, run_endRound (some .ret) hW4l, .inr ⟨rfl, .ret, hx, .inl ⟨rfl, g3⟩, ?_⟩⟩
    rw [(hrec _ _).2.2]
    exact fin _ .done (some .ret) g1 g2
  | exit i =>
    obtain ⟨hx, g1, g2, g3⟩ := hq
    refine ⟨_, _, run_endRound (some (.exit i)) hW4l, .inr ⟨rfl, .exit i, hx, .inr ⟨i, rfl, g3⟩, ?_⟩⟩
    rw [(hrec _ _).2.2]
    exact fin _ .done (some (.exit i)) g1 g2
  | goto l => exact hq.elim
  | panic c => exact hq.elim
  | outgrown => exact hq.elim

theorem A_rangeF (hgv : evF s.t g = some (.fn gf caps)) (hit : IterCon P gf caps els) (hpe : ∀ el ∈ els, el.length = ps.length ∧ pureA.pureL el = true) (hps : ∀ p ∈ ps, p < N) (hpn : ps.Nodup) (t0 : Nat → Option AV) (ht0 : ∀ x y, t0 x = some y → s.t x = some y ∧ (x < N ∨ 1000000 ≤ x))
    (hk : Nat → Nat → Option LObj) (h0 : ∀ id o, hk 0 id = some o → s.h id = some o) (round : ∀ k el, els[k]? = some el → A P N assign (fun e s1 => e = .normal ∧ A P N body (RndF t0 hk k Q) s1) ⟨roundT t0 ps el, hk k⟩)
    (done : Q .normal ⟨t0, hk els.length⟩) : A P N (.rangeFunc g ps.toArray assign body) Q s := by
  intro B ok0 lvs a w hs
  have hfr := hs.eval hgv
  generalize hv : a.eval g = v at hfr
  cases hfr with
  | fn lb hl hr =>
  obtain ⟨lv, hi, hsub, hok⟩ := hs.inv.weak h0
  have hbig := hs.big
  have hframe0 : ∀ x y, t0 x = some y → Rel (okOf B ok0 lv w) w lv y (valAt B a x) := by
    intro x y hx
    obtain ⟨g1, g2⟩ := ht0 x y hx
    have := (hs.frame x y g1).2
    exact (this.relive fun id b n hb _ => hsub id b n hb).keep fun g hg => ⟨hok g hg, rfl⟩
  have hcaps : RelAll (okOf B ok0 lv w) w (fun _ => none) caps lb := ⟨hl, fun i c u h1 h2 => ((hr i c u h1 h2).relive (fun id b n hb _ => by cases hb)).keep fun g hg => ⟨hok g hg, rfl⟩⟩
  have hpins : ∀ id b o, N ≤ id → hk 0 id = some o → isC o = true → B.pin id = some b → ∃ n, lv id = some (some b, n) := by
    intro id b o hN hx hc hb
    obtain ⟨n, hn⟩ := hs.pin id b o hN (h0 id o hx) hc hb
    obtain ⟨b', n', g1, _⟩ := hi.obj id _ hx
    have := hsub id b' n' g1
    rw [hn] at this
    cases this
    exact ⟨n, g1⟩
  refine wpIn_rangeFunc fun fn hfn => ?_
  obtain ⟨l, mark, W1, D0, henter, hgrow, hl1, hlw, hmark⟩ : ∃ (l : Nat) (mark : List Deferred) (W1 : World) (D0 : Nat),
      (Instr.enterLoop fn a.tmps ps.toArray assign body (FW B.rd).round).run P w = .ok (l, mark) W1 ∧ Below w.heap.size w W1 ∧ W1.heap[l]? = some (.loop ({ state := .ready, pending := none, fn, tmps := a.tmps, params := ps.toArray, assign, body, defers := D0 } : Loop)) ∧ w.heap.size ≤ l ∧
      (mark = [] ∨ ∃ D, mark = [{ target := .collected D, args := #[] }] ∧ W1.heap[D]? = some (.deferred (some [])) ∧ w.heap.size ≤ D ∧ D ≠ l) := by
    cases hrd : B.rd with
    | none =>
      refine ⟨_, _, _, w.heap.size, run_enterLoop_outer _ _ _ _ _, ((Below.refl _ w).alloc (Nat.le_refl _) _).alloc (by simp) _, ?_, by omega, .inr ⟨_, rfl, ?_, Nat.le_refl _, by omega⟩⟩
      · have := World.alloc_heap_new (w.alloc (.deferred (some []))) (.loop { state := .ready, pending := none, fn, tmps := a.tmps, params := ps.toArray, assign, body, defers := w.heap.size })
        rwa [World.size_alloc] at this
      · exact (Below.heap_alloc _ _ _ (by simp)).trans (World.alloc_heap_new w _)
    | some l0 =>
      obtain ⟨⟨r0, hr0⟩, hnl⟩ := hs.inv.base.rdok l0 hrd
      have hr1 : w.heap[l0]? = some (.loop r0) := (hs.inv.base.block l0 (Array.getElem?_eq_some_iff.1 hr0).1 hnl).trans hr0
      exact ⟨_, _, _, r0.defers, run_enterLoop_inner hr1 _ _ _ _ _, (Below.refl _ w).alloc (Nat.le_refl _) _, World.alloc_heap_new w _, Nat.le_refl _, .inl rfl⟩
  obtain ⟨rec, hrecd⟩ : ∃ rec : LoopState → Option Code → Loop, rec = fun st pe => ({ state := st, pending := pe, fn, tmps := a.tmps, params := ps.toArray, assign, body, defers := D0 } : Loop) := ⟨_, rfl⟩
  have hrec : ∀ st pe, (rec st pe).state = st ∧ (rec st pe).pending = pe ∧ ∀ st' pe', { rec st pe with state := st', pending := pe' } = rec st' pe' := fun st pe => by subst hrecd; exact ⟨rfl, rfl, fun _ _ => rfl⟩
  have hl1' : W1.heap[l]? = some (.loop (rec .ready none)) := by rw [hrecd]; exact hl1
  have hG1 : Glob W1 := (hi.base.grow hgrow).glob
  have hGN : GN ≤ w.heap.size := Nat.le_trans hi.base.gsize hi.base.size
  have hltw : ∀ b, lentOf lv b → b < w.heap.size := fun b hb => (hi.mineOf hb).2
  have hlt1 := (Array.getElem?_eq_some_iff.1 hl1').1
  have j1 := hi.rebase hG1 hgrow.size (fun g hg => hgrow.block g hg.2.1) (fun b hb => hgrow.block b (hltw b hb)) (fun _ => none) none [] (fun _ => undef) (fun l h => by cases h)
  have hnlive : ∀ g, okOf B ok0 lv w g → ¬ lentOf lv g := fun g hg ⟨id, n, h⟩ => hg.2.2 id g n h rfl
  refine ⟨l, mark, W1, { target := .fn (.func gf) lb.toArray, args := #[.func (.yield l) #[] #[]] }, W1, gf, #[.func (.yield l) #[] #[]] ++ lb.toArray, W1, henter, ?_, fun _ _ => trivial, ?_, fun hc => (by cases hc), ?_⟩
  · simp only [resolve, hv]
    simp [go_sem]
  · simp [invoke, go_sem, run_callFunc hit.1]
  · have hK0 : KLoop B ⟨W1, lentOf lv, fun _ => none, none, [], fun _ => undef⟩ (okOf B ok0 lv w) N l rec t0 (valAt B a) (rec .ready none) (hk 0) W1 := by
      refine ⟨hl1', lv, ?_, fun x y hx => ?_, hpins⟩
      · rw [putObj_self hl1']; exact j1
      · rw [putObj_self hl1']
        exact (hframe0 x y hx).keep fun g hg => ⟨⟨.inl hg, Nat.lt_of_lt_of_le hg.2.1 hgrow.size, hg.2.2⟩, hgrow.block g hg.2.1⟩
    have hback : ∀ (o : Loop) (h : Nat → Option LObj) (W : World), KLoop B ⟨W1, lentOf lv, fun _ => none, none, [], fun _ => undef⟩ (okOf B ok0 lv w) N l rec t0 (valAt B a) o h W → ∃ lv', Sim B ok0 N ⟨t0, h⟩ lv' { a with defers := mark ++ a.defers } (W.putObj l (.loop { o with state := .exhausted })) := by
      rintro o h W ⟨hWl, lv', i1, f1, p1⟩
      have hlt := (Array.getElem?_eq_some_iff.1 hWl).1
      have b1 := i1.base
      generalize hW5 : W.putObj l (.loop { o with state := .exhausted }) = W5
      have hW5o : ∀ k, k ≠ l → W5.heap[k]? = (W.putObj l (.loop (rec .ready none))).heap[k]? := fun k hk => by rw [← hW5, World.putObj_heap_other hk, World.putObj_heap_other hk]
      have hW5s : W5.heap.size = (W.putObj l (.loop (rec .ready none))).heap.size := by rw [← hW5]; simp
      have hG5 : Glob W5 := by
        have := glob_put (o := .loop { o with state := .exhausted }) b1.glob (l := l) (by omega)
        rwa [putObj_twice, hW5] at this
      have e5 : W5.os = W.os ∧ W5.tape = W.tape ∧ W5.output = W.output := by rw [← hW5]; exact ⟨rfl, rfl, rfl⟩
      have hold : ∀ k, k < w.heap.size → ¬ lentOf lv k → W5.heap[k]? = w.heap[k]? := fun k hk hn => (hW5o k (by omega)).trans ((b1.block k (Nat.lt_of_lt_of_le hk hgrow.size) hn).trans (hgrow.block k hk))
      have hbB : Based B W5 := by
        refine ⟨e5.1.trans (b1.os.trans (hgrow.os.trans hi.base.os)), e5.2.1.trans (b1.tape.trans (hgrow.tape.trans hi.base.tape)), e5.2.2.trans (b1.output.trans (hgrow.output.trans hi.base.output)), ?_, fun k hk hnl => ?_, hG5, hi.base.gsize, hi.base.lentG, hi.base.rdok⟩
        · rw [hW5s]; exact Nat.le_trans hi.base.size (Nat.le_trans hgrow.size b1.size)
        · refine (hold k (Nat.lt_of_lt_of_le hk hi.base.size) fun hb => ?_).trans (hi.base.block k hk hnl)
          rcases (hi.mineOf hb).1 with h' | h'
          · exact hnl h'
          · omega
      have hmx : ¬ Bse.mine ⟨W1, lentOf lv, fun _ => none, none, [], fun _ => undef⟩ l := fun h => by rcases h with h | h; exact absurd (hltw l h) (by omega); simp only at h; omega
      obtain ⟨k1, k2⟩ := Inv.back hi hgrow.size i1 hbB (by omega) (fun g hg => hW5o g fun e => by
        subst e
        rcases hg.1 with h | h
        · have := h.2.1; omega
        · exact hmx h) (fun b hb => hW5o b (live_ne i1 hmx hb))
      refine ⟨lv', k1, hs.size, fun x y hx => ⟨(ht0 x y hx).2, ?_⟩, ?_, hbig, p1⟩
      · exact (f1 x y hx).keep k2
      · obtain ⟨ms, g1, g2, g3⟩ := hs.defers
        have hm : ∀ d ∈ ms, ∃ D, d = { target := .collected D, args := #[] } ∧ W5.heap[D]? = some (.deferred (some [])) ∧ B.w.heap.size ≤ D ∧ D < w.heap.size := by
          intro d hd
          obtain ⟨D, q1, q2, q3⟩ := g3 d hd
          have hDlt := (Array.getElem?_eq_some_iff.1 q2).1
          exact ⟨D, q1, (hold D hDlt fun ⟨id, n, h⟩ => (hi.lvat h).choose_spec.2.2.2.notDef q2).trans q2, q3, hDlt⟩
        refine ⟨mark ++ ms, by simp only; rw [g1, List.append_assoc], ?_, fun d hd => ?_⟩
        · rcases hmark with rfl | ⟨D, rfl, _, hD, _⟩
          · simpa using g2
          · simp only [List.cons_append, List.nil_append, List.nodup_cons]
            refine ⟨fun hin => ?_, g2⟩
            obtain ⟨D', q1, _, _, q4⟩ := hm _ hin
            simp only [Deferred.mk.injEq, Target.collected.injEq, and_true] at q1
            omega
        · rcases List.mem_append.1 hd with hd | hd
          · rcases hmark with rfl | ⟨D, rfl, hD1, hD2, hD3⟩
            · cases hd
            · simp only [List.mem_singleton] at hd
              refine ⟨D, hd, ?_, Nat.le_trans hi.base.size hD2⟩
              exact (hW5o D hD3).trans ((b1.block D (Array.getElem?_eq_some_iff.1 hD1).1 fun h => by have := hltw D h; omega).trans hD1)
          · obtain ⟨D, q1, q2, q3, _⟩ := hm d hd
            exact ⟨D, q1, q2, q3⟩
    have hcall := hit.2 l (okOf B ok0 lv w) W1 lb (fun k W => KLoop B ⟨W1, lentOf lv, fun _ => none, none, [], fun _ => undef⟩ (okOf B ok0 lv w) N l rec t0 (valAt B a) (rec .ready none) (hk k) W)
      (fun W => ∃ (c : Code) (h : Nat → Option LObj), ((c = .ret ∧ Q .ret ⟨t0, h⟩) ∨ ∃ i, c = .exit i ∧ Q (.exit i) ⟨t0, h⟩) ∧ KLoop B ⟨W1, lentOf lv, fun _ => none, none, [], fun _ => undef⟩ (okOf B ok0 lv w) N l rec t0 (valAt B a) (rec .done (some c)) h W)
      (fun g hg => Nat.lt_of_lt_of_le hg.2.1 hgrow.size) ⟨hcaps.1, fun i x u hx hu => (hcaps.2 i x u hx hu).keep fun g hg => ⟨hg, hgrow.block g hg.2.1⟩⟩ (fun k W' hK => ?_) (fun k W2 W3 hK hb => hK.grow hb) (fun W2 W3 ⟨c, h, hc, hK⟩ hb => ⟨c, h, hc, hK.grow hb⟩) (fun k el vs W2 hel hK hvs => ?_) hK0
    · have hcall' : CallsIn (FW B.rd) (0 - 1) P gf (#[.func (.yield l) #[] #[]] ++ lb.toArray) W1 _ := hcall
      refine hcall'.mono ?_
      rintro e W' ⟨⟨v, rfl⟩, hK | ⟨c, h, hc, hK⟩⟩
      · obtain ⟨lv', hsim⟩ := hback _ _ _ hK
        refine ⟨none, W'.putObj l (.loop { rec .ready none with state := .exhausted }), ?_, ⟨_, lv', done, hsim⟩⟩
        exact (run_endLoop (P := P) hK.1 (by rw [(hrec _ _).1]; simp)).trans (congrArg (fun x => Result.ok x (W'.putObj l (.loop { rec .ready none with state := .exhausted }))) (hrec _ _).2.1)
      · obtain ⟨lv', hsim⟩ := hback _ _ _ hK
        refine ⟨some c, W'.putObj l (.loop { rec .done (some c) with state := .exhausted }), ?_, ?_⟩
        · exact (run_endLoop (P := P) hK.1 (by rw [(hrec _ _).1]; simp)).trans (congrArg (fun x => Result.ok x (W'.putObj l (.loop { rec .done (some c) with state := .exhausted }))) (hrec _ _).2.1)
        · rcases hc with ⟨rfl, hq⟩ | ⟨i, rfl, hq⟩
          · exact wpIn_ret ⟨_, lv', hq, hsim⟩
          · exact wpIn_exit ⟨_, lv', hq, hsim⟩
    · obtain ⟨_, lv', hI, _, _⟩ := hK
      have hb := hI.base
      refine ⟨by simpa using hb.size, fun g hg => ?_⟩
      have hne : g ≠ l := by have := hg.2.1; omega
      rw [← World.putObj_heap_other (w := W') (o := .loop (rec .ready none)) hne]
      exact hb.block g (Nat.lt_of_lt_of_le hg.2.1 hgrow.size) (hnlive g hg)
    · have hel' := hpe el (List.mem_of_getElem? hel)
      refine ⟨fn, _, assign, body, ?_, round_K hrec hl1' (fun h => by have := hltw l h; omega) (fun h => by have := h.2.1; omega) (fun g hg => hnlive g hg) (by omega) hs.size (fun x hx => by rw [valAt, if_pos hx]) hbig hps hpn (fun x y hx => (ht0 x y hx).2) hel' (round k el hel) hK hvs⟩
      have := run_yield (P := P) (args := vs.toArray) hK.1 (by rw [hrecd]; simp [hvs.1, hel'.1])
      rw [hrecd] at this
      exact this
end
end Go.Proofs.YtenajilnjeafpaaGreat
set_option linter.unusedVariables false
set_option maxHeartbeats 4000000
namespace Go.Proofs.YtenajilnjeafpaaGreat
open Go.RowKit

/-- The slots kept aside. -/
def aside : List (Nat × AV) → List (Nat × AV)
  | [] => []
  | (x, y) :: t => (x + 1000000, y) :: aside t
theorem look_aside : ∀ (t : List (Nat × AV)) (x : Nat), look (aside t) (x + 1000000) = look t x
  | [], x => rfl
  | (a, y) :: t, x => by
    simp only [aside, look]
    have e : Nat.beq (x + 1000000) (a + 1000000) = Nat.beq x a := by
      cases h : Nat.beq x a with
      | true => rw [Nat.eq_of_beq_eq_true h]; simp
      | false =>
        refine beq_ne fun e => ?_
        obtain rfl : x = a := by omega
        simp at h
    rw [e]
    cases Nat.beq x a with
    | true => rfl
    | false => exact look_aside t x
theorem look_aside_big : ∀ {t : List (Nat × AV)} {x : Nat} {y : AV}, look (aside t) x = some y → 1000000 ≤ x
  | [], x, y, h => by simp [aside, look] at h
  | (a, z) :: t, x, y, h => by
    simp only [aside, look] at h
    cases hb : Nat.beq x (a + 1000000) with
    | true => have := Nat.eq_of_beq_eq_true hb; omega
    | false => simp only [hb] at h; exact look_aside_big h
theorem look_append : ∀ {a b : List (Nat × AV)} {x : Nat}, look (a ++ b) x = match look a x with | some y => some y | none => look b x
  | [], b, x => rfl
  | (d, r) :: a, b, x => by
    simp only [List.cons_append, look]
    cases Nat.beq x d with
    | true => rfl
    | false => exact look_append
def ltAll (n : Nat) : List Nat → Bool
  | [] => true
  | x :: t => Nat.blt x n && ltAll n t
theorem ltAll_spec {n : Nat} : ∀ {t : List Nat}, ltAll n t = true → ∀ x ∈ t, x < n
  | [], _, x, h => by cases h
  | a :: t, hl, x, h => by
    simp only [ltAll, Bool.and_eq_true, Nat.blt_eq] at hl
    rcases List.mem_cons.1 h with rfl | h
    · exact hl.1
    · exact ltAll_spec hl.2 x h
theorem nodupN_spec : ∀ {l : List Nat}, nodupN l = true → l.Nodup
  | [], _ => List.nodup_nil
  | k :: l, h => by
    simp only [nodupN] at h
    cases hm : memN k l with
    | true => simp [hm] at h
    | false =>
      simp only [hm] at h
      exact List.nodup_cons.2 ⟨fun hin => (by rw [memN_iff.2 hin] at hm; cases hm), nodupN_spec h⟩
/-- Slots of the function itself. -/
def lowS : List (Nat × AV) → List (Nat × AV)
  | [] => []
  | (x, y) :: t => match Nat.ble 1000000 x with
    | true => lowS t
    | false => (x, y) :: lowS t
theorem look_lowS : ∀ {t : List (Nat × AV)} {x : Nat}, look (lowS t) x = match Nat.ble 1000000 x with | true => none | false => look t x
  | [], x => by cases h : Nat.ble 1000000 x <;> rfl
  | (a, z) :: t, x => by
    have ih := look_lowS (t := t) (x := x)
    simp only [lowS]
    cases ha : Nat.ble 1000000 a with
    | true =>
      simp only
      rw [ih]
      cases hx : Nat.ble 1000000 x with
      | true => rfl
      | false =>
        simp only [look]
        rw [beq_ne (fun e => by subst e; rw [ha] at hx; cases hx)]
    | false =>
      simp only [look]
      cases hb : Nat.beq x a with
      | true => rw [Nat.eq_of_beq_eq_true hb, ha]
      | false => simp only; rw [ih]
/-- Slots of the function itself, or kept aside. -/
def keysOk (n : Nat) : List (Nat × AV) → Bool
  | [] => true
  | (x, _) :: t => (Nat.blt x n || Nat.ble 1000000 x) && keysOk n t
theorem keysOk_spec {n : Nat} : ∀ {t : List (Nat × AV)}, keysOk n t = true → ∀ x y, look t x = some y → x < n ∨ 1000000 ≤ x
  | [], _, x, y, h => by simp [look] at h
  | (a, z) :: t, hl, x, y, h => by
    simp only [keysOk, Bool.and_eq_true, Bool.or_eq_true, Nat.blt_eq, Nat.ble_eq] at hl
    simp only [look] at h
    cases hb : Nat.beq x a with
    | true => rw [Nat.eq_of_beq_eq_true hb]; exact hl.1
    | false => simp only [hb] at h; exact keysOk_spec hl.2 x y h
/-- The slots at a round's beginning. -/
def roundL (ps : List Nat) (el : List AV) (t0 : List (Nat × AV)) : List (Nat × AV) := ps.zip el ++ (lowS t0 ++ aside t0)
theorem A_range {P : Program} {N : Nat} {g : Operand} {ps : List Nat} {assign body : Code} {Q : Exit → SS → Prop} {t : List (Nat × AV)} {h : List (Nat × Option LObj)} {gf : Nat} {caps : List AV} {els : List (List AV)} (hgv : evF (look t) g = some (.fn gf caps)) (hit : IterCon P gf caps els)
    (hpe : ∀ el ∈ els, el.length = ps.length ∧ pureA.pureL el = true) (hps : (ltAll N ps && (nodupN ps && ltAll 1000000 ps)) = true) (t0 : List (Nat × AV)) (ht0 : subT t t0) (hlt : keysOk N t0 = true) (hk : Nat → List (Nat × Option LObj)) (h0 : ∀ id o, hlook (hk 0) id = some o → hlook h id = some o)
    (round : ∀ k el, els[k]? = some el → A P N assign (fun e s1 => e = .normal ∧ A P N body (RndF (look t0) (fun k => hlook (hk k)) k Q) s1) (S (roundL ps el t0) (hk k))) (done : Q .normal (S t0 (hk els.length))) : A P N (.rangeFunc g ps.toArray assign body) Q (S t h) := by
  simp only [Bool.and_eq_true] at hps
  refine A_rangeF hgv hit hpe (ltAll_spec hps.1) (nodupN_spec hps.2.1) (look t0) (fun x y hx => ⟨subT_look ht0 x y hx, keysOk_spec hlt x y hx⟩) (fun k => hlook (hk k)) h0 (fun k el hel => ?_) done
  refine A_weak (round k el hel) ⟨fun x y hx => ?_, fun id o ho => ho⟩
  simp only [S, roundL, look_append, look_lowS] at hx
  show roundT (look t0) ps el x = some y
  unfold roundT
  cases hb : Nat.ble 1000000 x with
  | true =>
    have hx1 : 1000000 ≤ x := by simpa using hb
    simp only
    cases hz : look (ps.zip el) x with
    | some y' =>
      obtain ⟨j, hj, _⟩ := look_zip hz
      have := ltAll_spec hps.2.2 x (List.mem_of_getElem? hj)
      omega
    | none =>
      simp only [hz, hb] at hx
      have := look_aside t0 (x - 1000000)
      rw [show x - 1000000 + 1000000 = x by omega] at this
      rw [← this]; exact hx
  | false =>
    simp only
    have hx1 := nble hb
    cases hz : look (ps.zip el) x with
    | some y' => simp only [hz] at hx; exact hx
    | none =>
      simp only [hz, hb] at hx
      simp only
      cases hz2 : look t0 x with
      | some y' => simp only [hz2] at hx; exact hx
      | none => simp only [hz2] at hx; have := look_aside_big hx; omega
/-- A round goes on to the next one. -/
theorem rndF {t0 t1 : List (Nat × AV)} {hk : Nat → List (Nat × Option LObj)} {h1 : List (Nat × Option LObj)} {k : Nat} {Q : Exit → SS → Prop} (g1 : subT t1 (aside t0)) (g2 : ∀ id o, hlook (hk (k + 1)) id = some o → hlook h1 id = some o) : RndF (look t0) (fun k => hlook (hk k)) k Q .normal (S t1 h1) :=
  ⟨fun x y hx => subT_look g1 _ y (by rw [look_aside]; exact hx), g2⟩
section
variable {P : Program} {n : Nat} {ops : Array Oper} {Q : Exit → Act → World → Prop} {a : Act} {w : World}
theorem opI {i : Nat} {rest : List Nat} {o : Oper} (u : Value) (ho : ops[i]? = some o) (hg : o.guard = none) (hd : isDefer o.op = false) (hr : (execOp a.eval o).run P w = .ok (.value u) w) (k : wpOpsIn Fence.wide n P ops Q rest (a.put o.dst u) w) : wpOpsIn Fence.wide n P ops Q (i :: rest) a w := by
  have hw : Region.wanted o (yielded ops a.tmps) = true := by simp [Region.wanted, hg]
  simp only [wpOpsIn, ho, hw, if_true]
  refine oper_FW (rd := none) hd ?_
  unfold Oper.wp
  rw [hr]
  exact k
theorem opI_yield {i : Nat} {rest : List Nat} {o : Oper} {g : Operand} {args : Array Operand} {ats : Array TypeId} {l : Nat} {R : Ending → World → Prop} (ho : ops[i]? = some o) (hg : o.guard = none) (hop : o.op = .call { callee := .value g, args := args, argTypes := ats }) (hv : a.eval g = .func (.yield l) #[] #[])
    (hy : YieldAt Fence.wide 0 P l (args.map a.eval) w R) (k : ∀ e w', R e w' → ∃ u, e = .returned u ∧ wpOpsIn Fence.wide n P ops Q rest (a.put o.dst u) w') : wpOpsIn Fence.wide n P ops Q (i :: rest) a w := by
  have hw : Region.wanted o (yielded ops a.tmps) = true := by simp [Region.wanted, hg]
  simp only [wpOpsIn, ho, hw, if_true]
  obtain ⟨fn, tmps, assign, body, hrun, hround⟩ := hy
  refine ⟨fun _ _ => trivial, ?_⟩
  have hrun2 : (o.semAt (Fence.wide).round a.eval).run P w = .ok (.round l fn tmps assign body) w := by
    show (execOp a.eval o).run P w = _
    unfold execOp
    simp only [hop, resolve, Deferred.ofValue, hv, Sem.run_bind, Sem.run_pure, Result.andThen_ok, invoke]
    simpa using hrun
  rw [hrun2]
  refine ⟨fun hc => (by cases hc), ?_⟩
  have hround' : RoundIn Fence.wide (n - 1) P l fn tmps assign body w R := ⟨trivial, fun c cs _ => hround.2 c cs (room_wide _)⟩
  refine hround'.mono fun e w' hR => ?_
  obtain ⟨u, rfl, hk⟩ := k e w' hR
  exact hk
end
end Go.Proofs.YtenajilnjeafpaaGreat
