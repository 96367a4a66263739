/- Part 6 of the texts under ExprFormats,ExprBracketsEverything: joined, with what it needs alone. -/
import Derived.Lib.AppendStr
import Derived.Test.YtcpgpiabeimefaaGreatDoorR5
set_option linter.unusedVariables false
namespace Go.Proofs.YtcpgpiabeimefaaGreatDoor
open Go.RowKit

def yey (σ : Nat → Nat) : AV → AV
  | .lp id off => .lp (σ id) off
  | .ls id s n => .ls (σ id) s n
  | .mp id => .mp (σ id)
  | .agg cs => .agg (renL cs)
  | .tup cs => .tup (renL cs)
  | .fn f cs => .fn f (renL cs)
  | x => x
  where renL : List AV → List AV
  | [] => []
  | c :: cs => yey σ c :: renL cs
theorem ycj (σ : Nat → Nat) : ∀ cs, yey.renL σ cs = cs.map (yey σ)
  | [] => rfl
  | c :: cs => by simp [yey.renL, ycj σ cs]
def ygc (ids : List Nat) : AV → Bool
  | .lp id _ => ids.contains id
  | .ls id _ _ => ids.contains id
  | .mp id => ids.contains id
  | .agg cs => onlyL cs
  | .tup cs => onlyL cs
  | .fn _ cs => onlyL cs
  | _ => true
  where onlyL : List AV → Bool
  | [] => true
  | c :: cs => ygc ids c && onlyL cs
def yjs (σ : Nat → Nat) : LObj → LObj
  | .cells xs => .cells (yey.renL σ xs)
  | .tcells e xs => .tcells e (yey.renL σ xs)
  | .mcells xs => .mcells (yey.renL σ xs)
  | o => o
def yjw (ids : List Nat) : LObj → Bool
  | .cells xs => ygc.onlyL ids xs
  | .tcells _ xs => ygc.onlyL ids xs
  | .mcells xs => ygc.onlyL ids xs
  | _ => true
theorem yfq (σ : Nat → Nat) (x : AV) : ydl (yey σ x) = ydl x := by cases x <;> rfl

section
variable {ok : Nat → Prop} {w : World} {lv lv1 : Live} {σ : Nat → Nat}
theorem Rel.unren (hl : ∀ id b n, lv1 id = some (b, n) → lv (σ id) = some (b, n)) : ∀ {x : AV} {u : Value}, Rel ok w lv (yey σ x) u → Rel ok w lv1 x u
  | .v _, u, h => by cases h; exact .v _
  | .any, u, h => .any u
  | .one, u, h => by cases h with | one _ h1 => exact .one _ h1
  | .sl s rows, u, h => by cases h with | sl a cap u g o hn hc ha hr hg hcell hrel => exact .sl a cap u g o hn hc ha hr hg hcell hrel
  | .dp row off, u, h => by cases h with | dp g o u hg hcell hrel => exact .dp g o u hg hcell hrel
  | .mv es, u, h => by cases h with | mv b hg hm => exact .mv b hg hm
  | .lp id off, u, h => by cases h with | lp _ h1 h2 => exact .lp _ h1 fun b n hb => h2 b n (hl id _ n hb)
  | .ls id s n, u, h => by cases h with | ls _ h1 h2 => exact .ls _ h1 fun b n hb => h2 b n (hl id _ n hb)
  | .mp id, u, h => by cases h with | mp _ h1 h2 => exact .mp _ h1 fun b n hb => h2 b n (hl id _ n hb)
  | .agg cs, u, h => by
    cases h with
    | agg vs hlen hc hr =>
      exact .agg vs (by rw [hlen, ycj]; simp) (fun c hm => by rw [← yfq σ]; exact hc _ (by rw [ycj]; exact List.mem_map_of_mem hm)) (rows hr)
  | .tup cs, u, h => by
    cases h with
    | tup vs hlen hr => exact .tup vs (by rw [hlen, ycj]; simp) (rows hr)
  | .fn f cs, u, h => by
    cases h with
    | fn vs hlen hr => exact .fn vs (by rw [hlen, ycj]; simp) (rows hr)
  where rows : ∀ {cs : List AV} {vs : List Value}, (∀ (i : Nat) (c : AV) (u : Value), (yey.renL σ cs)[i]? = some c → vs[i]? = some u → Rel ok w lv c u) → ∀ (i : Nat) (c : AV) (u : Value), cs[i]? = some c → vs[i]? = some u → Rel ok w lv1 c u
  | [], vs, _, i, c, u, hc, _ => by simp at hc
  | d :: cs, [], _, i, c, u, _, hu => by simp at hu
  | d :: cs, q :: vs, h, 0, c, u, hc, hu => by
    simp at hc hu
    subst hc hu
    exact Rel.unren hl (h 0 _ _ rfl rfl)
  | d :: cs, q :: vs, h, i + 1, c, u, hc, hu => rows (fun j c u h1 h2 => h (j + 1) c u (by simpa [yey.renL] using h1) (by simpa using h2)) i c u (by simpa using hc) (by simpa using hu)
theorem Rel.ren {ids : List Nat} (hl : ∀ id b n, id ∈ ids → lv (σ id) = some (b, n) → lv1 id = some (b, n)) : ∀ {x : AV} {u : Value}, ygc ids x = true → Rel ok w lv1 x u → Rel ok w lv (yey σ x) u
  | .v _, u, _, h => by cases h; exact .v _
  | .any, u, _, h => .any u
  | .one, u, _, h => by cases h with | one _ h1 => exact .one _ h1
  | .sl s rows, u, _, h => by cases h with | sl a cap u g o hn hc ha hr hg hcell hrel => exact .sl a cap u g o hn hc ha hr hg hcell hrel
  | .dp row off, u, _, h => by cases h with | dp g o u hg hcell hrel => exact .dp g o u hg hcell hrel
  | .mv es, u, _, h => by cases h with | mv b hg hm => exact .mv b hg hm
  | .lp id off, u, ho, h => by cases h with | lp _ h1 h2 => exact .lp _ h1 fun b n hb => h2 b n (hl id _ n (by simpa [ygc] using ho) hb)
  | .ls id s n, u, ho, h => by cases h with | ls _ h1 h2 => exact .ls _ h1 fun b n hb => h2 b n (hl id _ n (by simpa [ygc] using ho) hb)
  | .mp id, u, ho, h => by cases h with | mp _ h1 h2 => exact .mp _ h1 fun b n hb => h2 b n (hl id _ n (by simpa [ygc] using ho) hb)
  | .agg cs, u, ho, h => by
    cases h with
    | agg vs hlen hc hr =>
      refine .agg vs (by rw [hlen, ycj]; simp) (fun c hm => ?_) (rows ho hr)
      rw [ycj] at hm
      obtain ⟨y, hy, rfl⟩ := List.mem_map.1 hm
      rw [yfq]; exact hc y hy
  | .tup cs, u, ho, h => by
    cases h with
    | tup vs hlen hr => exact .tup vs (by rw [hlen, ycj]; simp) (rows ho hr)
  | .fn f cs, u, ho, h => by
    cases h with
    | fn vs hlen hr => exact .fn vs (by rw [hlen, ycj]; simp) (rows ho hr)
  where rows : ∀ {cs : List AV} {vs : List Value}, ygc.onlyL ids cs = true → (∀ (i : Nat) (c : AV) (u : Value), cs[i]? = some c → vs[i]? = some u → Rel ok w lv1 c u) → ∀ (i : Nat) (c : AV) (u : Value), (yey.renL σ cs)[i]? = some c → vs[i]? = some u → Rel ok w lv c u
  | [], vs, _, _, i, c, u, hc, _ => by simp [yey.renL] at hc
  | d :: cs, [], _, _, i, c, u, _, hu => by simp at hu
  | d :: cs, q :: vs, ho, h, 0, c, u, hc, hu => by
    simp only [ygc.onlyL, Bool.and_eq_true] at ho
    simp [yey.renL] at hc hu
    subst hc hu
    exact Rel.ren hl ho.1 (h 0 _ _ rfl rfl)
  | d :: cs, q :: vs, ho, h, i + 1, c, u, hc, hu => by
    simp only [ygc.onlyL, Bool.and_eq_true] at ho
    exact rows ho.2 (fun j c u h1 h2 => h (j + 1) c u (by simpa using h1) (by simpa using h2)) i c u (by simpa [yey.renL] using hc) (by simpa using hu)
end

def yhl (lv : Live) (b : Nat) : Prop := ∃ id n, lv id = some (some b, n)
def ydp (w : World) (lv : Live) : Bse := ⟨w, yhl lv, fun _ => none, none, [], fun _ => undef⟩
def yia (P : Program) (f : FuncId) (args : List AV) (hs : Nat → Option LObj) (r : AV) (hs' : Nat → Option LObj) : Prop :=
  HasBody P f ∧ (∀ id o, hs' id = some o → isC o = true → ∃ o', hs id = some o' ∧ isC o' = true) ∧ ∀ (ok0 : Nat → Prop) (lv : Live) (w : World) (us : List Value), Inv (ydp w lv) ok0 hs lv w → ybr (ybi (ydp w lv) ok0 lv w) w lv args us →
    Calls P f us.toArray w fun e w' => ∃ u lv', e = .returned u ∧ Rel (ybi (ydp w lv) ok0 lv' w') w' lv' r u ∧ Inv (ydp w lv) ok0 hs' lv' w' ∧ ∀ id o, hs' id = some o → isC o = true → ∃ b n n', lv id = some (some b, n) ∧ lv' id = some (some b, n')

theorem Inv.pinned {B : Bse} {ok0 : Nat → Prop} {h : Nat → Option LObj} {lv : Live} {w : World} (hi : Inv B ok0 h lv w) (p : Nat → Option Nat) (rd : Option Nat) (dl : List Deferred) (gv : Nat → Value) (hrd : ∀ l, rd = some l → (∃ r, B.w.heap[l]? = some (.loop r)) ∧ ¬ B.lent l) : Inv ⟨B.w, B.lent, p, rd, dl, gv⟩ ok0 h lv w :=
  ⟨⟨hi.base.os, hi.base.tape, hi.base.output, hi.base.size, hi.base.block, hi.base.glob, hi.base.gsize, hi.base.lentG, hrd⟩, hi.ok0lt, hi.dom, hi.inj, fun id x hx => by
    obtain ⟨b, n, h1, h2⟩ := hi.obj id x hx
    refine ⟨b, n, h1, ?_⟩
    cases b with
    | none => exact h2
    | some b => exact h2⟩

def EndsM (T : Nat → Option Ty) (rs : List ResultVar) (r : AV) (hs' : Nat → Option LObj) : Exit → SS → Prop
  | .normal, s => ∃ x, yjf T s rs = some x ∧ Wk x r ∧ ∀ id o, hs' id = some o → s.h id = some o
  | .ret, s => ∃ x, yjf T s rs = some x ∧ Wk x r ∧ ∀ id o, hs' id = some o → s.h id = some o
  | _, _ => False

theorem ycw {P : Program} {T : Nat → Option Ty} (hT : TOK P T) {f : FuncId} {fn : Func} {c : Code} {N : Nat} {rs : List ResultVar} {args : List AV} {hs hs' : Nat → Option LObj} {r : AV} (hf : P.funcs[f]? = some fn) (hn : (fn.name == "runtime.NumGoroutine") = false) (hb : fn.body = some c) (hN : fn.ntmps = N) (hrs : fn.results = rs.toArray) (hlen : (Nat.ble args.length N && Nat.ble N 1000000) = true)
    (hcl : ∀ id o, hs' id = some o → isC o = true → N ≤ id ∧ ∃ o', hs id = some o' ∧ isC o' = true) (h : A P N c (EndsM T rs r hs') ⟨ybb (yfd 0 args), hs⟩) : yia P f args hs r hs' := by
  refine ⟨⟨fn, hf, hn, by simp [hb]⟩, fun id o hx hc => (hcl id o hx hc).2, fun ok0 lv w us hi hus => ?_⟩
  simp only [Bool.and_eq_true, Nat.ble_eq] at hlen
  obtain ⟨hlen', hbig⟩ := hlen
  refine (callsIn_wide (n := 0)).1 (callsIn_of_wp_marks hf hb trivial ?_)
  have hsim : Sim ⟨w, yhl lv, fun id => (lv id).bind (·.1), none, [], fun _ => undef⟩ ok0 N ⟨ybb (yfd 0 args), hs⟩ lv { tmps := us.toArray ++ Array.replicate (fn.ntmps - us.toArray.size) undef, defers := [] } w := by
    refine ⟨hi.pinned _ _ _ _ (fun l h => by cases h), ?_, fun x y hy => ?_, ⟨[], rfl, List.nodup_nil, fun d hd => by cases hd⟩, hbig, fun id b o hN hx hc hb => ?_⟩
    · simp [hN, hus.1]; omega
    · simp only [enumF_args] at hy
      have hlt := (List.getElem?_eq_some_iff.1 hy).1
      refine ⟨.inl (by omega), ?_⟩
      rw [yev, if_pos (by omega)]
      obtain ⟨u, hu⟩ : ∃ u, us[x]? = some u := ⟨_, List.getElem?_eq_getElem (by rw [hus.1]; exact hlt)⟩
      simp only [getD_args us _ x u hu]
      exact hus.2 x y u hy hu
    · simp only at hb
      cases hl : lv id with
      | none => simp [hl] at hb
      | some q => obtain ⟨q1, q2⟩ := q; simp [hl] at hb; subst hb; exact ⟨q2, rfl⟩
  refine wpIn_mono (h _ ok0 _ _ w hsim) fun e a' w' ⟨s', lv', hq, hs2⟩ => ?_
  have fin : ∀ x, yjf T s' rs = some x → Wk x r → (∀ id o, hs' id = some o → s'.h id = some o) → ∀ (a' : Act) (w' : World), Sim ⟨w, yhl lv, fun id => (lv id).bind (·.1), none, [], fun _ => undef⟩ ok0 N s' lv' a' w' → ∃ v, (results fn a'.tmps).run P w' = .ok v w' ∧ ∃ u lv2, Ending.returned v = .returned u ∧ Rel (ybi (ydp w lv) ok0 lv2 w') w' lv2 r u ∧ Inv (ydp w lv) ok0 hs' lv2 w' ∧ ∀ id o, hs' id = some o → isC o = true → ∃ b n n', lv id = some (some b, n) ∧ lv2 id = some (some b, n') := by
    intro x hx hwk hsub a' w' hs2
    obtain ⟨u, hu, hrun⟩ := resAT_run (P := P) hT hs2 hrs hx
    obtain ⟨lv2, i1, i2, i3⟩ := hs2.inv.weak hsub
    refine ⟨u, hrun, u, lv2, rfl, hwk.rel _ _ _ _ ((hu.relive fun id b n hb _ => i2 id b n hb).keep fun g hg => ⟨i3 g hg, rfl⟩), i1.pinned _ _ _ _ (fun l h => by cases h), fun id o hx hc => ?_⟩
    obtain ⟨h1, o', hy, hc'⟩ := hcl id o hx hc
    obtain ⟨b, n, hb, ho⟩ := hi.obj id _ hy
    cases b with
    | none => simp only [yhn] at ho; rcases ho with rfl | ⟨e, rfl⟩ <;> cases hc'
    | some b =>
      obtain ⟨n', hn'⟩ := hs2.pin id b o h1 (hsub id _ hx) hc (by simp [hb])
      obtain ⟨b2, n2, hb2, _⟩ := i1.obj id _ hx
      have := i2 id b2 n2 hb2
      rw [hn'] at this
      cases this
      exact ⟨b, n, _, hb, hb2⟩
  cases e with
  | normal => obtain ⟨x, hx, h1, h2⟩ := hq; exact ycz rfl rfl (fin x hx h1 h2) _ a' w' rfl hs2
  | ret => obtain ⟨x, hx, h1, h2⟩ := hq; exact ycz rfl rfl (fin x hx h1 h2) _ a' w' rfl hs2
  | _ => exact hq.elim

theorem yeo.unren {ok ok' : Nat → Prop} {w : World} {lv lv1 : Live} {σ : Nat → Nat} {b n : Nat} {x : LObj} (hl : ∀ id b n, lv1 id = some (b, n) → lv (σ id) = some (b, n)) (hk : ∀ g, ok g → ok' g) (h : yeo ok lv w b n (yjs σ x)) : yeo ok' lv1 w b n x := by
  cases x with
  | cells xs =>
    obtain ⟨c, e, g1, g2, g3, g4, g5⟩ := h
    rw [ycj] at g3 g4 g5
    refine ⟨c, e, g1, g2, by simpa using g3, fun y hy => by rw [← yfq σ]; exact g4 _ (List.mem_map_of_mem hy), fun j y u hy hu => ?_⟩
    exact (Rel.unren hl (g5 j (yey σ y) u (by simp [hy]) hu)).keep fun g hg => ⟨hk g hg, rfl⟩
  | vec xs =>
    obtain ⟨⟨c, e, g1, g2, g3, g4, g5⟩, hp⟩ := h
    exact ⟨⟨c, e, g1, g2, g3, g4, fun j y u hy hu => ((g5 j y u hy hu).relive fun id b n _ hm => by rw [ybp.ment (hp y (List.mem_of_getElem? hy))] at hm; cases hm).keep fun g hg => ⟨hk g hg, rfl⟩⟩, hp⟩
  | map es => exact h
  | iter es left cur => exact yib.keep h (fun g hg => ⟨hk g hg, rfl⟩) rfl
  | siter s pos => exact h
  | tcells e xs =>
    obtain ⟨⟨c, e', g1, g2, g3, g4, g5⟩, hsh⟩ := h
    rw [ycj] at g3 g4 g5 hsh
    exact ⟨⟨c, e', g1, g2, by simpa using g3, fun y hy => by rw [← yfq σ]; exact g4 _ (List.mem_map_of_mem hy), fun j y u hy hu => (Rel.unren hl (g5 j (yey σ y) u (by simp [hy]) hu)).keep fun g hg => ⟨hk g hg, rfl⟩⟩, by simpa using hsh⟩
  | tvec e xs =>
    obtain ⟨⟨c, e', g1, g2, g3, g4, g5⟩, hp, hsh⟩ := h
    exact ⟨⟨c, e', g1, g2, g3, g4, fun j y u hy hu => ((g5 j y u hy hu).relive fun id b n _ hm => by rw [ybp.ment (hp y (List.mem_of_getElem? hy))] at hm; cases hm).keep fun g hg => ⟨hk g hg, rfl⟩⟩, hp, hsh⟩
  | mcells xs =>
    obtain ⟨c, e, g1, g2, g3, g4, g5⟩ := h
    rw [ycj] at g3 g4 g5
    refine ⟨c, e, g1, g2, by simpa using g3, fun y hy => by rw [← yfq σ]; exact g4 _ (List.mem_map_of_mem hy), fun j y u hy hu => ?_⟩
    exact (Rel.unren hl (g5 j (yey σ y) u (by simp [hy]) hu)).keep fun g hg => ⟨hk g hg, rfl⟩
theorem yeo.ren {ok ok' : Nat → Prop} {w : World} {lv lv1 : Live} {σ : Nat → Nat} {ids : List Nat} {b n : Nat} {x : LObj} (hl : ∀ id b n, id ∈ ids → lv (σ id) = some (b, n) → lv1 id = some (b, n)) (ho : yjw ids x = true) (hk : ∀ g, ok g → ok' g) (h : yeo ok lv1 w b n x) : yeo ok' lv w b n (yjs σ x) := by
  cases x with
  | cells xs =>
    obtain ⟨c, e, g1, g2, g3, g4, g5⟩ := h
    refine ⟨c, e, g1, g2, by rw [ycj]; simpa using g3, fun y hy => ?_, fun j y u hy hu => ?_⟩
    · rw [ycj] at hy
      obtain ⟨z, hz, rfl⟩ := List.mem_map.1 hy
      rw [yfq]; exact g4 z hz
    · exact (Rel.ren.rows (vs := c.toList) hl ho (fun j y u hy hu => g5 j y u hy (by simpa using hu)) j y u hy (by simpa using hu)).keep fun g hg => ⟨hk g hg, rfl⟩
  | vec xs =>
    obtain ⟨⟨c, e, g1, g2, g3, g4, g5⟩, hp⟩ := h
    exact ⟨⟨c, e, g1, g2, g3, g4, fun j y u hy hu => ((g5 j y u hy hu).relive fun id b n _ hm => by rw [ybp.ment (hp y (List.mem_of_getElem? hy))] at hm; cases hm).keep fun g hg => ⟨hk g hg, rfl⟩⟩, hp⟩
  | map es => exact h
  | iter es left cur => exact yib.keep h (fun g hg => ⟨hk g hg, rfl⟩) rfl
  | siter s pos => exact h
  | tcells e xs =>
    obtain ⟨⟨c, e', g1, g2, g3, g4, g5⟩, hsh⟩ := h
    refine ⟨⟨c, e', g1, g2, by rw [ycj]; simpa using g3, fun y hy => ?_, fun j y u hy hu => ?_⟩, by rw [ycj]; simpa using hsh⟩
    · rw [ycj] at hy
      obtain ⟨z, hz, rfl⟩ := List.mem_map.1 hy
      rw [yfq]; exact g4 z hz
    · exact (Rel.ren.rows (vs := c.toList) hl ho (fun j y u hy hu => g5 j y u hy (by simpa using hu)) j y u hy (by simpa using hu)).keep fun g hg => ⟨hk g hg, rfl⟩
  | tvec e xs =>
    obtain ⟨⟨c, e', g1, g2, g3, g4, g5⟩, hp, hsh⟩ := h
    exact ⟨⟨c, e', g1, g2, g3, g4, fun j y u hy hu => ((g5 j y u hy hu).relive fun id b n _ hm => by rw [ybp.ment (hp y (List.mem_of_getElem? hy))] at hm; cases hm).keep fun g hg => ⟨hk g hg, rfl⟩⟩, hp, hsh⟩
  | mcells xs =>
    obtain ⟨c, e, g1, g2, g3, g4, g5⟩ := h
    refine ⟨c, e, g1, g2, by rw [ycj]; simpa using g3, fun y hy => ?_, fun j y u hy hu => ?_⟩
    · rw [ycj] at hy
      obtain ⟨z, hz, rfl⟩ := List.mem_map.1 hy
      rw [yfq]; exact g4 z hz
    · exact (Rel.ren.rows (vs := c.toList) hl ho (fun j y u hy hu => g5 j y u hy (by simpa using hu)) j y u hy (by simpa using hu)).keep fun g hg => ⟨hk g hg, rfl⟩
theorem renO_isC (σ : Nat → Nat) (x : LObj) : isC (yjs σ x) = isC x := by cases x <;> rfl
theorem renO_nil {σ : Nat → Nat} {x : LObj} (h : yjs σ x = .vec [] ∨ ∃ e, yjs σ x = .tvec e []) : x = .vec [] ∨ ∃ e, x = .tvec e [] := by
  cases x <;> simp_all [yjs]

def Kept (σ : Nat → Nat) (ids : List Nat) (hm' : Nat → Option LObj) (y : AV) : Prop := (∀ i ∈ ids, ment (σ i) y = false) ∨ ∃ i ∈ ids, ∃ off o, y = .lp (σ i) off ∧ hm' i = some o ∧ isC o = true

set_option maxHeartbeats 4000000
section
variable {P : Program} {N : Nat}
theorem callM_loud {o : Oper} {g : Operand} {args : List Operand} {ats : Array TypeId} {f : FuncId} {caps xs args0 : List AV} {hm hm' : Nat → Option LObj} {r : AV} {σ : Nat → Nat} {ids : List Nat} {d : Nat} {s s2 : SS}
    (ho : o.op = .call { callee := .value g, args := args.toArray, argTypes := ats }) (hd : o.dst = some d) (hdN : d < N) (hg : evF s.t g = some (.fn f caps)) (hx : evL (evF s.t) args = some xs) (hargs : xs ++ caps = args0.map (yey σ)) (hc : yia P f args0 hm r hm')
    (hinj : ∀ i ∈ ids, ∀ j ∈ ids, σ i = σ j → i = j) (hdom : ∀ id, (hm id).isSome → id ∈ ids) (hdom' : ∀ id, (hm' id).isSome → id ∈ ids) (hmem : ∀ id o, hm id = some o → s.h (σ id) = some (yjs σ o)) (hr : ygc ids r = true) (hro : ∀ id o, hm' id = some o → yjw ids o = true)
    (ht : ∀ x y, s2.t x = some y → (x = d ∧ y = yey σ r) ∨ (x ≠ d ∧ ((y = .any ∧ ∃ z, s.t x = some z) ∨ (s.t x = some y ∧ Kept σ ids hm' y))))
    (hh1 : ∀ i ∈ ids, s2.h (σ i) = (hm' i).map (yjs σ)) (hh2 : ∀ j ob', (∀ i ∈ ids, σ i ≠ j) → s2.h j = some ob' → (∀ i ∈ ids, yfe (σ i) ob' = false) ∧ ∃ ob, s.h j = some ob ∧ yhm ob ob') : ygx P N o s (· = s2) := by
  intro B ok0 lv a w hs Q
  have hfr := hs.eval hg
  have har := evL_rel (a := a) args xs (fun x y _ hxy => hs.eval hxy) hx
  generalize hv : a.eval g = v at hfr
  cases hfr with
  | fn vs hl hrc =>
  have hrun : (execOp a.eval o).run P w = .ok (.enter f (args.map a.eval ++ vs).toArray) w := by
    unfold execOp
    simp only [ho, resolve, Deferred.ofValue, hv, Sem.run_bind, Sem.run_pure, Result.andThen_ok, invoke]
    rw [run_callFunc hc.1]
    simp
  let lv1 : Live := fun id => if id ∈ ids ∧ (hm id).isSome then lv (σ id) else none
  have hl1 : ∀ id b n, lv1 id = some (b, n) → id ∈ ids ∧ (hm id).isSome ∧ lv (σ id) = some (b, n) := by
    intro id b n hb
    simp only [lv1] at hb
    split at hb
    · rename_i h; exact ⟨h.1, h.2, hb⟩
    · cases hb
  have hl2 : ∀ id b n, lv1 id = some (b, n) → lv (σ id) = some (b, n) := fun id b n h => (hl1 id b n h).2.2
  have hmine : ∀ b, yhl lv1 b → B.mine b ∧ b < w.heap.size ∧ ∃ i ∈ ids, ∃ n, lv (σ i) = some (some b, n) := by
    rintro b ⟨id, n, hb⟩
    obtain ⟨h1, h2, h3⟩ := hl1 id _ n hb
    obtain ⟨_, _, h4, h5, _⟩ := hs.inv.lvat h3
    exact ⟨h4, h5, id, h1, n, h3⟩
  have hok1 : ∀ g, ybi B ok0 lv w g → ybi (ydp w lv1) (ybi B ok0 lv w) lv1 w g := fun g hg => ⟨.inl hg, hg.2.1, fun id b n hb => hg.2.2 (σ id) b n (hl2 id _ n hb)⟩
  have hinv : Inv (ydp w lv1) (ybi B ok0 lv w) hm lv1 w := by
    refine ⟨⟨rfl, rfl, rfl, Nat.le_refl _, fun _ _ _ => rfl, hs.inv.base.glob, hs.inv.base.glob.size, fun k hk => hs.inv.base.mineG (hmine k hk).1, fun l h => by cases h⟩, fun g hg => hg.2.1, fun id hid => by simp [lv1, hid], fun i j b n m h1 h2 => ?_, fun id x hx => ?_⟩
    · obtain ⟨q1, _, q2⟩ := hl1 _ _ _ h1
      obtain ⟨r1, _, r2⟩ := hl1 _ _ _ h2
      exact hinj i q1 j r1 (hs.inv.inj _ _ b n m q2 r2)
    · obtain ⟨b, n, h1, h2⟩ := hs.inv.obj (σ id) _ (hmem id x hx)
      have hlv : lv1 id = some (b, n) := by simp [lv1, hdom id (by simp [hx]), hx, h1]
      refine ⟨b, n, hlv, ?_⟩
      cases b with
      | none => exact renO_nil h2
      | some b => exact ⟨.inl ⟨id, n, hlv⟩, h2.2.1, yeo.unren hl2 hok1 h2.2.2⟩
  have hall : ybr (ybi (ydp w lv1) (ybi B ok0 lv w) lv1 w) w lv1 args0 (args.map a.eval ++ vs) := by
    have hlen : (args.map a.eval ++ vs).length = args0.length := by
      have := congrArg List.length hargs
      simp only [List.length_append, List.length_map] at this ⊢
      have := har.1
      simp at this
      omega
    refine ⟨hlen, fun i x u hx hu => ?_⟩
    have hxi : (xs ++ caps)[i]? = some (yey σ x) := by rw [hargs]; simp [hx]
    have hrel : Rel (ybi B ok0 lv w) w lv (yey σ x) u := by
      by_cases hlt : i < xs.length
      · rw [List.getElem?_append_left hlt] at hxi
        rw [List.getElem?_append_left (by rw [har.1]; exact hlt)] at hu
        exact har.2 i _ u hxi hu
      · rw [List.getElem?_append_right (by omega)] at hxi
        rw [List.getElem?_append_right (by rw [har.1]; omega), har.1] at hu
        exact hrc _ _ u hxi hu
    exact (Rel.unren hl2 hrel).keep fun g hg => ⟨hok1 g hg, rfl⟩
  unfold Oper.wp
  rw [hrun]
  refine (hc.2.2 (ybi B ok0 lv w) lv1 w (args.map a.eval ++ vs) hinv hall).mono fun e w' ⟨u, lv3, he, hu, hi3, hpin⟩ => ?_
  subst he
  simp only [hd]
  have hb3 := hi3.base
  -- the blocks that are not lent stay
  have hstay : ∀ k, k < w.heap.size → (∀ i ∈ ids, ∀ n, lv (σ i) ≠ some (some k, n)) → w'.heap[k]? = w.heap[k]? := by
    intro k hk hn
    exact hb3.block k hk fun hlent => by
      obtain ⟨_, _, i, hi, n, hn'⟩ := hmine k hlent
      exact hn i hi n hn'
  have hsz : w.heap.size ≤ w'.heap.size := hb3.size
  have hmine3 : ∀ id b n, lv3 id = some (some b, n) → B.mine b ∧ b < w'.heap.size ∧ (w.heap.size ≤ b ∨ ∃ i ∈ ids, ∃ n, lv (σ i) = some (some b, n)) := by
    intro id b n hb
    obtain ⟨_, _, q1, q2, _⟩ := hi3.lvat hb
    rcases q1 with q1 | q1
    · have := hmine b q1
      exact ⟨this.1, q2, .inr this.2.2⟩
    · exact ⟨.inr (Nat.le_trans hs.inv.base.size q1), q2, .inl q1⟩
  have hid3 : ∀ id b n, lv3 id = some (b, n) → id ∈ ids := fun id b n hb => by
    cases hq : hm' id with
    | none => rw [hi3.dom id hq] at hb; cases hb
    | some o => exact hdom' id (by simp [hq])
  let find : Nat → Option Nat := fun j => ids.find? fun i => σ i == j
  have hf1 : ∀ j i, find j = some i → i ∈ ids ∧ σ i = j := fun j i h => ⟨List.mem_of_find?_eq_some h, by simpa using List.find?_some h⟩
  have hf2 : ∀ i ∈ ids, find (σ i) = some i := fun i hi => by
    cases hq : find (σ i) with
    | none =>
      have := List.find?_eq_none.1 hq i hi
      simp at this
    | some k => obtain ⟨h1, h2⟩ := hf1 _ _ hq; rw [hinj k h1 i hi h2]
  have hf3 : ∀ j, find j = none → ∀ i ∈ ids, σ i ≠ j := fun j h i hi e => by
    have := List.find?_eq_none.1 h i hi
    simp [e] at this
  let lv2 : Live := fun j => match find j with
    | some i => lv3 i
    | none => if (s2.h j).isSome then lv j else none
  have hlv2a : ∀ i ∈ ids, lv2 (σ i) = lv3 i := fun i hi => by simp only [lv2, hf2 i hi]
  have hlv2b : ∀ j, (∀ i ∈ ids, σ i ≠ j) → ∀ b n, lv2 j = some (b, n) → lv j = some (b, n) ∧ (s2.h j).isSome := by
    intro j hj b n hb
    have hn : find j = none := by
      cases hq : find j with
      | none => rfl
      | some i => obtain ⟨h1, h2⟩ := hf1 _ _ hq; exact absurd h2 (hj i h1)
    simp only [lv2, hn] at hb
    split at hb
    · rename_i h; exact ⟨hb, h⟩
    · cases hb
  have hcase : ∀ j, (∃ i ∈ ids, σ i = j) ∨ ∀ i ∈ ids, σ i ≠ j := fun j => by
    cases hq : find j with
    | none => exact .inr (hf3 j hq)
    | some i => obtain ⟨h1, h2⟩ := hf1 _ _ hq; exact .inl ⟨i, h1, h2⟩
  have hok2 : ∀ g, ybi B ok0 lv w g → ybi B ok0 lv2 w' g ∧ w'.heap[g]? = w.heap[g]? := by
    intro g hg
    refine ⟨⟨hg.1, Nat.lt_of_lt_of_le hg.2.1 hsz, fun j b n hb => ?_⟩, hstay g hg.2.1 fun i _ n hn => hg.2.2 _ _ n hn rfl⟩
    rcases hcase j with ⟨i, hi, rfl⟩ | hj
    · rw [hlv2a i hi] at hb
      rcases (hmine3 i b n hb).2.2 with h | ⟨i', _, n', h⟩
      · have := hg.2.1; omega
      · exact hg.2.2 _ _ n' h
    · exact hg.2.2 j b n (hlv2b j hj _ n hb).1
  have hok3 : ∀ g, ybi (ydp w lv1) (ybi B ok0 lv w) lv3 w' g → ybi B ok0 lv2 w' g := by
    intro g hg
    refine ⟨?_, hg.2.1, fun j b n hb => ?_⟩
    · rcases hg.1 with h | h | h
      · exact h.1
      · exact .inr (hmine g h).1
      · exact .inr (.inr (Nat.le_trans hs.inv.base.size h))
    · rcases hcase j with ⟨i, hi, rfl⟩ | hj
      · rw [hlv2a i hi] at hb
        exact hg.2.2 i b n hb
      · obtain ⟨hb', _⟩ := hlv2b j hj _ n hb
        have hlt := hs.inv.lvlt hb'
        rintro rfl
        rcases hg.1 with h | h | h
        · exact h.2.2 j b n hb' rfl
        · obtain ⟨_, _, i, hi, n', hn'⟩ := hmine b h
          exact hj i hi (hs.inv.inj _ _ b n' n hn' hb')
        · simp only [ydp] at h; omega
  have hren : ∀ id b n, id ∈ ids → lv2 (σ id) = some (b, n) → lv3 id = some (b, n) := fun id b n hi hb => by rwa [hlv2a id hi] at hb
  have hframe : ∀ (y : AV) (z : Value), (∀ i ∈ ids, ment (σ i) y = false) → Rel (ybi B ok0 lv w) w lv y z → Rel (ybi B ok0 lv2 w') w' lv2 y z := by
    intro y z hy hz
    refine (hz.relive fun j b n hb hm => ?_).keep hok2
    rcases hcase j with ⟨i, hi, rfl⟩ | hj
    · rw [hy i hi] at hm; cases hm
    · exact (hlv2b j hj b n hb).1
  refine ⟨s2, lv2, rfl, ⟨⟨?_, hs.inv.ok0lt, fun j hj => ?_, fun i j b n m h1 h2 => ?_, fun j x hx => ?_⟩, by simp [Act.put, hs.size], fun x y hy => ?_, hs.defers.same (fun g hg => (hstay g (Array.getElem?_eq_some_iff.1 hg).1 fun i hi n hn => (hs.inv.lvat hn).choose_spec.2.2.2.notDef hg).trans hg), hs.big, fun j b ws hN hj hcj hb => ?_⟩⟩
  · -- base
    refine ⟨hb3.os.trans hs.inv.base.os, hb3.tape.trans hs.inv.base.tape, hb3.output.trans hs.inv.base.output, Nat.le_trans hs.inv.base.size hsz, fun k hk hnl => ?_, hb3.glob, hs.inv.base.gsize, hs.inv.base.lentG, hs.inv.base.rdok⟩
    refine (hstay k (Nat.lt_of_lt_of_le hk hs.inv.base.size) fun i hi n hn => ?_).trans (hs.inv.base.block k hk hnl)
    obtain ⟨_, _, q1, _, _⟩ := hs.inv.lvat hn
    rcases q1 with q1 | q1
    · exact hnl q1
    · omega
  · -- dom
    rcases hcase j with ⟨i, hi, rfl⟩ | hj'
    · rw [hlv2a i hi]
      refine hi3.dom i ?_
      rw [hh1 i hi] at hj
      cases hq : hm' i with
      | none => rfl
      | some o => simp [hq] at hj
    · cases hq : lv2 j with
      | none => rfl
      | some q => obtain ⟨q1, q2⟩ := q; have := (hlv2b j hj' q1 q2 hq).2; simp [hj] at this
  · -- inj
    rcases hcase i with ⟨i', hi, rfl⟩ | hi <;> rcases hcase j with ⟨j', hj, rfl⟩ | hj
    · rw [hlv2a i' hi] at h1
      rw [hlv2a j' hj] at h2
      rw [hi3.inj i' j' b n m h1 h2]
    · rw [hlv2a i' hi] at h1
      have h2' := (hlv2b j hj _ m h2).1
      have := hs.inv.lvlt h2'
      rcases (hmine3 i' b n h1).2.2 with h | ⟨k, hk, n', h⟩
      · omega
      · exact absurd (hs.inv.inj _ _ b n' m h h2') (hj k hk)
    · rw [hlv2a j' hj] at h2
      have h1' := (hlv2b i hi _ n h1).1
      have := hs.inv.lvlt h1'
      rcases (hmine3 j' b m h2).2.2 with h | ⟨k, hk, n', h⟩
      · omega
      · exact absurd (hs.inv.inj _ _ b n' n h h1') (hi k hk)
    · exact hs.inv.inj i j b n m (hlv2b i hi _ n h1).1 (hlv2b j hj _ m h2).1
  · -- objects
    rcases hcase j with ⟨i, hi, rfl⟩ | hj
    · rw [hh1 i hi] at hx
      cases hq : hm' i with
      | none => simp [hq] at hx
      | some ob =>
        simp only [hq, Option.map_some, Option.some.injEq] at hx
        subst hx
        obtain ⟨b, n, q1, q2⟩ := hi3.obj i ob hq
        refine ⟨b, n, by rw [hlv2a i hi]; exact q1, ?_⟩
        cases b with
        | none =>
          simp only [yhn] at q2 ⊢
          rcases q2 with rfl | ⟨e, rfl⟩
          · exact .inl rfl
          · exact .inr ⟨e, rfl⟩
        | some b =>
          exact ⟨(hmine3 i b n q1).1, q2.2.1, yeo.ren hren (hro i ob hq) hok3 q2.2.2⟩
    · obtain ⟨hm1, ob, hob, hfo⟩ := hh2 j x hj hx
      obtain ⟨b, n, q1, q2⟩ := hs.inv.obj j ob hob
      have hlv2 : lv2 j = some (b, n) := by
        have hn : find j = none := by
          cases hq : find j with
          | none => rfl
          | some i => obtain ⟨h1, h2⟩ := hf1 _ _ hq; exact absurd h2 (hj i h1)
        simp [lv2, hn, hx, q1]
      refine ⟨b, n, hlv2, ?_⟩
      cases b with
      | none =>
        simp only [yhn] at q2 ⊢
        rcases hfo with rfl | ⟨_, _, rfl, _⟩ | ⟨_, _, _, rfl, _⟩
        · exact q2
        · simp at q2
        · simp at q2
      | some b =>
        obtain ⟨q3, q4, q5⟩ := q2
        have hbk : w'.heap[b]? = w.heap[b]? := hstay b q4 fun i hi n' hn' => hj i hi (hs.inv.inj _ _ b n' n hn' q1)
        refine ⟨q3, Nat.lt_of_lt_of_le q4 hsz, ?_⟩
        rcases hfo with rfl | ⟨zs, ys, rfl, rfl, hyl, hyz⟩ | ⟨te, zs, ys, rfl, rfl, hyl, hyz⟩
        · refine (q5.relive (lv' := lv2) fun k b' n' hb' hmk => ?_).keep hok2 hbk
          rcases hcase k with ⟨i, hi, rfl⟩ | hk
          · rw [hm1 i hi] at hmk; cases hmk
          · exact (hlv2b k hk b' n' hb').1
        · obtain ⟨c, e, g1, g2, g3, g4, g5⟩ := q5
          refine ⟨c, e, by rw [hbk]; exact g1, g2, by omega, fun y hy => ?_, fun k y z hy hz => ?_⟩
          · obtain ⟨k, hk⟩ := List.getElem?_of_mem hy
            obtain ⟨x, hx⟩ : ∃ x, zs[k]? = some x := ⟨_, List.getElem?_eq_getElem (by have := (List.getElem?_eq_some_iff.1 hk).1; omega)⟩
            rcases hyz k x y hx hk with rfl | rfl
            · exact g4 _ (List.mem_of_getElem? hx)
            · rfl
          · obtain ⟨x, hx⟩ : ∃ x, zs[k]? = some x := ⟨_, List.getElem?_eq_getElem (by have := (List.getElem?_eq_some_iff.1 hy).1; omega)⟩
            rcases hyz k x y hx hy with rfl | rfl
            · refine hframe _ z (fun i hi => ?_) (g5 k _ z hx hz)
              exact yes hy (hm1 i hi)
            · exact .one _ ((g5 k x z hx hz).oneCell (g4 x (List.mem_of_getElem? hx)))
        · obtain ⟨⟨c, e, g1, g2, g3, g4, g5⟩, hsh⟩ := q5
          refine ⟨⟨c, e, by rw [hbk]; exact g1, g2, by omega, fun y hy => ?_, fun k y z hy hz => ?_⟩, by rw [hyl]; exact (shape_of_block hbk).trans hsh⟩
          · obtain ⟨k, hk⟩ := List.getElem?_of_mem hy
            obtain ⟨x, hx⟩ : ∃ x, zs[k]? = some x := ⟨_, List.getElem?_eq_getElem (by have := (List.getElem?_eq_some_iff.1 hk).1; omega)⟩
            rcases hyz k x y hx hk with rfl | rfl
            · exact g4 _ (List.mem_of_getElem? hx)
            · rfl
          · obtain ⟨x, hx⟩ : ∃ x, zs[k]? = some x := ⟨_, List.getElem?_eq_getElem (by have := (List.getElem?_eq_some_iff.1 hy).1; omega)⟩
            rcases hyz k x y hx hy with rfl | rfl
            · refine hframe _ z (fun i hi => ?_) (g5 k _ z hx hz)
              exact yes hy (hm1 i hi)
            · exact .one _ ((g5 k x z hx hz).oneCell (g4 x (List.mem_of_getElem? hx)))
  · -- frame
    rcases ht x y hy with ⟨rfl, rfl⟩ | ⟨hxd, hxy⟩
    · have hbig := hs.big
      refine ⟨.inl hdN, ?_⟩
      rw [yev, if_pos (Nat.lt_of_lt_of_le hdN hbig)]
      simp only [Act.put]
      rw [show (a.tmps.setIfInBounds x u).getD x undef = u by simp [Array.getD, hs.size, hdN]]
      exact (Rel.ren hren hr hu).keep fun g hg => ⟨hok3 g hg, rfl⟩
    · have hval : yev B (a.put (some d) u) x = yev B a x := by
        unfold yev
        split
        · simp only [Act.put, Array.getD_eq_getD_getElem?, Array.getElem?_setIfInBounds]
          rw [if_neg (by omega)]
        · rfl
      rw [hval]
      rcases hxy with ⟨rfl, z, hz⟩ | ⟨hz, hk⟩
      · exact ⟨(hs.frame x z hz).1, .any _⟩
      · refine ⟨(hs.frame x y hz).1, ?_⟩
        have hold := (hs.frame x y hz).2
        rcases hk with hk | ⟨i, hi, off, o', rfl, hci, hcc⟩
        · exact hframe y _ hk hold
        · cases hold with
          | lp _ h1 h2 =>
            refine .lp _ h1 fun b n hb => ?_
            rw [hlv2a i hi] at hb
            obtain ⟨b', n', n'', p1, p2⟩ := hpin i o' hci hcc
            rw [hb] at p2
            cases p2
            exact h2 b n' (hl2 i _ n' p1)
  · -- pins
    rcases hcase j with ⟨i, hi, rfl⟩ | hj'
    · rw [hh1 i hi] at hj
      cases hq : hm' i with
      | none => simp [hq] at hj
      | some ob =>
        simp only [hq, Option.map_some, Option.some.injEq] at hj
        subst hj
        rw [renO_isC] at hcj
        obtain ⟨b', n', n'', p1, p2⟩ := hpin i ob hq hcj
        obtain ⟨zs, hz, hzc⟩ := hc.2.1 i ob hq hcj
        obtain ⟨n, hn⟩ := hs.pin (σ i) b _ hN (hmem i _ hz) (by rw [renO_isC]; exact hzc) hb
        rw [hl2 i _ n' p1] at hn
        cases hn
        exact ⟨n'', by rw [hlv2a i hi]; exact p2⟩
    · obtain ⟨_, ob, hys, hfo⟩ := hh2 j _ hj' hj
      have hcc : isC ob = true := by
        rcases hfo with rfl | ⟨xs', ys', rfl, _, _⟩ | ⟨e, xs', ys', rfl, _, _⟩
        · exact hcj
        · rfl
        · rfl
      obtain ⟨n, hn⟩ := hs.pin j b ob hN hys hcc hb
      obtain ⟨b2, n2, q1, _⟩ := hs.inv.obj j _ hys
      rw [hn] at q1
      cases q1
      have hn' : find j = none := by
        cases hq : find j with
        | none => rfl
        | some i => obtain ⟨h1, h2⟩ := hf1 _ _ hq; exact absurd h2 (hj' i h1)
      exact ⟨n, by simp [lv2, hn', hj, hn]⟩
end
def yei : List (Nat × Nat) → Nat → Nat
  | [], i => i
  | (k, j) :: sg, i => match Nat.beq i k with
    | true => j
    | false => yei sg i
def ybv : List (Nat × Nat) → List Nat
  | [] => []
  | (k, _) :: sg => k :: ybv sg
def yda : List (Nat × Nat) → List Nat
  | [] => []
  | (_, j) :: sg => j :: yda sg
def yks (i : Nat) : List Nat → Bool
  | [] => false
  | k :: l => match Nat.beq i k with
    | true => true
    | false => yks i l
def yft : List Nat → Bool
  | [] => true
  | k :: l => match yks k l with
    | true => false
    | false => yft l
theorem memN_iff {i : Nat} : ∀ {l : List Nat}, yks i l = true ↔ i ∈ l
  | [] => by simp [yks]
  | k :: l => by
    simp only [yks, List.mem_cons]
    cases h : Nat.beq i k with
    | true => simp [Nat.eq_of_beq_eq_true h]
    | false =>
      have : i ≠ k := fun e => by subst e; simp at h
      simp [this, memN_iff (l := l)]
theorem slook_val {sg : List (Nat × Nat)} {i : Nat} (h : i ∈ ybv sg) : yei sg i ∈ yda sg := by
  induction sg with
  | nil => simp [ybv] at h
  | cons q sg ih =>
    obtain ⟨k, j⟩ := q
    simp only [yei, yda]
    cases hb : Nat.beq i k with
    | true => simp
    | false =>
      have hne : i ≠ k := fun e => by subst e; simp at hb
      simp only [ybv, List.mem_cons, hne, false_or] at h
      simp [ih h]
theorem slook_inj {sg : List (Nat × Nat)} (h : yft (yda sg) = true) : ∀ i ∈ ybv sg, ∀ j ∈ ybv sg, yei sg i = yei sg j → i = j := by
  induction sg with
  | nil => intro i hi; simp [ybv] at hi
  | cons q sg ih =>
    obtain ⟨k, v⟩ := q
    simp only [yda, yft] at h
    cases hv : yks v (yda sg) with
    | true => simp [hv] at h
    | false =>
      simp only [hv] at h
      have hnv : v ∉ yda sg := fun hm => by rw [memN_iff.2 hm] at hv; cases hv
      intro i hi j hj he
      simp only [yei] at he
      cases hik : Nat.beq i k <;> cases hjk : Nat.beq j k <;> simp only [hik, hjk] at he
      · have h1 : i ≠ k := fun e => by subst e; simp at hik
        have h2 : j ≠ k := fun e => by subst e; simp at hjk
        simp only [ybv, List.mem_cons, h1, h2, false_or] at hi hj
        exact ih h i hi j hj he
      · have h1 : i ≠ k := fun e => by subst e; simp at hik
        simp only [ybv, List.mem_cons, h1, false_or] at hi
        exact absurd (he ▸ slook_val hi) hnv
      · have h2 : j ≠ k := fun e => by subst e; simp at hjk
        simp only [ybv, List.mem_cons, h2, false_or] at hj
        exact absurd (he ▸ slook_val hj) hnv
      · rw [Nat.eq_of_beq_eq_true hik, Nat.eq_of_beq_eq_true hjk]
theorem slook_keys {sg : List (Nat × Nat)} {j : Nat} (h : j ∈ yda sg) (hk : yft (ybv sg) = true) : ∃ i ∈ ybv sg, yei sg i = j := by
  induction sg with
  | nil => simp [yda] at h
  | cons q sg ih =>
    obtain ⟨k, v⟩ := q
    simp only [ybv, yft] at hk
    cases hm : yks k (ybv sg) with
    | true => simp [hm] at hk
    | false =>
      simp only [hm] at hk
      simp only [yda, List.mem_cons] at h
      rcases h with rfl | h
      · exact ⟨k, by simp [ybv], by simp [yei]⟩
      · obtain ⟨i, hi, he⟩ := ih h hk
        refine ⟨i, by simp [ybv, hi], ?_⟩
        have : i ≠ k := fun e => by subst e; rw [memN_iff.2 hi] at hm; cases hm
        simp only [yei, yeq this]
        exact he
def ykf (ids : List Nat) : List (Nat × Option LObj) → Bool
  | [] => true
  | (k, _) :: h => yks k ids && ykf ids h
theorem domIn_spec {ids : List Nat} : ∀ {h : List (Nat × Option LObj)}, ykf ids h = true → ∀ id, (yao h id).isSome → id ∈ ids
  | [], _, id, hs => by simp [yao] at hs
  | (k, o) :: h, hd, id, hs => by
    simp only [ykf, Bool.and_eq_true] at hd
    simp only [yao] at hs
    cases hb : Nat.beq id k with
    | true => rw [Nat.eq_of_beq_eq_true hb]; exact memN_iff.1 hd.1
    | false => simp only [hb] at hs; exact domIn_spec hd.2 id hs
def yld (sg : List (Nat × Nat)) : List (Nat × Option LObj) → List (Nat × Option LObj)
  | [] => []
  | (k, some o) :: h => (yei sg k, some (yjs (yei sg) o)) :: yld sg h
  | (k, none) :: h => (yei sg k, none) :: yld sg h
theorem renH_mem {sg : List (Nat × Nat)} {h : List (Nat × Option LObj)} : ∀ {hs : List (Nat × Option LObj)}, ykm h (yld sg hs) → ∀ id o, yao hs id = some o → yao h (yei sg id) = some (yjs (yei sg) o)
  | [], _, id, o, hl => by simp [yao] at hl
  | (k, x) :: hs, hsub, id, o, hl => by
    simp only [yao] at hl
    cases hb : Nat.beq id k with
    | true =>
      simp only [hb] at hl
      subst hl
      rw [Nat.eq_of_beq_eq_true hb]
      simp only [yld, ykm] at hsub
      exact hsub.1 _ rfl
    | false =>
      simp only [hb] at hl
      cases x with
      | none => simp only [yld, ykm] at hsub; exact renH_mem hsub.2 id o hl
      | some x => simp only [yld, ykm] at hsub; exact renH_mem hsub.2 id o hl
def yip (ids : List Nat) : List (Nat × Option LObj) → Bool
  | [] => true
  | (_, some o) :: h => yjw ids o && yip ids h
  | (_, none) :: h => yip ids h
theorem onlyHs_spec {ids : List Nat} : ∀ {h : List (Nat × Option LObj)}, yip ids h = true → ∀ id o, yao h id = some o → yjw ids o = true
  | [], _, id, o, hl => by simp [yao] at hl
  | (k, x) :: h, ho, id, o, hl => by
    simp only [yao] at hl
    cases hb : Nat.beq id k with
    | true =>
      simp only [hb] at hl
      subst hl
      simp only [yip, Bool.and_eq_true] at ho
      exact ho.1
    | false =>
      simp only [hb] at hl
      cases x with
      | none => exact onlyHs_spec (by simpa [yip] using ho) id o hl
      | some x => simp only [yip, Bool.and_eq_true] at ho; exact onlyHs_spec ho.2 id o hl
def yik (sg : List (Nat × Nat)) (hs' : List (Nat × Option LObj)) : List (Nat × Nat) → List (Nat × Option LObj)
  | [] => []
  | (k, j) :: r => (j, match yao hs' k with
    | some o => some (yjs (yei sg) o)
    | none => none) :: yik sg hs' r
theorem backH_at {sg : List (Nat × Nat)} {hs' h : List (Nat × Option LObj)} : ∀ {l : List (Nat × Nat)}, yft (ybv l) = true → yft (yda l) = true → ∀ i ∈ ybv l, yao (yik sg hs' l ++ h) (yei l i) = (yao hs' i).map (yjs (yei sg))
  | [], _, _, i, hi => by simp [ybv] at hi
  | (k, j) :: l, h1, h2, i, hi => by
    simp only [ybv, yft] at h1
    cases hm : yks k (ybv l) with
    | true => simp [hm] at h1
    | false =>
    simp only [hm] at h1
    simp only [yda, yft] at h2
    cases hm2 : yks j (yda l) with
    | true => simp [hm2] at h2
    | false =>
    simp only [hm2] at h2
    simp only [yei]
    cases hb : Nat.beq i k with
    | true =>
      have e := Nat.eq_of_beq_eq_true hb
      subst e
      simp only [yik, List.cons_append, yao, Nat.beq_refl]
      cases yao hs' i <;> rfl
    | false =>
      have hne : i ≠ k := fun e => by subst e; simp at hb
      simp only [ybv, List.mem_cons, hne, false_or] at hi
      have hv := slook_val hi
      have hnj : yei l i ≠ j := fun e => by rw [e] at hv; rw [memN_iff.2 hv] at hm2; cases hm2
      simp only [yik, List.cons_append, yao, yeq hnj]
      exact backH_at h1 h2 i hi
theorem backH_other {sg : List (Nat × Nat)} {hs' h : List (Nat × Option LObj)} : ∀ {l : List (Nat × Nat)} {j : Nat}, j ∉ yda l → yao (yik sg hs' l ++ h) j = yao h j
  | [], j, _ => rfl
  | (k, v) :: l, j, hj => by
    simp only [yda, List.mem_cons, not_or] at hj
    simp only [yik, List.cons_append, yao, yeq hj.1]
    exact backH_other hj.2
def forgHs : List Nat → List (Nat × Option LObj) → Option (List (Nat × Option LObj))
  | [], h => some h
  | i :: l, h => match forgH i h with
    | some h' => forgHs l h'
    | none => none
theorem yhm.trans {a b c : LObj} (h1 : yhm a b) (h2 : yhm b c) : yhm a c := by
  rcases h1 with rfl | ⟨xs, ys, rfl, rfl, hl, hxy⟩ | ⟨te, xs, ys, rfl, rfl, hl, hxy⟩
  · exact h2
  · rcases h2 with rfl | ⟨xs', zs, e, rfl, hl', hyz⟩ | ⟨_, _, _, e, _⟩
    · exact .inr (.inl ⟨xs, ys, rfl, rfl, hl, hxy⟩)
    · cases e
      refine .inr (.inl ⟨xs, zs, rfl, rfl, by omega, fun j x z hx hz => ?_⟩)
      obtain ⟨y, hy⟩ : ∃ y, ys[j]? = some y := ⟨_, List.getElem?_eq_getElem (by have := (List.getElem?_eq_some_iff.1 hx).1; omega)⟩
      rcases hyz j y z hy hz with rfl | rfl
      · exact hxy j x _ hx hy
      · exact .inr rfl
    · cases e
  · rcases h2 with rfl | ⟨_, _, e, _⟩ | ⟨te', xs', zs, e, rfl, hl', hyz⟩
    · exact .inr (.inr ⟨te, xs, ys, rfl, rfl, hl, hxy⟩)
    · cases e
    · cases e
      refine .inr (.inr ⟨te, xs, zs, rfl, rfl, by omega, fun j x z hx hz => ?_⟩)
      obtain ⟨y, hy⟩ : ∃ y, ys[j]? = some y := ⟨_, List.getElem?_eq_getElem (by have := (List.getElem?_eq_some_iff.1 hx).1; omega)⟩
      rcases hyz j y z hy hz with rfl | rfl
      · exact hxy j x _ hx hy
      · exact .inr rfl
theorem mentL_ex {i : Nat} : ∀ {zs : List AV}, ment.mentL i zs = true → ∃ (j : Nat) (z : AV), zs[j]? = some z ∧ ment i z = true
  | [], h => by simp [ment.mentL] at h
  | z :: zs, h => by
    simp only [ment.mentL, Bool.or_eq_true] at h
    rcases h with h | h
    · exact ⟨0, z, rfl, h⟩
    · obtain ⟨j, y, h1, h2⟩ := mentL_ex h
      exact ⟨j + 1, y, by simpa using h1, h2⟩
theorem mentL_forg {i : Nat} {xs ys : List AV} (hl : ys.length = xs.length) (hxy : ∀ (j : Nat) (x y : AV), xs[j]? = some x → ys[j]? = some y → y = x ∨ y = .one) (hm : ment.mentL i xs = false) : ment.mentL i ys = false := by
  cases hq : ment.mentL i ys with
  | false => rfl
  | true =>
    exfalso
    obtain ⟨j, y, hy, hmy⟩ := mentL_ex hq
    obtain ⟨x, hx⟩ : ∃ x, xs[j]? = some x := ⟨_, List.getElem?_eq_getElem (by have := (List.getElem?_eq_some_iff.1 hy).1; omega)⟩
    rcases hxy j x y hx hy with rfl | rfl
    · rw [yes hx hm] at hmy; cases hmy
    · simp [ment] at hmy
theorem forgO_ment {a b : LObj} {i : Nat} (h : yhm a b) (hm : yfe i a = false) : yfe i b = false := by
  rcases h with rfl | ⟨xs, ys, rfl, rfl, hl, hxy⟩ | ⟨te, xs, ys, rfl, rfl, hl, hxy⟩
  · exact hm
  · exact mentL_forg hl hxy hm
  · exact mentL_forg hl hxy hm
theorem forgHs_spec : ∀ {l : List Nat} {h h' : List (Nat × Option LObj)}, forgHs l h = some h' → ∀ j ob', yao h' j = some ob' → (∀ i ∈ l, yfe i ob' = false) ∧ ∃ ob, yao h j = some ob ∧ yhm ob ob'
  | [], h, h', he, j, ob', hj => by simp only [forgHs, Option.some.injEq] at he; subst he; exact ⟨by simp, ob', hj, .inl rfl⟩
  | i :: l, h, h', he, j, ob', hj => by
    simp only [forgHs] at he
    split at he
    · rename_i h1 hh
      obtain ⟨g1, ob1, g2, g3⟩ := forgHs_spec he j ob' hj
      obtain ⟨g4, ob, g5, g6⟩ := forgH_spec hh j ob1 g2
      refine ⟨fun k hk => ?_, ob, g5, g6.trans g3⟩
      rcases List.mem_cons.1 hk with rfl | hk
      · exact forgO_ment g3 g4
      · exact g1 k hk
    · cases he
def mentAny (l : List Nat) (y : AV) : Bool := match l with
  | [] => false
  | i :: l => match ment i y with
    | true => true
    | false => mentAny l y
theorem mentAny_spec : ∀ {l : List Nat} {y : AV}, mentAny l y = false → ∀ i ∈ l, ment i y = false
  | [], y, _, i, hi => by simp at hi
  | k :: l, y, h, i, hi => by
    simp only [mentAny] at h
    cases hk : ment k y with
    | true => simp [hk] at h
    | false =>
      simp only [hk] at h
      rcases List.mem_cons.1 hi with rfl | hi
      · exact hk
      · exact mentAny_spec h i hi
def isCells : Option LObj → Bool
  | some o => isC o
  | none => false
def fixedN (hs' : List (Nat × Option LObj)) (j : Nat) : List (Nat × Nat) → Bool
  | [] => false
  | (k, v) :: l => match Nat.beq v j with
    | true => isCells (yao hs' k)
    | false => fixedN hs' j l
theorem fixedN_spec {hs' : List (Nat × Option LObj)} {j : Nat} : ∀ {l : List (Nat × Nat)}, yft (ybv l) = true → fixedN hs' j l = true → ∃ i ∈ ybv l, yei l i = j ∧ ∃ o, yao hs' i = some o ∧ isC o = true
  | [], _, h => by simp [fixedN] at h
  | (k, v) :: l, hn, h => by
    simp only [ybv, yft] at hn
    cases hm : yks k (ybv l) with
    | true => simp [hm] at hn
    | false =>
    simp only [hm] at hn
    simp only [fixedN] at h
    cases hb : Nat.beq v j with
    | true =>
      simp only [hb] at h
      refine ⟨k, by simp [ybv], by simp [yei, Nat.eq_of_beq_eq_true hb], ?_⟩
      cases hq : yao hs' k with
      | none => simp [hq, isCells] at h
      | some o => exact ⟨o, rfl, by simpa [hq, isCells] using h⟩
    | false =>
      simp only [hb] at h
      obtain ⟨i, h1, h2, h3⟩ := fixedN_spec hn h
      refine ⟨i, by simp [ybv, h1], ?_, h3⟩
      have : i ≠ k := fun e => by subst e; rw [memN_iff.2 h1] at hm; cases hm
      simp only [yei, yeq this]
      exact h2
def yjx (sg : List (Nat × Nat)) (hs' : List (Nat × Option LObj)) (y : AV) : Bool := match mentAny (yda sg) y with
  | false => true
  | true => match y with
    | .lp j _ => fixedN hs' j sg
    | _ => false
def ygq (sg : List (Nat × Nat)) (hs' : List (Nat × Option LObj)) : List (Nat × AV) → List (Nat × AV)
  | [] => []
  | (s, x) :: t => match yjx sg hs' x with
    | true => (s, x) :: ygq sg hs' t
    | false => (s, .any) :: ygq sg hs' t
theorem keepB_spec {sg : List (Nat × Nat)} {hs' : List (Nat × Option LObj)} {y : AV} (hn : yft (ybv sg) = true) (h : yjx sg hs' y = true) : Kept (yei sg) (ybv sg) (yao hs') y := by
  unfold yjx at h
  cases hm : mentAny (yda sg) y with
  | false => exact .inl fun i hi => mentAny_spec hm _ (slook_val hi)
  | true =>
    simp only [hm] at h
    split at h
    · rename_i j off
      obtain ⟨i, h1, h2, o, h3, h4⟩ := fixedN_spec hn h
      exact .inr ⟨i, h1, off, o, by rw [h2], h3, h4⟩
    · cases h
theorem forgTM_spec {sg : List (Nat × Nat)} {hs' : List (Nat × Option LObj)} : ∀ {t : List (Nat × AV)} {x : Nat} {y : AV}, ybb (ygq sg hs' t) x = some y → (y = .any ∧ ∃ z, ybb t x = some z) ∨ (ybb t x = some y ∧ yjx sg hs' y = true)
  | [], x, y, h => by simp [ygq, ybb] at h
  | (s, z) :: t, x, y, h => by
    simp only [ygq] at h
    cases hk : yjx sg hs' z with
    | true =>
      simp only [hk, ybb] at h ⊢
      cases hb : Nat.beq x s with
      | true => simp only [hb, Option.some.injEq] at h ⊢; subst h; exact .inr ⟨rfl, hk⟩
      | false => simp only [hb] at h ⊢; exact forgTM_spec h
    | false =>
      simp only [hk, ybb] at h ⊢
      cases hb : Nat.beq x s with
      | true => simp only [hb, Option.some.injEq] at h ⊢; subst h; exact .inl ⟨rfl, z, rfl⟩
      | false => simp only [hb] at h ⊢; exact forgTM_spec h
section
variable {P : Program} {T : Nat → Option Ty} {N : Nat} {ops : Array Oper} {lf : Oper → Bool} {Q : SS → Prop} {t : List (Nat × AV)} {h : List (Nat × Option LObj)} {rest : List Oper} {d : Nat} {ty : TypeId} {pos : String} {af : Array Edge} {gd : Option (Nat × Bool)} {r : AV}
def dropK (l : List Nat) : List (Nat × Option LObj) → List (Nat × Option LObj)
  | [] => []
  | (k, o) :: h => match yks k l with
    | true => dropK l h
    | false => (k, o) :: dropK l h
theorem dropK_at {l : List Nat} {j : Nat} (hj : j ∉ l) : ∀ h : List (Nat × Option LObj), yao (dropK l h) j = yao h j
  | [] => rfl
  | (k, o) :: h => by
    simp only [dropK]
    cases hm : yks k l with
    | true =>
      have hk : Nat.beq j k = false := yeq fun e => hj (e ▸ memN_iff.1 hm)
      simp only [yao, hk]
      exact dropK_at hj h
    | false =>
      simp only [yao]
      cases Nat.beq j k with
      | true => rfl
      | false => exact dropK_at hj h
theorem yfl (sg : List (Nat × Nat)) {g : Operand} {args : List Operand} {ats : Array TypeId} {f : FuncId} {caps xs args0 : List AV} {hs hs' h' : List (Nat × Option LObj)} (hc : yia P f args0 (yao hs) r (yao hs')) (hg : evF (ybb t) g = some (.fn f caps)) (hx : evL (evF (ybb t)) args = some xs) (hargs : xs ++ caps = args0.map (yey (yei sg)))
    (hk : yft (ybv sg) = true) (hv : yft (yda sg) = true) (hd1 : ykf (ybv sg) hs = true) (hd2 : ykf (ybv sg) hs' = true) (hsub : ykm h (yld sg hs)) (hr : ygc (ybv sg) r = true) (ho : yip (ybv sg) hs' = true) (hh : forgHs (yda sg) (dropK (yda sg) h) = some h')
    (hl : lf ⟨some d, .call { callee := .value g, args := args.toArray, argTypes := ats }, ty, pos, af, gd⟩ = true) (hw : yaz ops (ybb t) ⟨some d, .call { callee := .value g, args := args.toArray, argTypes := ats }, ty, pos, af, gd⟩ = some true) (hd : Nat.blt d N = true)
    (k : Lex P N ops lf Q rest (S ((d, yey (yei sg) r) :: ygq sg hs' t) (yik sg hs' sg ++ h'))) : Lex P N ops lf Q (⟨some d, .call { callee := .value g, args := args.toArray, argTypes := ats }, ty, pos, af, gd⟩ :: rest) (S t h) := by
  refine yhi hl hw ?_ k
  refine callM_loud (σ := yei sg) (ids := ybv sg) rfl rfl (by simpa using hd) hg hx hargs hc (slook_inj hv) (domIn_spec hd1) (domIn_spec hd2) (renH_mem hsub) hr (onlyHs_spec ho) (fun x y hy => ?_) (fun i hi => backH_at hk hv i hi) (fun j ob' hj hob => ?_)
  · simp only [S, ybb] at hy
    cases hb : Nat.beq x d with
    | true => simp only [hb, Option.some.injEq] at hy; exact .inl ⟨Nat.eq_of_beq_eq_true hb, hy.symm⟩
    | false =>
      simp only [hb] at hy
      refine .inr ⟨fun e => by subst e; simp at hb, ?_⟩
      rcases forgTM_spec hy with hq | ⟨h1, h2⟩
      · exact .inl hq
      · exact .inr ⟨h1, keepB_spec hk h2⟩
  · have hjv : j ∉ yda sg := fun hm => by
      obtain ⟨i, h1, h2⟩ := slook_keys hm hk
      exact hj i h1 h2
    simp only [S, backH_other hjv] at hob
    obtain ⟨h1, h2⟩ := forgHs_spec hh j ob' hob
    rw [dropK_at hjv] at h2
    exact ⟨fun i hi => h1 _ (slook_val hi), h2⟩
end
end Go.Proofs.YtcpgpiabeimefaaGreatDoor
set_option linter.unusedVariables false
namespace Go.Proofs.YtcpgpiabeimefaaGreatDoor
open Go.RowKit
def ydc (l : List UInt8) : List AV := l.map fun b => .v (.int .u8 b.toNat)
theorem bytesA_app (a b : List UInt8) : ydc (a ++ b) = ydc a ++ ydc b := by simp [ydc]
theorem bytesA_len (l : List UInt8) : (ydc l).length = l.length := by simp [ydc]
theorem bytesA_pure (l : List UInt8) : ∀ c ∈ ydc l, ybp c = true := by
  intro c hc; obtain ⟨b, _, rfl⟩ := List.mem_map.1 hc; rfl
theorem bytesA_cell (l : List UInt8) : ∀ c ∈ ydc l, ydl c = true := by
  intro c hc; obtain ⟨b, _, rfl⟩ := List.mem_map.1 hc; rfl
theorem bytesA_rel {ok : Nat → Prop} {w : World} {lv : Live} (l : List UInt8) : ybr ok w lv (ydc l) (l.map fun b => Value.int .u8 b.toNat) := by
  refine ⟨by simp [ydc], fun i x u hx hu => ?_⟩
  simp only [ydc, List.getElem?_map, Option.map_eq_some_iff] at hx hu
  obtain ⟨a, ha, rfl⟩ := hx
  obtain ⟨b, hb, rfl⟩ := hu
  rw [ha] at hb; cases hb
  exact .v _
theorem shape_alloc {w : World} {c : Array Value} {e : TypeId} : (w.alloc (.cells c e)).shape? w.heap.size = some (e, c.size) := by
  have h : (w.alloc (.cells c e)).heap[w.heap.size]? = some (.cells c e) := by show (w.heap.push _)[w.heap.size]? = _; simp
  simp only [World.shape?, h]
theorem own_nil {B : Bse} {ok : Nat → Prop} {lv : Live} {w : World} {n : Nat} {e : TypeId} {xs : List AV} (h : yhn B ok lv w n (.tvec e xs) none) : xs = [] := by
  rcases h with h | ⟨e', h⟩
  · cases h
  · cases h; rfl
section
variable {P : Program} {T : Nat → Option Ty} {N : Nat} {ty : TypeId}
theorem appendS_world {B : Bse} {ok0 : Nat → Prop} {s : SS} {lv : Live} {a : Act} {w : World} (hs : Sim B ok0 N s lv a w) {ti tj e es eb : Nat} {ea : Bool} {ez : List Value} (hk : yen P ti (.slc e es ea eb ez)) (hes : es = 1) (hj0 : yen P tj .string) {id len m : Nat} {xs cs : List AV} {v : Value} {s0 : ByteArray} {news : List Value} (hmv : m = s0.size) (hcv : cs = ydc s0.data.toList) (hnv : news = Lib.strCells s0) (hid : s.h id = some (.tvec e xs)) (hxl : xs.length = len * es)
    (hv : Rel (ybi B ok0 lv w) w lv (.ls id es len) v) (hlim : len + m ≤ 4294967296 ∧ (len + m) * eb ≤ 140737488355328)
    {s' : SS} (ht : ∀ x y, s'.t x = some y → y = .any ∨ (s.t x = some y ∧ ment id y = false)) (hlt : ∀ x y, s'.t x = some y → ∃ z, s.t x = some z) (hh : ∀ j ob', j ≠ id → s'.h j = some ob' → yfe id ob' = false ∧ ∃ ob, s.h j = some ob ∧ yhm ob ob') (hid' : s'.h id = some (.tvec e (xs ++ cs))) :
    ∃ v' w' lv', (Builtin.append_ #[ti, tj] ty #[v, .string s0]).run P w = .ok v' w' ∧ Sim B ok0 N s' lv' a w' ∧ Rel (ybi B ok0 lv' w') w' lv' (.ls id es (len + m)) v' := by
  have hcc : ∀ c ∈ cs, ydl c = true := by rw [hcv]; exact bytesA_cell _
  have hcp : ∀ c ∈ cs, ybp c = true := by rw [hcv]; exact bytesA_pure _
  have hnl : news.length = m * es := by rw [hnv, Lib.strCells_length, hmv, hes, Nat.mul_one]
  have hnr : ybr (ybi B ok0 lv w) w (fun _ => none) cs news := by rw [hcv, hnv]; exact bytesA_rel _
  obtain ⟨hu, hsz, hby, hz, hzl, hpos⟩ := hk
  obtain ⟨i, hi, hisz, hiby, zv, hiz, hizc⟩ : ∃ i, P.info? e = some i ∧ i.size = es ∧ i.bytes = eb ∧ ∃ zv, i.zero = some zv ∧ zv.cells = ez.toArray := by
    cases hi : P.info? e with
    | none => simp [hi] at hby
    | some i =>
      have h1 := hsz.1
      unfold yix at hz
      simp only [hi, Option.map_some, Option.some.injEq] at hby h1 hz
      cases hzz : i.zero with
      | none => simp [hzz] at hz
      | some zv => simp only [hzz, Option.map_some, Option.some.injEq] at hz; exact ⟨i, rfl, h1, hby, zv, hzz, hz⟩
  have hcl : cs.length = m * es := by rw [← hnr.1, hnl]
  -- the state with the block written in place, or the same, forgets
  have forget : ∀ (w' : World) (lv1 : Live), Sim B ok0 N ⟨s.t, yde s.h id (some (.tvec e (xs ++ cs)))⟩ lv1 a w' → ∃ lv', Sim B ok0 N s' lv' a w' ∧ lv' id = lv1 id := by
    intro w' lv1 h1
    obtain ⟨lv', g1, g2, g3, g4⟩ := h1.forg (s' := s') (fun x y hy => (ht x y hy).imp (fun h => h) And.left) hlt (fun j ob' hj => by
      by_cases hji : j = id
      · subst hji
        rw [hid'] at hj
        cases hj
        exact ⟨.tvec e (xs ++ cs), by simp [yde], .inl rfl⟩
      · obtain ⟨_, ob, q1, q2⟩ := hh j ob' hji hj
        exact ⟨ob, by simp [yde, hji, q1], q2⟩)
    exact ⟨lv', g1, g3 id (by simp [hid'])⟩
  obtain ⟨bo, n, hl, hown⟩ := hs.inv.obj id _ hid
  cases hv with
  | ls _ hone hls =>
    have hlsv := hls bo n hl
    have grown : ∀ (old : Nat) (olds : List Value), ybr (ybi B ok0 lv w) w lv xs olds → old < len + m →
        let cap := grownCap w (len + m) old e
        let w' := w.drew.alloc (.cells (olds.toArray ++ news.toArray ++ Builtin.zeroCells zv.cells (cap - (len + m))) e)
        ∃ lv', Sim B ok0 N s' lv' a w' ∧ Rel (ybi B ok0 lv' w') w' lv' (.ls id es (len + m)) (.slice (some ⟨w.heap.size, 0, none⟩) (len + m) cap) := by
      intro old olds hor hold
      have hge := grownCap_ge w (len + m) old e
      have hmx : grownCap w (len + m) old e ≤ maxLen := grownCap_le_maxLen w (len + m) old e (by unfold maxLen; omega)
      intro cap w'
      -- first forget, id given up
      obtain ⟨lv0, q1, q2, q3, q4⟩ := hs.forg (s' := ⟨s'.t, fun j => if j = id then none else s'.h j⟩) (fun x y hy => (ht x y hy).imp (fun h => h) And.left) hlt (fun j ob' hj => by
        simp only at hj
        split at hj
        · cases hj
        · rename_i hji; exact (hh j ob' hji hj).2)
      have q0 : Sim B ok0 N ⟨s'.t, fun j => if j = id then none else s'.h j⟩ lv0 a w.drew := q1.drew (Below.drew (Below.refl _ _))
      have hall : ybr (ybi B ok0 lv0 w.drew) w.drew lv0 (xs ++ cs) (olds ++ news) := by
        refine ⟨by simp [hor.1, hnr.1], fun j x u hx hu => ?_⟩
        have hpu := (show yeo (ybi B ok0 lv w) lv w (bo.getD 0) n (.tvec e xs) ∨ xs = [] by
          cases bo with
          | none => exact .inr (own_nil hown)
          | some b => exact .inl hown.2.2)
        have hpx : ∀ x ∈ xs, ybp x = true := by
          rcases hpu with h | h
          · exact h.2.1
          · intro x hx; rw [h] at hx; cases hx
        rcases Nat.lt_or_ge j xs.length with h1 | h1
        · rw [List.getElem?_append_left h1] at hx
          rw [List.getElem?_append_left (by rw [hor.1]; exact h1)] at hu
          exact ((hor.2 j x u hx hu).relive fun id b n hb hmm => by rw [ybp.ment (hpx x (List.mem_of_getElem? hx))] at hmm; cases hmm).keep fun g hg => ⟨q4 g hg, rfl⟩
        · rw [List.getElem?_append_right h1] at hx
          rw [List.getElem?_append_right (by rw [hor.1]; exact h1), hor.1] at hu
          exact ((hnr.2 _ x u hx hu).relive fun id b n hb hmm => by rw [ybp.ment (hcp x (List.mem_of_getElem? hx))] at hmm; cases hmm).keep fun g hg => ⟨q4 g hg, rfl⟩
      have hcell' : ∀ x ∈ xs ++ cs, ydl x = true := by
        intro x hx
        rcases List.mem_append.1 hx with hx | hx
        · cases bo with
          | none => rw [own_nil hown] at hx; cases hx
          | some b => obtain ⟨_, _, ⟨c, _, _, _, _, g4, _⟩, _⟩ := hown; exact g4 x hx
        · exact hcc x hx
      have hpure' : ∀ x ∈ xs ++ cs, ybp x = true := by
        intro x hx
        rcases List.mem_append.1 hx with hx | hx
        · cases bo with
          | none => rw [own_nil hown] at hx; cases hx
          | some b => exact hown.2.2.2.1 x hx
        · exact hcp x hx
      have hfr : yir (⟨s'.t, fun j => if j = id then none else s'.h j⟩ : SS) id := by
        refine ⟨by simp, fun x y hy => ?_, fun j ob hj => ?_⟩
        · rcases ht x y hy with rfl | ⟨_, hm⟩
          · rfl
          · exact hm
        · simp only at hj
          split at hj
          · cases hj
          · rename_i hji; exact (hh j ob hji hj).1
      have hzc : (olds ++ news).length + (Builtin.zeroCells zv.cells (cap - (len + m))).toList.length = cap * es := by
        have e1 := size_zeroCells zv.cells (cap - (len + m))
        rw [hizc] at e1
        simp only [List.size_toArray, hzl] at e1
        rw [hizc]
        simp only [Array.length_toList, List.length_append, e1, hor.1, hxl, hnl]
        rw [← Nat.add_mul, ← Nat.add_mul]
        congr 1
        omega
      have hw' : w' = w.drew.alloc (.cells ((olds ++ news) ++ (Builtin.zeroCells zv.cells (cap - (len + m))).toList).toArray e) := by
        simp only [w']
        congr 2
        simp
      have hnew := q0.newBlock (ob := .tvec e (xs ++ cs)) (n := cap * es) hfr (w' := w') (by rw [hw']; exact ydr w.drew _) (by rw [hw']; simp) rfl (fun h => by cases h)
        (fun ok' lv' g1 g2 => ⟨blk_new (e := e) hzc.symm (by rw [hw']; exact heap_alloc_eq w.drew _) hall hcell' ok' lv' g1 (fun i b mm hb hmm => by
          obtain ⟨c, hc, hcm⟩ : ∃ c ∈ xs ++ cs, ment i c = true := by
            generalize xs ++ cs = l at hmm
            induction l with
            | nil => simp [ment.mentL] at hmm
            | cons a l ih =>
              simp only [ment.mentL, Bool.or_eq_true] at hmm
              rcases hmm with h | h
              · exact ⟨a, by simp, h⟩
              · obtain ⟨c, h1, h2⟩ := ih h; exact ⟨c, by simp [h1], h2⟩
          rw [ybp.ment (hpure' c hc)] at hcm; cases hcm), hpure', by rw [hw', shape_alloc]; congr 2; simp only [List.size_toArray, List.length_append] at hzc ⊢; omega⟩)
      have hs'' : (⟨s'.t, yde (fun j => if j = id then none else s'.h j) id (some (.tvec e (xs ++ cs)))⟩ : SS) = s' := by
        have : yde (fun j => if j = id then none else s'.h j) id (some (.tvec e (xs ++ cs))) = s'.h := by
          funext j
          by_cases hj : j = id
          · subst hj; simp [yde, hid']
          · simp [yde, hj]
        rw [this]
      rw [hs''] at hnew
      refine ⟨_, hnew, .ls _ rfl fun b n' hb => ?_⟩
      simp only [yge, if_true, Option.some.injEq, Prod.mk.injEq] at hb
      obtain ⟨rfl, rfl⟩ := hb
      exact ⟨cap, rfl, hge, hmx, rfl⟩
    cases bo with
    | none =>
      obtain rfl := own_nil hown
      obtain ⟨rfl, rfl⟩ := hlsv
      by_cases hm : s0.size = 0
      · have hf := Lib.run_firstCells_string (P := P) w 1 s0
        rw [hm] at hf
        have hcs : cs = [] := List.eq_nil_of_length_eq_zero (by rw [hcl, hmv, hm]; simp)
        have hsame : (⟨s.t, yde s.h id (some (.tvec e ([] ++ cs)))⟩ : SS) = s := by
          have : yde s.h id (some (.tvec e ([] ++ cs))) = s.h := by
            funext j
            by_cases hj : j = id
            · subst hj; simp [yde, hid, hcs]
            · simp [yde, hj]
          rw [this]
        obtain ⟨lv', q1, q2⟩ := forget w lv (by rw [hsame]; exact hs)
        refine ⟨.slice none 0 0, w, lv', ?_, q1, .ls _ rfl fun b n' hb => ?_⟩
        · simp [Builtin.append_, run_underlying hu, run_underlying hj0, sizeOf, typeInfo, hi, hisz, hes, Builtin.lenOf, hm, hf]
        · rw [q2, hl] at hb; cases hb; exact ⟨rfl, by omega⟩
      · have hr := run_append_nil_string (P := P) w ti tj ty e i zv hu hj0 hi hiz s0 (by omega) (by omega) (by have := hlim.2; rw [hiby]; simp only [Nat.zero_add] at this; rw [← hmv]; omega)
        obtain ⟨lv', g1, g2⟩ := grown 0 [] ⟨rfl, fun i x u h => by simp at h⟩ (by omega)
        have e1 : (s0.data.map fun b => Value.int .u8 b.toNat) = news.toArray := by
          rw [hnv]
          apply Array.ext'
          simp [Lib.strCells]
        rw [e1] at hr
        subst hmv
        simp only [Nat.zero_add, Array.empty_append] at hr g1 g2 ⊢
        exact ⟨_, _, lv', hr, g1, g2⟩
    | some b =>
      obtain ⟨cap, rfl, hlc, hmx, hcn⟩ := hlsv
      obtain ⟨hb1, hb2, ⟨cu, e', g1, g2, g3, g4, g5⟩, hpu, hsh⟩ := hown
      obtain rfl : e' = e := by simp only [World.shape?, g1, Option.some.injEq, Prod.mk.injEq] at hsh; exact hsh.1
      subst hes
      by_cases hroom : len + m ≤ cap
      · have hfit : len * 1 + news.length ≤ cu.size := by rw [hnl, g2, ← hcn, ← Nat.add_mul]; exact Nat.mul_le_mul_right _ hroom
        have hr := Lib.run_append_room_string (P := P) w ti tj ty e' i hu hj0 hi hisz b len cap cu g1 s0 (by rw [← hmv]; exact hroom) (by rw [hnl] at hfit; omega)
        have hwe : (cu.toList.take len ++ Lib.strCells s0 ++ cu.toList.drop (len + s0.size)).toArray = (cu.toList.take (len * 1) ++ news ++ cu.toList.drop (len * 1 + news.length)).toArray := by
          rw [hnl, Nat.mul_one, Nat.mul_one, ← hnv, ← hmv]
        rw [hwe, ← hmv] at hr
        have hwr := hs.write (w' := w.setRow b (cu.toList.take (len * 1) ++ news ++ cu.toList.drop (len * 1 + news.length)).toArray) hl rfl rfl rfl (by simp) (fun g hg => setRow_other w b g _ hg) (ob := .tvec e' (xs ++ cs)) (fun h => by cases h)
          (fun ok' hk => ⟨blk_app (w := w) g2 hxl g4 g5 hnr hcc hcp (by omega) (setRow_heap w b cu _ e' _ g1) ok' hk, fun x hx => by
            rcases List.mem_append.1 hx with hx | hx
            · exact hpu x hx
            · exact hcp x hx, by
            simp only [World.shape?, setRow_heap w b cu _ e' _ g1]
            congr 2
            rw [← g2]
            simp; omega⟩)
        obtain ⟨lv', q1, q2⟩ := forget _ _ hwr
        refine ⟨_, _, lv', hr, q1, .ls _ rfl fun b' n' hb => ?_⟩
        rw [q2, hl] at hb; cases hb; exact ⟨cap, rfl, hroom, hmx, hcn⟩
      · have hxle : xs.length ≤ cu.size := by omega
        have hor : ybr (ybi B ok0 lv w) w lv xs (cu.toList.take xs.length) := ⟨by simp; omega, fun j x u hx hu => by
          have hlt := (List.getElem?_eq_some_iff.1 hx).1
          rw [List.getElem?_take, if_pos hlt] at hu
          exact g5 j x u hx (by simpa using hu)⟩
        have hr := Lib.run_append_grow_string (P := P) w ti tj ty e' i zv hu hj0 hi hiz ⟨b, 0, none⟩ len cap (cu.toList.take xs.length) (by simp [hisz]; omega) (fun j v hj => by
          rw [List.getElem?_take] at hj
          split at hj
          · rw [ygm]; simp only [World.cell?, g1, Nat.zero_add]; simpa using hj
          · cases hj) s0 (by omega) (by omega) (by rw [hiby, ← hmv]; exact growslice_fits (by omega) hlim.2)
        obtain ⟨lv', q1, q2⟩ := grown cap _ hor (by omega)
        subst hmv hnv
        exact ⟨_, _, lv', hr, q1, q2⟩
end
end Go.Proofs.YtcpgpiabeimefaaGreatDoor
