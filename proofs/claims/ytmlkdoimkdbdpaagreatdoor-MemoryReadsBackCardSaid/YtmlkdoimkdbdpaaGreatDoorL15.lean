/- Part 15 of the texts under MemoryReadsAndWrites,MemoryReadsBack: joined, with what it needs alone. -/
import Derived.Maps.OwnOps
import Derived.Maps.OwnSet
import Derived.Maps.Views
import Derived.StringKeys
import Derived.Deep.QuietTactic
import Derived.BigQuiet
import Derived.Laws.AppendOwn
import Derived.Laws.AppendOwnNone
import Derived.Laws.OwnMore
import Derived.OwnWalk
import Derived.Deep.RegionHeld3
import Derived.Test.YtmlkdoimkdbdpaaGreatDoorL12
import Derived.Test.YtmlkdoimkdbdpaaGreatDoorL14
set_option linter.unusedVariables false
set_option maxRecDepth 100000
namespace Go.Proofs.YtmlkdoimkdbdpaaGreatDoor
open Go.RowKit Go.Maps

def SetMap (P : Program) (k e : TypeId) (w : World) (b n : Nat) (S : List Lit) : Prop :=
  ∃ D : DataW Unit, w.ownsMap P k (plainElem P e) b n D ∧ ∀ kl, (kl ∈ S → D.atKey kl (.lit (.bool false)) = .lit (.bool true)) ∧ (kl ∉ S → D.atKey kl (.lit (.bool false)) = .lit (.bool false))

section
variable {P : Program} {k e t : TypeId} {w w' : World} {b n : Nat} {S : List Lit}
theorem setMap_made (P : Program) (k e : TypeId) (w : World) : SetMap P k e (w.alloc (.map #[] 0)) w.heap.size 0 [] :=
  ⟨.map [], World.ownsMap_made w P k _, fun kl => ⟨fun h => by simp at h, fun _ => by simp [DataW.atKey]⟩⟩
theorem SetMap.lt (h : SetMap P k e w b n S) : b < w.heap.size := by obtain ⟨D, h, _⟩ := h; exact h.lt
theorem SetMap.below (h : SetMap P k e w b n S) (hb : Below w.heap.size w w') : SetMap P k e w' b n S := by
  have hl := h.lt
  obtain ⟨D, ⟨es, clock, h1, h2⟩, h3⟩ := h
  exact ⟨D, ⟨es, clock, (hb.block b hl).trans h1, h2⟩, h3⟩
theorem plainElem_bool_inv (he : P.underlying e = some .bool) {v : Value} {z : DataW Unit × List MemPlace} (h : plainElem P e v = some z) : ∃ x, v = .bool x ∧ z = (.lit (.bool x), []) := by
  unfold plainElem at h
  rw [he] at h
  cases v <;> simp at h
  exact ⟨_, rfl, h.symm⟩
theorem SetMap.look (h : SetMap P k e w b n S) (K : Keyed P k) (ht : P.underlying t = some (.map k e)) (he : P.underlying e = some .bool) (hz : (zeroValue e).run P w = .ok (.bool false) w) {key : Value} {kl : Lit} (hkey : keyOf P k key = some kl) (x : Bool) (hx : (kl ∈ S ∧ x = true) ∨ (kl ∉ S ∧ x = false)) :
    (Instr.lookup t (.map (some b)) key false).run P w = .ok (.bool x) w := by
  obtain ⟨D, h1, h2⟩ := h
  obtain ⟨v, ps, hrun, hv⟩ := h1.lookup K ht hz (plainElem_bool he false) hkey
  obtain ⟨y, rfl, hy⟩ := plainElem_bool_inv he hv
  rcases hx with ⟨h3, rfl⟩ | ⟨h3, rfl⟩
  · rw [(h2 kl).1 h3] at hy
    simp only [Prod.mk.injEq, DataW.lit.injEq, Lit.bool.injEq] at hy
    obtain ⟨rfl, _⟩ := hy
    exact hrun
  · rw [(h2 kl).2 h3] at hy
    simp only [Prod.mk.injEq, DataW.lit.injEq, Lit.bool.injEq] at hy
    obtain ⟨rfl, _⟩ := hy
    exact hrun
theorem wpList_setMap_add {ops : Array Oper} {rest : List Oper} {o : Oper} {a : Act} {Q : Exit → Act → World → Prop}
    (hg : o.guard = none) (m x v : Operand) (t : TypeId) (hop : o.op = Op.mapUpdate t m x v)
    (k e : TypeId) (K : Keyed P k) (ht : P.underlying t = some (.map k e)) (he : P.underlying e = some .bool) (b n : Nat) (S : List Lit)
    (hm : a.eval m = .map (some b)) (hown : SetMap P k e w b n S) (hn : n < maxLen) (key : Value) (kl : Lit) (hx : a.eval x = key) (hv : a.eval v = .bool true) (hkey : keyOf P k key = some kl)
    (hK : ∀ w', SetMap P k e w' b (n + 1) (S ++ [kl]) → w.grownBy w' (some b) → wpList P ops Q rest (a.put o.dst undef) w') :
    wpList P ops Q (o :: rest) a w := by
  obtain ⟨D, h1, h2⟩ := hown
  refine wpList_mapUpdate_own w hg m x v t hop k e K ht (plainElem P e) b n D hm h1 hn key (.bool true) kl hx hv hkey (.lit (.bool true)) [] (plainElem_bool he true) (fun w' h3 h4 => hK w' ⟨_, h3, fun kl' => ?_⟩ h4)
  by_cases hkl : kl' = kl
  · subst hkl
    refine ⟨fun _ => atKey_put_same h1.isMap (K.key hkey) _ _, fun h => absurd (by simp) h⟩
  · rw [atKey_put_other hkl]
    exact ⟨fun h => (h2 kl').1 (by simpa [hkl] using h), fun h => (h2 kl').2 (by simpa [hkl] using h)⟩
end
end Go.Proofs.YtmlkdoimkdbdpaaGreatDoor
set_option linter.unusedVariables false
set_option maxRecDepth 100000
namespace Go.Proofs.YtmlkdoimkdbdpaaGreatDoor
open Go.RowKit Go.Maps

theorem keyedString : Keyed Tryz.prog 9 := string_keyed Tryz.underlying9
theorem zeroBool (w : World) : (zeroValue 4).run Tryz.prog w = .ok (.bool false) w := by kernel_rfl
theorem keyString (s : ByteArray) (h : s.size ≤ 9223372036854775807) : keyOf Tryz.prog 9 (.string s) = some (.string (nkey s)) := WideMaps.keyOf_string_mk Tryz.underlying9 (by unfold maxLen; omega)
theorem ycm {w wr : World} {xs : Array Value} {T : TypeId} (hb : Below (w.heap.size + 1) (w.alloc (.cells xs T)) wr) (j : Nat) : wr.cell? ⟨w.heap.size, j, none⟩ = xs[j]? := by
  rw [hb.cell (p := ⟨w.heap.size, j, none⟩) (by simp)]
  have h1 : (w.alloc (.cells xs T)).heap[w.heap.size]? = some (.cells xs T) := heap_alloc_new w _
  unfold World.cell?
  simp only [h1]
  simp
theorem ybd {w wr : World} {xs : Array Value} {T : TypeId} (hb : Below (w.heap.size + 1) (w.alloc (.cells xs T)) wr) : Below w.heap.size w wr :=
  ((Below.refl _ _).alloc (Nat.le_refl _) _).trans (hb.mono (by omega))
theorem ycd {w wr : World} {xs : Array Value} {T : TypeId} (hb : Below (w.heap.size + 1) (w.alloc (.cells xs T)) wr) : w.heap.size + 1 ≤ wr.heap.size := by
  have := hb.size; simpa using this
def lits (l : List ByteArray) : List Lit := l.map fun s => .string (nkey s)
theorem mem_lits {l : List ByteArray} {x : List UInt8} : Lit.string x ∈ lits l ↔ x ∈ l.map nkey := by
  unfold lits
  simp only [List.mem_map, Lit.string.injEq]
theorem lits_step (l : List ByteArray) (k : Nat) (hk : k < l.length) : lits (l.take k) ++ [.string (nkey l[k])] = lits (l.take (k + 1)) := by
  unfold lits; rw [List.take_succ_eq_append_getElem hk, List.map_append]; rfl
def NamesAt (l : List ByteArray) (M k : Nat) (wr : World) : Prop := SetMap Tryz.prog 9 4 wr M k (lits (l.take k)) ∧ yfa (l.take k) = true

set_option maxHeartbeats 8000000 in
theorem named_any (v : Value) (p : ProgD) (w : World) (hv : yfe w v p) (hin : ProgIn p) (h6 : p.vars.length ≤ 1000) (h12 : p.rules.length ≤ 1000) :
    Calls Tryz.prog 75 #[v] w fun e w' => e = .returned (.bool (ycx p)) ∧ Below w.heap.size w w' := by
  obtain ⟨vv, rv, rfl, hvv, hrv⟩ := hv
  obtain ⟨hn0, hnv, hnr⟩ := hin
  have HNV := Lib.hid hnv
  have HNR := Lib.hid hnr
  obtain ⟨a0, cap0, rfl, i1, i2, i3⟩ := hvv.open
  obtain ⟨a1, cap1, rfl, j1, j2, j3⟩ := hrv.open
  have HVC := Lib.hid i3
  have HRC := Lib.hid j3
  have hmm := @run_makeMap Tryz.prog
  clear i3 j3 hvv hrv hnv hnr
  rcases Bool.eq_false_or_eq_true (nameB p.name) with q0 | q0
  rotate_left
  · have H := Lib.hid (show ycx p = false by unfold ycx; rw [q0]; rfl)
    go_enter Tryz.func75, Tryz.ntmps75
    go_wp2_with (go_at_call 94; refine (name_any _ _ hn0).mono ?_; rintro e w1 ⟨rfl, rfl⟩)
    go_ret
    exact ⟨yal H.out.symm, (Below.refl _ _).alloc (Nat.le_refl _) _⟩
  have H0 := Lib.hid (show ycx p = (yfa (p.vars.map (·.name)) && yfa (p.rules.map (·.name))) by unfold ycx; rw [q0]; rfl)
  go_enter Tryz.func75, Tryz.ntmps75
  go_wp2_with (go_at_call 94; refine (name_any _ _ hn0).mono ?_; rintro e w1 ⟨rfl, rfl⟩)
  go_loopw [5, 17] (fun _ i wr => ∃ k : Nat, k ≤ p.vars.length ∧ i = .int .i64 k ∧ Hid (NamesAt (p.vars.map (·.name)) (w.heap.size + 1) k wr) ∧ Hid (Below (w.heap.size + 1) (w.alloc (.cells #[.string p.name, .slice a0 p.vars.length cap0, .slice a1 p.rules.length cap1] 25)) wr)) (fun _ i _ => p.vars.length - (intOf i).toNat)
  case atStart => exact ⟨0, by omega, rfl, ⟨by rw [List.take_zero]; simpa [lits] using setMap_made Tryz.prog 9 4 (w.alloc (.cells #[.string p.name, .slice a0 p.vars.length cap0, .slice a1 p.rules.length cap1] 25)), rfl⟩, (Below.refl _ _).alloc (by simp) _⟩
  case round =>
    obtain ⟨k, hk, rfl, hset, hbel⟩ := hrel
    have hbw := ybd hbel.out
    have hbs := ycd hbel.out
    by_cases hlt : k < p.vars.length
    · obtain ⟨g, o, rfl, hg, hc⟩ := HVC.out (by omega)
      obtain ⟨x, hx⟩ : ∃ x, p.vars[k]? = some x := ⟨_, List.getElem?_eq_getElem hlt⟩
      obtain ⟨c0, c1, c2, c3, c4, c5⟩ := hc k x hx
      rw [← hbw.cell (p := ⟨g, _, none⟩) hg] at c0 c1 c2 c3 c4 c5
      have hxn := (HNV.out x (List.mem_of_getElem? hx)).1
      have hlm : k < (p.vars.map (·.name)).length := by simpa using hlt
      have hgx : (p.vars.map (·.name))[k] = x.name := by
        obtain ⟨_, h2⟩ := List.getElem?_eq_some_iff.1 hx
        simp [h2]
      clear hc
      rcases Bool.eq_false_or_eq_true (nameB x.name) with q1 | q1
      rotate_left
      · have H := Lib.hid (show ycx p = false by rw [H0.out, names_bad k hlm (by rw [hgx]; exact q1)]; rfl)
        clear hx hgx
        go_wp2_with (go_at_call 94; refine (name_any _ _ hxn).mono ?_; rintro e w1 ⟨rfl, rfl⟩)
        go_ret
        exact ⟨yal H.out.symm, hbw.alloc (by omega) _⟩
      by_cases hmem : nkey x.name ∈ ((p.vars.map (·.name)).take k).map nkey
      · have H := Lib.hid (show ycx p = false by rw [H0.out, names_again hlm (by rw [hgx]; exact hmem)]; rfl)
        have yap : ∀ ob : Obj, (Instr.lookup 138 (.map (some (w.heap.size + 1))) (.string x.name) false).run Tryz.prog (wr.alloc ob) = .ok (.bool true) (wr.alloc ob) := fun ob =>
          (hset.out.1.below ((Below.refl _ _).alloc (Nat.le_refl _) ob)).look keyedString Tryz.underlying138 Tryz.underlying4 (zeroBool _) (keyString x.name hxn) true (.inl ⟨mem_lits.2 hmem, rfl⟩)
        clear hx hgx hmem
        go_wp2_with (go_at_call 94; refine (name_any _ _ hxn).mono ?_; rintro e w1 ⟨rfl, rfl⟩)
        go_ret
        exact ⟨yal H.out.symm, hbw.alloc (by omega) _⟩
      · have yap : ∀ ob : Obj, (Instr.lookup 138 (.map (some (w.heap.size + 1))) (.string x.name) false).run Tryz.prog (wr.alloc ob) = .ok (.bool false) (wr.alloc ob) := fun ob =>
          (hset.out.1.below ((Below.refl _ _).alloc (Nat.le_refl _) ob)).look keyedString Tryz.underlying138 Tryz.underlying4 (zeroBool _) (keyString x.name hxn) false (.inr ⟨fun h => hmem (mem_lits.1 h), rfl⟩)
        have HS := Lib.hid (names_step k hlm hset.out.2 (by rw [hgx]; exact q1) (by rw [hgx]; exact hmem))
        have HL := Lib.hid (show lits ((p.vars.map (·.name)).take k) ++ [.string (nkey x.name)] = lits ((p.vars.map (·.name)).take (k + 1)) by rw [← lits_step _ k hlm, hgx])
        clear hx hgx hmem
        go_wp2_with (first | (go_at_call 94; refine (name_any _ _ hxn).mono ?_; rintro e w1 ⟨rfl, rfl⟩) | (at_mapUpdate; refine wpList_setMap_add rfl _ _ _ 138 rfl 9 4 keyedString Tryz.underlying138 Tryz.underlying4 (w.heap.size + 1) k _ rfl (by exact hset.out.1.below ((Below.refl _ _).alloc (Nat.le_refl _) _)) (by unfold maxLen; omega) _ (.string (nkey x.name)) rfl rfl (keyString x.name hxn) ?_; intro w2 hset2 hgrow))
        refine ⟨⟨k + 1, by omega, by go_num, ⟨?_, HS.out⟩, ?_⟩, by simp [intOf]; omega⟩
        · rw [HL.out] at hset2; exact hset2
        · exact (hbel.out.alloc hbs _).grown hgrow (by simp; omega) (fun q hq => by cases hq; exact Nat.le_refl _)
    · obtain rfl : k = p.vars.length := by omega
      obtain ⟨wo, rfl⟩ : ∃ wo : World, wo = wr := ⟨_, rfl⟩
      have hnv : yfa (p.vars.map (·.name)) = true := by
        have := hset.out.2
        rw [List.take_of_length_le (by simp)] at this
        exact this
      have H1 := Lib.hid (show ycx p = yfa (p.rules.map (·.name)) by rw [H0.out, hnv]; rfl)
      have hbox := ycm hbel.out 2
      clear hnv hset H0
      simp at hbox
      have hne : w.heap.size ≠ wo.heap.size := by omega
      have hlt0 : w.heap.size < wo.heap.size := by omega
      go_wp2_with fail
      have hb0 : Below (w.heap.size + 1) (w.alloc (.cells #[.string p.name, .slice a0 p.vars.length cap0, .slice a1 p.rules.length cap1] 25)) (wo.alloc (.map #[] 0)) := hbel.out.alloc hbs _
      go_loopw [8, 39] (fun _ i wr => ∃ k : Nat, k ≤ p.rules.length ∧ i = .int .i64 k ∧ Hid (NamesAt (p.rules.map (·.name)) wo.heap.size k wr) ∧ Hid (Below (w.heap.size + 1) (w.alloc (.cells #[.string p.name, .slice a0 p.vars.length cap0, .slice a1 p.rules.length cap1] 25)) wr)) (fun _ i _ => p.rules.length - (intOf i).toNat)
      case atStart => exact ⟨0, by omega, rfl, ⟨by rw [List.take_zero]; simpa [lits] using setMap_made Tryz.prog 9 4 wo, rfl⟩, hb0⟩
      case round =>
        clear hbox hb0 hne hlt0 hbel hbw
        obtain ⟨k, hk, rfl, hset, hbel⟩ := hrel
        have hbw := ybd hbel.out
        have hbs2 := ycd hbel.out
        by_cases hlt : k < p.rules.length
        · obtain ⟨g, o, rfl, hg, hc⟩ := HRC.out (by omega)
          obtain ⟨x, hx⟩ : ∃ x, p.rules[k]? = some x := ⟨_, List.getElem?_eq_getElem hlt⟩
          obtain ⟨gv, sv, ht, hs, c0, c1, c2⟩ := hc k x hx
          obtain ⟨ga, gcap, rfl, _, _, _⟩ := ht.open
          obtain ⟨sa, scap, rfl, _, _, _⟩ := yem hs
          rw [← hbw.cell (p := ⟨g, _, none⟩) hg] at c0 c1 c2
          have hxn := (HNR.out x (List.mem_of_getElem? hx)).1
          have hlm : k < (p.rules.map (·.name)).length := by simpa using hlt
          have hgx : (p.rules.map (·.name))[k] = x.name := by
            obtain ⟨_, h2⟩ := List.getElem?_eq_some_iff.1 hx
            simp [h2]
          clear hc ht hs
          rcases Bool.eq_false_or_eq_true (nameB x.name) with q1 | q1
          rotate_left
          · have H := Lib.hid (show ycx p = false by rw [H1.out, names_bad k hlm (by rw [hgx]; exact q1)])
            clear hx hgx
            go_wp2_with (go_at_call 94; refine (name_any _ _ hxn).mono ?_; rintro e w1 ⟨rfl, rfl⟩)
            go_ret
            exact ⟨yal H.out.symm, hbw.alloc (by omega) _⟩
          by_cases hmem : nkey x.name ∈ ((p.rules.map (·.name)).take k).map nkey
          · have H := Lib.hid (show ycx p = false by rw [H1.out, names_again hlm (by rw [hgx]; exact hmem)])
            have yap : ∀ ob : Obj, (Instr.lookup 138 (.map (some wo.heap.size)) (.string x.name) false).run Tryz.prog (wr.alloc ob) = .ok (.bool true) (wr.alloc ob) := fun ob =>
              (hset.out.1.below ((Below.refl _ _).alloc (Nat.le_refl _) ob)).look keyedString Tryz.underlying138 Tryz.underlying4 (zeroBool _) (keyString x.name hxn) true (.inl ⟨mem_lits.2 hmem, rfl⟩)
            clear hx hgx hmem
            go_wp2_with (go_at_call 94; refine (name_any _ _ hxn).mono ?_; rintro e w1 ⟨rfl, rfl⟩)
            go_ret
            exact ⟨yal H.out.symm, hbw.alloc (by omega) _⟩
          · have yap : ∀ ob : Obj, (Instr.lookup 138 (.map (some wo.heap.size)) (.string x.name) false).run Tryz.prog (wr.alloc ob) = .ok (.bool false) (wr.alloc ob) := fun ob =>
              (hset.out.1.below ((Below.refl _ _).alloc (Nat.le_refl _) ob)).look keyedString Tryz.underlying138 Tryz.underlying4 (zeroBool _) (keyString x.name hxn) false (.inr ⟨fun h => hmem (mem_lits.1 h), rfl⟩)
            have HS := Lib.hid (names_step k hlm hset.out.2 (by rw [hgx]; exact q1) (by rw [hgx]; exact hmem))
            have HL := Lib.hid (show lits ((p.rules.map (·.name)).take k) ++ [.string (nkey x.name)] = lits ((p.rules.map (·.name)).take (k + 1)) by rw [← lits_step _ k hlm, hgx])
            clear hx hgx hmem
            go_wp2_with (first | (go_at_call 94; refine (name_any _ _ hxn).mono ?_; rintro e w1 ⟨rfl, rfl⟩) | (at_mapUpdate; refine wpList_setMap_add rfl _ _ _ 138 rfl 9 4 keyedString Tryz.underlying138 Tryz.underlying4 wo.heap.size k _ rfl (by exact hset.out.1.below ((Below.refl _ _).alloc (Nat.le_refl _) _)) (by unfold maxLen; omega) _ (.string (nkey x.name)) rfl rfl (keyString x.name hxn) ?_; intro w2 hset2 hgrow))
            refine ⟨⟨k + 1, by omega, by go_num, ⟨?_, HS.out⟩, ?_⟩, by simp [intOf]; omega⟩
            · rw [HL.out] at hset2; exact hset2
            · exact (hbel.out.alloc hbs2 _).grown hgrow (by simp; omega) (fun q hq => by cases hq; exact hbs)
        · obtain rfl : k = p.rules.length := by omega
          have H := hset.out.2
          rw [List.take_of_length_le (by simp)] at H
          have H2 := Lib.hid (show ycx p = true by rw [H1.out, H])
          clear H
          go_wp2_with fail
          go_ret
          exact ⟨yal H2.out.symm, hbw⟩
end Go.Proofs.YtmlkdoimkdbdpaaGreatDoor
set_option linter.unusedVariables false
set_option maxRecDepth 100000
namespace Go.Proofs.YtmlkdoimkdbdpaaGreatDoor
open Go.RowKit Go.Maps

set_option maxHeartbeats 8000000 in
theorem rnamed_any (v : Value) (p : ProgD) (w : World) (hv : yfe w v p) (hin : ProgIn p) (h6 : p.vars.length ≤ 1000) (h12 : p.rules.length ≤ 1000) :
    Calls Tryz.prog 85 #[v] w fun e w' => e = .returned (.bool (ycx p)) ∧ Below w.heap.size w w' := by
  obtain ⟨vv, rv, rfl, hvv, hrv⟩ := hv
  obtain ⟨hn0, hnv, hnr⟩ := hin
  have HNV := Lib.hid hnv
  have HNR := Lib.hid hnr
  obtain ⟨a0, cap0, rfl, i1, i2, i3⟩ := hvv.open
  obtain ⟨a1, cap1, rfl, j1, j2, j3⟩ := hrv.open
  have HVC := Lib.hid i3
  have HRC := Lib.hid j3
  clear i3 j3 hvv hrv hnv hnr
  rcases Bool.eq_false_or_eq_true (nameB p.name) with q0 | q0
  rotate_left
  · have H := Lib.hid (show ycx p = false by unfold ycx; rw [q0]; rfl)
    go_enter Tryz.func85, Tryz.ntmps85
    go_wp2_with (go_at_call 103; refine (rname_any _ _ hn0).mono ?_; rintro e w1 ⟨rfl, rfl⟩)
    go_ret
    exact ⟨yal H.out.symm, (Below.refl _ _).alloc (Nat.le_refl _) _⟩
  have H0 := Lib.hid (show ycx p = (yfa (p.vars.map (·.name)) && yfa (p.rules.map (·.name))) by unfold ycx; rw [q0]; rfl)
  go_enter Tryz.func85, Tryz.ntmps85
  go_wp2_with (go_at_call 103; refine (rname_any _ _ hn0).mono ?_; rintro e w1 ⟨rfl, rfl⟩)
  go_loopw [3, 4] (fun i _ wr => ∃ k : Nat, k ≤ p.vars.length ∧ i = .int .i64 k ∧ Hid (yfa ((p.vars.map (·.name)).take k) = true) ∧ Hid (Below (w.heap.size + 1) (w.alloc (.cells #[.string p.name, .slice a0 p.vars.length cap0, .slice a1 p.rules.length cap1] 25)) wr)) (fun i _ _ => p.vars.length - (intOf i).toNat)
  case atStart => exact ⟨0, by omega, rfl, rfl, Below.refl _ _⟩
  case round =>
    obtain ⟨k, hk, rfl, hset, hbel⟩ := hrel
    have hbw := ybd hbel.out
    have hbs := ycd hbel.out
    have hbox := ycm hbel.out 1
    simp at hbox
    by_cases hlt : k < p.vars.length
    · obtain ⟨x, hx⟩ : ∃ x, p.vars[k]? = some x := ⟨_, List.getElem?_eq_getElem hlt⟩
      have hxn := (HNV.out x (List.mem_of_getElem? hx)).1
      have hlm : k < (p.vars.map (·.name)).length := by simpa using hlt
      have hgx : (p.vars.map (·.name))[k] = x.name := by
        obtain ⟨_, h2⟩ := List.getElem?_eq_some_iff.1 hx
        simp [h2]
      have HX := Lib.hid hx
      have HGX := Lib.hid hgx
      clear hx hgx
      obtain ⟨wo, rfl⟩ : ∃ wo : World, wo = wr := ⟨_, rfl⟩
      go_wp2_with fail
      go_loopw [4] (fun i wr => ∃ j : Nat, j ≤ k ∧ i = .int .i64 j ∧ Hid (nkey x.name ∉ ((p.vars.map (·.name)).take j).map nkey) ∧ Hid (Below (w.heap.size + 1) (w.alloc (.cells #[.string p.name, .slice a0 p.vars.length cap0, .slice a1 p.rules.length cap1] 25)) wr)) (fun i _ => k - (intOf i).toNat)
      case atStart => exact ⟨0, by omega, rfl, (fun h => by simp at h), hbel⟩
      case round =>
        clear hbox hbel hbw hbs
        obtain ⟨j, hj, rfl, hnot, hbel⟩ := hrel
        have hbw := ybd hbel.out
        have hbs := ycd hbel.out
        have hbox := ycm hbel.out 1
        simp at hbox
        obtain ⟨g, o, rfl, hg, hc⟩ := HVC.out (by omega)
        have hx := HX.out
        obtain ⟨c0, _, _, _, _, _⟩ := hc k x hx
        by_cases hjk : j < k
        · obtain ⟨y, hy⟩ : ∃ y, p.vars[j]? = some y := ⟨_, List.getElem?_eq_getElem (by omega)⟩
          obtain ⟨d0, _, _, _, _, _⟩ := hc j y hy
          have hgy : (p.vars.map (·.name))[j]'(by simp; omega) = y.name := by
            obtain ⟨_, h2⟩ := List.getElem?_eq_some_iff.1 hy
            simp [h2]
          have HGY := Lib.hid hgy
          rw [← hbw.cell (p := ⟨g, _, none⟩) hg] at c0 d0
          clear hc hx hy hgy
          by_cases he : nkey y.name = nkey x.name
          · have hb : (y.name.toList == x.name.toList) = true := by rw [nkey_beq]; simpa using he
            have H := Lib.hid (show ycx p = false by rw [H0.out, names_twice j k hjk hlm (by rw [HGY.out, HGX.out]; exact he)]; rfl)
            clear he
            go_wp2_with fail
            go_quiet (fail)
            go_wp2_with fail
            go_ret
            exact ⟨yal H.out.symm, below_drewN hbw _⟩
          · have hb : (y.name.toList == x.name.toList) = false := by rw [nkey_beq]; simpa using he
            have HN2 := Lib.hid (show nkey x.name ∉ ((p.vars.map (·.name)).take (j + 1)).map nkey by
              rw [List.take_succ_eq_append_getElem (show j < (p.vars.map (·.name)).length by simp; omega), List.map_append, List.mem_append, HGY.out]
              rintro (h | h)
              · exact hnot.out h
              · simp at h; exact he h.symm)
            clear he
            go_wp2_with fail
            go_quiet (fail)
            go_wp2_with fail
            exact ⟨⟨j + 1, by omega, by go_num, HN2, below_drewN hbel.out _⟩, by simp [intOf]; omega⟩
        · obtain rfl : j = k := by omega
          rw [← hbw.cell (p := ⟨g, _, none⟩) hg] at c0
          clear hc hx
          rcases Bool.eq_false_or_eq_true (nameB x.name) with q1 | q1
          · have HS := Lib.hid (names_step j hlm hset.out (by rw [HGX.out]; exact q1) (by rw [HGX.out]; exact hnot.out))
            go_wp2_with (go_at_call 103; refine (rname_any _ _ hxn).mono ?_; rintro e w1 ⟨rfl, rfl⟩)
            exact ⟨⟨j + 1, by omega, by go_num, HS, hbel⟩, by simp [intOf]; omega⟩
          · have H := Lib.hid (show ycx p = false by rw [H0.out, names_bad j hlm (by rw [HGX.out]; exact q1)]; rfl)
            go_wp2_with (go_at_call 103; refine (rname_any _ _ hxn).mono ?_; rintro e w1 ⟨rfl, rfl⟩)
            go_ret
            exact ⟨yal H.out.symm, hbw⟩
    · obtain rfl : k = p.vars.length := by omega
      have hnv := hset.out
      rw [List.take_of_length_le (by simp)] at hnv
      have H1 := Lib.hid (show ycx p = yfa (p.rules.map (·.name)) by rw [H0.out, hnv]; rfl)
      clear hnv hset H0
      obtain ⟨wo, rfl⟩ : ∃ wo : World, wo = wr := ⟨_, rfl⟩
      go_wp2_with fail
      go_loopw [5, 6] (fun i _ wr => ∃ k : Nat, k ≤ p.rules.length ∧ i = .int .i64 k ∧ Hid (yfa ((p.rules.map (·.name)).take k) = true) ∧ Hid (Below (w.heap.size + 1) (w.alloc (.cells #[.string p.name, .slice a0 p.vars.length cap0, .slice a1 p.rules.length cap1] 25)) wr)) (fun i _ _ => p.rules.length - (intOf i).toNat)
      case atStart => exact ⟨0, by omega, rfl, rfl, hbel⟩
      case round =>
        clear hbel hbw hbs hbox
        obtain ⟨k, hk, rfl, hset, hbel⟩ := hrel
        have hbw := ybd hbel.out
        have hbs := ycd hbel.out
        have hbox := ycm hbel.out 2
        simp at hbox
        by_cases hlt : k < p.rules.length
        · obtain ⟨x, hx⟩ : ∃ x, p.rules[k]? = some x := ⟨_, List.getElem?_eq_getElem hlt⟩
          have hxn := (HNR.out x (List.mem_of_getElem? hx)).1
          have hlm : k < (p.rules.map (·.name)).length := by simpa using hlt
          have hgx : (p.rules.map (·.name))[k] = x.name := by
            obtain ⟨_, h2⟩ := List.getElem?_eq_some_iff.1 hx
            simp [h2]
          have HX := Lib.hid hx
          have HGX := Lib.hid hgx
          clear hx hgx
          obtain ⟨wo, rfl⟩ : ∃ wo : World, wo = wr := ⟨_, rfl⟩
          go_wp2_with fail
          go_loopw [6] (fun i wr => ∃ j : Nat, j ≤ k ∧ i = .int .i64 j ∧ Hid (nkey x.name ∉ ((p.rules.map (·.name)).take j).map nkey) ∧ Hid (Below (w.heap.size + 1) (w.alloc (.cells #[.string p.name, .slice a0 p.vars.length cap0, .slice a1 p.rules.length cap1] 25)) wr)) (fun i _ => k - (intOf i).toNat)
          case atStart => exact ⟨0, by omega, rfl, (fun h => by simp at h), hbel⟩
          case round =>
            clear hbox hbel hbw hbs
            obtain ⟨j, hj, rfl, hnot, hbel⟩ := hrel
            have hbw := ybd hbel.out
            have hbs := ycd hbel.out
            have hbox := ycm hbel.out 2
            simp at hbox
            obtain ⟨g, o, rfl, hg, hc⟩ := HRC.out (by omega)
            have hx := HX.out
            obtain ⟨_, _, _, _, c0, _, _⟩ := hc k x hx
            by_cases hjk : j < k
            · obtain ⟨y, hy⟩ : ∃ y, p.rules[j]? = some y := ⟨_, List.getElem?_eq_getElem (by omega)⟩
              obtain ⟨_, _, _, _, d0, _, _⟩ := hc j y hy
              have hgy : (p.rules.map (·.name))[j]'(by simp; omega) = y.name := by
                obtain ⟨_, h2⟩ := List.getElem?_eq_some_iff.1 hy
                simp [h2]
              have HGY := Lib.hid hgy
              rw [← hbw.cell (p := ⟨g, _, none⟩) hg] at c0 d0
              clear hc hx hy hgy
              by_cases he : nkey y.name = nkey x.name
              · have hb : (y.name.toList == x.name.toList) = true := by rw [nkey_beq]; simpa using he
                have H := Lib.hid (show ycx p = false by rw [H1.out, names_twice j k hjk hlm (by rw [HGY.out, HGX.out]; exact he)])
                clear he
                go_wp2_with fail
                go_quiet (fail)
                go_wp2_with fail
                go_ret
                exact ⟨yal H.out.symm, below_drewN hbw _⟩
              · have hb : (y.name.toList == x.name.toList) = false := by rw [nkey_beq]; simpa using he
                have HN2 := Lib.hid (show nkey x.name ∉ ((p.rules.map (·.name)).take (j + 1)).map nkey by
                  rw [List.take_succ_eq_append_getElem (show j < (p.rules.map (·.name)).length by simp; omega), List.map_append, List.mem_append, HGY.out]
                  rintro (h | h)
                  · exact hnot.out h
                  · simp at h; exact he h.symm)
                clear he
                go_wp2_with fail
                go_quiet (fail)
                go_wp2_with fail
                exact ⟨⟨j + 1, by omega, by go_num, HN2, below_drewN hbel.out _⟩, by simp [intOf]; omega⟩
            · obtain rfl : j = k := by omega
              rw [← hbw.cell (p := ⟨g, _, none⟩) hg] at c0
              clear hc hx
              rcases Bool.eq_false_or_eq_true (nameB x.name) with q1 | q1
              · have HS := Lib.hid (names_step j hlm hset.out (by rw [HGX.out]; exact q1) (by rw [HGX.out]; exact hnot.out))
                go_wp2_with (go_at_call 103; refine (rname_any _ _ hxn).mono ?_; rintro e w1 ⟨rfl, rfl⟩)
                exact ⟨⟨j + 1, by omega, by go_num, HS, hbel⟩, by simp [intOf]; omega⟩
              · have H := Lib.hid (show ycx p = false by rw [H1.out, names_bad j hlm (by rw [HGX.out]; exact q1)])
                go_wp2_with (go_at_call 103; refine (rname_any _ _ hxn).mono ?_; rintro e w1 ⟨rfl, rfl⟩)
                go_ret
                exact ⟨yal H.out.symm, hbw⟩
        · obtain rfl : k = p.rules.length := by omega
          have H := hset.out
          rw [List.take_of_length_le (by simp)] at H
          have H2 := Lib.hid (show ycx p = true by rw [H1.out, H])
          clear H
          go_wp2_with fail
          go_ret
          exact ⟨yal H2.out.symm, hbw⟩
end Go.Proofs.YtmlkdoimkdbdpaaGreatDoor
set_option linter.unusedVariables false
set_option maxRecDepth 100000
namespace Go.Proofs.YtmlkdoimkdbdpaaGreatDoor
open Go.RowKit Go.Maps

def setB (n : Int) (s : SetD) : Bool := ycf s.var 0 (n - 1) && ydc s.val n
def setsB (l : List SetD) (n : Int) : Bool := l.all (setB n) && decide ((l.map (·.var)).Nodup)
theorem formedB_eq (r : RuleD) (n : Int) : ybv r n = (decide (1 ≤ r.sets.length) && (decide (r.sets.length ≤ 6) && (ydc r.guard n && setsB r.sets n))) := rfl
theorem sets_bad {l : List SetD} {n : Int} (k : Nat) (hk : k < l.length) (h : setB n l[k] = false) : setsB l n = false := by
  unfold setsB
  have : l.all (setB n) = false := by rw [List.all_eq_false]; exact ⟨l[k], List.getElem_mem hk, by simp [h]⟩
  rw [this]; rfl
theorem sets_twice {l : List SetD} {n : Int} (j k : Nat) (hjk : j < k) (hk : k < l.length) (h : (l[j]'(by omega)).var = l[k].var) : setsB l n = false := by
  unfold setsB
  have : ¬ (l.map (·.var)).Nodup := by
    intro hn
    have hn' := List.pairwise_iff_getElem.1 hn j k (by simp; omega) (by simpa using hk) hjk
    apply hn'
    simp [h]
  simp [this]
theorem sets_step {l : List SetD} {n : Int} (k : Nat) (hk : k < l.length) (h : setsB (l.take k) n = true) (h1 : setB n l[k] = true) (h2 : l[k].var ∉ (l.take k).map (·.var)) : setsB (l.take (k + 1)) n = true := by
  unfold setsB at *
  rw [Bool.and_eq_true, decide_eq_true_eq] at *
  rw [List.take_succ_eq_append_getElem hk, List.all_append, h.1, List.map_append]
  refine ⟨by simpa using h1, ?_⟩
  rw [List.nodup_append]
  refine ⟨h.2, by simp, ?_⟩
  intro a ha b hb
  simp only [List.map_singleton, List.mem_singleton] at hb
  subst hb
  intro hab
  exact h2 (hab ▸ ha)
theorem mem_vars {l : List SetD} {k : Nat} {x : Int} (h : x ∈ (l.take k).map (·.var)) : ∃ j, ∃ h : j < l.length, j < k ∧ l[j].var = x := by
  rw [List.mem_map] at h
  obtain ⟨s, hs, rfl⟩ := h
  obtain ⟨j, hj⟩ := List.getElem?_of_mem hs
  have hjk : j < k := by
    have := (List.getElem?_eq_some_iff.1 hj).1
    rw [List.length_take] at this; omega
  rw [List.getElem?_take, if_pos hjk] at hj
  obtain ⟨h1, h2⟩ := List.getElem?_eq_some_iff.1 hj
  exact ⟨j, h1, hjk, by rw [h2]⟩
theorem sets_again {l : List SetD} {n : Int} {k : Nat} (hk : k < l.length) (h : l[k].var ∈ (l.take k).map (·.var)) : setsB l n = false := by
  obtain ⟨j, hj, hjk, he⟩ := mem_vars h
  exact sets_twice j k hjk hk he
def ilits (l : List SetD) : List Lit := l.map fun s => .int .i64 s.var
theorem mem_ilits {l : List SetD} {x : Int} : Lit.int .i64 x ∈ ilits l ↔ x ∈ l.map (·.var) := by
  unfold ilits
  simp only [List.mem_map, Lit.int.injEq, true_and]
theorem ilits_step (l : List SetD) (k : Nat) (hk : k < l.length) : ilits (l.take k) ++ [.int .i64 l[k].var] = ilits (l.take (k + 1)) := by
  unfold ilits; rw [List.take_succ_eq_append_getElem hk, List.map_append]; rfl
def SetsAt (l : List SetD) (n : Int) (M k : Nat) (wr : World) : Prop := SetMap Tryz.prog 3 4 wr M k (ilits (l.take k)) ∧ setsB (l.take k) n = true
theorem keyedInt : Keyed Tryz.prog 3 := int_keyed Tryz.underlying3
theorem wf_of_in {x : Int} (h : In64 x) : (Lit.int .i64 x).wf = true := by
  obtain ⟨h1, h2⟩ := h
  have e1 : IntKind.i64.min = -9223372036854775808 := by decide
  have e2 : IntKind.i64.max = 9223372036854775807 := by decide
  simp only [Lit.wf, Bool.and_eq_true, decide_eq_true_eq]
  omega
theorem keyInt (x : Int) (h : In64 x) : keyOf Tryz.prog 3 (.int .i64 x) = some (.int .i64 x) := keyOf_int_mk Tryz.underlying3 (wf_of_in h)
def LightR (r : RuleD) : Prop := r.guard.length ≤ 1000 ∧ r.sets.length ≤ 1000 ∧ ∀ s ∈ r.sets, s.val.length ≤ 1000

set_option maxHeartbeats 8000000 in
theorem formed_any (gv sv : Value) (r : RuleD) (n : Nat) (w : World) (hg : ycu w gv r.guard) (hs : Seq (SetOk w) 2 w sv r.sets) (hin : RuleIn r) (hl : LightR r) (hn : n ≤ 1000) :
    Calls Tryz.prog 77 #[.agg #[.string r.name, gv, sv], .int .i64 n] w fun e w' => e = .returned (.bool (ybv r n)) ∧ Below w.heap.size w w' := by
  obtain ⟨hl1, hl2, hl3⟩ := hl
  obtain ⟨_, _, hi3⟩ := hin
  have HI := Lib.hid hi3
  have HL := Lib.hid hl3
  have HG := Lib.hid hg
  have HS := Lib.hid hs
  obtain ⟨ga, gcap, rfl, g1, g2, g3⟩ := hg.open
  obtain ⟨sa, scap, rfl, s1, s2, s3⟩ := yem hs
  have HC := Lib.hid s3
  have hmm := @run_makeMap Tryz.prog
  clear hi3 hl3 g3 s3 hs hg
  by_cases h0 : r.sets.length = 0
  · have b0 : ((r.sets.length : Int) == 0) = true := by simp [h0]
    have H := Lib.hid (show ybv r n = false by rw [formedB_eq, h0]; rfl)
    have h0' : r.sets.length < 1 := by omega
    clear h0
    go_enter Tryz.func77, Tryz.ntmps77
    go_wp2_with fail
    go_ret
    exact ⟨yal H.out.symm, (Below.refl _ _).alloc (Nat.le_refl _) _⟩
  have b0 : ((r.sets.length : Int) == 0) = false := beq_eq_false_iff_ne.2 (by omega)
  by_cases h6 : 6 < r.sets.length
  · have H := Lib.hid (show ybv r n = false by rw [formedB_eq]; simp; omega)
    have b6 : decide (6 < r.sets.length) = true := by simp; omega
    go_enter Tryz.func77, Tryz.ntmps77
    go_wp2_with fail
    go_ret
    exact ⟨yal H.out.symm, (Below.refl _ _).alloc (Nat.le_refl _) _⟩
  have b6 : decide (6 < r.sets.length) = false := by simp; omega
  have b6' : decide (6 < (r.sets.length : Int)) = false := by simp; omega
  have b1 : decide (1 ≤ r.sets.length) = true := by simp; omega
  have b1' : decide (r.sets.length ≤ 6) = true := by simp; omega
  rcases Bool.eq_false_or_eq_true (ydc r.guard n) with q0 | q0
  rotate_left
  · have H := Lib.hid (show ybv r n = false by rw [formedB_eq, q0]; simp)
    go_enter Tryz.func77, Tryz.ntmps77
    go_wp2_with fail
    refine (valid_any _ r.guard _ _ hl1 (by exact HG.out.below ((Below.refl _ _).alloc (Nat.le_refl _) _))).mono ?_
    rintro e w1 ⟨rfl, hb1⟩
    go_wp2_with fail
    go_ret
    exact ⟨yal H.out.symm, ybd (by simpa using hb1)⟩
  have H0 := Lib.hid (show ybv r n = setsB r.sets n by rw [formedB_eq, q0, b1, b1']; rfl)
  clear b1 b1'
  go_enter Tryz.func77, Tryz.ntmps77
  go_wp2_with fail
  refine (valid_any _ r.guard _ _ hl1 (by exact HG.out.below ((Below.refl _ _).alloc (Nat.le_refl _) _))).mono ?_
  rintro e w1 ⟨rfl, hb1'⟩
  have hb1 : Below (w.heap.size + 1) (w.alloc (.cells #[.string r.name, .slice ga r.guard.length gcap, .slice sa r.sets.length scap] 78)) w1 := by simpa using hb1'
  have hbs1 := ycd hb1
  have hbox := ycm hb1 2
  simp at hbox
  have hne : w.heap.size ≠ w1.heap.size := by omega
  have hlt0 : w.heap.size < w1.heap.size := by omega
  clear hb1'
  go_wp2_with fail
  have hb0 : Below (w.heap.size + 1) (w.alloc (.cells #[.string r.name, .slice ga r.guard.length gcap, .slice sa r.sets.length scap] 78)) (w1.alloc (.map #[] 0)) := hb1.alloc hbs1 _
  go_loopw [7, 29] (fun _ i wr => ∃ k : Nat, k ≤ r.sets.length ∧ i = .int .i64 k ∧ Hid (SetsAt r.sets n w1.heap.size k wr) ∧ Hid (Below (w.heap.size + 1) (w.alloc (.cells #[.string r.name, .slice ga r.guard.length gcap, .slice sa r.sets.length scap] 78)) wr)) (fun _ i _ => r.sets.length - (intOf i).toNat)
  case atStart => exact ⟨0, by omega, rfl, ⟨by rw [List.take_zero]; simpa [ilits] using setMap_made Tryz.prog 3 4 w1, rfl⟩, hb0⟩
  case round =>
    clear hb0 hbox hne hlt0
    obtain ⟨k, hk, rfl, hset, hbel⟩ := hrel
    have hbw := ybd hbel.out
    have hbs := ycd hbel.out
    by_cases hlt : k < r.sets.length
    · obtain ⟨g, o, rfl, hg, hc⟩ := HC.out (by omega)
      obtain ⟨x, hx⟩ : ∃ x, r.sets[k]? = some x := ⟨_, List.getElem?_eq_getElem hlt⟩
      obtain ⟨tv, ht, c0, c1⟩ := hc k x hx
      have HT := Lib.hid ht
      obtain ⟨ta, tcap, rfl, _, _, _⟩ := ht.open
      rw [← hbw.cell (p := ⟨g, _, none⟩) hg] at c0 c1
      have hgx : r.sets[k] = x := (List.getElem?_eq_some_iff.1 hx).2
      have hxi := HI.out x (List.mem_of_getElem? hx)
      have hxl := HL.out x (List.mem_of_getElem? hx)
      have HXI := Lib.hid hxi
      have HGX := Lib.hid hgx
      clear hc ht hx hgx hxi
      rcases Bool.eq_false_or_eq_true (ycf x.var 0 ((n : Int) - 1)) with q1 | q1
      rotate_left
      · have H := Lib.hid (show ybv r n = false by rw [H0.out, sets_bad k hlt (by rw [HGX.out, setB, q1]; rfl)])
        go_wp2_with (go_at_call 96; refine (ydu _ _ _ _).mono ?_; rintro e w2 ⟨rfl, rfl⟩)
        go_ret
        exact ⟨yal H.out.symm, hbw.alloc (by omega) _⟩
      by_cases hmem : x.var ∈ (r.sets.take k).map (·.var)
      · have H := Lib.hid (show ybv r n = false by rw [H0.out, sets_again hlt (by rw [HGX.out]; exact hmem)])
        have yap : ∀ ob : Obj, (Instr.lookup 141 (.map (some w1.heap.size)) (.int .i64 x.var) false).run Tryz.prog (wr.alloc ob) = .ok (.bool true) (wr.alloc ob) := fun ob =>
          (hset.out.1.below ((Below.refl _ _).alloc (Nat.le_refl _) ob)).look keyedInt Tryz.underlying141 Tryz.underlying4 (zeroBool _) (keyInt x.var HXI.out.1) true (.inl ⟨mem_ilits.2 hmem, rfl⟩)
        clear hmem
        go_wp2_with (go_at_call 96; refine (ydu _ _ _ _).mono ?_; rintro e w2 ⟨rfl, rfl⟩)
        go_ret
        exact ⟨yal H.out.symm, hbw.alloc (by omega) _⟩
      have yap : ∀ ob : Obj, (Instr.lookup 141 (.map (some w1.heap.size)) (.int .i64 x.var) false).run Tryz.prog (wr.alloc ob) = .ok (.bool false) (wr.alloc ob) := fun ob =>
          (hset.out.1.below ((Below.refl _ _).alloc (Nat.le_refl _) ob)).look keyedInt Tryz.underlying141 Tryz.underlying4 (zeroBool _) (keyInt x.var HXI.out.1) false (.inr ⟨fun h => hmem (mem_ilits.1 h), rfl⟩)
      rcases Bool.eq_false_or_eq_true (ydc x.val n) with q2 | q2
      rotate_left
      · have H := Lib.hid (show ybv r n = false by rw [H0.out, sets_bad k hlt (by rw [HGX.out, setB, q2]; simp)])
        clear hmem
        go_wp2_with (go_at_call 96; refine (ydu _ _ _ _).mono ?_; rintro e w2 ⟨rfl, rfl⟩)
        refine (valid_any _ x.val _ _ hxl (by exact HT.out.below (hbw.alloc (by omega) _))).mono ?_
        rintro e w2 ⟨rfl, hb2⟩
        go_wp2_with fail
        go_ret
        exact ⟨yal H.out.symm, (hbw.alloc (by omega) _).trans (hb2.mono (by simp; omega))⟩
      · have HST := Lib.hid (sets_step (n := (n : Int)) k hlt hset.out.2 (by rw [HGX.out, setB, q1, q2]; rfl) (by rw [HGX.out]; exact hmem))
        have HLT := Lib.hid (show ilits (r.sets.take k) ++ [.int .i64 x.var] = ilits (r.sets.take (k + 1)) by rw [← ilits_step _ k hlt, HGX.out])
        clear hmem
        go_wp2_with (go_at_call 96; refine (ydu _ _ _ _).mono ?_; rintro e w2 ⟨rfl, rfl⟩)
        refine (valid_any _ x.val _ _ hxl (by exact HT.out.below (hbw.alloc (by omega) _))).mono ?_
        rintro e w2 ⟨rfl, hb2'⟩
        have hb2 : Below (wr.heap.size + 1) (wr.alloc (.cells #[.int .i64 x.var, .slice ta x.val.length tcap] 81)) w2 := by simpa using hb2'
        have hbx := ycm hb2 0
        have hbs2 := ycd hb2
        simp at hbx
        clear hb2' yap
        go_wp2_with (at_mapUpdate; refine wpList_setMap_add rfl _ _ _ 141 rfl 3 4 keyedInt Tryz.underlying141 Tryz.underlying4 w1.heap.size k _ rfl (by exact hset.out.1.below (ybd hb2)) (by unfold maxLen; omega) _ (.int .i64 x.var) rfl rfl (keyInt x.var HXI.out.1) ?_; intro w3 hset3 hgrow)
        refine ⟨⟨k + 1, by omega, by go_num, ⟨?_, HST.out⟩, ?_⟩, by simp [intOf]; omega⟩
        · rw [HLT.out] at hset3; exact hset3
        · exact (hbel.out.trans ((ybd hb2).mono hbs)).grown hgrow (by omega) (fun q hq => by cases hq; exact hbs1)
    · obtain rfl : k = r.sets.length := by omega
      have H := hset.out.2
      rw [List.take_of_length_le (by simp)] at H
      have H2 := Lib.hid (show ybv r n = true by rw [H0.out, H])
      clear H
      go_wp2_with fail
      go_ret
      exact ⟨yal H2.out.symm, hbw⟩
end Go.Proofs.YtmlkdoimkdbdpaaGreatDoor
set_option linter.unusedVariables false
set_option maxRecDepth 100000
namespace Go.Proofs.YtmlkdoimkdbdpaaGreatDoor
open Go.RowKit Go.Maps

set_option maxHeartbeats 8000000 in
theorem rformed_any (gv sv : Value) (r : RuleD) (n : Nat) (w : World) (hg : ycu w gv r.guard) (hs : Seq (SetOk w) 2 w sv r.sets) (hin : RuleIn r) (hl : LightR r) (hn : n ≤ 1000) :
    Calls Tryz.prog 87 #[.agg #[.string r.name, gv, sv], .int .i64 n] w fun e w' => e = .returned (.bool (ybv r n)) ∧ Below w.heap.size w w' := by
  obtain ⟨hl1, hl2, hl3⟩ := hl
  obtain ⟨_, _, hi3⟩ := hin
  have HI := Lib.hid hi3
  have HL := Lib.hid hl3
  have HG := Lib.hid hg
  have HS := Lib.hid hs
  obtain ⟨ga, gcap, rfl, g1, g2, g3⟩ := hg.open
  obtain ⟨sa, scap, rfl, s1, s2, s3⟩ := yem hs
  have HC := Lib.hid s3
  clear hi3 hl3 g3 s3 hs hg
  have HW : Hid (ybv r n = (ycf r.sets.length 1 6 && (ydc r.guard n && setsB r.sets n))) := by
    unfold Hid
    rw [formedB_eq, ← Bool.and_assoc]
    congr 1
    rw [Bool.eq_iff_iff]; simp [ycf]; omega
  rcases Bool.eq_false_or_eq_true (ycf r.sets.length 1 6) with qw | qw
  rotate_left
  · have H := Lib.hid (show ybv r n = false by rw [HW.out, qw]; rfl)
    go_enter Tryz.func87, Tryz.ntmps87
    go_wp2_with (go_at_call 84; refine (yeg _ _ _ _).mono ?_; rintro e w2 ⟨rfl, rfl⟩)
    go_ret
    exact ⟨yal H.out.symm, (Below.refl _ _).alloc (Nat.le_refl _) _⟩
  rcases Bool.eq_false_or_eq_true (ydc r.guard n) with q0 | q0
  rotate_left
  · have H := Lib.hid (show ybv r n = false by rw [HW.out, q0, qw]; rfl)
    go_enter Tryz.func87, Tryz.ntmps87
    go_wp2_with (go_at_call 84; refine (yeg _ _ _ _).mono ?_; rintro e w2 ⟨rfl, rfl⟩)
    refine (rvalid_any _ r.guard _ _ hl1 (by exact HG.out.below ((Below.refl _ _).alloc (Nat.le_refl _) _))).mono ?_
    rintro e w1 ⟨rfl, hb1⟩
    go_wp2_with fail
    go_ret
    exact ⟨yal H.out.symm, ybd (by simpa using hb1)⟩
  have H0 := Lib.hid (show ybv r n = setsB r.sets n by rw [HW.out, q0, qw]; rfl)
  go_enter Tryz.func87, Tryz.ntmps87
  go_wp2_with (go_at_call 84; refine (yeg _ _ _ _).mono ?_; rintro e w2 ⟨rfl, rfl⟩)
  refine (rvalid_any _ r.guard _ _ hl1 (by exact HG.out.below ((Below.refl _ _).alloc (Nat.le_refl _) _))).mono ?_
  rintro e w1 ⟨rfl, hb1'⟩
  have hb1 : Below (w.heap.size + 1) (w.alloc (.cells #[.string r.name, .slice ga r.guard.length gcap, .slice sa r.sets.length scap] 78)) w1 := by simpa using hb1'
  clear hb1'
  go_wp2_with fail
  go_loopw [5, 6] (fun i _ wr => ∃ k : Nat, k ≤ r.sets.length ∧ i = .int .i64 k ∧ Hid (setsB (r.sets.take k) n = true) ∧ Hid (Below (w.heap.size + 1) (w.alloc (.cells #[.string r.name, .slice ga r.guard.length gcap, .slice sa r.sets.length scap] 78)) wr)) (fun i _ _ => r.sets.length - (intOf i).toNat)
  case atStart => exact ⟨0, by omega, rfl, rfl, hb1⟩
  case round =>
    clear hb1
    obtain ⟨k, hk, rfl, hset, hbel⟩ := hrel
    have hbw := ybd hbel.out
    have hbs := ycd hbel.out
    have hbox := ycm hbel.out 2
    simp at hbox
    by_cases hlt : k < r.sets.length
    · obtain ⟨g, o, rfl, hg, hc⟩ := HC.out (by omega)
      obtain ⟨x, hx⟩ : ∃ x, r.sets[k]? = some x := ⟨_, List.getElem?_eq_getElem hlt⟩
      obtain ⟨tv, ht, c0, c1⟩ := hc k x hx
      have HT := Lib.hid ht
      have HC0 := Lib.hid c0
      have HCC := Lib.hid hc
      obtain ⟨ta, tcap, rfl, _, _, _⟩ := ht.open
      rw [← hbw.cell (p := ⟨g, _, none⟩) hg] at c0 c1
      have hgx : r.sets[k] = x := (List.getElem?_eq_some_iff.1 hx).2
      have hxi := HI.out x (List.mem_of_getElem? hx)
      have hxl := HL.out x (List.mem_of_getElem? hx)
      have HXI := Lib.hid hxi
      have HGX := Lib.hid hgx
      clear hc ht hx hgx hxi
      rcases Bool.eq_false_or_eq_true (ycf x.var 0 ((n : Int) - 1)) with q1 | q1
      rotate_left
      · have H := Lib.hid (show ybv r n = false by rw [H0.out, sets_bad k hlt (by rw [HGX.out, setB, q1]; rfl)])
        go_wp2_with (go_at_call 84; refine (yeg _ _ _ _).mono ?_; rintro e w2 ⟨rfl, rfl⟩)
        go_ret
        exact ⟨yal H.out.symm, hbw⟩
      rcases Bool.eq_false_or_eq_true (ydc x.val n) with q2 | q2
      rotate_left
      · have H := Lib.hid (show ybv r n = false by rw [H0.out, sets_bad k hlt (by rw [HGX.out, setB, q2]; simp)])
        go_wp2_with (go_at_call 84; refine (yeg _ _ _ _).mono ?_; rintro e w2 ⟨rfl, rfl⟩)
        refine (rvalid_any _ x.val _ _ hxl (by exact HT.out.below hbw)).mono ?_
        rintro e w2 ⟨rfl, hb2⟩
        go_wp2_with fail
        go_ret
        exact ⟨yal H.out.symm, ydn hbw hb2⟩
      · go_wp2_with (go_at_call 84; refine (yeg _ _ _ _).mono ?_; rintro e w2 ⟨rfl, rfl⟩)
        refine (rvalid_any _ x.val _ _ hxl (by exact HT.out.below hbw)).mono ?_
        rintro e w2 ⟨rfl, hb2⟩
        have hbel2 : Hid (Below (w.heap.size + 1) (w.alloc (.cells #[.string r.name, .slice ga r.guard.length gcap, .slice (some ⟨g, o, none⟩) r.sets.length scap] 78)) w2) := hbel.out.trans (hb2.mono hbs)
        clear hbel hb2 hbw hbs hbox c0 c1
        go_wp2_with fail
        go_loopw [6] (fun i wr => ∃ j : Nat, j ≤ k ∧ i = .int .i64 j ∧ Hid (x.var ∉ (r.sets.take j).map (·.var)) ∧ Hid (Below (w.heap.size + 1) (w.alloc (.cells #[.string r.name, .slice ga r.guard.length gcap, .slice (some ⟨g, o, none⟩) r.sets.length scap] 78)) wr)) (fun i _ => k - (intOf i).toNat)
        case atStart => exact ⟨0, by omega, rfl, (fun h => by simp at h), hbel2⟩
        case round =>
          clear hbel2
          obtain ⟨j, hj, rfl, hnot, hbel⟩ := hrel
          have hbw := ybd hbel.out
          have hbs := ycd hbel.out
          have hbox := ycm hbel.out 2
          simp at hbox
          by_cases hjk : j < k
          · obtain ⟨y, hy⟩ : ∃ y, r.sets[j]? = some y := ⟨_, List.getElem?_eq_getElem (by omega)⟩
            obtain ⟨_, _, d0, _⟩ := HCC.out j y hy
            have c0 := HC0.out
            rw [← hbw.cell (p := ⟨g, _, none⟩) hg] at c0 d0
            have HGY : Hid (r.sets[j] = y) := (List.getElem?_eq_some_iff.1 hy).2
            clear hy
            by_cases he : y.var = x.var
            · have hb : (y.var == x.var) = true := by simpa using he
              have H := Lib.hid (show ybv r n = false by rw [H0.out, sets_twice j k hjk hlt (by rw [HGY.out, HGX.out]; exact he)])
              clear he
              go_wp2_with fail
              go_quiet (fail)
              go_wp2_with fail
              go_ret
              exact ⟨yal H.out.symm, below_drewN hbw _⟩
            · have hb : (y.var == x.var) = false := by simpa using he
              have HN2 := Lib.hid (show x.var ∉ (r.sets.take (j + 1)).map (·.var) by
                rw [List.take_succ_eq_append_getElem (show j < r.sets.length by omega), List.map_append, List.mem_append, HGY.out]
                rintro (h | h)
                · exact hnot.out h
                · simp at h; exact he h.symm)
              clear he
              go_wp2_with fail
              go_quiet (fail)
              go_wp2_with fail
              exact ⟨⟨j + 1, by omega, by go_num, HN2, below_drewN hbel.out _⟩, by simp [intOf]; omega⟩
          · obtain rfl : j = k := by omega
            have HST := Lib.hid (sets_step (n := (n : Int)) j hlt hset.out (by rw [HGX.out, setB, q1, q2]; rfl) (by rw [HGX.out]; exact hnot.out))
            go_wp2_with fail
            exact ⟨⟨j + 1, by omega, by go_num, HST, hbel⟩, by simp [intOf]; omega⟩
    · obtain rfl : k = r.sets.length := by omega
      have H := hset.out
      rw [List.take_of_length_le (by simp)] at H
      have H2 := Lib.hid (show ybv r n = true by rw [H0.out, H])
      clear H
      go_wp2_with fail
      go_ret
      exact ⟨yal H2.out.symm, hbw⟩
end Go.Proofs.YtmlkdoimkdbdpaaGreatDoor
set_option linter.unusedVariables false
set_option maxRecDepth 100000
namespace Go.Proofs.YtmlkdoimkdbdpaaGreatDoor
open Go.RowKit

theorem wpList_append_row {P : Program} (w : World) {ops : Array Oper} {rest : List Oper} {o : Oper} {a : Act} {Q : Exit → Act → World → Prop} (hgd : o.guard = none) (s x : Operand) (t : TypeId)
    (ho : o.op = .call { callee := .builtin .append, args := #[s, x], argTypes := #[t, t] })
    (base : Nat) (e : TypeId) (i : TypeInfo) (z : Value) (size bytes : Nat) (ht : P.underlying t = some (.slice e)) (hi : P.info? e = some i) (hz : i.zero = some z)
    (hsize : i.size = size) (hby : i.bytes = bytes) (hzs : z.cells.size = size) (hsz : 0 < size)
    (v : Value) (n : Nat) (xs : List Value) (hs : a.eval s = v) (hown : w.ownsRow base e size v n xs)
    (sv : Value) (m : Nat) (news : List Value) (hx : a.eval x = sv) (hrow : Row w sv size m news) (h1 : ∀ u ∈ news, u.oneCell' = true)
    (h63 : n + m ≤ maxLen) (hbytes : (n + m) * bytes ≤ 140737488355328) (hbase : base ≤ w.heap.size)
    (h : ∀ v' w', w'.ownsRow base e size v' (n + m) (xs ++ news) → w.grownBy w' v.ownBlock → wpList P ops Q rest (a.put o.dst v') w') : wpList P ops Q (o :: rest) a w := by
  obtain ⟨ao, cap, rfl, h2, h3, h4, h5, h6⟩ := hrow
  cases ao with
  | none =>
    have hc := h5 rfl
    subst hc
    have hm : m = 0 := by omega
    subst hm
    have hn : news = [] := List.length_eq_zero_iff.1 (by simpa using h4)
    subst hn
    refine wpList_append_own_none hgd s x t ho base e i size ht hi v n xs hs hown hx (h v w ?_ ⟨rfl, rfl, rfl, Nat.le_refl _, fun _ _ _ => rfl⟩)
    simpa using hown
  | some ad =>
    refine wpList_append_own w hgd s x t ho base e i z size bytes ht hi hz hsize hby hzs hsz v n xs hs hown ad m cap news hx h4 ?_ h1 h63 hbytes hbase (fun v' w' h7 h8 _ => h v' w' h7 h8)
    intro j u hu
    rcases h6 with rfl | ⟨g, off, ha, _, hc⟩
    · have : news = [] := List.length_eq_zero_iff.1 (by simpa using h4)
      subst this
      simp at hu
    · cases ha
      have hadd : (⟨g, off, none⟩ : Addr).add j = ⟨g, off + j, none⟩ := by unfold Addr.add; split <;> simp_all
      rw [hadd]
      exact hc j u hu

end Go.Proofs.YtmlkdoimkdbdpaaGreatDoor
set_option linter.unusedVariables false
set_option maxRecDepth 100000
namespace Go.Proofs.YtmlkdoimkdbdpaaGreatDoor
open Go.RowKit Go.Maps

def kmix (ks : List Int) (k : Nat) : List Int := ks.take k ++ List.replicate (ks.length - k) 0
theorem kmix_zero (ks : List Int) : kmix ks 0 = List.replicate ks.length 0 := by simp [kmix]
theorem kmix_all (ks : List Int) : kmix ks ks.length = ks := by simp [kmix]
theorem kmix_length (ks : List Int) (k : Nat) (h : k ≤ ks.length) : (kmix ks k).length = ks.length := by simp [kmix]; omega
theorem kmix_step (ks : List Int) (k : Nat) (h : k < ks.length) : (kmix ks k).set k ks[k] = kmix ks (k + 1) := by
  unfold kmix
  rw [List.set_append_right _ _ (by simp; omega), List.take_succ_eq_append_getElem h, List.append_assoc]
  congr 1
  rw [List.length_take, Nat.min_eq_left (Nat.le_of_lt h), Nat.sub_self, show ks.length - k = (ks.length - (k + 1)) + 1 by omega, List.replicate_succ]
  rfl
theorem made_ints (n : Nat) : (madeCells (Value.int .i64 0).cells (n * 1)).toList = (List.replicate n (0 : Int)).map (.int .i64) := by
  apply List.ext_getElem
  · simp [size_madeCells]
  · intro i h1 h2
    simp [madeCells, Value.cells, Nat.mod_one]
set_option maxHeartbeats 8000000 in
theorem kinds_any (v : Value) (p : ProgD) (w : World) (hv : yfe w v p) (h6 : p.vars.length ≤ 1000) :
    Calls Tryz.prog 78 #[v] w fun e w' => ∃ kv, e = .returned kv ∧ Ints .i64 w' kv (ybq p) ∧ Below w.heap.size w w' := by
  obtain ⟨vv, rv, rfl, hvv, hrv⟩ := hv
  obtain ⟨a0, cap0, rfl, i1, i2, i3⟩ := hvv.open
  obtain ⟨a1, cap1, rfl, _, _, _⟩ := hrv.open
  have HVC := Lib.hid i3
  obtain ⟨i0, hi, hz0, hz1, hz2⟩ := info_parts infoInt
  have Hi := Lib.hid hi
  have Hz0 := Lib.hid hz0
  have Hz1 := Lib.hid hz1
  have Hz2 := Lib.hid hz2
  have HKL := Lib.hid (show (ybq p).length = p.vars.length by simp [ybq])
  clear hi hz0 hz1 hz2 i3 hvv hrv
  go_enter Tryz.func78, Tryz.ntmps78
  go_wp2_with (at_make; refine wpList_make_full _ rfl _ _ 26 rfl (w.heap.size + 1) 3 i0 (.int .i64 0) 1 Tryz.underlying26 Hi.out Hz0.out Hz1.out .i64 .i64 _ _ p.vars.length rfl rfl rfl rfl (by rw [Hz2.out]; omega) (by unfold maxLen; omega) (by simp) ?_; intro w1 hown hgrow; have hb1 : Below (w.heap.size + 1) (w.alloc (.cells #[.string p.name, .slice a0 p.vars.length cap0, .slice a1 p.rules.length cap1] 25)) w1 := (Below.refl _ _).grown hgrow (by simp) (by simp); have hbox := ycm hb1 1; simp at hbox)
  have HM := Lib.hid (show (w1.ownsRow (w.heap.size + 1) 3 1 (.slice (some ⟨w.heap.size + 1, 0, none⟩) p.vars.length p.vars.length) p.vars.length ((kmix (ybq p) 0).map (.int .i64))) by
    rw [made_ints, ← HKL.out, ← kmix_zero] at hown
    rw [HKL.out] at hown
    simpa using hown)
  clear hown hgrow hbox
  go_loopw [4, 5, 13] (fun _ _ i wr => ∃ k : Nat, k ≤ p.vars.length ∧ i = .int .i64 k ∧ Hid (wr.ownsRow (w.heap.size + 1) 3 1 (.slice (some ⟨w.heap.size + 1, 0, none⟩) p.vars.length p.vars.length) p.vars.length ((kmix (ybq p) k).map (.int .i64))) ∧ Hid (Below (w.heap.size + 1) (w.alloc (.cells #[.string p.name, .slice a0 p.vars.length cap0, .slice a1 p.rules.length cap1] 25)) wr)) (fun _ _ i _ => p.vars.length - (intOf i).toNat)
  case atStart => exact ⟨0, by omega, rfl, HM, hb1⟩
  case round =>
    clear HM hb1
    obtain ⟨k, hk, rfl, hown, hbel⟩ := hrel
    have hbw := ybd hbel.out
    have hbs := ycd hbel.out
    by_cases hlt : k < p.vars.length
    · obtain ⟨g, o, rfl, hg, hc⟩ := HVC.out (by omega)
      obtain ⟨x, hx⟩ : ∃ x, p.vars[k]? = some x := ⟨_, List.getElem?_eq_getElem hlt⟩
      obtain ⟨c0, c1, c2, c3, c4, c5⟩ := hc k x hx
      rw [← hbw.cell (p := ⟨g, _, none⟩) hg] at c0 c1 c2 c3 c4 c5
      have hlk : k < (ybq p).length := by rw [HKL.out]; exact hlt
      have hkx : (ybq p)[k] = x.kind := by
        obtain ⟨_, h2⟩ := List.getElem?_eq_some_iff.1 hx
        simp [ybq, h2]
      have HST := Lib.hid (show ((kmix (ybq p) k).map (Value.int .i64)).set k (.int .i64 x.kind) = (kmix (ybq p) (k + 1)).map (.int .i64) by rw [← kmix_step _ k hlk, hkx, List.map_set])
      have hoa := hown.out.alloc (.cells #[.string x.name, .int .i64 x.kind, .int .i64 x.lo, .int .i64 x.hi, .int .i64 x.perNode, .int .i64 x.perID] 60)
      obtain ⟨u, hu⟩ : ∃ u, (wr.alloc (.cells #[.string x.name, .int .i64 x.kind, .int .i64 x.lo, .int .i64 x.hi, .int .i64 x.perNode, .int .i64 x.perID] 60)).cell? ⟨w.heap.size + 1, k, none⟩ = some u := ⟨_, (hoa.cellAt k (by omega)).trans (List.getElem?_eq_getElem (by rw [List.length_map, kmix_length _ _ (by omega)]; exact hlk))⟩
      have hfz := hoa.frozenAt k
      have HOA := Lib.hid hoa
      have hlt1 : w.heap.size + 1 < wr.heap.size := (hown.out.lt _ rfl).2
      have hne1 : wr.heap.size ≠ w.heap.size + 1 := by omega
      clear hc hx hkx hoa
      go_wp2_with fail
      refine ⟨⟨k + 1, by omega, by go_num, ?_, ?_⟩, by simp [intOf]; omega⟩
      · have := (hown.out.stored k (.int .i64 x.kind)).1
        rw [HST.out] at this
        exact this.alloc _
      · exact (hbel.out.setCell (Nat.le_refl _) _).alloc (by simp; omega) _
    · obtain rfl : k = p.vars.length := by omega
      have HR : Hid (Ints .i64 wr (.slice (some ⟨w.heap.size + 1, 0, none⟩) p.vars.length p.vars.length) (ybq p)) := by
        have h1 := row_of_own hown.out
        rw [← HKL.out, kmix_all] at h1
        unfold Hid Ints
        rw [HKL.out] at *
        exact h1
      go_wp2_with fail
      go_ret
      exact ⟨_, rfl, HR.out, hbw⟩
end Go.Proofs.YtmlkdoimkdbdpaaGreatDoor
set_option linter.unusedVariables false
set_option maxRecDepth 100000
namespace Go.Proofs.YtmlkdoimkdbdpaaGreatDoor
open Go.RowKit Go.Maps

set_option maxHeartbeats 8000000 in
theorem rkinds_any (v : Value) (p : ProgD) (w : World) (hv : yfe w v p) (h6 : p.vars.length ≤ 1000) :
    Calls Tryz.prog 89 #[v] w fun e w' => ∃ kv, e = .returned kv ∧ Ints .i64 w' kv (ybq p) ∧ Below w.heap.size w w' := by
  obtain ⟨vv, rv, rfl, hvv, hrv⟩ := hv
  obtain ⟨a0, cap0, rfl, i1, i2, i3⟩ := hvv.open
  obtain ⟨a1, cap1, rfl, _, _, _⟩ := hrv.open
  have HVC := Lib.hid i3
  obtain ⟨i0, hi, hz0, hz1, hz2⟩ := info_parts infoInt
  have Hi := Lib.hid hi
  have Hz0 := Lib.hid hz0
  have Hz1 := Lib.hid hz1
  have Hz2 := Lib.hid hz2
  have HKL := Lib.hid (show (ybq p).length = p.vars.length by simp [ybq])
  clear hi hz0 hz1 hz2 i3 hvv hrv
  go_enter Tryz.func89, Tryz.ntmps89
  go_wp2_with fail
  go_loopw [3, 4] (fun v i wr => ∃ k : Nat, k ≤ p.vars.length ∧ i = .int .i64 k ∧ Hid (wr.ownsRow (w.heap.size + 1) 3 1 v k (((ybq p).take k).map (.int .i64))) ∧ Hid (Below (w.heap.size + 1) (w.alloc (.cells #[.string p.name, .slice a0 p.vars.length cap0, .slice a1 p.rules.length cap1] 25)) wr)) (fun _ i _ => p.vars.length - (intOf i).toNat)
  case atStart => exact ⟨0, by omega, rfl, World.ownsRow_nil _ _ _ _, Below.refl _ _⟩
  case round =>
    obtain ⟨k, hk, rfl, hown, hbel⟩ := hrel
    have hbw := ybd hbel.out
    have hbs := ycd hbel.out
    have hbox := ycm hbel.out 1
    simp at hbox
    by_cases hlt : k < p.vars.length
    · obtain ⟨g, o, rfl, hg, hc⟩ := HVC.out (by omega)
      obtain ⟨x, hx⟩ : ∃ x, p.vars[k]? = some x := ⟨_, List.getElem?_eq_getElem hlt⟩
      obtain ⟨_, c1, _, _, _, _⟩ := hc k x hx
      rw [← hbw.cell (p := ⟨g, _, none⟩) hg] at c1
      have HST := Lib.hid (show ((ybq p).take k).map (Value.int .i64) ++ [.int .i64 x.kind] = ((ybq p).take (k + 1)).map (.int .i64) by
        obtain ⟨_, h2⟩ := List.getElem?_eq_some_iff.1 hx
        rw [List.take_succ_eq_append_getElem (show k < (ybq p).length by rw [HKL.out]; exact hlt), List.map_append]
        simp [ybq, h2])
      have hlt0 : w.heap.size < wr.heap.size := by omega
      clear hc hx
      go_wp2_with (at_builtin; refine wpList_append_row _ rfl _ _ 26 rfl (w.heap.size + 1) 3 i0 (.int .i64 0) 1 8 Tryz.underlying26 Hi.out Hz0.out Hz1.out Hz2.out rfl (by decide) _ k _ rfl (hown.out.alloc _) _ 1 [.int .i64 x.kind] rfl (row_alloc wr [.int .i64 x.kind] _ 1 1 (by omega) rfl) (by simp [Value.oneCell']) (by unfold maxLen; omega) (by omega) (by simp; omega) ?_; intro v2 w2 hown2 hgrow)
      refine ⟨⟨k + 1, by omega, by go_num, ?_, ?_⟩, by simp [intOf]; omega⟩
      · rw [HST.out] at hown2; exact hown2
      · exact (hbel.out.alloc hbs _).grown hgrow (by simp; omega) (own_ge hown.out)
    · obtain rfl : k = p.vars.length := by omega
      have HR : Hid (Ints .i64 wr u3 (ybq p)) := by
        have h1 := row_of_own hown.out
        rw [List.take_of_length_le (by rw [HKL.out]; omega)] at h1
        unfold Hid Ints
        rw [HKL.out]
        exact h1
      go_wp2_with fail
      go_ret
      exact ⟨_, rfl, HR.out, hbw⟩

theorem typed_end {r : RuleD} {kinds : List Int} (h : ((ofF r.guard kinds false).1 == 2) = true) : yep r kinds = r.sets.all (fun s => (ofF s.val kinds false).1 == kinds.getD s.var.toNat 0) := by unfold yep; rw [h]; rfl

set_option maxHeartbeats 8000000 in
theorem typed_any (gv sv kv : Value) (r : RuleD) (kinds : List Int) (w : World) (hg : ycu w gv r.guard) (hs : Seq (SetOk w) 2 w sv r.sets) (hk : Ints .i64 w kv kinds) (hl : LightR r) (hvar : ∀ s ∈ r.sets, 0 ≤ s.var ∧ s.var < kinds.length) :
    Calls Tryz.prog 79 #[.agg #[.string r.name, gv, sv], kv] w fun e w' => e = .returned (.bool (yep r kinds)) ∧ Below w.heap.size w w' := by
  obtain ⟨hl1, hl2, hl3⟩ := hl
  have HL := Lib.hid hl3
  have HG := Lib.hid hg
  have HK := Lib.hid hk
  have HVAR := Lib.hid hvar
  obtain ⟨ga, gcap, rfl, g1, g2, g3⟩ := hg.open
  obtain ⟨sa, scap, rfl, s1, s2, s3⟩ := yem hs
  obtain ⟨ka, kcap, rfl, k1, k2, _, k4⟩ := hk.open
  have HC := Lib.hid s3
  have HKC := Lib.hid k4
  clear hl3 g3 s3 hs hg k4 hk hvar
  obtain ⟨ta, tb, hab⟩ : ∃ a b, ofF r.guard kinds false = (a, b) := ⟨_, _, rfl⟩
  have HAB := Lib.hid hab
  have HT1 : Hid ((ofF r.guard kinds false).1 = ta) := by rw [hab]; rfl
  clear hab
  have hbA : Below w.heap.size w (w.alloc (.cells #[.string r.name, .slice ga r.guard.length gcap, .slice sa r.sets.length scap] 78)) := (Below.refl _ _).alloc (Nat.le_refl _) _
  by_cases h2 : ta = 2
  rotate_left
  · have b2 : (ta != 2) = true := by simp [h2]
    have H := Lib.hid (show yep r kinds = false by unfold yep; rw [HT1.out, show (ta == 2) = false by simpa using h2]; rfl)
    go_enter Tryz.func79, Tryz.ntmps79
    go_wp2_with fail
    refine (of_is _ _ r.guard kinds false ta tb _ (by omega) (HG.out.below hbA) (HK.out.below hbA) HAB.out).mono ?_
    rintro e w1 ⟨rfl, hb1⟩
    go_wp2_with fail
    go_ret
    exact ⟨yal H.out.symm, ybd (by simpa using hb1)⟩
  have b2 : (ta != 2) = false := by simp [h2]
  have H0 := Lib.hid (typed_end (r := r) (kinds := kinds) (by rw [HT1.out, h2]; rfl))
  clear h2
  go_enter Tryz.func79, Tryz.ntmps79
  go_wp2_with fail
  refine (of_is _ _ r.guard kinds false ta tb _ (by omega) (HG.out.below hbA) (HK.out.below hbA) HAB.out).mono ?_
  rintro e w1 ⟨rfl, hb1'⟩
  have hb1 : Below (w.heap.size + 1) (w.alloc (.cells #[.string r.name, .slice ga r.guard.length gcap, .slice sa r.sets.length scap] 78)) w1 := by simpa using hb1'
  have hbox := ycm hb1 2
  simp at hbox
  clear hb1'
  go_wp2_with fail
  clear hbox
  go_loopw [8, 9, 10, 23] (fun _ _ _ i wr => ∃ k : Nat, k ≤ r.sets.length ∧ i = .int .i64 k ∧ Hid ((r.sets.take k).all (fun s => (ofF s.val kinds false).1 == kinds.getD s.var.toNat 0) = true) ∧ Hid (Below (w.heap.size + 1) (w.alloc (.cells #[.string r.name, .slice ga r.guard.length gcap, .slice sa r.sets.length scap] 78)) wr)) (fun _ _ _ i _ => r.sets.length - (intOf i).toNat)
  case atStart => exact ⟨0, by omega, rfl, rfl, hb1⟩
  case round =>
    clear hb1
    obtain ⟨k, hk, rfl, hall, hbel⟩ := hrel
    have hbw := ybd hbel.out
    have hbs := ycd hbel.out
    by_cases hlt : k < r.sets.length
    · obtain ⟨g, o, rfl, hg, hc⟩ := HC.out (by omega)
      obtain ⟨x, hx⟩ : ∃ x, r.sets[k]? = some x := ⟨_, List.getElem?_eq_getElem hlt⟩
      obtain ⟨tv, ht, c0, c1⟩ := hc k x hx
      have HT := Lib.hid ht
      obtain ⟨xa, xcap, rfl, _, _, _⟩ := ht.open
      rw [← hbw.cell (p := ⟨g, _, none⟩) hg] at c0 c1
      have HGX : Hid (r.sets[k] = x) := (List.getElem?_eq_some_iff.1 hx).2
      have hxl := HL.out x (List.mem_of_getElem? hx)
      obtain ⟨v0, v1⟩ := HVAR.out x (List.mem_of_getElem? hx)
      obtain ⟨q, hq⟩ := Int.eq_ofNat_of_zero_le v0
      obtain ⟨kg, ko, rfl, hkg, hkc⟩ := HKC.out (by omega)
      obtain ⟨z, hz⟩ : ∃ z, kinds.getD q 0 = z := ⟨_, rfl⟩
      have hkz := hkc q z (by rw [getD_of kinds q (by omega), hz])
      obtain ⟨sa1, sb1, hsab⟩ : ∃ a b, ofF x.val kinds false = (a, b) := ⟨_, _, rfl⟩
      have HSAB := Lib.hid hsab
      have HEQ : Hid (((ofF x.val kinds false).1 == kinds.getD x.var.toNat 0) = (sa1 == z)) := by unfold Hid; rw [hsab, hq, Int.toNat_natCast, hz]
      have hql : q < kinds.length := by omega
      rw [hq] at c0
      have HKZ := Lib.hid hkz
      have HQ := Lib.hid hq
      clear hc ht hx hkc hz hsab v0 v1 hkz hq
      by_cases he : sa1 = z
      · have b3 : (sa1 != z) = false := by simp [he]
        have HST := Lib.hid (yfg (f := fun s : SetD => (ofF s.val kinds false).1 == kinds.getD s.var.toNat 0) k hlt hall.out (by rw [HGX.out, HEQ.out]; simpa using he))
        clear he
        go_wp2_with fail
        refine (of_is _ _ x.val kinds false sa1 sb1 _ (by omega) (HT.out.below (hbw.alloc (by omega) _)) (HK.out.below (hbw.alloc (by omega) _)) HSAB.out).mono ?_
        rintro e w2 ⟨rfl, hb2'⟩
        have hb2 : Below (wr.heap.size + 1) (wr.alloc (.cells #[.int .i64 (q : Int), .slice xa x.val.length xcap] 81)) w2 := by simpa using hb2'
        have hbx := ycm hb2 0
        simp at hbx
        have hb02 := ydn hbw (ybd hb2)
        have hkz := HKZ.out
        rw [← hb02.cell (p := ⟨kg, _, none⟩) hkg] at hkz
        clear hb2'
        go_wp2_with fail
        exact ⟨⟨k + 1, by omega, by go_num, HST, hbel.out.trans ((ybd hb2).mono hbs)⟩, by simp [intOf]; omega⟩
      · have b3 : (sa1 != z) = true := by simp [he]
        have H := Lib.hid (show yep r kinds = false by rw [H0.out, yff k hlt (by rw [HGX.out, HEQ.out]; simpa using he)])
        clear he
        go_wp2_with fail
        refine (of_is _ _ x.val kinds false sa1 sb1 _ (by omega) (HT.out.below (hbw.alloc (by omega) _)) (HK.out.below (hbw.alloc (by omega) _)) HSAB.out).mono ?_
        rintro e w2 ⟨rfl, hb2'⟩
        have hb2 : Below (wr.heap.size + 1) (wr.alloc (.cells #[.int .i64 (q : Int), .slice xa x.val.length xcap] 81)) w2 := by simpa using hb2'
        have hbx := ycm hb2 0
        simp at hbx
        have hb02 := ydn hbw (ybd hb2)
        have hkz := HKZ.out
        rw [← hb02.cell (p := ⟨kg, _, none⟩) hkg] at hkz
        clear hb2'
        go_wp2_with fail
        go_ret
        exact ⟨yal H.out.symm, hb02⟩
    · obtain rfl : k = r.sets.length := by omega
      have H2 := Lib.hid (show yep r kinds = true by rw [H0.out, all_end hall.out])
      go_wp2_with fail
      go_ret
      exact ⟨yal H2.out.symm, hbw⟩
end Go.Proofs.YtmlkdoimkdbdpaaGreatDoor
set_option linter.unusedVariables false
set_option maxRecDepth 100000
namespace Go.Proofs.YtmlkdoimkdbdpaaGreatDoor
open Go.RowKit Go.Maps

theorem ofF_ty {l : List Tm} {kinds : List Int} {bound : Bool} (h6 : ¬ 6 < kinds.length) (hk : kindsB kinds = true) (hv : ydc l kinds.length = true) : ∃ E, yeb l = some E ∧ E.ok ∧ E.fl = l ∧ (∀ t ∈ l, argB kinds.length t = true) ∧ (ofF l kinds bound).1 = ty kinds bound E := by
  obtain ⟨E, hp, ho, hf, _, ha, _, _⟩ := valid_parse hv
  refine ⟨E, hp, ho, hf, List.all_eq_true.1 ha, ?_⟩
  rw [ofF_ok l kinds bound E h6 hk hv hp]
  split
  · rename_i h; rw [h]
  · rfl
theorem kind_is (ev kv : Value) (l : List Tm) (kinds : List Int) (bound : Bool) (a : Int) (w : World) (hl : l.length ≤ 1000) (h6 : ¬ 6 < kinds.length) (hkk : kindsB kinds = true) (hv : ydc l kinds.length = true) (ha : (ofF l kinds bound).1 = a) (ht : ycu w ev l) (hk : Ints .i64 w kv kinds) :
    Calls Tryz.prog 106 #[ev, .int .i64 0, kv, .bool bound] w fun e w' => e = .returned (.int .i64 a) ∧ Below w.heap.size w w' := by
  obtain ⟨E, _, ho, hf, harg, he⟩ := ofF_ty (bound := bound) h6 hkk hv
  exact (kind0 ev kv l kinds bound E w hl ho harg hf ht hk).mono fun e w' ⟨h1, h2⟩ => ⟨by rw [h1, ← he, ha], h2⟩

set_option maxHeartbeats 8000000 in
theorem rtyped_any (gv sv kv : Value) (r : RuleD) (kinds : List Int) (w : World) (hg : ycu w gv r.guard) (hs : Seq (SetOk w) 2 w sv r.sets) (hk : Ints .i64 w kv kinds) (hl : LightR r) (h6 : ¬ 6 < kinds.length) (hkk : kindsB kinds = true) (hform : ybv r kinds.length = true) :
    Calls Tryz.prog 88 #[.agg #[.string r.name, gv, sv], kv] w fun e w' => e = .returned (.bool (yep r kinds)) ∧ Below w.heap.size w w' := by
  obtain ⟨hl1, hl2, hl3⟩ := hl
  have hform' := hform
  rw [formedB_eq] at hform'
  simp only [Bool.and_eq_true, setsB, List.all_eq_true, setB, ycf, decide_eq_true_eq] at hform'
  obtain ⟨_, _, hvg, hvs, _⟩ := hform'
  have HVG := Lib.hid hvg
  have HVS := Lib.hid hvs
  have HKK := Lib.hid hkk
  have H6 := Lib.hid h6
  have HL := Lib.hid hl3
  have HG := Lib.hid hg
  have HK := Lib.hid hk
  obtain ⟨ga, gcap, rfl, g1, g2, g3⟩ := hg.open
  obtain ⟨sa, scap, rfl, s1, s2, s3⟩ := yem hs
  obtain ⟨ka, kcap, rfl, k1, k2, _, k4⟩ := hk.open
  have HC := Lib.hid s3
  have HKC := Lib.hid k4
  clear hl3 g3 s3 hs hg k4 hk hvg hvs hform hkk h6
  obtain ⟨ta, hta⟩ : ∃ a, (ofF r.guard kinds false).1 = a := ⟨_, rfl⟩
  have HT1 := Lib.hid hta
  clear hta
  have hbA : Below w.heap.size w (w.alloc (.cells #[.string r.name, .slice ga r.guard.length gcap, .slice sa r.sets.length scap] 78)) := (Below.refl _ _).alloc (Nat.le_refl _) _
  by_cases h2 : ta = 2
  rotate_left
  · have b2 : (ta != 2) = true := by simp [h2]
    have H := Lib.hid (show yep r kinds = false by unfold yep; rw [HT1.out, show (ta == 2) = false by simpa using h2]; rfl)
    go_enter Tryz.func88, Tryz.ntmps88
    go_wp2_with fail
    refine (kind_is _ _ r.guard kinds false ta _ (by omega) H6.out HKK.out HVG.out HT1.out (HG.out.below hbA) (HK.out.below hbA)).mono ?_
    rintro e w1 ⟨rfl, hb1⟩
    go_wp2_with fail
    go_ret
    exact ⟨yal H.out.symm, ybd (by simpa using hb1)⟩
  have b2 : (ta != 2) = false := by simp [h2]
  have H0 := Lib.hid (typed_end (r := r) (kinds := kinds) (by rw [HT1.out, h2]; rfl))
  clear h2
  go_enter Tryz.func88, Tryz.ntmps88
  go_wp2_with fail
  refine (kind_is _ _ r.guard kinds false ta _ (by omega) H6.out HKK.out HVG.out HT1.out (HG.out.below hbA) (HK.out.below hbA)).mono ?_
  rintro e w1 ⟨rfl, hb1'⟩
  have hb1 : Below (w.heap.size + 1) (w.alloc (.cells #[.string r.name, .slice ga r.guard.length gcap, .slice sa r.sets.length scap] 78)) w1 := by simpa using hb1'
  clear hb1'
  go_wp2_with fail
  go_loopw [5] (fun i wr => ∃ k : Nat, k ≤ r.sets.length ∧ i = .int .i64 k ∧ Hid ((r.sets.take k).all (fun s => (ofF s.val kinds false).1 == kinds.getD s.var.toNat 0) = true) ∧ Hid (Below (w.heap.size + 1) (w.alloc (.cells #[.string r.name, .slice ga r.guard.length gcap, .slice sa r.sets.length scap] 78)) wr)) (fun i _ => r.sets.length - (intOf i).toNat)
  case atStart => exact ⟨0, by omega, rfl, rfl, hb1⟩
  case round =>
    clear hb1
    obtain ⟨k, hk, rfl, hall, hbel⟩ := hrel
    have hbw := ybd hbel.out
    have hbs := ycd hbel.out
    have hbox := ycm hbel.out 2
    simp at hbox
    by_cases hlt : k < r.sets.length
    · obtain ⟨g, o, rfl, hg, hc⟩ := HC.out (by omega)
      obtain ⟨x, hx⟩ : ∃ x, r.sets[k]? = some x := ⟨_, List.getElem?_eq_getElem hlt⟩
      obtain ⟨tv, ht, c0, c1⟩ := hc k x hx
      have HT := Lib.hid ht
      obtain ⟨xa, xcap, rfl, _, _, _⟩ := ht.open
      rw [← hbw.cell (p := ⟨g, _, none⟩) hg] at c0 c1
      have HGX : Hid (r.sets[k] = x) := (List.getElem?_eq_some_iff.1 hx).2
      have hxl := HL.out x (List.mem_of_getElem? hx)
      obtain ⟨⟨v0, v1⟩, hvx⟩ := HVS.out x (List.mem_of_getElem? hx)
      have HVX := Lib.hid hvx
      obtain ⟨q, hq⟩ := Int.eq_ofNat_of_zero_le v0
      obtain ⟨kg, ko, rfl, hkg, hkc⟩ := HKC.out (by omega)
      obtain ⟨z, hz⟩ : ∃ z, kinds.getD q 0 = z := ⟨_, rfl⟩
      have hkz := hkc q z (by rw [getD_of kinds q (by omega), hz])
      rw [← hbw.cell (p := ⟨kg, _, none⟩) hkg] at hkz
      obtain ⟨sa1, hsab⟩ : ∃ a, (ofF x.val kinds false).1 = a := ⟨_, rfl⟩
      have HSAB := Lib.hid hsab
      have HEQ : Hid (((ofF x.val kinds false).1 == kinds.getD x.var.toNat 0) = (sa1 == z)) := by unfold Hid; rw [hsab, hq, Int.toNat_natCast, hz]
      have hql : q < kinds.length := by omega
      rw [hq] at c0
      have iq0 : (0 : Int) ≤ (q : Int) := by omega
      have iq1 : (q : Int) < (kinds.length : Int) := by omega
      have ik0 : (0 : Int) ≤ (k : Int) := by omega
      have ik1 : (k : Int) < (r.sets.length : Int) := by omega
      clear hc ht hx hkc hz hsab v0 v1 hq hvx
      have hlt0 : w.heap.size < wr.heap.size := by omega
      have SA : wr.cell? ⟨w.heap.size, 2, none⟩ = some (.slice (some ⟨g, o, none⟩) r.sets.length scap) ∧ wr.cell? ⟨g, o + k * 2, none⟩ = some (.int .i64 (q : Int)) ∧ wr.cell? ⟨g, o + k * 2 + 1, none⟩ = some (.slice xa x.val.length xcap) ∧ wr.cell? ⟨kg, ko + q, none⟩ = some (.int .i64 z) := ⟨hbox, c0, c1, hkz⟩
      have hg2 : g < wr.heap.size := by omega
      have hkg2 : kg < wr.heap.size := by omega
      by_cases he : sa1 = z
      · have b3 : (sa1 != z) = false := by simp [he]
        have HST := Lib.hid (yfg (f := fun s : SetD => (ofF s.val kinds false).1 == kinds.getD s.var.toNat 0) k hlt hall.out (by rw [HGX.out, HEQ.out]; simpa using he))
        clear he
        go_wp2_with fail
        go_region_held3 (fun w' => w'.cell? ⟨w.heap.size, 2, none⟩ = some (.slice (some ⟨g, o, none⟩) r.sets.length scap) ∧ w'.cell? ⟨g, o + k * 2, none⟩ = some (.int .i64 (q : Int)) ∧ w'.cell? ⟨g, o + k * 2 + 1, none⟩ = some (.slice xa x.val.length xcap) ∧ w'.cell? ⟨kg, ko + q, none⟩ = some (.int .i64 z)) (first | exact SB | exact SA)
          (first | (go_at_call 106; refine (kind_is _ _ x.val kinds false sa1 _ (by omega) H6.out HKK.out HVX.out HSAB.out (HT.out.below (by exact hbw.drew)) (HK.out.below (by exact hbw.drew))).mono ?_; rintro e w2 ⟨rfl, hb2⟩; have SB : w2.cell? ⟨w.heap.size, 2, none⟩ = some (.slice (some ⟨g, o, none⟩) r.sets.length scap) ∧ w2.cell? ⟨g, o + k * 2, none⟩ = some (.int .i64 (q : Int)) ∧ w2.cell? ⟨g, o + k * 2 + 1, none⟩ = some (.slice xa x.val.length xcap) ∧ w2.cell? ⟨kg, ko + q, none⟩ = some (.int .i64 z) := ⟨(hb2.cell (p := ⟨_, _, none⟩) hlt0).trans hbox, (hb2.cell (p := ⟨_, _, none⟩) hg2).trans c0, (hb2.cell (p := ⟨_, _, none⟩) hg2).trans c1, (hb2.cell (p := ⟨_, _, none⟩) hkg2).trans hkz⟩))
        go_wp2_with fail
        exact ⟨⟨k + 1, by omega, by go_num, HST, hbel.out.drew.trans (hb2.mono (by simpa using hbs))⟩, by simp [intOf]; omega⟩
      · have b3 : (sa1 != z) = true := by simp [he]
        have H := Lib.hid (show yep r kinds = false by rw [H0.out, yff k hlt (by rw [HGX.out, HEQ.out]; simpa using he)])
        clear he
        go_wp2_with fail
        go_region_held3 (fun w' => w'.cell? ⟨w.heap.size, 2, none⟩ = some (.slice (some ⟨g, o, none⟩) r.sets.length scap) ∧ w'.cell? ⟨g, o + k * 2, none⟩ = some (.int .i64 (q : Int)) ∧ w'.cell? ⟨g, o + k * 2 + 1, none⟩ = some (.slice xa x.val.length xcap) ∧ w'.cell? ⟨kg, ko + q, none⟩ = some (.int .i64 z)) (first | exact SB | exact SA)
          (first | (go_at_call 106; refine (kind_is _ _ x.val kinds false sa1 _ (by omega) H6.out HKK.out HVX.out HSAB.out (HT.out.below (by exact hbw.drew)) (HK.out.below (by exact hbw.drew))).mono ?_; rintro e w2 ⟨rfl, hb2⟩; have SB : w2.cell? ⟨w.heap.size, 2, none⟩ = some (.slice (some ⟨g, o, none⟩) r.sets.length scap) ∧ w2.cell? ⟨g, o + k * 2, none⟩ = some (.int .i64 (q : Int)) ∧ w2.cell? ⟨g, o + k * 2 + 1, none⟩ = some (.slice xa x.val.length xcap) ∧ w2.cell? ⟨kg, ko + q, none⟩ = some (.int .i64 z) := ⟨(hb2.cell (p := ⟨_, _, none⟩) hlt0).trans hbox, (hb2.cell (p := ⟨_, _, none⟩) hg2).trans c0, (hb2.cell (p := ⟨_, _, none⟩) hg2).trans c1, (hb2.cell (p := ⟨_, _, none⟩) hkg2).trans hkz⟩))
        go_wp2_with fail
        go_ret
        exact ⟨yal H.out.symm, ydn hbw.drew hb2⟩
    · obtain rfl : k = r.sets.length := by omega
      have H2 := Lib.hid (show yep r kinds = true by rw [H0.out, all_end hall.out])
      go_wp2_with fail
      go_ret
      exact ⟨yal H2.out.symm, hbw⟩
end Go.Proofs.YtmlkdoimkdbdpaaGreatDoor
