/- The walks over named, of the program and of the reference. -/
import Derived.Test.YtogennegbihceaaCheckMath
import Derived.Test.YtogennegbihceaaMap
import Derived.StringKeys
import Derived.Deep.QuietTactic
import Derived.BigQuiet
set_option linter.unusedVariables false
set_option maxRecDepth 100000
namespace Go.Proofs.Ytogennegbihceaa
open Go.RowKit Go.Maps

theorem keyedString : Keyed Try.prog 9 := string_keyed Try.underlying9
theorem zeroBool (w : World) : (zeroValue 4).run Try.prog w = .ok (.bool false) w := by kernel_rfl
theorem keyString (s : ByteArray) (h : s.size ≤ 9223372036854775807) : keyOf Try.prog 9 (.string s) = some (.string (nkey s)) := WideMaps.keyOf_string_mk Try.underlying9 (by unfold maxLen; omega)
/-- A block that a call laid first reads as it was laid. -/
theorem box_at {w wr : World} {xs : Array Value} {T : TypeId} (hb : Below (w.heap.size + 1) (w.alloc (.cells xs T)) wr) (j : Nat) : wr.cell? ⟨w.heap.size, j, none⟩ = xs[j]? := by
  rw [hb.cell (p := ⟨w.heap.size, j, none⟩) (by simp)]
  have h1 : (w.alloc (.cells xs T)).heap[w.heap.size]? = some (.cells xs T) := heap_alloc_new w _
  unfold World.cell?
  simp only [h1]
  simp
theorem box_below {w wr : World} {xs : Array Value} {T : TypeId} (hb : Below (w.heap.size + 1) (w.alloc (.cells xs T)) wr) : Below w.heap.size w wr :=
  ((Below.refl _ _).alloc (Nat.le_refl _) _).trans (hb.mono (by omega))
theorem box_size {w wr : World} {xs : Array Value} {T : TypeId} (hb : Below (w.heap.size + 1) (w.alloc (.cells xs T)) wr) : w.heap.size + 1 ≤ wr.heap.size := by
  have := hb.size; simpa using this
def lits (l : List ByteArray) : List Lit := l.map fun s => .string (nkey s)
theorem mem_lits {l : List ByteArray} {x : List UInt8} : Lit.string x ∈ lits l ↔ x ∈ l.map nkey := by
  unfold lits
  simp only [List.mem_map, Lit.string.injEq]
theorem lits_step (l : List ByteArray) (k : Nat) (hk : k < l.length) : lits (l.take k) ++ [.string (nkey l[k])] = lits (l.take (k + 1)) := by
  unfold lits; rw [List.take_succ_eq_append_getElem hk, List.map_append]; rfl
/-- The set of names behind k rounds. -/
def NamesAt (l : List ByteArray) (M k : Nat) (wr : World) : Prop := SetMap Try.prog 9 4 wr M k (lits (l.take k)) ∧ namesB (l.take k) = true

set_option maxHeartbeats 8000000 in
theorem named_any (v : Value) (p : ProgD) (w : World) (hv : ProgOk w v p) (hin : ProgIn p) (h6 : p.vars.length ≤ 1000) (h12 : p.rules.length ≤ 1000) :
    Calls Try.prog 23 #[v] w fun e w' => e = .returned (.bool (namedB p)) ∧ Below w.heap.size w w' := by
  obtain ⟨vv, rv, rfl, hvv, hrv⟩ := hv
  obtain ⟨hn0, hnv, hnr⟩ := hin
  have HNV := Lib.hid hnv
  have HNR := Lib.hid hnr
  obtain ⟨a0, cap0, rfl, i1, i2, i3⟩ := hvv.open
  obtain ⟨a1, cap1, rfl, j1, j2, j3⟩ := hrv.open
  have HVC := Lib.hid i3
  have HRC := Lib.hid j3
  have hmm := @run_makeMap Try.prog
  clear i3 j3 hvv hrv hnv hnr
  rcases Bool.eq_false_or_eq_true (nameB p.name) with q0 | q0
  rotate_left
  · have H := Lib.hid (show namedB p = false by unfold namedB; rw [q0]; rfl)
    go_enter Try.func23, Try.ntmps23
    go_wp2_with (go_at_call 41; refine (name_any _ _ hn0).mono ?_; rintro e w1 ⟨rfl, rfl⟩)
    go_ret
    exact ⟨ret_bool H.out.symm, (Below.refl _ _).alloc (Nat.le_refl _) _⟩
  have H0 := Lib.hid (show namedB p = (namesB (p.vars.map (·.name)) && namesB (p.rules.map (·.name))) by unfold namedB; rw [q0]; rfl)
  go_enter Try.func23, Try.ntmps23
  go_wp2_with (go_at_call 41; refine (name_any _ _ hn0).mono ?_; rintro e w1 ⟨rfl, rfl⟩)
  go_loopw [5, 17] (fun _ i wr => ∃ k : Nat, k ≤ p.vars.length ∧ i = .int .i64 k ∧ Hid (NamesAt (p.vars.map (·.name)) (w.heap.size + 1) k wr) ∧ Hid (Below (w.heap.size + 1) (w.alloc (.cells #[.string p.name, .slice a0 p.vars.length cap0, .slice a1 p.rules.length cap1] 25)) wr)) (fun _ i _ => p.vars.length - (intOf i).toNat)
  case atStart => exact ⟨0, by omega, rfl, ⟨by rw [List.take_zero]; simpa [lits] using setMap_made Try.prog 9 4 (w.alloc (.cells #[.string p.name, .slice a0 p.vars.length cap0, .slice a1 p.rules.length cap1] 25)), rfl⟩, (Below.refl _ _).alloc (by simp) _⟩
  case round =>
    obtain ⟨k, hk, rfl, hset, hbel⟩ := hrel
    have hbw := box_below hbel.out
    have hbs := box_size hbel.out
    by_cases hlt : k < p.vars.length
    · obtain ⟨g, o, rfl, hg, hc⟩ := HVC.out (by omega)
      obtain ⟨x, hx⟩ : ∃ x, p.vars[k]? = some x := ⟨_, List.getElem?_eq_getElem hlt⟩
      obtain ⟨c0, c1, c2, c3, c4, c5⟩ := hc k x hx
      rw [← hbw.cell (p := ⟨g, _, none⟩) hg] at c0 c1 c2 c3 c4 c5
      have hxn := (HNV.out x (List.mem_of_getElem? hx)).1
      have hlm : k < (p.vars.map (·.name)).length := by simpa using hlt
      have hgx : (p.vars.map (·.name))[k] = x.name := by
        obtain ⟨_, h2⟩ := List.getElem?_eq_some_iff.1 hx
        simp [h2]
      clear hc
      rcases Bool.eq_false_or_eq_true (nameB x.name) with q1 | q1
      rotate_left
      · have H := Lib.hid (show namedB p = false by rw [H0.out, names_bad k hlm (by rw [hgx]; exact q1)]; rfl)
        clear hx hgx
        go_wp2_with (go_at_call 41; refine (name_any _ _ hxn).mono ?_; rintro e w1 ⟨rfl, rfl⟩)
        go_ret
        exact ⟨ret_bool H.out.symm, hbw.alloc (by omega) _⟩
      by_cases hmem : nkey x.name ∈ ((p.vars.map (·.name)).take k).map nkey
      · have H := Lib.hid (show namedB p = false by rw [H0.out, names_again hlm (by rw [hgx]; exact hmem)]; rfl)
        have hlook : ∀ ob : Obj, (Instr.lookup 67 (.map (some (w.heap.size + 1))) (.string x.name) false).run Try.prog (wr.alloc ob) = .ok (.bool true) (wr.alloc ob) := fun ob =>
          (hset.out.1.below ((Below.refl _ _).alloc (Nat.le_refl _) ob)).look keyedString Try.underlying67 Try.underlying4 (zeroBool _) (keyString x.name hxn) true (.inl ⟨mem_lits.2 hmem, rfl⟩)
        clear hx hgx hmem
        go_wp2_with (go_at_call 41; refine (name_any _ _ hxn).mono ?_; rintro e w1 ⟨rfl, rfl⟩)
        go_ret
        exact ⟨ret_bool H.out.symm, hbw.alloc (by omega) _⟩
      · have hlook : ∀ ob : Obj, (Instr.lookup 67 (.map (some (w.heap.size + 1))) (.string x.name) false).run Try.prog (wr.alloc ob) = .ok (.bool false) (wr.alloc ob) := fun ob =>
          (hset.out.1.below ((Below.refl _ _).alloc (Nat.le_refl _) ob)).look keyedString Try.underlying67 Try.underlying4 (zeroBool _) (keyString x.name hxn) false (.inr ⟨fun h => hmem (mem_lits.1 h), rfl⟩)
        have HS := Lib.hid (names_step k hlm hset.out.2 (by rw [hgx]; exact q1) (by rw [hgx]; exact hmem))
        have HL := Lib.hid (show lits ((p.vars.map (·.name)).take k) ++ [.string (nkey x.name)] = lits ((p.vars.map (·.name)).take (k + 1)) by rw [← lits_step _ k hlm, hgx])
        clear hx hgx hmem
        go_wp2_with (first | (go_at_call 41; refine (name_any _ _ hxn).mono ?_; rintro e w1 ⟨rfl, rfl⟩) | (at_mapUpdate; refine wpList_setMap_add rfl _ _ _ 67 rfl 9 4 keyedString Try.underlying67 Try.underlying4 (w.heap.size + 1) k _ rfl (by exact hset.out.1.below ((Below.refl _ _).alloc (Nat.le_refl _) _)) (by unfold maxLen; omega) _ (.string (nkey x.name)) rfl rfl (keyString x.name hxn) ?_; intro w2 hset2 hgrow))
        refine ⟨⟨k + 1, by omega, by go_num, ⟨?_, HS.out⟩, ?_⟩, by simp [intOf]; omega⟩
        · rw [HL.out] at hset2; exact hset2
        · exact (hbel.out.alloc hbs _).grown hgrow (by simp; omega) (fun q hq => by cases hq; exact Nat.le_refl _)
    · obtain rfl : k = p.vars.length := by omega
      obtain ⟨wo, rfl⟩ : ∃ wo : World, wo = wr := ⟨_, rfl⟩
      have hnv : namesB (p.vars.map (·.name)) = true := by
        have := hset.out.2
        rw [List.take_of_length_le (by simp)] at this
        exact this
      have H1 := Lib.hid (show namedB p = namesB (p.rules.map (·.name)) by rw [H0.out, hnv]; rfl)
      have hbox := box_at hbel.out 2
      clear hnv hset H0
      simp at hbox
      have hne : w.heap.size ≠ wo.heap.size := by omega
      have hlt0 : w.heap.size < wo.heap.size := by omega
      go_wp2_with fail
      have hb0 : Below (w.heap.size + 1) (w.alloc (.cells #[.string p.name, .slice a0 p.vars.length cap0, .slice a1 p.rules.length cap1] 25)) (wo.alloc (.map #[] 0)) := hbel.out.alloc hbs _
      go_loopw [8, 39] (fun _ i wr => ∃ k : Nat, k ≤ p.rules.length ∧ i = .int .i64 k ∧ Hid (NamesAt (p.rules.map (·.name)) wo.heap.size k wr) ∧ Hid (Below (w.heap.size + 1) (w.alloc (.cells #[.string p.name, .slice a0 p.vars.length cap0, .slice a1 p.rules.length cap1] 25)) wr)) (fun _ i _ => p.rules.length - (intOf i).toNat)
      case atStart => exact ⟨0, by omega, rfl, ⟨by rw [List.take_zero]; simpa [lits] using setMap_made Try.prog 9 4 wo, rfl⟩, hb0⟩
      case round =>
        clear hbox hb0 hne hlt0 hbel hbw
        obtain ⟨k, hk, rfl, hset, hbel⟩ := hrel
        have hbw := box_below hbel.out
        have hbs2 := box_size hbel.out
        by_cases hlt : k < p.rules.length
        · obtain ⟨g, o, rfl, hg, hc⟩ := HRC.out (by omega)
          obtain ⟨x, hx⟩ : ∃ x, p.rules[k]? = some x := ⟨_, List.getElem?_eq_getElem hlt⟩
          obtain ⟨gv, sv, ht, hs, c0, c1, c2⟩ := hc k x hx
          obtain ⟨ga, gcap, rfl, _, _, _⟩ := ht.open
          obtain ⟨sa, scap, rfl, _, _, _⟩ := sets_open hs
          rw [← hbw.cell (p := ⟨g, _, none⟩) hg] at c0 c1 c2
          have hxn := (HNR.out x (List.mem_of_getElem? hx)).1
          have hlm : k < (p.rules.map (·.name)).length := by simpa using hlt
          have hgx : (p.rules.map (·.name))[k] = x.name := by
            obtain ⟨_, h2⟩ := List.getElem?_eq_some_iff.1 hx
            simp [h2]
          clear hc ht hs
          rcases Bool.eq_false_or_eq_true (nameB x.name) with q1 | q1
          rotate_left
          · have H := Lib.hid (show namedB p = false by rw [H1.out, names_bad k hlm (by rw [hgx]; exact q1)])
            clear hx hgx
            go_wp2_with (go_at_call 41; refine (name_any _ _ hxn).mono ?_; rintro e w1 ⟨rfl, rfl⟩)
            go_ret
            exact ⟨ret_bool H.out.symm, hbw.alloc (by omega) _⟩
          by_cases hmem : nkey x.name ∈ ((p.rules.map (·.name)).take k).map nkey
          · have H := Lib.hid (show namedB p = false by rw [H1.out, names_again hlm (by rw [hgx]; exact hmem)])
            have hlook : ∀ ob : Obj, (Instr.lookup 67 (.map (some wo.heap.size)) (.string x.name) false).run Try.prog (wr.alloc ob) = .ok (.bool true) (wr.alloc ob) := fun ob =>
              (hset.out.1.below ((Below.refl _ _).alloc (Nat.le_refl _) ob)).look keyedString Try.underlying67 Try.underlying4 (zeroBool _) (keyString x.name hxn) true (.inl ⟨mem_lits.2 hmem, rfl⟩)
            clear hx hgx hmem
            go_wp2_with (go_at_call 41; refine (name_any _ _ hxn).mono ?_; rintro e w1 ⟨rfl, rfl⟩)
            go_ret
            exact ⟨ret_bool H.out.symm, hbw.alloc (by omega) _⟩
          · have hlook : ∀ ob : Obj, (Instr.lookup 67 (.map (some wo.heap.size)) (.string x.name) false).run Try.prog (wr.alloc ob) = .ok (.bool false) (wr.alloc ob) := fun ob =>
              (hset.out.1.below ((Below.refl _ _).alloc (Nat.le_refl _) ob)).look keyedString Try.underlying67 Try.underlying4 (zeroBool _) (keyString x.name hxn) false (.inr ⟨fun h => hmem (mem_lits.1 h), rfl⟩)
            have HS := Lib.hid (names_step k hlm hset.out.2 (by rw [hgx]; exact q1) (by rw [hgx]; exact hmem))
            have HL := Lib.hid (show lits ((p.rules.map (·.name)).take k) ++ [.string (nkey x.name)] = lits ((p.rules.map (·.name)).take (k + 1)) by rw [← lits_step _ k hlm, hgx])
            clear hx hgx hmem
            go_wp2_with (first | (go_at_call 41; refine (name_any _ _ hxn).mono ?_; rintro e w1 ⟨rfl, rfl⟩) | (at_mapUpdate; refine wpList_setMap_add rfl _ _ _ 67 rfl 9 4 keyedString Try.underlying67 Try.underlying4 wo.heap.size k _ rfl (by exact hset.out.1.below ((Below.refl _ _).alloc (Nat.le_refl _) _)) (by unfold maxLen; omega) _ (.string (nkey x.name)) rfl rfl (keyString x.name hxn) ?_; intro w2 hset2 hgrow))
            refine ⟨⟨k + 1, by omega, by go_num, ⟨?_, HS.out⟩, ?_⟩, by simp [intOf]; omega⟩
            · rw [HL.out] at hset2; exact hset2
            · exact (hbel.out.alloc hbs2 _).grown hgrow (by simp; omega) (fun q hq => by cases hq; exact hbs)
        · obtain rfl : k = p.rules.length := by omega
          have H := hset.out.2
          rw [List.take_of_length_le (by simp)] at H
          have H2 := Lib.hid (show namedB p = true by rw [H1.out, H])
          clear H
          go_wp2_with fail
          go_ret
          exact ⟨ret_bool H2.out.symm, hbw⟩
end Go.Proofs.Ytogennegbihceaa
