/- Part 3 of the texts under ExprFormats,ExprBracketsEverything: joined, with what it needs alone. -/
import Derived.Test.YtcpgpiabeimefaaGreatDoorR2
set_option linter.unusedVariables false
namespace Go.Proofs.YtcpgpiabeimefaaGreatDoor
open Go.RowKit
structure OpM where
  anc : Nat
  looks : Nat
  dst : Option Nat
  loud : Bool
  top : Nat
def yil : List Nat → Nat
  | [] => 0
  | d :: l => Nat.lor (Nat.shiftLeft 1 d) (yil l)
theorem bit_one (d i : Nat) : (Nat.shiftLeft 1 d).testBit i = decide (d = i) := by
  show (1 <<< d).testBit i = _
  rw [Nat.testBit_shiftLeft]
  by_cases h : d = i
  · subst h; simp
  · by_cases h2 : d ≤ i
    · have e : i - d ≠ 0 := by omega
      obtain ⟨q, hq⟩ : ∃ q, i - d = q + 1 := ⟨i - d - 1, by omega⟩
      simp [h, h2, hq, Nat.testBit_succ]
    · simp [h]; omega
theorem bitsOf_iff (i : Nat) : ∀ l, (yil l).testBit i = l.contains i
  | [] => by simp [yil]
  | d :: l => by
    show (Nat.shiftLeft 1 d ||| yil l).testBit i = _
    rw [Nat.testBit_or, bit_one, bitsOf_iff i l, List.contains_cons]
    congr 1
    by_cases h : d = i
    · subst h; simp
    · simp [h, Ne.symm h]
def yjv (k : Nat) (acc : List Nat) : List Edge → Nat
  | [] => 0
  | e :: es => match Region.binds .any e with
    | true => Nat.lor (Nat.lor (Nat.shiftLeft 1 e.on) (match Nat.blt e.on k with | true => acc.getD (k - 1 - e.on) 0 | false => 0)) (yjv k acc es)
    | false => yjv k acc es
def yjg : List Edge → Nat
  | [] => 0
  | e :: es => match Region.binds .any e with
    | true => Nat.max (e.on + 1) (yjg es)
    | false => yjg es
theorem topOf_ge : ∀ {l : List Edge} {e : Edge}, e ∈ l → Region.binds .any e = true → e.on + 1 ≤ yjg l
  | [], e, h, _ => by cases h
  | x :: l, e, h, hb => by
    simp only [yjg]
    rcases List.mem_cons.1 h with rfl | h
    · rw [hb]; exact Nat.le_max_left _ _
    · have := topOf_ge h hb
      split
      · exact Nat.le_trans this (Nat.le_max_right _ _)
      · exact this
theorem topOf_ex : ∀ {l : List Edge} {k : Nat}, k < yjg l → ∃ e ∈ l, Region.binds .any e = true ∧ k ≤ e.on
  | [], k, h => by simp [yjg] at h
  | x :: l, k, h => by
    simp only [yjg] at h
    split at h
    · rename_i hb
      rcases Nat.lt_or_ge k (yjg l) with h1 | h1
      · obtain ⟨e, q1, q2, q3⟩ := topOf_ex h1
        exact ⟨e, List.mem_cons_of_mem _ q1, q2, q3⟩
      · refine ⟨x, List.mem_cons_self, hb, ?_⟩
        have : Nat.max (x.on + 1) (yjg l) ≤ Nat.max (x.on + 1) k := Nat.max_le.2 ⟨Nat.le_max_left _ _, Nat.le_trans h1 (Nat.le_max_right _ _)⟩
        have h2 : k < Nat.max (x.on + 1) k := Nat.lt_of_lt_of_le h this
        rcases Nat.le_total k (x.on + 1) with h3 | h3
        · rw [show Nat.max (x.on + 1) k = x.on + 1 from Nat.max_eq_left h3] at h2; omega
        · rw [show Nat.max (x.on + 1) k = k from Nat.max_eq_right h3] at h2; omega
    · obtain ⟨e, q1, q2, q3⟩ := topOf_ex h
      exact ⟨e, List.mem_cons_of_mem _ q1, q2, q3⟩
def mks (ops : Array Oper) (lf : Oper → Bool) : Nat → List Nat → List Oper → List OpM
  | _, _, [] => []
  | k, acc, o :: l => ⟨yjv k acc o.after.toList, yil (o.looksAt ops), o.dst, lf o, yjg o.after.toList⟩ :: mks ops lf (k + 1) (yjv k acc o.after.toList :: acc) l
theorem waits_mono {ops : Array Oper} : ∀ {f f' j i : Nat}, f ≤ f' → yhf ops f j i = true → yhf ops f' j i = true
  | 0, _, j, i, _, h => by simp [yhf] at h
  | f + 1, 0, j, i, hle, h => by omega
  | f + 1, f' + 1, j, i, hle, h => by
    simp only [yhf] at h ⊢
    cases ho : ops[j]? with
    | none => rw [ho] at h; cases h
    | some o =>
      rw [ho] at h
      simp only [Bool.or_eq_true, Array.any_eq_true', Bool.and_eq_true] at h ⊢
      rcases h with h | ⟨e, h1, h2, h3⟩
      · exact .inl h
      · exact .inr ⟨e, h1, h2, waits_mono (by omega) h3⟩
def AccOk (ops : Array Oper) (k : Nat) (acc : List Nat) : Prop := acc.length = k ∧ ∀ (j i : Nat), j < k → (acc.getD (k - 1 - j) 0).testBit i = true → yhf ops (j + 1) j i = true
theorem ancOf_spec {ops : Array Oper} {k : Nat} {acc : List Nat} (ha : AccOk ops k acc) : ∀ {es : List Edge} {i : Nat}, (yjv k acc es).testBit i = true → ∃ e ∈ es, Region.binds .any e = true ∧ (e.on = i ∨ (e.on < k ∧ yhf ops (e.on + 1) e.on i = true))
  | [], i, h => by simp [yjv] at h
  | e :: es, i, h => by
    simp only [yjv] at h
    split at h
    · rename_i hb
      have h' : ((Nat.shiftLeft 1 e.on ||| (match Nat.blt e.on k with | true => acc.getD (k - 1 - e.on) 0 | false => 0)) ||| yjv k acc es).testBit i = true := h
      rw [Nat.testBit_or, Nat.testBit_or, bit_one] at h'
      simp only [Bool.or_eq_true, decide_eq_true_eq] at h'
      rcases h' with (h' | h') | h'
      · exact ⟨e, List.mem_cons_self, hb, .inl h'⟩
      · refine ⟨e, List.mem_cons_self, hb, .inr ?_⟩
        split at h'
        · rename_i hlt
          have hlt' : e.on < k := by simpa using hlt
          exact ⟨hlt', ha.2 e.on i hlt' h'⟩
        · simp at h'
      · obtain ⟨x, q1, q2⟩ := ancOf_spec ha h'
        exact ⟨x, List.mem_cons_of_mem _ q1, q2⟩
    · obtain ⟨x, q1, q2⟩ := ancOf_spec ha h
      exact ⟨x, List.mem_cons_of_mem _ q1, q2⟩
theorem anc_waits {ops : Array Oper} {k : Nat} {acc : List Nat} (ha : AccOk ops k acc) {o : Oper} (ho : ops[k]? = some o) {i : Nat} (h : (yjv k acc o.after.toList).testBit i = true) : yhf ops (k + 1) k i = true := by
  obtain ⟨e, h1, h2, h3⟩ := ancOf_spec ha h
  simp only [yhf, ho, Bool.or_eq_true, Array.any_eq_true', Bool.and_eq_true, beq_iff_eq]
  rcases h3 with h3 | ⟨h3, h4⟩
  · exact .inl ⟨e, by simpa using h1, h2, h3⟩
  · exact .inr ⟨e, by simpa using h1, h2, waits_mono (by omega) h4⟩
def MOk (ops : Array Oper) (lf : Oper → Bool) (k : Nat) (m : OpM) : Prop :=
  ∃ o, ops[k]? = some o ∧ m.looks = yil (o.looksAt ops) ∧ m.dst = o.dst ∧ m.loud = lf o ∧ m.top = yjg o.after.toList ∧ ∀ i, m.anc.testBit i = true → yhf ops (k + 1) k i = true
theorem mks_ok {ops : Array Oper} {lf : Oper → Bool} : ∀ {l : List Oper} {k : Nat} {acc : List Nat}, AccOk ops k acc → (∀ j : Nat, l[j]? = ops[k + j]?) → ∀ (j : Nat) (m : OpM), (mks ops lf k acc l)[j]? = some m → MOk ops lf (k + j) m
  | [], k, acc, _, _, j, m, h => by simp [mks] at h
  | o :: l, k, acc, ha, hl, j, m, h => by
    have ho : ops[k]? = some o := by have := hl 0; simpa using this.symm
    cases j with
    | zero =>
      simp only [mks, List.getElem?_cons_zero, Option.some.injEq] at h
      subst h
      exact ⟨o, ho, rfl, rfl, rfl, rfl, fun i hi => anc_waits ha ho hi⟩
    | succ j =>
      simp only [mks, List.getElem?_cons_succ] at h
      have := mks_ok (l := l) (k := k + 1) (acc := yjv k acc o.after.toList :: acc) ⟨by simp [ha.1], fun j' i hj hi => ?_⟩ (fun j' => by have := hl (j' + 1); simp only [List.getElem?_cons_succ] at this; rw [this]; congr 1; omega) j m h
      · rwa [show k + 1 + j = k + (j + 1) by omega] at this
      · rcases Nat.lt_or_ge j' k with h1 | h1
        · rw [show k + 1 - 1 - j' = (k - 1 - j') + 1 by omega] at hi
          exact ha.2 j' i h1 (by simpa [List.getD_eq_getElem?_getD] using hi)
        · obtain rfl : j' = k := by omega
          rw [show j' + 1 - 1 - j' = 0 by omega] at hi
          exact anc_waits ha ho (by simpa [List.getD_eq_getElem?_getD] using hi)
theorem mks_len {ops : Array Oper} {lf : Oper → Bool} : ∀ {l : List Oper} {k : Nat} {acc : List Nat}, (mks ops lf k acc l).length = l.length
  | [], _, _ => rfl
  | o :: l, k, acc => by simp [mks, mks_len (l := l)]
def apartM (m x : OpM) : Bool :=
  (match m.dst with
   | some d => !(Nat.testBit x.looks d) && (match x.dst with | some d' => !(Nat.beq d' d) | none => true)
   | none => true) &&
  (match x.dst with
   | some d => !(Nat.testBit m.looks d)
   | none => true)
def chkRest (k : Nat) (m : OpM) : List OpM → Bool
  | [] => true
  | x :: l => (match m.loud with
    | true => Nat.blt k x.top
    | false => (match Nat.testBit x.anc k with
      | true => true
      | false => apartM m x && !x.loud)) && chkRest k m l
def chkM : Nat → List OpM → Bool
  | _, [] => true
  | k, m :: l => match Nat.ble m.top k with
    | false => false
    | true => match chkRest k m l with
      | false => false
      | true => chkM (k + 1) l
theorem chkRest_get {k : Nat} {m : OpM} : ∀ {l : List OpM}, chkRest k m l = true → ∀ x ∈ l, (m.loud = true → k < x.top) ∧ (m.loud = false → x.anc.testBit k = true ∨ (apartM m x = true ∧ x.loud = false))
  | [], _, x, hx => by cases hx
  | y :: l, h, x, hx => by
    simp only [chkRest, Bool.and_eq_true] at h
    rcases List.mem_cons.1 hx with rfl | hx
    · refine ⟨fun hm => ?_, fun hm => ?_⟩
      · rw [hm] at h; simpa using h.1
      · rw [hm] at h
        have h1 := h.1
        simp only at h1
        split at h1
        · rename_i ht; exact .inl ht
        · simp only [Bool.and_eq_true, Bool.not_eq_true'] at h1; exact .inr h1
    · exact chkRest_get h.2 x hx
theorem apartM_ok {ops : Array Oper} {lf : Oper → Bool} {j k : Nat} {m x : OpM} {o p : Oper} (ho : m.looks = yil (o.looksAt ops) ∧ m.dst = o.dst) (hp : x.looks = yil (p.looksAt ops) ∧ x.dst = p.dst) (h : apartM m x = true) : o.apart ops p = true := by
  unfold apartM at h
  unfold Oper.apart
  rw [ho.1, ho.2, hp.1, hp.2] at h
  simp only [Bool.and_eq_true] at h ⊢
  refine ⟨?_, ?_⟩
  · cases hd : o.dst with
    | none => rfl
    | some d =>
      rw [hd] at h
      have h1 := h.1
      simp only [Bool.and_eq_true, Bool.not_eq_true', bitsOf_iff] at h1
      simp only [Bool.and_eq_true, Bool.not_eq_true', h1.1, true_and]
      cases hd2 : p.dst with
      | none => rfl
      | some d' =>
        rw [hd2] at h1
        have h2 := h1.2
        simp only [Bool.not_eq_true'] at h2
        have : d' ≠ d := fun e => by subst e; simp at h2
        simp [this]
  · cases hd2 : p.dst with
    | none => rfl
    | some d =>
      rw [hd2] at h
      have h2 := h.2
      simp only [Bool.not_eq_true', bitsOf_iff] at h2
      simp only [h2, Bool.not_false]
def yee (n k : Nat) : Array Bool := ((List.range n).map fun i => decide (i < k)).toArray
theorem listedTo_get (n k i : Nat) (b : Bool) : (yee n k).getD i b = if i < n then decide (i < k) else b := by
  simp only [yee, Array.getD_eq_getD_getElem?, List.getElem?_toArray, List.getElem?_map]
  split
  · rename_i h; rw [List.getElem?_range h]; rfl
  · rename_i h; rw [List.getElem?_eq_none (by simpa using h)]; rfl
theorem listedTo_set (n k : Nat) : (yee n k).setIfInBounds k true = yee n (k + 1) := by
  apply Array.ext_getElem?
  intro i
  rw [Array.getElem?_setIfInBounds]
  simp only [yee, List.getElem?_toArray, List.getElem?_map, List.size_toArray, List.length_map, List.length_range]
  by_cases hi : i < n
  · rw [List.getElem?_range hi]
    by_cases e : k = i
    · subst e; simp [hi]
    · have : i < k + 1 ↔ i < k := by omega
      simp [e, this]
  · rw [List.getElem?_eq_none (by simpa using hi)]
    by_cases e : k = i
    · subst e; simp [hi]
    · simp [e]
theorem listedTo_zero (n : Nat) : Array.replicate n false = yee n 0 := by
  apply Array.ext_getElem?
  intro i
  simp only [yee, List.getElem?_toArray, List.getElem?_map, Array.getElem?_replicate]
  by_cases hi : i < n
  · rw [List.getElem?_range hi, if_pos hi]; simp
  · rw [List.getElem?_eq_none (by simpa using hi), if_neg hi]; rfl
theorem ready_to {ops : Array Oper} {k j : Nat} {o : Oper} (ho : ops[j]? = some o) : j ∈ Region.ready .any ops (yee ops.size k) ↔ k ≤ j ∧ ∀ e ∈ o.after, Region.binds .any e = true → e.on < k ∧ e.on < ops.size := by
  have hj := (Array.getElem?_eq_some_iff.1 ho).1
  unfold Region.ready
  rw [List.mem_filter, List.mem_range]
  simp only [listedTo_get, hj, if_true, true_and, ho, Option.map_some, Option.getD_some, Bool.and_eq_true, Bool.not_eq_true', decide_eq_false_iff_not, Nat.not_lt, Array.all_eq_true', Bool.or_eq_true]
  constructor
  · rintro ⟨h1, h2⟩
    refine ⟨h1, fun e he hb => ?_⟩
    rcases h2 e he with h3 | h3
    · rw [hb] at h3; cases h3
    · split at h3
      · rename_i h4; exact ⟨by simpa using h3, h4⟩
      · cases h3
  · rintro ⟨h1, h2⟩
    refine ⟨h1, fun e he => ?_⟩
    cases hb : Region.binds .any e with
    | false => exact .inl rfl
    | true =>
      obtain ⟨h3, h4⟩ := h2 e he hb
      exact .inr (by rw [if_pos h4]; simpa using h3)
theorem filter_range_one {p : Nat → Bool} {n k : Nat} (hk : k < n) (hp : p k = true) (h : ∀ j, j < n → j ≠ k → p j = false) : (List.range n).filter p = [k] := by
  induction n with
  | zero => omega
  | succ n ih =>
    rw [List.range_succ, List.filter_append]
    by_cases e : k = n
    · subst e
      have : (List.range k).filter p = [] := by
        rw [List.filter_eq_nil_iff]
        intro j hj
        have hj' : j < k := by simpa using hj
        rw [h j (by omega) (by omega)]; simp
      rw [this]; simp [hp]
    · rw [ih (by omega) fun j hj hne => h j (by omega) hne]
      have : p n = false := h n (by omega) (Ne.symm e)
      simp [this]
theorem ordOk_chk {ops : Array Oper} {lf : Oper → Bool} : ∀ {ms : List OpM} {k : Nat}, k + ms.length = ops.size → (∀ (j : Nat) (m : OpM), ms[j]? = some m → MOk ops lf (k + j) m) → chkM k ms = true → yit ops lf (List.range' k ms.length) (yee ops.size k) = true
  | [], k, hn, _, _ => by
    simp only [List.length_nil, Nat.add_zero] at hn
    simp only [List.length_nil, List.range'_zero, yit, List.isEmpty_iff]
    unfold Region.ready
    rw [List.filter_eq_nil_iff]
    intro i hi
    have hi' : i < ops.size := by simpa using hi
    rw [listedTo_get, if_pos hi']
    have : i < k := by omega
    simp [this]
  | m :: ms, k, hn, hm, h => by
    simp only [List.length_cons] at hn
    simp only [chkM] at h
    split at h
    · cases h
    rename_i htop
    split at h
    · cases h
    rename_i hrest
    obtain ⟨o, ho, hlk, hds, hld, htp, hanc⟩ := hm 0 m rfl
    simp only [Nat.add_zero] at ho hanc
    have htop' : m.top ≤ k := by simpa using htop
    have hready : k ∈ Region.ready .any ops (yee ops.size k) := by
      refine (ready_to ho).2 ⟨Nat.le_refl _, fun e he hb => ?_⟩
      have := topOf_ge (l := o.after.toList) (by simpa using he) hb
      omega
    have hxs : ∀ (j : Nat), k < j → j < ops.size → ∃ x p, x ∈ ms ∧ ops[j]? = some p ∧ x.looks = yil (p.looksAt ops) ∧ x.dst = p.dst ∧ x.loud = lf p ∧ x.top = yjg p.after.toList ∧ ∀ i, x.anc.testBit i = true → yhf ops (j + 1) j i = true := by
      intro j hkj hj
      obtain ⟨x, hx⟩ : ∃ x, ms[j - k - 1]? = some x := ⟨_, List.getElem?_eq_getElem (by omega)⟩
      obtain ⟨p, hp⟩ := hm (j - k) x (by rw [show j - k = (j - k - 1) + 1 by omega, List.getElem?_cons_succ]; exact hx)
      rw [show k + (j - k) = j by omega] at hp
      exact ⟨x, p, List.mem_of_getElem? hx, hp⟩
    have hcr := chkRest_get hrest
    simp only [List.length_cons, List.range'_succ, yit, Bool.and_eq_true, List.contains_iff_mem]
    refine ⟨⟨hready, ?_⟩, ?_⟩
    · rw [ho]
      simp only
      rw [← hld]
      cases hloud : m.loud with
      | true =>
        simp only [if_true, beq_iff_eq]
        unfold Region.ready
        refine filter_range_one (by omega) ?_ fun j hj hne => ?_
        · have := hready
          unfold Region.ready at this
          exact (List.mem_filter.1 this).2
        · rcases Nat.lt_or_ge j k with h1 | h1
          · rw [listedTo_get, if_pos hj]; simp [h1]
          · obtain ⟨x, p, hx, hp, _, _, _, hxt, _⟩ := hxs j (by omega) hj
            have hlt := (hcr x hx).1 hloud
            rw [hxt] at hlt
            obtain ⟨e, he, hb, hon⟩ := topOf_ex hlt
            have hnot : j ∉ Region.ready .any ops (yee ops.size k) := fun hmem => by
              have := ((ready_to hp).1 hmem).2 e (by simpa using he) hb
              omega
            unfold Region.ready at hnot
            rw [List.mem_filter] at hnot
            cases hpj : (!(yee ops.size k).getD j true && ((ops[j]?).map (·.after.all fun e => !Region.binds .any e || (yee ops.size k).getD e.on false)).getD false) with
            | false => rfl
            | true => exact absurd ⟨by simpa using hj, hpj⟩ hnot
      | false =>
        simp only [Bool.false_eq_true, if_false, List.all_eq_true, List.mem_range, Bool.or_eq_true]
        intro j hj
        by_cases hjk : j = k
        · exact .inl (.inl (.inl (by simp [hjk])))
        · rcases Nat.lt_or_ge j k with h1 | h1
          · exact .inl (.inl (.inr (by rw [listedTo_get, if_pos hj]; simpa using h1)))
          · obtain ⟨x, p, hx, hp, q1, q2, q3, _, q5⟩ := hxs j (by omega) hj
            rcases (hcr x hx).2 hloud with h2 | ⟨h2, h3⟩
            · exact .inl (.inr (waits_mono (by omega) (q5 k h2)))
            · refine .inr ?_
              rw [hp]
              simp only [Bool.and_eq_true, Bool.not_eq_true']
              exact ⟨apartM_ok (lf := lf) (j := 0) (k := 0) ⟨hlk, hds⟩ ⟨q1, q2⟩ h2, by rw [← q3]; exact h3⟩
    · rw [listedTo_set]
      exact ordOk_chk (by omega) (fun j m' hj => by
        have := hm (j + 1) m' (by simpa using hj)
        rwa [show k + (j + 1) = k + 1 + j by omega] at this) h
def chkOps (lf : Oper → Bool) (l : List Oper) : Bool := chkM 0 (mks l.toArray lf 0 [] l)
theorem ordOk_of_chk {lf : Oper → Bool} {l : List Oper} (h : chkOps lf l = true) : yit l.toArray lf (List.range l.length) (Array.replicate l.length false) = true := by
  have := ordOk_chk (ops := l.toArray) (lf := lf) (ms := mks l.toArray lf 0 [] l) (k := 0) (by simp [mks_len]) (mks_ok ⟨rfl, fun j i hj => by omega⟩ (fun j => by simp)) h
  rw [mks_len, List.size_toArray] at this
  rw [listedTo_zero, List.range_eq_range']
  exact this
end Go.Proofs.YtcpgpiabeimefaaGreatDoor
