/- Part 8 of the texts under MemoryReadsAndWrites,MemoryReadsBack: joined, with what it needs alone. -/
import Derived.Test.YtmlkdoimkdbdpaaGreatDoorL7
set_option linter.unusedVariables false
set_option maxHeartbeats 4000000
namespace Go.Proofs.YtmlkdoimkdbdpaaGreatDoor
open Go.RowKit

theorem ybp {j d : Nat} {o : Option LObj} {h : List (Nat × Option LObj)} (hne : j ≠ d) : yap ((d, o) :: h) j = yap h j := by
  simp only [yap]
  rw [yfr hne]
theorem yao {d : Nat} {o : Option LObj} {h : List (Nat × Option LObj)} : yap ((d, o) :: h) d = o := by
  simp [yap]
theorem hlook_dup {d : Nat} {a b : Option LObj} {h : List (Nat × Option LObj)} : yap ((d, a) :: (d, b) :: h) = yap ((d, a) :: h) := by
  funext j
  by_cases hj : j = d
  · subst hj; rw [yao, yao]
  · rw [ybp hj, ybp hj, ybp hj]
def fam (M k : Nat) : Nat := (k + 1) * 1000000 + M
theorem fam_big (M k : Nat) : 1000000 ≤ fam M k := by unfold fam; omega
theorem fam_inj {M i j : Nat} (h : fam M i = fam M j) : i = j := by unfold fam at h; omega
theorem yee {d M k : Nat} (h : d < 1000000) : d ≠ fam M k := by have := fam_big M k; omega
def famL (M : Nat) : Nat → List (List AV) → List (Nat × Option LObj)
  | _, [] => []
  | k, r :: rs => (fam M k, some (.vec r)) :: famL M (k + 1) rs
def matC (M sz : Nat) : Nat → List (List AV) → List AV
  | _, [] => []
  | k, r :: rs => .ls (fam M k) sz (r.length / sz) :: matC M sz (k + 1) rs
def matO : List AV → LObj
  | [] => .vec []
  | x :: xs => .mcells (x :: xs)
def yei (M sz : Nat) (rows : List (List AV)) (extra : List AV) : List (Nat × Option LObj) :=
  (M, some (matO (matC M sz 0 rows ++ extra))) :: famL M 0 rows
theorem matC_len (M sz : Nat) : ∀ (k : Nat) (rows : List (List AV)), (matC M sz k rows).length = rows.length
  | _, [] => rfl
  | k, r :: rs => by simp [matC, matC_len M sz (k + 1) rs]
theorem matC_get (M sz : Nat) : ∀ (k i : Nat) (rows : List (List AV)), (matC M sz k rows)[i]? = (rows[i]?).map fun r => .ls (fam M (k + i)) sz (r.length / sz)
  | _, _, [] => by simp [matC]
  | k, 0, r :: rs => by simp [matC]
  | k, i + 1, r :: rs => by
    simp only [matC, List.getElem?_cons_succ, matC_get M sz (k + 1) i rs]
    rw [show k + 1 + i = k + (i + 1) by omega]
theorem famL_at (M : Nat) : ∀ (k i : Nat) (rows : List (List AV)), yap (famL M k rows) (fam M (k + i)) = (rows[i]?).map LObj.vec
  | _, _, [] => by simp [famL, yap]
  | k, 0, r :: rs => by simp [famL, yap]
  | k, i + 1, r :: rs => by
    simp only [famL, List.getElem?_cons_succ]
    rw [ybp (fun h => by have := fam_inj h; omega), show k + (i + 1) = k + 1 + i by omega]
    exact famL_at M (k + 1) i rs
theorem famL_no (M : Nat) {j : Nat} : ∀ (k : Nat) (rows : List (List AV)), (∀ i, k ≤ i → j ≠ fam M i) → yap (famL M k rows) j = none
  | _, [], _ => rfl
  | k, r :: rs, h => by
    simp only [famL]
    rw [ybp (h k (Nat.le_refl k))]
    exact famL_no M (k + 1) rs fun i hi => h i (by omega)
def lowH : List (Nat × Option LObj) → Bool
  | [] => true
  | (k, _) :: h => match Nat.ble 1000000 k with
    | true => false
    | false => lowH h
theorem yby : ∀ (f g : List (Nat × Option LObj)) {j : Nat}, (∀ x ∈ f, x.1 ≠ j) → yap (f ++ g) j = yap g j
  | [], g, j, _ => rfl
  | (k, o) :: f, g, j, h => by
    rw [List.cons_append, ybp (fun e => h (k, o) (List.mem_cons_self) e.symm)]
    exact yby f g fun x hx => h x (List.mem_cons_of_mem _ hx)
theorem ydz : ∀ (f g : List (Nat × Option LObj)) {j : Nat}, yap (f ++ g) j = yap f j ∨ ((∀ x ∈ f, x.1 ≠ j) ∧ yap (f ++ g) j = yap g j)
  | [], g, j => .inr ⟨by simp, rfl⟩
  | (k, o) :: f, g, j => by
    simp only [List.cons_append, yap]
    cases hb : Nat.beq j k with
    | true => exact .inl rfl
    | false =>
      rcases ydz f g (j := j) with h | ⟨h1, h2⟩
      · exact .inl h
      · refine .inr ⟨fun x hx => ?_, h2⟩
        rcases List.mem_cons.1 hx with rfl | hx
        · intro e; simp only at e; subst e; simp at hb
        · exact h1 x hx
theorem lowH_spec : ∀ {f : List (Nat × Option LObj)}, lowH f = true → ∀ x ∈ f, x.1 < 1000000
  | [], _, x, hx => by simp at hx
  | (k, o) :: f, h, x, hx => by
    simp only [lowH] at h
    cases hb : Nat.ble 1000000 k with
    | true => simp [hb] at h
    | false =>
      simp only [hb] at h
      rcases List.mem_cons.1 hx with rfl | hx
      · exact nble hb
      · exact lowH_spec h x hx
variable {f : List (Nat × Option LObj)} {M sz : Nat} {rows : List (List AV)} {extra : List AV}
theorem yaw (hf : lowH f = true) (hM : M < 1000000) {i : Nat} {r : List AV} (hr : rows[i]? = some r) : yap (f ++ yei M sz rows extra) (fam M i) = some (.vec r) := by
  rw [yby f _ fun x hx => yee (lowH_spec hf x hx)]
  unfold yei
  rw [ybp (Ne.symm (yee hM))]
  have := famL_at M 0 i rows
  rw [Nat.zero_add] at this
  rw [this, hr]
  rfl
theorem hlook_low {j : Nat} (hj : j < 1000000) (o o' : LObj) (rows rows' : List (List AV)) : j ≠ M → yap (f ++ (M, some o) :: famL M 0 rows) j = yap (f ++ (M, some o') :: famL M 0 rows') j := fun hne => by
  rcases ydz f ((M, some o) :: famL M 0 rows) (j := j) with h | ⟨h1, h2⟩
  · rcases ydz f ((M, some o') :: famL M 0 rows') (j := j) with h' | ⟨h1', h2'⟩
    · rw [h, h']
    · rw [h, h2']
      rw [ybp hne, famL_no M 0 _ fun i _ => yee hj]
      rw [← List.append_nil f, yby f [] h1']
      rfl
  · rw [h2, yby f _ h1]
    rw [ybp hne, ybp hne, famL_no M 0 _ fun i _ => yee hj, famL_no M 0 _ fun i _ => yee hj]
theorem mat_ext {h : Nat → Option LObj} (hf : lowH f = true) (hM : M < 1000000) (h1 : ∀ j, j < 1000000 → h j = yap (f ++ yei M sz rows extra) j) (h2 : ∀ i, h (fam M i) = (rows[i]?).map LObj.vec) (h3 : ∀ j, 1000000 ≤ j → (∀ i, j ≠ fam M i) → h j = none) : h = yap (f ++ yei M sz rows extra) := by
  funext j
  by_cases hj : j < 1000000
  · exact h1 j hj
  · by_cases he : ∃ i, j = fam M i
    · obtain ⟨i, rfl⟩ := he
      rw [h2, yby f _ fun x hx => yee (lowH_spec hf x hx)]
      unfold yei
      rw [ybp (Ne.symm (yee hM))]
      have := famL_at M 0 i rows
      rw [Nat.zero_add] at this
      exact this.symm
    · have he' : ∀ i, j ≠ fam M i := fun i e => he ⟨i, e⟩
      rw [h3 j (by omega) he', yby f _ fun x hx => by have := lowH_spec hf x hx; omega]
      unfold yei
      rw [ybp (by omega), famL_no M 0 _ fun i _ => he' i]
theorem mat_at (hf : lowH f = true) (hM : M < 1000000) (i : Nat) : yap (f ++ yei M sz rows extra) (fam M i) = (rows[i]?).map LObj.vec := by
  rw [yby f _ fun x hx => yee (lowH_spec hf x hx)]
  unfold yei
  rw [ybp (Ne.symm (yee hM))]
  have := famL_at M 0 i rows
  rwa [Nat.zero_add] at this
theorem mat_no (hf : lowH f = true) (hM : M < 1000000) {j : Nat} (hj : 1000000 ≤ j) (he : ∀ i, j ≠ fam M i) : yap (f ++ yei M sz rows extra) j = none := by
  rw [yby f _ fun x hx => by have := lowH_spec hf x hx; omega]
  unfold yei
  rw [ybp (by omega), famL_no M 0 _ fun i _ => he i]
theorem matC_set (M sz k i : Nat) (rows : List (List AV)) (r : List AV) (hl : ∀ r', rows[i]? = some r' → r.length = r'.length) : matC M sz k (rows.set i r) = matC M sz k rows := by
  apply List.ext_getElem?
  intro j
  rw [matC_get, matC_get, List.getElem?_set]
  by_cases h : i = j
  · subst h
    by_cases hi : i < rows.length
    · have := hl _ (List.getElem?_eq_getElem hi)
      simp [hi, this]
    · simp [hi]
  · simp [h]
theorem mat_upd (hf : lowH f = true) (hM : M < 1000000) {i : Nat} {r r' : List AV} (hr : rows[i]? = some r') (hl : r.length = r'.length) : yap ((fam M i, some (.vec r)) :: (f ++ yei M sz rows extra)) = yap (f ++ yei M sz (rows.set i r) extra) := by
  have hi : i < rows.length := (List.getElem?_eq_some_iff.1 hr).1
  refine mat_ext hf hM (fun j hj => ?_) (fun k => ?_) (fun j hj he => ?_)
  · rw [ybp (yee hj)]
    unfold yei
    rw [matC_set _ _ _ _ _ _ fun r'' h'' => by rw [hr] at h''; cases h''; exact hl]
    by_cases hjM : j = M
    · subst hjM
      rcases ydz f ((j, some (matO (matC j sz 0 rows ++ extra))) :: famL j 0 rows) (j := j) with h | ⟨h1, h2⟩
      · rcases ydz f ((j, some (matO (matC j sz 0 rows ++ extra))) :: famL j 0 (rows.set i r)) (j := j) with h' | ⟨h1', h2'⟩
        · rw [h, h']
        · rw [yby f _ h1', yby f _ h1']
          rw [yao, yao]
      · rw [yby f _ h1, yby f _ h1]
        rw [yao, yao]
    · exact hlook_low hj _ _ _ _ hjM
  · by_cases hk : k = i
    · subst hk
      rw [yao]
      simp [hi]
    · rw [ybp (fun e => hk (fam_inj e)), mat_at hf hM, List.getElem?_set, if_neg (fun e => hk e.symm)]
  · rw [ybp (he i), mat_no hf hM hj he]
theorem mat_add (hf : lowH f = true) (hM : M < 1000000) {n : Nat} {r : List AV} {ex ex' : List AV} (hn : n = rows.length) (he : .ls (fam M n) sz (r.length / sz) :: ex' = ex) : yap ((fam M n, some (.vec r)) :: (f ++ (M, some (matO (matC M sz 0 rows ++ ex))) :: famL M 0 rows)) = yap (f ++ yei M sz (rows ++ [r]) ex') := by
  subst hn he
  have hc : matC M sz 0 (rows ++ [r]) ++ ex' = matC M sz 0 rows ++ .ls (fam M rows.length) sz (r.length / sz) :: ex' := by
    have : ∀ (rows : List (List AV)) (k : Nat), matC M sz k (rows ++ [r]) = matC M sz k rows ++ [.ls (fam M (k + rows.length)) sz (r.length / sz)] := by
      intro rows
      induction rows with
      | nil => intro k; simp [matC]
      | cons a rs ih =>
        intro k
        simp only [List.cons_append, matC, ih (k + 1), List.length_cons]
        rw [show k + 1 + rs.length = k + (rs.length + 1) by omega]
    rw [this]
    simp
  refine mat_ext hf hM (fun j hj => ?_) (fun k => ?_) (fun j hj he => ?_)
  · rw [ybp (yee hj)]
    unfold yei
    rw [hc]
    by_cases hjM : j = M
    · subst hjM
      rcases ydz f ((j, some (matO (matC j sz 0 rows ++ .ls (fam j rows.length) sz (r.length / sz) :: ex'))) :: famL j 0 rows) (j := j) with h | ⟨h1, h2⟩
      · rcases ydz f ((j, some (matO (matC j sz 0 rows ++ .ls (fam j rows.length) sz (r.length / sz) :: ex'))) :: famL j 0 (rows ++ [r])) (j := j) with h' | ⟨h1', h2'⟩
        · rw [h, h']
        · rw [yby f _ h1', yby f _ h1']
          rw [yao, yao]
      · rw [yby f _ h1, yby f _ h1]
        rw [yao, yao]
    · exact hlook_low hj _ _ _ _ hjM
  · by_cases hk : k = rows.length
    · subst hk
      rw [yao]
      simp
    · rw [ybp (fun e => hk (fam_inj e))]
      have := mat_at (sz := sz) (rows := rows) (extra := .ls (fam M rows.length) sz (r.length / sz) :: ex') hf hM k
      unfold yei at this
      rw [this, List.getElem?_append]
      by_cases h1 : k < rows.length
      · simp [h1]
      · rw [if_neg h1, List.getElem?_eq_none (by omega), List.getElem?_eq_none (by simp; omega)]
  · rw [ybp (he _)]
    exact mat_no (extra := .ls (fam M rows.length) sz (r.length / sz) :: ex') hf hM hj he

theorem matC_snoc {M sz : Nat} {r : List AV} : ∀ (k : Nat) (rows : List (List AV)), matC M sz k (rows ++ [r]) = matC M sz k rows ++ [.ls (fam M (k + rows.length)) sz (r.length / sz)]
  | k, [] => by simp [matC]
  | k, a :: rs => by
    simp only [List.cons_append, matC, matC_snoc (k + 1) rs, List.length_cons]
    rw [show k + 1 + rs.length = k + (rs.length + 1) by omega]
theorem keys_ne {f : List (Nat × Option LObj)} {M : Nat} (hk : (f.all fun x => !Nat.beq x.1 M) = true) : ∀ x ∈ f, x.1 ≠ M := fun x hx e => by
  have := List.all_eq_true.1 hk x hx
  simp [e] at this
theorem mat_new (hf : lowH f = true) (hM : Nat.blt M 1000000 = true) (hk : (f.all fun x => !Nat.beq x.1 M) = true) {i k : Nat} {r : List AV} {a : AV} {ex : List AV} {rows' : List (List AV)} (hi : i = rows.length) (hr : r.length / sz = k) (he : extra = a :: ex) (hrows : rows' = rows ++ [r]) :
    yap ((M, some (matO ((matC M sz 0 rows ++ extra).set i (.ls (fam M i) sz k)))) :: (fam M i, some (.vec r)) :: (f ++ yei M sz rows extra)) = yap (f ++ yei M sz rows' ex) := by
  subst hi hr he hrows
  have hM' : M < 1000000 := by simpa using hM
  have hset : (matC M sz 0 rows ++ a :: ex).set rows.length (.ls (fam M rows.length) sz (r.length / sz)) = matC M sz 0 (rows ++ [r]) ++ ex := by
    rw [matC_snoc, List.append_assoc, List.set_append_right _ _ (Nat.le_of_eq (matC_len _ _ _ _)), matC_len, Nat.sub_self, Nat.zero_add]
    rfl
  rw [hset]
  refine mat_ext hf hM' (fun j hj => ?_) (fun k => ?_) (fun j hj he => ?_)
  · by_cases hjM : j = M
    · subst hjM
      rw [yao, yby f _ (keys_ne hk)]
      exact yao.symm
    · rw [ybp hjM, ybp (yee hj)]
      exact hlook_low hj _ _ _ _ hjM
  · rw [ybp (Ne.symm (yee hM'))]
    by_cases hk : k = rows.length
    · subst hk
      rw [yao]
      simp
    · rw [ybp (fun e => hk (fam_inj e)), mat_at hf hM', List.getElem?_append]
      by_cases h1 : k < rows.length
      · simp [h1]
      · rw [if_neg h1, List.getElem?_eq_none (by omega), List.getElem?_eq_none (by simp; omega)]
  · rw [ybp (by omega), ybp (he _), mat_no hf hM' hj he]
theorem ybf (hk : (f.all fun x => !Nat.beq x.1 M) = true) : yap (f ++ yei M sz rows extra) M = some (matO (matC M sz 0 rows ++ extra)) := by
  rw [yby f _ (keys_ne hk)]
  exact yao
def lowA : AV → Bool
  | .lp id _ => Nat.blt id 1000000
  | .ls id _ _ => Nat.blt id 1000000
  | .mp id => Nat.blt id 1000000
  | .agg cs => lowL cs
  | .tup cs => lowL cs
  | .fn _ cs => lowL cs
  | _ => true
  where lowL : List AV → Bool
  | [] => true
  | c :: cs => lowA c && lowL cs
theorem blt_low {id j : Nat} (h : Nat.blt id 1000000 = true) (hj : 1000000 ≤ j) : Nat.beq id j = false := yfr (by have h2 : id < 1000000 := (by simpa using h); omega)
theorem lowA.ment {j : Nat} (hj : 1000000 ≤ j) : ∀ {x : AV}, lowA x = true → ment j x = false
  | .v _, _ => rfl
  | .any, _ => rfl
  | .one, _ => rfl
  | .sl _ _, _ => rfl
  | .dp _ _, _ => rfl
  | .mv _, _ => rfl
  | .lp id _, h => blt_low h hj
  | .ls id _ _, h => blt_low h hj
  | .mp id, h => blt_low h hj
  | .agg cs, h => rowsM (cs := cs) h
  | .tup cs, h => rowsM (cs := cs) h
  | .fn _ cs, h => rowsM (cs := cs) h
  where rowsM : ∀ {cs : List AV}, lowA.lowL cs = true → ment.mentL j cs = false
  | [], _ => rfl
  | c :: cs, h => by
    simp only [lowA.lowL, Bool.and_eq_true] at h
    simp only [ment.mentL, Bool.or_eq_false_iff]
    exact ⟨lowA.ment hj h.1, rowsM h.2⟩
def lowT : List (Nat × AV) → Bool
  | [] => true
  | (_, x) :: t => match lowA x with
    | true => lowT t
    | false => false
theorem lowT_look : ∀ {t : List (Nat × AV)}, lowT t = true → ∀ x y, look t x = some y → lowA y = true
  | [], _, x, y, h => by simp [look] at h
  | (d, r) :: t, hl, x, y, h => by
    simp only [lowT] at hl
    cases hr : lowA r with
    | false => simp [hr] at hl
    | true =>
      simp only [hr] at hl
      simp only [look] at h
      cases hb : Nat.beq x d with
      | true => simp only [hb, Option.some.injEq] at h; subst h; exact hr
      | false => simp only [hb] at h; exact lowT_look hl x y h
def lowO : LObj → Bool
  | .cells xs => lowA.lowL xs
  | .tcells _ xs => lowA.lowL xs
  | .mcells xs => lowA.lowL xs
  | _ => true
theorem lowO.ment {j : Nat} (hj : 1000000 ≤ j) {o : LObj} (h : lowO o = true) : mentO j o = false := by
  cases o <;> first | rfl | exact lowA.ment.rowsM hj h
def lowM : List (Nat × Option LObj) → Bool
  | [] => true
  | (k, o) :: h => match Nat.ble 1000000 k with
    | true => false
    | false => match o with
      | none => lowM h
      | some o => match lowO o with
        | true => lowM h
        | false => false
theorem lowM_low : ∀ {h : List (Nat × Option LObj)}, lowM h = true → lowH h = true
  | [], _ => rfl
  | (k, o) :: h, hl => by
    simp only [lowM] at hl
    simp only [lowH]
    cases hb : Nat.ble 1000000 k with
    | true => simp [hb] at hl
    | false =>
      simp only [hb] at hl ⊢
      cases o with
      | none => exact lowM_low hl
      | some o =>
        cases ho : lowO o with
        | false => simp [ho] at hl
        | true => simp only [ho] at hl; exact lowM_low hl
theorem lowM_look : ∀ {h : List (Nat × Option LObj)}, lowM h = true → ∀ j ob, yap h j = some ob → lowO ob = true ∧ j < 1000000
  | [], _, j, ob, h => by simp [yap] at h
  | (k, o) :: h, hl, j, ob, hj => by
    simp only [lowM] at hl
    cases hb : Nat.ble 1000000 k with
    | true => simp [hb] at hl
    | false =>
      simp only [hb] at hl
      simp only [yap] at hj
      cases hk : Nat.beq j k with
      | true =>
        simp only [hk] at hj
        subst hj
        cases ho : lowO ob with
        | false => simp [ho] at hl
        | true => exact ⟨rfl, by rw [Nat.eq_of_beq_eq_true hk]; exact nble hb⟩
      | false =>
        simp only [hk] at hj
        cases o with
        | none => exact lowM_look hl j ob hj
        | some o =>
          cases ho : lowO o with
          | false => simp [ho] at hl
          | true => simp only [ho] at hl; exact lowM_look hl j ob hj
theorem low_rep (x : AV) (hx : lowA x = true) : ∀ n, lowA.lowL (List.replicate n x) = true
  | 0 => rfl
  | n + 1 => by simp [List.replicate_succ, lowA.lowL, hx, low_rep x hx n]
theorem ment_rep (d : Nat) (x : AV) (hx : ment d x = false) : ∀ n, ment.mentL d (List.replicate n x) = false
  | 0 => rfl
  | n + 1 => by simp [List.replicate_succ, ment.mentL, hx, ment_rep d x hx n]
theorem mentO_matO (d : Nat) (xs : List AV) : mentO d (matO xs) = ment.mentL d xs := by cases xs <;> rfl
theorem ment_matC {d M sz : Nat} : ∀ (k : Nat) (rows : List (List AV)), (∀ i, k ≤ i → i < k + rows.length → d ≠ fam M i) → ment.mentL d (matC M sz k rows) = false
  | _, [], _ => rfl
  | k, r :: rs, h => by
    simp only [matC, ment.mentL, Bool.or_eq_false_iff]
    refine ⟨yfr (Ne.symm (h k (Nat.le_refl k) (by simp))), ment_matC (k + 1) rs fun i h1 h2 => h i (by omega) (by simp; omega)⟩
theorem mentL_app {d : Nat} : ∀ {a b : List AV}, ment.mentL d (a ++ b) = (ment.mentL d a || ment.mentL d b)
  | [], b => rfl
  | x :: a, b => by simp only [List.cons_append, ment.mentL, mentL_app, Bool.or_assoc]
theorem freshH_app {d : Nat} : ∀ {a b : List (Nat × Option LObj)}, ycr d a = true → ycr d b = true → ycr d (a ++ b) = true
  | [], b, _, h => h
  | (i, o) :: a, b, h1, h2 => by
    simp only [ycr, List.cons_append] at h1 ⊢
    cases hb : Nat.beq d i with
    | true => simp [hb] at h1
    | false =>
      simp only [hb] at h1 ⊢
      cases o with
      | none => exact freshH_app h1 h2
      | some o =>
        cases ho : mentO d o with
        | true => simp [ho] at h1
        | false => simp only [ho] at h1 ⊢; exact freshH_app h1 h2
theorem freshH_famL {d M : Nat} : ∀ (k : Nat) (rows : List (List AV)), (∀ i, k ≤ i → i < k + rows.length → d ≠ fam M i) → ycr d (famL M k rows) = true
  | _, [], _ => rfl
  | k, r :: rs, h => by
    simp only [famL, ycr, mentO]
    rw [yfr (h k (Nat.le_refl k) (by simp))]
    exact freshH_famL (k + 1) rs fun i h1 h2 => h i (by omega) (by simp; omega)
theorem freshH_matH {d : Nat} (hd : d ≠ M) (hr : ∀ i, i < rows.length → d ≠ fam M i) (he : ment.mentL d extra = false) : ycr d (yei M sz rows extra) = true := by
  unfold yei
  simp only [ycr, mentO_matO, mentL_app, he, Bool.or_false]
  rw [yfr hd, ment_matC 0 rows fun i _ hi => hr i (by omega)]
  exact freshH_famL 0 rows fun i _ hi => hr i (by omega)
theorem freshM {d : Nat} (h1 : ycr d f = true) (h2 : Nat.beq d M = false) (h3 : Nat.blt d 1000000 = true) (he : ment.mentL d extra = false) : ycr d (f ++ yei M sz rows extra) = true :=
  freshH_app h1 (freshH_matH (by rintro rfl; simp at h2) (fun i _ => yee (by simpa using h3)) he)
theorem lowM_fresh {j : Nat} (hj : 1000000 ≤ j) : ∀ {h : List (Nat × Option LObj)}, lowM h = true → ycr j h = true
  | [], _ => rfl
  | (k, o) :: h, hl => by
    simp only [lowM] at hl
    simp only [ycr]
    cases hb : Nat.ble 1000000 k with
    | true => simp [hb] at hl
    | false =>
      simp only [hb] at hl
      rw [yfr (by have := nble hb; omega)]
      cases o with
      | none => exact lowM_fresh hj hl
      | some o =>
        cases ho : lowO o with
        | false => simp [ho] at hl
        | true =>
          simp only [ho] at hl
          simp only [lowO.ment hj ho]
          exact lowM_fresh hj hl
theorem fresh_fam {t : List (Nat × AV)} {n : Nat} (ht : lowT t = true) (hf : lowM f = true) (hM : Nat.blt M 1000000 = true) (hn : n = rows.length) (he : lowA.lowL extra = true) : Fresh (S t (f ++ yei M sz rows extra)) (fam M n) := by
  have hM' : M < 1000000 := by simpa using hM
  have hb := fam_big M n
  have h2 : ycr (fam M n) (f ++ yei M sz rows extra) = true := freshH_app (lowM_fresh hb hf) (freshH_matH (Ne.symm (yee hM')) (fun i hi e => by have := fam_inj e; omega) (lowA.ment.rowsM hb he))
  exact ⟨(freshH_look h2).1, fun x y h => (lowT_look ht x y h |> lowA.ment hb), (freshH_look h2).2⟩

section
variable {P : Program} {T : Nat → Option Ty} {N : Nat} {ops : Array Oper} {lf : Oper → Bool} {Q : SS → Prop} {t : List (Nat × AV)} {h : List (Nat × Option LObj)} {rest : List Oper} {d : Nat} {op : Op} {ty : TypeId} {pos : String} {af : Array Edge} {gd : Option (Nat × Bool)} {r : AV}
theorem L_hs {l : List Oper} {t : List (Nat × AV)} {h h' : List (Nat × Option LObj)} (he : yap h = yap h') (k : Lex P N ops lf Q l (S t h')) : Lex P N ops lf Q l (S t h) := by
  have : S t h = S t h' := by unfold S; rw [he]
  rw [this]
  exact k
theorem L_makeI (hT : TOK P T) {ti e es eb sz : Nat} {ea ag : Bool} {ez z : List Value} {x y : Operand} {m : Nat} (id : Nat) (hk : T ti = some ⟨.slc e es ea eb ez, sz, ag, z⟩) (hone : ez.all Value.oneCell' = true) (hx : evF (look t) x = some (.v (.int .i64 m))) (hy : evF (look t) y = some (.v (.int .i64 m))) (hm : m ≤ 4294967296 ∧ eb * m ≤ 281474976710656)
    (hf : Fresh (S t h) id) (hl : lf ⟨some d, .makeSlice ti x y, ty, pos, af, gd⟩ = true) (hw : yax ops (look t) ⟨some d, .makeSlice ti x y, ty, pos, af, gd⟩ = some true) (hd : Nat.blt d N = true)
    (k : Lex P N ops lf Q rest (S ((d, .ls id es m) :: t) ((id, some (.vec (repA m (vMap ez)))) :: h))) : Lex P N ops lf Q (⟨some d, .makeSlice ti x y, ty, pos, af, gd⟩ :: rest) (S t h) :=
  L_loud hl hw (by rw [← S_upd]; exact make_loud hT rfl rfl (by simpa using hd) id hk hone hx hy hm hf) k
theorem cellsO_matO (xs : List AV) : ycn (some (matO xs)) = some xs := by cases xs <;> rfl
theorem withCells_matO {xs : List AV} (h : xs ≠ []) : matO xs = .mcells xs := by cases xs <;> simp_all [matO]
theorem L_storeM (hT : TOK P T) {ti : Nat} {y : Ty} {x v : Operand} {id off : Nat} {xs : List AV} {u : AV} (hy : T ti = some y) (hx : evF (look t) x = some (.lp id off)) (hv : evF (look t) v = some u) (hcs : ydr u = some [u]) (hcl : Nat.beq 1 y.size = true) (hh : yap h id = some (matO xs)) (hlt : off < xs.length)
    (hl : lf ⟨none, .store ti x v, ty, pos, af, gd⟩ = true) (hw : yax ops (look t) ⟨none, .store ti x v, ty, pos, af, gd⟩ = some true) (k : Lex P N ops lf Q rest (S t ((id, some (matO (xs.set off u))) :: h))) : Lex P N ops lf Q (⟨none, .store ti x v, ty, pos, af, gd⟩ :: rest) (S t h) := by
  have hne : xs ≠ [] := by intro h0; simp [h0] at hlt
  have he : xs.set off u = xs.take off ++ [u] ++ xs.drop (off + [u].length) := by
    rw [List.set_eq_take_append_cons_drop, if_pos hlt]; simp
  rw [withCells_matO hne] at hh
  rw [withCells_matO (by intro h0; have := congrArg List.length h0; simp at this; exact hne this)] at k
  refine L_loud hl hw (by rw [← S_h, he]; exact store_loud rfl rfl (hT _ _ hy).1 hx hv hcs (by simpa using hcl) hh (.mcells (by simp; omega) hne)) k
theorem L_storeI (hT : TOK P T) {ti : Nat} {y : Ty} {x v : Operand} {id off : Nat} {xs : List AV} {u : AV} {h' : List (Nat × Option LObj)} (hy : T ti = some y) (hx : evF (look t) x = some (.lp id off)) (hv : evF (look t) v = some u) (hcs : ydr u = some [u]) (hcl : Nat.beq 1 y.size = true) (hh : yap h id = some (.vec xs)) (hlt : off < xs.length) (hp : ybl u = true)
    (he : yap ((id, some (.vec (xs.set off u))) :: h) = yap h') (hl : lf ⟨none, .store ti x v, ty, pos, af, gd⟩ = true) (hw : yax ops (look t) ⟨none, .store ti x v, ty, pos, af, gd⟩ = some true) (k : Lex P N ops lf Q rest (S t h')) : Lex P N ops lf Q (⟨none, .store ti x v, ty, pos, af, gd⟩ :: rest) (S t h) :=
  ybu hT hy hx hv hcs hcl hh hlt hp hl hw (L_hs he k)
theorem A_asMat {c : Code} {Q : Exit → SS → Prop} (id : Nat) {xs : List AV} (ys : List AV) (hx : yap h id = some (.vec xs)) (he : xs = ys) (k : A P N c Q (S t ((id, some (matO ys)) :: h))) : A P N c Q (S t h) := by
  subst he
  intro B ok0 lv a w hs
  refine k B ok0 lv a w ⟨⟨hs.inv.base, hs.inv.ok0lt, fun j hj => ?_, hs.inv.inj, fun j x hj => ?_⟩, hs.size, hs.frame, hs.defers, hs.big, fun j b ws hN hj hc hb => ?_⟩
  · refine hs.inv.dom j ?_
    simp only [S, yap] at hj ⊢
    split at hj
    · cases hj
    · exact hj
  · simp only [S, yap] at hj
    split at hj
    · rename_i hb
      cases hj
      have e := Nat.eq_of_beq_eq_true hb
      subst e
      obtain ⟨b, n, h1, h2⟩ := hs.inv.obj j _ hx
      refine ⟨b, n, h1, ?_⟩
      cases xs with
      | nil => exact h2
      | cons x xs =>
        cases b with
        | none => simp [OwnAt] at h2
        | some b => exact ⟨h2.1, h2.2.1, h2.2.2.1⟩
    · exact hs.inv.obj j x hj
  · simp only [S, yap] at hj
    split at hj
    · cases hj
      cases xs <;> cases hc
    · exact hs.pin j b ws hN hj hc hb
end

theorem matH_keys {id : Nat} {o : LObj} (h : yap (yei M sz rows extra) id = some o) : id = M ∨ ∃ i, i < rows.length ∧ id = fam M i := by
  by_cases hM : id = M
  · exact .inl hM
  · unfold yei at h
    rw [ybp hM] at h
    by_cases he : ∃ i, id = fam M i
    · obtain ⟨i, rfl⟩ := he
      have h2 := famL_at M 0 i rows
      rw [Nat.zero_add] at h2
      rw [h2] at h
      refine .inr ⟨i, ?_, rfl⟩
      cases hr : rows[i]? with
      | none => simp [hr] at h
      | some r => exact (List.getElem?_eq_some_iff.1 hr).1
    · rw [famL_no M 0 rows fun i _ e => he ⟨i, e⟩] at h
      cases h
theorem matH_at_M : yap (yei M sz rows extra) M = some (matO (matC M sz 0 rows ++ extra)) := yao
theorem matH_at_fam (hM : M < 1000000) (i : Nat) : yap (yei M sz rows extra) (fam M i) = (rows[i]?).map LObj.vec := by
  have := mat_at (f := []) (sz := sz) (rows := rows) (extra := extra) rfl hM i
  simpa using this
theorem noC_mat (hM : M < 1000000) {id : Nat} {o : LObj} (h : yap (yei M sz rows extra) id = some o) : isC o = false := by
  rcases matH_keys h with rfl | ⟨i, _, rfl⟩
  · rw [matH_at_M] at h
    cases h
    cases matC id sz 0 rows ++ extra <;> rfl
  · rw [matH_at_fam hM] at h
    cases hr : rows[i]? with
    | none => simp [hr] at h
    | some r => simp only [hr, Option.map_some, Option.some.injEq] at h; subst h; rfl
theorem mat_end (hf : lowH f = true) (hM : M < 1000000) (hk : (f.all fun x => !Nat.beq x.1 M) = true) : ∀ id o, yap (yei M sz rows extra) id = some o → yap (f ++ yei M sz rows extra) id = some o := fun id o h => by
  rw [yby f _ fun x hx => ?_]
  · exact h
  · rcases matH_keys h with rfl | ⟨i, _, rfl⟩
    · have := List.all_eq_true.1 hk x hx
      intro e
      simp [e] at this
    · exact yee (lowH_spec hf x hx)
theorem conO_of {P : Program} {T : Nat → Option Ty} (hT : TOK P T) {fid : FuncId} {fn : Func} {c : Code} {N : Nat} {rs : List ResultVar} {args : List AV} {r : AV} {M sz : Nat} {rows : List (List AV)} (hf : P.funcs[fid]? = some fn) (hn : (fn.name == "runtime.NumGoroutine") = false) (hb : fn.body = some c) (hN : fn.ntmps = N) (hrs : fn.results = rs.toArray) (hlen : (Nat.ble args.length N && Nat.ble N 1000000) = true) (hM : Nat.blt M 1000000 = true)
    (h : A P N c (EndsM T rs r (yap (yei M sz rows []))) (S (enumF 0 args) [])) : ConM P fid args (fun _ => none) r (yap (yei M sz rows [])) :=
  conM_of hT hf hn hb hN hrs hlen (fun id o ho hc => by rw [noC_mat (by simpa using hM) ho] at hc; cases hc) h
theorem renA_pure {σ : Nat → Nat} : ∀ {x : AV}, ybl x = true → renA σ x = x
  | .v _, _ => rfl
  | .any, _ => rfl
  | .one, _ => rfl
  | .sl _ _, _ => rfl
  | .dp _ _, _ => rfl
  | .mv _, _ => rfl
  | .agg cs, h => by simp only [renA, rows (cs := cs) h]
  | .tup cs, h => by simp only [renA, rows (cs := cs) h]
  | .fn _ cs, h => by simp only [renA, rows (cs := cs) h]
  where rows : ∀ {cs : List AV}, ybl.pureL cs = true → renA.renL σ cs = cs
  | [], _ => rfl
  | c :: cs, h => by
    simp only [ybl.pureL, Bool.and_eq_true] at h
    simp only [renA.renL, renA_pure h.1, rows h.2]
def famS (d j : Nat) : Nat := match Nat.ble 1000000 j with
  | false => d
  | true => d + (j / 1000000) * 1000000
theorem famS_low {d j : Nat} (h : j < 1000000) : famS d j = d := by
  unfold famS
  cases hb : Nat.ble 1000000 j with
  | false => rfl
  | true => have := Nat.le_of_ble_eq_true hb; omega
theorem famS_high {d j : Nat} (h : 1000000 ≤ j) : famS d j = d + (j / 1000000) * 1000000 := by
  unfold famS
  cases hb : Nat.ble 1000000 j with
  | false => have := nble hb; omega
  | true => rfl
theorem fam_div {M k : Nat} (hM : M < 1000000) : fam M k / 1000000 = k + 1 := by unfold fam; omega
theorem famS_fam {d M k : Nat} (hM : M < 1000000) : famS d (fam M k) = fam d k := by
  rw [famS_high (fam_big M k), fam_div hM]
  unfold fam
  omega
theorem renL_matC {d M sz : Nat} (hM : M < 1000000) : ∀ (k : Nat) (rows : List (List AV)), renA.renL (famS d) (matC M sz k rows) = matC d sz k rows
  | _, [] => rfl
  | k, r :: rs => by simp only [matC, renA.renL, renA, famS_fam hM, renL_matC hM (k + 1) rs]
theorem onlyL_matC {ids : List Nat} {M sz : Nat} : ∀ (k : Nat) (rows : List (List AV)), (∀ i, i < k + rows.length → fam M i ∈ ids) → onlyA.onlyL ids (matC M sz k rows) = true
  | _, [], _ => rfl
  | k, r :: rs, h => by
    simp only [matC, onlyA.onlyL, onlyA, Bool.and_eq_true]
    exact ⟨List.contains_iff_mem.2 (h k (by simp)), onlyL_matC (k + 1) rs fun i hi => h i (by simp; omega)⟩
theorem freshH_key {d : Nat} : ∀ {h : List (Nat × Option LObj)}, ycr d h = true → ∀ x ∈ h, x.1 ≠ d
  | [], _, x, hx => by simp at hx
  | (k, o) :: h, hh, x, hx => by
    simp only [ycr] at hh
    cases hb : Nat.beq d k with
    | true => simp [hb] at hh
    | false =>
      simp only [hb] at hh
      rcases List.mem_cons.1 hx with rfl | hx
      · intro e
        simp only at e
        subst e
        simp at hb
      · refine freshH_key ?_ x hx
        cases o with
        | none => exact hh
        | some o =>
          cases ho : mentO d o with
          | true => simp [ho] at hh
          | false => simpa [ho] using hh
section
variable {P : Program} {T : Nat → Option Ty} {N : Nat} {ops : Array Oper} {lf : Oper → Bool} {Q : SS → Prop} {t : List (Nat × AV)} {h : List (Nat × Option LObj)} {rest : List Oper} {d : Nat} {op : Op} {ty : TypeId} {pos : String} {af : Array Edge} {gd : Option (Nat × Bool)} {r : AV}
theorem L_callO {g : Operand} {args : List Operand} {ats : Array TypeId} {fid : FuncId} {caps xs : List AV} {M0 sz : Nat} {rows : List (List AV)} (hc : ConM P fid (xs ++ caps) (fun _ => none) r (yap (yei M0 sz rows []))) (hM : Nat.blt M0 1000000 = true) (hg : evF (look t) g = some (.fn fid caps)) (hx : evL (evF (look t)) args = some xs) (hp : ybl.pureL (xs ++ caps) = true)
    (hr : onlyA (M0 :: (List.range rows.length).map (fam M0)) r = true) (h1 : freshT d t = true) (h2 : lowT t = true) (h3 : ycr d h = true) (h4 : lowM h = true) (h5 : Nat.blt d 1000000 = true) (hl : lf ⟨some d, .call { callee := .value g, args := args.toArray, argTypes := ats }, ty, pos, af, gd⟩ = true)
    (hw : yax ops (look t) ⟨some d, .call { callee := .value g, args := args.toArray, argTypes := ats }, ty, pos, af, gd⟩ = some true) (hd : Nat.blt d N = true) (k : Lex P N ops lf Q rest (S ((d, renA (famS d) r) :: t) (h ++ yei d sz rows []))) :
    Lex P N ops lf Q (⟨some d, .call { callee := .value g, args := args.toArray, argTypes := ats }, ty, pos, af, gd⟩ :: rest) (S t h) := by
  have hM' : M0 < 1000000 := by simpa using hM
  have hd' : d < 1000000 := by simpa using h5
  have hids : ∀ i ∈ M0 :: (List.range rows.length).map (fam M0), i = M0 ∨ ∃ j, j < rows.length ∧ i = fam M0 j := fun i hi => by
    rcases List.mem_cons.1 hi with rfl | hi
    · exact .inl rfl
    · obtain ⟨j, hj, rfl⟩ := List.mem_map.1 hi
      exact .inr ⟨j, by simpa using hj, rfl⟩
  have hfam : ∀ j, j < rows.length → fam M0 j ∈ M0 :: (List.range rows.length).map (fam M0) := fun j hj => List.mem_cons_of_mem _ (List.mem_map.2 ⟨j, by simpa using hj, rfl⟩)
  have hsig : ∀ i ∈ M0 :: (List.range rows.length).map (fam M0), famS d i = d ∨ 1000000 ≤ famS d i := fun i hi => by
    rcases hids i hi with rfl | ⟨j, _, rfl⟩
    · exact .inl (famS_low hM')
    · exact .inr (by rw [famS_fam hM']; exact fam_big d j)
  refine L_loud hl hw ?_ k
  refine callM_loud (σ := famS d) (ids := M0 :: (List.range rows.length).map (fam M0)) (hm := fun _ => none) (hm' := yap (yei M0 sz rows [])) (r := r) (args0 := xs ++ caps) rfl rfl (by simpa using hd) hg hx ?_ hc ?_ (fun id hs => by simp at hs) ?_ (fun id o ho => by cases ho) hr ?_ ?_ ?_ ?_
  · have : ∀ l : List AV, ybl.pureL l = true → l = l.map (renA (famS d)) := by
      intro l hl
      rw [← yco, renA_pure.rows hl]
    exact this _ hp
  · intro i hi j hj e
    rcases hids i hi with rfl | ⟨a, _, rfl⟩ <;> rcases hids j hj with rfl | ⟨b, _, rfl⟩
    · rfl
    · rw [famS_low hM', famS_fam hM'] at e
      exact absurd e (yee hd')
    · rw [famS_low hM', famS_fam hM'] at e
      exact absurd e.symm (yee hd')
    · rw [famS_fam hM', famS_fam hM'] at e
      rw [fam_inj e]
  · intro id hs
    obtain ⟨o, ho⟩ := Option.isSome_iff_exists.1 hs
    rcases matH_keys ho with rfl | ⟨i, hi, rfl⟩
    · exact List.mem_cons_self
    · exact hfam i hi
  · intro id o ho
    rcases matH_keys ho with rfl | ⟨i, hi, rfl⟩
    · rw [matH_at_M] at ho
      cases ho
      rw [List.append_nil]
      have := onlyL_matC (M := id) (sz := sz) (ids := id :: (List.range rows.length).map (fam id)) 0 rows fun i hi => hfam i (by omega)
      cases hm : matC id sz 0 rows with
      | nil => rfl
      | cons a l => rw [hm] at this; exact this
    · rw [matH_at_fam hM'] at ho
      cases hr : rows[i]? with
      | none => simp [hr] at ho
      | some r => simp only [hr, Option.map_some, Option.some.injEq] at ho; subst ho; rfl
  · intro x y hy
    simp only [S, look] at hy
    cases hb : Nat.beq x d with
    | true =>
      simp only [hb, Option.some.injEq] at hy
      exact .inl ⟨Nat.eq_of_beq_eq_true hb, hy.symm⟩
    | false =>
      simp only [hb] at hy
      refine .inr ⟨by rintro rfl; simp at hb, .inr ⟨hy, .inl fun i hi => ?_⟩⟩
      rcases hsig i hi with e | e
      · rw [e]; exact freshT_look h1 x y hy
      · exact lowA.ment e (lowT_look h2 x y hy)
  · intro i hi
    show yap (h ++ yei d sz rows []) (famS d i) = _
    rw [yby h _ fun x hx => ?_]
    · rcases hids i hi with rfl | ⟨j, _, rfl⟩
      · rw [famS_low hM', matH_at_M, matH_at_M]
        simp only [List.append_nil, Option.map_some, Option.some.injEq]
        have := renL_matC (d := d) (sz := sz) hM' 0 rows
        cases hm : matC i sz 0 rows with
        | nil => rw [hm] at this; rw [← this]; rfl
        | cons a l => rw [hm] at this; rw [← this]; rfl
      · rw [famS_fam hM', matH_at_fam hd', matH_at_fam hM']
        cases rows[j]? <;> rfl
    · rcases hsig i hi with e | e
      · rw [e]; exact freshH_key h3 x hx
      · have := lowH_spec (lowM_low h4) x hx
        omega
  · intro j ob' hj hob
    have hob2 : yap h j = some ob' := by
      rcases ydz h (yei d sz rows []) (j := j) with e | ⟨_, e⟩
      · exact e.symm.trans hob
      · have hob3 : yap (yei d sz rows []) j = some ob' := e.symm.trans hob
        exfalso
        rcases matH_keys hob3 with rfl | ⟨i, hi, rfl⟩
        · exact hj M0 List.mem_cons_self (famS_low hM')
        · exact hj (fam M0 i) (hfam i hi) (famS_fam hM')
    refine ⟨fun i hi => ?_, ob', hob2, .inl rfl⟩
    rcases hsig i hi with e | e
    · rw [e]; exact (freshH_look h3).2 j ob' hob2
    · exact lowO.ment e (lowM_look h4 j ob' hob2).1
end

theorem ls_to_slM {h : Nat → Option LObj} {id len : Nat} {xs ys : List AV} {B : Bse} {ok0 : Nat → Prop} {lv : Live} {w : World} {u : Value} (hi : Inv B ok0 h lv w) (hr : Rel (ybo B ok0 lv w) w lv (.ls id 1 len) u) (hx : h id = some (matO xs)) (hlen : ys.length = len) (hxy : xs.length = ys.length)
    (ok' : Nat → Prop) (hk2 : ∀ b n, lv id = some (some b, n) → ok' b) (hconv : ∀ (j : Nat) (x y : AV), xs[j]? = some x → ys[j]? = some y → ydj y = true ∧ ∀ u, Rel (ybo B ok0 lv w) w lv x u → Rel ok' w (fun _ => none) y u) : Rel ok' w (fun _ => none) (.sl 1 (ys.map fun y => [y])) u := by
  subst hlen
  cases hr with
  | ls _ hone hls =>
    have hnil : (∃ n, lv id = some (none, n)) ∨ ∃ b n, lv id = some (some b, n) ∧ B.mine b ∧ b < w.heap.size ∧ BlkAt (ybo B ok0 lv w) lv w b n xs := by
      obtain ⟨b, n, h1, h2⟩ := hi.obj id _ hx
      cases b with
      | none => exact .inl ⟨n, h1⟩
      | some b =>
        obtain ⟨h2, h3, h4⟩ := h2
        cases xs with
        | nil => exact .inr ⟨b, n, h1, h2, h3, h4.1⟩
        | cons x xs => exact .inr ⟨b, n, h1, h2, h3, h4⟩
    rcases hnil with ⟨n, h1⟩ | ⟨b, n, h1, h2, h3, h4⟩
    · obtain ⟨rfl, h0⟩ := hls _ _ h1
      obtain rfl := List.eq_nil_of_length_eq_zero h0
      exact rel_nil_sl
    obtain ⟨cap, rfl, hcap, hmax, hn⟩ := hls (some b) n h1
    obtain ⟨c, e, g1, g2, g3, g4, g5⟩ := h4
    have hcells : ∀ (i j : Nat) (row : List AV) (y : AV), (ys.map fun y => [y])[i]? = some row → row[j]? = some y → j = 0 ∧ ∃ u, c[i]? = some u ∧ ydj y = true ∧ Rel ok' w (fun _ => none) y u := by
      intro i j row y hrow hy
      rw [List.getElem?_map] at hrow
      cases hyi : ys[i]? with
      | none => simp [hyi] at hrow
      | some y' =>
        simp only [hyi, Option.map_some, Option.some.injEq] at hrow
        subst hrow
        match j with
        | j + 1 => simp at hy
        | 0 =>
          simp only [List.getElem?_cons_zero, Option.some.injEq] at hy
          subst hy
          have hlt := (List.getElem?_eq_some_iff.1 hyi).1
          obtain ⟨x, hxi⟩ : ∃ x, xs[i]? = some x := ⟨_, List.getElem?_eq_getElem (by omega)⟩
          have hci : i < c.size := by omega
          obtain ⟨q1, q2⟩ := hconv i x y' hxi hyi
          exact ⟨rfl, _, Array.getElem?_eq_getElem hci, q1, q2 _ (g5 i x _ hxi (Array.getElem?_eq_getElem hci))⟩
    have hl : (ys.map fun y => [y]).length = ys.length := by simp
    have := Rel.sl (ok := ok') (w := w) (lv := fun _ => none) (size := 1) (rows := ys.map fun y => [y]) (some ⟨b, 0, none⟩) cap (fun i _ => c.getD i undef) b 0 (by rw [hl]; exact hcap) hmax (fun h => by cases h) (fun row hr => by obtain ⟨y, _, rfl⟩ := List.mem_map.1 hr; rfl) (fun _ => ⟨rfl, hk2 b n h1⟩) (fun i j row x hrow hx => ?_) (fun i j row x hrow hx => ?_)
    · rw [hl] at this
      exact this
    · obtain ⟨rfl, u, hu, hc, _⟩ := hcells i j row x hrow hx
      refine ⟨?_, hc⟩
      simp only [World.cell?, g1]
      simp [Nat.zero_add, hu, Array.getD_eq_getD_getElem?]
    · obtain ⟨rfl, u, hu, _, hr⟩ := hcells i j row x hrow hx
      have : c.getD i undef = u := by simp [Array.getD_eq_getD_getElem?, hu]
      simp only [this]
      exact hr
theorem Frz.mat {els : List (List (List AV))} (hf : lowH f = true) (hM : Nat.blt M 1000000 = true) (hk : (f.all fun x => !Nat.beq x.1 M) = true) (hs : 0 < sz) (hsz : ∀ r ∈ els, ∀ e ∈ r, e.length = sz) {n : Nat} (hn : n = els.length) (hrows : rows = els.map List.flatten) :
    Frz (yap (f ++ yei M sz rows [])) (.ls M 1 n) (.sl 1 (els.map fun r => [.sl sz r])) := by
  subst hn hrows
  have hM' : M < 1000000 := by simpa using hM
  intro B ok0 lv w u hi hr
  have h1 : yap (f ++ yei M sz (els.map List.flatten) []) M = some (matO (matC M sz 0 (els.map List.flatten))) := by
    rw [mat_end hf hM' hk M _ matH_at_M, List.append_nil]
  have hlv : ∀ id b n, lv id = some (some b, n) → (ok0 b ∨ B.mine b) ∧ b < w.heap.size := fun id b n hb => by obtain ⟨_, _, h1, h2, _⟩ := hi.lvat hb; exact ⟨.inr h1, h2⟩
  have := ls_to_slM (ys := els.map fun r => .sl sz r) hi hr h1 (by simp) (by rw [matC_len]; simp) (fun g => (ok0 g ∨ B.mine g) ∧ g < w.heap.size) (fun b n hb => hlv M b n hb) (fun j x y hx hy => ?_)
  · rw [List.map_map] at this
    exact this
  · rw [matC_get, List.getElem?_map] at hx
    rw [List.getElem?_map] at hy
    cases hj : els[j]? with
    | none => simp [hj] at hx
    | some r =>
      simp only [hj, Option.map_some, Option.some.injEq] at hx hy
      subst hx hy
      refine ⟨rfl, fun u hu => ?_⟩
      rw [Nat.zero_add] at hu
      have hrow := mat_at (f := f) (sz := sz) (rows := els.map List.flatten) (extra := []) hf hM' j
      rw [List.getElem?_map, hj] at hrow
      simp only [Option.map_some] at hrow
      have hr1 : ∀ e ∈ r, e.length = sz := hsz r (List.mem_of_getElem? hj)
      have hfl : r.flatten.length / sz = r.length := by
        have : ∀ r : List (List AV), (∀ e ∈ r, e.length = sz) → r.flatten.length = r.length * sz := by
          intro r
          induction r with
          | nil => intro _; simp
          | cons e r ih =>
            intro he
            rw [List.flatten_cons, List.length_append, ih fun e h => he e (by simp [h]), he e (by simp), List.length_cons, Nat.succ_mul, Nat.add_comm]
        rw [this r hr1]
        exact Nat.mul_div_cancel _ hs
      rw [hfl] at hu
      refine ls_to_sl hi hu (by rw [hrow]; rfl) rfl hr1 rfl (fun x hx i => ?_) _ (fun g hg => ⟨hg.1, hg.2.1⟩) (fun b n hb => hlv _ b n hb)
      obtain ⟨b, n, q1, q2⟩ := hi.obj _ _ hrow
      cases b with
      | none =>
        rcases q2 with q2 | ⟨e, q2⟩
        · simp only [LObj.vec.injEq] at q2
          rw [q2] at hx
          simp at hx
        · cases q2
      | some b => exact ybl.ment (q2.2.2.2 x hx)
theorem A_invS {α : Type} {P : Program} {N : Nat} {c : Code} {Q : Exit → SS → Prop} {t0 : List (Nat × AV)} {h0 : List (Nat × Option LObj)} (t : α → List (Nat × AV)) (h : α → List (Nat × Option LObj)) (m : α → Nat) (I : α → Prop) (a : α) (hI : I a) (h1 : subT t0 (t a)) (h2 : ∀ id o, yap (h a) id = some o → yap h0 id = some o) (round : ∀ a, I a → A P N c (RndI t h m I a Q) (S (t a) (h a))) : A P N (.loop c) Q (S t0 h0) := by
  refine A_loop (fun n s => ∃ b, I b ∧ m b = n ∧ Sub (S (t b) (h b)) s) (m a) ⟨a, hI, rfl, yce h1, h2⟩ ?_
  rintro n s ⟨b, hb, rfl, hsub⟩
  refine (A_weak (round b hb) hsub).mono fun e s' hq => ?_
  cases e with
  | normal =>
    obtain ⟨b', h3, h4, h5⟩ := hq
    exact ⟨m b', h4, b', h3, rfl, h5⟩
  | _ => exact hq
theorem rndS {α : Type} {t : α → List (Nat × AV)} {h : α → List (Nat × Option LObj)} {m : α → Nat} {I : α → Prop} {a : α} {Q : Exit → SS → Prop} {t1 : List (Nat × AV)} {h1 : List (Nat × Option LObj)} (b : α) (hI : I b) (hm : m b < m a) (g1 : subT t1 (t b)) (g2 : ∀ id o, yap (h b) id = some o → yap h1 id = some o) : RndI t h m I a Q .normal (S t1 h1) :=
  ⟨b, hI, hm, yce g1, g2⟩
theorem hsE {h h' : List (Nat × Option LObj)} (e : yap h = yap h') : ∀ id o, yap h' id = some o → yap h id = some o := fun id o ho => by rw [e]; exact ho
theorem hlook_left : ∀ {f g : List (Nat × Option LObj)} {j : Nat} {o : LObj}, yap f j = some o → yap (f ++ g) j = some o
  | [], g, j, o, h => by simp [yap] at h
  | (k, x) :: f, g, j, o, h => by
    simp only [yap, List.cons_append] at h ⊢
    cases hb : Nat.beq j k with
    | true => simpa [hb] using h
    | false => simp only [hb] at h ⊢; exact hlook_left h
theorem hsM {f' : List (Nat × Option LObj)} (hs : subH f f') (hf : lowH f = true) (hM : Nat.blt M 1000000 = true) (hk : (f.all fun x => !Nat.beq x.1 M) = true) : ∀ id o, yap (f' ++ yei M sz rows extra) id = some o → yap (f ++ yei M sz rows extra) id = some o := fun id o ho => by
  rcases ydz f' (yei M sz rows extra) (j := id) with e | ⟨_, e⟩
  · rw [e] at ho
    exact hlook_left (yen hs id o ho)
  · rw [e] at ho
    exact mat_end hf (by simpa using hM) hk id o ho
end Go.Proofs.YtmlkdoimkdbdpaaGreatDoor
