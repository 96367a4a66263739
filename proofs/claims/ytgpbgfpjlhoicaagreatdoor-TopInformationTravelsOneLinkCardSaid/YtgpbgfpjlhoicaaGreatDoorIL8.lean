/- Part 8 of the texts under TopInformationTravelsOneLink: joined, with what it needs alone. -/
import Derived.WideKeyPair
import Derived.DeepKeys4
import Derived.Test.YtgpbgfpjlhoicaaGreatDoorIL1
import Derived.Test.YtgpbgfpjlhoicaaGreatDoorIL6
import Derived.Test.YtgpbgfpjlhoicaaGreatDoorIL7
set_option linter.unusedVariables false
set_option maxHeartbeats 4000000
namespace Go.Proofs.YtgpbgfpjlhoicaaGreatDoor
section
open Go.RowKit
theorem yaw {j d : Nat} {o : Option LObj} {h : List (Nat × Option LObj)} (hne : j ≠ d) : yad ((d, o) :: h) j = yad h j := by
 simp only [yad]
 rw [ydm hne]
theorem yah {d : Nat} {o : Option LObj} {h : List (Nat × Option LObj)} : yad ((d, o) :: h) d = o := by
 simp [yad]
theorem yhw {d : Nat} {a b : Option LObj} {h : List (Nat × Option LObj)} : yad ((d, a) :: (d, b) :: h) = yad ((d, a) :: h) := by
 funext j
 by_cases hj : j = d
 ·subst hj; rw [yah, yah]
 ·rw [yaw hj, yaw hj, yaw hj]
def fam (M k : Nat) : Nat := (k + 1) * 1000000 + M
theorem ygc (M k : Nat) : 1000000 ≤ fam M k := by unfold fam; omega
theorem yqh {M i j : Nat} (h : fam M i = fam M j) : i = j := by unfold fam at h; omega
theorem yed {d M k : Nat} (h : d < 1000000) : d ≠ fam M k := by have := ygc M k; omega
def yqg (M : Nat) : Nat → List (List AV) → List (Nat × Option LObj)
 | _, [] => []
 | k, r :: rs => (fam M k, some (.vec r)) :: yqg M (k + 1) rs
def yfz (M sz : Nat) : Nat → List (List AV) → List AV
 | _, [] => []
 | k, r :: rs => .ls (fam M k) sz (r.length / sz) :: yfz M sz (k + 1) rs
def yjq : List AV → LObj
 | [] => .vec []
 | x :: xs => .mcells (x :: xs)
def yek (M sz : Nat) (rows : List (List AV)) (extra : List AV) : List (Nat × Option LObj) :=
 (M, some (yjq (yfz M sz 0 rows ++ extra))) :: yqg M 0 rows
theorem yev (M sz : Nat) : ∀ (k : Nat) (rows : List (List AV)), (yfz M sz k rows).length = rows.length
 | _, [] => rfl
 | k, r :: rs => by simp [yfz, yev M sz (k + 1) rs]
theorem yfl (M sz : Nat) : ∀ (k i : Nat) (rows : List (List AV)), (yfz M sz k rows)[i]? = (rows[i]?).map fun r => .ls (fam M (k + i)) sz (r.length / sz)
 | _, _, [] => by simp [yfz]
 | k, 0, r :: rs => by simp [yfz]
 | k, i + 1, r :: rs => by
  simp only [yfz, List.getElem?_cons_succ, yfl M sz (k + 1) i rs]
  rw [show k + 1 + i = k + (i + 1) by omega]
theorem ykm (M : Nat) : ∀ (k i : Nat) (rows : List (List AV)), yad (yqg M k rows) (fam M (k + i)) = (rows[i]?).map LObj.vec
 | _, _, [] => by simp [yqg, yad]
 | k, 0, r :: rs => by simp [yqg, yad]
 | k, i + 1, r :: rs => by
  simp only [yqg, List.getElem?_cons_succ]
  rw [yaw (fun h => by have := yqh h; omega), show k + (i + 1) = k + 1 + i by omega]
  exact ykm M (k + 1) i rs
theorem yjc (M : Nat) {j : Nat} : ∀ (k : Nat) (rows : List (List AV)), (∀ i, k ≤ i → j ≠ fam M i) → yad (yqg M k rows) j = none
 | _, [], _ => rfl
 | k, r :: rs, h => by
  simp only [yqg]
  rw [yaw (h k (Nat.le_refl k))]
  exact yjc M (k + 1) rs fun i hi => h i (by omega)
def zdm : List (Nat × Option LObj) → Bool
 | [] => true
 | (k, _) :: h => match Nat.ble 1000000 k with
  | true => false
  | false => zdm h
theorem ybi : ∀ (f g : List (Nat × Option LObj)) {j : Nat}, (∀ x ∈ f, x.1 ≠ j) → yad (f ++ g) j = yad g j
 | [], g, j, _ => rfl
 | (k, o) :: f, g, j, h => by
  rw [List.cons_append, yaw (fun e => h (k, o) (List.mem_cons_self) e.symm)]
  exact ybi f g fun x hx => h x (List.mem_cons_of_mem _ hx)
theorem ydf : ∀ (f g : List (Nat × Option LObj)) {j : Nat}, yad (f ++ g) j = yad f j ∨ ((∀ x ∈ f, x.1 ≠ j) ∧ yad (f ++ g) j = yad g j)
 | [], g, j => .inr ⟨by simp, rfl⟩
 | (k, o) :: f, g, j => by
  simp only [List.cons_append, yad]
  cases hb : Nat.beq j k with
  | true => exact .inl rfl
  | false =>
   rcases ydf f g (j := j) with h | ⟨h1, h2⟩
   ·exact .inl h
   ·refine .inr ⟨fun x hx => ?_, h2⟩
    rcases List.mem_cons.1 hx with rfl | hx
    ·intro e; simp only at e; subst e; simp at hb
    ·exact h1 x hx
theorem yfu : ∀ {f : List (Nat × Option LObj)}, zdm f = true → ∀ x ∈ f, x.1 < 1000000
 | [], _, x, hx => by simp at hx
 | (k, o) :: f, h, x, hx => by
  simp only [zdm] at h
  cases hb : Nat.ble 1000000 k with
  | true => simp [hb] at h
  | false =>
   simp only [hb] at h
   rcases List.mem_cons.1 hx with rfl | hx
   ·exact zsy hb
   ·exact yfu h x hx
variable {f : List (Nat × Option LObj)} {M sz : Nat} {rows : List (List AV)} {extra : List AV}
theorem yap (hf : zdm f = true) (hM : M < 1000000) {i : Nat} {r : List AV} (hr : rows[i]? = some r) : yad (f ++ yek M sz rows extra) (fam M i) = some (.vec r) := by
 rw [ybi f _ fun x hx => yed (yfu hf x hx)]
 unfold yek
 rw [yaw (Ne.symm (yed hM))]
 have := ykm M 0 i rows
 rw [Nat.zero_add] at this
 rw [this, hr]
 rfl
theorem ywz {j : Nat} (hj : j < 1000000) (o o' : LObj) (rows rows' : List (List AV)) : j ≠ M → yad (f ++ (M, some o) :: yqg M 0 rows) j = yad (f ++ (M, some o') :: yqg M 0 rows') j := fun hne => by
 rcases ydf f ((M, some o) :: yqg M 0 rows) (j := j) with h | ⟨h1, h2⟩
 ·rcases ydf f ((M, some o') :: yqg M 0 rows') (j := j) with h' | ⟨h1', h2'⟩
  ·rw [h, h']
  ·rw [h, h2']
   rw [yaw hne, yjc M 0 _ fun i _ => yed hj]
   rw [← List.append_nil f, ybi f [] h1']
   rfl
 ·rw [h2, ybi f _ h1]
  rw [yaw hne, yaw hne, yjc M 0 _ fun i _ => yed hj, yjc M 0 _ fun i _ => yed hj]
theorem zic {h : Nat → Option LObj} (hf : zdm f = true) (hM : M < 1000000) (h1 : ∀ j, j < 1000000 → h j = yad (f ++ yek M sz rows extra) j) (h2 : ∀ i, h (fam M i) = (rows[i]?).map LObj.vec) (h3 : ∀ j, 1000000 ≤ j → (∀ i, j ≠ fam M i) → h j = none) : h = yad (f ++ yek M sz rows extra) := by
 funext j
 by_cases hj : j < 1000000
 ·exact h1 j hj
 ·by_cases he : ∃ i, j = fam M i
  ·obtain ⟨i, rfl⟩ := he
   rw [h2, ybi f _ fun x hx => yed (yfu hf x hx)]
   unfold yek
   rw [yaw (Ne.symm (yed hM))]
   have := ykm M 0 i rows
   rw [Nat.zero_add] at this
   exact this.symm
  ·have he' : ∀ i, j ≠ fam M i := fun i e => he ⟨i, e⟩
   rw [h3 j (by omega) he', ybi f _ fun x hx => by have := yfu hf x hx; omega]
   unfold yek
   rw [yaw (by omega), yjc M 0 _ fun i _ => he' i]
theorem zal (hf : zdm f = true) (hM : M < 1000000) (i : Nat) : yad (f ++ yek M sz rows extra) (fam M i) = (rows[i]?).map LObj.vec := by
 rw [ybi f _ fun x hx => yed (yfu hf x hx)]
 unfold yek
 rw [yaw (Ne.symm (yed hM))]
 have := ykm M 0 i rows
 rwa [Nat.zero_add] at this
theorem zoq (hf : zdm f = true) (hM : M < 1000000) {j : Nat} (hj : 1000000 ≤ j) (he : ∀ i, j ≠ fam M i) : yad (f ++ yek M sz rows extra) j = none := by
 rw [ybi f _ fun x hx => by have := yfu hf x hx; omega]
 unfold yek
 rw [yaw (by omega), yjc M 0 _ fun i _ => he i]
theorem matC_set (M sz k i : Nat) (rows : List (List AV)) (r : List AV) (hl : ∀ r', rows[i]? = some r' → r.length = r'.length) : yfz M sz k (rows.set i r) = yfz M sz k rows := by
 apply List.ext_getElem?
 intro j
 rw [yfl, yfl, List.getElem?_set]
 by_cases h : i = j
 ·subst h
  by_cases hi : i < rows.length
  ·have := hl _ (List.getElem?_eq_getElem hi)
   simp [hi, this]
  ·simp [hi]
 ·simp [h]
theorem mat_upd (hf : zdm f = true) (hM : M < 1000000) {i : Nat} {r r' : List AV} (hr : rows[i]? = some r') (hl : r.length = r'.length) : yad ((fam M i, some (.vec r)) :: (f ++ yek M sz rows extra)) = yad (f ++ yek M sz (rows.set i r) extra) := by
 have hi : i < rows.length := (List.getElem?_eq_some_iff.1 hr).1
 refine zic hf hM (fun j hj => ?_) (fun k => ?_) (fun j hj he => ?_)
 ·rw [yaw (yed hj)]
  unfold yek
  rw [matC_set _ _ _ _ _ _ fun r'' h'' => by rw [hr] at h''; cases h''; exact hl]
  by_cases hjM : j = M
  ·subst hjM
   rcases ydf f ((j, some (yjq (yfz j sz 0 rows ++ extra))) :: yqg j 0 rows) (j := j) with h | ⟨h1, h2⟩
   ·rcases ydf f ((j, some (yjq (yfz j sz 0 rows ++ extra))) :: yqg j 0 (rows.set i r)) (j := j) with h' | ⟨h1', h2'⟩
    ·rw [h, h']
    ·rw [ybi f _ h1', ybi f _ h1']
     rw [yah, yah]
   ·rw [ybi f _ h1, ybi f _ h1]
    rw [yah, yah]
  ·exact ywz hj _ _ _ _ hjM
 ·by_cases hk : k = i
  ·subst hk
   rw [yah]
   simp [hi]
  ·rw [yaw (fun e => hk (yqh e)), zal hf hM, List.getElem?_set, if_neg (fun e => hk e.symm)]
 ·rw [yaw (he i), zoq hf hM hj he]
theorem mat_add (hf : zdm f = true) (hM : M < 1000000) {n : Nat} {r : List AV} {ex ex' : List AV} (hn : n = rows.length) (he : .ls (fam M n) sz (r.length / sz) :: ex' = ex) : yad ((fam M n, some (.vec r)) :: (f ++ (M, some (yjq (yfz M sz 0 rows ++ ex))) :: yqg M 0 rows)) = yad (f ++ yek M sz (rows ++ [r]) ex') := by
 subst hn he
 have hc : yfz M sz 0 (rows ++ [r]) ++ ex' = yfz M sz 0 rows ++ .ls (fam M rows.length) sz (r.length / sz) :: ex' := by
  have : ∀ (rows : List (List AV)) (k : Nat), yfz M sz k (rows ++ [r]) = yfz M sz k rows ++ [.ls (fam M (k + rows.length)) sz (r.length / sz)] := by
   intro rows
   induction rows with
   | nil => intro k; simp [yfz]
   | cons a rs ih =>
    intro k
    simp only [List.cons_append, yfz, ih (k + 1), List.length_cons]
    rw [show k + 1 + rs.length = k + (rs.length + 1) by omega]
  rw [this]
  simp
 refine zic hf hM (fun j hj => ?_) (fun k => ?_) (fun j hj he => ?_)
 ·rw [yaw (yed hj)]
  unfold yek
  rw [hc]
  by_cases hjM : j = M
  ·subst hjM
   rcases ydf f ((j, some (yjq (yfz j sz 0 rows ++ .ls (fam j rows.length) sz (r.length / sz) :: ex'))) :: yqg j 0 rows) (j := j) with h | ⟨h1, h2⟩
   ·rcases ydf f ((j, some (yjq (yfz j sz 0 rows ++ .ls (fam j rows.length) sz (r.length / sz) :: ex'))) :: yqg j 0 (rows ++ [r])) (j := j) with h' | ⟨h1', h2'⟩
    ·rw [h, h']
    ·rw [ybi f _ h1', ybi f _ h1']
     rw [yah, yah]
   ·rw [ybi f _ h1, ybi f _ h1]
    rw [yah, yah]
  ·exact ywz hj _ _ _ _ hjM
 ·by_cases hk : k = rows.length
  ·subst hk
   rw [yah]
   simp
  ·rw [yaw (fun e => hk (yqh e))]
   have := zal (sz := sz) (rows := rows) (extra := .ls (fam M rows.length) sz (r.length / sz) :: ex') hf hM k
   unfold yek at this
   rw [this, List.getElem?_append]
   by_cases h1 : k < rows.length
   ·simp [h1]
   ·rw [if_neg h1, List.getElem?_eq_none (by omega), List.getElem?_eq_none (by simp; omega)]
 ·rw [yaw (he _)]
  exact zoq (extra := .ls (fam M rows.length) sz (r.length / sz) :: ex') hf hM hj he
theorem zft {M sz : Nat} {r : List AV} : ∀ (k : Nat) (rows : List (List AV)), yfz M sz k (rows ++ [r]) = yfz M sz k rows ++ [.ls (fam M (k + rows.length)) sz (r.length / sz)]
 | k, [] => by simp [yfz]
 | k, a :: rs => by
  simp only [List.cons_append, yfz, zft (k + 1) rs, List.length_cons]
  rw [show k + 1 + rs.length = k + (rs.length + 1) by omega]
theorem ymb {f : List (Nat × Option LObj)} {M : Nat} (hk : (f.all fun x => !Nat.beq x.1 M) = true) : ∀ x ∈ f, x.1 ≠ M := fun x hx e => by
 have := List.all_eq_true.1 hk x hx
 simp [e] at this
theorem zop (hf : zdm f = true) (hM : Nat.blt M 1000000 = true) (hk : (f.all fun x => !Nat.beq x.1 M) = true) {i k : Nat} {r : List AV} {a : AV} {ex : List AV} {rows' : List (List AV)} (hi : i = rows.length) (hr : r.length / sz = k) (he : extra = a :: ex) (hrows : rows' = rows ++ [r]) :
  yad ((M, some (yjq ((yfz M sz 0 rows ++ extra).set i (.ls (fam M i) sz k)))) :: (fam M i, some (.vec r)) :: (f ++ yek M sz rows extra)) = yad (f ++ yek M sz rows' ex) := by
 subst hi hr he hrows
 have hM' : M < 1000000 := by simpa using hM
 have hset : (yfz M sz 0 rows ++ a :: ex).set rows.length (.ls (fam M rows.length) sz (r.length / sz)) = yfz M sz 0 (rows ++ [r]) ++ ex := by
  rw [zft, List.append_assoc, List.set_append_right _ _ (Nat.le_of_eq (yev _ _ _ _)), yev, Nat.sub_self, Nat.zero_add]
  rfl
 rw [hset]
 refine zic hf hM' (fun j hj => ?_) (fun k => ?_) (fun j hj he => ?_)
 ·by_cases hjM : j = M
  ·subst hjM
   rw [yah, ybi f _ (ymb hk)]
   exact yah.symm
  ·rw [yaw hjM, yaw (yed hj)]
   exact ywz hj _ _ _ _ hjM
 ·rw [yaw (Ne.symm (yed hM'))]
  by_cases hk : k = rows.length
  ·subst hk
   rw [yah]
   simp
  ·rw [yaw (fun e => hk (yqh e)), zal hf hM', List.getElem?_append]
   by_cases h1 : k < rows.length
   ·simp [h1]
   ·rw [if_neg h1, List.getElem?_eq_none (by omega), List.getElem?_eq_none (by simp; omega)]
 ·rw [yaw (by omega), yaw (he _), zoq hf hM' hj he]
theorem yba (hk : (f.all fun x => !Nat.beq x.1 M) = true) : yad (f ++ yek M sz rows extra) M = some (yjq (yfz M sz 0 rows ++ extra)) := by
 rw [ybi f _ (ymb hk)]
 exact yah
def ypg : AV → Bool
 | .lp id _ => Nat.blt id 1000000
 | .ls id _ _ => Nat.blt id 1000000
 | .mp id => Nat.blt id 1000000
 | .agg cs => lowL cs
 | .tup cs => lowL cs
 | .fn _ cs => lowL cs
 | .fm _ cs => lowL cs
 | _ => true
 where lowL : List AV → Bool
 | [] => true
 | c :: cs => ypg c && lowL cs
theorem zhr {id j : Nat} (h : Nat.blt id 1000000 = true) (hj : 1000000 ≤ j) : Nat.beq id j = false := ydm (by have h2 : id < 1000000 := (by simpa using h); omega)
theorem ypg.ment {j : Nat} (hj : 1000000 ≤ j) : ∀ {x : AV}, ypg x = true → ment j x = false
 | .v _, _ => rfl
 | .any, _ => rfl
 | .one, _ => rfl
 | .sl _ _, _ => rfl
 | .dp _ _, _ => rfl
 | .mv _, _ => rfl
 | .lp id _, h => zhr h hj
 | .ls id _ _, h => zhr h hj
 | .mp id, h => zhr h hj
 | .agg cs, h => rowsM (cs := cs) h
 | .tup cs, h => rowsM (cs := cs) h
 | .fn _ cs, h => rowsM (cs := cs) h
 | .fm _ cs, h => rowsM (cs := cs) h
 where rowsM : ∀ {cs : List AV}, ypg.lowL cs = true → ment.mentL j cs = false
 | [], _ => rfl
 | c :: cs, h => by
  simp only [ypg.lowL, Bool.and_eq_true] at h
  simp only [ment.mentL, Bool.or_eq_false_iff]
  exact ⟨ypg.ment hj h.1, rowsM h.2⟩
def zrp : List (Nat × AV) → Bool
 | [] => true
 | (_, x) :: t => match ypg x with
  | true => zrp t
  | false => false
theorem yrm : ∀ {t : List (Nat × AV)}, zrp t = true → ∀ x y, look t x = some y → ypg y = true
 | [], _, x, y, h => by simp [look] at h
 | (d, r) :: t, hl, x, y, h => by
  simp only [zrp] at hl
  cases hr : ypg r with
  | false => simp [hr] at hl
  | true =>
   simp only [hr] at hl
   simp only [look] at h
   cases hb : Nat.beq x d with
   | true => simp only [hb, Option.some.injEq] at h; subst h; exact hr
   | false => simp only [hb] at h; exact yrm hl x y h
def zmt : LObj → Bool
 | .cells xs => ypg.lowL xs
 | .tcells _ xs => ypg.lowL xs
 | .mcells xs => ypg.lowL xs
 | _ => true
theorem zmt.ment {j : Nat} (hj : 1000000 ≤ j) {o : LObj} (h : zmt o = true) : yfv j o = false := by
 cases o <;> first | rfl | exact ypg.ment.rowsM hj h
def zhj : List (Nat × Option LObj) → Bool
 | [] => true
 | (k, o) :: h => match Nat.ble 1000000 k with
  | true => false
  | false => match o with
   | none => zhj h
   | some o => match zmt o with
    | true => zhj h
    | false => false
theorem yop : ∀ {h : List (Nat × Option LObj)}, zhj h = true → zdm h = true
 | [], _ => rfl
 | (k, o) :: h, hl => by
  simp only [zhj] at hl
  simp only [zdm]
  cases hb : Nat.ble 1000000 k with
  | true => simp [hb] at hl
  | false =>
   simp only [hb] at hl ⊢
   cases o with
   | none => exact yop hl
   | some o =>
    cases ho : zmt o with
    | false => simp [ho] at hl
    | true => simp only [ho] at hl; exact yop hl
theorem yjg : ∀ {h : List (Nat × Option LObj)}, zhj h = true → ∀ j ob, yad h j = some ob → zmt ob = true ∧ j < 1000000
 | [], _, j, ob, h => by simp [yad] at h
 | (k, o) :: h, hl, j, ob, hj => by
  simp only [zhj] at hl
  cases hb : Nat.ble 1000000 k with
  | true => simp [hb] at hl
  | false =>
   simp only [hb] at hl
   simp only [yad] at hj
   cases hk : Nat.beq j k with
   | true =>
    simp only [hk] at hj
    subst hj
    cases ho : zmt ob with
    | false => simp [ho] at hl
    | true => exact ⟨rfl, by rw [Nat.eq_of_beq_eq_true hk]; exact zsy hb⟩
   | false =>
    simp only [hk] at hj
    cases o with
    | none => exact yjg hl j ob hj
    | some o =>
     cases ho : zmt o with
     | false => simp [ho] at hl
     | true => simp only [ho] at hl; exact yjg hl j ob hj
theorem zib (x : AV) (hx : ypg x = true) : ∀ n, ypg.lowL (List.replicate n x) = true
 | 0 => rfl
 | n + 1 => by simp [List.replicate_succ, ypg.lowL, hx, zib x hx n]
theorem zkm (d : Nat) (x : AV) (hx : ment d x = false) : ∀ n, ment.mentL d (List.replicate n x) = false
 | 0 => rfl
 | n + 1 => by simp [List.replicate_succ, ment.mentL, hx, zkm d x hx n]
theorem yoq (d : Nat) (xs : List AV) : yfv d (yjq xs) = ment.mentL d xs := by cases xs <;> rfl
theorem zfw {d M sz : Nat} : ∀ (k : Nat) (rows : List (List AV)), (∀ i, k ≤ i → i < k + rows.length → d ≠ fam M i) → ment.mentL d (yfz M sz k rows) = false
 | _, [], _ => rfl
 | k, r :: rs, h => by
  simp only [yfz, ment.mentL, Bool.or_eq_false_iff]
  refine ⟨ydm (Ne.symm (h k (Nat.le_refl k) (by simp))), zfw (k + 1) rs fun i h1 h2 => h i (by omega) (by simp; omega)⟩
theorem zfv {d : Nat} : ∀ {a b : List AV}, ment.mentL d (a ++ b) = (ment.mentL d a || ment.mentL d b)
 | [], b => rfl
 | x :: a, b => by simp only [List.cons_append, ment.mentL, zfv, Bool.or_assoc]
theorem yom {d : Nat} : ∀ {a b : List (Nat × Option LObj)}, ycb d a = true → ycb d b = true → ycb d (a ++ b) = true
 | [], b, _, h => h
 | (i, o) :: a, b, h1, h2 => by
  simp only [ycb, List.cons_append] at h1 ⊢
  cases hb : Nat.beq d i with
  | true => simp [hb] at h1
  | false =>
   simp only [hb] at h1 ⊢
   cases o with
   | none => exact yom h1 h2
   | some o =>
    cases ho : yfv d o with
    | true => simp [ho] at h1
    | false => simp only [ho] at h1 ⊢; exact yom h1 h2
theorem yww {d M : Nat} : ∀ (k : Nat) (rows : List (List AV)), (∀ i, k ≤ i → i < k + rows.length → d ≠ fam M i) → ycb d (yqg M k rows) = true
 | _, [], _ => rfl
 | k, r :: rs, h => by
  simp only [yqg, ycb, yfv]
  rw [ydm (h k (Nat.le_refl k) (by simp))]
  exact yww (k + 1) rs fun i h1 h2 => h i (by omega) (by simp; omega)
theorem ywx {d : Nat} (hd : d ≠ M) (hr : ∀ i, i < rows.length → d ≠ fam M i) (he : ment.mentL d extra = false) : ycb d (yek M sz rows extra) = true := by
 unfold yek
 simp only [ycb, yoq, zfv, he, Bool.or_false]
 rw [ydm hd, zfw 0 rows fun i _ hi => hr i (by omega)]
 exact yww 0 rows fun i _ hi => hr i (by omega)
theorem zrn {d : Nat} (h1 : ycb d f = true) (h2 : Nat.beq d M = false) (h3 : Nat.blt d 1000000 = true) (he : ment.mentL d extra = false) : ycb d (f ++ yek M sz rows extra) = true :=
 yom h1 (ywx (by rintro rfl; simp at h2) (fun i _ => yed (by simpa using h3)) he)
theorem ytc {j : Nat} (hj : 1000000 ≤ j) : ∀ {h : List (Nat × Option LObj)}, zhj h = true → ycb j h = true
 | [], _ => rfl
 | (k, o) :: h, hl => by
  simp only [zhj] at hl
  simp only [ycb]
  cases hb : Nat.ble 1000000 k with
  | true => simp [hb] at hl
  | false =>
   simp only [hb] at hl
   rw [ydm (by have := zsy hb; omega)]
   cases o with
   | none => exact ytc hj hl
   | some o =>
    cases ho : zmt o with
    | false => simp [ho] at hl
    | true =>
     simp only [ho] at hl
     simp only [zmt.ment hj ho]
     exact ytc hj hl
theorem zfb {t : List (Nat × AV)} {n : Nat} (ht : zrp t = true) (hf : zhj f = true) (hM : Nat.blt M 1000000 = true) (hn : n = rows.length) (he : ypg.lowL extra = true) : yls (S t (f ++ yek M sz rows extra)) (fam M n) := by
 have hM' : M < 1000000 := by simpa using hM
 have hb := ygc M n
 have h2 : ycb (fam M n) (f ++ yek M sz rows extra) = true := yom (ytc hb hf) (ywx (Ne.symm (yed hM')) (fun i hi e => by have := yqh e; omega) (ypg.ment.rowsM hb he))
 exact ⟨(yei h2).1, fun x y h => (yrm ht x y h |> ypg.ment hb), (yei h2).2⟩
section
variable {P : Program} {T : Nat → Option Ty} {N : Nat} {ops : Array Oper} {lf : Oper → Bool} {Q : SS → Prop} {t : List (Nat × AV)} {h : List (Nat × Option LObj)} {rest : List Oper} {d : Nat} {op : Op} {ty : TypeId} {pos : String} {af : Array Edge} {gd : Option (Nat × Bool)} {r : AV}
theorem zsi {l : List Oper} {t : List (Nat × AV)} {h h' : List (Nat × Option LObj)} (he : yad h = yad h') (k : Lex P N ops lf Q l (S t h')) : Lex P N ops lf Q l (S t h) := by
 have : S t h = S t h' := by unfold S; rw [he]
 rw [this]
 exact k
theorem L_makeI (hT : TOK P T) {ti e es eb sz : Nat} {ea ag : Bool} {ez z : List Value} {x y : Operand} {m : Nat} (id : Nat) (hk : T ti = some ⟨.slc e es ea eb ez, sz, ag, z⟩) (hone : ez.all Value.oneCell' = true) (hx : evF (look t) x = some (.v (.int .i64 m))) (hy : evF (look t) y = some (.v (.int .i64 m))) (hm : m ≤ 4294967296 ∧ eb * m ≤ 281474976710656)
  (hf : yls (S t h) id) (hl : lf ⟨some d, .makeSlice ti x y, ty, pos, af, gd⟩ = true) (hw : yaj ops (look t) ⟨some d, .makeSlice ti x y, ty, pos, af, gd⟩ = some true) (hd : Nat.blt d N = true)
  (k : Lex P N ops lf Q rest (S ((d, .ls id es m) :: t) ((id, some (.vec (yms m (yln ez)))) :: h))) : Lex P N ops lf Q (⟨some d, .makeSlice ti x y, ty, pos, af, gd⟩ :: rest) (S t h) :=
 yec hl hw (by rw [← yqa]; exact yro hT rfl rfl (by simpa using hd) id hk hone hx hy hm hf) k
theorem L_appendNilI (hT : TOK P T) {ti e es eb sz : Nat} {ea ag : Bool} {ez z : List Value} {x y : Operand} {rows : List (List AV)} (id : Nat) (hk : T ti = some ⟨.slc e es ea eb ez, sz, ag, z⟩) (hx : evF (look t) x = some (.v (.slice none 0 0))) (hy : evF (look t) y = some (.sl es rows))
  (hcp : ∀ c ∈ rows.flatten, ybf c = true) (hlim : rows.length ≤ 4294967296 ∧ rows.length * eb ≤ 140737488355328) (hf : yls (S t h) id) (hl : lf ⟨some d, .call { callee := .builtin .append, args := #[x, y], argTypes := #[ti, ti] }, ty, pos, af, gd⟩ = true)
  (hw : yaj ops (look t) ⟨some d, .call { callee := .builtin .append, args := #[x, y], argTypes := #[ti, ti] }, ty, pos, af, gd⟩ = some true) (hd : Nat.blt d N = true) (k : Lex P N ops lf Q rest (S ((d, .ls id es rows.length) :: t) ((id, some (.vec rows.flatten)) :: h))) :
  Lex P N ops lf Q (⟨some d, .call { callee := .builtin .append, args := #[x, y], argTypes := #[ti, ti] }, ty, pos, af, gd⟩ :: rest) (S t h) := by
 refine yec hl hw ?_ k
 rw [← yqa]
 exact ykk hT id rfl rfl (by simpa using hd) hk hx hf hy (fun ok w lv u hr => yyj hr) hcp hlim
theorem yqd (xs : List AV) : ycw (some (yjq xs)) = some xs := by cases xs <;> rfl
theorem ypu {xs : List AV} (h : xs ≠ []) : yjq xs = .mcells xs := by cases xs <;> simp_all [yjq]
theorem yvd (hT : TOK P T) {ti : Nat} {y : Ty} {x v : Operand} {id off : Nat} {xs : List AV} {u : AV} (hy : T ti = some y) (hx : evF (look t) x = some (.lp id off)) (hv : evF (look t) v = some u) (hcs : ydt u = some [u]) (hcl : Nat.beq 1 y.size = true) (hh : yad h id = some (yjq xs)) (hlt : off < xs.length)
  (hl : lf ⟨none, .store ti x v, ty, pos, af, gd⟩ = true) (hw : yaj ops (look t) ⟨none, .store ti x v, ty, pos, af, gd⟩ = some true) (k : Lex P N ops lf Q rest (S t ((id, some (yjq (xs.set off u))) :: h))) : Lex P N ops lf Q (⟨none, .store ti x v, ty, pos, af, gd⟩ :: rest) (S t h) := by
 have hne : xs ≠ [] := by intro h0; simp [h0] at hlt
 have he : xs.set off u = xs.take off ++ [u] ++ xs.drop (off + [u].length) := by
  rw [List.set_eq_take_append_cons_drop, if_pos hlt]; simp
 rw [ypu hne] at hh
 rw [ypu (by intro h0; have := congrArg List.length h0; simp at this; exact hne this)] at k
 refine yec hl hw (by rw [← S_h, he]; exact yis rfl rfl (hT _ _ hy).1 hx hv hcs (by simpa using hcl) hh (.mcells (by simp; omega) hne)) k
theorem yvc (hT : TOK P T) {ti : Nat} {y : Ty} {x v : Operand} {id off : Nat} {xs : List AV} {u : AV} {h' : List (Nat × Option LObj)} (hy : T ti = some y) (hx : evF (look t) x = some (.lp id off)) (hv : evF (look t) v = some u) (hcs : ydt u = some [u]) (hcl : Nat.beq 1 y.size = true) (hh : yad h id = some (.vec xs)) (hlt : off < xs.length) (hp : ybf u = true)
  (he : yad ((id, some (.vec (xs.set off u))) :: h) = yad h') (hl : lf ⟨none, .store ti x v, ty, pos, af, gd⟩ = true) (hw : yaj ops (look t) ⟨none, .store ti x v, ty, pos, af, gd⟩ = some true) (k : Lex P N ops lf Q rest (S t h')) : Lex P N ops lf Q (⟨none, .store ti x v, ty, pos, af, gd⟩ :: rest) (S t h) :=
 ybz hT hy hx hv hcs hcl hh hlt hp hl hw (zsi he k)
theorem zbp {c : Code} {Q : Exit → SS → Prop} (id : Nat) {xs : List AV} (ys : List AV) (hx : yad h id = some (.vec xs)) (he : xs = ys) (k : A P N c Q (S t ((id, some (yjq ys)) :: h))) : A P N c Q (S t h) := by
 subst he
 intro B ok0 lv a w hs
 refine k B ok0 lv a w ⟨⟨hs.inv.base, hs.inv.ok0lt, fun j hj => ?_, hs.inv.inj, fun j x hj => ?_⟩, hs.size, hs.frame, hs.defers, hs.big, fun j b ws hN hj hc hb => ?_⟩
 ·refine hs.inv.dom j ?_
  simp only [S, yad] at hj ⊢
  split at hj
  ·cases hj
  ·exact hj
 ·simp only [S, yad] at hj
  split at hj
  ·rename_i hb
   cases hj
   have e := Nat.eq_of_beq_eq_true hb
   subst e
   obtain ⟨b, n, h1, h2⟩ := hs.inv.obj j _ hx
   refine ⟨b, n, h1, ?_⟩
   cases xs with
   | nil => exact h2
   | cons x xs =>
    cases b with
    | none => simp [yha] at h2
    | some b => exact ⟨h2.1, h2.2.1, h2.2.2.1⟩
  ·exact hs.inv.obj j x hj
 ·simp only [S, yad] at hj
  split at hj
  ·cases hj
   cases xs <;> cases hc
  ·exact hs.pin j b ws hN hj hc hb
end
theorem ynn {id : Nat} {o : LObj} (h : yad (yek M sz rows extra) id = some o) : id = M ∨ ∃ i, i < rows.length ∧ id = fam M i := by
 by_cases hM : id = M
 ·exact .inl hM
 ·unfold yek at h
  rw [yaw hM] at h
  by_cases he : ∃ i, id = fam M i
  ·obtain ⟨i, rfl⟩ := he
   have h2 := ykm M 0 i rows
   rw [Nat.zero_add] at h2
   rw [h2] at h
   refine .inr ⟨i, ?_, rfl⟩
   cases hr : rows[i]? with
   | none => simp [hr] at h
   | some r => exact (List.getElem?_eq_some_iff.1 hr).1
  ·rw [yjc M 0 rows fun i _ e => he ⟨i, e⟩] at h
   cases h
theorem ygr : yad (yek M sz rows extra) M = some (yjq (yfz M sz 0 rows ++ extra)) := yah
theorem ymc (hM : M < 1000000) (i : Nat) : yad (yek M sz rows extra) (fam M i) = (rows[i]?).map LObj.vec := by
 have := zal (f := []) (sz := sz) (rows := rows) (extra := extra) rfl hM i
 simpa using this
theorem noC_mat (hM : M < 1000000) {id : Nat} {o : LObj} (h : yad (yek M sz rows extra) id = some o) : isC o = false := by
 rcases ynn h with rfl | ⟨i, _, rfl⟩
 ·rw [ygr] at h
  cases h
  cases yfz id sz 0 rows ++ extra <;> rfl
 ·rw [ymc hM] at h
  cases hr : rows[i]? with
  | none => simp [hr] at h
  | some r => simp only [hr, Option.map_some, Option.some.injEq] at h; subst h; rfl
theorem zoo (hf : zdm f = true) (hM : M < 1000000) (hk : (f.all fun x => !Nat.beq x.1 M) = true) : ∀ id o, yad (yek M sz rows extra) id = some o → yad (f ++ yek M sz rows extra) id = some o := fun id o h => by
 rw [ybi f _ fun x hx => ?_]
 ·exact h
 ·rcases ynn h with rfl | ⟨i, _, rfl⟩
  ·have := List.all_eq_true.1 hk x hx
   intro e
   simp [e] at this
  ·exact yed (yfu hf x hx)
theorem conO_of {P : Program} {T : Nat → Option Ty} (hT : TOK P T) {fid : FuncId} {fn : Func} {c : Code} {N : Nat} {rs : List ResultVar} {args : List AV} {r : AV} {M sz : Nat} {rows : List (List AV)} (hf : P.funcs[fid]? = some fn) (hn : (fn.name == "runtime.NumGoroutine") = false) (hb : fn.body = some c) (hN : fn.ntmps = N) (hrs : fn.results = rs.toArray) (hlen : (Nat.ble args.length N && Nat.ble N 1000000) = true) (hM : Nat.blt M 1000000 = true)
  (h : A P N c (zmy T rs r (yad (yek M sz rows []))) (S (ygb 0 args) [])) : yva P fid args (fun _ => none) r (yad (yek M sz rows [])) :=
 zbw hT hf hn hb hN hrs hlen (fun id o ho hc => by rw [noC_mat (by simpa using hM) ho] at hc; cases hc) h
theorem zgh {σ : Nat → Nat} : ∀ {x : AV}, ybf x = true → yff σ x = x
 | .v _, _ => rfl
 | .any, _ => rfl
 | .one, _ => rfl
 | .sl _ _, _ => rfl
 | .dp _ _, _ => rfl
 | .mv _, _ => rfl
 | .agg cs, h => by simp only [yff, rows (cs := cs) h]
 | .tup cs, h => by simp only [yff, rows (cs := cs) h]
 | .fn _ cs, h => by simp only [yff, rows (cs := cs) h]
 | .fm _ cs, h => by simp only [yff, rows (cs := cs) h]
 where rows : ∀ {cs : List AV}, ybf.pureL cs = true → yff.renL σ cs = cs
 | [], _ => rfl
 | c :: cs, h => by
  simp only [ybf.pureL, Bool.and_eq_true] at h
  simp only [yff.renL, zgh h.1, rows h.2]
def zmq (d j : Nat) : Nat := match Nat.ble 1000000 j with
 | false => d
 | true => d + (j / 1000000) * 1000000
theorem yrc {d j : Nat} (h : j < 1000000) : zmq d j = d := by
 unfold zmq
 cases hb : Nat.ble 1000000 j with
 | false => rfl
 | true => have := Nat.le_of_ble_eq_true hb; omega
theorem famS_high {d j : Nat} (h : 1000000 ≤ j) : zmq d j = d + (j / 1000000) * 1000000 := by
 unfold zmq
 cases hb : Nat.ble 1000000 j with
 | false => have := zsy hb; omega
 | true => rfl
theorem fam_div {M k : Nat} (hM : M < 1000000) : fam M k / 1000000 = k + 1 := by unfold fam; omega
theorem yjt {d M k : Nat} (hM : M < 1000000) : zmq d (fam M k) = fam d k := by
 rw [famS_high (ygc M k), fam_div hM]
 unfold fam
 omega
theorem zgi {d M sz : Nat} (hM : M < 1000000) : ∀ (k : Nat) (rows : List (List AV)), yff.renL (zmq d) (yfz M sz k rows) = yfz d sz k rows
 | _, [] => rfl
 | k, r :: rs => by simp only [yfz, yff.renL, yff, yjt hM, zgi hM (k + 1) rs]
theorem zas {ids : List Nat} {M sz : Nat} : ∀ (k : Nat) (rows : List (List AV)), (∀ i, i < k + rows.length → fam M i ∈ ids) → yen.onlyL ids (yfz M sz k rows) = true
 | _, [], _ => rfl
 | k, r :: rs, h => by
  simp only [yfz, yen.onlyL, yen, Bool.and_eq_true]
  exact ⟨List.contains_iff_mem.2 (h k (by simp)), zas (k + 1) rs fun i hi => h i (by simp; omega)⟩
theorem yzz {d : Nat} : ∀ {h : List (Nat × Option LObj)}, ycb d h = true → ∀ x ∈ h, x.1 ≠ d
 | [], _, x, hx => by simp at hx
 | (k, o) :: h, hh, x, hx => by
  simp only [ycb] at hh
  cases hb : Nat.beq d k with
  | true => simp [hb] at hh
  | false =>
   simp only [hb] at hh
   rcases List.mem_cons.1 hx with rfl | hx
   ·intro e
    simp only at e
    subst e
    simp at hb
   ·refine yzz ?_ x hx
    cases o with
    | none => exact hh
    | some o =>
     cases ho : yfv d o with
     | true => simp [ho] at hh
     | false => simpa [ho] using hh
section
variable {P : Program} {T : Nat → Option Ty} {N : Nat} {ops : Array Oper} {lf : Oper → Bool} {Q : SS → Prop} {t : List (Nat × AV)} {h : List (Nat × Option LObj)} {rest : List Oper} {d : Nat} {op : Op} {ty : TypeId} {pos : String} {af : Array Edge} {gd : Option (Nat × Bool)} {r : AV}
theorem L_callO {g : Operand} {args : List Operand} {ats : Array TypeId} {fid : FuncId} {caps xs : List AV} {M0 sz : Nat} {rows : List (List AV)} (hc : yva P fid (xs ++ caps) (fun _ => none) r (yad (yek M0 sz rows []))) (hM : Nat.blt M0 1000000 = true) (hg : evF (look t) g = some (.fn fid caps)) (hx : evL (evF (look t)) args = some xs) (hp : ybf.pureL (xs ++ caps) = true)
  (hr : yen (M0 :: (List.range rows.length).map (fam M0)) r = true) (h1 : ydk d t = true) (h2 : zrp t = true) (h3 : ycb d h = true) (h4 : zhj h = true) (h5 : Nat.blt d 1000000 = true) (hl : lf ⟨some d, .call { callee := .value g, args := args.toArray, argTypes := ats }, ty, pos, af, gd⟩ = true)
  (hw : yaj ops (look t) ⟨some d, .call { callee := .value g, args := args.toArray, argTypes := ats }, ty, pos, af, gd⟩ = some true) (hd : Nat.blt d N = true) (k : Lex P N ops lf Q rest (S ((d, yff (zmq d) r) :: t) (h ++ yek d sz rows []))) :
  Lex P N ops lf Q (⟨some d, .call { callee := .value g, args := args.toArray, argTypes := ats }, ty, pos, af, gd⟩ :: rest) (S t h) := by
 have hM' : M0 < 1000000 := by simpa using hM
 have hd' : d < 1000000 := by simpa using h5
 have hids : ∀ i ∈ M0 :: (List.range rows.length).map (fam M0), i = M0 ∨ ∃ j, j < rows.length ∧ i = fam M0 j := fun i hi => by
  rcases List.mem_cons.1 hi with rfl | hi
  ·exact .inl rfl
  ·obtain ⟨j, hj, rfl⟩ := List.mem_map.1 hi
   exact .inr ⟨j, by simpa using hj, rfl⟩
 have hfam : ∀ j, j < rows.length → fam M0 j ∈ M0 :: (List.range rows.length).map (fam M0) := fun j hj => List.mem_cons_of_mem _ (List.mem_map.2 ⟨j, by simpa using hj, rfl⟩)
 have hsig : ∀ i ∈ M0 :: (List.range rows.length).map (fam M0), zmq d i = d ∨ 1000000 ≤ zmq d i := fun i hi => by
  rcases hids i hi with rfl | ⟨j, _, rfl⟩
  ·exact .inl (yrc hM')
  ·exact .inr (by rw [yjt hM']; exact ygc d j)
 refine yec hl hw ?_ k
 refine yoh (σ := zmq d) (ids := M0 :: (List.range rows.length).map (fam M0)) (hm := fun _ => none) (hm' := yad (yek M0 sz rows [])) (r := r) (args0 := xs ++ caps) rfl rfl (by simpa using hd) (.inl hg) hx ?_ hc ?_ (fun id hs => by simp at hs) ?_ (fun id o ho => by cases ho) hr ?_ ?_ ?_ ?_
 ·have : ∀ l : List AV, ybf.pureL l = true → l = l.map (yff (zmq d)) := by
   intro l hl
   rw [← yce, zgh.rows hl]
  exact this _ hp
 ·intro i hi j hj e
  rcases hids i hi with rfl | ⟨a, _, rfl⟩ <;> rcases hids j hj with rfl | ⟨b, _, rfl⟩
  ·rfl
  ·rw [yrc hM', yjt hM'] at e
   exact absurd e (yed hd')
  ·rw [yrc hM', yjt hM'] at e
   exact absurd e.symm (yed hd')
  ·rw [yjt hM', yjt hM'] at e
   rw [yqh e]
 ·intro id hs
  obtain ⟨o, ho⟩ := Option.isSome_iff_exists.1 hs
  rcases ynn ho with rfl | ⟨i, hi, rfl⟩
  ·exact List.mem_cons_self
  ·exact hfam i hi
 ·intro id o ho
  rcases ynn ho with rfl | ⟨i, hi, rfl⟩
  ·rw [ygr] at ho
   cases ho
   rw [List.append_nil]
   have := zas (M := id) (sz := sz) (ids := id :: (List.range rows.length).map (fam id)) 0 rows fun i hi => hfam i (by omega)
   cases hm : yfz id sz 0 rows with
   | nil => rfl
   | cons a l => rw [hm] at this; exact this
  ·rw [ymc hM'] at ho
   cases hr : rows[i]? with
   | none => simp [hr] at ho
   | some r => simp only [hr, Option.map_some, Option.some.injEq] at ho; subst ho; rfl
 ·intro x y hy
  simp only [S, look] at hy
  cases hb : Nat.beq x d with
  | true =>
   simp only [hb, Option.some.injEq] at hy
   exact .inl ⟨Nat.eq_of_beq_eq_true hb, hy.symm⟩
  | false =>
   simp only [hb] at hy
   refine .inr ⟨by rintro rfl; simp at hb, .inr ⟨hy, .inl fun i hi => ?_⟩⟩
   rcases hsig i hi with e | e
   ·rw [e]; exact yma h1 x y hy
   ·exact ypg.ment e (yrm h2 x y hy)
 ·intro i hi
  show yad (h ++ yek d sz rows []) (zmq d i) = _
  rw [ybi h _ fun x hx => ?_]
  ·rcases hids i hi with rfl | ⟨j, _, rfl⟩
   ·rw [yrc hM', ygr, ygr]
    simp only [List.append_nil, Option.map_some, Option.some.injEq]
    have := zgi (d := d) (sz := sz) hM' 0 rows
    cases hm : yfz i sz 0 rows with
    | nil => rw [hm] at this; rw [← this]; rfl
    | cons a l => rw [hm] at this; rw [← this]; rfl
   ·rw [yjt hM', ymc hd', ymc hM']
    cases rows[j]? <;> rfl
  ·rcases hsig i hi with e | e
   ·rw [e]; exact yzz h3 x hx
   ·have := yfu (yop h4) x hx
    omega
 ·intro j ob' hj hob
  have hob2 : yad h j = some ob' := by
   rcases ydf h (yek d sz rows []) (j := j) with e | ⟨_, e⟩
   ·exact e.symm.trans hob
   ·have hob3 : yad (yek d sz rows []) j = some ob' := e.symm.trans hob
    exfalso
    rcases ynn hob3 with rfl | ⟨i, hi, rfl⟩
    ·exact hj M0 List.mem_cons_self (yrc hM')
    ·exact hj (fam M0 i) (hfam i hi) (yjt hM')
  refine ⟨fun i hi => ?_, ob', hob2, .inl rfl⟩
  rcases hsig i hi with e | e
  ·rw [e]; exact (yei h3).2 j ob' hob2
  ·exact zmt.ment e (yjg h4 j ob' hob2).1
end
theorem ls_to_slM {h : Nat → Option LObj} {id len : Nat} {xs ys : List AV} {B : Bse} {ok0 : Nat → Prop} {lv : Live} {w : World} {u : Value} (hi : Inv B ok0 h lv w) (hr : Rel (ybn B ok0 lv w) w lv (.ls id 1 len) u) (hx : h id = some (yjq xs)) (hlen : ys.length = len) (hxy : xs.length = ys.length)
  (ok' : Nat → Prop) (hk2 : ∀ b n, lv id = some (some b, n) → ok' b) (hconv : ∀ (j : Nat) (x y : AV), xs[j]? = some x → ys[j]? = some y → ydx y = true ∧ ∀ u, Rel (ybn B ok0 lv w) w lv x u → Rel ok' w (fun _ => none) y u) : Rel ok' w (fun _ => none) (.sl 1 (ys.map fun y => [y])) u := by
 subst hlen
 cases hr with
 | ls _ hone hls =>
  have hnil : (∃ n, lv id = some (none, n)) ∨ ∃ b n, lv id = some (some b, n) ∧ B.mine b ∧ b < w.heap.size ∧ ygw (ybn B ok0 lv w) lv w b n xs := by
   obtain ⟨b, n, h1, h2⟩ := hi.obj id _ hx
   cases b with
   | none => exact .inl ⟨n, h1⟩
   | some b =>
    obtain ⟨h2, h3, h4⟩ := h2
    cases xs with
    | nil => exact .inr ⟨b, n, h1, h2, h3, h4.1⟩
    | cons x xs => exact .inr ⟨b, n, h1, h2, h3, h4⟩
  rcases hnil with ⟨n, h1⟩ | ⟨b, n, h1, h2, h3, h4⟩
  ·obtain ⟨rfl, h0⟩ := hls _ _ h1
   obtain rfl := List.eq_nil_of_length_eq_zero h0
   exact ytk
  obtain ⟨cap, rfl, hcap, hmax, hn⟩ := hls (some b) n h1
  obtain ⟨c, e, g1, g2, g3, g4, g5⟩ := h4
  have hcells : ∀ (i j : Nat) (row : List AV) (y : AV), (ys.map fun y => [y])[i]? = some row → row[j]? = some y → j = 0 ∧ ∃ u, c[i]? = some u ∧ ydx y = true ∧ Rel ok' w (fun _ => none) y u := by
   intro i j row y hrow hy
   rw [List.getElem?_map] at hrow
   cases hyi : ys[i]? with
   | none => simp [hyi] at hrow
   | some y' =>
    simp only [hyi, Option.map_some, Option.some.injEq] at hrow
    subst hrow
    match j with
    | j + 1 => simp at hy
    | 0 =>
     simp only [List.getElem?_cons_zero, Option.some.injEq] at hy
     subst hy
     have hlt := (List.getElem?_eq_some_iff.1 hyi).1
     obtain ⟨x, hxi⟩ : ∃ x, xs[i]? = some x := ⟨_, List.getElem?_eq_getElem (by omega)⟩
     have hci : i < c.size := by omega
     obtain ⟨q1, q2⟩ := hconv i x y' hxi hyi
     exact ⟨rfl, _, Array.getElem?_eq_getElem hci, q1, q2 _ (g5 i x _ hxi (Array.getElem?_eq_getElem hci))⟩
  have hl : (ys.map fun y => [y]).length = ys.length := by simp
  have := Rel.sl (ok := ok') (w := w) (lv := fun _ => none) (size := 1) (rows := ys.map fun y => [y]) (some ⟨b, 0, none⟩) cap (fun i _ => c.getD i undef) b 0 (by rw [hl]; exact hcap) hmax (fun h => by cases h) (fun row hr => by obtain ⟨y, _, rfl⟩ := List.mem_map.1 hr; rfl) (fun _ => ⟨rfl, hk2 b n h1⟩) (fun i j row x hrow hx => ?_) (fun i j row x hrow hx => ?_)
  ·rw [hl] at this
   exact this
  ·obtain ⟨rfl, u, hu, hc, _⟩ := hcells i j row x hrow hx
   refine ⟨?_, hc⟩
   simp only [World.cell?, g1]
   simp [Nat.zero_add, hu, Array.getD_eq_getD_getElem?]
  ·obtain ⟨rfl, u, hu, _, hr⟩ := hcells i j row x hrow hx
   have : c.getD i undef = u := by simp [Array.getD_eq_getD_getElem?, hu]
   simp only [this]
   exact hr
theorem Frz.mat {els : List (List (List AV))} (hf : zdm f = true) (hM : Nat.blt M 1000000 = true) (hk : (f.all fun x => !Nat.beq x.1 M) = true) (hs : 0 < sz) (hsz : ∀ r ∈ els, ∀ e ∈ r, e.length = sz) {n : Nat} (hn : n = els.length) (hrows : rows = els.map List.flatten) :
  Frz (yad (f ++ yek M sz rows [])) (.ls M 1 n) (.sl 1 (els.map fun r => [.sl sz r])) := by
 subst hn hrows
 have hM' : M < 1000000 := by simpa using hM
 intro B ok0 lv w u hi hr
 have h1 : yad (f ++ yek M sz (els.map List.flatten) []) M = some (yjq (yfz M sz 0 (els.map List.flatten))) := by
  rw [zoo hf hM' hk M _ ygr, List.append_nil]
 have hlv : ∀ id b n, lv id = some (some b, n) → (ok0 b ∨ B.mine b) ∧ b < w.heap.size := fun id b n hb => by obtain ⟨_, _, h1, h2, _⟩ := hi.lvat hb; exact ⟨.inr h1, h2⟩
 have := ls_to_slM (ys := els.map fun r => .sl sz r) hi hr h1 (by simp) (by rw [yev]; simp) (fun g => (ok0 g ∨ B.mine g) ∧ g < w.heap.size) (fun b n hb => hlv M b n hb) (fun j x y hx hy => ?_)
 ·rw [List.map_map] at this
  exact this
 ·rw [yfl, List.getElem?_map] at hx
  rw [List.getElem?_map] at hy
  cases hj : els[j]? with
  | none => simp [hj] at hx
  | some r =>
   simp only [hj, Option.map_some, Option.some.injEq] at hx hy
   subst hx hy
   refine ⟨rfl, fun u hu => ?_⟩
   rw [Nat.zero_add] at hu
   have hrow := zal (f := f) (sz := sz) (rows := els.map List.flatten) (extra := []) hf hM' j
   rw [List.getElem?_map, hj] at hrow
   simp only [Option.map_some] at hrow
   have hr1 : ∀ e ∈ r, e.length = sz := hsz r (List.mem_of_getElem? hj)
   have hfl : r.flatten.length / sz = r.length := by
    have : ∀ r : List (List AV), (∀ e ∈ r, e.length = sz) → r.flatten.length = r.length * sz := by
     intro r
     induction r with
     | nil => intro _; simp
     | cons e r ih =>
      intro he
      rw [List.flatten_cons, List.length_append, ih fun e h => he e (by simp [h]), he e (by simp), List.length_cons, Nat.succ_mul, Nat.add_comm]
    rw [this r hr1]
    exact Nat.mul_div_cancel _ hs
   rw [hfl] at hu
   refine yrn hi hu (by rw [hrow]; rfl) rfl hr1 rfl (fun x hx i => ?_) _ (fun g hg => ⟨hg.1, hg.2.1⟩) (fun b n hb => hlv _ b n hb)
   obtain ⟨b, n, q1, q2⟩ := hi.obj _ _ hrow
   cases b with
   | none =>
    rcases q2 with q2 | ⟨e, q2⟩
    ·simp only [LObj.vec.injEq] at q2
     rw [q2] at hx
     simp at hx
    ·cases q2
   | some b => exact ybf.ment (q2.2.2.2 x hx)
theorem yjr {α : Type} {P : Program} {N : Nat} {c : Code} {Q : Exit → SS → Prop} {t0 : List (Nat × AV)} {h0 : List (Nat × Option LObj)} (t : α → List (Nat × AV)) (h : α → List (Nat × Option LObj)) (m : α → Nat) (I : α → Prop) (a : α) (hI : I a) (h1 : zdd t0 (t a)) (h2 : ∀ id o, yad (h a) id = some o → yad h0 id = some o) (round : ∀ a, I a → A P N c (zuv t h m I a Q) (S (t a) (h a))) : A P N (.loop c) Q (S t0 h0) := by
 refine zrb (fun n s => ∃ b, I b ∧ m b = n ∧ Sub (S (t b) (h b)) s) (m a) ⟨a, hI, rfl, yby h1, h2⟩ ?_
 rintro n s ⟨b, hb, rfl, hsub⟩
 refine (ytu (round b hb) hsub).mono fun e s' hq => ?_
 cases e with
 | normal =>
  obtain ⟨b', h3, h4, h5⟩ := hq
  exact ⟨m b', h4, b', h3, rfl, h5⟩
 | _ => exact hq
theorem zgl {α : Type} {t : α → List (Nat × AV)} {h : α → List (Nat × Option LObj)} {m : α → Nat} {I : α → Prop} {a : α} {Q : Exit → SS → Prop} {t1 : List (Nat × AV)} {h1 : List (Nat × Option LObj)} (b : α) (hI : I b) (hm : m b < m a) (g1 : zdd t1 (t b)) (g2 : ∀ id o, yad (h b) id = some o → yad h1 id = some o) : zuv t h m I a Q .normal (S t1 h1) :=
 ⟨b, hI, hm, yby g1, g2⟩
theorem hsE {h h' : List (Nat × Option LObj)} (e : yad h = yad h') : ∀ id o, yad h' id = some o → yad h id = some o := fun id o ho => by rw [e]; exact ho
theorem yfj : ∀ {f g : List (Nat × Option LObj)} {j : Nat} {o : LObj}, yad f j = some o → yad (f ++ g) j = some o
 | [], g, j, o, h => by simp [yad] at h
 | (k, x) :: f, g, j, o, h => by
  simp only [yad, List.cons_append] at h ⊢
  cases hb : Nat.beq j k with
  | true => simpa [hb] using h
  | false => simp only [hb] at h ⊢; exact yfj h
theorem hsM {f' : List (Nat × Option LObj)} (hs : yus f f') (hf : zdm f = true) (hM : Nat.blt M 1000000 = true) (hk : (f.all fun x => !Nat.beq x.1 M) = true) : ∀ id o, yad (f' ++ yek M sz rows extra) id = some o → yad (f ++ yek M sz rows extra) id = some o := fun id o ho => by
 rcases ydf f' (yek M sz rows extra) (j := id) with e | ⟨_, e⟩
 ·rw [e] at ho
  exact yfj (ybq hs id o ho)
 ·rw [e] at ho
  exact zoo hf (by simpa using hM) hk id o ho
end
section
open Go.RowKit
theorem zed {h : Nat → Option LObj} {id off : Nat} {xs : List AV} {B : Bse} {ok0 : Nat → Prop} {lv : Live} {w : World} {u : Value} (hi : Inv B ok0 h lv w) (hx : h id = some (.cells xs)) (hr : Rel (ybn B ok0 lv w) w lv (.lp id off) u) (hp : ybf.pureL xs = true) (ok' : Nat → Prop) (hk1 : ∀ g, ybn B ok0 lv w g → ok' g) (hk2 : ∀ b n, lv id = some (some b, n) → ok' b) : Rel ok' w (fun _ => none) (.dp xs off) u := by
 obtain ⟨b, n, h1, rfl, h2⟩ := yga hi (by rw [hx]; rfl) (.inr hx) hr
 have := Rel.dp (ok := ok') (w := w) (lv := fun _ => none) (row := xs) (off := off) b 0 (fun j => (w.cell? ⟨b, 0 + j, none⟩).getD undef) (hk2 b n h1) (fun j c hc => ?_) (fun j c hc => ?_)
 ·rwa [Nat.zero_add] at this
 ·obtain ⟨q1, v, q2, _⟩ := h2 j c hc
  exact ⟨by rw [q2]; rfl, q1⟩
 ·obtain ⟨_, v, q2, q3⟩ := h2 j c hc
  rw [q2]
  exact (q3.relive fun id b n hb _ => by cases hb).keep fun g hg => ⟨hk1 g hg, rfl⟩
theorem Frz.box {h : Nat → Option LObj} {id off : Nat} {xs : List AV} (hx : h id = some (.cells xs)) (hp : ybf.pureL xs = true) : Frz h (.lp id off) (.dp xs off) :=
 fun B ok0 lv w u hi hr => zed hi hx hr hp _ (fun g hg => ⟨hg.1, hg.2.1⟩) fun b n hb => by obtain ⟨_, _, h1, h2, _⟩ := hi.lvat hb; exact ⟨.inr h1, h2⟩
theorem Frz.fn {h : Nat → Option LObj} {f : Nat} {xs ys : List AV} (hl : xs.length = ys.length) (hf : ∀ (i : Nat) (x y : AV), xs[i]? = some x → ys[i]? = some y → Frz h x y) : Frz h (.fn f xs) (.fn f ys) := by
 intro B ok0 lv w u hi hr
 cases hr with
 | fn vs hvl hrr =>
  refine .fn vs (hvl.trans hl) fun i c v hc hv => ?_
  obtain ⟨x, hx⟩ : ∃ x, xs[i]? = some x := ⟨_, List.getElem?_eq_getElem (by have := (List.getElem?_eq_some_iff.1 hc).1; omega)⟩
  exact hf i x c hx hc B ok0 lv w v hi (hrr i x v hx hv)
variable {P : Program} {N : Nat} {t : List (Nat × AV)} {h : List (Nat × Option LObj)}
theorem Sim.freezeBox {B : Bse} {ok0 : Nat → Prop} {s : SS} {lv : Live} {a : Act} {w : World} (hs : Sim B ok0 N s lv a w) {d id off : Nat} {xs : List AV} (hd : s.t d = some (.lp id off)) (hx : s.h id = some (.cells xs)) (hp : ybf.pureL xs = true)
  {s' : SS} (ht : ∀ x y, s'.t x = some y → y = .any ∨ s.t x = some y) (hlt : ∀ x y, s'.t x = some y → ∃ z, s.t x = some z) (hid : s'.h id = none) (hh : ∀ j ob', s'.h j = some ob' → ∃ ob, s.h j = some ob ∧ ylr ob ob') : ∃ lv', Sim B ok0 N ⟨yes s'.t (some d) (.dp xs off), s'.h⟩ lv' a w := by
 obtain ⟨lv', h1, h2, h3, h4⟩ := hs.forg ht hlt hh
 refine ⟨lv', ?_⟩
 have hdN := (hs.frame d _ hd).1
 have hr := zed hs.inv hx (hs.frame d _ hd).2 hp (ybn B ok0 lv' w) h4 (fun b n hb => ?_)
 ·have hrl : Rel (ybn B ok0 lv' w) w lv' (.dp xs off) (yfg B a d) := hr.relive fun i b n _ hm => by simp [ment] at hm
  refine ⟨h1.inv, h1.size, fun x y hy => ?_, h1.defers, h1.big, h1.pin⟩
  simp only [yes] at hy
  split at hy
  ·rename_i e
   subst e
   simp only [Option.some.injEq] at hy
   subst hy
   exact ⟨hdN, hrl⟩
  ·exact h1.frame x y hy
 ·obtain ⟨_, _, g1, g2, _⟩ := hs.inv.lvat hb
  refine ⟨.inr g1, g2, fun j b' m hj he => ?_⟩
  subst he
  have := hs.inv.inj j id b' m n (h2 j _ m hj) hb
  subst this
  rw [h1.inv.dom j hid] at hj
  cases hj
theorem yiv {c : Code} {Q : Exit → SS → Prop} {t' : List (Nat × AV)} {h' : List (Nat × Option LObj)} (d : Nat) {id off : Nat} {xs : List AV} (hd : look t d = some (.lp id off)) (hx : yad h id = some (.cells xs)) (hp : ybf.pureL xs = true)
  (ht : yrg id t = some t') (hh : ypf id h = some h') (k : A P N c Q (S ((d, .dp xs off) :: t') ((id, none) :: h'))) : A P N c Q (S t h) := by
 intro B ok0 lv a w hs
 obtain ⟨g1, g2⟩ := ygg ht
 obtain ⟨lv', hs'⟩ := hs.freezeBox (s' := S t' ((id, none) :: h')) hd hx hp (fun x y hy => (g1 x y hy).imp (fun h => h) And.left) g2 (by simp [S, yad]) (fun j ob' hj => by
  simp only [S, yad] at hj
  split at hj
  ·cases hj
  ·exact (yfi hh j ob' hj).2)
 rw [show (⟨yes (S t' ((id, none) :: h')).t (some d) (.dp xs off), (S t' ((id, none) :: h')).h⟩ : SS) = S ((d, .dp xs off) :: t') ((id, none) :: h') by unfold S; rw [ydi]] at hs'
 exact k B ok0 lv' a w hs'
end
set_option maxRecDepth 100000
section
open Go.RowKit
section
variable {P : Program} {T : Nat → Option Ty} {N : Nat} {ops : Array Oper} {lf : Oper → Bool} {Q : SS → Prop} {t : List (Nat × AV)} {h : List (Nat × Option LObj)} {rest : List Oper} {d : Nat} {op : Op} {ty : TypeId} {pos : String} {af : Array Edge} {gd : Option (Nat × Bool)} {r : AV}
theorem yield_arrslice {ρ : Operand → Option AV} {hp : Nat → Option LObj} {ti n : Nat} {ea : Bool} {x y : Operand} {k : IntKind} {i : Int} {row : List AV} (hk : yey P ti (.arr n 1 ea)) (hx : ρ x = some (.dp row 0)) (hy : ρ y = some (.v (.int k i))) (hn : row.length = n) (hm : n ≤ maxLen) (h0 : 0 ≤ i) (h1 : i ≤ n) : ybw P hp ρ (.slice ti x none (some y) none) ty (.sl 1 ((row.take i.toNat).map fun c => [c])) :=
 yas fun B ok0 lv w a o ho hty hi' hops => by
  have hr := hops x _ (by simp [Op.operands]) hx
  have hiv := yfp (hops y _ (by simp [Op.operands]) hy)
  generalize hv : a.eval x = v at hr
  cases hr with
  | dp g q u hg hc hr =>
   obtain ⟨e, he, hs⟩ := hk
   have hrun : (Instr.sliceAt ti (.pointer (some ⟨g, q, none⟩)) none (some (a.eval y)) none).run P w = .ok (.slice (some ⟨g, q, none⟩) i.toNat n) w := by
    rw [hiv]
    have h7 := (hs.run (w := w)).1
    by_cases hz : n = 0
    ·subst hz
     have : i = 0 := by omega
     subst this
     simp [Instr.sliceAt, run_underlying he, Instr.sureAddr, Instr.sliceBounds, Instr.sliceBound, asIntOf, h7]
    ·simp [Instr.sliceAt, run_underlying he, Instr.sureAddr, Instr.sliceBounds, Instr.sliceBound, asIntOf, h7, h0, h1, Addr.add]
   refine ⟨.slice (some ⟨g, q, none⟩) i.toNat n, by have hv' : a.eval x = .pointer (some ⟨g, q, none⟩) := hv; simp [execOp, ho, hv', hrun], ?_⟩
   have hlen : ((row.take i.toNat).map fun c => [c]).length = i.toNat := by simp; omega
   have hget : ∀ (k j : Nat) (r : List AV) (c : AV), ((row.take i.toNat).map fun c => [c])[k]? = some r → r[j]? = some c → j = 0 ∧ row[k]? = some c := by
    intro k j r c h2 h3
    rw [List.getElem?_map, List.getElem?_take] at h2
    split at h2
    ·cases hk : row[k]? with
     | none => rw [hk] at h2; cases h2
     | some z =>
      rw [hk] at h2
      cases h2
      cases j with
      | zero => cases h3; exact ⟨rfl, rfl⟩
      | succ j => cases h3
    ·cases h2
   have := Rel.sl (ok := ybn B ok0 lv w) (w := w) (lv := lv) (size := 1) (rows := (row.take i.toNat).map fun c => [c]) (some ⟨g, q, none⟩) n (fun k j => u k) g q (by rw [hlen]; omega) hm (fun h => by cases h) (fun r hr => by obtain ⟨c, _, rfl⟩ := List.mem_map.1 hr; rfl) (fun _ => ⟨rfl, hg⟩) (fun k j r c h2 h3 => by
    obtain ⟨rfl, h4⟩ := hget k j r c h2 h3
    have := hc k c h4
    rwa [show q + k * 1 + 0 = q + k by omega]) (fun k j r c h2 h3 => by
    obtain ⟨rfl, h4⟩ := hget k j r c h2 h3
    exact hr k c h4)
   rwa [hlen] at this
theorem L_arrslice (hT : TOK P T) {ti n z : Nat} {ag ea : Bool} {zs : List Value} {x y : Operand} {k : IntKind} {i : Int} {row : List AV} (ht : T ti = some ⟨.arr n 1 ea, z, ag, zs⟩) (hx : evF (look t) x = some (.dp row 0)) (hy : evF (look t) y = some (.v (.int k i))) (hn : row.length = n) (hm : n ≤ maxLen) (h0 : 0 ≤ i) (h1 : i ≤ n)
  (hw : yaj ops (look t) ⟨some d, .slice ti x none (some y) none, ty, pos, af, gd⟩ = some true) (hd : Nat.blt d N = true) (k : Lex P N ops lf Q rest (S ((d, .sl 1 ((row.take i.toNat).map fun c => [c])) :: t) h)) : Lex P N ops lf Q (⟨some d, .slice ti x none (some y) none, ty, pos, af, gd⟩ :: rest) (S t h) :=
 ycf (yield_arrslice (hT _ _ ht).2.2 hx hy hn hm h0 h1) hw hd k
theorem L_storeC (hT : TOK P T) {ti : Nat} {y : Ty} {x v : Operand} {id off : Nat} {xs : List AV} {u : AV} (hy : T ti = some y) (hx : evF (look t) x = some (.lp id off)) (hv : evF (look t) v = some u) (hcs : ydt u = some [u]) (hcl : Nat.beq 1 y.size = true) (hh : yad h id = some (.cells xs)) (hlt : off < xs.length)
  (hl : lf ⟨none, .store ti x v, ty, pos, af, gd⟩ = true) (hw : yaj ops (look t) ⟨none, .store ti x v, ty, pos, af, gd⟩ = some true) (k : Lex P N ops lf Q rest (S t ((id, some (.cells (xs.set off u))) :: h))) : Lex P N ops lf Q (⟨none, .store ti x v, ty, pos, af, gd⟩ :: rest) (S t h) := by
 have he : xs.set off u = xs.take off ++ [u] ++ xs.drop (off + [u].length) := by
  rw [List.set_eq_take_append_cons_drop, if_pos hlt]; simp
 refine yec hl hw (by rw [← S_h, he]; exact yis rfl rfl (hT _ _ hy).1 hx hv hcs (by simpa using hcl) hh (.cells (by simp; omega))) k
end
theorem A_freezeBoxS {P : Program} {N : Nat} {t : List (Nat × AV)} {c : Code} {Q : Exit → SS → Prop} {t' : List (Nat × AV)} {h0 h' : List (Nat × Option LObj)} (d : Nat) {id off : Nat} {xs : List AV} (hd : look t d = some (.lp id off)) (hp : ybf.pureL xs = true)
  (ht : yrg id t = some t') (hh : ypf id h0 = some h') (k : A P N c Q (S ((d, .dp xs off) :: t') ((id, none) :: h'))) : A P N c Q (S t ((id, some (.cells xs)) :: h0)) := by
 intro B ok0 lv a w hs
 obtain ⟨g1, g2⟩ := ygg ht
 obtain ⟨lv', hs'⟩ := hs.freezeBox (s' := S t' ((id, none) :: h')) hd yah hp (fun x y hy => (g1 x y hy).imp (fun h => h) And.left) g2 (by simp [S, yad]) (fun j ob' hj => by
  by_cases e : j = id
  ·subst e; simp [S, yad] at hj
  ·have hj : yad ((id, none) :: h') j = some ob' := hj
   rw [yaw e] at hj
   obtain ⟨_, ob, q1, q2⟩ := yfi hh j ob' hj
   exact ⟨ob, by show yad _ _ = _; rw [yaw e]; exact q1, q2⟩)
 rw [show (⟨yes (S t' ((id, none) :: h')).t (some d) (.dp xs off), (S t' ((id, none) :: h')).h⟩ : SS) = S ((d, .dp xs off) :: t') ((id, none) :: h') by unfold S; rw [ydi]] at hs'
 exact k B ok0 lv' a w hs'
theorem zdo {P : Program} {N : Nat} {x y : Code} {Q : Exit → SS → Prop} {s : SS} (t0 : List (Nat × AV)) (h0 : List (Nat × Option LObj)) (k1 : A P N x (Mid t0 h0) s) (k2 : A P N y Q (S t0 h0)) : A P N x (zvf P N y Q) s :=
 k1.mono fun e s' he => by obtain ⟨rfl, hs⟩ := he; exact ytu k2 hs
theorem zav : ∀ l : List Int, ybf.pureL (l.map i64) = true
 | [] => rfl
 | a :: l => by simp [ybf.pureL, ybf, i64, zav l]
def zqf (f : Nat → Int) (n k : Nat) : List Int := (List.range k).map f ++ List.replicate (n - k) 0
theorem zhq {f : Nat → Int} {n k : Nat} (h : k ≤ n) : (zqf f n k).length = n := by simp [zqf]; omega
theorem arr_set {f : Nat → Int} {n k : Nat} (h : k < n) : ((zqf f n k).map i64).set k (i64 (f k)) = (zqf f n (k + 1)).map i64 := by
 rw [show i64 (f k) = i64 (f k) from rfl, ← List.map_set]
 congr 1
 unfold zqf
 rw [List.set_append_right _ _ (by simp), List.range_succ]
 obtain ⟨m, hm⟩ : ∃ m, n - k = m + 1 := ⟨n - k - 1, by omega⟩
 rw [show n - (k + 1) = m by omega, hm]
 simp [List.replicate_succ]
theorem arr_take {f : Nat → Int} {n k : Nat} : (((zqf f n k).map i64).take k).map (fun c => [c]) = ((List.range k).map f).map fun x => [i64 x] := by
 unfold zqf
 rw [List.map_append, List.take_append_of_le_length (by simp), List.take_of_length_le (by simp)]
 simp
end
set_option maxHeartbeats 8000000
section
open Go.RowKit
theorem tend_con (l : List Tm) (k : Nat) (E : Ex) (r : List Tm) (hl : l.length ≤ 1000) (hk : k ≤ 1000) (hE : l.drop k = E.fl ++ r) (ho : E.ok) : Con Tryz.prog 197 [ydp l, i64 k] (i64 ((k + E.fl.length : Nat) : Int)) :=
 ydn ⟨_, Tryz.func197, rfl, rfl⟩ fun w us ok hok hr => by
  obtain ⟨u, v, rfl, h1, h2⟩ := yya hr
  cases h2
  have e : ype 1 k l = ((k + E.fl.length : Nat) : Int) := by
   unfold ype
   rw [hE, zbz E ho 0 r, ykx]
   simp
  rw [← e]
  exact (yzs u l k w hl (Lib.hid (yke h1 hok)) hk).mono fun e w' ⟨h1, h2⟩ => ⟨h1, h2 ▸ Below.refl _ _⟩
theorem yly {α : Type} {l : List α} {k : Nat} {t : α} {r : List α} (h : l.drop k = t :: r) : l[k]? = some t ∧ l.drop (k + 1) = r ∧ k < l.length := by
 have h1 : l[k]? = some t := by
  have := congrArg (fun l => l[0]?) h
  simpa using this
 exact ⟨h1, by rw [← List.tail_drop, h]; rfl, (List.getElem?_eq_some_iff.1 h1).1⟩
theorem yst {α : Type} {l : List α} {k : Nat} {a r : List α} (h : l.drop k = a ++ r) : l.drop (k + a.length) = r := by
 rw [← List.drop_drop, h, List.drop_left]
structure WalkOk (p : ProgD) (g : GraphD) (c : List (List Int)) (v : Nat) (ls : List Lk) (e : List Tm) (n : Int) : Prop where
 hg : ydd g = true
 hls : g.ports[v]? = some ls
 hc : c.length = g.ports.length
 hr : ∀ r ∈ c, n ≤ r.length
 he : e.length ≤ 1000
 ha : ∀ t ∈ e, yqc n t = true
 ok : ScnOk ⟨g, c, v⟩
theorem zbs {n : Int} {t : Tm} (h : yqc n t = true) : t.1 = 5 ∨ t.1 = 12 → 0 ≤ t.2 ∧ t.2 < n := by
 intro ht
 unfold yqc at h
 rcases ht with e | e <;> simp [e] at h <;> omega
theorem wagg_con {p : ProgD} {g : GraphD} {c : List (List Int)} {v : Nat} {ls : List Lk} {e : List Tm} {n : Int} (W : WalkOk p g c v ls e n) (t : Tm) (a : Ex) (k : Nat) (r : List Tm) (hE : e.drop k = t :: (a.fl ++ r)) (ht : 20 ≤ t.1 ∧ t.1 ≤ 29) (hoa : a.ok)
  (hin : ∀ j : Nat, j < ls.length → InV ((⟨g, c, v⟩ : Scn).val j a))
  (H : ∀ j : Nat, j < ls.length → Con Tryz.prog 203 [ziv p g c v e, i64 ((k : Int) + 1), i64 j] (.tup [i64 ((⟨g, c, v⟩ : Scn).val j a), i64 ((k + 1 + a.fl.length : Nat) : Int)])) :
  Con Tryz.prog 247 [ziv p g c v e, i64 t.1, i64 k] (.tup [i64 (zhv t.1 ((List.range ls.length).map fun j : Nat => (⟨g, c, v⟩ : Scn).val j a)), i64 ((k + 1 + a.fl.length : Nat) : Int)]) := by
 have hv := ybp W.hg
 have hls := W.hls
 have hvl := (List.getElem?_eq_some_iff.1 hls).1
 have hlb := hv.2.2.2.2.2.1 v ls hls
 have hll := ycq hvl hlb
 have hll24 : ls.length ≤ 24 := (W.ok.links ls (List.mem_of_getElem? hls)).1
 have he := W.he
 obtain ⟨hk1, hk2, hk3⟩ := yly hE
 have hk4 : k + 1 + a.fl.length ≤ e.length := by
  have := congrArg List.length hk2
  rw [List.length_drop, List.length_append] at this
  omega
 let f : Nat → Int := fun j => (⟨g, c, v⟩ : Scn).val j a
 refine yan Tryz.func247 rfl rfl Tryz.ntmps247 Tryz.results247 rfl rfl ?_
 (try refine zy ?_)
 refine ycy (α := Nat) (fun j => [(27, i64 j), (26, i64 ls.length), (9, i64 ls.length), (8, .lp 8 0), (7, i64 (if j = 0 then 0 else ((k + 1 + a.fl.length : Nat) : Int))), (0, ziv p g c v e), (1, i64 t.1), (2, i64 k)]) (fun j => [(8, some (.cells ((zqf f 24 j).map i64)))]) (fun j => ls.length - j) (fun j => j ≤ ls.length) 0 (by omega) (by exact zs) (by exact zh) ?_
 intro j hj
 (try refine zy ?_)
 refine yag rfl (fun h => ?_) (fun h => ?_)
 ·simp at h
  (repeat (first | refine zy ?_ | refine yac rfl rfl (H j h) rfl rfl ?_))
  refine ybe tok rfl rfl (by rw [yah]; rfl) (by intro h0; have := congrArg List.length h0; simp [zhq (show j ≤ 24 by omega)] at this) rfl (by omega) (by omega) rfl rfl ?_
  refine L_storeC tok rfl rfl rfl rfl rfl yah (by simp [zhq (show j ≤ 24 by omega)]; omega) rfl rfl ?_
  refine zsi (h' := [(8, some (.cells ((zqf f 24 (j + 1)).map i64)))]) ?_ ?_
  ·rw [yhw, show (0 + (j : Int).toNat * 1) = j by simp]
   have := arr_set (f := f) (show j < 24 by omega)
   rw [← this]
  (try refine zy ?_)
  exact rnd (j + 1) (by omega) (by omega) (by exact zs) (by exact zh)
 ·simp at h
  obtain rfl : j = ls.length := by omega
  (try refine zy ?_)
  refine zdo [(9, i64 ls.length), (8, .lp 8 0), (7, i64 ((k + 1 + a.fl.length : Nat) : Int)), (0, ziv p g c v e), (1, i64 t.1), (2, i64 k)] [(8, some (.cells ((zqf f 24 ls.length).map i64)))] ?_ ?_
  ·refine yag rfl (fun h0 => ?_) (fun h0 => ?_)
   ·simp at h0
    (repeat (first | refine zy ?_ | refine yac rfl rfl (tend_con e k (.un t a) r he (by omega) (by rw [hE]; rfl) ⟨by unfold ar; rw [if_neg (by omega), if_neg (by omega), if_pos (by omega)], hoa⟩) rfl rfl ?_))
    refine mid ?_ (by exact zh)
    refine yam rfl (yam rfl (yam (ygt rfl (ymp ?_)) (by exact zs)))
    simp [Ex.fl]; omega
   ·have h0 : ¬ ls = [] := by simpa using h0
    (try refine zy ?_)
    refine mid ?_ (by exact zh)
    refine yam rfl (yam rfl (yam (ygt rfl (ymp ?_)) (by exact zs)))
    rw [if_neg (by intro e9; exact h0 (List.length_eq_zero_iff.1 e9))]
  refine zt ?_
  refine A_freezeBoxS 8 rfl (zav _) rfl rfl ?_
  have hlen : ((List.range ls.length).map f).length = ls.length := by simp
  (repeat (first | refine zy ?_ | refine L_arrslice tok rfl rfl rfl (by simp [zhq hll24]) (by decide) (by omega) (by omega) rfl rfl ?_ | refine ynd 51 (y := yaq ((List.range ls.length).map f)) rfl (by rw [Int.toNat_natCast, arr_take]; rfl) ?_ | refine yac rfl rfl (efold_con t.1 ((List.range ls.length).map f) ht (by rw [hlen]; omega) (fun x hx => by obtain ⟨j, hj, rfl⟩ := List.mem_map.1 hx; exact hin j (List.mem_range.1 hj))) rfl rfl ?_))
  refine yaf ?_; refine ⟨_, rfl, ?_⟩
  exact Frz.tup2 (yae rfl) (yae rfl)
end
section
open Go.RowKit
def yoo : Ex → List Ex
 | .lf _ => []
 | .un _ a => [a]
 | .bi _ a b => [a, b]
 | .tr _ a b c => [a, b, c]
def hd : Ex → Tm
 | .lf t => t
 | .un t _ => t
 | .bi t _ _ => t
 | .tr t _ _ _ => t
theorem ylc (E A : Ex) (h : E.ok) (hA : A ∈ yoo E) : A.ok ∧ A.fl.length ≤ E.fl.length ∧ (∀ t ∈ A.fl, t ∈ E.fl) ∧ A.dp ≤ E.dp ∧ A.ns ≤ E.ns := by
 cases E with
 | lf t => simp [yoo] at hA
 | un t a =>
  simp only [yoo, List.mem_singleton] at hA; subst hA
  refine ⟨h.2, by simp [Ex.fl], fun t ht => by simp [Ex.fl, ht], by simp [Ex.dp], ?_⟩
  simp only [Ex.ns]; split <;> omega
 | bi t a b =>
  simp only [yoo, List.mem_cons, List.not_mem_nil, or_false] at hA
  rcases hA with rfl | rfl
  ·exact ⟨h.2.1, by simp [Ex.fl]; omega, fun t ht => by simp [Ex.fl, ht], by simp only [Ex.dp]; omega, by simp only [Ex.ns]; omega⟩
  ·exact ⟨h.2.2, by simp [Ex.fl]; omega, fun t ht => by simp [Ex.fl, ht], by simp only [Ex.dp]; omega, by simp only [Ex.ns]; omega⟩
 | tr t a b c =>
  simp only [yoo, List.mem_cons, List.not_mem_nil, or_false] at hA
  rcases hA with rfl | rfl | rfl
  ·exact ⟨h.2.1, by simp [Ex.fl]; omega, fun t ht => by simp [Ex.fl, ht], by simp only [Ex.dp]; omega, by simp only [Ex.ns]; omega⟩
  ·exact ⟨h.2.2.1, by simp [Ex.fl]; omega, fun t ht => by simp [Ex.fl, ht], by simp only [Ex.dp]; omega, by simp only [Ex.ns]; omega⟩
  ·exact ⟨h.2.2.2, by simp [Ex.fl]; omega, fun t ht => by simp [Ex.fl, ht], by simp only [Ex.dp]; omega, by simp only [Ex.ns]; omega⟩
theorem ygz (kinds : List Int) (hk : yfc kinds = true) (bound : Bool) (E A : Ex) (h : E.ok) (hA : A ∈ yoo E) (ht : ty kinds bound E ≠ 0) : ty kinds (bound || yhs (hd E).1) A ≠ 0 := by
 cases E with
 | lf t => simp [yoo] at hA
 | un t a =>
  simp only [yoo, List.mem_singleton] at hA; subst hA
  exact (zsc _ _).2.2 ht
 | bi t a b =>
  have hg : yhs t.1 = false := yml (by have := h.1; omega)
  simp only [hd, hg, Bool.or_false]
  have := (zsd _ _ _).2.2 ht
  simp only [yoo, List.mem_cons, List.not_mem_nil, or_false] at hA
  rcases hA with rfl | rfl
  ·exact this.1
  ·exact this.2
 | tr t a b c =>
  have hg : yhs t.1 = false := yml (by have := h.1; omega)
  simp only [hd, hg, Bool.or_false]
  have := (zse _ _ _ (ty_bd kinds hk b bound)).2.2 ht
  simp only [yoo, List.mem_cons, List.not_mem_nil, or_false] at hA
  rcases hA with rfl | rfl | rfl
  ·exact this.1
  ·exact this.2.1
  ·exact this.2.2
end
section
open Go.RowKit
theorem zwb {op : Int} (h : ar op = 0) : 1 ≤ op ∧ op ≤ 17 := by unfold ar at h; repeat' split at h <;> omega
theorem zwc {op : Int} (h : ar op = 1) : 18 ≤ op ∧ op ≤ 29 := by unfold ar at h; repeat' split at h <;> omega
theorem zwd {op : Int} (h : ar op = 2) : 30 ≤ op ∧ op ≤ 42 := by unfold ar at h; repeat' split at h <;> omega
theorem zwe {op : Int} (h : ar op = 3) : op = 43 := by unfold ar at h; repeat' split at h <;> omega
theorem yne {op : Int} : yhs op = true ↔ 20 ≤ op ∧ op ≤ 29 := by simp [yhs]
theorem ydo {e : List Tm} {k : Nat} {a r : List Tm} (h : e.drop k = a ++ r) : ∀ t ∈ a, t ∈ e := fun t ht => by
 have : t ∈ e.drop k := by rw [h]; simp [ht]
 exact List.mem_of_mem_drop this
theorem zcy {ls : List Lk} {n : Nat} (h : ls.length ≤ 24) {j : Nat} (hj : j < ls.length) : InV (j : Int) := by unfold InV yeo; omega
theorem ykh {p : ProgD} {g : GraphD} {c : List (List Int)} {v : Nat} {ls : List Lk} {e : List Tm} {n : Int} (W : WalkOk p g c v ls e n) {kinds : List Int} (hk : yfc kinds = true) : ∀ (E : Ex), E.ok → ∀ (k : Nat) (r : List Tm) (b : Bool) (port : Int), e.drop k = E.fl ++ r → ty kinds b E ≠ 0 → InV port → (b = true → 0 ≤ port ∧ port < ls.length) →
  Con Tryz.prog 203 [ziv p g c v e, i64 k, i64 port] (.tup [i64 ((⟨g, c, v⟩ : Scn).val port E), i64 ((k + E.fl.length : Nat) : Int)])
 | .lf t, ho, k, r, b, port, hE, ht, hp, hb => by
  obtain ⟨hk1, hk2, hk3⟩ := yly (show e.drop k = t :: r from hE)
  have he := W.he
  have h17 := zwb ho
  have hnear : 12 ≤ t.1 → 0 ≤ port ∧ port < ls.length := fun h12 => hb (by
   cases b with
   | true => rfl
   | false => exact absurd (by simp only [ty]; simp [zcv, h17.2]; omega) ht)
  have hm : t ∈ e := List.mem_of_getElem? hk1
  refine yan Tryz.func203 rfl rfl Tryz.ntmps203 Tryz.results203 rfl rfl ?_
  (try refine zy ?_)
  refine yag rfl (fun h => ?_) (fun h => ?_)
  ·(repeat (first | refine zy ?_ | refine yac rfl rfl (wleaf_con p g W.hg c e v ls W.hls t port h17 hnear W.hc (fun hx => ⟨(zbs (W.ha t hm) hx).1, fun r hr => by have := (zbs (W.ha t hm) hx).2; have := W.hr r hr; omega⟩)) rfl rfl ?_))
   refine yaf ?_; refine ⟨_, rfl, ?_⟩
   exact Frz.tup2 (yae rfl) (yae (by simp [Ex.fl]))
  ·exact absurd (by simpa using h) (by omega)
 | .un t a, ho, k, r, b, port, hE, ht, hp, hb => by
  obtain ⟨hk1, hk2, hk3⟩ := yly (show e.drop k = t :: (a.fl ++ r) from hE)
  have he := W.he
  have h17 := zwc ho.1
  have hlen : (Ex.un t a).fl.length = 1 + a.fl.length := by simp [Ex.fl]; omega
  have hka := ygz kinds hk b (.un t a) a ho (by simp [yoo]) ht
  have hd24 : ls.length ≤ 24 := (W.ok.links ls (List.mem_of_getElem? W.hls)).1
  have hdeg : (⟨g, c, v⟩ : Scn).deg = ls.length := by simp [Scn.deg, List.getD_eq_getElem?_getD, W.hls]
  refine yan Tryz.func203 rfl rfl Tryz.ntmps203 Tryz.results203 rfl rfl ?_
  (try refine zy ?_)
  refine yag rfl (fun q1 => ?_) (fun q1 => ?_)
  ·exact absurd (by simpa using q1) (show ¬ t.1 ≤ 17 by omega)
  (try refine zy ?_)
  refine yag rfl (fun q2 => ?_) (fun q2 => ?_)
  ·have hna : yhs t.1 = false := by cases h : yhs t.1 with
    | false => rfl
    | true => exact absurd (yne.1 h).1 (by simp at q2; omega)
   have ih := ykh W hk a ho.2 (k + 1) r b port hk2 (by simpa [hd, hna] using hka) hp hb
   rw [show ((k + 1 : Nat) : Int) = (k : Int) + 1 by omega] at ih
   have hin : InV ((⟨g, c, v⟩ : Scn).val port a) := ynz W.ok a (fun x hx => W.ha x (ydo hk2 x hx)) hp
   (repeat (first | refine zy ?_ | refine yac rfl rfl ih rfl rfl ?_ | refine yac rfl rfl (eun_con _ _ hin) rfl rfl ?_))
   refine yaf ?_; refine ⟨_, rfl, ?_⟩
   exact Frz.tup2 (yae (by simp only [Scn.val]; rw [if_neg (by simp [hna])])) (yae (by rw [hlen]; omega))
  (try refine zy ?_)
  have q2 : ¬ t.1 ≤ 19 := by simpa using q2
  refine yag rfl (fun q3 => ?_) (fun q3 => ?_)
  ·have hag : yhs t.1 = true := yne.2 (by omega)
   have hka : ty kinds true a ≠ 0 := by simpa [hd, hag] using hka
   have H : ∀ j : Nat, j < ls.length → Con Tryz.prog 203 [ziv p g c v e, i64 ((k : Int) + 1), i64 j] (.tup [i64 ((⟨g, c, v⟩ : Scn).val j a), i64 ((k + 1 + a.fl.length : Nat) : Int)]) := fun j hj => by
    have ih := ykh W hk a ho.2 (k + 1) r true (j : Int) hk2 hka (zcy (n := 0) hd24 hj) (fun _ => ⟨by omega, by omega⟩)
    rwa [show ((k + 1 : Nat) : Int) = (k : Int) + 1 by omega] at ih
   have hin : ∀ j : Nat, j < ls.length → InV ((⟨g, c, v⟩ : Scn).val j a) := fun j hj => ynz W.ok a (fun x hx => W.ha x (ydo hk2 x hx)) (zcy (n := 0) hd24 hj)
   (repeat (first | refine zy ?_ | refine yac rfl rfl (wagg_con W t a k r hE (by omega) ho.2 hin H) rfl rfl ?_))
   refine yaf ?_; refine ⟨_, rfl, ?_⟩
   exact Frz.tup2 (yae (by simp only [Scn.val]; rw [if_pos hag, hdeg])) (yae (by rw [hlen]; omega))
  ·exact absurd (by simpa using q3) (show ¬ ¬ t.1 ≤ 29 by omega)
 | .bi t a d, ho, k, r, b, port, hE, ht, hp, hb => by
  obtain ⟨hk1, hk2, hk3⟩ := yly (show e.drop k = t :: (a.fl ++ (d.fl ++ r)) by rw [hE]; simp [Ex.fl])
  have he := W.he
  have h17 := zwd ho.1
  have hna : yhs t.1 = false := by cases h : yhs t.1 with | false => rfl | true => have := yne.1 h; omega
  have hlen : (Ex.bi t a d).fl.length = 1 + a.fl.length + d.fl.length := by simp [Ex.fl]; omega
  have hka := ygz kinds hk b (.bi t a d) a ho (by simp [yoo]) ht
  have hkd := ygz kinds hk b (.bi t a d) d ho (by simp [yoo]) ht
  simp only [hd, hna, Bool.or_false] at hka hkd
  have hk4 := yst hk2
  have ih1 := ykh W hk a ho.2.1 (k + 1) _ b port hk2 hka hp hb
  have ih2 := ykh W hk d ho.2.2 (k + 1 + a.fl.length) r b port hk4 hkd hp hb
  rw [show ((k + 1 : Nat) : Int) = (k : Int) + 1 by omega] at ih1
  have hin1 : InV ((⟨g, c, v⟩ : Scn).val port a) := ynz W.ok a (fun x hx => W.ha x (ydo hk2 x hx)) hp
  have hin2 : InV ((⟨g, c, v⟩ : Scn).val port d) := ynz W.ok d (fun x hx => W.ha x (ydo hk4 x hx)) hp
  refine yan Tryz.func203 rfl rfl Tryz.ntmps203 Tryz.results203 rfl rfl ?_
  (try refine zy ?_)
  refine yag rfl (fun q1 => ?_) (fun q1 => ?_)
  ·exact absurd (by simpa using q1) (show ¬ t.1 ≤ 17 by omega)
  (try refine zy ?_)
  refine yag rfl (fun q2 => ?_) (fun q2 => ?_)
  ·exact absurd (by simpa using q2) (show ¬ t.1 ≤ 19 by omega)
  (try refine zy ?_)
  refine yag rfl (fun q3 => ?_) (fun q3 => ?_)
  ·exact absurd (by simpa using q3) (show ¬ t.1 ≤ 29 by omega)
  (try refine zy ?_)
  refine yag rfl (fun q4 => ?_) (fun q4 => ?_)
  ·(repeat (first | refine zy ?_ | refine yac rfl rfl ih1 rfl rfl ?_ | refine yac rfl rfl ih2 rfl rfl ?_ | refine yac rfl rfl (ebin_con _ _ _ hin1 hin2) rfl rfl ?_))
   refine yaf ?_; refine ⟨_, rfl, ?_⟩
   exact Frz.tup2 (yae (by simp only [Scn.val]; exact biP_eq h17)) (yae (by rw [hlen]; omega))
  ·exact absurd (by simpa using q4) (show ¬ ¬ t.1 ≤ 42 by omega)
 | .tr t a d f, ho, k, r, b, port, hE, ht, hp, hb => by
  obtain ⟨hk1, hk2, hk3⟩ := yly (show e.drop k = t :: (a.fl ++ (d.fl ++ (f.fl ++ r))) by rw [hE]; simp [Ex.fl])
  have he := W.he
  have h17 := zwe ho.1
  have hna : yhs t.1 = false := by cases h : yhs t.1 with | false => rfl | true => have := yne.1 h; omega
  have hlen : (Ex.tr t a d f).fl.length = 1 + a.fl.length + d.fl.length + f.fl.length := by simp [Ex.fl]; omega
  have hka := ygz kinds hk b (.tr t a d f) a ho (by simp [yoo]) ht
  have hkd := ygz kinds hk b (.tr t a d f) d ho (by simp [yoo]) ht
  have hkf := ygz kinds hk b (.tr t a d f) f ho (by simp [yoo]) ht
  simp only [hd, hna, Bool.or_false] at hka hkd hkf
  have hk4 := yst hk2
  have hk5 := yst hk4
  have ih1 := ykh W hk a ho.2.1 (k + 1) _ b port hk2 hka hp hb
  have ih2 := ykh W hk d ho.2.2.1 (k + 1 + a.fl.length) _ b port hk4 hkd hp hb
  have ih3 := ykh W hk f ho.2.2.2 (k + 1 + a.fl.length + d.fl.length) r b port hk5 hkf hp hb
  rw [show ((k + 1 : Nat) : Int) = (k : Int) + 1 by omega] at ih1
  refine yan Tryz.func203 rfl rfl Tryz.ntmps203 Tryz.results203 rfl rfl ?_
  (try refine zy ?_)
  refine yag rfl (fun q1 => ?_) (fun q1 => ?_)
  ·exact absurd (by simpa using q1) (show ¬ t.1 ≤ 17 by omega)
  (try refine zy ?_)
  refine yag rfl (fun q2 => ?_) (fun q2 => ?_)
  ·exact absurd (by simpa using q2) (show ¬ t.1 ≤ 19 by omega)
  (try refine zy ?_)
  refine yag rfl (fun q3 => ?_) (fun q3 => ?_)
  ·exact absurd (by simpa using q3) (show ¬ t.1 ≤ 29 by omega)
  (try refine zy ?_)
  refine yag rfl (fun q4 => ?_) (fun q4 => ?_)
  ·exact absurd (by simpa using q4) (show ¬ t.1 ≤ 42 by omega)
  (repeat (first | refine zy ?_ | refine yac rfl rfl ih1 rfl rfl ?_ | refine yac rfl rfl ih2 rfl rfl ?_ | refine yac rfl rfl ih3 rfl rfl ?_))
  refine yag rfl (fun q5 => ?_) (fun q5 => ?_)
  ·(try refine zy ?_)
   refine yaf ?_; refine ⟨_, rfl, ?_⟩
   exact Frz.tup2 (yae (by simp only [Scn.val]; rw [if_pos (by simpa using q5)])) (yae (by rw [hlen]; omega))
  ·(try refine zy ?_)
   refine yaf ?_; refine ⟨_, rfl, ?_⟩
   exact Frz.tup2 (yae (by simp only [Scn.val]; rw [if_neg (by simpa using q5)])) (yae (by rw [hlen]; omega))
end
section
open Go.RowKit
def zby (p : Int × Int) : List AV := [i64 p.1, i64 p.2]
def zen (tbl : List (List (Int × Int))) : AV := .sl 1 (tbl.map fun r => [.sl 2 (r.map zby)])
def yos : AV := .v (.slice none 0 0)
theorem ztp (x : AV) (n : Nat) : yms n [x] = List.replicate n x := by
 induction n with
 | zero => rfl
 | succ n ih => simp [yms, ih, List.replicate_succ]
theorem ycd {α : Type} {l : List α} {i : Nat} {x : α} (h : l[i]? = some x) : l.take (i + 1) = l.take i ++ [x] := by
 rw [List.take_add_one, h]; rfl
theorem set_fill {α : Type} {l : List α} {m j : Nat} {x z : α} (hl : l.length = m) (h : l[j]? = some x) : (l.take j ++ List.replicate (m - j) z).set j x = l.take (j + 1) ++ List.replicate (m - (j + 1)) z := by
 have hj := (List.getElem?_eq_some_iff.1 h).1
 have e : (l.take j).length = j := by rw [List.length_take]; omega
 rw [List.set_append_right _ _ (Nat.le_of_eq e), e, Nat.sub_self, show m - j = (m - (j + 1)) + 1 by omega, List.replicate_succ, ycd h]
 simp
theorem set_last {α : Type} {l : List α} {k : Nat} {x y : α} (h : l.length = k) : (l ++ [x]).set k y = l ++ [y] := by
 rw [List.set_append_right _ _ (Nat.le_of_eq h), h, Nat.sub_self]; rfl
def zdn (c : List (List Int)) : List (List AV) := c.map fun r => r.map i64
theorem ygi (r : List Int) : (r.map fun x => [i64 x]).flatten = r.map i64 := by
 induction r with
 | nil => rfl
 | cons x r ih => simp [ih]
theorem zjo (c : List (List Int)) (hn : c.length ≤ 1000) (hm : ∀ r ∈ c, r.length ≤ 1000) : yva Tryz.prog 84 [yfh c] (fun _ => none) (.ls 8 1 c.length) (yad (yek 8 1 (zdn c) [])) := by
 refine conO_of tok Tryz.func84 rfl rfl Tryz.ntmps84 Tryz.results84 rfl rfl ?_
 (repeat (first | refine zy ?_ | refine yao tok rfl rfl rfl rfl (by constructor <;> omega) rfl rfl rfl rfl rfl ?_))
 refine zbp 8 (List.replicate c.length yos) rfl (ztp _ _) ?_
 refine yjr (α := Nat) (fun k => [(11, i64 k), (10, i64 c.length), (9, yfh c), (3, .ls 8 1 c.length)]) (fun k => yek 8 1 (zdn (c.take k)) (List.replicate (c.length - k) yos)) (fun k => c.length - k) (fun k => k ≤ c.length) 0 (by omega) (by exact zs) (hsE (by simp only [yek, yfz, yqg, List.take_zero, List.nil_append, Nat.sub_zero, zdn, List.map_nil]; exact yhw)) ?_
 intro k hk
 (try refine zy ?_)
 refine yag rfl (fun h => ?_) (fun h => ?_)
 ·simp at h
  obtain ⟨r, hr⟩ := ycz (show k < c.length by omega)
  have hrm := hm r (List.mem_of_getElem? hr)
  have htk : (zdn (c.take k)).length = k := by simp [zdn]; omega
  (try refine zy ?_)
  refine L_appendNilI tok (fam 8 k) rfl rfl rfl (by intro c hc; rw [ygi] at hc; obtain ⟨x, _, rfl⟩ := List.mem_map.1 hc; rfl) (by constructor <;> simp <;> omega) (zfb (f := []) rfl rfl rfl htk.symm (zib yos rfl _)) rfl rfl rfl ?_
  refine yav tok rfl rfl (by rw [yaw (yed (by omega))]; exact ygr) rfl (by omega) (by omega) rfl rfl ?_
  refine yvd tok rfl rfl rfl rfl rfl (by rw [yaw (yed (by omega))]; exact ygr) (by rw [List.length_append, yev, htk, List.length_replicate]; simp; omega) rfl rfl ?_
  refine zsi (h' := yek 8 1 (zdn (c.take (k + 1))) (List.replicate (c.length - (k + 1)) yos)) ?_ ?_
  ·have hex : List.replicate (c.length - k) yos = yos :: List.replicate (c.length - (k + 1)) yos := by rw [← List.replicate_succ]; congr 1; omega
   rw [show ((k : Int).toNat * 1) = k by simp, ygi]
   exact zop (f := []) (a := yos) rfl rfl rfl htk.symm (by simp) hex (by rw [ycd hr]; simp [zdn])
  (try refine zy ?_)
  refine zgl (k + 1) (by omega) (by omega) (by exact zs) (fun id o h => h)
 ·simp at h
  obtain rfl : k = c.length := by omega
  (try refine zy ?_)
  refine yaf ⟨_, rfl, yob _, fun id o ho => ?_⟩
  rw [← List.take_length (l := c)] at ho
  simpa [S] using ho
end
section
open Go.RowKit
def inB (v lo hi : Int) : Bool := decide (lo ≤ v) && decide (v ≤ hi)
theorem zag (v lo hi : Int) : Con Tryz.prog 47 [i64 v, i64 lo, i64 hi] (ycp (inB v lo hi)) := by
 refine yan Tryz.func47 rfl rfl Tryz.ntmps47 Tryz.results47 rfl rfl ?_
 (try refine zy ?_)
 refine yau 10 rfl (fun h => ?_) (fun h => ?_)
 ·(try refine zy ?_)
  refine yaf ?_; refine ⟨_, rfl, ?_⟩
  exact yai (by simp at h; simp [inB, h])
 ·(try refine zy ?_)
  refine yaf ?_; refine ⟨_, rfl, ?_⟩
  exact yai (by simp at h; simp [inB]; omega)
theorem differentIDs_con (ids : List Int) (hlen : ids.length ≤ 5000) : Con Tryz.prog 101 [yaq ids] (ycp (zhi ids)) := by
 refine yan Tryz.func101 rfl rfl Tryz.ntmps101 Tryz.results101 rfl rfl ?_
 (try refine zy ?_)
 refine A_asVec 3 ((bits []).map ycp) rfl (by rw [bits_nil]; rfl) (by intro y hy; obtain ⟨b, _, rfl⟩ := List.mem_map.1 hy; rfl) ?_
 refine ycy (α := Nat) (fun k => [(8, i64 k), (7, i64 ids.length), (6, yaq ids), (3, .lp 3 0)]) (fun k => [(3, some (.vec ((bits (ids.take k)).map ycp)))]) (fun k => ids.length - k) (fun k => k ≤ ids.length ∧ zhi (ids.take k) = true) 0 ⟨by omega, rfl⟩ (by exact zs) (by exact zh) ?_
 intro k ⟨hk, hok⟩
 (try refine zy ?_)
 refine yag rfl (fun h => ?_) (fun h => ?_)
 ·simp at h
  obtain ⟨x, hx⟩ := ycz h
  (try refine zy ?_)
  refine yau 14 rfl (fun h1 => ?_) (fun h1 => ?_)
  ·simp at h1
   (try refine zy ?_)
   refine yaf ?_; refine ⟨_, rfl, ?_⟩
   exact yai (zcj hx (by simp [idB]; omega)).symm
  ·simp at h1
   (try refine zy ?_)
   refine yau 18 rfl (fun h2 => ?_) (fun h2 => ?_)
   ·simp at h2
    (try refine zy ?_)
    refine yaf ?_; refine ⟨_, rfl, ?_⟩
    exact yai (zcj hx (by simp [idB]; omega)).symm
   ·simp at h2
    (try refine zy ?_)
    refine ybe tok rfl rfl rfl (by simp [bits]) rfl (by omega) (by omega) rfl rfl ?_
    refine ycn (r := ycp (decide (x ∈ ids.take k))) tok rfl rfl rfl rfl (by simp [bits_get (ids.take k) x h1 h2]) rfl rfl ?_
    (try refine zy ?_)
    refine yag rfl (fun h3 => ?_) (fun h3 => ?_)
    ·simp at h3
     (try refine zy ?_)
     refine yaf ?_; refine ⟨_, rfl, ?_⟩
     exact yai (zad hx h3).symm
    ·simp at h3
     (try refine zy ?_)
     refine ybe tok rfl rfl rfl (by simp [bits]) rfl (by omega) (by omega) rfl rfl ?_
     refine ybz tok rfl rfl rfl rfl rfl rfl (by simp [bits_len]; omega) rfl rfl rfl ?_
     (try refine zy ?_)
     refine rnd (k + 1) ⟨by omega, zfj hx hok (by simp [idB]; omega) h3⟩ (by omega) (by exact zs) ?_
     refine yal ?_ yay
     rw [ygu hx, ← bits_set _ x h1 h2, List.map_set]
     simp [yad, ycp]
 ·simp at h
  obtain rfl : k = ids.length := by omega
  (try refine zy ?_)
  refine yaf ?_; refine ⟨_, rfl, ?_⟩
  rw [List.take_length] at hok
  exact yai hok.symm
end
set_option maxHeartbeats 4000000
section
open Go.RowKit
def yle (g : GraphD) : Bool := decide (g.ids.length ≤ 30) && (decide (g.ports.length ≤ 30) && g.ports.all fun l => decide (l.length ≤ 30))
theorem yer (g : GraphD) : yle g = true ↔ g.ids.length ≤ 30 ∧ g.ports.length ≤ 30 ∧ ∀ l ∈ g.ports, l.length ≤ 30 := by
 unfold yle; simp
theorem lightGraph_con (g : GraphD) : Con Tryz.prog 39 [yin g] (ycp (yle g)) := by
 refine yan Tryz.func39 rfl rfl Tryz.ntmps39 Tryz.results39 rfl rfl ?_
 (try refine zy ?_)
 refine yau 8 rfl (fun h1 => ?_) (fun h1 => ?_)
 ·simp at h1
  (try refine zy ?_)
  refine yaf ?_; refine ⟨_, rfl, ?_⟩
  exact yai (by rw [eq_comm, ← Bool.not_eq_true, yer]; omega)
 simp at h1
 (try refine zy ?_)
 refine yag rfl (fun h2 => ?_) (fun h2 => ?_)
 ·simp at h2
  (try refine zy ?_)
  refine yaf ?_; refine ⟨_, rfl, ?_⟩
  exact yai (by rw [eq_comm, ← Bool.not_eq_true, yer]; omega)
 simp at h2
 (try refine zy ?_)
 refine ycy (α := Nat) (fun k => [(3, i64 k), (1, .lp 1 0)]) (fun k => [(1, some (.cells [yaq g.ids, ybd g.ports]))]) (fun k => g.ports.length - k) (fun k => k ≤ g.ports.length ∧ ∀ l ∈ g.ports.take k, l.length ≤ 30) 0 ⟨by omega, by simp⟩ (by exact zs) (by exact zh) ?_
 intro k ⟨hk, hok⟩
 (try refine zy ?_)
 refine yag rfl (fun h => ?_) (fun h => ?_)
 ·simp at h
  obtain ⟨x, hx⟩ := ycz h
  (try refine zy ?_)
  refine yag rfl (fun h3 => ?_) (fun h3 => ?_)
  ·simp at h3
   (try refine zy ?_)
   refine yaf ?_; refine ⟨_, rfl, ?_⟩
   refine yai ?_
   rw [eq_comm, ← Bool.not_eq_true, yer]
   intro h4
   have := h4.2.2 x (List.mem_of_getElem? hx)
   omega
  ·simp at h3
   (try refine zy ?_)
   refine rnd (k + 1) ⟨by omega, ?_⟩ (by omega) (by exact zs) (by exact zh)
   intro l hl
   rw [ygu hx] at hl
   rcases List.mem_append.1 hl with hl | hl
   ·exact hok l hl
   ·simp at hl; subst hl; omega
 ·simp at h
  obtain rfl : k = g.ports.length := by omega
  (try refine zy ?_)
  refine yaf ?_; refine ⟨_, rfl, ?_⟩
  rw [List.take_length] at hok
  exact yai (by rw [eq_comm, yer]; exact ⟨by omega, by omega, hok⟩)
theorem linksValid_con (l : List Lk) (v n : Nat) (hlen : l.length ≤ 5000) (hn : n ≤ 5000) : Con Tryz.prog 90 [yhn l, i64 v, i64 n] (ycp (ygq n v l)) := by
 refine yan Tryz.func90 rfl rfl Tryz.ntmps90 Tryz.results90 rfl rfl ?_
 (try refine zy ?_)
 refine ycy (α := Nat) (fun k => [(7, i64 k), (0, yhn l), (1, i64 v), (2, i64 n)]) (fun k => []) (fun k => l.length - k) (fun k => k ≤ l.length ∧ ygq n v (l.take k) = true) 0 ⟨by omega, rfl⟩ (by exact zs) (by exact zh) ?_
 intro k ⟨hk, hok⟩
 (try refine zy ?_)
 refine yag rfl (fun h => ?_) (fun h => ?_)
 ·simp at h
  obtain ⟨x, hx⟩ := ycz h
  (repeat (first | refine zy ?_ | refine yac rfl rfl (zag _ _ _) rfl rfl ?_))
  refine yau 24 rfl (fun h1 => ?_) (fun h1 => ?_)
  ·(try refine zy ?_)
   refine yaf ?_; refine ⟨_, rfl, ?_⟩
   refine yai (ygj hx ?_).symm
   rw [← Bool.not_eq_true, ybu]
   simp [inB] at h1
   omega
  ·(try refine zy ?_)
   refine yau 33 rfl (fun h2 => ?_) (fun h2 => ?_)
   ·(try refine zy ?_)
    refine yaf ?_; refine ⟨_, rfl, ?_⟩
    refine yai (ygj hx ?_).symm
    rw [← Bool.not_eq_true, ybu]
    simp at h2
    omega
   ·(repeat (first | refine zy ?_ | refine yac rfl rfl (zag _ _ _) rfl rfl ?_))
    refine yag rfl (fun h3 => ?_) (fun h3 => ?_)
    ·(try refine zy ?_)
     refine yaf ?_; refine ⟨_, rfl, ?_⟩
     refine yai (ygj hx ?_).symm
     rw [← Bool.not_eq_true, ybu]
     simp [inB] at h3
     omega
    ·(try refine zy ?_)
     have hlk : zfp n v x = true := by
      rw [ybu]
      simp [inB] at h1 h2 h3
      omega
     refine ycy (α := Nat) (fun j => [(8, i64 j), (7, i64 k), (0, yhn l), (1, i64 v), (2, i64 n)]) (fun k => []) (fun j => k - j) (fun j => j ≤ k ∧ ∀ (i : Nat) (y : Lk), i < j → l[i]? = some y → y.1 ≠ x.1) 0 ⟨by omega, by omega⟩ (by exact zs) (by exact zh) ?_
     intro j ⟨hj, hjo⟩
     (try refine zy ?_)
     refine yag rfl (fun h4 => ?_) (fun h4 => ?_)
     ·simp at h4
      obtain ⟨y, hy⟩ := ycz (show j < l.length by omega)
      (try refine zy ?_)
      refine yag rfl (fun h5 => ?_) (fun h5 => ?_)
      ·simp at h5
       (try refine zy ?_)
       refine yaf ?_; refine ⟨_, rfl, ?_⟩
       exact yai (yuk h4 hy hx h5).symm
      ·simp at h5
       (try refine zy ?_)
       refine rnd (j + 1) ⟨by omega, fun i z hi hz => ?_⟩ (by omega) (by exact zs) (by exact zh)
       rcases Nat.lt_or_ge i j with h6 | h6
       ·exact hjo i z h6 hz
       ·obtain rfl : i = j := by omega
        rw [hy] at hz; cases hz; exact h5
     ·simp at h4
      obtain rfl : j = k := by omega
      (try refine zy ?_)
      refine rnd (j + 1) ⟨by omega, yxh hx hok hlk hjo⟩ (by omega) (by exact zs) (by exact zh)
 ·simp at h
  obtain rfl : k = l.length := by omega
  (try refine zy ?_)
  refine yaf ?_; refine ⟨_, rfl, ?_⟩
  rw [List.take_length] at hok
  exact yai hok.symm
theorem zkx (g : GraphD) (v : Int) (u : Int) (ls : List Lk) (h0 : 0 ≤ v) (hv : g.ports[v.toNat]? = some ls) (hlen : ls.length ≤ 5000) : Con Tryz.prog 91 [yin g, i64 v, i64 u] (i64 (yia ls u)) := by
 refine yan Tryz.func91 rfl rfl Tryz.ntmps91 Tryz.results91 rfl rfl ?_
 (try refine zy ?_)
 refine ycy (α := Nat) (fun k => [(7, i64 k), (3, .lp 3 0), (1, i64 v), (2, i64 u)]) (fun k => [(3, some (.cells [yaq g.ids, ybd g.ports]))]) (fun k => ls.length - k) (fun k => k ≤ ls.length ∧ ∀ (j : Nat) (y : Lk), j < k → ls[j]? = some y → y.1 ≠ u) 0 ⟨by omega, by omega⟩ (by exact zs) (by exact zh) ?_
 intro k ⟨hk, hok⟩
 (try refine zy ?_)
 refine yag rfl (fun h => ?_) (fun h => ?_)
 ·simp at h
  obtain ⟨x, hx⟩ := ycz h
  (try refine zy ?_)
  refine yag rfl (fun h1 => ?_) (fun h1 => ?_)
  ·simp at h1
   (try refine zy ?_)
   refine yaf ?_; refine ⟨_, rfl, ?_⟩
   exact yae (yxu hx h1 hok).symm
  ·simp at h1
   (try refine zy ?_)
   refine rnd (k + 1) ⟨by omega, fun j y hj hy => ?_⟩ (by omega) (by exact zs) (by exact zh)
   rcases Nat.lt_or_ge j k with h6 | h6
   ·exact hok j y h6 hy
   ·obtain rfl : j = k := by omega
    rw [hx] at hy; cases hy; exact h1
 ·simp at h
  obtain rfl : k = ls.length := by omega
  (try refine zy ?_)
  refine yaf ?_; refine ⟨_, rfl, ?_⟩
  exact yae (yxt fun j y hy => hok j y (List.getElem?_eq_some_iff.1 hy).1 hy).symm
end
set_option maxHeartbeats 8000000
section
open Go.RowKit
theorem yoa {g : GraphD} (h : ¬ (1 ≤ g.ports.length ∧ g.ports.length ≤ 24 ∧ g.ids.length = g.ports.length)) : ydd g = false := by
 rw [← Bool.not_eq_true, yiu]; intro h1; exact h ⟨h1.1, h1.2.1, h1.2.2.1⟩
theorem yyq {g : GraphD} (h : zhi g.ids = false) : ydd g = false := by
 rw [← Bool.not_eq_true, yiu]; intro h1; rw [h1.2.2.2.1] at h; cases h
theorem yyr {g : GraphD} {v : Nat} {ls : List Lk} (hv : g.ports[v]? = some ls) (h : ygq g.ports.length v ls = false) : ydd g = false := by
 rw [← Bool.not_eq_true, yiu]; intro h1; rw [yhi] at h1; rw [h1.2.2.2.2.1 v ls hv] at h; cases h
theorem zhf {g : GraphD} {v : Nat} {ls : List Lk} {l : Lk} (hv : g.ports[v]? = some ls) (hl : l ∈ ls) (h : yfm (g.ports.getD l.1.toNat []) v ≠ l.2) : ydd g = false := by
 rw [← Bool.not_eq_true, yiu]; intro h1; rw [yvx] at h1; exact h (h1.2.2.2.2.2 v ls hv l hl)
def zvs (g : GraphD) : Prop := g.ids.length ≤ 5000 ∧ g.ports.length ≤ 5000 ∧ ∀ l ∈ g.ports, l.length ≤ 5000
theorem zot {g : GraphD} (h : yle g = true) : zvs g := by
 obtain ⟨h1, h2, h3⟩ := (yer g).1 h
 exact ⟨by omega, by omega, fun l hl => by have := h3 l hl; omega⟩
theorem rvalid_con' (g : GraphD) (hl : zvs g) : Con Tryz.prog 40 [yin g] (ycp (ydd g)) := by
 obtain ⟨hl1, hl2, hl3⟩ := hl
 refine yan Tryz.func40 rfl rfl Tryz.ntmps40 Tryz.results40 rfl rfl ?_
 (repeat (first | refine zy ?_ | refine yac rfl rfl (zag _ _ _) rfl rfl ?_))
 refine yau 16 rfl (fun h1 => ?_) (fun h1 => ?_)
 ·(try refine zy ?_)
  refine yaf ?_; refine ⟨_, rfl, ?_⟩
  exact yai (yoa (by simp [inB] at h1; omega)).symm
 simp [inB] at h1
 (try refine zy ?_)
 refine yag rfl (fun h2 => ?_) (fun h2 => ?_)
 ·simp at h2
  (try refine zy ?_)
  refine yaf ?_; refine ⟨_, rfl, ?_⟩
  exact yai (yoa (by omega)).symm
 simp at h2
 (try refine zy ?_)
 refine ycy (α := Nat) (fun k => [(4, i64 k), (3, i64 g.ports.length), (1, .lp 1 0)]) (fun k => [(1, some (.cells [yaq g.ids, ybd g.ports]))]) (fun k => g.ports.length - k) (fun k => k ≤ g.ports.length ∧ zhi (g.ids.take k) = true ∧ ∀ (v : Nat) (ls : List Lk), v < k → g.ports[v]? = some ls → ygq g.ports.length v ls = true) 0 ⟨by omega, rfl, by omega⟩ (by exact zs) (by exact zh) ?_
 intro k ⟨hk, hok1, hok2⟩
 (try refine zy ?_)
 refine yag rfl (fun h => ?_) (fun h => ?_)
 ·simp at h
  obtain ⟨x, hx⟩ := ycz (show k < g.ids.length by omega)
  obtain ⟨ls, hls⟩ := ycz h
  have hll := hl3 ls (List.mem_of_getElem? hls)
  (repeat (first | refine zy ?_ | refine yac rfl rfl (zag _ _ _) rfl rfl ?_))
  refine yau 35 rfl (fun h3 => ?_) (fun h3 => ?_)
  ·(try refine zy ?_)
   refine yaf ?_; refine ⟨_, rfl, ?_⟩
   exact yai (yyq (zcj hx (by simp [inB] at h3; simp [idB]; omega))).symm
  simp [inB] at h3
  (try refine zy ?_)
  refine yau 45 rfl (fun h4 => ?_) (fun h4 => ?_)
  ·simp at h4
   (try refine zy ?_)
   refine yaf ?_; refine ⟨_, rfl, ?_⟩
   refine yai (yyr hls ?_).symm
   rw [← Bool.not_eq_true]
   intro h5
   have := ycq h h5
   omega
  simp at h4
  (repeat (first | refine zy ?_ | refine yac rfl rfl (linksValid_con ls k g.ports.length (by omega) (by omega)) rfl rfl ?_))
  refine yag rfl (fun h5 => ?_) (fun h5 => ?_)
  ·(try refine zy ?_)
   refine yaf ?_; refine ⟨_, rfl, ?_⟩
   exact yai (yyr hls (by simpa using h5)).symm
  simp at h5
  (try refine zy ?_)
  refine ycy (α := Nat) (fun j => [(5, i64 j), (4, i64 k), (3, i64 g.ports.length), (1, .lp 1 0)]) (fun k => [(1, some (.cells [yaq g.ids, ybd g.ports]))]) (fun j => k - j) (fun j => j ≤ k ∧ x ∉ g.ids.take j) 0 ⟨by omega, by simp⟩ (by exact zs) (by exact zh) ?_
  intro j ⟨hj, hjo⟩
  (try refine zy ?_)
  refine yag rfl (fun h6 => ?_) (fun h6 => ?_)
  ·simp at h6
   obtain ⟨y, hy⟩ := ycz (show j < g.ids.length by omega)
   (try refine zy ?_)
   refine yag rfl (fun h7 => ?_) (fun h7 => ?_)
   ·simp at h7
    (try refine zy ?_)
    refine yaf ?_; refine ⟨_, rfl, ?_⟩
    refine yai (yyq (zad hx ?_)).symm
    subst h7
    exact List.mem_of_getElem? (show (g.ids.take k)[j]? = some y by rw [List.getElem?_take, if_pos h6]; exact hy)
   ·simp at h7
    (try refine zy ?_)
    refine rnd (j + 1) ⟨by omega, ?_⟩ (by omega) (by exact zs) (by exact zh)
    rw [ygu hy]
    simp only [List.mem_append, List.mem_singleton, not_or]
    exact ⟨hjo, fun e => h7 e.symm⟩
  ·simp at h6
   obtain rfl : j = k := by omega
   (try refine zy ?_)
   refine rnd (j + 1) ⟨by omega, zfj hx hok1 (by simp [idB]; omega) hjo, fun v ls' hv hls' => ?_⟩ (by omega) (by exact zs) (by exact zh)
   rcases Nat.lt_or_ge v j with h8 | h8
   ·exact hok2 v ls' h8 hls'
   ·obtain rfl : v = j := by omega
    rw [hls] at hls'; cases hls'; exact h5
 ·simp at h
  obtain rfl : k = g.ports.length := by omega
  have hids : zhi g.ids = true := by rw [show g.ports.length = g.ids.length by omega, List.take_length] at hok1; exact hok1
  have hports : yxv g.ports = true := by rw [yhi]; exact fun v ls hv => hok2 v ls (List.getElem?_eq_some_iff.1 hv).1 hv
  clear hok1 hok2
  (try refine zy ?_)
  refine ycy (α := Nat) (fun k => [(6, i64 k), (3, i64 g.ports.length), (1, .lp 1 0)]) (fun k => [(1, some (.cells [yaq g.ids, ybd g.ports]))]) (fun k => g.ports.length - k) (fun k => k ≤ g.ports.length ∧ ∀ (v : Nat) (ls : List Lk), v < k → g.ports[v]? = some ls → ∀ l ∈ ls, yfm (g.ports.getD l.1.toNat []) v = l.2) 0 ⟨by omega, by omega⟩ (by exact zs) (by exact zh) ?_
  intro k ⟨hk, hok⟩
  (try refine zy ?_)
  refine yag rfl (fun h3 => ?_) (fun h3 => ?_)
  ·simp at h3
   obtain ⟨ls, hls⟩ := ycz h3
   have hll := hl3 ls (List.mem_of_getElem? hls)
   (try refine zy ?_)
   refine ycy (α := Nat) (fun i => [(7, i64 i), (6, i64 k), (3, i64 g.ports.length), (1, .lp 1 0)]) (fun k => [(1, some (.cells [yaq g.ids, ybd g.ports]))]) (fun i => ls.length - i) (fun i => i ≤ ls.length ∧ ∀ l ∈ ls.take i, yfm (g.ports.getD l.1.toNat []) k = l.2) 0 ⟨by omega, by simp⟩ (by exact zs) (by exact zh) ?_
   intro i ⟨hi, hio⟩
   (try refine zy ?_)
   refine yag rfl (fun h4 => ?_) (fun h4 => ?_)
   ·simp at h4
    obtain ⟨l, hlk⟩ := ycz h4
    have hlb := (ybu _ _ _).1 (((ycl _ _ _).1 ((yhi _).1 hports k ls hls)).1 l (List.mem_of_getElem? hlk))
    obtain ⟨os, hos⟩ := ycz (show l.1.toNat < g.ports.length by omega)
    have hol := hl3 os (List.mem_of_getElem? hos)
    have hgd : g.ports.getD l.1.toNat [] = os := by rw [List.getD_eq_getElem?_getD, hos]; rfl
    (repeat (first | refine zy ?_ | refine yac rfl rfl (zkx g l.1 k os (by omega) hos (by omega)) rfl rfl ?_))
    rcases ynr os k with ⟨hp, hpn⟩ | ⟨q, y, hp, hy, hyk, hfd⟩
    ·refine yau 102 rfl (fun h5 => ?_) (fun h5 => ?_)
     ·(try refine zy ?_)
      refine yaf ?_; refine ⟨_, rfl, ?_⟩
      refine yai (zhf hls (List.mem_of_getElem? hlk) ?_).symm
      rw [hgd, yyt hpn]
      omega
     ·rw [hp] at h5; simp at h5
    ·have hwt := yyu hfd
     refine yau 102 rfl (fun h5 => ?_) (fun h5 => ?_)
     ·rw [hp] at h5; simp at h5; omega
     ·rw [hp]
      (try refine zy ?_)
      refine yag rfl (fun h6 => ?_) (fun h6 => ?_)
      ·(try refine zy ?_)
       refine yaf ?_; refine ⟨_, rfl, ?_⟩
       refine yai (zhf hls (List.mem_of_getElem? hlk) ?_).symm
       rw [hgd, hwt]
       simpa using h6
      ·simp at h6
       (try refine zy ?_)
       refine rnd (i + 1) ⟨by omega, fun z hz => ?_⟩ (by omega) (by exact zs) (by exact zh)
       rw [ygu hlk] at hz
       rcases List.mem_append.1 hz with hz | hz
       ·exact hio z hz
       ·simp at hz; subst hz; rw [hgd, hwt, h6]
   ·simp at h4
    obtain rfl : i = ls.length := by omega
    rw [List.take_length] at hio
    (try refine zy ?_)
    refine rnd (k + 1) ⟨by omega, fun v ls' hv hls' => ?_⟩ (by omega) (by exact zs) (by exact zh)
    rcases Nat.lt_or_ge v k with h8 | h8
    ·exact hok v ls' h8 hls'
    ·obtain rfl : v = k := by omega
     rw [hls] at hls'; cases hls'; exact hio
  ·simp at h3
   obtain rfl : k = g.ports.length := by omega
   (try refine zy ?_)
   refine yaf ?_; refine ⟨_, rfl, ?_⟩
   refine yai ?_
   rw [eq_comm, yiu]
   exact ⟨by omega, by omega, by omega, hids, hports, (yvx _).2 fun v ls hv => hok v ls (List.getElem?_eq_some_iff.1 hv).1 hv⟩
end
section
open Go.RowKit Go.Maps Go.WideMaps
theorem laidB : laidOutB Tryz.prog = true := by kernel_rfl
theorem arr2 : ArrKey Tryz.prog 136 3 2 := ⟨Tryz.underlying136, by kernel_rfl, by kernel_rfl, by kernel_rfl⟩
theorem wide2 : (match Tryz.prog.underlying 136 with | some (.array _ _) | some (.struct _) => true | _ => false) = true := by rw [Tryz.underlying136]
theorem row2 : (136 : TypeId) < Tryz.prog.types.size := of_decide_eq_true (by kernel_rfl)
theorem zkg : Keyed Tryz.prog 136 := Keyed.of_law (deep_law_laid laidB (m := 2) (by omega) row2 (by kernel_rfl) wide2)
def yyx (v u : Int) : Value := .agg #[.int .i64 v, .int .i64 u]
theorem yrj {a b c d : Int} (h : yyx a b = yyx c d) : a = c ∧ b = d := by
 unfold yyx at h; simpa using h
theorem typesPos : ∃ m, Tryz.prog.types.size = m + 1 := by
 have h : 0 < Tryz.prog.types.size := of_decide_eq_true (by kernel_rfl)
 exact ⟨Tryz.prog.types.size - 1, by omega⟩
theorem zlx {x : Int} (h : 0 ≤ x ∧ x ≤ 5000) : (Lit.int .i64 x).wf = true := by
 have e1 : IntKind.i64.min = -9223372036854775808 := by decide
 have e2 : IntKind.i64.max = 9223372036854775807 := by decide
 simp only [Lit.wf, Bool.and_eq_true, decide_eq_true_eq]
 omega
theorem yvm {v u : Int} (hv : 0 ≤ v ∧ v ≤ 5000) (hu : 0 ≤ u ∧ u ≤ 5000) : ∃ l, keyOf Tryz.prog 136 (yyx v u) = some l :=
 ⟨_, keyOf_pair arr2 Tryz.underlying3 typesPos (zlx hv) (zlx hu)⟩
theorem zti : ∀ w, (zeroValue 3).run Tryz.prog w = .ok (.int .i64 0) w := fun w => by kernel_rfl
def zly (ports : List (List Lk)) (k i : Nat) (e : Value × Value) : Prop := ∃ (v j : Nat) (ls : List Lk) (l : Lk), ports[v]? = some ls ∧ ls[j]? = some l ∧ (v < k ∨ (v = k ∧ j < i)) ∧ e = (yyx v l.1, .int .i64 l.2)
theorem ent_next {ports : List (List Lk)} {k i : Nat} {ls : List Lk} {l : Lk} {es : List (Value × Value)} (hls : ports[k]? = some ls) (hl : ls[i]? = some l) (h : ∀ e, e ∈ es ↔ zly ports k i e) (e : Value × Value) : e ∈ es ++ [(yyx k l.1, .int .i64 l.2)] ↔ zly ports k (i + 1) e := by
 rw [List.mem_append, h e, List.mem_singleton]
 constructor
 ·rintro (⟨v, j, ls', l', h1, h2, h3, h4⟩ | rfl)
  ·exact ⟨v, j, ls', l', h1, h2, by omega, h4⟩
  ·exact ⟨k, i, ls, l, hls, hl, .inr ⟨rfl, by omega⟩, rfl⟩
 ·rintro ⟨v, j, ls', l', h1, h2, h3, h4⟩
  by_cases hvj : v = k ∧ j = i
  ·obtain ⟨rfl, rfl⟩ := hvj
   rw [hls] at h1; cases h1
   rw [hl] at h2; cases h2
   exact .inr h4
  ·exact .inl ⟨v, j, ls', l', h1, h2, by omega, h4⟩
theorem ent_row {ports : List (List Lk)} {k : Nat} {ls : List Lk} (hls : ports[k]? = some ls) (e : Value × Value) : zly ports k ls.length e ↔ zly ports (k + 1) 0 e := by
 constructor
 ·rintro ⟨v, j, ls', l', h1, h2, h3, h4⟩
  exact ⟨v, j, ls', l', h1, h2, by omega, h4⟩
 ·rintro ⟨v, j, ls', l', h1, h2, h3, h4⟩
  refine ⟨v, j, ls', l', h1, h2, ?_, h4⟩
  rcases Nat.lt_or_ge v k with h | h
  ·exact .inl h
  ·obtain rfl : v = k := by omega
   rw [hls] at h1; cases h1
   exact .inr ⟨rfl, (List.getElem?_eq_some_iff.1 h2).1⟩
theorem zks {n v : Nat} {ls : List Lk} (h : ygq n v ls = true) {i j : Nat} {a b : Lk} (hi : ls[i]? = some a) (hj : ls[j]? = some b) (he : a.1 = b.1) : i = j := by
 have hn := ((ycl _ _ _).1 h).2
 have g1 := List.getElem?_eq_some_iff.1 hi
 have g2 := List.getElem?_eq_some_iff.1 hj
 rcases Nat.lt_trichotomy i j with h1 | h1 | h1
 ·have := (List.pairwise_iff_getElem.1 hn) i j (by simpa using g1.1) (by simpa using g2.1) h1
  simp [g1.2, g2.2, he] at this
 ·exact h1
 ·have := (List.pairwise_iff_getElem.1 hn) j i (by simpa using g2.1) (by simpa using g1.1) h1
  simp [g1.2, g2.2, he] at this
def ztg (ports : List (List Lk)) : Bool := yxv ports && zuq ports
theorem yit {ports : List (List Lk)} {v : Nat} {ls : List Lk} (hv : ports[v]? = some ls) (h : ygq ports.length v ls = false) : ztg ports = false := by
 unfold ztg
 rw [← Bool.not_eq_true, Bool.and_eq_true, yhi]; intro h1; rw [h1.1 v ls hv] at h; cases h
theorem symG_sym {ports : List (List Lk)} {v : Nat} {ls : List Lk} {l : Lk} (hv : ports[v]? = some ls) (hl : l ∈ ls) (h : yfm (ports.getD l.1.toNat []) v ≠ l.2) : ztg ports = false := by
 unfold ztg
 rw [← Bool.not_eq_true, Bool.and_eq_true, yvx]; intro h1; exact h (h1.2 v ls hv l hl)
theorem symmetric_con (ports : List (List Lk)) (hn : ports.length ≤ 30) (hp : ∀ l ∈ ports, l.length ≤ 5000) : Con Tryz.prog 102 [ybd ports] (ycp (ztg ports)) := by
 refine yan Tryz.func102 rfl rfl Tryz.ntmps102 Tryz.results102 rfl rfl ?_
 (repeat (first | refine zy ?_ | refine L_makeMap rfl rfl rfl rfl rfl ?_))
 refine ycy (α := Nat × List (Value × Value)) (fun s => [(16, i64 s.1), (15, i64 ports.length), (14, ybd ports), (0, ybd ports), (3, .mp 13)]) (fun s => [(13, some (.map s.2))]) (fun s => ports.length - s.1)
  (fun s => s.1 ≤ ports.length ∧ (∀ (v : Nat) (ls : List Lk), v < s.1 → ports[v]? = some ls → ygq ports.length v ls = true) ∧ ∀ e, e ∈ s.2 ↔ zly ports s.1 0 e) (0, []) ⟨by omega, by omega, fun e => by simp; rintro ⟨v, j, _, _, _, _, h, _⟩; omega⟩ (by exact zs) (by exact zh) ?_
 rintro ⟨k, es⟩ ⟨hk, hok, hes⟩
 simp only at hk hok hes
 (try refine zy ?_)
 refine yag rfl (fun h => ?_) (fun h => ?_)
 ·simp at h
  obtain ⟨ls, hls⟩ := ycz h
  have hll := hp ls (List.mem_of_getElem? hls)
  (try refine zy ?_)
  refine ycy (α := Nat × List (Value × Value)) (fun s => [(23, i64 s.1), (22, i64 ls.length), (21, yhn ls), (4, i64 k), (16, i64 k), (15, i64 ports.length), (14, ybd ports), (0, ybd ports), (3, .mp 13)]) (fun s => [(13, some (.map s.2))]) (fun s => ls.length - s.1)
   (fun s => s.1 ≤ ls.length ∧ ygq ports.length k (ls.take s.1) = true ∧ ∀ e, e ∈ s.2 ↔ zly ports k s.1 e) (0, es) ⟨by omega, rfl, hes⟩ (by exact zs) (by exact zh) ?_
  rintro ⟨i, es'⟩ ⟨hi, hio, hes'⟩
  simp only at hi hio hes'
  (try refine zy ?_)
  refine yag rfl (fun h1 => ?_) (fun h1 => ?_)
  ·simp at h1
   obtain ⟨l, hl⟩ := ycz h1
   (try refine zy ?_)
   refine yau 30 rfl (fun h2 => ?_) (fun h2 => ?_)
   ·simp at h2
    (try refine zy ?_)
    refine yaf ?_; refine ⟨_, rfl, ?_⟩
    exact yai (yit hls (ygj hl (by rw [← Bool.not_eq_true, ybu]; omega))).symm
   simp at h2
   (try refine zy ?_)
   refine yau 37 rfl (fun h3 => ?_) (fun h3 => ?_)
   ·simp at h3
    (try refine zy ?_)
    refine yaf ?_; refine ⟨_, rfl, ?_⟩
    exact yai (yit hls (ygj hl (by rw [← Bool.not_eq_true, ybu]; omega))).symm
   simp at h3
   (try refine zy ?_)
   refine yag rfl (fun h4 => ?_) (fun h4 => ?_)
   ·simp at h4
    (try refine zy ?_)
    refine yaf ?_; refine ⟨_, rfl, ?_⟩
    exact yai (yit hls (ygj hl (by rw [← Bool.not_eq_true, ybu]; omega))).symm
   simp at h4
   (try refine zy ?_)
   refine yau 46 rfl (fun h5 => ?_) (fun h5 => ?_)
   ·simp at h5
    (try refine zy ?_)
    refine yaf ?_; refine ⟨_, rfl, ?_⟩
    exact yai (yit hls (ygj hl (by rw [← Bool.not_eq_true, ybu]; omega))).symm
   simp at h5
   (try refine zy ?_)
   refine yag rfl (fun h6 => ?_) (fun h6 => ?_)
   ·simp at h6
    (try refine zy ?_)
    refine yaf ?_; refine ⟨_, rfl, ?_⟩
    exact yai (yit hls (ygj hl (by rw [← Bool.not_eq_true, ybu]; omega))).symm
   simp at h6
   have hlk : zfp ports.length k l = true := by rw [ybu]; omega
   have hks : ∀ e ∈ es', ∃ q, keyOf Tryz.prog 136 e.1 = some q := by
    intro e he
    obtain ⟨v, j, ls', l', g1, g2, g3, rfl⟩ := (hes' e).1 he
    have hv := (List.getElem?_eq_some_iff.1 g1).1
    have hl' : 0 ≤ l'.1 ∧ l'.1 < ports.length := by
     rcases g3 with g3 | ⟨rfl, g3⟩
     ·have := (ybu _ _ _).1 (((ycl _ _ _).1 (hok v ls' g3 g1)).1 l' (List.mem_of_getElem? g2))
      omega
     ·rw [hls] at g1; cases g1
      have := (ybu _ _ _).1 (((ycl _ _ _).1 hio).1 l' (List.mem_of_getElem? (show (ls.take i)[j]? = some l' by rw [List.getElem?_take, if_pos g3]; exact g2)))
      omega
    exact yvm (by omega) (by omega)
   obtain ⟨kl, hkl⟩ := yvm (v := k) (u := l.1) (by omega) (by omega)
   (try refine zy ?_)
   by_cases hdup : ∃ (j : Nat) (y : Lk), j < i ∧ ls[j]? = some y ∧ y.1 = l.1
   ·obtain ⟨j, y, g1, g2, g3⟩ := hdup
    refine ywa (v := .int .i64 y.2) (okb := true) Tryz.underlying240 zkg rfl rfl rfl rfl hks hkl zti ?_ rfl rfl ?_
    ·refine .hit ⟨(yyx k y.1, .int .i64 y.2), (hes' _).2 ⟨k, j, ls, y, hls, g2, .inr ⟨rfl, g1⟩, rfl⟩, by rw [g3]; rfl⟩ ?_
     intro e he hek
     obtain ⟨v, j', ls', l', q1, q2, q3, rfl⟩ := (hes' e).1 he
     have := yrj (show yyx v l'.1 = yyx k l.1 from hek)
     obtain rfl : v = k := by omega
     rw [hls] at q1; cases q1
     have hj' : j' < i := by omega
     have := zks hio (show (ls.take i)[j']? = some l' by rw [List.getElem?_take, if_pos hj']; exact q2) (show (ls.take i)[j]? = some y by rw [List.getElem?_take, if_pos g1]; exact g2) (by omega)
     subst this
     rw [g2] at q2; cases q2; rfl
    (try refine zy ?_)
    refine yaf ?_; refine ⟨_, rfl, ?_⟩
    exact yai (yit hls (yuk g1 g2 hl g3)).symm
   ·have hmiss : ∀ e ∈ es', e.1 ≠ yyx k l.1 := by
     intro e he hek
     obtain ⟨v, j', ls', l', q1, q2, q3, rfl⟩ := (hes' e).1 he
     have := yrj (show yyx v l'.1 = yyx k l.1 from hek)
     obtain rfl : v = k := by omega
     rw [hls] at q1; cases q1
     exact hdup ⟨j', l', by omega, q2, by omega⟩
    refine ywa (v := .int .i64 0) (okb := false) Tryz.underlying240 zkg rfl rfl rfl rfl hks hkl zti (.miss hmiss) rfl rfl ?_
    (try refine zy ?_)
    refine L_mapUpdate Tryz.underlying240 zkg rfl rfl rfl rfl rfl rfl hks hkl hmiss rfl rfl ?_
    (try refine zy ?_)
    refine rnd (i + 1, es' ++ [(yyx k l.1, .int .i64 l.2)]) ⟨by simp only; omega, yxh hl hio hlk (fun j y hj hy he => hdup ⟨j, y, hj, hy, he⟩), ent_next hls hl hes'⟩ (by simp only; omega) (by exact zs) (by exact zh)
  ·simp at h1
   obtain rfl : i = ls.length := by omega
   rw [List.take_length] at hio
   (try refine zy ?_)
   refine rnd (k + 1, es') ⟨by simp only; omega, fun v ls' hv hls' => ?_, fun e => (hes' e).trans (ent_row hls e)⟩ (by simp only; omega) (by exact zs) (by exact zh)
   simp only at hv
   rcases Nat.lt_or_ge v k with h8 | h8
   ·exact hok v ls' h8 hls'
   ·obtain rfl : v = k := by omega
    rw [hls] at hls'; cases hls'; exact hio
 ·simp at h
  obtain rfl : k = ports.length := by omega
  have hports : yxv ports = true := by rw [yhi]; exact fun v ls hv => hok v ls (List.getElem?_eq_some_iff.1 hv).1 hv
  have hent : ∀ e, e ∈ es ↔ ∃ (v : Nat) (ls : List Lk) (l : Lk), ports[v]? = some ls ∧ l ∈ ls ∧ e = (yyx v l.1, .int .i64 l.2) := by
   intro e
   rw [hes e]
   constructor
   ·rintro ⟨v, j, ls, l, g1, g2, _, g4⟩; exact ⟨v, ls, l, g1, List.mem_of_getElem? g2, g4⟩
   ·rintro ⟨v, ls, l, g1, g2, g3⟩
    obtain ⟨j, hj⟩ := List.getElem?_of_mem g2
    exact ⟨v, j, ls, l, g1, hj, .inl (List.getElem?_eq_some_iff.1 g1).1, g3⟩
  have hlb : ∀ (v : Nat) (ls : List Lk) (l : Lk), ports[v]? = some ls → l ∈ ls → 0 ≤ l.1 ∧ l.1 < ports.length ∧ 1 ≤ l.2 ∧ l.2 ≤ 15 := by
   intro v ls l hv hl
   have := (ybu _ _ _).1 (((ycl _ _ _).1 ((yhi _).1 hports v ls hv)).1 l hl)
   omega
  have hks : ∀ e ∈ es, ∃ q, keyOf Tryz.prog 136 e.1 = some q := by
   intro e he
   obtain ⟨v, ls, l, g1, g2, rfl⟩ := (hent e).1 he
   have := hlb v ls l g1 g2
   have hv := (List.getElem?_eq_some_iff.1 g1).1
   exact yvm (by omega) (by omega)
  clear hok hes
  repeat (first | refine ybx ?_ | refine yco ?_)
  refine A_freezeMap 3 rfl rfl rfl rfl ?_
  (repeat (first | refine zy ?_ | refine L_range Tryz.underlying240 rfl rfl rfl rfl rfl rfl ?_))
  refine ycy (α := List (Value × Value) × Option (Value × Value)) (fun s => [(69, .lp 69 0), (3, .mv es)]) (fun s => [(69, some (.iter es s.1 s.2))]) (fun s => s.1.length)
   (fun s => (∀ p ∈ s.1, p ∈ es) ∧ ∀ (v : Nat) (ls : List Lk) (l : Lk), ports[v]? = some ls → l ∈ ls → (yyx v l.1, Value.int .i64 l.2) ∈ s.1 ∨ yfm (ports.getD l.1.toNat []) v = l.2) (es, none) ⟨fun p h => h, fun v ls l hv hl => .inl ((hent _).2 ⟨v, ls, l, hv, hl, rfl⟩)⟩ (by exact zs) (by exact zh) ?_
  rintro ⟨left, cur⟩ ⟨hl1, hl2⟩
  simp only at hl1 hl2
  (try refine zy ?_)
  refine L_next rfl rfl rfl rfl rfl (fun hnil => ?_) (fun p left' hperm => ?_)
  ·(try refine zy ?_)
   refine yaf ?_; refine ⟨_, rfl, ?_⟩
   subst hnil
   refine yai ?_
   unfold ztg
   rw [eq_comm, Bool.and_eq_true, yvx]
   exact ⟨hports, fun v ls hv l hl => (hl2 v ls l hv hl).resolve_left (by simp)⟩
  ·have hp1 := hl1 p (hperm.symm.subset (by simp))
   obtain ⟨v, ls, l, g1, g2, rfl⟩ := (hent p).1 hp1
   have hlv := hlb v ls l g1 g2
   have hv := (List.getElem?_eq_some_iff.1 g1).1
   obtain ⟨os, hos⟩ := ycz (show l.1.toNat < ports.length by omega)
   have hgd : ports.getD l.1.toNat [] = os := by rw [List.getD_eq_getElem?_getD, hos]; rfl
   have hcast : ((l.1.toNat : Nat) : Int) = l.1 := by omega
   obtain ⟨kl, hkl⟩ := yvm (v := l.1) (u := v) (by omega) (by omega)
   have hfound : ∃ b, Found (.int .i64 0) es (yyx l.1 v) (.int .i64 (yfm os v)) b := by
    rcases ynr os v with ⟨_, hpn⟩ | ⟨q, y, _, hy, hyk, hfd⟩
    ·refine ⟨false, ?_⟩
     rw [yyt hpn]
     refine .miss fun e he hek => ?_
     obtain ⟨v', ls', l', q1, q2, rfl⟩ := (hent e).1 he
     have := yrj (show yyx v' l'.1 = yyx l.1 v from hek)
     obtain rfl : v' = l.1.toNat := by omega
     rw [hos] at q1; cases q1
     exact hpn l' q2 this.2
    ·refine ⟨true, ?_⟩
     rw [yyu hfd]
     refine .hit ⟨(yyx l.1 y.1, .int .i64 y.2), (hent _).2 ⟨l.1.toNat, os, y, hos, List.mem_of_getElem? hy, by rw [hcast]⟩, by rw [hyk]⟩ fun e he hek => ?_
     obtain ⟨v', ls', l', q1, q2, rfl⟩ := (hent e).1 he
     have := yrj (show yyx v' l'.1 = yyx l.1 v from hek)
     obtain rfl : v' = l.1.toNat := by omega
     rw [hos] at q1; cases q1
     obtain ⟨j, hj⟩ := List.getElem?_of_mem q2
     have := zks ((yhi _).1 hports _ _ hos) hj hy (by omega)
     subst this
     rw [hy] at hj; cases hj; rfl
   obtain ⟨fb, hfound⟩ := hfound
   (repeat (first | refine zy ?_ | refine L_entry rfl rfl rfl rfl ?_))
   refine L_lookup_mv Tryz.underlying240 zkg rfl rfl rfl hks hkl zti hfound rfl rfl ?_
   (try refine zy ?_)
   refine yag rfl (fun h1 => ?_) (fun h1 => ?_)
   ·simp at h1
    (try refine zy ?_)
    refine yaf ?_; refine ⟨_, rfl, ?_⟩
    exact yai (symG_sym g1 g2 (by rw [hgd]; exact h1)).symm
   ·simp at h1
    (try refine zy ?_)
    refine rnd (left', some (yyx v l.1, .int .i64 l.2)) ⟨fun q hq => hl1 q (hperm.symm.subset (by simp [hq])), fun v' ls' l' hv' hl' => ?_⟩ (by have := hperm.length_eq; simp only [List.length_cons] at this; simp only; omega) (by exact zs) (by exact zh)
    rcases hl2 v' ls' l' hv' hl' with hq | hq
    ·rcases List.mem_cons.1 (hperm.subset hq) with he | he
     ·right
      simp only [Prod.mk.injEq, Value.int.injEq, true_and] at he
      have := yrj he.1
      obtain rfl : v' = v := by omega
      rw [this.2, hgd, h1, he.2]
     ·exact .inl he
    ·exact .inr hq
theorem gvalid_con' (g : GraphD) (hl : zvs g) : Con Tryz.prog 49 [yin g] (ycp (ydd g)) := by
 obtain ⟨hl1, hl2, hl3⟩ := hl
 refine yan Tryz.func49 rfl rfl Tryz.ntmps49 Tryz.results49 rfl rfl ?_
 (try refine zy ?_)
 refine yau 9 rfl (fun h1 => ?_) (fun h1 => ?_)
 ·simp at h1
  (try refine zy ?_)
  refine yaf ?_; refine ⟨_, rfl, ?_⟩
  exact yai (yoa (by omega)).symm
 simp at h1
 (try refine zy ?_)
 refine yau 13 rfl (fun h2 => ?_) (fun h2 => ?_)
 ·simp at h2
  (try refine zy ?_)
  refine yaf ?_; refine ⟨_, rfl, ?_⟩
  exact yai (yoa (by omega)).symm
 simp at h2
 (try refine zy ?_)
 refine yag rfl (fun h3 => ?_) (fun h3 => ?_)
 ·simp at h3
  (try refine zy ?_)
  refine yaf ?_; refine ⟨_, rfl, ?_⟩
  exact yai (yoa (by omega)).symm
 simp at h3
 (repeat (first | refine zy ?_ | refine yac rfl rfl (differentIDs_con g.ids (by omega)) rfl rfl ?_))
 refine yau 23 rfl (fun h4 => ?_) (fun h4 => ?_)
 ·(repeat (first | refine zy ?_ | refine yac rfl rfl (symmetric_con g.ports (by omega) hl3) rfl rfl ?_))
  refine yaf ?_; refine ⟨_, rfl, ?_⟩
  refine yai ?_
  rw [Bool.eq_iff_iff, yiu]
  unfold ztg
  rw [Bool.and_eq_true]
  constructor
  ·intro h5; exact ⟨by omega, by omega, by omega, h4, h5⟩
  ·intro h5; exact h5.2.2.2.2
 ·(try refine zy ?_)
  refine yaf ?_; refine ⟨_, rfl, ?_⟩
  exact yai (yyq h4).symm
theorem rvalid_con (g : GraphD) (hl : yle g = true) : Con Tryz.prog 40 [yin g] (ycp (ydd g)) := rvalid_con' g (zot hl)
theorem zac (g : GraphD) (hl : yle g = true) : Con Tryz.prog 49 [yin g] (ycp (ydd g)) := gvalid_con' g (zot hl)
end
end Go.Proofs.YtgpbgfpjlhoicaaGreatDoor
