/- Part 7 of the texts under ProgramFormats,ProgramReadsBack,ProgramTellsProgramsApart,ProgramGrowsByLines,ProgramIgnoresBlanks: joined, with what it needs alone. -/
import Derived.Below
import Derived.Lib.Strings
import Derived.WalkSmall
import Derived.Deep.Slices
import Derived.ChangeArms
import Derived.OpenShut
import Derived.WideShapes
import Derived.Test.YtefiainojfeagaaGreatDoorPa3
import Derived.Test.YtefiainojfeagaaGreatDoorPa5
import Derived.Test.YtefiainojfeagaaGreatDoorPa6
namespace Go.Proofs.YtefiainojfeagaaGreatDoor
section
open Go.RowKit
def ycr : Bool → List UInt8 → Nat
 | _, [] => 0
 | true, c :: r => if c = 10 then 1 + ycr false r else 1 + ycr true r
 | false, c :: r => if c = 32 ∨ c = 9 ∨ c = 10 ∨ c = 13 then 1 + ycr false r else if c = 35 then 1 + ycr true r else 0
def yad (s : ByteArray) (k : Nat) : List UInt8 := s.data.toList.drop k
def yay (s : ByteArray) (b : Bool) (a : Nat) : Nat := a + ycr b (yad s a)
theorem ybm (s : ByteArray) (k : Nat) (h : k < s.size) : yad s k = s[k] :: yad s (k + 1) := by
 unfold yad
 rw [List.drop_eq_getElem_cons (by simpa using h)]; rfl
theorem ymg (s : ByteArray) (k : Nat) (h : s.size ≤ k) : yad s k = [] := by
 unfold yad
 exact List.drop_eq_nil_of_le (by simpa using h)
theorem ycq (s : ByteArray) (k n : Nat) : (yad s k).drop n = yad s (k + n) := by
 unfold yad; rw [List.drop_drop]
theorem ycb (s : ByteArray) (k : Nat) : (yad s k).length = s.size - k := by
 unfold yad; simp
theorem yyc (s : ByteArray) (k : Nat) (h : k < s.size) (hc : s[k] = 32 ∨ s[k] = 9 ∨ s[k] = 10 ∨ s[k] = 13) : yay s false k = yay s false (k + 1) := by
 unfold yay; rw [ybm s k h, ycr, if_pos hc]; omega
theorem zcj (s : ByteArray) (k : Nat) (h : k < s.size) (hc : s[k] = 35) : yay s false k = yay s true k := by
 unfold yay; rw [ybm s k h, ycr, ycr, if_neg (by rw [hc]; decide), if_pos hc, if_neg (by rw [hc]; decide)]
theorem zck (s : ByteArray) (k : Nat) (h : k < s.size) (hc : ¬ (s[k] = 32 ∨ s[k] = 9 ∨ s[k] = 10 ∨ s[k] = 13)) (h35 : ¬ s[k] = 35) : yay s false k = k := by
 unfold yay; rw [ybm s k h, ycr, if_neg hc, if_neg h35]; rfl
theorem zju (s : ByteArray) (k : Nat) (h : k < s.size) (hc : ¬ s[k] = 10) : yay s true k = yay s true (k + 1) := by
 unfold yay; rw [ybm s k h, ycr, if_neg hc]; omega
theorem zjv (s : ByteArray) (k : Nat) (h : k < s.size) (hc : s[k] = 10) : yay s true k = yay s false k := by
 unfold yay; rw [ybm s k h, ycr, ycr, if_pos hc, if_pos (by simp [hc])]
theorem ykz (s : ByteArray) (k : Nat) (b : Bool) (h : s.size ≤ k) : yay s b k = k := by
 unfold yay; rw [ymg s k h]; cases b <;> rfl
theorem skipL_le (b : Bool) (r : List UInt8) : ycr b r ≤ r.length := by
 induction r generalizing b with
 | nil => cases b <;> simp [ycr]
 | cons c r ih =>
  have h1 := ih true
  have h2 := ih false
  cases b <;> simp only [ycr, List.length_cons] <;> repeat' split
  all_goals omega
theorem yis (s : ByteArray) (b : Bool) (k : Nat) (h : k ≤ s.size) : k ≤ yay s b k ∧ yay s b k ≤ s.size := by
 have := skipL_le b (yad s k)
 rw [ycb] at this
 unfold yay; omega
def ycp (c : UInt8) : Bool := (97 ≤ c && c ≤ 122) || (65 ≤ c && c ≤ 90)
def yba (c : UInt8) : Bool := 48 ≤ c && c ≤ 57
def ydu (c : UInt8) : Bool := ycp c || yba c || c == 95
def ynx (p : UInt8 → Bool) : List UInt8 → Nat
 | [] => 0
 | c :: r => if p c then 1 + ynx p r else 0
def yej (p : UInt8 → Bool) (s : ByteArray) (a : Nat) : Nat := a + ynx p (yad s a)
theorem zgp (p : UInt8 → Bool) (r : List UInt8) : ynx p r ≤ r.length := by
 induction r with
 | nil => simp [ynx]
 | cons c r ih => simp only [ynx, List.length_cons]; split <;> omega
theorem zgq (p : UInt8 → Bool) (s : ByteArray) (k : Nat) (h : k ≤ s.size) : k ≤ yej p s k ∧ yej p s k ≤ s.size := by
 have := zgp p (yad s k)
 rw [ycb] at this
 unfold yej; omega
theorem ylr (p : UInt8 → Bool) (s : ByteArray) (k : Nat) (h : k < s.size) (hp : p s[k] = true) : yej p s k = yej p s (k + 1) := by
 unfold yej; rw [ybm s k h, ynx, if_pos hp]; omega
theorem yzi (p : UInt8 → Bool) (s : ByteArray) (k : Nat) (h : k < s.size) (hp : p s[k] = false) : yej p s k = k := by
 unfold yej; rw [ybm s k h, ynx, if_neg (by simp [hp])]; rfl
theorem yuw (p : UInt8 → Bool) (s : ByteArray) (k : Nat) (h : s.size ≤ k) : yej p s k = k := by
 unfold yej; rw [ymg s k h]; rfl
theorem runTo_pos (p : UInt8 → Bool) (s : ByteArray) (k : Nat) (h : k < s.size) (hp : p s[k] = true) : k < yej p s k := by
 rw [ylr p s k h hp]; have := zgq p s (k + 1) (by omega); omega
def dig (v : Nat) (c : UInt8) : Nat := 10 * v + (c.toNat - 48)
def yuj (v : Nat) (ds : List UInt8) : Nat := ds.foldl dig v
theorem yqy (v : Nat) : yuj v [] = v := by unfold yuj; rw [List.foldl_nil]
theorem ypy (v : Nat) (c : UInt8) (r : List UInt8) : yuj v (c :: r) = yuj (dig v c) r := by unfold yuj; rw [List.foldl_cons]
theorem ziq (v : Nat) (c : UInt8) (r : List UInt8) : yuj v (r ++ [c]) = dig (yuj v r) c := by unfold yuj; rw [List.foldl_append, List.foldl_cons, List.foldl_nil]
theorem zsr (v : Nat) (c : UInt8) : 10 * v ≤ dig v c := by unfold dig; exact Nat.le_add_right _ _
theorem dig_le (v : Nat) (c : UInt8) (h : yba c = true) : dig v c ≤ 10 * v + 9 := by
 simp only [yba, Bool.and_eq_true, decide_eq_true_eq, UInt8.le_iff_toNat_le] at h
 have h3 : c.toNat ≤ 57 := h.2
 unfold dig
 generalize c.toNat = d at *
 omega
theorem numL_mono (r : List UInt8) : ∀ v : Nat, v ≤ yuj v r := by
 induction r with
 | nil => intro v; rw [yqy]; exact Nat.le_refl _
 | cons c r ih =>
  intro v
  rw [ypy]
  have := zsr v c
  exact Nat.le_trans (by omega) (ih (dig v c))
theorem numL_pow (r : List UInt8) : ∀ v : Nat, v * 10 ^ r.length ≤ yuj v r := by
 induction r with
 | nil => intro v; rw [yqy]; simp
 | cons c r ih =>
  intro v
  rw [ypy, List.length_cons, Nat.pow_succ, Nat.mul_comm (10 ^ r.length) 10, ← Nat.mul_assoc, Nat.mul_comm v 10]
  exact Nat.le_trans (Nat.mul_le_mul_right _ (zsr v c)) (ih (dig v c))
theorem numL_lt (r : List UInt8) : ∀ v : Nat, (∀ c ∈ r, yba c = true) → yuj v r < (v + 1) * 10 ^ r.length := by
 induction r with
 | nil => intro v _; rw [yqy]; simp
 | cons c r ih =>
  intro v hd
  have h1 := ih (dig v c) (fun c hc => hd c (List.mem_cons_of_mem _ hc))
  have h2 := dig_le v c (hd c (List.mem_cons_self ..))
  rw [ypy]
  refine Nat.lt_of_lt_of_le h1 ?_
  rw [List.length_cons, Nat.pow_succ, Nat.mul_comm (10 ^ r.length) 10, ← Nat.mul_assoc]
  exact Nat.mul_le_mul_right _ (by omega)
def yja (ds : List UInt8) : Option Nat := if (1 < ds.length ∧ ds.head? = some 48) ∨ 1073741824 < yuj 0 ds then none else some (yuj 0 ds)
theorem numL_take (ds : List UInt8) (k v : Nat) : yuj v (ds.take k) ≤ yuj v ds := by
 have h : yuj v ds = yuj (yuj v (ds.take k)) (ds.drop k) := by unfold yuj; rw [← List.foldl_append, List.take_append_drop]
 rw [h]; exact numL_mono _ _
theorem numRes_big (ds : List UInt8) (k : Nat) (h : 1073741824 < yuj 0 (ds.take k)) : yja ds = none := by
 have := numL_take ds k 0
 unfold yja; rw [if_pos (.inr (by omega))]
theorem ysy (ds : List UInt8) (h : 1 < ds.length) (h0 : ds.head? = some 48) : yja ds = none := by
 unfold yja; rw [if_pos (.inl ⟨h, h0⟩)]
theorem zbl (ds : List UInt8) (h : ¬ (1 < ds.length ∧ ds.head? = some 48)) (h0 : yuj 0 ds ≤ 1073741824) : yja ds = some (yuj 0 ds) := by
 unfold yja; rw [if_neg (fun hq => hq.elim h (fun h1 => by omega))]
theorem zis (ds : List UInt8) (h0 : 1073741824 < yuj 0 ds) : yja ds = none := by
 unfold yja; rw [if_pos (.inr h0)]
theorem numRes_long (ds : List UInt8) (hd : ∀ c ∈ ds, yba c = true) (h : 10 < ds.length) : yja ds = none := by
 cases ds with
 | nil => simp at h
 | cons c r =>
  by_cases h48 : c = 48
  ·exact ysy _ (by omega) (by simp [h48])
  ·refine zis _ ?_
   rw [ypy]
   have h1 := hd c (List.mem_cons_self ..)
   simp only [yba, Bool.and_eq_true, decide_eq_true_eq, UInt8.le_iff_toNat_le] at h1
   have h2 : 1 ≤ dig 0 c := by
    have h3 : 48 ≤ c.toNat := h1.1
    have h4 : c.toNat ≠ 48 := fun h5 => h48 (by rw [← UInt8.toNat_inj]; exact h5)
    unfold dig
    generalize c.toNat = d at *
    omega
   have h5 := numL_pow r (dig 0 c)
   have h6 : 10 ^ 10 ≤ 10 ^ r.length := Nat.pow_le_pow_right (by omega) (by simp at h; omega)
   have h7 : 1 * 10 ^ r.length ≤ dig 0 c * 10 ^ r.length := Nat.mul_le_mul_right _ h2
   rw [Nat.one_mul] at h7
   have h8 : (10 : Nat) ^ 10 = 10000000000 := by decide
   rw [h8] at h6
   exact Nat.lt_of_lt_of_le (Nat.lt_of_lt_of_le (by decide) h6) (Nat.le_trans h7 h5)
theorem zjx (s : ByteArray) (k : Nat) (h : k < s.size) : (yad s 0).take (k + 1) = (yad s 0).take k ++ [s[k]] := by
 unfold yad
 rw [List.drop_zero, List.take_succ_eq_append_getElem (by simpa using h)]; rfl
theorem yzn (s : ByteArray) (k : Nat) (h : s.size ≤ k) : (yad s 0).take k = yad s 0 := by
 rw [List.take_of_length_le]; rw [ycb]; omega
theorem zbg (s : ByteArray) (k : Nat) (h : k < s.size) : s[k] ∈ yad s 0 := by
 unfold yad
 rw [List.drop_zero, Array.mem_toList_iff]
 exact Array.getElem_mem (xs := s.data) h
theorem zdu (s : ByteArray) (h : 0 < s.size) : (yad s 0).head? = some s[0] := by rw [ybm s 0 h]; rfl
theorem zfl (c : UInt8) (h : yba c = true) : 48 ≤ c.toNat ∧ c.toNat ≤ 57 := by
 simpa [yba, UInt8.le_iff_toNat_le] using h
theorem num_take_bd (ds : List UInt8) (k : Nat) (hd : ∀ c ∈ ds, yba c = true) (h : ds.length ≤ 10) : yuj 0 (ds.take k) ≤ 9999999999 := by
 have h1 := numL_lt (ds.take k) 0 (fun c hc => hd c (List.mem_of_mem_take hc))
 have h2 : 10 ^ (ds.take k).length ≤ 10 ^ 10 := Nat.pow_le_pow_right (by omega) (by rw [List.length_take]; omega)
 have h3 : (10 : Nat) ^ 10 = 10000000000 := by decide
 rw [h3] at h2
 rw [Nat.zero_add, Nat.one_mul] at h1
 omega
theorem zgh (s : ByteArray) (k : Nat) (h : k < s.size) : yuj 0 ((yad s 0).take (k + 1)) = dig (yuj 0 ((yad s 0).take k)) s[k] := by
 rw [zjx s k h, ziq]
theorem zkr (n : Nat) (c : UInt8) (h : 48 ≤ c.toNat) : ((dig n c : Nat) : Int) = 10 * (n : Int) + ((c.toNat : Int) - 48) := by unfold dig; omega
def yhh (a b : UInt8) : Bool :=
 (a == 46 && b == 46) || (a == 45 && b == 62) || (a == 58 && b == 61) || (a == 38 && b == 38) || (a == 124 && b == 124) || (a == 61 && b == 61) || (a == 33 && b == 61) || (a == 60 && b == 61) || (a == 62 && b == 61)
def yoa (a : UInt8) : Bool := [59, 58, 44, 40, 41, 46, 63, 60, 62, 43, 45, 42, 47, 37, 33].contains a
def yes : List UInt8 → Nat
 | a :: b :: _ => if yhh a b then 2 else if yoa a then 1 else 0
 | [a] => if yoa a then 1 else 0
 | [] => 0
theorem zgu (r : List UInt8) : yes r ≤ r.length := by
 match r with
 | [] => simp [yes]
 | [a] => simp only [yes, List.length_cons, List.length_nil]; split <;> omega
 | a :: b :: r =>
  simp only [yes, List.length_cons]; repeat' split
  all_goals omega
structure Tok where
 kind : Nat
 from_ : Nat
 to : Nat
 num : Nat
def yms (r : List UInt8) : Except Nat (Nat × Nat × Nat) :=
 match r with
 | [] => .error 4
 | c :: _ =>
  if ycp c then (if 24 < ynx ydu r then .error 5 else .ok (1, ynx ydu r, 0))
  else if yba c then (match yja (r.take (ynx yba r)) with | none => .error 2 | some v => .ok (2, ynx yba r, v))
  else if yes r = 0 then .error 4 else .ok (3, yes r, 0)
theorem znn (p : UInt8 → Bool) (c : UInt8) (r : List UInt8) (h : p c = true) : 1 ≤ ynx p (c :: r) := by
 simp [ynx, h]
theorem zcq {r : List UInt8} {k n v : Nat} (h : yms r = .ok (k, n, v)) : 1 ≤ n ∧ n ≤ r.length ∧ v ≤ 1073741824 ∧ 1 ≤ k ∧ k ≤ 3 := by
 match r with
 | [] => simp [yms] at h
 | c :: r =>
  simp only [yms] at h
  have h1 := zgp ydu (c :: r)
  have h2 := zgp yba (c :: r)
  have h3 := zgu (c :: r)
  by_cases hl : ycp c = true
  ·rw [if_pos hl] at h
   have h4 := znn ydu c r (by simp [ydu, hl])
   split at h <;> simp at h
   omega
  ·rw [if_neg hl] at h
   by_cases hd : yba c = true
   ·rw [if_pos hd] at h
    have h4 := znn yba c r hd
    generalize hq : yja ((c :: r).take (ynx yba (c :: r))) = q at h
    cases q with
    | none => simp at h
    | some u =>
     simp only [yja] at hq
     split at hq <;> simp at hq h
     omega
   ·rw [if_neg hd] at h
    split at h <;> simp at h
    omega
def ypm (t : Tok) : Except (Nat × Nat) (List Tok) → Except (Nat × Nat) (List Tok)
 | .error e => .error e
 | .ok ts => .ok (t :: ts)
def yjm : Nat → Nat → List UInt8 → Except (Nat × Nat) (List Tok)
 | 0, p, r => if r.drop (ycr false r) = [] then .ok [] else .error (p + ycr false r, 3)
 | left + 1, p, r =>
  if r.drop (ycr false r) = [] then .ok [] else
  match yms (r.drop (ycr false r)) with
  | .error e => .error (p + ycr false r, e)
  | .ok (k, n, v) => ypm ⟨k, p + ycr false r, p + ycr false r + n, v⟩ (yjm left (p + ycr false r + n) ((r.drop (ycr false r)).drop n))
def yfr (s : ByteArray) : Except (Nat × Nat) (List Tok) := if 16384 < s.size then .error (0, 3) else yjm 4096 0 (yad s 0)
def ywb (out : List Tok) : Except (Nat × Nat) (List Tok) → Except (Nat × Nat) (List Tok)
 | .error e => .error e
 | .ok ts => .ok (out ++ ts)
theorem joinTok_cons (out : List Tok) (t : Tok) (x : Except (Nat × Nat) (List Tok)) : ywb out (ypm t x) = ywb (out ++ [t]) x := by
 cases x <;> simp [ywb, ypm]
theorem joinTok_nil (x : Except (Nat × Nat) (List Tok)) : ywb [] x = x := by cases x <;> rfl
def yfq (s : ByteArray) (out : List Tok) (p : Nat) : Except (Nat × Nat) (List Tok) := ywb out (yjm (4096 - out.length) p (yad s p))
theorem yrw (s : ByteArray) (h : s.size ≤ 16384) : yfr s = yfq s [] 0 := by
 unfold yfr yfq; rw [if_neg (by omega), joinTok_nil]; rfl
theorem yjy (s : ByteArray) (p : Nat) : (yad s p).drop (ycr false (yad s p)) = yad s (yay s false p) := by
 rw [ycq]; rfl
theorem ydp (s : ByteArray) (k : Nat) : yad s k = [] ↔ s.size ≤ k := by
 rw [← List.length_eq_zero_iff, ycb]; omega
theorem yxy (s : ByteArray) (out : List Tok) (p : Nat) (h : s.size ≤ yay s false p) : yfq s out p = .ok out := by
 unfold yfq
 cases hl : 4096 - out.length <;>
 ·rw [yjm, yjy, if_pos ((ydp _ _).2 h)]; simp [ywb]
theorem yuu (s : ByteArray) (out : List Tok) (p : Nat) (h : yay s false p < s.size) (hn : out.length = 4096) : yfq s out p = .error (yay s false p, 3) := by
 unfold yfq
 rw [hn, show 4096 - 4096 = 0 from rfl, yjm, yjy, if_neg (by rw [ydp]; omega)]; rfl
theorem yxz (s : ByteArray) (out : List Tok) (p e : Nat) (h : yay s false p < s.size) (hn : out.length < 4096) (ht : yms (yad s (yay s false p)) = .error e) :
  yfq s out p = .error (yay s false p, e) := by
 unfold yfq
 obtain ⟨m, hm⟩ : ∃ m, 4096 - out.length = m + 1 := ⟨4096 - out.length - 1, by omega⟩
 rw [hm, yjm, yjy, if_neg (by rw [ydp]; omega), ht]; rfl
theorem yya (s : ByteArray) (out : List Tok) (p k n v : Nat) (h : yay s false p < s.size) (hn : out.length < 4096) (ht : yms (yad s (yay s false p)) = .ok (k, n, v)) :
  yfq s out p = yfq s (out ++ [⟨k, yay s false p, yay s false p + n, v⟩]) (yay s false p + n) := by
 unfold yfq
 obtain ⟨m, hm⟩ : ∃ m, 4096 - out.length = m + 1 := ⟨4096 - out.length - 1, by omega⟩
 rw [hm, yjm, yjy, if_neg (by rw [ydp]; omega), ht]
 simp only [joinTok_cons, ycq]
 rw [show 4096 - (out ++ [(⟨k, yay s false p, yay s false p + n, v⟩ : Tok)]).length = m by simp; omega]
 rfl
end
section
open Go.RowKit
theorem skip_drop (r : List UInt8) : ∀ b : Bool, r.drop (ycr b r) ≠ [] → ycr false (r.drop (ycr b r)) = 0 := by
 induction r with
 | nil => intro b h; simp at h
 | cons c r ih =>
  intro b h
  cases b
  ·simp only [ycr] at *
   split at h
   ·rename_i hc; rw [if_pos hc, Nat.add_comm, List.drop_succ_cons] at *; exact ih false h
   ·rename_i hc
    rw [if_neg hc]
    split at h
    ·rename_i h35; rw [if_pos h35, Nat.add_comm, List.drop_succ_cons] at *; exact ih true h
    ·rename_i h35; rw [if_neg h35, List.drop_zero]; simp [ycr, hc, h35]
  ·simp only [ycr] at *
   split at h
   ·rename_i hc; rw [if_pos hc, Nat.add_comm, List.drop_succ_cons] at *; exact ih false h
   ·rename_i hc; rw [if_neg hc, Nat.add_comm, List.drop_succ_cons] at *; exact ih true h
def yix (c : UInt8) : Bool := c == 32 || c == 9 || c == 10 || c == 13 || c == 35
theorem yxj {c : UInt8} (h : yix c = true) : c = 32 ∨ c = 9 ∨ c = 10 ∨ c = 13 ∨ c = 35 := by simpa [yix, or_assoc] using h
theorem yqr {c : UInt8} (h : yix c = true) : ydu c = false ∧ yba c = false ∧ ycp c = false := by
 rcases yxj h with rfl | rfl | rfl | rfl | rfl <;> decide
theorem yvq {c : UInt8} (h : yix c = true) (a : UInt8) : yhh a c = false := by
 rcases yxj h with rfl | rfl | rfl | rfl | rfl <;> simp [yhh]
theorem skip_zero {c : UInt8} {x : List UInt8} (h : ycr false (c :: x) = 0) : ∀ y, ycr false (c :: y) = 0 := by
 intro y
 simp only [ycr] at *
 repeat' split at h
 ·omega
 ·omega
 ·rename_i h1 h2; rw [if_neg h1, if_neg h2]
theorem zrd (p : UInt8 → Bool) (r x : List UInt8) (c : UInt8) (h : p c = false) : ynx p (r ++ c :: x) = ynx p r := by
 induction r with
 | nil => simp [ynx, h]
 | cons a r ih => simp only [List.cons_append, ynx]; split <;> omega
theorem znp (p : UInt8 → Bool) (r : List UInt8) : ∀ m, ynx p (r.take m) = min m (ynx p r) := by
 induction r with
 | nil => intro m; simp [ynx]
 | cons a r ih =>
  intro m
  cases m with
  | zero => simp [ynx]
  | succ m =>
   have := ih m
   rw [List.take_succ_cons]; simp only [ynx]; split <;> omega
theorem sign_app (r x : List UInt8) (c : UInt8) (h : yix c = true) (hr : r ≠ []) : yes (r ++ c :: x) = yes r := by
 match r with
 | [] => exact absurd rfl hr
 | [a] => simp [yes, yvq h a]
 | a :: b :: r => rfl
theorem sign_take (r : List UInt8) (m : Nat) (h0 : 1 ≤ yes r) (h : yes r ≤ m) : yes (r.take m) = yes r := by
 match r with
 | [] => simp [yes] at h0
 | [a] => rw [List.take_of_length_le]; simp only [List.length_cons, List.length_nil]; omega
 | a :: b :: r =>
  match m with
  | 0 => omega
  | 1 =>
   simp only [yes, List.take_succ_cons, List.take_zero] at *
   by_cases h2 : yhh a b = true
   ·rw [if_pos h2] at h; omega
   ·rw [if_neg h2] at *
  | m + 2 => simp only [List.take_succ_cons, yes]
theorem tok_app (r x : List UInt8) (c : UInt8) (h : yix c = true) (hr : r ≠ []) : yms (r ++ c :: x) = yms r := by
 match r with
 | [] => exact absurd rfl hr
 | a :: r =>
  have h1 := zrd ydu (a :: r) x c (yqr h).1
  have h2 := zrd yba (a :: r) x c (yqr h).2.1
  have h3 := sign_app (a :: r) x c h (by simp)
  rw [List.cons_append] at *
  have h4 : (a :: (r ++ c :: x)).take (ynx yba (a :: r)) = (a :: r).take (ynx yba (a :: r)) := by
   rw [← List.cons_append, List.take_append_of_le_length (zgp _ _)]
  simp only [yms, h1, h2, h3, h4]
theorem tok_take (r : List UInt8) (k n v m : Nat) (h : yms r = .ok (k, n, v)) (hm : n ≤ m) : yms (r.take m) = .ok (k, n, v) := by
 match r with
 | [] => simp [yms] at h
 | a :: r =>
  have hb := zcq h
  obtain ⟨m, rfl⟩ : ∃ q, m = q + 1 := ⟨m - 1, by omega⟩
  have h1 := znp ydu (a :: r) (m + 1)
  have h2 := znp yba (a :: r) (m + 1)
  rw [List.take_succ_cons] at *
  simp only [yms] at *
  by_cases hl : ycp a = true
  ·rw [if_pos hl] at *
   by_cases h24 : 24 < ynx ydu (a :: r)
   ·rw [if_pos h24] at h; cases h
   ·rw [if_neg h24] at h
    simp at h
    rw [if_neg (by omega), h1]; simp; omega
  ·rw [if_neg hl] at *
   by_cases hd : yba a = true
   ·rw [if_pos hd] at *
    have hn : ynx yba (a :: r) = n := by
     generalize yja ((a :: r).take (ynx yba (a :: r))) = q at h
     cases q <;> simp at h; exact h.2.1
    have e : ynx yba (a :: r.take m) = ynx yba (a :: r) := by omega
    have e2 : (a :: r.take m).take (ynx yba (a :: r)) = (a :: r).take (ynx yba (a :: r)) := by
     rw [← List.take_succ_cons, List.take_take, Nat.min_eq_left (by omega)]
    rw [e, e2]; exact h
   ·rw [if_neg hd] at *
    by_cases h0 : yes (a :: r) = 0
    ·rw [if_pos h0] at h; cases h
    ·rw [if_neg h0] at h
     simp at h
     have h3 := sign_take (a :: r) (m + 1) (by omega) (by omega)
     rw [List.take_succ_cons] at h3
     rw [h3, if_neg h0]; simp; omega
def zlk (s : ByteArray) : Nat → List Tok → Prop
 | p, [] => p ≤ s.size ∧ yay s false p = s.size
 | p, t :: ts => p ≤ s.size ∧ t.from_ = yay s false p ∧ t.from_ < s.size ∧ yms (yad s t.from_) = .ok (t.kind, t.to - t.from_, t.num) ∧ t.from_ < t.to ∧ t.to ≤ s.size ∧ zlk s t.to ts
theorem good_of_scan (s : ByteArray) (left : Nat) : ∀ (p : Nat) (ts : List Tok), p ≤ s.size → yjm left p (yad s p) = .ok ts → zlk s p ts := by
 have base : ∀ (p : Nat), p ≤ s.size → yad s (yay s false p) = [] → zlk s p [] := fun p hp h => by
  have h1 := (ydp _ _).1 h
  have h2 := (yis s false p hp).2
  exact ⟨hp, by omega⟩
 induction left with
 | zero =>
  intro p ts hp h
  rw [yjm, yjy] at h
  split at h
  ·rename_i he; simp at h; subst h; exact base p hp he
  ·cases h
 | succ left ih =>
  intro p ts hp h
  rw [yjm, yjy] at h
  split at h
  ·rename_i he; simp at h; subst h; exact base p hp he
  ·rename_i he
   rw [ydp] at he
   generalize hq : yms (yad s (yay s false p)) = q at h
   match q, hq with
   | .error e, _ => cases h
   | .ok (k, n, v), hq =>
    have hb := zcq hq
    rw [ycb] at hb
    simp only [ycq] at h
    rw [show p + ycr false (yad s p) = yay s false p from rfl] at h
    generalize hw : yjm left (yay s false p + n) (yad s (yay s false p + n)) = w at h
    cases w with
    | error e => cases h
    | ok us =>
     simp only [ypm] at h
     cases h
     refine ⟨hp, rfl, by show yay s false p < s.size; omega, ?_, by show yay s false p < yay s false p + n; omega, by show yay s false p + n ≤ s.size; omega, ih _ _ (by show yay s false p + n ≤ s.size; omega) hw⟩
     show yms (yad s (yay s false p)) = .ok (k, yay s false p + n - yay s false p, v)
     rw [hq, Nat.add_sub_cancel_left]
theorem zkw (s : ByteArray) (ts : List Tok) (h : yfr s = .ok ts) : zlk s 0 ts := by
 unfold yfr at h
 split at h
 ·cases h
 ·exact good_of_scan s 4096 0 ts (by omega) h
theorem zlk.tail {s : ByteArray} {p : Nat} {t : Tok} {ts : List Tok} (h : zlk s p (t :: ts)) : zlk s t.to ts := h.2.2.2.2.2.2
theorem zlk.len {s : ByteArray} : ∀ {ts : List Tok} {p : Nat}, zlk s p ts → ts.length + p ≤ s.size := by
 intro ts
 induction ts with
 | nil => intro p h; have := h.1; simp; omega
 | cons t ts ih =>
  intro p h
  have h1 := ih h.tail
  obtain ⟨h2, h3, h4, _, h5, h6, _⟩ := h
  have := (yis s false p h2).1
  simp; omega
theorem zlk.mem {s : ByteArray} : ∀ {ts : List Tok} {p : Nat}, zlk s p ts → ∀ t ∈ ts, t.from_ < s.size ∧ yms (yad s t.from_) = .ok (t.kind, t.to - t.from_, t.num) ∧ t.from_ < t.to ∧ t.to ≤ s.size ∧ ycr false (yad s t.from_) = 0 := by
 intro ts
 induction ts with
 | nil => intro p _ t ht; cases ht
 | cons u ts ih =>
  intro p h t ht
  cases ht with
  | head =>
   obtain ⟨h2, h3, h4, h7, h5, h6, _⟩ := h
   refine ⟨h4, h7, h5, h6, ?_⟩
   rw [h3, ← yjy]
   refine skip_drop _ false ?_
   rw [yjy, ← h3]
   intro h8
   rw [ydp] at h8; omega
  | tail _ ht => exact ih h.tail t ht
theorem run_all (p : UInt8 → Bool) (r : List UInt8) : ∀ c ∈ r.take (ynx p r), p c = true := by
 induction r with
 | nil => simp
 | cons x r ih =>
  intro c hc
  simp only [ynx] at hc
  by_cases hx : p x = true
  ·rw [if_pos hx, Nat.add_comm, List.take_succ_cons] at hc
   cases hc with
   | head => exact hx
   | tail _ h => exact ih c h
  ·rw [if_neg hx] at hc; simp at hc
end
set_option linter.unusedVariables false
section
open Go.RowKit
variable {nm : Bs → Bool} {names : List Bs}
def pwT (s : ByteArray) (t : Tok) : PW := ⟨(yad s t.from_).take (t.to - t.from_), t.kind, t.num⟩
inductive Scans : Bs → List PW → Prop
 | nil {l : Bs} (h : l.drop (ycr false l) = []) : Scans l []
 | cons {l y r : Bs} {k v : Nat} {ws : List PW} (h : l.drop (ycr false l) = y ++ r) (hy : y ≠ []) (ht : yms (y ++ r) = .ok (k, y.length, v)) (hr : Scans r ws) : Scans l (⟨y, k, v⟩ :: ws)
theorem consTok_ok {t : Tok} {x : Except (Nat × Nat) (List Tok)} {ts : List Tok} (h : ypm t x = .ok ts) : ∃ us, x = .ok us ∧ ts = t :: us := by
 cases x with
 | error e => cases h
 | ok us => exact ⟨us, rfl, (Except.ok.inj h).symm⟩
theorem zek (s : ByteArray) : ∀ (left p : Nat) (ts : List Tok), yjm left p (yad s p) = .ok ts → Scans (yad s p) (ts.map (pwT s))
 | 0, p, ts, h => by
  rw [yjm] at h
  split at h
  ·rename_i h0
   obtain rfl := (Except.ok.inj h).symm
   exact .nil h0
  ·cases h
 | left + 1, p, ts, h => by
  rw [yjm] at h
  split at h
  ·rename_i h0
   obtain rfl := (Except.ok.inj h).symm
   exact .nil h0
  ·rename_i h0
   split at h
   ·cases h
   ·rename_i k n v ht
    obtain ⟨us, h1, rfl⟩ := consTok_ok h
    have hb := zcq ht
    rw [ycq, ycq] at h1
    have ih := zek s left _ us h1
    have hsp : (yad s p).drop (ycr false (yad s p)) = (yad s (p + ycr false (yad s p))).take n ++ yad s (p + ycr false (yad s p) + n) := by
     rw [ycq, ← ycq s _ n, List.take_append_drop]
    have hlen : ((yad s (p + ycr false (yad s p))).take n).length = n := by
     rw [List.length_take, ← ycq]; omega
    rw [List.map_cons, pwT]
    simp only [Nat.add_sub_cancel_left]
    refine .cons hsp (fun e => ?_) (by rw [← hsp, hlen]; exact ht) ih
    rw [e] at hlen; simp at hlen; omega
theorem scan_of (s : ByteArray) {l : Bs} {ws : List PW} (h : Scans l ws) : ∀ (left p : Nat), ws.length ≤ left → yad s p = l → ∃ ts, yjm left p l = .ok ts ∧ ts.map (pwT s) = ws := by
 induction h with
 | @nil l h =>
  intro left p hl hp
  refine ⟨[], ?_, rfl⟩
  cases left <;> rw [yjm, if_pos h]
 | @cons l y r k v ws h hy ht hr ih =>
  intro left p hl hp
  simp only [List.length_cons] at hl
  obtain ⟨left, rfl⟩ : ∃ m, left = m + 1 := ⟨left - 1, by omega⟩
  have hd : (l.drop (ycr false l)).drop y.length = r := by rw [h, List.drop_left]
  have hp2 : yad s (p + ycr false l + y.length) = r := by rw [← ycq, ← ycq, hp, hd]
  obtain ⟨ts, h1, h2⟩ := ih left (p + ycr false l + y.length) (by omega) hp2
  refine ⟨⟨k, p + ycr false l, p + ycr false l + y.length, v⟩ :: ts, ?_, ?_⟩
  ·rw [yjm, if_neg (by rw [h]; simp [hy]), h, ht]
   simp only
   rw [List.drop_left, h1]; rfl
  ·rw [List.map_cons, h2, pwT]
   simp only [Nat.add_sub_cancel_left]
   rw [← ycq, hp, h, List.take_left]
theorem scanF_words {s : ByteArray} {ts : List Tok} (h : yfr s = .ok ts) : Scans (bl s) (ts.map (pwT s)) := by
 unfold yfr at h
 split at h
 ·cases h
 ·have := zek s 4096 0 ts h
  exact this
theorem scanF_of {s : ByteArray} {ws : List PW} (h : Scans (bl s) ws) (hs : s.size ≤ 16384) (hw : ws.length ≤ 4096) : ∃ ts, yfr s = .ok ts ∧ ts.map (pwT s) = ws := by
 obtain ⟨ts, h1, h2⟩ := scan_of s h 4096 0 hw rfl
 exact ⟨ts, by rw [yfr, if_neg (by omega)]; exact h1, h2⟩
theorem skip_zero_of {c : UInt8} {r : Bs} (h : yix c = false) : ycr false (c :: r) = 0 := by
 simp only [yix, Bool.or_eq_false_iff, beq_eq_false_iff_ne] at h
 rw [ycr, if_neg (by rintro (e | e | e | e) <;> simp_all), if_neg h.2]
theorem ydc {r : Bs} {ws : List PW} (h : Scans r ws) : Scans (32 :: r) ws := by
 have e : (32 :: r : Bs).drop (ycr false (32 :: r)) = r.drop (ycr false r) := by
  rw [ycr, if_pos (.inl rfl), Nat.add_comm, List.drop_succ_cons]
 cases h with
 | nil h => exact .nil (e.trans h)
 | cons h hy ht hr => exact .cons (e.trans h) hy ht hr
theorem yuy {c : UInt8} {y r : Bs} {k v : Nat} {ws : List PW} (hc : yix c = false) (ht : yms ((c :: y) ++ r) = .ok (k, (c :: y).length, v)) (hr : Scans r ws) : Scans ((c :: y) ++ r) (⟨c :: y, k, v⟩ :: ws) :=
 .cons (by rw [List.cons_append, skip_zero_of hc, List.drop_zero]) (by simp) ht hr
def yph (p : UInt8 → Bool) (r : Bs) : Prop := ∀ c x, r = c :: x → p c = false
theorem run_begins {p : UInt8 → Bool} {r : Bs} (h : yph p r) : ynx p r = 0 := by
 cases r with
 | nil => rfl
 | cons c x => rw [ynx, if_neg (by rw [h c x rfl]; simp)]
theorem zgr {p : UInt8 → Bool} {r : Bs} (h : yph p r) : ∀ {w : Bs}, (∀ c ∈ w, p c = true) → ynx p (w ++ r) = w.length
 | [], _ => run_begins h
 | c :: w, hw => by rw [List.cons_append, ynx, if_pos (hw c (by simp)), zgr h fun d hd => hw d (by simp [hd]), List.length_cons, Nat.add_comm]
theorem letter_blank {c : UInt8} (h : ycp c = true) : yix c = false := by
 cases hb : yix c with
 | false => rfl
 | true => rw [(yqr hb).2.2] at h; cases h
theorem digit_blank {c : UInt8} (h : yba c = true) : yix c = false := by
 cases hb : yix c with
 | false => rfl
 | true => rw [(yqr hb).2.1] at h; cases h
def ydo (w : Bs) : Prop := w.length ≤ 24 ∧ (∀ c ∈ w, ydu c = true) ∧ ∃ c x, w = c :: x ∧ ycp c = true
theorem ycz {w r : Bs} {ws : List PW} (hw : ydo w) (hb : yph ydu r) (hr : Scans r ws) : Scans (w ++ r) (pwN w :: ws) := by
 obtain ⟨h24, hall, c, x, rfl, hc⟩ := hw
 refine yuy (letter_blank hc) ?_ hr
 rw [List.cons_append, yms]
 rw [if_pos hc, ← List.cons_append, zgr hb hall, if_neg (by omega)]
theorem zmd {c : UInt8} (h : 48 ≤ c.toNat ∧ c.toNat ≤ 57) : yba c = true := by
 unfold yba
 have h1 : (48 : UInt8) ≤ c := by rw [UInt8.le_iff_toNat_le]; exact h.1
 have h2 : c ≤ (57 : UInt8) := by rw [UInt8.le_iff_toNat_le]; exact h.2
 simp [h1, h2]
theorem digit_letter {c : UInt8} (h : yba c = true) : ycp c = false := by
 have := zfl c h
 unfold ycp
 have h1 : ¬ (97 : UInt8) ≤ c := by rw [UInt8.le_iff_toNat_le]; have : (97 : UInt8).toNat = 97 := rfl; omega
 have h2 : ¬ (65 : UInt8) ≤ c := by rw [UInt8.le_iff_toNat_le]; have : (65 : UInt8).toNat = 65 := rfl; omega
 simp [h1, h2]
theorem znc (n : Nat) : yuj 0 (dec n) = n := by
 induction n using Nat.strongRecOn with
 | _ n ih =>
  by_cases h : n < 10
  ·rw [yjx h, ypy, yqy, dig, ypn h]; omega
  ·rw [ysh h, ziq, ih (n / 10) (by omega), dig, ypn (by omega)]; omega
theorem numRes_dec {n : Nat} (h : n ≤ 1073741824) : yja (dec n) = some n := by
 rw [zbl, znc]
 ·rintro ⟨h1, h2⟩
  by_cases h0 : n < 10
  ·rw [yjx h0] at h1; simp at h1
  ·exact dec_head n (by omega) h2
 ·rw [znc]; exact h
theorem yny {n : Nat} {r : Bs} {ws : List PW} (hn : n ≤ 1073741824) (hb : yph yba r) (hr : Scans r ws) : Scans (dec n ++ r) (pwV n :: ws) := by
 have hall : ∀ c ∈ dec n, yba c = true := fun c hc => zmd (yqt n c hc)
 have hp := zkq n
 have hres := numRes_dec hn
 unfold pwV
 generalize dec n = ds at *
 cases ds with
 | nil => simp at hp
 | cons c x =>
  have hc := hall c (by simp)
  refine yuy (digit_blank hc) ?_ hr
  rw [List.cons_append, yms]
  rw [if_neg (by rw [digit_letter hc]; simp), if_pos hc, ← List.cons_append, zgr hb hall, List.take_left, hres]
theorem yoq {a b : UInt8} {r : Bs} {ws : List PW} (h : yhh a b = true) (h1 : ycp a = false) (h2 : yba a = false) (h3 : yix a = false) (hr : Scans r ws) : Scans ([a, b] ++ r) (pwS [a, b] :: ws) := by
 refine yuy h3 ?_ hr
 show yms (a :: b :: r) = _
 rw [yms]
 rw [if_neg (by rw [h1]; simp), if_neg (by rw [h2]; simp), yes, if_pos h, if_neg (by omega)]
 rfl
theorem ydj {a : UInt8} {r : Bs} {ws : List PW} (h : yoa a = true) (hb : yph (yhh a) r) (h1 : ycp a = false) (h2 : yba a = false) (h3 : yix a = false) (hr : Scans r ws) : Scans (a :: r) (pwS [a] :: ws) := by
 refine yuy (y := []) h3 ?_ hr
 show yms (a :: r) = _
 rw [yms]
 have hs : yes (a :: r) = 1 := by
  cases r with
  | nil => rw [yes, if_pos h]
  | cons b r => rw [yes, if_neg (by rw [hb b r rfl]; simp), if_pos h]
 rw [if_neg (by rw [h1]; simp), if_neg (by rw [h2]; simp), hs, if_neg (by omega)]
 rfl
def FT (r : Bs) : Prop := ∀ c x, r = c :: x → c = 32 ∨ c = 41 ∨ c = 44 ∨ c = 59
theorem FT.begins {r : Bs} {p : UInt8 → Bool} (h : FT r) (h1 : p 32 = false) (h2 : p 41 = false) (h3 : p 44 = false) (h4 : p 59 = false) : yph p r := by
 intro c x e
 rcases h c x e with rfl | rfl | rfl | rfl <;> assumption
theorem zpz {r : Bs} : FT (32 :: r) := fun c x e => by cases e; exact .inl rfl
theorem zss {r : Bs} : FT (41 :: r) := fun c x e => by cases e; exact .inr (.inl rfl)
theorem ft_comma {r : Bs} : FT (44 :: r) := fun c x e => by cases e; exact .inr (.inr (.inl rfl))
theorem ft_semi {r : Bs} : FT (59 :: r) := fun c x e => by cases e; exact .inr (.inr (.inr rfl))
theorem yav {p : UInt8 → Bool} {c : UInt8} {r : Bs} (h : p c = false) : yph p (c :: r) := fun d x e => by cases e; exact h
def zqb (c : UInt8) : Bool := ycp c || yba c || c == 40 || c == 45 || c == 33
theorem zlh (hn : ∀ w ∈ names, ydo w) {l : Nat} {E : Ex} {x : Bs} {ws : List PW} (h : Wr names l E x ws) : ∃ c y, x = c :: y ∧ zqb c = true := by
 induction h with
 | down hl h ih => exact ih
 | paren h ih => exact ⟨_, _, rfl, rfl⟩
 | choice ha hb hc iha ihb ihc => obtain ⟨c, y, rfl, h⟩ := iha; exact ⟨c, _, rfl, h⟩
 | bin h0 hw hl h3 ha hb iha ihb => obtain ⟨c, y, rfl, h⟩ := iha; exact ⟨c, _, rfl, h⟩
 | cmp h0 hw hl ha hb iha ihb => obtain ⟨c, y, rfl, h⟩ := iha; exact ⟨c, _, rfl, h⟩
 | neg ha iha => exact ⟨_, _, rfl, rfl⟩
 | not ha iha => exact ⟨_, _, rfl, rfl⟩
 | @agg op w a xa wa h0 hw ha iha =>
  have : ∀ w ∈ zkd, ∃ c y, w = c :: y ∧ zqb c = true := by
   intro w hw
   simp only [zkd, List.mem_cons, List.not_mem_nil, or_false] at hw
   rcases hw with rfl | rfl | rfl | rfl | rfl | rfl | rfl | rfl | rfl | rfl <;> exact ⟨_, _, rfl, rfl⟩
  obtain ⟨c, y, rfl, h⟩ := this w hw
  exact ⟨c, _, rfl, h⟩
 | @num n hn =>
  have hp := zkq n
  have hd := yqt n
  generalize dec n = ds at *
  cases ds with
  | nil => simp at hp
  | cons c y => exact ⟨c, y, rfl, by simp [zqb, zmd (hd c (by simp))]⟩
 | @own i w h =>
  obtain ⟨_, _, c, y, rfl, hc⟩ := hn w (List.mem_of_getElem? h)
  exact ⟨c, y, rfl, by simp [zqb, hc]⟩
 | near h => exact ⟨_, _, rfl, rfl⟩
 | here => exact ⟨_, _, rfl, rfl⟩
 | @const op w h0 hw hne =>
  simp only [ymh, List.mem_cons, List.not_mem_nil, or_false] at hw
  rcases hw with rfl | rfl | rfl | rfl | rfl | rfl | rfl | rfl | rfl
  all_goals first | exact ⟨_, _, rfl, rfl⟩ | exact absurd rfl hne
 | field h0 hw => exact ⟨_, _, rfl, rfl⟩
theorem zes {c : UInt8} (h : zqb c = true) : yhh 45 c = false ∧ yhh 33 c = false := by
 have : c ≠ 62 ∧ c ≠ 61 := ⟨fun e => by subst e; revert h; decide, fun e => by subst e; revert h; decide⟩
 simp [yhh, this]
theorem zsi : ∀ w ∈ zkd, ydo w := by
 intro w hw
 simp only [zkd, List.mem_cons, List.not_mem_nil, or_false] at hw
 rcases hw with rfl | rfl | rfl | rfl | rfl | rfl | rfl | rfl | rfl | rfl <;> exact ⟨by decide, by decide, _, _, rfl, rfl⟩
theorem zmc : ∀ w ∈ ymh, w ≠ [] → ydo w := by
 intro w hw hne
 simp only [ymh, List.mem_cons, List.not_mem_nil, or_false] at hw
 rcases hw with rfl | rfl | rfl | rfl | rfl | rfl | rfl | rfl | rfl
 all_goals first | exact absurd rfl hne | exact ⟨by decide, by decide, _, _, rfl, rfl⟩
theorem zmj : ∀ w ∈ ynn, ydo w := by
 intro w hw
 simp only [ynn, List.mem_cons, List.not_mem_nil, or_false] at hw
 rcases hw with rfl | rfl | rfl | rfl | rfl <;> exact ⟨by decide, by decide, _, _, rfl, rfl⟩
theorem zxj : ydo [113] := ⟨by decide, by decide, _, _, rfl, rfl⟩
theorem zjp {w r : Bs} {ws : List PW} (hw : w ∈ zkn) (hr : Scans r ws) : Scans (w ++ (32 :: r)) (pwS w :: ws) := by
 simp only [zkn, List.mem_cons, List.not_mem_nil, or_false] at hw
 have h32 : ∀ a, yhh a 32 = false := fun a => yvq rfl a
 rcases hw with rfl | rfl | rfl | rfl | rfl | rfl | rfl | rfl | rfl | rfl | rfl | rfl | rfl
 all_goals first
  | exact yoq rfl rfl rfl rfl (ydc hr)
  | exact ydj rfl (yav (h32 _)) rfl rfl rfl (ydc hr)
theorem zel {w r : Bs} {ws : List PW} (hw : ydo w) (hb : yph ydu r) (hr : Scans r ws) : Scans (113 :: 46 :: (w ++ r)) (pwN [113] :: pwS [46] :: pwN w :: ws) := by
 have h3 := ycz hw hb hr
 have h2 : Scans (46 :: (w ++ r)) (pwS [46] :: pwN w :: ws) := by
  refine ydj rfl ?_ rfl rfl rfl h3
  obtain ⟨_, _, c, x, rfl, hc⟩ := hw
  refine yav ?_
  have : c ≠ 46 := fun e => by subst e; revert hc; decide
  simp [yhh, this]
 exact ycz zxj (yav rfl) h2
theorem wr_scans (hn : ∀ w ∈ names, ydo w) {l : Nat} {E : Ex} {x : Bs} {ws : List PW} (h : Wr names l E x ws) : ∀ (r : Bs) (us : List PW), FT r → Scans r us → Scans (x ++ r) (ws ++ us) := by
 induction h with
 | down hl h ih => exact ih
 | @paren E x ws h ih =>
  intro r us hr hs
  have h1 : Scans (41 :: r) (pwS [41] :: us) := ydj rfl (fun c x e => by simp [yhh]) rfl rfl rfl hs
  have h2 := ih _ _ zss h1
  have h3 : Scans (40 :: (x ++ 41 :: r)) (pwS [40] :: (ws ++ pwS [41] :: us)) := ydj rfl (fun c x e => by simp [yhh]) rfl rfl rfl h2
  simpa using h3
 | @choice a b c xa xb xc wa wb wc ha hb hc iha ihb ihc =>
  intro r us hr hs
  have h3 := ihc r us hr hs
  have h32 : ∀ a, yhh a 32 = false := fun a => yvq rfl a
  have h2 := ihb (32 :: 58 :: 32 :: (xc ++ r)) _ zpz (ydc (ydj (a := 58) rfl (yav (h32 _)) rfl rfl rfl (ydc h3)))
  have h1 := iha (32 :: 63 :: 32 :: (xb ++ (32 :: 58 :: 32 :: (xc ++ r)))) _ zpz (ydc (ydj (a := 63) rfl (yav (h32 _)) rfl rfl rfl (ydc h2)))
  simpa using h1
 | @bin op l w a b xa xb wa wb h0 hw hl h3 ha hb iha ihb =>
  intro r us hr hs
  have h1 := iha (32 :: (w ++ (32 :: (xb ++ r)))) _ zpz (ydc (zjp hw (ihb r us hr hs)))
  simpa using h1
 | @cmp op w a b xa xb wa wb h0 hw hl ha hb iha ihb =>
  intro r us hr hs
  have h1 := iha (32 :: (w ++ (32 :: (xb ++ r)))) _ zpz (ydc (zjp hw (ihb r us hr hs)))
  simpa using h1
 | @neg a xa wa ha iha =>
  intro r us hr hs
  have h1 := iha r us hr hs
  obtain ⟨c, y, rfl, hc⟩ := zlh hn ha
  exact ydj rfl (yav (zes hc).1) rfl rfl rfl h1
 | @not a xa wa ha iha =>
  intro r us hr hs
  have h1 := iha r us hr hs
  obtain ⟨c, y, rfl, hc⟩ := zlh hn ha
  exact ydj rfl (yav (zes hc).2) rfl rfl rfl h1
 | @agg op w a xa wa h0 hw ha iha =>
  intro r us hr hs
  have h1 : Scans (41 :: r) (pwS [41] :: us) := ydj rfl (fun c x e => by simp [yhh]) rfl rfl rfl hs
  have h2 := iha _ _ zss h1
  have h3 : Scans (40 :: (xa ++ 41 :: r)) (pwS [40] :: (wa ++ pwS [41] :: us)) := ydj rfl (fun c x e => by simp [yhh]) rfl rfl rfl h2
  have h4 := ycz (zsi w hw) (yav rfl) h3
  simpa using h4
 | @num n hn => exact fun r us hr hs => yny hn (hr.begins rfl rfl rfl rfl) hs
 | @own i w h => exact fun r us hr hs => ycz (hn w (List.mem_of_getElem? h)) (hr.begins rfl rfl rfl rfl) hs
 | @near i w h => exact fun r us hr hs => zel (hn w (List.mem_of_getElem? h)) (hr.begins rfl rfl rfl rfl) hs
 | here => exact fun r us hr hs => ycz zxj (hr.begins rfl rfl rfl rfl) hs
 | @const op w h0 hw hne => exact fun r us hr hs => ycz (zmc w hw hne) (hr.begins rfl rfl rfl rfl) hs
 | @field op w h0 hw => exact fun r us hr hs => zel (zmj w hw) (hr.begins rfl rfl rfl rfl) hs
end
section
open Go.RowKit
namespace Ex
def op : Ex → Int
 | lf t => t.1
 | un t _ => t.1
 | bi t _ _ => t.1
 | tr t _ _ _ => t.1
end Ex
def zrx (op : Int) : Bs := (zkn[(op - 30).toNat]?).getD []
def zrv (op : Int) : Bs := (zkd[(op - 20).toNat]?).getD []
def zae (op : Int) : Bs := (ymh[(op - 2).toNat]?).getD []
def zdr (op : Int) : Bs := (ynn[(op - 13).toNat]?).getD []
def yfn (names : List Bs) (i : Int) : Bs := (names[i.toNat]?).getD []
def ykr (names : List Bs) (t : Tm) : Bs :=
 if t.1 = 1 then dec t.2.toNat else if t.1 = 5 then yfn names t.2 else if t.1 = 11 then [113] else if t.1 = 12 then 113 :: 46 :: yfn names t.2 else if 13 ≤ t.1 then 113 :: 46 :: zdr t.1 else zae t.1
def zqj (names : List Bs) (t : Tm) : List PW :=
 if t.1 = 1 then [pwV t.2.toNat] else if t.1 = 5 then [pwN (yfn names t.2)] else if t.1 = 11 then [pwN [113]] else if t.1 = 12 then [pwN [113], pwS [46], pwN (yfn names t.2)] else if 13 ≤ t.1 then [pwN [113], pwS [46], pwN (zdr t.1)] else [pwN (zae t.1)]
def brT (b : Bool) (x : Bs) : Bs := match b with
 | true => 40 :: (x ++ [41])
 | false => x
def brP (b : Bool) (x : List PW) : List PW := match b with
 | true => pwS [40] :: (x ++ [pwS [41]])
 | false => x
def ybr (l : Nat) (E : Ex) : Bool := decide (yfg E.op < l)
def yuf (op : Int) : Nat := if yfg op = 3 then 4 else yfg op
def ybi (al : Bool) (names : List Bs) : Ex → Bs
 | .lf t => ykr names t
 | .un t a => if t.1 = 18 then 45 :: brT (al || ybr 6 a) (ybi al names a) else if t.1 = 19 then 33 :: brT (al || ybr 6 a) (ybi al names a) else zrv t.1 ++ (40 :: (ybi al names a ++ [41]))
 | .bi t a b => brT (al || ybr (yuf t.1) a) (ybi al names a) ++ (32 :: (zrx t.1 ++ (32 :: brT (al || ybr (yfg t.1 + 1) b) (ybi al names b))))
 | .tr _ a b c => brT (al || ybr 1 a) (ybi al names a) ++ (32 :: 63 :: 32 :: (brT al (ybi al names b) ++ (32 :: 58 :: 32 :: brT al (ybi al names c))))
def ykp (al : Bool) (names : List Bs) : Ex → List PW
 | .lf t => zqj names t
 | .un t a => if t.1 = 18 then pwS [45] :: brP (al || ybr 6 a) (ykp al names a) else if t.1 = 19 then pwS [33] :: brP (al || ybr 6 a) (ykp al names a) else pwN (zrv t.1) :: pwS [40] :: (ykp al names a ++ [pwS [41]])
 | .bi t a b => brP (al || ybr (yuf t.1) a) (ykp al names a) ++ (pwS (zrx t.1) :: brP (al || ybr (yfg t.1 + 1) b) (ykp al names b))
 | .tr _ a b c => brP (al || ybr 1 a) (ykp al names a) ++ (pwS [63] :: (brP al (ykp al names b) ++ (pwS [58] :: brP al (ykp al names c))))
theorem Wr.downs {names : List Bs} {E : Ex} {x : Bs} {ws : List PW} {k : Nat} (hk : k ≤ 7) (h : Wr names k E x ws) : ∀ {l : Nat}, l ≤ k → Wr names l E x ws := by
 intro l hl
 obtain ⟨d, rfl⟩ := Nat.exists_eq_add_of_le hl
 clear hl
 induction d generalizing l with
 | zero => exact h
 | succ d ih => exact .down (by omega) (ih (l := l + 1) (by omega) (by rw [show l + 1 + d = l + (d + 1) by omega]; exact h))
theorem zay (op : Int) : yfg op ≤ 7 := by unfold yfg; (repeat' split) <;> omega
theorem zkc {names : List Bs} {E : Ex} {x : Bs} {ws : List PW} (h : Wr names (yfg E.op) E x ws) {l : Nat} (hl : l ≤ 7) {b : Bool} (hb : b = false → l ≤ yfg E.op) : Wr names l E (brT b x) (brP b ws) := by
 cases b with
 | true => exact (Wr.paren (h.downs (zay _) (Nat.zero_le _))).downs (by omega) hl
 | false => exact h.downs (zay _) (hb rfl)
theorem zpk : ∀ k : Fin 13, ymf (zrx (30 + (k : Nat))) = 30 + (k : Nat) ∧ zrx (30 + (k : Nat)) ∈ zkn ∧ 1 ≤ yfg (30 + (k : Nat)) ∧ yfg (30 + (k : Nat)) ≤ 5 ∧ (zrx (30 + (k : Nat))).length ≤ 2 := by decide
theorem zlr : ∀ k : Fin 10, zkl (zrv (20 + (k : Nat))) = 20 + (k : Nat) ∧ zrv (20 + (k : Nat)) ∈ zkd ∧ yfg (20 + (k : Nat)) = 7 ∧ (zrv (20 + (k : Nat))).length ≤ 6 := by decide
theorem yyt : ∀ k : Fin 9, k ≠ 3 → yiy (zae (2 + (k : Nat))) = 2 + (k : Nat) ∧ zae (2 + (k : Nat)) ∈ ymh ∧ zae (2 + (k : Nat)) ≠ [] ∧ (zae (2 + (k : Nat))).length ≤ 5 := by decide
theorem zfr : ∀ k : Fin 5, yko (zdr (13 + (k : Nat))) = 13 + (k : Nat) ∧ zdr (13 + (k : Nat)) ∈ ynn ∧ (zdr (13 + (k : Nat))).length ≤ 6 := by decide
theorem ypr {op lo : Int} {n : Nat} (h1 : lo ≤ op) (h2 : op < lo + n) : ∃ k : Fin n, op = lo + (k : Nat) := ⟨⟨(op - lo).toNat, by omega⟩, by simp only; omega⟩
theorem zih {op : Int} (h : op ≤ 17 ∨ (20 ≤ op ∧ op ≤ 29)) : yfg op = 7 := by
 unfold yfg
 rw [if_neg (by omega), if_neg (by omega), if_neg (by omega), if_neg (by omega), if_neg (by omega), if_neg (by omega), if_neg (by omega)]
variable {names : List Bs}
theorem leaf_wr {t : Tm} (h : ar t.1 = 0) (ha : yhl names.length t = true) : Wr names 7 (.lf t) (ykr names t) (zqj names t) := by
 obtain ⟨op, i⟩ := t
 have hb : 1 ≤ op ∧ op ≤ 17 := by unfold ar at h; (repeat' split at h) <;> omega
 simp only [yhl] at ha
 unfold ykr zqj
 simp only
 by_cases h1 : op = 1
 ·subst h1
  simp at ha
  have := Wr.num (names := names) (n := i.toNat) (by omega)
  rw [Int.toNat_of_nonneg ha.1] at this
  exact this
 rw [if_neg h1, if_neg h1]
 rw [if_neg h1] at ha
 by_cases h5 : op = 5
 ·subst h5
  simp at ha
  obtain ⟨w, hw⟩ : ∃ w, names[i.toNat]? = some w := ⟨_, List.getElem?_eq_getElem (by omega)⟩
  have := Wr.own (names := names) (i := i.toNat) hw
  rw [Int.toNat_of_nonneg ha.1] at this
  simpa [yfn, hw] using this
 by_cases h12 : op = 12
 ·subst h12
  simp at ha
  obtain ⟨w, hw⟩ : ∃ w, names[i.toNat]? = some w := ⟨_, List.getElem?_eq_getElem (by omega)⟩
  have := Wr.near (names := names) (i := i.toNat) hw
  rw [Int.toNat_of_nonneg ha.1] at this
  simpa [yfn, hw] using this
 rw [if_neg (by omega)] at ha
 simp at ha
 subst ha
 rw [if_neg h5, if_neg h5]
 by_cases h11 : op = 11
 ·subst h11
  exact .here
 rw [if_neg h11, if_neg h11, if_neg h12, if_neg h12]
 by_cases h13 : 13 ≤ op
 ·rw [if_pos h13, if_pos h13]
  obtain ⟨k, rfl⟩ := ypr (n := 5) h13 (by omega)
  exact .field (zfr k).1 (zfr k).2.1
 ·rw [if_neg h13, if_neg h13]
  obtain ⟨k, rfl⟩ := ypr (lo := 2) (n := 9) (op := op) (by omega) (by omega)
  have hk : k ≠ 3 := fun e => by subst e; exact h5 rfl
  exact .const (yyt k hk).1 (yyt k hk).2.1 (yyt k hk).2.2.1
theorem zff {t : Tm} (h : 18 ≤ t.1) {v : Int} (ha : yhl v t = true) : t.2 = 0 := by
 unfold yhl at ha
 rw [if_neg (by omega), if_neg (by omega)] at ha
 simpa using ha
theorem ymy (al : Bool) : ∀ (E : Ex), E.ok → (∀ t ∈ E.fl, yhl names.length t = true) → Wr names (yfg E.op) E (ybi al names E) (ykp al names E)
 | .lf t, h, ha => by
  have hb : t.1 ≤ 17 := by have : ar t.1 = 0 := h; unfold ar at this; (repeat' split at this) <;> omega
  show Wr names (yfg t.1) _ _ _
  rw [zih (.inl hb)]
  exact leaf_wr h (ha t (by simp [Ex.fl]))
 | .un t a, h, ha => by
  obtain ⟨h1, h2⟩ := h
  have ih := ymy al a h2 fun t ht => ha t (by simp [Ex.fl, ht])
  have hb : 18 ≤ t.1 ∧ t.1 ≤ 29 := by unfold ar at h1; (repeat' split at h1) <;> omega
  have h0 := zff hb.1 (ha t (by simp [Ex.fl]))
  obtain ⟨op, i⟩ := t
  simp only at h0 hb
  subst h0
  simp only [ybi, ykp, Ex.op]
  by_cases e : op = 18
  ·subst e
   rw [if_pos rfl, if_pos rfl]
   exact .neg (zkc ih (by omega) fun hb => by simp [ybr] at hb; exact hb.2)
  rw [if_neg e, if_neg e]
  by_cases e : op = 19
  ·subst e
   rw [if_pos rfl, if_pos rfl]
   exact .not (zkc ih (by omega) fun hb => by simp [ybr] at hb; exact hb.2)
  rw [if_neg e, if_neg e]
  obtain ⟨k, rfl⟩ := ypr (lo := 20) (n := 10) (op := op) (by omega) (by omega)
  rw [(zlr k).2.2.1]
  exact .agg (zlr k).1 (zlr k).2.1 (ih.downs (zay _) (Nat.zero_le _))
 | .bi t a b, h, ha => by
  obtain ⟨h1, h2, h3⟩ := h
  have iha := ymy al a h2 fun t ht => ha t (by simp [Ex.fl, ht])
  have ihb := ymy al b h3 fun t ht => ha t (by simp [Ex.fl, ht])
  have hb : 30 ≤ t.1 ∧ t.1 ≤ 42 := by unfold ar at h1; (repeat' split at h1) <;> omega
  have h0 := zff (by omega) (ha t (by simp [Ex.fl]))
  obtain ⟨op, i⟩ := t
  simp only at h0 hb
  subst h0
  simp only [ybi, ykp, Ex.op]
  obtain ⟨k, rfl⟩ := ypr (lo := 30) (n := 13) (op := op) (by omega) (by omega)
  obtain ⟨g1, g2, g3, g4, _⟩ := zpk k
  generalize (30 + ((k : Nat) : Int)) = op at *
  have hwb := zkc ihb (l := yfg op + 1) (by omega) (b := al || ybr (yfg op + 1) b) fun hb => by simp [ybr] at hb; omega
  by_cases e : yfg op = 3
  ·have hwa := zkc iha (l := 4) (by omega) (b := al || ybr 4 a) fun hb => by simp [ybr] at hb; omega
   have : yuf op = 4 := by rw [yuf, if_pos e]
   rw [this]
   rw [e] at hwb ⊢
   exact .cmp g1 g2 e hwa hwb
  ·have : yuf op = yfg op := by rw [yuf, if_neg e]
   rw [this]
   have hwa := zkc iha (l := yfg op) (by omega) (b := al || ybr (yfg op) a) fun hb => by simp [ybr] at hb; omega
   exact .bin g1 g2 rfl e hwa hwb
 | .tr t a b c, h, ha => by
  obtain ⟨h1, h2, h3, h4⟩ := h
  have iha := ymy al a h2 fun t ht => ha t (by simp [Ex.fl, ht])
  have ihb := ymy al b h3 fun t ht => ha t (by simp [Ex.fl, ht])
  have ihc := ymy al c h4 fun t ht => ha t (by simp [Ex.fl, ht])
  have hb : t.1 = 43 := by unfold ar at h1; (repeat' split at h1) <;> omega
  have h0 := zff (by omega) (ha t (by simp [Ex.fl]))
  obtain ⟨op, i⟩ := t
  simp only at h0 hb
  subst h0; subst hb
  simp only [ybi, ykp, Ex.op]
  exact .choice (zkc iha (by omega) fun hb => by simp [ybr] at hb; omega) (zkc ihb (by omega) fun _ => Nat.zero_le _) (zkc ihc (by omega) fun _ => Nat.zero_le _)
theorem ysf (b : Bool) (x : Bs) : (brT b x).length ≤ x.length + 2 := by cases b <;> simp [brT]
theorem yvr (b : Bool) (x : List PW) : (brP b x).length ≤ x.length + 2 := by cases b <;> simp [brP]
theorem zmv (hn : ∀ w ∈ names, w.length ≤ 24) {t : Tm} (h : ar t.1 = 0) (ha : yhl names.length t = true) : (ykr names t).length ≤ 26 ∧ (zqj names t).length ≤ 3 := by
 obtain ⟨op, i⟩ := t
 have hb : 1 ≤ op ∧ op ≤ 17 := by unfold ar at h; (repeat' split at h) <;> omega
 simp only [yhl] at ha
 unfold ykr zqj
 simp only
 have hnm : (yfn names i).length ≤ 24 := by
  unfold yfn
  cases hw : names[i.toNat]? with
  | none => simp
  | some w => exact hn w (List.mem_of_getElem? hw)
 by_cases h1 : op = 1
 ·subst h1
  simp at ha
  have := zfk 10 i.toNat (by omega) (by omega)
  simp only [if_true]
  exact ⟨by omega, by simp⟩
 rw [if_neg h1, if_neg h1]
 by_cases h5 : op = 5
 ·rw [if_pos h5, if_pos h5]; exact ⟨by omega, by simp⟩
 rw [if_neg h5, if_neg h5]
 by_cases h11 : op = 11
 ·rw [if_pos h11, if_pos h11]; exact ⟨by simp, by simp⟩
 rw [if_neg h11, if_neg h11]
 by_cases h12 : op = 12
 ·rw [if_pos h12, if_pos h12]; exact ⟨by simp only [List.length_cons]; omega, by simp⟩
 rw [if_neg h12, if_neg h12]
 by_cases h13 : 13 ≤ op
 ·rw [if_pos h13, if_pos h13]
  obtain ⟨k, rfl⟩ := ypr (n := 5) h13 (by omega)
  have := (zfr k).2.2
  exact ⟨by simp only [List.length_cons]; omega, by simp⟩
 ·rw [if_neg h13, if_neg h13]
  obtain ⟨k, rfl⟩ := ypr (lo := 2) (n := 9) (op := op) (by omega) (by omega)
  have hk : k ≠ 3 := fun e => by subst e; exact h5 rfl
  have := (yyt k hk).2.2.2
  exact ⟨by omega, by simp⟩
theorem yfb (hn : ∀ w ∈ names, w.length ≤ 24) (al : Bool) : ∀ (E : Ex), E.ok → (∀ t ∈ E.fl, yhl names.length t = true) → (ybi al names E).length + 2 ≤ 34 * E.fl.length ∧ (ykp al names E).length + 2 ≤ 8 * E.fl.length
 | .lf t, h, ha => by
  have := zmv hn h (ha t (by simp [Ex.fl]))
  simp only [ybi, ykp, Ex.fl, List.length_cons, List.length_nil]
  omega
 | .un t a, h, ha => by
  obtain ⟨h1, h2⟩ := h
  have ih := yfb hn al a h2 fun t ht => ha t (by simp [Ex.fl, ht])
  have hb : 18 ≤ t.1 ∧ t.1 ≤ 29 := by unfold ar at h1; (repeat' split at h1) <;> omega
  obtain ⟨op, i⟩ := t
  simp only at hb
  have b1 := ysf (al || ybr 6 a) (ybi al names a)
  have b2 := yvr (al || ybr 6 a) (ykp al names a)
  simp only [ybi, ykp, Ex.fl, List.length_cons]
  by_cases e : op = 18
  ·rw [if_pos e, if_pos e]; simp only [List.length_cons]; omega
  rw [if_neg e, if_neg e]
  by_cases e : op = 19
  ·rw [if_pos e, if_pos e]; simp only [List.length_cons]; omega
  rw [if_neg e, if_neg e]
  obtain ⟨k, rfl⟩ := ypr (lo := 20) (n := 10) (op := op) (by omega) (by omega)
  have := (zlr k).2.2.2
  simp only [List.length_cons, List.length_append, List.length_nil]
  omega
 | .bi t a b, h, ha => by
  obtain ⟨h1, h2, h3⟩ := h
  have iha := yfb hn al a h2 fun t ht => ha t (by simp [Ex.fl, ht])
  have ihb := yfb hn al b h3 fun t ht => ha t (by simp [Ex.fl, ht])
  have hb : 30 ≤ t.1 ∧ t.1 ≤ 42 := by unfold ar at h1; (repeat' split at h1) <;> omega
  obtain ⟨op, i⟩ := t
  simp only at hb
  simp only [ybi, ykp, Ex.fl, List.length_cons]
  obtain ⟨k, rfl⟩ := ypr (lo := 30) (n := 13) (op := op) (by omega) (by omega)
  have := (zpk k).2.2.2.2
  have b1 := ysf (al || ybr (yuf (30 + ((k : Nat) : Int))) a) (ybi al names a)
  have b2 := yvr (al || ybr (yuf (30 + ((k : Nat) : Int))) a) (ykp al names a)
  have b3 := ysf (al || ybr (yfg (30 + ((k : Nat) : Int)) + 1) b) (ybi al names b)
  have b4 := yvr (al || ybr (yfg (30 + ((k : Nat) : Int)) + 1) b) (ykp al names b)
  simp only [List.length_cons, List.length_append]
  omega
 | .tr t a b c, h, ha => by
  obtain ⟨h1, h2, h3, h4⟩ := h
  have iha := yfb hn al a h2 fun t ht => ha t (by simp [Ex.fl, ht])
  have ihb := yfb hn al b h3 fun t ht => ha t (by simp [Ex.fl, ht])
  have ihc := yfb hn al c h4 fun t ht => ha t (by simp [Ex.fl, ht])
  have b1 := ysf (al || ybr 1 a) (ybi al names a)
  have b2 := yvr (al || ybr 1 a) (ykp al names a)
  have b3 := ysf al (ybi al names b)
  have b4 := yvr al (ykp al names b)
  have b5 := ysf al (ybi al names c)
  have b6 := yvr al (ykp al names c)
  simp only [ybi, ykp, Ex.fl, List.length_cons, List.length_append]
  omega
end
section
variable {nm : Bs → Bool} {names : List Bs}
theorem znx {α : Type} {a b p r : List α} (h : a ++ b = p ++ r) (hs : r <:+ b) : ∃ q, b = q ++ r ∧ p = a ++ q := by
 obtain ⟨q, rfl⟩ := hs
 refine ⟨q, rfl, ?_⟩
 rw [← List.append_assoc] at h
 exact (List.append_cancel_right h).symm
theorem zec {α : Type} {p r : List α} (h : r = p ++ r) : p = [] := by
 have := congrArg List.length h
 rw [List.length_append] at this
 exact List.eq_nil_of_length_eq_zero (by omega)
def Like (r r' : List PW) : Prop := r'.head? = r.head? ∨ r' = []
theorem zcf {t : PW} {r r' : List PW} (h : r'.head? = (t :: r).head?) : ∃ r2, r' = t :: r2 := by
 cases r' with
 | nil => cases h
 | cons a r2 => cases h; exact ⟨r2, rfl⟩
def zum (y : Option Res) : Prop := y = none ∨ (∃ x, y = some (.ok x [])) ∨ y = some (.bad 4 [])
def Res.rest : Res → List PW
 | .ok _ r => r
 | .bad _ r => r
def Cut (F : List PW → Option Res) (ts : List PW) : Res → Prop
 | .ok e r => ∀ p, ts = p ++ r → ∀ r', Like r r' → F (p ++ r') = some (.ok e r')
 | .bad c r => r ≠ [] → ∀ p, ts = p ++ r → (∀ r', r'.head? = r.head? → F (p ++ r') = some (.bad c r')) ∧ zum (F p)
def zuf (F : List PW → Option Res) : Prop := ∀ ts res, F ts = some res → res.rest <:+ ts ∧ Cut F ts res
inductive Looks (F : List PW → Option Res) (t : PW) : Prop
 | takes (A : List PW → Option Res) (hA : zuf A) (h : ∀ r, F (t :: r) = A r) : Looks F t
 | fails (c : Int) (h : ∀ r, F (t :: r) = some (.bad c (t :: r))) : Looks F t
 | leaves (B : List PW → Option Res) (hB : zuf B) (h0 : F [] = B []) (h : ∀ r, F (t :: r) = B (t :: r)) : Looks F t
theorem yww {F : List PW → Option Res} (h0 : zum (F [])) (h : ∀ t, Looks F t) : zuf F := by
 intro ts res hf
 cases ts with
 | nil =>
  rcases h0 with h0 | ⟨x, h0⟩ | h0
  ·rw [h0] at hf; cases hf
  ·have h1 := h0
   rw [hf] at h1
   obtain rfl := Option.some.inj h1
   refine ⟨List.suffix_refl _, fun p hp r' hl => ?_⟩
   have hp : p = [] := by simpa using hp.symm
   subst hp
   rcases hl with hl | rfl
   ·cases r' with
    | nil => exact h0
    | cons a r' => cases hl
   ·exact h0
  ·have h1 := h0
   rw [hf] at h1
   obtain rfl := Option.some.inj h1
   exact ⟨List.suffix_refl _, fun hr => absurd rfl hr⟩
 | cons t r =>
  cases h t with
  | takes A hA he =>
   rw [he] at hf
   obtain ⟨hs, hc⟩ := hA _ _ hf
   refine ⟨hs.trans (List.suffix_cons _ _), ?_⟩
   cases res with
   | ok e r2 =>
    intro p hp r' hl
    obtain ⟨q, rfl, rfl⟩ := znx (a := [t]) hp hs
    show F (t :: (q ++ r')) = _
    rw [he]
    exact hc q rfl r' hl
   | bad c r2 =>
    intro hr p hp
    obtain ⟨q, rfl, rfl⟩ := znx (a := [t]) hp hs
    obtain ⟨c1, c2⟩ := hc hr q rfl
    refine ⟨fun r' hl => ?_, ?_⟩
    ·show F (t :: (q ++ r')) = _
     rw [he]; exact c1 r' hl
    ·show zum (F (t :: q))
     rw [he]; exact c2
  | fails c he =>
   have h1 := he r
   rw [hf] at h1
   obtain rfl := Option.some.inj h1
   refine ⟨List.suffix_refl _, fun hr p hp => ?_⟩
   have hp : p = [] := zec hp
   subst hp
   refine ⟨fun r' hl => ?_, h0⟩
   obtain ⟨r2, rfl⟩ := zcf hl
   exact he r2
  | leaves B hB hB0 he =>
   rw [he] at hf
   obtain ⟨hs, hc⟩ := hB _ _ hf
   refine ⟨hs, ?_⟩
   cases res with
   | ok e r2 =>
    intro p hp r' hl
    have := hc p hp r' hl
    cases p with
    | nil =>
     obtain rfl : t :: r = r2 := hp
     rcases hl with hl | rfl
     ·obtain ⟨r3, rfl⟩ := zcf hl
      exact (he r3).trans this
     ·exact hB0.trans this
    | cons a p =>
     obtain ⟨rfl, rfl⟩ := List.cons.inj hp
     exact (he _).trans this
   | bad c r2 =>
    intro hr p hp
    obtain ⟨c1, c2⟩ := hc hr p hp
    cases p with
    | nil =>
     obtain rfl : t :: r = r2 := hp
     refine ⟨fun r' hl => ?_, h0⟩
     have := c1 r' hl
     obtain ⟨r3, rfl⟩ := zcf hl
     exact (he r3).trans this
    | cons a p =>
     obtain ⟨rfl, rfl⟩ := List.cons.inj hp
     exact ⟨fun r' hl => (he _).trans (c1 r' hl), by rw [he]; exact c2⟩
theorem zlf (e : List Tm) : zuf fun ts => some (.ok e ts) := by
 intro ts res h
 obtain rfl := (Option.some.inj h).symm
 refine ⟨List.suffix_refl _, fun p hp r' hl => ?_⟩
 have hp : p = [] := zec hp
 subst hp; rfl
theorem end_ok (e : List Tm) : zum (some (.ok e [])) := .inr (.inl ⟨e, rfl⟩)
theorem zpt : zum (some (.bad 4 [])) := .inr (.inr rfl)
theorem tame_var (op : Int) : zuf fun ts => some (yzp nm names op ts) := by
 refine yww zpt fun t => ?_
 by_cases h : nm t.w = true
 ·cases hx : ypc names t.w with
  | some x => exact .takes _ (zlf [(op, (x : Int))]) fun r => by simp only [yzp, if_pos h, hx]
  | none => exact .fails 5 fun r => by simp only [yzp, if_pos h, hx]
 ·exact .fails 4 fun r => by simp only [yzp, if_neg h]
theorem tame_near : zuf fun ts => some (ypd nm names ts) := by
 refine yww (end_ok _) fun t => ?_
 by_cases h : t.w = [46]
 ·refine .takes (fun r => some (if yko (ybd r) = 0 then yzp nm names 12 r else .ok [(yko (ybd r), 0)] r.tail)) ?_ fun r => congrArg some (if_pos h)
  refine yww zpt fun t => ?_
  by_cases h : yko t.w = 0
  ·exact .leaves _ (tame_var (nm := nm) (names := names) 12) rfl fun r => congrArg some (if_pos h)
  ·exact .takes _ (zlf [(yko t.w, 0)]) fun r => congrArg some (if_neg h)
 ·exact .leaves _ (zlf [(11, 0)]) rfl fun r => congrArg some (if_neg h)
end
section
open Go.RowKit
variable {nm : Bs → Bool} {names : List Bs}
def yho (nm : Bs → Bool) (names : List Bs) : Bool := decide (names.length ≤ 6) && (names.all nm && decide names.Nodup)
structure NmW (nm : Bs → Bool) : Prop where
 word : ∀ w, nm w = true → ydo w
 res : ∀ w, nm w = true → yiy w = 0 ∧ zkl w = 0 ∧ yko w = 0 ∧ w ≠ [113] ∧ w ≠ [40] ∧ w ≠ [45] ∧ w ≠ [33]
theorem yjg (h : yho nm names = true) : names.length ≤ 6 ∧ (∀ w ∈ names, nm w = true) ∧ names.Nodup := by
 simp only [yho, Bool.and_eq_true, decide_eq_true_eq, List.all_eq_true] at h
 exact h
theorem NmW.ok (hN : NmW nm) (h : yho nm names = true) : NmOk nm names := ⟨(yjg h).2.1, (yjg h).2.2, hN.res⟩
theorem NmW.words (hN : NmW nm) (h : yho nm names = true) : ∀ w ∈ names, ydo w := fun w hw => hN.word w ((yjg h).2.1 w hw)
theorem yla {l : List Tm} {v : Int} (h : yco l v = true) : ∃ E, yfx l = some E ∧ E.ok ∧ E.fl = l ∧ l.length ≤ 200 ∧ (∀ t ∈ l, yhl v t = true) := by
 unfold yco at h
 cases hp : yfx l with
 | none => rw [hp] at h; cases h
 | some E =>
  rw [hp] at h
  simp only [Bool.and_eq_true, decide_eq_true_eq, List.all_eq_true] at h
  exact ⟨E, rfl, (yfy hp).1, (yfy hp).2, h.1, h.2.1⟩
def yem (al : Bool) (names : List Bs) (e : List Tm) : Bs := match yfx e with
 | some E => ybi al names E
 | none => []
def zap (nm : Bs → Bool) (names : List Bs) (e : List Tm) : Bs × Int := if yho nm names = true ∧ yco e names.length = true then (yem false names e, 0) else ([], 7)
theorem formatT_len (hN : NmW nm) (h : yho nm names = true) {e : List Tm} (hv : yco e names.length = true) (al : Bool) : (yem al names e).length + 2 ≤ 34 * e.length ∧ e.length ≤ 200 := by
 obtain ⟨E, h1, h2, rfl, h3, h4⟩ := yla hv
 have := (yfb (fun w hw => (hN.words h w hw).1) al E h2 h4).1
 rw [yem, h1]
 exact ⟨this, h3⟩
theorem tokL_err {r : List UInt8} {e : Nat} (h : yms r = .error e) : 1 ≤ e ∧ e ≤ 5 := by
 unfold yms at h
 cases r with
 | nil => cases h; omega
 | cons c x =>
  simp only at h
  split at h
  ·split at h
   ·cases h; omega
   ·cases h
  ·split at h
   ·split at h
    ·cases h; omega
    ·cases h
   ·split at h
    ·cases h; omega
    ·cases h
theorem consTok_err {t : Tok} {x : Except (Nat × Nat) (List Tok)} {e : Nat × Nat} (h : ypm t x = .error e) : x = .error e := by
 cases x with
 | error e' => exact h
 | ok us => cases h
theorem zjn : ∀ (left p : Nat) (r : List UInt8) (q e : Nat), yjm left p r = .error (q, e) → 1 ≤ e ∧ e ≤ 5
 | 0, p, r, q, e, h => by
  rw [yjm] at h
  split at h
  ·cases h
  ·cases h; omega
 | left + 1, p, r, q, e, h => by
  rw [yjm] at h
  split at h
  ·cases h
  ·split at h
   ·rename_i ht; cases h; exact tokL_err ht
   ·exact zjn left _ _ q e (consTok_err h)
theorem zns {s : ByteArray} {q e : Nat} (h : yfr s = .error (q, e)) : 1 ≤ e ∧ e ≤ 5 := by
 unfold yfr at h
 split at h
 ·cases h; omega
 ·exact zjn _ _ _ _ _ h
end
set_option maxRecDepth 100000
set_option maxHeartbeats 8000000
section
open Go.RowKit
def zrr : List (List UInt8) := [[112, 114, 111, 103, 114, 97, 109], [118, 97, 114], [114, 117, 108, 101], [98, 111, 111, 108], [112, 111, 114, 116], [116, 114, 117, 101], [102, 97, 108, 115, 101], [110, 111, 110, 101], [110], [105, 100, 115], [105, 100], [100, 101, 103], [114, 111, 111, 116], [113], [119, 101, 105, 103, 104, 116], [98, 97, 99, 107], [97, 108, 108], [115, 111, 109, 101], [99, 111, 117, 110, 116], [102, 105, 114, 115, 116], [109, 105, 110], [109, 97, 120], [115, 117, 109], [109, 101, 120], [115, 101, 99, 111, 110, 100], [104, 101, 97, 100]]
def zqy (s : ByteArray) : Bool := zrr.any (fun x => s.toList == x)
theorem zqz (s : ByteArray) (q0 : (s.toList == [112, 114, 111, 103, 114, 97, 109]) = false) (q1 : (s.toList == [118, 97, 114]) = false) (q2 : (s.toList == [114, 117, 108, 101]) = false) (q3 : (s.toList == [98, 111, 111, 108]) = false) (q4 : (s.toList == [112, 111, 114, 116]) = false) (q5 : (s.toList == [116, 114, 117, 101]) = false) (q6 : (s.toList == [102, 97, 108, 115, 101]) = false) (q7 : (s.toList == [110, 111, 110, 101]) = false) (q8 : (s.toList == [110]) = false) (q9 : (s.toList == [105, 100, 115]) = false) (q10 : (s.toList == [105, 100]) = false) (q11 : (s.toList == [100, 101, 103]) = false) (q12 : (s.toList == [114, 111, 111, 116]) = false) (q13 : (s.toList == [113]) = false) (q14 : (s.toList == [119, 101, 105, 103, 104, 116]) = false) (q15 : (s.toList == [98, 97, 99, 107]) = false) (q16 : (s.toList == [97, 108, 108]) = false) (q17 : (s.toList == [115, 111, 109, 101]) = false) (q18 : (s.toList == [99, 111, 117, 110, 116]) = false) (q19 : (s.toList == [102, 105, 114, 115, 116]) = false) (q20 : (s.toList == [109, 105, 110]) = false) (q21 : (s.toList == [109, 97, 120]) = false) (q22 : (s.toList == [115, 117, 109]) = false) (q23 : (s.toList == [109, 101, 120]) = false) (q24 : (s.toList == [115, 101, 99, 111, 110, 100]) = false) (q25 : (s.toList == [104, 101, 97, 100]) = false) : zqy s = false := by
 simp only [zqy, zrr, List.any_cons, List.any_nil, q0, q1, q2, q3, q4, q5, q6, q7, q8, q9, q10, q11, q12, q13, q14, q15, q16, q17, q18, q19, q20, q21, q22, q23, q24, q25, Bool.or_false]
theorem yau (s : ByteArray) (x : List UInt8) (hx : zrr.contains x = true) (h : (s.toList == x) = true) : zqy s = true := by
 unfold zqy
 rw [List.any_eq_true]
 exact ⟨x, List.contains_iff_mem.1 hx, h⟩
set_option maxHeartbeats 4000000 in
def yie (s : ByteArray) : Bool :=
 match yad s 0 with
 | [] => false
 | c :: r => decide (s.size ≤ 24) && (ycp c && ((c :: r).all ydu && !zqy s))
theorem zbh (s : ByteArray) (h : s.size = 0) : yie s = false := by
 unfold yie; rw [ymg s 0 (by omega)]
theorem zdz (s : ByteArray) (h : 24 < s.size) : yie s = false := by
 unfold yie; rw [ybm s 0 (by omega)]; simp; omega
theorem yxv (s : ByteArray) (h : 0 < s.size) (hl : ycp s[0] = false) : yie s = false := by
 unfold yie; rw [ybm s 0 h]; simp [hl]
theorem zeb (s : ByteArray) (k : Nat) (h : k < s.size) (hw : ydu s[k] = false) : yie s = false := by
 have hm := zbg s k h
 unfold yie
 cases hb : yad s 0 with
 | nil => rfl
 | cons c r =>
  rw [hb] at hm
  have : (c :: r).all ydu = false := by
   rw [List.all_eq_false]; exact ⟨s[k], hm, by simp [hw]⟩
  simp only [this, Bool.false_and, Bool.and_false]
theorem zea (s : ByteArray) (h : 0 < s.size) (h24 : s.size ≤ 24) (hl : ycp s[0] = true) (ha : ((yad s 0).take s.size).all ydu = true) : yie s = !zqy s := by
 rw [yzn s _ (Nat.le_refl _)] at ha
 unfold yie
 rw [ybm s 0 h] at *
 simp only [ha, hl, h24, decide_true, Bool.true_and]
theorem zls (s : ByteArray) (k : Nat) (h : k < s.size) (ha : ((yad s 0).take k).all ydu = true) (hw : ydu s[k] = true) : ((yad s 0).take (k + 1)).all ydu = true := by
 rw [zjx s k h, List.all_append, ha]; simp [hw]
set_option maxHeartbeats 1000000 in
theorem name_not_reserved (s : ByteArray) (h : yie s = true) : zqy s = false := by
 unfold yie at h
 split at h
 ·cases h
 ·simp at h; exact h.2.2.2
end
section
open Go.RowKit
def nmW (w : Bs) : Bool := yie (ba w)
theorem ydk (w : Bs) : (ba w).toList = w := by rw [Lib.toList_data]; exact yde w
theorem resB_ba (w : Bs) : zqy (ba w) = zrr.any (fun x => w == x) := by rw [zqy, ydk]
theorem ydw {w : Bs} (h : nmW w = true) : ydo w ∧ zrr.contains w = false := by
 have hr := name_not_reserved _ h
 rw [resB_ba] at hr
 unfold nmW yie at h
 have hb : yad (ba w) 0 = w := yde w
 rw [hb] at h
 cases w with
 | nil => cases h
 | cons c r =>
  simp only [Bool.and_eq_true, decide_eq_true_eq, List.all_eq_true] at h
  rw [yar] at h
  refine ⟨⟨h.1, h.2.2.1, c, r, rfl, h.2.1⟩, ?_⟩
  rw [List.any_eq_false] at hr
  cases hc : zrr.contains (c :: r) with
  | false => rfl
  | true =>
   rw [List.contains_iff_mem] at hc
   exact absurd (by simp) (hr _ hc)
theorem const_res : ∀ w ∈ ymh, w ≠ [] → zrr.contains w = true := by decide
theorem agg_res : ∀ w ∈ zkd, zrr.contains w = true := by decide
theorem field_res : ∀ w ∈ ynn, zrr.contains w = true := by decide
theorem zbk : NmW nmW := by
 refine ⟨fun w h => (ydw h).1, fun w h => ?_⟩
 obtain ⟨⟨_, h2, c, r, rfl, hc⟩, hr⟩ := ydw h
 have hz : ∀ (first : Int) (l : List Bs), (∀ x ∈ l, x ≠ [] → zrr.contains x = true) → yyk first l (c :: r) = 0 := by
  intro first l hl
  refine Decidable.byContradiction fun hne => ?_
  have := find_mem hne
  rw [hl _ this.1 this.2] at hr
  cases hr
 refine ⟨hz 2 ymh const_res, hz 20 zkd fun x hx _ => agg_res x hx, hz 13 ynn fun x hx _ => field_res x hx, ?_, ?_, ?_, ?_⟩
 ·intro e; rw [e] at hr; revert hr; decide
 all_goals
  intro e
  obtain ⟨rfl, _⟩ := List.cons.inj e
  revert hc; decide
end
set_option maxHeartbeats 4000000
section
open Go.RowKit
theorem hlook_ne {j d : Nat} {o : Option LObj} {h : List (Nat × Option LObj)} (hne : j ≠ d) : yaf ((d, o) :: h) j = yaf h j := by
 simp only [yaf]
 rw [ygk hne]
def zsv : List AV → LObj
 | [] => .vec []
 | x :: xs => .mcells (x :: xs)
variable {f : List (Nat × Option LObj)} {M sz : Nat} {rows : List (List AV)} {extra : List AV}
theorem zdy (d : Nat) (xs : List AV) : ygr d (zsv xs) = ment.mentL d xs := by cases xs <;> rfl
section
variable {P : Program} {T : Nat → Option Ty} {N : Nat} {ops : Array Oper} {lf : Oper → Bool} {Q : SS → Prop} {t : List (Nat × AV)} {h : List (Nat × Option LObj)} {rest : List Oper} {d : Nat} {op : Op} {ty : TypeId} {pos : String} {af : Array Edge} {gd : Option (Nat × Bool)} {r : AV}
end
theorem yhf {σ : Nat → Nat} : ∀ {x : AV}, ybc x = true → ygc σ x = x
 | .v _, _ => rfl
 | .any, _ => rfl
 | .one, _ => rfl
 | .sl _ _, _ => rfl
 | .dp _ _, _ => rfl
 | .mv _, _ => rfl
 | .agg cs, h => by simp only [ygc, rows (cs := cs) h]
 | .tup cs, h => by simp only [ygc, rows (cs := cs) h]
 | .fn _ cs, h => by simp only [ygc, rows (cs := cs) h]
 | .fm _ cs, h => by simp only [ygc, rows (cs := cs) h]
 where rows : ∀ {cs : List AV}, ybc.pureL cs = true → ygc.renL σ cs = cs
 | [], _ => rfl
 | c :: cs, h => by
  simp only [ybc.pureL, Bool.and_eq_true] at h
  simp only [ygc.renL, yhf h.1, rows h.2]
section
variable {P : Program} {T : Nat → Option Ty} {N : Nat} {ops : Array Oper} {lf : Oper → Bool} {Q : SS → Prop} {t : List (Nat × AV)} {h : List (Nat × Option LObj)} {rest : List Oper} {d : Nat} {op : Op} {ty : TypeId} {pos : String} {af : Array Edge} {gd : Option (Nat × Bool)} {r : AV}
end
end
section
open Go.RowKit
theorem box_to_dp {h : Nat → Option LObj} {id off : Nat} {xs : List AV} {B : Bse} {ok0 : Nat → Prop} {lv : Live} {w : World} {u : Value} (hi : Inv B ok0 h lv w) (hx : h id = some (.cells xs)) (hr : Rel (ybt B ok0 lv w) w lv (.lp id off) u) (hp : ybc.pureL xs = true) (ok' : Nat → Prop) (hk1 : ∀ g, ybt B ok0 lv w g → ok' g) (hk2 : ∀ b n, lv id = some (some b, n) → ok' b) : Rel ok' w (fun _ => none) (.dp xs off) u := by
 obtain ⟨b, n, h1, rfl, h2⟩ := ydz hi (by rw [hx]; rfl) (.inr hx) hr
 have := Rel.dp (ok := ok') (w := w) (lv := fun _ => none) (row := xs) (off := off) b 0 (fun j => (w.cell? ⟨b, 0 + j, none⟩).getD undef) (hk2 b n h1) (fun j c hc => ?_) (fun j c hc => ?_)
 ·rwa [Nat.zero_add] at this
 ·obtain ⟨q1, v, q2, _⟩ := h2 j c hc
  exact ⟨by rw [q2]; rfl, q1⟩
 ·obtain ⟨_, v, q2, q3⟩ := h2 j c hc
  rw [q2]
  exact (q3.relive fun id b n hb _ => by cases hb).keep fun g hg => ⟨hk1 g hg, rfl⟩
theorem Frz.box {h : Nat → Option LObj} {id off : Nat} {xs : List AV} (hx : h id = some (.cells xs)) (hp : ybc.pureL xs = true) : Frz h (.lp id off) (.dp xs off) :=
 fun B ok0 lv w u hi hr => box_to_dp hi hx hr hp _ (fun g hg => ⟨hg.1, hg.2.1⟩) fun b n hb => by obtain ⟨_, _, h1, h2, _⟩ := hi.lvat hb; exact ⟨.inr h1, h2⟩
theorem Frz.fn {h : Nat → Option LObj} {f : Nat} {xs ys : List AV} (hl : xs.length = ys.length) (hf : ∀ (i : Nat) (x y : AV), xs[i]? = some x → ys[i]? = some y → Frz h x y) : Frz h (.fn f xs) (.fn f ys) := by
 intro B ok0 lv w u hi hr
 cases hr with
 | fn vs hvl hrr =>
  refine .fn vs (hvl.trans hl) fun i c v hc hv => ?_
  obtain ⟨x, hx⟩ : ∃ x, xs[i]? = some x := ⟨_, List.getElem?_eq_getElem (by have := (List.getElem?_eq_some_iff.1 hc).1; omega)⟩
  exact hf i x c hx hc B ok0 lv w v hi (hrr i x v hx hv)
variable {P : Program} {N : Nat} {t : List (Nat × AV)} {h : List (Nat × Option LObj)}
end
section
open Go.RowKit
theorem isC_matO (xs : List AV) : isC (zsv xs) = false := by cases xs <;> rfl
theorem objAt_matO {ok : Nat → Prop} {lv : Live} {w : World} {b n : Nat} {xs : List AV} : yhn ok lv w b n (zsv xs) ↔ yic ok lv w b n xs := by
 cases xs with
 | nil => exact ⟨fun h => h.1, fun h => ⟨h, fun x hx => by cases hx⟩⟩
 | cons x xs => exact Iff.rfl
variable {P : Program} {T : Nat → Option Ty} {N : Nat} {ops : Array Oper} {lf : Oper → Bool} {Q : SS → Prop} {t : List (Nat × AV)} {h : List (Nat × Option LObj)} {rest : List Oper} {d : Nat} {op : Op} {ty : TypeId} {pos : String} {af : Array Edge} {gd : Option (Nat × Bool)} {r : AV}
theorem buildM_loud (hT : TOK P T) {o : Oper} {ti e es eb sz len : Nat} {ea ag : Bool} {ez z : List Value} {parts : List (Nat × Operand)} {ps : List (Nat × AV)} {ys : List AV} {s : SS} (id : Nat) (ho : o.op = .buildSlice ti len parts.toArray) (hd : o.dst = some d) (hdN : d < N) (hk : T ti = some ⟨.slc e es ea eb ez, sz, ag, z⟩) (hone : ez.all Value.oneCell' = true)
  (hps : evP (evF s.t) parts = some ps) (hf : zal (fun i => some (i * es, es)) (yus len (ywy ez)) ps = some ys) (hlen : ys.length = len * es) (hlim : Nat.ble (len * es) 16777216 = true) (hfr : ylx s id) (hm : ment.mentL id ys = false) :
  yif P N o s (· = ⟨yhi s.t (some d) (.ls id es len), ydf s.h id (some (zsv ys))⟩) := by
 intro B ok0 lv a w hs Q
 obtain ⟨h1, h2⟩ := zfp (ok := ybt B ok0 lv w) (w := w) (lv := lv) (a := a) hps fun x y hx hxy => hs.eval hxy
 obtain ⟨hu, hsz, _, hz, hzl, hpos⟩ := (hT _ _ hk).2.2
 obtain ⟨zv, hz1, hz2⟩ := hz.run (w := w)
 obtain ⟨out, g1, g2, g3⟩ := yua (place' := fun i => some (i * es, es)) (fun i p h => h) hf (zgm (z := ez) len (by omega)) (yut (yqm hone) len) h1 h2
 have hlim' : len * es ≤ 16777216 := by simpa using hlim
 have hle : len ≤ len * es := Nat.le_mul_of_pos_right _ hpos
 have hrun : (execOp a.eval o).run P w = .ok (.value (.slice (some ⟨w.heap.size, 0, none⟩) len len)) (w.alloc (.cells out.toArray e)) := by
  have e' : Instr.fill (fun i => some (i * es, es)) (madeCells ez.toArray (len * es)) (parts.toArray.map fun x => (x.1, a.eval x.2)).toList = some out.toArray := by
   have : (madeCells ez.toArray (len * ez.length)).toList.toArray = madeCells ez.toArray (len * es) := by rw [hzl]
   rw [← this]
   have e : (parts.toArray.map fun x => (x.1, a.eval x.2)).toList = parts.map fun x => (x.1, a.eval x.2) := by simp
   rw [e]; exact g1
  unfold madeCells at e'
  have n1 : ¬ (len * es > 2 ^ 24) := by omega
  by_cases h0 : len * es = 0
  ·have hl0 : len = 0 := by omega
   subst hl0
   simp only [Nat.zero_mul, Array.range_zero', Array.map_empty] at e'
   simp [execOp, ho, Instr.buildSlice, run_underlying hu, (hsz.run (w := w)).1, newRow, Array.range_zero']
   simp at e'
   rw [e']
   simp
  ·simp only [execOp, ho, Instr.buildSlice, Sem.run_bind, run_underlying hu, (hsz.run (w := w)).1, Result.andThen_ok, if_neg n1, if_neg h0, hz1, hz2, Sem.run_pure, e', newRow]
   simp
 unfold Oper.wp
 rw [hrun]
 simp only [Oper.upon, hd]
 have hnew := hs.newBlock (ob := zsv ys) (n := len * es) hfr (w' := w.alloc (.cells out.toArray e)) (yez w _) (by simp) (by rw [zdy]; exact hm) (fun h => by rw [isC_matO] at h; cases h)
  (fun ok' lv' k1 k2 => objAt_matO.2 (yse (e := e) (extra := []) (by rw [g2.1, hlen]; simp) (by rw [List.append_nil]; exact yew w _) g2 g3 ok' lv' k1 fun i b mm hb hmm => k2 i b mm hb (by rw [zdy]; exact hmm)))
 refine ⟨_, _, rfl, hnew.putOnly hdN (.ls _ rfl fun b n' hb => ?_)⟩
 simp only [ykl, if_true, Option.some.injEq, Prod.mk.injEq] at hb
 obtain ⟨rfl, rfl⟩ := hb
 exact ⟨len, rfl, Nat.le_refl _, by unfold maxLen; omega, rfl⟩
theorem L_buildM (hT : TOK P T) {ti e es eb sz len : Nat} {ea ag : Bool} {ez z : List Value} {parts : List (Nat × Operand)} {ps : List (Nat × AV)} {ys : List AV} (id : Nat) (hk : T ti = some ⟨.slc e es ea eb ez, sz, ag, z⟩) (hone : ez.all Value.oneCell' = true)
  (hps : evP (evF (look t)) parts = some ps) (hf : zal (fun i => some (i * es, es)) (yus len (ywy ez)) ps = some ys) (hlen : ys.length = len * es) (hlim : Nat.ble (len * es) 16777216 = true) (hfr : ylx (S t h) id) (hm : ment.mentL id ys = false)
  (hl : lf ⟨some d, .buildSlice ti len parts.toArray, ty, pos, af, gd⟩ = true) (hw : yan ops (look t) ⟨some d, .buildSlice ti len parts.toArray, ty, pos, af, gd⟩ = some true) (hd : Nat.blt d N = true) (k : Lex P N ops lf Q rest (S ((d, .ls id es len) :: t) ((id, some (zsv ys)) :: h))) :
  Lex P N ops lf Q (⟨some d, .buildSlice ti len parts.toArray, ty, pos, af, gd⟩ :: rest) (S t h) := by
 refine ykn hl hw ?_ k
 have := buildM_loud (N := N) (s := S t h) (P := P) hT (o := ⟨some d, .buildSlice ti len parts.toArray, ty, pos, af, gd⟩) id rfl rfl (by simpa using hd) hk hone hps hf hlen hlim hfr hm
 rwa [show (⟨yhi (S t h).t (some d) (.ls id es len), ydf (S t h).h id (some (zsv ys))⟩ : SS) = S ((d, .ls id es len) :: t) ((id, some (zsv ys)) :: h) from zhd] at this
def zow (id : Nat) (t : List (Nat × AV)) : List (Nat × AV) → Prop
 | [] => True
 | (x, y) :: t' => (look t x = some y ∧ ment id y = false) ∧ zow id t t'
theorem subTM_nil {id : Nat} {t : List (Nat × AV)} : zow id t [] := trivial
theorem subTM_cons {id : Nat} {t : List (Nat × AV)} {x : Nat} {y : AV} {t' : List (Nat × AV)} (h1 : look t x = some y) (h2 : ment id y = false) (h : zow id t t') : zow id t ((x, y) :: t') := ⟨⟨h1, h2⟩, h⟩
theorem ywu {id : Nat} {t : List (Nat × AV)} : ∀ {t' : List (Nat × AV)}, zow id t t' → ∀ x y, look t' x = some y → look t x = some y ∧ ment id y = false
 | [], _, x, y, h => by simp [look] at h
 | (s, z) :: t', hs, x, y, h => by
  simp only [look] at h
  split at h
  ·rename_i e
   have e : x = s := by simpa using e
   subst e
   simp only [Option.some.injEq] at h
   subst h
   exact hs.1
  ·exact ywu hs.2 x y h
theorem L_appendV (hT : TOK P T) {ti e es eb sz : Nat} {ea ag : Bool} {ez z : List Value} {x y : Operand} {id len : Nat} {xs : List AV} {rows : List (List AV)} {t' : List (Nat × AV)} {h0 : List (Nat × Option LObj)} (hk : T ti = some ⟨.slc e es ea eb ez, sz, ag, z⟩) (hx : evF (look t) x = some (.ls id es len)) (hxl : xs.length = len * es) (hy : evF (look t) y = some (.sl es rows))
  (hcp : ∀ c ∈ rows.flatten, ybc c = true) (hlim : len + rows.length ≤ 4294967296 ∧ (len + rows.length) * eb ≤ 140737488355328) (ht : zow id t t') (h2 : yen id h0 = true) (hl : lf ⟨some d, .call { callee := .builtin .append, args := #[x, y], argTypes := #[ti, ti] }, ty, pos, af, gd⟩ = true)
  (hw : yan ops (look t) ⟨some d, .call { callee := .builtin .append, args := #[x, y], argTypes := #[ti, ti] }, ty, pos, af, gd⟩ = some true) (hd : Nat.blt d N = true) (k : Lex P N ops lf Q rest (S ((d, .ls id es (len + rows.length)) :: t') ((id, some (.vec (xs ++ rows.flatten))) :: h0))) :
  Lex P N ops lf Q (⟨some d, .call { callee := .builtin .append, args := #[x, y], argTypes := #[ti, ti] }, ty, pos, af, gd⟩ :: rest) (S t ((id, some (.vec xs)) :: h0)) := by
 have e : S ((d, .ls id es (len + rows.length)) :: t') ((id, some (.vec (xs ++ rows.flatten))) :: h0) = (⟨yhi (S t' ((id, some (.vec (xs ++ rows.flatten))) :: h0)).t (some d) (.ls id es (len + rows.length)), (S t' ((id, some (.vec (xs ++ rows.flatten))) :: h0)).h⟩ : SS) := by
  unfold S; rw [yhe]
 refine ykn hl hw ?_ k
 rw [e]
 refine yzy hT rfl rfl (by simpa using hd) hk hx (by simp [S, yaf]) hxl hy (fun ok w lv u hr => zrh hr) hcp hlim (fun x y h => .inr (ywu ht x y h)) (fun x y h => ⟨y, (ywu ht x y h).1⟩) (fun j ob' hj hob => ?_) ?_
 ·simp only [S] at hob ⊢
  rw [hlook_ne hj] at hob ⊢
  exact ⟨(yjf h2).2 j ob' hob, ob', hob, .inl rfl⟩
 ·simp [S, yaf]
theorem L_lenI (hT : TOK P T) {ti e es eb sz : Nat} {ea ag : Bool} {ez z0 : List Value} {x : Operand} {id z len : Nat} {ob : LObj} (hk : T ti = some ⟨.slc e es ea eb ez, sz, ag, z0⟩) (hx : evF (look t) x = some (.ls id z len)) (hh : yaf h id = some ob)
  (hw : yan ops (look t) ⟨some d, .call { callee := .builtin .len, args := #[x], argTypes := #[ti] }, ty, pos, af, gd⟩ = some true) (hd : Nat.blt d N = true) (k : Lex P N ops lf Q rest (S ((d, .v (.int .i64 len)) :: t) h)) : Lex P N ops lf Q (⟨some d, .call { callee := .builtin .len, args := #[x], argTypes := #[ti] }, ty, pos, af, gd⟩ :: rest) (S t h) :=
 ycf (yyf (hT _ _ hk).2.2 hx hh) hw hd k
end
section
open Go.RowKit
def okW (w : World) (g : Nat) : Prop := g < w.heap.size
theorem ynb {ok : Nat → Prop} {w : World} {lv : Live} {a : AV} {cs : List Value} (h : yck ok w lv [a] cs) : ∃ u, cs = [u] ∧ Rel ok w lv a u := by
 match cs, h with
 | [u], h => exact ⟨u, rfl, h.2 0 _ _ rfl rfl⟩
theorem zgj {ok : Nat → Prop} {w : World} {lv : Live} {a b : AV} {cs : List Value} (h : yck ok w lv [a, b] cs) : ∃ u v, cs = [u, v] ∧ Rel ok w lv a u ∧ Rel ok w lv b v := by
 match cs, h with
 | [u, v], h => exact ⟨u, v, rfl, h.2 0 _ _ rfl rfl, h.2 1 _ _ rfl rfl⟩
theorem zqx {ok : Nat → Prop} {w : World} {lv : Live} {a b c : AV} {cs : List Value} (h : yck ok w lv [a, b, c] cs) : ∃ u v x, cs = [u, v, x] ∧ Rel ok w lv a u ∧ Rel ok w lv b v ∧ Rel ok w lv c x := by
 match cs, h with
 | [u, v, x], h => exact ⟨u, v, x, rfl, h.2 0 _ _ rfl rfl, h.2 1 _ _ rfl rfl, h.2 2 _ _ rfl rfl⟩
theorem yee {P : Program} {f : FuncId} {args : List AV} {x : Value} (hb : ypi P f) (h : ∀ (w : World) (us : List Value) (ok : Nat → Prop), (∀ g, ok g → g < w.heap.size) → yck ok w (fun _ => none) args us → Calls P f us.toArray w fun e w' => e = .returned x ∧ Below w.heap.size w w') : Con P f args (.v x) :=
 ⟨hb, rfl, fun ok0 w us _ hok hr => (h w us ok0 hok hr).mono fun e w' ⟨h1, h2⟩ => ⟨x, h1, .v x, h2⟩⟩
end
section
open Go.RowKit
theorem zkm {W w1 : World} (hb : Below W.heap.size W w1) : (∀ b o, b < W.heap.size → w1.cell? ⟨b, o, none⟩ = W.cell? ⟨b, o, none⟩) ∧ (∀ b o, b < W.heap.size → w1.frozen? ⟨b, o, none⟩ = W.frozen? ⟨b, o, none⟩) :=
 ⟨fun b o h => hb.cell (p := ⟨b, o, none⟩) h, fun b o h => hb.frozen (p := ⟨b, o, none⟩) h⟩
theorem yfm {w w1 w2 : World} (h1 : Below w.heap.size w w1) (h2 : Below w1.heap.size w1 w2) : Below w.heap.size w w2 := h1.trans (h2.mono h1.size)
theorem zrw {w w1 : World} (h1 : Below w.heap.size w w1) (n : Nat) : Below w.heap.size w (w1.drewN n) := below_drewN h1 n
theorem yae {a b : Bool} (h : a = b) : Ending.returned (.bool a) = .returned (.bool b) := by rw [h]
theorem yak {k : IntKind} {a b : Int} (h : a = b) : Ending.returned (.int k a) = .returned (.int k b) := by rw [h]
def Row (w : World) (v : Value) (size n : Nat) (xs : List Value) : Prop :=
 ∃ a cap, v = .slice a n cap ∧ n ≤ cap ∧ cap ≤ maxLen ∧ xs.length = n * size ∧ (a = none → cap = 0) ∧
  (n = 0 ∨ ∃ g o, a = some ⟨g, o, none⟩ ∧ g < w.heap.size ∧ ∀ j u, xs[j]? = some u → w.cell? ⟨g, o + j, none⟩ = some u)
theorem Row.below {w w' : World} {v : Value} {size n : Nat} {xs : List Value} (h : Row w v size n xs) (hb : Below w.heap.size w w') : Row w' v size n xs := by
 obtain ⟨a, cap, hv, h1, h2, h3, h4, h5⟩ := h
 refine ⟨a, cap, hv, h1, h2, h3, h4, ?_⟩
 rcases h5 with h5 | ⟨g, o, ha, hg, hc⟩
 ·exact .inl h5
 ·exact .inr ⟨g, o, ha, Nat.lt_of_lt_of_le hg hb.size, fun j u hu => (hb.cell (p := ⟨g, _, none⟩) hg).trans (hc j u hu)⟩
theorem yfw {w w' : World} {B e size n : Nat} {v : Value} {xs : List Value} (h : w.ownsRow B e size v n xs) (hb : Below w.heap.size w w') : w'.ownsRow B e size v n xs := by
 obtain ⟨h1, h2⟩ := h
 refine ⟨h1, ?_⟩
 rcases h2 with h2 | ⟨g, cap, cur, hv, hg, hh, r⟩
 ·exact .inl h2
 ·exact .inr ⟨g, cap, cur, hv, hg, by rw [hb.block g (by rcases Nat.lt_or_ge g w.heap.size with h | h; exact h; simp [Array.getElem?_eq_none h] at hh)]; exact hh, r⟩
theorem ykb {w : World} {B e size n : Nat} {v : Value} {xs : List Value} (h : w.ownsRow B e size v n xs) : ∃ a cap, v = .slice a n cap := by
 rcases h.2 with ⟨rfl, rfl⟩ | ⟨g, cap, cur, hv, _⟩
 ·exact ⟨_, _, rfl⟩
 ·exact ⟨_, _, hv⟩
theorem zsz {w : World} {B e size n : Nat} {v : Value} {xs : List Value} (h : w.ownsRow B e size v n xs) (x : Nat) (hx : w.heap.size ≤ x) : some x ≠ v.ownBlock :=
 fun h1 => by have := (h.lt x h1.symm).2; omega
theorem yxx {w : World} {B e size n : Nat} {v : Value} {xs : List Value} (h : w.ownsRow B e size v n xs) : ∀ k, v.ownBlock = some k → B ≤ k := fun k hk => (h.lt k hk).1
theorem ynt (W : World) (l : List Value) (e n : Nat) (hn : n = W.heap.size) : ∀ j u, l[j]? = some u → (W.alloc (.cells l.toArray e)).cell? ((⟨n, 0, none⟩ : Addr).add j) = some u := by
 intro j u h
 subst hn
 have h0 : (⟨W.heap.size, 0, none⟩ : Addr).add j = ⟨W.heap.size, j, none⟩ := by
  unfold Addr.add
  split <;> simp_all
 rw [h0]
 have h1 : (W.alloc (.cells l.toArray e)).heap[W.heap.size]? = some (.cells l.toArray e) := by
  show (W.heap.push (.cells l.toArray e))[W.heap.size]? = _
  rw [Array.getElem?_push, if_pos rfl]
 unfold World.cell?
 simp only [h1]
 simpa using h
theorem ywo {w : World} {B e size n : Nat} {v : Value} {xs : List Value} (h : w.ownsRow B e size v n xs) : Row w v size n xs := by
 obtain ⟨h1, h2⟩ := h
 rcases h2 with ⟨rfl, rfl⟩ | ⟨g, cap, cur, hv, hg, hh, hle, hcap, hcs, htk⟩
 ·exact ⟨none, 0, rfl, by omega, by simp [maxLen], h1, fun _ => rfl, .inl rfl⟩
 ·refine ⟨some ⟨g, 0, none⟩, cap, hv, hle, hcap, h1, (fun h => by cases h), .inr ⟨g, 0, rfl, ?_, fun j u hu => ?_⟩⟩
  ·rcases Nat.lt_or_ge g w.heap.size with h | h
   ·exact h
   ·simp [Array.getElem?_eq_none h] at hh
  ·have hj : (cur.toList.take (n * size))[j]? = some u := by rw [htk]; exact hu
   rw [List.getElem?_take] at hj
   unfold World.cell?
   simp only [hh, Nat.zero_add]
   split at hj
   ·simpa using hj
   ·cases hj
theorem row_nil (w : World) (size : Nat) : Row w (.slice none 0 0) size 0 [] := ⟨none, 0, rfl, by simp, by simp [maxLen], by simp, fun _ => rfl, .inl rfl⟩
theorem Row.open {w : World} {v : Value} {size n : Nat} {xs : List Value} (h : Row w v size n xs) : ∃ a cap, v = .slice a n cap ∧ n ≤ cap ∧ cap ≤ 9223372036854775807 ∧ (a = none → cap = 0) ∧
  (0 < n → ∃ g o, a = some ⟨g, o, none⟩ ∧ g < w.heap.size ∧ ∀ j u, xs[j]? = some u → w.cell? ⟨g, o + j, none⟩ = some u) := by
 obtain ⟨a, cap, hv, h1, h2, h3, h4, h5⟩ := h
 unfold maxLen at h2
 refine ⟨a, cap, hv, h1, by omega, h4, fun hn => ?_⟩
 rcases h5 with h5 | h5
 ·omega
 ·exact h5
theorem yok {α : Type} (f : α → List Value) (k : Nat) (hf : ∀ x, (f x).length = k) (l : List α) : ∀ (i j : Nat) (x : α) (u : Value), l[i]? = some x → (f x)[j]? = some u → (l.flatMap f)[i * k + j]? = some u := by
 induction l with
 | nil => intro i j x u h; simp at h
 | cons y l ih =>
  intro i j x u h hu
  rw [List.flatMap_cons]
  have hj : j < k := by have := (List.getElem?_eq_some_iff.1 hu).1; rw [hf] at this; exact this
  cases i with
  | zero =>
   simp at h; subst h
   rw [Nat.zero_mul, Nat.zero_add, List.getElem?_append_left (by rw [hf]; exact hj)]; exact hu
  | succ i =>
   rw [Nat.succ_mul, List.getElem?_append_right (by rw [hf]; omega), hf, show i * k + k + j - k = i * k + j by omega]
   exact ih i j x u (by simpa using h) hu
theorem yyw {α : Type} (f : α → List Value) (k : Nat) (hf : ∀ x, (f x).length = k) (l : List α) : (l.flatMap f).length = l.length * k := by
 induction l with
 | nil => simp
 | cons y l ih => rw [List.flatMap_cons, List.length_append, hf, ih, List.length_cons, Nat.succ_mul]; omega
theorem row_alloc_off (W : World) (xs ys : List Value) (e size n cap o : Nat) (hn : n ≤ cap) (hc : cap ≤ 9223372036854775807) (hy : ys.length = n * size) (hxs : ∀ j u, ys[j]? = some u → xs[o + j]? = some u) :
  Row (W.alloc (.cells xs.toArray e)) (.slice (some ⟨W.heap.size, o, none⟩) n cap) size n ys := by
 refine ⟨_, cap, rfl, hn, by unfold maxLen; omega, hy, (fun h => by cases h), .inr ⟨_, o, rfl, by simp, fun j u hu => ?_⟩⟩
 have h1 : (W.alloc (.cells xs.toArray e)).heap[W.heap.size]? = some (.cells xs.toArray e) := by
  show (W.heap.push (.cells xs.toArray e))[W.heap.size]? = _
  rw [Array.getElem?_push, if_pos rfl]
 unfold World.cell?
 simp only [h1]
 have := hxs j u hu
 simpa using this
theorem row_alloc (W : World) (xs : List Value) (e size n : Nat) (hn : n ≤ 9223372036854775807) (hy : xs.length = n * size) :
  Row (W.alloc (.cells xs.toArray e)) (.slice (some ⟨W.heap.size, 0, none⟩) n n) size n xs :=
 row_alloc_off W xs xs e size n n 0 (Nat.le_refl _) hn hy (fun j u h => by rw [Nat.zero_add]; exact h)
def yti (k : IntKind) (w : World) (v : Value) (l : List Int) : Prop := Row w v 1 l.length (l.map (.int k))
theorem yti.below {k : IntKind} {w w' : World} {v : Value} {l : List Int} (h : yti k w v l) (hb : Below w.heap.size w w') : yti k w' v l := Row.below h hb
theorem yti.open {k : IntKind} {w : World} {v : Value} {l : List Int} (h : yti k w v l) : ∃ a cap, v = .slice a l.length cap ∧ l.length ≤ cap ∧ cap ≤ 9223372036854775807 ∧ (a = none → cap = 0) ∧
  (0 < l.length → ∃ g o, a = some ⟨g, o, none⟩ ∧ g < w.heap.size ∧ ∀ i x, l[i]? = some x → w.cell? ⟨g, o + i, none⟩ = some (.int k x)) := by
 obtain ⟨a, cap, hv, h1, h2, h3, h4⟩ := Row.open h
 refine ⟨a, cap, hv, h1, h2, h3, fun hn => ?_⟩
 obtain ⟨g, o, ha, hg, hc⟩ := h4 hn
 exact ⟨g, o, ha, hg, fun i x hx => hc i _ (by rw [List.getElem?_map, hx]; rfl)⟩
end
section
open Go.ChangeShapes Go.WideShapes Go.RowKit
def Rd {H : Type} (enc : TypeId × Value → H) (P : Program) (w : World) (t : TypeId) (cs : List Value) : Prop := ∃ fuel x, DataW.trod enc P w 0 (fun _ => true) true fuel t cs = some x
section
variable {H : Type} {enc : TypeId × Value → H} {P : Program} {w : World} {t : TypeId} {cs : List Value}
theorem ztc {k : IntKind} (ht : P.underlying t = some (.int k)) (h : Rd enc P w t cs) : ∃ n, cs = [.int k n] ∧ (Lit.int k n).wf = true := by
 obtain ⟨fuel, x, h⟩ := h
 obtain ⟨n, h1, _, h2⟩ := DataW.trod_int ht h
 exact ⟨n, h1, h2⟩
theorem wf64 {n : Int} (h : (Lit.int .i64 n).wf = true) : -9223372036854775808 ≤ n ∧ n ≤ 9223372036854775807 := by
 simp only [Lit.wf, Bool.and_eq_true, decide_eq_true_eq] at h
 have e1 : IntKind.i64.min = -9223372036854775808 := by decide
 have e2 : IntKind.i64.max = 9223372036854775807 := by decide
 omega
theorem ymp (ht : P.underlying t = some (.int .i64)) (h : Rd enc P w t cs) : ∃ n, cs = [.int .i64 n] ∧ -9223372036854775808 ≤ n ∧ n ≤ 9223372036854775807 := by
 obtain ⟨n, h1, h2⟩ := ztc ht h
 exact ⟨n, h1, wf64 h2⟩
theorem zbw (ht : P.underlying t = some .string) (h : Rd enc P w t cs) : ∃ s : ByteArray, cs = [.string s] ∧ s.size ≤ maxLen := by
 obtain ⟨fuel, x, h⟩ := h
 obtain ⟨s, h1, _, h2⟩ := DataW.trod_string ht h
 exact ⟨s, h1, h2⟩
theorem yqd {fs : Array Field} (ht : P.underlying t = some (.struct fs)) (h : Rd enc P w t cs) :
  cs.length = P.cellsOf t ∧ ∀ (i : Nat) (f : Field), fs[i]? = some f → Rd enc P w f.type ((cs.drop f.offset).take (P.cellsOf f.type)) := by
 obtain ⟨fuel, x, h⟩ := h
 obtain ⟨xs, n, _, _, h1, h2, h3⟩ := DataW.trod_struct ht h
 refine ⟨h1, fun i f hf => ?_⟩
 have hi : i < xs.length := by rw [h2]; exact (Array.getElem?_eq_some_iff.1 hf).1
 exact ⟨n, xs[i], by rw [h3 i f hf, List.getElem?_eq_getElem hi]⟩
theorem rd_slice {e : TypeId} (ht : P.underlying t = some (.slice e)) (h : Rd enc P w t cs) :
  cs = [.slice none 0 0] ∨ ∃ (a : Addr) (len cap : Nat), cs = [.slice (some a) len cap] ∧ len ≤ cap ∧ cap ≤ maxLen ∧
   ∀ i, i < len → ∃ cs', cs'.length = P.cellsOf e ∧ (∀ j, j < P.cellsOf e → w.cell? ((a.add (i * P.cellsOf e)).add j) = cs'[j]?) ∧ Rd enc P w e cs' := by
 obtain ⟨fuel, x, h⟩ := h
 rcases Deep.open_slice ht h with ⟨h0, _⟩ | ⟨a, len, cap, m, n, D, Pl, h1, _, h2, h3, h4, _, h5⟩
 ·exact .inl h0
 ·refine .inr ⟨a, len, cap, h1, h2, h3, fun i hi => ?_⟩
  have hm : m = cap := by simpa using h4
  obtain ⟨cs', h6, h7⟩ := h5 i (by omega)
  obtain ⟨_, h8, h9⟩ := World.cells?_some h6
  exact ⟨cs', h8, h9, ⟨n, _, h7⟩⟩
end
def Seq {α : Type} (R : List Value → α → Prop) (size : Nat) (w : World) (v : Value) (l : List α) : Prop :=
 ∃ xs, Row w v size l.length xs ∧ ∀ i x, l[i]? = some x → R ((xs.drop (i * size)).take size) x
theorem Seq.below {α : Type} {R R' : List Value → α → Prop} {size : Nat} {w w' : World} {v : Value} {l : List α} (h : Seq R size w v l) (hb : Below w.heap.size w w') (hR : ∀ cs x, R cs x → R' cs x) : Seq R' size w' v l := by
 obtain ⟨xs, h1, h2⟩ := h
 exact ⟨xs, h1.below hb, fun i x hx => hR _ _ (h2 i x hx)⟩
theorem Seq.imp {α : Type} {R R' : List Value → α → Prop} {size : Nat} {w : World} {v : Value} {l : List α} (h : Seq R size w v l) (hR : ∀ cs x, x ∈ l → R cs x → R' cs x) : Seq R' size w v l := by
 obtain ⟨xs, h1, h2⟩ := h
 exact ⟨xs, h1, fun i x hx => hR _ _ (List.mem_of_getElem? hx) (h2 i x hx)⟩
theorem flat_chunk (f : Nat → List Value) (size : Nat) (hf : ∀ i, (f i).length = size) (n i : Nat) (hi : i < n) : (((List.range n).flatMap f).drop (i * size)).take size = f i := by
 apply List.ext_getElem?
 intro j
 rw [List.getElem?_take]
 split
 ·rename_i hj
  rw [List.getElem?_drop]
  obtain ⟨u, hu⟩ : ∃ u, (f i)[j]? = some u := ⟨_, List.getElem?_eq_getElem (by rw [hf]; exact hj)⟩
  rw [hu]
  exact yok f size hf (List.range n) i j i u (by rw [List.getElem?_range hi]) hu
 ·rename_i hj
  rw [List.getElem?_eq_none (by rw [hf]; omega)]
theorem yuk {H : Type} {enc : TypeId × Value → H} {P : Program} {w : World} {t e : TypeId} {cs : List Value} {α : Type} {R : List Value → α → Prop} {size : Nat} (ht : P.underlying t = some (.slice e)) (hs : P.cellsOf e = size) (h0 : 0 < size)
  (hR : ∀ cs, Rd enc P w e cs → ∃ x, R cs x) (h : Rd enc P w t cs) : ∃ v l, cs = [v] ∧ Seq R size w v l := by
 rcases rd_slice ht h with rfl | ⟨a, len, cap, rfl, h1, h2, h3⟩
 ·exact ⟨_, [], rfl, [], row_nil w size, fun i x hx => by simp at hx⟩
 ·rw [hs] at h3
  by_cases hl : len = 0
  ·subst hl
   exact ⟨_, [], rfl, [], ⟨_, cap, rfl, by simp, h2, by simp, (fun h => by cases h), .inl rfl⟩, fun i x hx => by simp at hx⟩
  have hch : ∀ i : Nat, ∃ q : List Value, q.length = size ∧ (i < len → (∀ j, j < size → w.cell? ((a.add (i * size)).add j) = q[j]?) ∧ ∃ x, R q x) := by
   intro i
   by_cases hi : i < len
   ·obtain ⟨c, c1, c2, c3⟩ := h3 i hi
    exact ⟨c, c1, fun _ => ⟨c2, hR c c3⟩⟩
   ·exact ⟨List.replicate size undef, by simp, fun h => absurd h hi⟩
  obtain ⟨f, hf⟩ := Classical.axiomOfChoice hch
  obtain ⟨x0, _⟩ := ((hf 0).2 (by omega)).2
  have hx : ∀ i : Nat, ∃ x : α, i < len → R (f i) x := by
   intro i
   by_cases hi : i < len
   ·obtain ⟨x, hx⟩ := ((hf i).2 hi).2
    exact ⟨x, fun _ => hx⟩
   ·exact ⟨x0, fun h => absurd h hi⟩
  obtain ⟨g, hg⟩ := Classical.axiomOfChoice hx
  have hc0 : w.cell? a = (f 0)[0]? := by
   have := ((hf 0).2 (by omega)).1 0 h0
   simpa [Addr.add] using this
  obtain ⟨u0, hu0⟩ : ∃ u, (f 0)[0]? = some u := ⟨_, List.getElem?_eq_getElem (by rw [(hf 0).1]; exact h0)⟩
  rw [hu0] at hc0
  obtain ⟨b, o, sp⟩ := a
  have hsp : sp = none := by
   unfold World.cell? at hc0
   split at hc0
   ·split at hc0
    ·cases hc0
    ·rename_i hsp; simpa using hsp
   ·cases hc0
  subst hsp
  have hb : b < w.heap.size := by
   rcases Nat.lt_or_ge b w.heap.size with h | h
   ·exact h
   ·unfold World.cell? at hc0; simp [Array.getElem?_eq_none h] at hc0
  have hadd : ∀ n : Nat, (⟨b, o, none⟩ : Addr).add n = ⟨b, o + n, none⟩ := by intro n; unfold Addr.add; split <;> simp_all
  refine ⟨_, (List.range len).map g, rfl, (List.range len).flatMap f, ?_, ?_⟩
  ·rw [List.length_map, List.length_range]
   refine ⟨_, cap, rfl, h1, h2, by rw [yyw f size (fun i => (hf i).1), List.length_range], (fun h => by cases h), .inr ⟨b, o, rfl, hb, fun j u hu => ?_⟩⟩
   have hj : j < len * size := by
    have := (List.getElem?_eq_some_iff.1 hu).1
    rw [yyw f size (fun i => (hf i).1), List.length_range] at this; exact this
   have hi : j / size < len := (Nat.div_lt_iff_lt_mul h0).2 hj
   have hr : j % size < size := Nat.mod_lt _ h0
   have hjd : j / size * size + j % size = j := by rw [Nat.mul_comm]; exact Nat.div_add_mod j size
   have c := ((hf (j / size)).2 hi).1 (j % size) hr
   obtain ⟨u', hu'⟩ : ∃ u, (f (j / size))[j % size]? = some u := ⟨_, List.getElem?_eq_getElem (by rw [(hf _).1]; exact hr)⟩
   have e1 := yok f size (fun i => (hf i).1) (List.range len) (j / size) (j % size) (j / size) u' (by rw [List.getElem?_range hi]) hu'
   rw [hjd, hu] at e1
   cases e1
   rw [hadd] at c
   have h5 : (⟨b, o + j / size * size, none⟩ : Addr).add (j % size) = ⟨b, o + j, none⟩ := by
    have : (⟨b, o + j / size * size, none⟩ : Addr).add (j % size) = ⟨b, o + j / size * size + j % size, none⟩ := by unfold Addr.add; split <;> simp_all
    rw [this, Nat.add_assoc, hjd]
   rw [h5] at c
   rw [c, hu']
  ·intro i x hx
   have hi : i < len := by
    have := (List.getElem?_eq_some_iff.1 hx).1
    simpa using this
   rw [List.getElem?_map, List.getElem?_range hi] at hx
   simp at hx
   subst hx
   rw [flat_chunk f size (fun i => (hf i).1) len i hi]
   exact hg i hi
theorem zgs {α : Type} {R : List Value → α → Prop} {size : Nat} {w : World} {v : Value} {l : List α} (f : α → List Value) (hf : ∀ x, (f x).length = size) (h0 : 0 < size) (h : Seq R size w v l) (hR : ∀ cs x, R cs x → cs = f x) : Row w v size l.length (l.flatMap f) := by
 obtain ⟨xs, ⟨a, cap, hv, h1, h2, h3, h4, h5⟩, h6⟩ := h
 refine ⟨a, cap, hv, h1, h2, yyw f size hf l, h4, ?_⟩
 rcases h5 with h5 | ⟨g, o, ha, hg, hc⟩
 ·exact .inl h5
 ·refine .inr ⟨g, o, ha, hg, fun j u hu => hc j u ?_⟩
  have hj : j < l.length * size := by
   have := (List.getElem?_eq_some_iff.1 hu).1
   rw [yyw f size hf] at this; exact this
  have hi : j / size < l.length := (Nat.div_lt_iff_lt_mul h0).2 hj
  have hr : j % size < size := Nat.mod_lt _ h0
  have hjd : j / size * size + j % size = j := by rw [Nat.mul_comm]; exact Nat.div_add_mod j size
  have e1 := yok f size hf l (j / size) (j % size) l[j / size] ((f l[j / size])[j % size]'(by rw [hf]; exact hr)) (List.getElem?_eq_getElem hi) (List.getElem?_eq_getElem (by rw [hf]; exact hr))
  rw [hjd, hu] at e1
  cases e1
  have e2 := hR _ _ (h6 (j / size) _ (List.getElem?_eq_getElem hi))
  have e3 : ((xs.drop (j / size * size)).take size)[j % size]? = some ((f l[j / size])[j % size]'(by rw [hf]; exact hr)) := by rw [e2]; exact List.getElem?_eq_getElem (by rw [hf]; exact hr)
  rw [List.getElem?_take, if_pos hr, List.getElem?_drop, hjd] at e3
  exact e3
theorem zvd {H : Type} {enc : TypeId × Value → H} {P : Program} {w : World} {t : TypeId} {v : Value} {d : DataW H} {ps : List MemPlace} (h : DataW.Trod enc P w 0 (fun _ => true) true t v d ps) : Rd enc P w t v.cells.toList := by
 obtain ⟨fuel, h⟩ := h
 exact ⟨fuel, _, h⟩
theorem open_seq_arg {H : Type} {enc : TypeId × Value → H} {P : Program} {w : World} {base : Nat} {t e : TypeId} {v : Value} {d : DataW H} {ps : List MemPlace} {α : Type} {R : List Value → α → Prop} {size : Nat} (ht : P.underlying t = some (.slice e)) (hs : P.cellsOf e = size) (h0 : 0 < size)
  (hR : ∀ cs, Rd enc P w e cs → ∃ x, R cs x) (hv : Value.okWide P w .any base t v) (h : DataW.Trod enc P w 0 (fun _ => true) true t v d ps) : ∃ l, Seq R size w v l := by
 obtain ⟨a, len, cap, rfl⟩ := okWide_slice ht hv
 obtain ⟨v', l, h1, h2⟩ := yuk ht hs h0 hR (zvd h)
 simp [Value.cells] at h1
 subst h1
 exact ⟨l, h2⟩
def yzs (n : Int) : Prop := -9223372036854775808 ≤ n ∧ n ≤ 9223372036854775807
end
section
open Go.RowKit
theorem yrc {α : Type} {f : α → List AV} {R : List Value → α → Prop} {w : World} {lv : Live} {size : Nat} {l : List α} {v : Value} (h : Seq R size w v l) (hf : ∀ x, (f x).length = size) (hfc : ∀ x, ∀ c ∈ f x, yfh c = true)
  (hR : ∀ x ∈ l, ∀ cs, R cs x → yck (okW w) w (fun _ => none) (f x) cs) : Rel (okW w) w lv (.sl size (l.map f)) v := by
 obtain ⟨xs, ⟨a, cap, rfl, h1, h2, h3, h4, h5⟩, h6⟩ := h
 have hget : ∀ (i j : Nat) (row : List AV) (c : AV), (l.map f)[i]? = some row → row[j]? = some c → ∃ x, l[i]? = some x ∧ row = f x ∧ ∃ u, xs[i * size + j]? = some u ∧ Rel (okW w) w (fun _ => none) c u := by
  intro i j row c hrow hc
  rw [List.getElem?_map] at hrow
  cases hx : l[i]? with
  | none => simp [hx] at hrow
  | some x =>
   simp only [hx, Option.map_some, Option.some.injEq] at hrow
   subst hrow
   have hj : j < size := by have := (List.getElem?_eq_some_iff.1 hc).1; rw [hf] at this; exact this
   have hi := (List.getElem?_eq_some_iff.1 hx).1
   have hlt : i * size + j < xs.length := by
    have : i * size + size ≤ l.length * size := by rw [← Nat.succ_mul]; exact Nat.mul_le_mul_right _ hi
    omega
   refine ⟨x, rfl, rfl, xs[i * size + j], List.getElem?_eq_getElem hlt, ?_⟩
   refine (hR x (List.mem_of_getElem? hx) _ (h6 i x hx)).2 j c _ hc ?_
   rw [List.getElem?_take, if_pos hj, List.getElem?_drop, List.getElem?_eq_getElem hlt]
 have hgo : ∃ g o, l ≠ [] → a = some ⟨g, o, none⟩ ∧ g < w.heap.size ∧ ∀ (j : Nat) (u : Value), xs[j]? = some u → w.cell? ⟨g, o + j, none⟩ = some u := by
  rcases h5 with h5 | ⟨g, o, q1, q2, q3⟩
  ·exact ⟨0, 0, fun h => absurd (List.eq_nil_of_length_eq_zero h5) h⟩
  ·exact ⟨g, o, fun _ => ⟨q1, q2, q3⟩⟩
 obtain ⟨g, o, hgo⟩ := hgo
 have := Rel.sl (ok := okW w) (w := w) (lv := lv) (size := size) (rows := l.map f) a cap (fun i j => xs.getD (i * size + j) undef) g o (by simpa using h1) h2 h4 (fun row hr => by obtain ⟨x, _, rfl⟩ := List.mem_map.1 hr; exact hf x)
  (fun hne => by have := hgo (by intro h; simp [h] at hne); exact ⟨this.1, this.2.1⟩) (fun i j row c hrow hc => by
   obtain ⟨x, hx, rfl, u, hu, hr⟩ := hget i j row c hrow hc
   have hne : l ≠ [] := by intro h; simp [h] at hx
   refine ⟨?_, hfc x c (List.mem_of_getElem? hc)⟩
   rw [Nat.add_assoc, (hgo hne).2.2 _ u hu]
   simp [hu]) (fun i j row c hrow hc => by
   obtain ⟨x, hx, rfl, u, hu, hr⟩ := hget i j row c hrow hc
   have : xs.getD (i * size + j) undef = u := by simp [hu]
   rw [this]; exact hr)
 simpa using this
theorem flat_slice {α : Type} {g : α → List Value} {size : Nat} (hg : ∀ x, (g x).length = size) {l : List α} {i : Nat} {x : α} (hx : l[i]? = some x) : ((l.flatMap g).drop (i * size)).take size = g x := by
 apply List.ext_getElem?
 intro j
 rw [List.getElem?_take]
 by_cases hj : j < size
 ·rw [if_pos hj, List.getElem?_drop]
  have hu : (g x)[j]? = some ((g x)[j]'(by rw [hg]; exact hj)) := List.getElem?_eq_getElem _
  rw [hu]
  exact yok g size hg l i j x _ hx hu
 ·rw [if_neg hj, List.getElem?_eq_none (by rw [hg]; omega)]
theorem seq_of_row {α : Type} {g : α → List Value} {size : Nat} (hg : ∀ x, (g x).length = size) {w : World} {v : Value} {l : List α} (h : Row w v size l.length (l.flatMap g)) : Seq (fun cs x => cs = g x) size w v l :=
 ⟨_, h, fun i x hx => flat_slice hg hx⟩
theorem relAll_v {ok : Nat → Prop} {w : World} {lv : Live} (vs : List Value) : yck ok w lv (vs.map AV.v) vs := by
 refine ⟨by simp, fun i x u hx hu => ?_⟩
 rw [List.getElem?_map, hu] at hx
 cases hx
 exact .v u
theorem ygs {ok : Nat → Prop} {w : World} {lv : Live} : yck ok w lv [] [] := ⟨rfl, fun i x u hx hu => by simp at hx⟩
theorem yct {ok : Nat → Prop} {w : World} {lv : Live} {a : AV} {v : Value} {xs : List AV} {vs : List Value} (h : Rel ok w lv a v) (t : yck ok w lv xs vs) : yck ok w lv (a :: xs) (v :: vs) := by
 refine ⟨by simp [t.1], fun i x u hx hu => ?_⟩
 cases i with
 | zero => simp at hx hu; subst hx hu; exact h
 | succ i => simp at hx hu; exact t.2 i x u hx hu
theorem zjb {w : World} {lv : Live} {α : Type} {g : α → List Value} {size : Nat} (hg : ∀ x, (g x).length = size) (h1 : ∀ x, ∀ u ∈ g x, u.oneCell' = true) {v : Value} {l : List α} (h : Row w v size l.length (l.flatMap g)) : Rel (okW w) w lv (.sl size (l.map fun x => (g x).map AV.v)) v :=
 yrc (seq_of_row hg h) (fun x => by simp [hg]) (fun x c hc => by
  obtain ⟨u, hu, rfl⟩ := List.mem_map.1 hc
  exact h1 x u hu) (fun x _ cs hc => by subst hc; exact relAll_v _)
theorem zit (w : World) : ∀ g, okW w g → g < w.heap.size := fun _ h => h
end
section
open Go.RowKit
def ypg : List Nat → Nat
 | [] => 0
 | a :: l => max a (ypg l)
def val (f : Int → Nat → Nat) : Ex → Nat
 | .lf t => f t.1 0
 | .un t a => f t.1 (val f a)
 | .bi t a b => f t.1 (max (val f a) (val f b))
 | .tr t a b c => f t.1 (max (val f a) (max (val f b) (val f c)))
def lev (f : Int → Nat → Nat) : List Tm → List Nat
 | [] => []
 | t :: l => f t.1 (ypg ((lev f l).take (ar t.1).toNat)) :: (lev f l).drop (ar t.1).toNat
theorem ywd (f : Int → Nat → Nat) (l : List Tm) : ∀ F, yfd l = some F → lev f l = F.map (val f) := by
 induction l with
 | nil => intro F h; simp [yfd] at h; subst h; rfl
 | cons t l ih =>
  intro F h
  simp only [yfd] at h
  cases hl : yfd l with
  | none => rw [hl] at h; cases h
  | some G =>
   have hG := ih G hl
   rw [hl] at h
   simp only at h
   simp only [lev, hG]
   by_cases a0 : ar t.1 = 0
   ·rw [if_pos a0] at h; cases h
    rw [a0]; simp [ypg, val]
   rw [if_neg a0] at h
   by_cases a1 : ar t.1 = 1
   ·rw [if_pos a1] at h
    match G, h with
    | a :: G, h => cases h; rw [a1]; simp [ypg, val]
   rw [if_neg a1] at h
   by_cases a2 : ar t.1 = 2
   ·rw [if_pos a2] at h
    match G, h with
    | a :: b :: G, h => cases h; rw [a2]; simp [ypg, val]
   rw [if_neg a2] at h
   by_cases a3 : ar t.1 = 3
   ·rw [if_pos a3] at h
    match G, h with
    | a :: b :: c :: G, h => cases h; rw [a3]; simp [ypg, val]
   rw [if_neg a3] at h; cases h
theorem yub (l : List Tm) (t : Tm) (F : List Ex) (h : yfd (t :: l) = some F) : ∃ G, yfd l = some G ∧ 0 ≤ ar t.1 ∧ (ar t.1).toNat ≤ G.length ∧ F.length = G.length - (ar t.1).toNat + 1 := by
 simp only [yfd] at h
 cases hl : yfd l with
 | none => rw [hl] at h; cases h
 | some G =>
  rw [hl] at h
  simp only at h
  by_cases a0 : ar t.1 = 0
  ·rw [if_pos a0] at h; cases h; exact ⟨G, rfl, by omega, by rw [a0]; simp, by rw [a0]; simp⟩
  rw [if_neg a0] at h
  by_cases a1 : ar t.1 = 1
  ·rw [if_pos a1] at h
   match G, h with
   | a :: G, h => cases h; exact ⟨_, rfl, by omega, by rw [a1]; simp, by rw [a1]; simp⟩
  rw [if_neg a1] at h
  by_cases a2 : ar t.1 = 2
  ·rw [if_pos a2] at h
   match G, h with
   | a :: b :: G, h => cases h; exact ⟨_, rfl, by omega, by rw [a2]; simp, by rw [a2]; simp⟩
  rw [if_neg a2] at h
  by_cases a3 : ar t.1 = 3
  ·rw [if_pos a3] at h
   match G, h with
   | a :: b :: c :: G, h => cases h; exact ⟨_, rfl, by omega, by rw [a3]; simp, by rw [a3]; simp⟩
  rw [if_neg a3] at h; cases h
theorem forest_suffix (l : List Tm) : ∀ (k : Nat) (F : List Ex), yfd l = some F → ∃ G, yfd (l.drop k) = some G := by
 induction l with
 | nil => intro k F h; simp [yfd]
 | cons t l ih =>
  intro k F h
  cases k with
  | zero => exact ⟨F, h⟩
  | succ k =>
   obtain ⟨G, hG, _⟩ := yub l t F h
   exact ih k G hG
def yhx : Int → Nat → Nat := fun _ g => g + 1
def yns : Int → Nat → Nat := fun op g => if ymb op then g + 1 else g
theorem val_depth (E : Ex) : val yhx E = E.dp := by
 induction E with
 | lf t => rfl
 | un t a iha => simp only [val, Ex.dp, iha, yhx]
 | bi t a b iha ihb => simp only [val, Ex.dp, iha, ihb, yhx]
 | tr t a b c iha ihb ihc => simp only [val, Ex.dp, iha, ihb, ihc, yhx]
theorem agg_ar {op : Int} (h : ymb op = true) : ar op = 1 := by
 simp [ymb] at h
 unfold ar; rw [if_neg (by omega), if_neg (by omega), if_pos (by omega)]
theorem yxg {op : Int} (h : ar op ≠ 1) : ymb op = false := by
 cases hb : ymb op
 ·rfl
 ·exact absurd (agg_ar hb) h
theorem val_nest (E : Ex) : E.ok → val yns E = E.ns := by
 induction E with
 | lf t => intro h; have h' : ar t.1 = 0 := h; simp only [val, Ex.ns, yns, yxg (op := t.1) (by omega)]; rfl
 | un t a iha => intro ⟨h, ha⟩; simp only [val, Ex.ns, iha ha, yns]
 | bi t a b iha ihb => intro ⟨h, ha, hb⟩; simp only [val, Ex.ns, iha ha, ihb hb, yns, yxg (op := t.1) (by omega)]; rfl
 | tr t a b c iha ihb ihc => intro ⟨h, ha, hb, hc⟩; simp only [val, Ex.ns, iha ha, ihb hb, ihc hc, yns, yxg (op := t.1) (by omega)]; rfl
abbrev Open := List (Nat × Bool)
def yhw (k : Nat) (b : Bool) : Open → Open
 | [] => if k = 0 then [] else [(k, b)]
 | (x, c) :: S => if k = 0 then yhw (x - 1) c S else (k, b) :: (x, c) :: S
def zpw : Open → Open
 | [] => []
 | (x, c) :: S => yhw (x - 1) c S
def cnt (S : Open) : Nat := (S.filter (·.2)).length
structure Lev where
 S : Open
 d : Nat
 n : Nat
def ylm (s : Lev) (t : Tm) : Lev :=
 ⟨yhw (ar t.1).toNat (ymb t.1) s.S, max s.d (s.S.length + 1), max s.n (cnt (((ar t.1).toNat, ymb t.1) :: s.S))⟩
def zsb (s : Lev) (l : List Tm) : Lev := l.foldl ylm s
theorem ysu (s : Lev) (l m : List Tm) : zsb s (l ++ m) = zsb (zsb s l) m := by unfold zsb; rw [List.foldl_append]
theorem zaz (s : Lev) (t : Tm) (l : List Tm) : zsb s (t :: l) = zsb (ylm s t) l := rfl
theorem yng (k : Nat) (b : Bool) (S : Open) (h : k ≠ 0) : yhw k b S = (k, b) :: S := by
 cases S with
 | nil => simp [yhw, h]
 | cons x S => obtain ⟨x, c⟩ := x; simp [yhw, h]
theorem zad (b : Bool) (S : Open) : yhw 0 b S = zpw S := by
 cases S with
 | nil => simp [yhw, zpw]
 | cons x S => obtain ⟨x, c⟩ := x; simp [yhw, zpw]
theorem zhw (k : Nat) (b : Bool) (S : Open) : zpw ((k + 2, b) :: S) = (k + 1, b) :: S := by
 simp only [zpw]; rw [yng _ _ _ (by omega)]; rfl
theorem zmk (b : Bool) (S : Open) : zpw ((2, b) :: S) = (1, b) :: S := zhw 0 b S
theorem finS_three (b : Bool) (S : Open) : zpw ((3, b) :: S) = (2, b) :: S := zhw 1 b S
theorem zfs (b : Bool) (S : Open) : zpw ((1, b) :: S) = zpw S := by simp only [zpw]; exact zad b S
theorem yys (k : Nat) (b : Bool) (S : Open) : cnt ((k, b) :: S) = cnt S + (if b then 1 else 0) := by
 unfold cnt; cases b <;> simp
theorem levR_fl (E : Ex) : E.ok → ∀ s : Lev, zsb s E.fl = ⟨zpw s.S, max s.d (s.S.length + E.dp), max s.n (cnt s.S + E.ns)⟩ := by
 induction E with
 | lf t =>
  intro h s
  have h' : ar t.1 = 0 := h
  show ylm s t = _
  unfold ylm
  rw [h', yxg (op := t.1) (by omega)]
  simp only [Int.toNat_zero, zad, yys, Ex.dp, Ex.ns]; rfl
 | un t a iha =>
  intro ⟨h, ha⟩ s
  simp only [Ex.fl, zaz]
  rw [iha ha]
  unfold ylm
  rw [h]
  simp only [Int.toNat_one, yng 1 _ _ (by omega), zfs, List.length_cons, yys, Ex.dp, Ex.ns]
  congr 1
  ·omega
  ·split <;> omega
 | bi t a b iha ihb =>
  intro ⟨h, ha, hb⟩ s
  simp only [Ex.fl, zaz, ysu]
  rw [iha ha, ihb hb]
  unfold ylm
  rw [h, yxg (op := t.1) (by omega)]
  simp only [show (2 : Int).toNat = 2 from rfl, yng 2 _ _ (by omega), zmk, zfs, List.length_cons, yys, Ex.dp, Ex.ns]
  simp only [Lev.mk.injEq, Bool.false_eq_true, if_false, true_and]
  omega
 | tr t a b c iha ihb ihc =>
  intro ⟨h, ha, hb, hc⟩ s
  simp only [Ex.fl, zaz, ysu]
  rw [iha ha, ihb hb, ihc hc]
  unfold ylm
  rw [h, yxg (op := t.1) (by omega)]
  simp only [show (3 : Int).toNat = 3 from rfl, yng 3 _ _ (by omega), finS_three, zmk, zfs, List.length_cons, yys, Ex.dp, Ex.ns]
  simp only [Lev.mk.injEq, Bool.false_eq_true, if_false, true_and]
  omega
end
section
open Go.RowKit
def zoq (op : Int) : Bool := decide (11 ≤ op) && decide (op ≤ 17)
def ymj (kinds : List Int) (t : Tm) : Int :=
 if t.1 = 2 ∨ t.1 = 3 ∨ t.1 = 10 ∨ t.1 = 15 then 2 else if t.1 = 4 ∨ t.1 = 11 ∨ t.1 = 17 then 3 else if t.1 = 5 ∨ t.1 = 12 then kinds.getD t.2.toNat 0 else 1
def ty1 (op a : Int) : Int :=
 if op = 19 ∨ op = 20 ∨ op = 21 then (if a = 2 then 2 else 0) else if op = 22 then (if a = 2 then 1 else 0) else if op = 23 then (if a = 2 then 3 else 0) else (if a = 1 then 1 else 0)
def ty2 (op a b : Int) : Int :=
 if op = 35 ∨ op = 36 then (if a = b ∧ a ≠ 0 then 2 else 0) else if op = 41 ∨ op = 42 then (if a = 2 ∧ b = 2 then 2 else 0) else if a = 1 ∧ b = 1 then (if 37 ≤ op ∧ op ≤ 40 then 2 else 1) else 0
def ty3 (a b c : Int) : Int := if a = 2 ∧ b = c then b else 0
def ty (kinds : List Int) : Bool → Ex → Int
 | bound, .lf t => if zoq t.1 && !bound then 0 else ymj kinds t
 | bound, .un t a => ty1 t.1 (ty kinds (bound || ymb t.1) a)
 | bound, .bi t a b => ty2 t.1 (ty kinds bound a) (ty kinds bound b)
 | bound, .tr _ a b c => ty3 (ty kinds bound a) (ty kinds bound b) (ty kinds bound c)
def ymi (kinds : List Int) : Bool := kinds.all fun k => decide (k = 1) || (decide (k = 2) || decide (k = 3))
def ofF (l : List Tm) (kinds : List Int) (bound : Bool) : Int × Int :=
 if 6 < kinds.length then (0, 7) else if ymi kinds = false then (0, 7) else if yco l kinds.length = false then (0, 7) else
 match yfx l with
 | none => (0, 7)
 | some E => if ty kinds bound E = 0 then (0, 6) else (ty kinds bound E, 0)
theorem ofF_many (l : List Tm) (kinds : List Int) (bound : Bool) (h : 6 < kinds.length) : ofF l kinds bound = (0, 7) := by unfold ofF; rw [if_pos h]
theorem ofF_kinds (l : List Tm) (kinds : List Int) (bound : Bool) (h : ymi kinds = false) : ofF l kinds bound = (0, 7) := by unfold ofF; rw [if_pos h]; split <;> rfl
theorem ofF_invalid (l : List Tm) (kinds : List Int) (bound : Bool) (h : yco l kinds.length = false) : ofF l kinds bound = (0, 7) := by unfold ofF; rw [if_pos h]; split <;> (try split) <;> rfl
theorem zsy (l : List Tm) (kinds : List Int) (bound : Bool) (E : Ex) (h6 : ¬ 6 < kinds.length) (hk : ymi kinds = true) (hv : yco l kinds.length = true) (hp : yfx l = some E) :
  ofF l kinds bound = if ty kinds bound E = 0 then (0, 6) else (ty kinds bound E, 0) := by
 unfold ofF; rw [if_neg h6, if_neg (by simp [hk]), if_neg (by simp [hv]), hp]
theorem zcr {l : List Tm} {vars : Int} (h : yco l vars = true) : ∃ E, yfx l = some E ∧ E.ok ∧ E.fl = l ∧ l.length ≤ 200 ∧ l.all (yhl vars) = true ∧ E.dp ≤ 24 ∧ E.ns ≤ 2 := by
 unfold yco at h
 cases hp : yfx l with
 | none => rw [hp] at h; cases h
 | some E =>
  rw [hp] at h
  simp only [Bool.and_eq_true, decide_eq_true_eq] at h
  obtain ⟨h1, h2⟩ := yfy hp
  exact ⟨E, rfl, h1, h2, h.1, h.2.1, h.2.2.1, h.2.2.2⟩
end
end Go.Proofs.YtefiainojfeagaaGreatDoor
