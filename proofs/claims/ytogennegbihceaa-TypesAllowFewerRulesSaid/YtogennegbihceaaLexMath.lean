/- What the lexer computes, on lists of bytes: plain definitions and small facts; no program. -/
import Derived.Below
namespace Go.Proofs.Ytogennegbihceaa
open Go.RowKit

def skipL : Bool → List UInt8 → Nat
  | _, [] => 0
  | true, c :: r => if c = 10 then 1 + skipL false r else 1 + skipL true r
  | false, c :: r => if c = 32 ∨ c = 9 ∨ c = 10 ∨ c = 13 then 1 + skipL false r else if c = 35 then 1 + skipL true r else 0

def bytesFrom (s : ByteArray) (k : Nat) : List UInt8 := s.data.toList.drop k
def skipTo (s : ByteArray) (b : Bool) (a : Nat) : Nat := a + skipL b (bytesFrom s a)

theorem bytesFrom_lt (s : ByteArray) (k : Nat) (h : k < s.size) : bytesFrom s k = s[k] :: bytesFrom s (k + 1) := by
  unfold bytesFrom
  rw [List.drop_eq_getElem_cons (by simpa using h)]; rfl
theorem bytesFrom_ge (s : ByteArray) (k : Nat) (h : s.size ≤ k) : bytesFrom s k = [] := by
  unfold bytesFrom
  exact List.drop_eq_nil_of_le (by simpa using h)
theorem bytesFrom_drop (s : ByteArray) (k n : Nat) : (bytesFrom s k).drop n = bytesFrom s (k + n) := by
  unfold bytesFrom; rw [List.drop_drop]
theorem bytesFrom_length (s : ByteArray) (k : Nat) : (bytesFrom s k).length = s.size - k := by
  unfold bytesFrom; simp
theorem skipTo_blank (s : ByteArray) (k : Nat) (h : k < s.size) (hc : s[k] = 32 ∨ s[k] = 9 ∨ s[k] = 10 ∨ s[k] = 13) : skipTo s false k = skipTo s false (k + 1) := by
  unfold skipTo; rw [bytesFrom_lt s k h, skipL, if_pos hc]; omega
theorem skipTo_hash (s : ByteArray) (k : Nat) (h : k < s.size) (hc : s[k] = 35) : skipTo s false k = skipTo s true k := by
  unfold skipTo; rw [bytesFrom_lt s k h, skipL, skipL, if_neg (by rw [hc]; decide), if_pos hc, if_neg (by rw [hc]; decide)]
theorem skipTo_stop (s : ByteArray) (k : Nat) (h : k < s.size) (hc : ¬ (s[k] = 32 ∨ s[k] = 9 ∨ s[k] = 10 ∨ s[k] = 13)) (h35 : ¬ s[k] = 35) : skipTo s false k = k := by
  unfold skipTo; rw [bytesFrom_lt s k h, skipL, if_neg hc, if_neg h35]; rfl
theorem skipTo_in (s : ByteArray) (k : Nat) (h : k < s.size) (hc : ¬ s[k] = 10) : skipTo s true k = skipTo s true (k + 1) := by
  unfold skipTo; rw [bytesFrom_lt s k h, skipL, if_neg hc]; omega
theorem skipTo_nl (s : ByteArray) (k : Nat) (h : k < s.size) (hc : s[k] = 10) : skipTo s true k = skipTo s false k := by
  unfold skipTo; rw [bytesFrom_lt s k h, skipL, skipL, if_pos hc, if_pos (by simp [hc])]
theorem skipTo_end (s : ByteArray) (k : Nat) (b : Bool) (h : s.size ≤ k) : skipTo s b k = k := by
  unfold skipTo; rw [bytesFrom_ge s k h]; cases b <;> rfl
theorem skipL_le (b : Bool) (r : List UInt8) : skipL b r ≤ r.length := by
  induction r generalizing b with
  | nil => cases b <;> simp [skipL]
  | cons c r ih =>
    have h1 := ih true
    have h2 := ih false
    cases b <;> simp only [skipL, List.length_cons] <;> repeat' split
    all_goals omega
theorem skipTo_bd (s : ByteArray) (b : Bool) (k : Nat) (h : k ≤ s.size) : k ≤ skipTo s b k ∧ skipTo s b k ≤ s.size := by
  have := skipL_le b (bytesFrom s k)
  rw [bytesFrom_length] at this
  unfold skipTo; omega

def letterB (c : UInt8) : Bool := (97 ≤ c && c ≤ 122) || (65 ≤ c && c ≤ 90)
def digitB (c : UInt8) : Bool := 48 ≤ c && c ≤ 57
def wordB (c : UInt8) : Bool := letterB c || digitB c || c == 95

/-- How many bytes at the head of a list are of a class. -/
def runL (p : UInt8 → Bool) : List UInt8 → Nat
  | [] => 0
  | c :: r => if p c then 1 + runL p r else 0
def runTo (p : UInt8 → Bool) (s : ByteArray) (a : Nat) : Nat := a + runL p (bytesFrom s a)
theorem runL_le (p : UInt8 → Bool) (r : List UInt8) : runL p r ≤ r.length := by
  induction r with
  | nil => simp [runL]
  | cons c r ih => simp only [runL, List.length_cons]; split <;> omega
theorem runTo_bd (p : UInt8 → Bool) (s : ByteArray) (k : Nat) (h : k ≤ s.size) : k ≤ runTo p s k ∧ runTo p s k ≤ s.size := by
  have := runL_le p (bytesFrom s k)
  rw [bytesFrom_length] at this
  unfold runTo; omega
theorem runTo_yes (p : UInt8 → Bool) (s : ByteArray) (k : Nat) (h : k < s.size) (hp : p s[k] = true) : runTo p s k = runTo p s (k + 1) := by
  unfold runTo; rw [bytesFrom_lt s k h, runL, if_pos hp]; omega
theorem runTo_no (p : UInt8 → Bool) (s : ByteArray) (k : Nat) (h : k < s.size) (hp : p s[k] = false) : runTo p s k = k := by
  unfold runTo; rw [bytesFrom_lt s k h, runL, if_neg (by simp [hp])]; rfl
theorem runTo_end (p : UInt8 → Bool) (s : ByteArray) (k : Nat) (h : s.size ≤ k) : runTo p s k = k := by
  unfold runTo; rw [bytesFrom_ge s k h]; rfl
theorem runTo_pos (p : UInt8 → Bool) (s : ByteArray) (k : Nat) (h : k < s.size) (hp : p s[k] = true) : k < runTo p s k := by
  rw [runTo_yes p s k h hp]; have := runTo_bd p s (k + 1) (by omega); omega

/-- One digit more. -/
def dig (v : Nat) (c : UInt8) : Nat := 10 * v + (c.toNat - 48)
/-- The value of digits. -/
def numL (v : Nat) (ds : List UInt8) : Nat := ds.foldl dig v
theorem numL_nil (v : Nat) : numL v [] = v := by unfold numL; rw [List.foldl_nil]
theorem numL_cons (v : Nat) (c : UInt8) (r : List UInt8) : numL v (c :: r) = numL (dig v c) r := by unfold numL; rw [List.foldl_cons]
theorem numL_snoc (v : Nat) (c : UInt8) (r : List UInt8) : numL v (r ++ [c]) = dig (numL v r) c := by unfold numL; rw [List.foldl_append, List.foldl_cons, List.foldl_nil]
theorem dig_ge (v : Nat) (c : UInt8) : 10 * v ≤ dig v c := by unfold dig; exact Nat.le_add_right _ _
theorem dig_le (v : Nat) (c : UInt8) (h : digitB c = true) : dig v c ≤ 10 * v + 9 := by
  simp only [digitB, Bool.and_eq_true, decide_eq_true_eq, UInt8.le_iff_toNat_le] at h
  have h3 : c.toNat ≤ 57 := h.2
  unfold dig
  generalize c.toNat = d at *
  omega
theorem numL_mono (r : List UInt8) : ∀ v : Nat, v ≤ numL v r := by
  induction r with
  | nil => intro v; rw [numL_nil]; exact Nat.le_refl _
  | cons c r ih =>
    intro v
    rw [numL_cons]
    have := dig_ge v c
    exact Nat.le_trans (by omega) (ih (dig v c))
theorem numL_pow (r : List UInt8) : ∀ v : Nat, v * 10 ^ r.length ≤ numL v r := by
  induction r with
  | nil => intro v; rw [numL_nil]; simp
  | cons c r ih =>
    intro v
    rw [numL_cons, List.length_cons, Nat.pow_succ, Nat.mul_comm (10 ^ r.length) 10, ← Nat.mul_assoc, Nat.mul_comm v 10]
    exact Nat.le_trans (Nat.mul_le_mul_right _ (dig_ge v c)) (ih (dig v c))
theorem numL_lt (r : List UInt8) : ∀ v : Nat, (∀ c ∈ r, digitB c = true) → numL v r < (v + 1) * 10 ^ r.length := by
  induction r with
  | nil => intro v _; rw [numL_nil]; simp
  | cons c r ih =>
    intro v hd
    have h1 := ih (dig v c) (fun c hc => hd c (List.mem_cons_of_mem _ hc))
    have h2 := dig_le v c (hd c (List.mem_cons_self ..))
    rw [numL_cons]
    refine Nat.lt_of_lt_of_le h1 ?_
    rw [List.length_cons, Nat.pow_succ, Nat.mul_comm (10 ^ r.length) 10, ← Nat.mul_assoc]
    exact Nat.mul_le_mul_right _ (by omega)

/-- The value of a number's digits, if they are permitted. -/
def numRes (ds : List UInt8) : Option Nat := if (1 < ds.length ∧ ds.head? = some 48) ∨ 1073741824 < numL 0 ds then none else some (numL 0 ds)

theorem numL_take (ds : List UInt8) (k v : Nat) : numL v (ds.take k) ≤ numL v ds := by
  have h : numL v ds = numL (numL v (ds.take k)) (ds.drop k) := by unfold numL; rw [← List.foldl_append, List.take_append_drop]
  rw [h]; exact numL_mono _ _
theorem numRes_big (ds : List UInt8) (k : Nat) (h : 1073741824 < numL 0 (ds.take k)) : numRes ds = none := by
  have := numL_take ds k 0
  unfold numRes; rw [if_pos (.inr (by omega))]
theorem numRes_zero (ds : List UInt8) (h : 1 < ds.length) (h0 : ds.head? = some 48) : numRes ds = none := by
  unfold numRes; rw [if_pos (.inl ⟨h, h0⟩)]
theorem numRes_ok (ds : List UInt8) (h : ¬ (1 < ds.length ∧ ds.head? = some 48)) (h0 : numL 0 ds ≤ 1073741824) : numRes ds = some (numL 0 ds) := by
  unfold numRes; rw [if_neg (fun hq => hq.elim h (fun h1 => by omega))]
theorem numRes_no (ds : List UInt8) (h0 : 1073741824 < numL 0 ds) : numRes ds = none := by
  unfold numRes; rw [if_pos (.inr h0)]
theorem numRes_long (ds : List UInt8) (hd : ∀ c ∈ ds, digitB c = true) (h : 10 < ds.length) : numRes ds = none := by
  cases ds with
  | nil => simp at h
  | cons c r =>
    by_cases h48 : c = 48
    · exact numRes_zero _ (by omega) (by simp [h48])
    · refine numRes_no _ ?_
      rw [numL_cons]
      have h1 := hd c (List.mem_cons_self ..)
      simp only [digitB, Bool.and_eq_true, decide_eq_true_eq, UInt8.le_iff_toNat_le] at h1
      have h2 : 1 ≤ dig 0 c := by
        have h3 : 48 ≤ c.toNat := h1.1
        have h4 : c.toNat ≠ 48 := fun h5 => h48 (by rw [← UInt8.toNat_inj]; exact h5)
        unfold dig
        generalize c.toNat = d at *
        omega
      have h5 := numL_pow r (dig 0 c)
      have h6 : 10 ^ 10 ≤ 10 ^ r.length := Nat.pow_le_pow_right (by omega) (by simp at h; omega)
      have h7 : 1 * 10 ^ r.length ≤ dig 0 c * 10 ^ r.length := Nat.mul_le_mul_right _ h2
      rw [Nat.one_mul] at h7
      have h8 : (10 : Nat) ^ 10 = 10000000000 := by decide
      rw [h8] at h6
      exact Nat.lt_of_lt_of_le (Nat.lt_of_lt_of_le (by decide) h6) (Nat.le_trans h7 h5)
theorem take_snoc (s : ByteArray) (k : Nat) (h : k < s.size) : (bytesFrom s 0).take (k + 1) = (bytesFrom s 0).take k ++ [s[k]] := by
  unfold bytesFrom
  rw [List.drop_zero, List.take_succ_eq_append_getElem (by simpa using h)]; rfl
theorem take_all (s : ByteArray) (k : Nat) (h : s.size ≤ k) : (bytesFrom s 0).take k = bytesFrom s 0 := by
  rw [List.take_of_length_le]; rw [bytesFrom_length]; omega
theorem mem_bytes (s : ByteArray) (k : Nat) (h : k < s.size) : s[k] ∈ bytesFrom s 0 := by
  unfold bytesFrom
  rw [List.drop_zero, Array.mem_toList_iff]
  exact Array.getElem_mem (xs := s.data) h
theorem head_bytes (s : ByteArray) (h : 0 < s.size) : (bytesFrom s 0).head? = some s[0] := by rw [bytesFrom_lt s 0 h]; rfl
theorem digit_bd (c : UInt8) (h : digitB c = true) : 48 ≤ c.toNat ∧ c.toNat ≤ 57 := by
  simpa [digitB, UInt8.le_iff_toNat_le] using h
theorem num_take_bd (ds : List UInt8) (k : Nat) (hd : ∀ c ∈ ds, digitB c = true) (h : ds.length ≤ 10) : numL 0 (ds.take k) ≤ 9999999999 := by
  have h1 := numL_lt (ds.take k) 0 (fun c hc => hd c (List.mem_of_mem_take hc))
  have h2 : 10 ^ (ds.take k).length ≤ 10 ^ 10 := Nat.pow_le_pow_right (by omega) (by rw [List.length_take]; omega)
  have h3 : (10 : Nat) ^ 10 = 10000000000 := by decide
  rw [h3] at h2
  rw [Nat.zero_add, Nat.one_mul] at h1
  omega
theorem num_step (s : ByteArray) (k : Nat) (h : k < s.size) : numL 0 ((bytesFrom s 0).take (k + 1)) = dig (numL 0 ((bytesFrom s 0).take k)) s[k] := by
  rw [take_snoc s k h, numL_snoc]
theorem dig_int (n : Nat) (c : UInt8) (h : 48 ≤ c.toNat) : ((dig n c : Nat) : Int) = 10 * (n : Int) + ((c.toNat : Int) - 48) := by unfold dig; omega

def sign2B (a b : UInt8) : Bool :=
  (a == 46 && b == 46) || (a == 45 && b == 62) || (a == 58 && b == 61) || (a == 38 && b == 38) || (a == 124 && b == 124) || (a == 61 && b == 61) || (a == 33 && b == 61) || (a == 60 && b == 61) || (a == 62 && b == 61)
def sign1B (a : UInt8) : Bool := [59, 58, 44, 40, 41, 46, 63, 60, 62, 43, 45, 42, 47, 37, 33].contains a
def signL : List UInt8 → Nat
  | a :: b :: _ => if sign2B a b then 2 else if sign1B a then 1 else 0
  | [a] => if sign1B a then 1 else 0
  | [] => 0
theorem signL_le (r : List UInt8) : signL r ≤ r.length := by
  match r with
  | [] => simp [signL]
  | [a] => simp only [signL, List.length_cons, List.length_nil]; split <;> omega
  | a :: b :: r => simp only [signL, List.length_cons]; repeat' split
                   all_goals omega

structure Tok where
  kind : Nat
  from_ : Nat
  to : Nat
  num : Nat

/-- The token at the head of a list: its kind, its length, its value; or the error. -/
def tokL (r : List UInt8) : Except Nat (Nat × Nat × Nat) :=
  match r with
  | [] => .error 4
  | c :: _ =>
    if letterB c then (if 24 < runL wordB r then .error 5 else .ok (1, runL wordB r, 0))
    else if digitB c then (match numRes (r.take (runL digitB r)) with | none => .error 2 | some v => .ok (2, runL digitB r, v))
    else if signL r = 0 then .error 4 else .ok (3, signL r, 0)

theorem runL_pos (p : UInt8 → Bool) (c : UInt8) (r : List UInt8) (h : p c = true) : 1 ≤ runL p (c :: r) := by
  simp [runL, h]
theorem tokL_bd {r : List UInt8} {k n v : Nat} (h : tokL r = .ok (k, n, v)) : 1 ≤ n ∧ n ≤ r.length ∧ v ≤ 1073741824 ∧ 1 ≤ k ∧ k ≤ 3 := by
  match r with
  | [] => simp [tokL] at h
  | c :: r =>
    simp only [tokL] at h
    have h1 := runL_le wordB (c :: r)
    have h2 := runL_le digitB (c :: r)
    have h3 := signL_le (c :: r)
    by_cases hl : letterB c = true
    · rw [if_pos hl] at h
      have h4 := runL_pos wordB c r (by simp [wordB, hl])
      split at h <;> simp at h
      omega
    · rw [if_neg hl] at h
      by_cases hd : digitB c = true
      · rw [if_pos hd] at h
        have h4 := runL_pos digitB c r hd
        generalize hq : numRes ((c :: r).take (runL digitB (c :: r))) = q at h
        cases q with
        | none => simp at h
        | some u =>
          simp only [numRes] at hq
          split at hq <;> simp at hq h
          omega
      · rw [if_neg hd] at h
        split at h <;> simp at h
        omega

def consTok (t : Tok) : Except (Nat × Nat) (List Tok) → Except (Nat × Nat) (List Tok)
  | .error e => .error e
  | .ok ts => .ok (t :: ts)

/-- The tokens of what is left of a text, from a place on, at most so many. -/
def scanL : Nat → Nat → List UInt8 → Except (Nat × Nat) (List Tok)
  | 0, p, r => if r.drop (skipL false r) = [] then .ok [] else .error (p + skipL false r, 3)
  | left + 1, p, r =>
    if r.drop (skipL false r) = [] then .ok [] else
    match tokL (r.drop (skipL false r)) with
    | .error e => .error (p + skipL false r, e)
    | .ok (k, n, v) => consTok ⟨k, p + skipL false r, p + skipL false r + n, v⟩ (scanL left (p + skipL false r + n) ((r.drop (skipL false r)).drop n))

def scanF (s : ByteArray) : Except (Nat × Nat) (List Tok) := if 16384 < s.size then .error (0, 3) else scanL 4096 0 (bytesFrom s 0)

def joinTok (out : List Tok) : Except (Nat × Nat) (List Tok) → Except (Nat × Nat) (List Tok)
  | .error e => .error e
  | .ok ts => .ok (out ++ ts)
theorem joinTok_cons (out : List Tok) (t : Tok) (x : Except (Nat × Nat) (List Tok)) : joinTok out (consTok t x) = joinTok (out ++ [t]) x := by
  cases x <;> simp [joinTok, consTok]
theorem joinTok_nil (x : Except (Nat × Nat) (List Tok)) : joinTok [] x = x := by cases x <;> rfl

/-- What is still to come of a scan that has collected 'out' and stands at 'p', ahead of blanks. -/
def restScan (s : ByteArray) (out : List Tok) (p : Nat) : Except (Nat × Nat) (List Tok) := joinTok out (scanL (4096 - out.length) p (bytesFrom s p))

theorem restScan_start (s : ByteArray) (h : s.size ≤ 16384) : scanF s = restScan s [] 0 := by
  unfold scanF restScan; rw [if_neg (by omega), joinTok_nil]; rfl
theorem drop_skip (s : ByteArray) (p : Nat) : (bytesFrom s p).drop (skipL false (bytesFrom s p)) = bytesFrom s (skipTo s false p) := by
  rw [bytesFrom_drop]; rfl
theorem bytesFrom_nil_iff (s : ByteArray) (k : Nat) : bytesFrom s k = [] ↔ s.size ≤ k := by
  rw [← List.length_eq_zero_iff, bytesFrom_length]; omega
theorem restScan_end (s : ByteArray) (out : List Tok) (p : Nat) (h : s.size ≤ skipTo s false p) : restScan s out p = .ok out := by
  unfold restScan
  cases hl : 4096 - out.length <;>
  · rw [scanL, drop_skip, if_pos ((bytesFrom_nil_iff _ _).2 h)]; simp [joinTok]
theorem restScan_full (s : ByteArray) (out : List Tok) (p : Nat) (h : skipTo s false p < s.size) (hn : out.length = 4096) : restScan s out p = .error (skipTo s false p, 3) := by
  unfold restScan
  rw [hn, show 4096 - 4096 = 0 from rfl, scanL, drop_skip, if_neg (by rw [bytesFrom_nil_iff]; omega)]; rfl
theorem restScan_err (s : ByteArray) (out : List Tok) (p e : Nat) (h : skipTo s false p < s.size) (hn : out.length < 4096) (ht : tokL (bytesFrom s (skipTo s false p)) = .error e) :
    restScan s out p = .error (skipTo s false p, e) := by
  unfold restScan
  obtain ⟨m, hm⟩ : ∃ m, 4096 - out.length = m + 1 := ⟨4096 - out.length - 1, by omega⟩
  rw [hm, scanL, drop_skip, if_neg (by rw [bytesFrom_nil_iff]; omega), ht]; rfl
theorem restScan_tok (s : ByteArray) (out : List Tok) (p k n v : Nat) (h : skipTo s false p < s.size) (hn : out.length < 4096) (ht : tokL (bytesFrom s (skipTo s false p)) = .ok (k, n, v)) :
    restScan s out p = restScan s (out ++ [⟨k, skipTo s false p, skipTo s false p + n, v⟩]) (skipTo s false p + n) := by
  unfold restScan
  obtain ⟨m, hm⟩ : ∃ m, 4096 - out.length = m + 1 := ⟨4096 - out.length - 1, by omega⟩
  rw [hm, scanL, drop_skip, if_neg (by rw [bytesFrom_nil_iff]; omega), ht]
  simp only [joinTok_cons, bytesFrom_drop]
  rw [show 4096 - (out ++ [(⟨k, skipTo s false p, skipTo s false p + n, v⟩ : Tok)]).length = m by simp; omega]
  rfl
end Go.Proofs.Ytogennegbihceaa
