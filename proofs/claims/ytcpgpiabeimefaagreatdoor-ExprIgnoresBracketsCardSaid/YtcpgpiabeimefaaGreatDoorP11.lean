/- Part 11 of the texts under ExprParses,ExprIsStable,ExprReadsBack,ExprIgnoresBrackets,ExprFormats,ExprBracketsEverything: joined, with what it needs alone. -/
import Derived.Below
import Derived.Lib.Strings
import Derived.Test.YtcpgpiabeimefaaGreatDoorP8
import Derived.Test.YtcpgpiabeimefaaGreatDoorP10
namespace Go.Proofs.YtcpgpiabeimefaaGreatDoor
open Go.RowKit

def ydk : Bool → List UInt8 → Nat
  | _, [] => 0
  | true, c :: r => if c = 10 then 1 + ydk false r else 1 + ydk true r
  | false, c :: r => if c = 32 ∨ c = 9 ∨ c = 10 ∨ c = 13 then 1 + ydk false r else if c = 35 then 1 + ydk true r else 0

def yal (s : ByteArray) (k : Nat) : List UInt8 := s.data.toList.drop k
def ybi (s : ByteArray) (b : Bool) (a : Nat) : Nat := a + ydk b (yal s a)

theorem ybq (s : ByteArray) (k : Nat) (h : k < s.size) : yal s k = s[k] :: yal s (k + 1) := by
  unfold yal
  rw [List.drop_eq_getElem_cons (by simpa using h)]; rfl
theorem bytesFrom_ge (s : ByteArray) (k : Nat) (h : s.size ≤ k) : yal s k = [] := by
  unfold yal
  exact List.drop_eq_nil_of_le (by simpa using h)
theorem bytesFrom_drop (s : ByteArray) (k n : Nat) : (yal s k).drop n = yal s (k + n) := by
  unfold yal; rw [List.drop_drop]
theorem ycf (s : ByteArray) (k : Nat) : (yal s k).length = s.size - k := by
  unfold yal; simp
theorem skipTo_blank (s : ByteArray) (k : Nat) (h : k < s.size) (hc : s[k] = 32 ∨ s[k] = 9 ∨ s[k] = 10 ∨ s[k] = 13) : ybi s false k = ybi s false (k + 1) := by
  unfold ybi; rw [ybq s k h, ydk, if_pos hc]; omega
theorem skipTo_hash (s : ByteArray) (k : Nat) (h : k < s.size) (hc : s[k] = 35) : ybi s false k = ybi s true k := by
  unfold ybi; rw [ybq s k h, ydk, ydk, if_neg (by rw [hc]; decide), if_pos hc, if_neg (by rw [hc]; decide)]
theorem skipTo_stop (s : ByteArray) (k : Nat) (h : k < s.size) (hc : ¬ (s[k] = 32 ∨ s[k] = 9 ∨ s[k] = 10 ∨ s[k] = 13)) (h35 : ¬ s[k] = 35) : ybi s false k = k := by
  unfold ybi; rw [ybq s k h, ydk, if_neg hc, if_neg h35]; rfl
theorem skipTo_in (s : ByteArray) (k : Nat) (h : k < s.size) (hc : ¬ s[k] = 10) : ybi s true k = ybi s true (k + 1) := by
  unfold ybi; rw [ybq s k h, ydk, if_neg hc]; omega
theorem skipTo_nl (s : ByteArray) (k : Nat) (h : k < s.size) (hc : s[k] = 10) : ybi s true k = ybi s false k := by
  unfold ybi; rw [ybq s k h, ydk, ydk, if_pos hc, if_pos (by simp [hc])]
theorem skipTo_end (s : ByteArray) (k : Nat) (b : Bool) (h : s.size ≤ k) : ybi s b k = k := by
  unfold ybi; rw [bytesFrom_ge s k h]; cases b <;> rfl
theorem skipL_le (b : Bool) (r : List UInt8) : ydk b r ≤ r.length := by
  induction r generalizing b with
  | nil => cases b <;> simp [ydk]
  | cons c r ih =>
    have h1 := ih true
    have h2 := ih false
    cases b <;> simp only [ydk, List.length_cons] <;> repeat' split
    all_goals omega
theorem skipTo_bd (s : ByteArray) (b : Bool) (k : Nat) (h : k ≤ s.size) : k ≤ ybi s b k ∧ ybi s b k ≤ s.size := by
  have := skipL_le b (yal s k)
  rw [ycf] at this
  unfold ybi; omega

def ycm (c : UInt8) : Bool := (97 ≤ c && c ≤ 122) || (65 ≤ c && c ≤ 90)
def ybo (c : UInt8) : Bool := 48 ≤ c && c ≤ 57
def ydx (c : UInt8) : Bool := ycm c || ybo c || c == 95

def runL (p : UInt8 → Bool) : List UInt8 → Nat
  | [] => 0
  | c :: r => if p c then 1 + runL p r else 0
def ydv (p : UInt8 → Bool) (s : ByteArray) (a : Nat) : Nat := a + runL p (yal s a)
theorem runL_le (p : UInt8 → Bool) (r : List UInt8) : runL p r ≤ r.length := by
  induction r with
  | nil => simp [runL]
  | cons c r ih => simp only [runL, List.length_cons]; split <;> omega
theorem runTo_bd (p : UInt8 → Bool) (s : ByteArray) (k : Nat) (h : k ≤ s.size) : k ≤ ydv p s k ∧ ydv p s k ≤ s.size := by
  have := runL_le p (yal s k)
  rw [ycf] at this
  unfold ydv; omega
theorem runTo_yes (p : UInt8 → Bool) (s : ByteArray) (k : Nat) (h : k < s.size) (hp : p s[k] = true) : ydv p s k = ydv p s (k + 1) := by
  unfold ydv; rw [ybq s k h, runL, if_pos hp]; omega
theorem runTo_no (p : UInt8 → Bool) (s : ByteArray) (k : Nat) (h : k < s.size) (hp : p s[k] = false) : ydv p s k = k := by
  unfold ydv; rw [ybq s k h, runL, if_neg (by simp [hp])]; rfl
theorem runTo_end (p : UInt8 → Bool) (s : ByteArray) (k : Nat) (h : s.size ≤ k) : ydv p s k = k := by
  unfold ydv; rw [bytesFrom_ge s k h]; rfl
theorem runTo_pos (p : UInt8 → Bool) (s : ByteArray) (k : Nat) (h : k < s.size) (hp : p s[k] = true) : k < ydv p s k := by
  rw [runTo_yes p s k h hp]; have := runTo_bd p s (k + 1) (by omega); omega

def dig (v : Nat) (c : UInt8) : Nat := 10 * v + (c.toNat - 48)
def numL (v : Nat) (ds : List UInt8) : Nat := ds.foldl dig v
theorem numL_nil (v : Nat) : numL v [] = v := by unfold numL; rw [List.foldl_nil]
theorem numL_cons (v : Nat) (c : UInt8) (r : List UInt8) : numL v (c :: r) = numL (dig v c) r := by unfold numL; rw [List.foldl_cons]
theorem numL_snoc (v : Nat) (c : UInt8) (r : List UInt8) : numL v (r ++ [c]) = dig (numL v r) c := by unfold numL; rw [List.foldl_append, List.foldl_cons, List.foldl_nil]
theorem dig_ge (v : Nat) (c : UInt8) : 10 * v ≤ dig v c := by unfold dig; exact Nat.le_add_right _ _
theorem dig_le (v : Nat) (c : UInt8) (h : ybo c = true) : dig v c ≤ 10 * v + 9 := by
  simp only [ybo, Bool.and_eq_true, decide_eq_true_eq, UInt8.le_iff_toNat_le] at h
  have h3 : c.toNat ≤ 57 := h.2
  unfold dig
  generalize c.toNat = d at *
  omega
theorem numL_mono (r : List UInt8) : ∀ v : Nat, v ≤ numL v r := by
  induction r with
  | nil => intro v; rw [numL_nil]; exact Nat.le_refl _
  | cons c r ih =>
    intro v
    rw [numL_cons]
    have := dig_ge v c
    exact Nat.le_trans (by omega) (ih (dig v c))
theorem numL_pow (r : List UInt8) : ∀ v : Nat, v * 10 ^ r.length ≤ numL v r := by
  induction r with
  | nil => intro v; rw [numL_nil]; simp
  | cons c r ih =>
    intro v
    rw [numL_cons, List.length_cons, Nat.pow_succ, Nat.mul_comm (10 ^ r.length) 10, ← Nat.mul_assoc, Nat.mul_comm v 10]
    exact Nat.le_trans (Nat.mul_le_mul_right _ (dig_ge v c)) (ih (dig v c))
theorem numL_lt (r : List UInt8) : ∀ v : Nat, (∀ c ∈ r, ybo c = true) → numL v r < (v + 1) * 10 ^ r.length := by
  induction r with
  | nil => intro v _; rw [numL_nil]; simp
  | cons c r ih =>
    intro v hd
    have h1 := ih (dig v c) (fun c hc => hd c (List.mem_cons_of_mem _ hc))
    have h2 := dig_le v c (hd c (List.mem_cons_self ..))
    rw [numL_cons]
    refine Nat.lt_of_lt_of_le h1 ?_
    rw [List.length_cons, Nat.pow_succ, Nat.mul_comm (10 ^ r.length) 10, ← Nat.mul_assoc]
    exact Nat.mul_le_mul_right _ (by omega)

def numRes (ds : List UInt8) : Option Nat := if (1 < ds.length ∧ ds.head? = some 48) ∨ 1073741824 < numL 0 ds then none else some (numL 0 ds)

theorem numL_take (ds : List UInt8) (k v : Nat) : numL v (ds.take k) ≤ numL v ds := by
  have h : numL v ds = numL (numL v (ds.take k)) (ds.drop k) := by unfold numL; rw [← List.foldl_append, List.take_append_drop]
  rw [h]; exact numL_mono _ _
theorem numRes_big (ds : List UInt8) (k : Nat) (h : 1073741824 < numL 0 (ds.take k)) : numRes ds = none := by
  have := numL_take ds k 0
  unfold numRes; rw [if_pos (.inr (by omega))]
theorem numRes_zero (ds : List UInt8) (h : 1 < ds.length) (h0 : ds.head? = some 48) : numRes ds = none := by
  unfold numRes; rw [if_pos (.inl ⟨h, h0⟩)]
theorem numRes_ok (ds : List UInt8) (h : ¬ (1 < ds.length ∧ ds.head? = some 48)) (h0 : numL 0 ds ≤ 1073741824) : numRes ds = some (numL 0 ds) := by
  unfold numRes; rw [if_neg (fun hq => hq.elim h (fun h1 => by omega))]
theorem numRes_no (ds : List UInt8) (h0 : 1073741824 < numL 0 ds) : numRes ds = none := by
  unfold numRes; rw [if_pos (.inr h0)]
theorem numRes_long (ds : List UInt8) (hd : ∀ c ∈ ds, ybo c = true) (h : 10 < ds.length) : numRes ds = none := by
  cases ds with
  | nil => simp at h
  | cons c r =>
    by_cases h48 : c = 48
    · exact numRes_zero _ (by omega) (by simp [h48])
    · refine numRes_no _ ?_
      rw [numL_cons]
      have h1 := hd c (List.mem_cons_self ..)
      simp only [ybo, Bool.and_eq_true, decide_eq_true_eq, UInt8.le_iff_toNat_le] at h1
      have h2 : 1 ≤ dig 0 c := by
        have h3 : 48 ≤ c.toNat := h1.1
        have h4 : c.toNat ≠ 48 := fun h5 => h48 (by rw [← UInt8.toNat_inj]; exact h5)
        unfold dig
        generalize c.toNat = d at *
        omega
      have h5 := numL_pow r (dig 0 c)
      have h6 : 10 ^ 10 ≤ 10 ^ r.length := Nat.pow_le_pow_right (by omega) (by simp at h; omega)
      have h7 : 1 * 10 ^ r.length ≤ dig 0 c * 10 ^ r.length := Nat.mul_le_mul_right _ h2
      rw [Nat.one_mul] at h7
      have h8 : (10 : Nat) ^ 10 = 10000000000 := by decide
      rw [h8] at h6
      exact Nat.lt_of_lt_of_le (Nat.lt_of_lt_of_le (by decide) h6) (Nat.le_trans h7 h5)
theorem take_snoc (s : ByteArray) (k : Nat) (h : k < s.size) : (yal s 0).take (k + 1) = (yal s 0).take k ++ [s[k]] := by
  unfold yal
  rw [List.drop_zero, List.take_succ_eq_append_getElem (by simpa using h)]; rfl
theorem take_all (s : ByteArray) (k : Nat) (h : s.size ≤ k) : (yal s 0).take k = yal s 0 := by
  rw [List.take_of_length_le]; rw [ycf]; omega
theorem mem_bytes (s : ByteArray) (k : Nat) (h : k < s.size) : s[k] ∈ yal s 0 := by
  unfold yal
  rw [List.drop_zero, Array.mem_toList_iff]
  exact Array.getElem_mem (xs := s.data) h
theorem head_bytes (s : ByteArray) (h : 0 < s.size) : (yal s 0).head? = some s[0] := by rw [ybq s 0 h]; rfl
theorem digit_bd (c : UInt8) (h : ybo c = true) : 48 ≤ c.toNat ∧ c.toNat ≤ 57 := by
  simpa [ybo, UInt8.le_iff_toNat_le] using h
theorem num_take_bd (ds : List UInt8) (k : Nat) (hd : ∀ c ∈ ds, ybo c = true) (h : ds.length ≤ 10) : numL 0 (ds.take k) ≤ 9999999999 := by
  have h1 := numL_lt (ds.take k) 0 (fun c hc => hd c (List.mem_of_mem_take hc))
  have h2 : 10 ^ (ds.take k).length ≤ 10 ^ 10 := Nat.pow_le_pow_right (by omega) (by rw [List.length_take]; omega)
  have h3 : (10 : Nat) ^ 10 = 10000000000 := by decide
  rw [h3] at h2
  rw [Nat.zero_add, Nat.one_mul] at h1
  omega
theorem num_step (s : ByteArray) (k : Nat) (h : k < s.size) : numL 0 ((yal s 0).take (k + 1)) = dig (numL 0 ((yal s 0).take k)) s[k] := by
  rw [take_snoc s k h, numL_snoc]
theorem dig_int (n : Nat) (c : UInt8) (h : 48 ≤ c.toNat) : ((dig n c : Nat) : Int) = 10 * (n : Int) + ((c.toNat : Int) - 48) := by unfold dig; omega

def sign2B (a b : UInt8) : Bool :=
  (a == 46 && b == 46) || (a == 45 && b == 62) || (a == 58 && b == 61) || (a == 38 && b == 38) || (a == 124 && b == 124) || (a == 61 && b == 61) || (a == 33 && b == 61) || (a == 60 && b == 61) || (a == 62 && b == 61)
def sign1B (a : UInt8) : Bool := [59, 58, 44, 40, 41, 46, 63, 60, 62, 43, 45, 42, 47, 37, 33].contains a
def yfe : List UInt8 → Nat
  | a :: b :: _ => if sign2B a b then 2 else if sign1B a then 1 else 0
  | [a] => if sign1B a then 1 else 0
  | [] => 0
theorem signL_le (r : List UInt8) : yfe r ≤ r.length := by
  match r with
  | [] => simp [yfe]
  | [a] => simp only [yfe, List.length_cons, List.length_nil]; split <;> omega
  | a :: b :: r => simp only [yfe, List.length_cons]; repeat' split
                   all_goals omega

structure Tok where
  kind : Nat
  from_ : Nat
  to : Nat
  num : Nat

def tokL (r : List UInt8) : Except Nat (Nat × Nat × Nat) :=
  match r with
  | [] => .error 4
  | c :: _ =>
    if ycm c then (if 24 < runL ydx r then .error 5 else .ok (1, runL ydx r, 0))
    else if ybo c then (match numRes (r.take (runL ybo r)) with | none => .error 2 | some v => .ok (2, runL ybo r, v))
    else if yfe r = 0 then .error 4 else .ok (3, yfe r, 0)

theorem runL_pos (p : UInt8 → Bool) (c : UInt8) (r : List UInt8) (h : p c = true) : 1 ≤ runL p (c :: r) := by
  simp [runL, h]
theorem tokL_bd {r : List UInt8} {k n v : Nat} (h : tokL r = .ok (k, n, v)) : 1 ≤ n ∧ n ≤ r.length ∧ v ≤ 1073741824 ∧ 1 ≤ k ∧ k ≤ 3 := by
  match r with
  | [] => simp [tokL] at h
  | c :: r =>
    simp only [tokL] at h
    have h1 := runL_le ydx (c :: r)
    have h2 := runL_le ybo (c :: r)
    have h3 := signL_le (c :: r)
    by_cases hl : ycm c = true
    · rw [if_pos hl] at h
      have h4 := runL_pos ydx c r (by simp [ydx, hl])
      split at h <;> simp at h
      omega
    · rw [if_neg hl] at h
      by_cases hd : ybo c = true
      · rw [if_pos hd] at h
        have h4 := runL_pos ybo c r hd
        generalize hq : numRes ((c :: r).take (runL ybo (c :: r))) = q at h
        cases q with
        | none => simp at h
        | some u =>
          simp only [numRes] at hq
          split at hq <;> simp at hq h
          omega
      · rw [if_neg hd] at h
        split at h <;> simp at h
        omega

def consTok (t : Tok) : Except (Nat × Nat) (List Tok) → Except (Nat × Nat) (List Tok)
  | .error e => .error e
  | .ok ts => .ok (t :: ts)

def scanL : Nat → Nat → List UInt8 → Except (Nat × Nat) (List Tok)
  | 0, p, r => if r.drop (ydk false r) = [] then .ok [] else .error (p + ydk false r, 3)
  | left + 1, p, r =>
    if r.drop (ydk false r) = [] then .ok [] else
    match tokL (r.drop (ydk false r)) with
    | .error e => .error (p + ydk false r, e)
    | .ok (k, n, v) => consTok ⟨k, p + ydk false r, p + ydk false r + n, v⟩ (scanL left (p + ydk false r + n) ((r.drop (ydk false r)).drop n))

def scanF (s : ByteArray) : Except (Nat × Nat) (List Tok) := if 16384 < s.size then .error (0, 3) else scanL 4096 0 (yal s 0)

def joinTok (out : List Tok) : Except (Nat × Nat) (List Tok) → Except (Nat × Nat) (List Tok)
  | .error e => .error e
  | .ok ts => .ok (out ++ ts)
theorem joinTok_cons (out : List Tok) (t : Tok) (x : Except (Nat × Nat) (List Tok)) : joinTok out (consTok t x) = joinTok (out ++ [t]) x := by
  cases x <;> simp [joinTok, consTok]
theorem joinTok_nil (x : Except (Nat × Nat) (List Tok)) : joinTok [] x = x := by cases x <;> rfl

def yet (s : ByteArray) (out : List Tok) (p : Nat) : Except (Nat × Nat) (List Tok) := joinTok out (scanL (4096 - out.length) p (yal s p))

theorem restScan_start (s : ByteArray) (h : s.size ≤ 16384) : scanF s = yet s [] 0 := by
  unfold scanF yet; rw [if_neg (by omega), joinTok_nil]; rfl
theorem drop_skip (s : ByteArray) (p : Nat) : (yal s p).drop (ydk false (yal s p)) = yal s (ybi s false p) := by
  rw [bytesFrom_drop]; rfl
theorem bytesFrom_nil_iff (s : ByteArray) (k : Nat) : yal s k = [] ↔ s.size ≤ k := by
  rw [← List.length_eq_zero_iff, ycf]; omega
theorem restScan_end (s : ByteArray) (out : List Tok) (p : Nat) (h : s.size ≤ ybi s false p) : yet s out p = .ok out := by
  unfold yet
  cases hl : 4096 - out.length <;>
  · rw [scanL, drop_skip, if_pos ((bytesFrom_nil_iff _ _).2 h)]; simp [joinTok]
theorem restScan_full (s : ByteArray) (out : List Tok) (p : Nat) (h : ybi s false p < s.size) (hn : out.length = 4096) : yet s out p = .error (ybi s false p, 3) := by
  unfold yet
  rw [hn, show 4096 - 4096 = 0 from rfl, scanL, drop_skip, if_neg (by rw [bytesFrom_nil_iff]; omega)]; rfl
theorem restScan_err (s : ByteArray) (out : List Tok) (p e : Nat) (h : ybi s false p < s.size) (hn : out.length < 4096) (ht : tokL (yal s (ybi s false p)) = .error e) :
    yet s out p = .error (ybi s false p, e) := by
  unfold yet
  obtain ⟨m, hm⟩ : ∃ m, 4096 - out.length = m + 1 := ⟨4096 - out.length - 1, by omega⟩
  rw [hm, scanL, drop_skip, if_neg (by rw [bytesFrom_nil_iff]; omega), ht]; rfl
theorem restScan_tok (s : ByteArray) (out : List Tok) (p k n v : Nat) (h : ybi s false p < s.size) (hn : out.length < 4096) (ht : tokL (yal s (ybi s false p)) = .ok (k, n, v)) :
    yet s out p = yet s (out ++ [⟨k, ybi s false p, ybi s false p + n, v⟩]) (ybi s false p + n) := by
  unfold yet
  obtain ⟨m, hm⟩ : ∃ m, 4096 - out.length = m + 1 := ⟨4096 - out.length - 1, by omega⟩
  rw [hm, scanL, drop_skip, if_neg (by rw [bytesFrom_nil_iff]; omega), ht]
  simp only [joinTok_cons, bytesFrom_drop]
  rw [show 4096 - (out ++ [(⟨k, ybi s false p, ybi s false p + n, v⟩ : Tok)]).length = m by simp; omega]
  rfl
end Go.Proofs.YtcpgpiabeimefaaGreatDoor
namespace Go.Proofs.YtcpgpiabeimefaaGreatDoor
open Go.RowKit

theorem skip_drop (r : List UInt8) : ∀ b : Bool, r.drop (ydk b r) ≠ [] → ydk false (r.drop (ydk b r)) = 0 := by
  induction r with
  | nil => intro b h; simp at h
  | cons c r ih =>
    intro b h
    cases b
    · simp only [ydk] at *
      split at h
      · rename_i hc; rw [if_pos hc, Nat.add_comm, List.drop_succ_cons] at *; exact ih false h
      · rename_i hc
        rw [if_neg hc]
        split at h
        · rename_i h35; rw [if_pos h35, Nat.add_comm, List.drop_succ_cons] at *; exact ih true h
        · rename_i h35; rw [if_neg h35, List.drop_zero]; simp [ydk, hc, h35]
    · simp only [ydk] at *
      split at h
      · rename_i hc; rw [if_pos hc, Nat.add_comm, List.drop_succ_cons] at *; exact ih false h
      · rename_i hc; rw [if_neg hc, Nat.add_comm, List.drop_succ_cons] at *; exact ih true h

def blankB (c : UInt8) : Bool := c == 32 || c == 9 || c == 10 || c == 13 || c == 35
theorem blankB_cases {c : UInt8} (h : blankB c = true) : c = 32 ∨ c = 9 ∨ c = 10 ∨ c = 13 ∨ c = 35 := by simpa [blankB, or_assoc] using h
theorem blank_word {c : UInt8} (h : blankB c = true) : ydx c = false ∧ ybo c = false ∧ ycm c = false := by
  rcases blankB_cases h with rfl | rfl | rfl | rfl | rfl <;> decide
theorem blank_sign {c : UInt8} (h : blankB c = true) (a : UInt8) : sign2B a c = false := by
  rcases blankB_cases h with rfl | rfl | rfl | rfl | rfl <;> simp [sign2B]
def Good (s : ByteArray) : Nat → List Tok → Prop
  | p, [] => p ≤ s.size ∧ ybi s false p = s.size
  | p, t :: ts => p ≤ s.size ∧ t.from_ = ybi s false p ∧ t.from_ < s.size ∧ tokL (yal s t.from_) = .ok (t.kind, t.to - t.from_, t.num) ∧ t.from_ < t.to ∧ t.to ≤ s.size ∧ Good s t.to ts

theorem good_of_scan (s : ByteArray) (left : Nat) : ∀ (p : Nat) (ts : List Tok), p ≤ s.size → scanL left p (yal s p) = .ok ts → Good s p ts := by
  have base : ∀ (p : Nat), p ≤ s.size → yal s (ybi s false p) = [] → Good s p [] := fun p hp h => by
    have h1 := (bytesFrom_nil_iff _ _).1 h
    have h2 := (skipTo_bd s false p hp).2
    exact ⟨hp, by omega⟩
  induction left with
  | zero =>
    intro p ts hp h
    rw [scanL, drop_skip] at h
    split at h
    · rename_i he; simp at h; subst h; exact base p hp he
    · cases h
  | succ left ih =>
    intro p ts hp h
    rw [scanL, drop_skip] at h
    split at h
    · rename_i he; simp at h; subst h; exact base p hp he
    · rename_i he
      rw [bytesFrom_nil_iff] at he
      generalize hq : tokL (yal s (ybi s false p)) = q at h
      match q, hq with
      | .error e, _ => cases h
      | .ok (k, n, v), hq =>
        have hb := tokL_bd hq
        rw [ycf] at hb
        simp only [bytesFrom_drop] at h
        rw [show p + ydk false (yal s p) = ybi s false p from rfl] at h
        generalize hw : scanL left (ybi s false p + n) (yal s (ybi s false p + n)) = w at h
        cases w with
        | error e => cases h
        | ok us =>
          simp only [consTok] at h
          cases h
          refine ⟨hp, rfl, by show ybi s false p < s.size; omega, ?_, by show ybi s false p < ybi s false p + n; omega, by show ybi s false p + n ≤ s.size; omega, ih _ _ (by show ybi s false p + n ≤ s.size; omega) hw⟩
          show tokL (yal s (ybi s false p)) = .ok (k, ybi s false p + n - ybi s false p, v)
          rw [hq, Nat.add_sub_cancel_left]
theorem good_of (s : ByteArray) (ts : List Tok) (h : scanF s = .ok ts) : Good s 0 ts := by
  unfold scanF at h
  split at h
  · cases h
  · exact good_of_scan s 4096 0 ts (by omega) h
theorem Good.tail {s : ByteArray} {p : Nat} {t : Tok} {ts : List Tok} (h : Good s p (t :: ts)) : Good s t.to ts := h.2.2.2.2.2.2
theorem Good.len {s : ByteArray} : ∀ {ts : List Tok} {p : Nat}, Good s p ts → ts.length + p ≤ s.size := by
  intro ts
  induction ts with
  | nil => intro p h; have := h.1; simp; omega
  | cons t ts ih =>
    intro p h
    have h1 := ih h.tail
    obtain ⟨h2, h3, h4, _, h5, h6, _⟩ := h
    have := (skipTo_bd s false p h2).1
    simp; omega
theorem Good.mem {s : ByteArray} : ∀ {ts : List Tok} {p : Nat}, Good s p ts → ∀ t ∈ ts, t.from_ < s.size ∧ tokL (yal s t.from_) = .ok (t.kind, t.to - t.from_, t.num) ∧ t.from_ < t.to ∧ t.to ≤ s.size ∧ ydk false (yal s t.from_) = 0 := by
  intro ts
  induction ts with
  | nil => intro p _ t ht; cases ht
  | cons u ts ih =>
    intro p h t ht
    cases ht with
    | head =>
      obtain ⟨h2, h3, h4, h7, h5, h6, _⟩ := h
      refine ⟨h4, h7, h5, h6, ?_⟩
      rw [h3, ← drop_skip]
      refine skip_drop _ false ?_
      rw [drop_skip, ← h3]
      intro h8
      rw [bytesFrom_nil_iff] at h8; omega
    | tail _ ht => exact ih h.tail t ht

theorem run_all (p : UInt8 → Bool) (r : List UInt8) : ∀ c ∈ r.take (runL p r), p c = true := by
  induction r with
  | nil => simp
  | cons x r ih =>
    intro c hc
    simp only [runL] at hc
    by_cases hx : p x = true
    · rw [if_pos hx, Nat.add_comm, List.take_succ_cons] at hc
      cases hc with
      | head => exact hx
      | tail _ h => exact ih c h
    · rw [if_neg hx] at hc; simp at hc
end Go.Proofs.YtcpgpiabeimefaaGreatDoor
set_option linter.unusedVariables false
namespace Go.Proofs.YtcpgpiabeimefaaGreatDoor
open Go.RowKit
variable {nm : Bs → Bool} {names : List Bs}
def pwT (s : ByteArray) (t : Tok) : PW := ⟨(yal s t.from_).take (t.to - t.from_), t.kind, t.num⟩
inductive Scans : Bs → List PW → Prop
  | nil {l : Bs} (h : l.drop (ydk false l) = []) : Scans l []
  | cons {l y r : Bs} {k v : Nat} {ws : List PW} (h : l.drop (ydk false l) = y ++ r) (hy : y ≠ []) (ht : tokL (y ++ r) = .ok (k, y.length, v)) (hr : Scans r ws) : Scans l (⟨y, k, v⟩ :: ws)
theorem scan_of (s : ByteArray) {l : Bs} {ws : List PW} (h : Scans l ws) : ∀ (left p : Nat), ws.length ≤ left → yal s p = l → ∃ ts, scanL left p l = .ok ts ∧ ts.map (pwT s) = ws := by
  induction h with
  | @nil l h =>
    intro left p hl hp
    refine ⟨[], ?_, rfl⟩
    cases left <;> rw [scanL, if_pos h]
  | @cons l y r k v ws h hy ht hr ih =>
    intro left p hl hp
    simp only [List.length_cons] at hl
    obtain ⟨left, rfl⟩ : ∃ m, left = m + 1 := ⟨left - 1, by omega⟩
    have hd : (l.drop (ydk false l)).drop y.length = r := by rw [h, List.drop_left]
    have hp2 : yal s (p + ydk false l + y.length) = r := by rw [← bytesFrom_drop, ← bytesFrom_drop, hp, hd]
    obtain ⟨ts, h1, h2⟩ := ih left (p + ydk false l + y.length) (by omega) hp2
    refine ⟨⟨k, p + ydk false l, p + ydk false l + y.length, v⟩ :: ts, ?_, ?_⟩
    · rw [scanL, if_neg (by rw [h]; simp [hy]), h, ht]
      simp only
      rw [List.drop_left, h1]; rfl
    · rw [List.map_cons, h2, pwT]
      simp only [Nat.add_sub_cancel_left]
      rw [← bytesFrom_drop, hp, h, List.take_left]
theorem scanF_of {s : ByteArray} {ws : List PW} (h : Scans (bl s) ws) (hs : s.size ≤ 16384) (hw : ws.length ≤ 4096) : ∃ ts, scanF s = .ok ts ∧ ts.map (pwT s) = ws := by
  obtain ⟨ts, h1, h2⟩ := scan_of s h 4096 0 hw rfl
  exact ⟨ts, by rw [scanF, if_neg (by omega)]; exact h1, h2⟩
theorem skip_zero_of {c : UInt8} {r : Bs} (h : blankB c = false) : ydk false (c :: r) = 0 := by
  simp only [blankB, Bool.or_eq_false_iff, beq_eq_false_iff_ne] at h
  rw [ydk, if_neg (by rintro (e | e | e | e) <;> simp_all), if_neg h.2]
theorem scans_sp {r : Bs} {ws : List PW} (h : Scans r ws) : Scans (32 :: r) ws := by
  have e : (32 :: r : Bs).drop (ydk false (32 :: r)) = r.drop (ydk false r) := by
    rw [ydk, if_pos (.inl rfl), Nat.add_comm, List.drop_succ_cons]
  cases h with
  | nil h => exact .nil (e.trans h)
  | cons h hy ht hr => exact .cons (e.trans h) hy ht hr
theorem scans_tok {c : UInt8} {y r : Bs} {k v : Nat} {ws : List PW} (hc : blankB c = false) (ht : tokL ((c :: y) ++ r) = .ok (k, (c :: y).length, v)) (hr : Scans r ws) : Scans ((c :: y) ++ r) (⟨c :: y, k, v⟩ :: ws) :=
  .cons (by rw [List.cons_append, skip_zero_of hc, List.drop_zero]) (by simp) ht hr
def Begins (p : UInt8 → Bool) (r : Bs) : Prop := ∀ c x, r = c :: x → p c = false
theorem run_begins {p : UInt8 → Bool} {r : Bs} (h : Begins p r) : runL p r = 0 := by
  cases r with
  | nil => rfl
  | cons c x => rw [runL, if_neg (by rw [h c x rfl]; simp)]
theorem run_word {p : UInt8 → Bool} {r : Bs} (h : Begins p r) : ∀ {w : Bs}, (∀ c ∈ w, p c = true) → runL p (w ++ r) = w.length
  | [], _ => run_begins h
  | c :: w, hw => by rw [List.cons_append, runL, if_pos (hw c (by simp)), run_word h fun d hd => hw d (by simp [hd]), List.length_cons, Nat.add_comm]
theorem letter_blank {c : UInt8} (h : ycm c = true) : blankB c = false := by
  cases hb : blankB c with
  | false => rfl
  | true => rw [(blank_word hb).2.2] at h; cases h
theorem digit_blank {c : UInt8} (h : ybo c = true) : blankB c = false := by
  cases hb : blankB c with
  | false => rfl
  | true => rw [(blank_word hb).2.1] at h; cases h
def WordOk (w : Bs) : Prop := w.length ≤ 24 ∧ (∀ c ∈ w, ydx c = true) ∧ ∃ c x, w = c :: x ∧ ycm c = true
theorem scans_name {w r : Bs} {ws : List PW} (hw : WordOk w) (hb : Begins ydx r) (hr : Scans r ws) : Scans (w ++ r) (pwN w :: ws) := by
  obtain ⟨h24, hall, c, x, rfl, hc⟩ := hw
  refine scans_tok (letter_blank hc) ?_ hr
  rw [List.cons_append, tokL]
  rw [if_pos hc, ← List.cons_append, run_word hb hall, if_neg (by omega)]
theorem digit_of {c : UInt8} (h : 48 ≤ c.toNat ∧ c.toNat ≤ 57) : ybo c = true := by
  unfold ybo
  have h1 : (48 : UInt8) ≤ c := by rw [UInt8.le_iff_toNat_le]; exact h.1
  have h2 : c ≤ (57 : UInt8) := by rw [UInt8.le_iff_toNat_le]; exact h.2
  simp [h1, h2]
theorem digit_letter {c : UInt8} (h : ybo c = true) : ycm c = false := by
  have := digit_bd c h
  unfold ycm
  have h1 : ¬ (97 : UInt8) ≤ c := by rw [UInt8.le_iff_toNat_le]; have : (97 : UInt8).toNat = 97 := rfl; omega
  have h2 : ¬ (65 : UInt8) ≤ c := by rw [UInt8.le_iff_toNat_le]; have : (65 : UInt8).toNat = 65 := rfl; omega
  simp [h1, h2]
theorem numL_dec (n : Nat) : numL 0 (dec n) = n := by
  induction n using Nat.strongRecOn with
  | _ n ih =>
    by_cases h : n < 10
    · rw [dec_small h, numL_cons, numL_nil, dig, digit_nat h]; omega
    · rw [dec_big h, numL_snoc, ih (n / 10) (by omega), dig, digit_nat (by omega)]; omega
theorem numRes_dec {n : Nat} (h : n ≤ 1073741824) : numRes (dec n) = some n := by
  rw [numRes_ok, numL_dec]
  · rintro ⟨h1, h2⟩
    by_cases h0 : n < 10
    · rw [dec_small h0] at h1; simp at h1
    · exact dec_head n (by omega) h2
  · rw [numL_dec]; exact h
theorem scans_num {n : Nat} {r : Bs} {ws : List PW} (hn : n ≤ 1073741824) (hb : Begins ybo r) (hr : Scans r ws) : Scans (dec n ++ r) (pwV n :: ws) := by
  have hall : ∀ c ∈ dec n, ybo c = true := fun c hc => digit_of (dec_digits n c hc)
  have hp := dec_pos n
  have hres := numRes_dec hn
  unfold pwV
  generalize dec n = ds at *
  cases ds with
  | nil => simp at hp
  | cons c x =>
    have hc := hall c (by simp)
    refine scans_tok (digit_blank hc) ?_ hr
    rw [List.cons_append, tokL]
    rw [if_neg (by rw [digit_letter hc]; simp), if_pos hc, ← List.cons_append, run_word hb hall, List.take_left, hres]
theorem scans_sign2 {a b : UInt8} {r : Bs} {ws : List PW} (h : sign2B a b = true) (h1 : ycm a = false) (h2 : ybo a = false) (h3 : blankB a = false) (hr : Scans r ws) : Scans ([a, b] ++ r) (pwS [a, b] :: ws) := by
  refine scans_tok h3 ?_ hr
  show tokL (a :: b :: r) = _
  rw [tokL]
  rw [if_neg (by rw [h1]; simp), if_neg (by rw [h2]; simp), yfe, if_pos h, if_neg (by omega)]
  rfl
theorem ydn {a : UInt8} {r : Bs} {ws : List PW} (h : sign1B a = true) (hb : Begins (sign2B a) r) (h1 : ycm a = false) (h2 : ybo a = false) (h3 : blankB a = false) (hr : Scans r ws) : Scans (a :: r) (pwS [a] :: ws) := by
  refine scans_tok (y := []) h3 ?_ hr
  show tokL (a :: r) = _
  rw [tokL]
  have hs : yfe (a :: r) = 1 := by
    cases r with
    | nil => rw [yfe, if_pos h]
    | cons b r => rw [yfe, if_neg (by rw [hb b r rfl]; simp), if_pos h]
  rw [if_neg (by rw [h1]; simp), if_neg (by rw [h2]; simp), hs, if_neg (by omega)]
  rfl
def FT (r : Bs) : Prop := ∀ c x, r = c :: x → c = 32 ∨ c = 41
theorem FT.begins {r : Bs} {p : UInt8 → Bool} (h : FT r) (h1 : p 32 = false) (h2 : p 41 = false) : Begins p r := by
  intro c x e
  rcases h c x e with rfl | rfl
  · exact h1
  · exact h2
theorem ft_sp {r : Bs} : FT (32 :: r) := fun c x e => by cases e; exact .inl rfl
theorem ft_par {r : Bs} : FT (41 :: r) := fun c x e => by cases e; exact .inr rfl
theorem yfb {p : UInt8 → Bool} {c : UInt8} {r : Bs} (h : p c = false) : Begins p (c :: r) := fun d x e => by cases e; exact h
def headB (c : UInt8) : Bool := ycm c || ybo c || c == 40 || c == 45 || c == 33
theorem wr_head (hn : ∀ w ∈ names, WordOk w) {l : Nat} {E : Ex} {x : Bs} {ws : List PW} (h : Wr names l E x ws) : ∃ c y, x = c :: y ∧ headB c = true := by
  induction h with
  | down hl h ih => exact ih
  | paren h ih => exact ⟨_, _, rfl, rfl⟩
  | choice ha hb hc iha ihb ihc => obtain ⟨c, y, rfl, h⟩ := iha; exact ⟨c, _, rfl, h⟩
  | bin h0 hw hl h3 ha hb iha ihb => obtain ⟨c, y, rfl, h⟩ := iha; exact ⟨c, _, rfl, h⟩
  | cmp h0 hw hl ha hb iha ihb => obtain ⟨c, y, rfl, h⟩ := iha; exact ⟨c, _, rfl, h⟩
  | neg ha iha => exact ⟨_, _, rfl, rfl⟩
  | not ha iha => exact ⟨_, _, rfl, rfl⟩
  | @agg op w a xa wa h0 hw ha iha =>
    have : ∀ w ∈ aggL, ∃ c y, w = c :: y ∧ headB c = true := by
      intro w hw
      simp only [aggL, List.mem_cons, List.not_mem_nil, or_false] at hw
      rcases hw with rfl | rfl | rfl | rfl | rfl | rfl | rfl | rfl | rfl | rfl <;> exact ⟨_, _, rfl, rfl⟩
    obtain ⟨c, y, rfl, h⟩ := this w hw
    exact ⟨c, _, rfl, h⟩
  | @num n hn =>
    have hp := dec_pos n
    have hd := dec_digits n
    generalize dec n = ds at *
    cases ds with
    | nil => simp at hp
    | cons c y => exact ⟨c, y, rfl, by simp [headB, digit_of (hd c (by simp))]⟩
  | @own i w h =>
    obtain ⟨_, _, c, y, rfl, hc⟩ := hn w (List.mem_of_getElem? h)
    exact ⟨c, y, rfl, by simp [headB, hc]⟩
  | near h => exact ⟨_, _, rfl, rfl⟩
  | here => exact ⟨_, _, rfl, rfl⟩
  | @const op w h0 hw hne =>
    simp only [constL, List.mem_cons, List.not_mem_nil, or_false] at hw
    rcases hw with rfl | rfl | rfl | rfl | rfl | rfl | rfl | rfl | rfl
    all_goals first | exact ⟨_, _, rfl, rfl⟩ | exact absurd rfl hne
  | field h0 hw => exact ⟨_, _, rfl, rfl⟩
theorem sign2_head {c : UInt8} (h : headB c = true) : sign2B 45 c = false ∧ sign2B 33 c = false := by
  have : c ≠ 62 ∧ c ≠ 61 := ⟨fun e => by subst e; revert h; decide, fun e => by subst e; revert h; decide⟩
  simp [sign2B, this]
theorem agg_ok : ∀ w ∈ aggL, WordOk w := by
  intro w hw
  simp only [aggL, List.mem_cons, List.not_mem_nil, or_false] at hw
  rcases hw with rfl | rfl | rfl | rfl | rfl | rfl | rfl | rfl | rfl | rfl <;> exact ⟨by decide, by decide, _, _, rfl, rfl⟩
theorem const_ok : ∀ w ∈ constL, w ≠ [] → WordOk w := by
  intro w hw hne
  simp only [constL, List.mem_cons, List.not_mem_nil, or_false] at hw
  rcases hw with rfl | rfl | rfl | rfl | rfl | rfl | rfl | rfl | rfl
  all_goals first | exact absurd rfl hne | exact ⟨by decide, by decide, _, _, rfl, rfl⟩
theorem field_ok : ∀ w ∈ fieldL, WordOk w := by
  intro w hw
  simp only [fieldL, List.mem_cons, List.not_mem_nil, or_false] at hw
  rcases hw with rfl | rfl | rfl | rfl | rfl <;> exact ⟨by decide, by decide, _, _, rfl, rfl⟩
theorem q_ok : WordOk [113] := ⟨by decide, by decide, _, _, rfl, rfl⟩
theorem scans_bin {w r : Bs} {ws : List PW} (hw : w ∈ binL) (hr : Scans r ws) : Scans (w ++ (32 :: r)) (pwS w :: ws) := by
  simp only [binL, List.mem_cons, List.not_mem_nil, or_false] at hw
  have h32 : ∀ a, sign2B a 32 = false := fun a => blank_sign rfl a
  rcases hw with rfl | rfl | rfl | rfl | rfl | rfl | rfl | rfl | rfl | rfl | rfl | rfl | rfl
  all_goals first
    | exact scans_sign2 rfl rfl rfl rfl (scans_sp hr)
    | exact ydn rfl (yfb (h32 _)) rfl rfl rfl (scans_sp hr)
theorem scans_qdot {w r : Bs} {ws : List PW} (hw : WordOk w) (hb : Begins ydx r) (hr : Scans r ws) : Scans (113 :: 46 :: (w ++ r)) (pwN [113] :: pwS [46] :: pwN w :: ws) := by
  have h3 := scans_name hw hb hr
  have h2 : Scans (46 :: (w ++ r)) (pwS [46] :: pwN w :: ws) := by
    refine ydn rfl ?_ rfl rfl rfl h3
    obtain ⟨_, _, c, x, rfl, hc⟩ := hw
    refine yfb ?_
    have : c ≠ 46 := fun e => by subst e; revert hc; decide
    simp [sign2B, this]
  exact scans_name q_ok (yfb rfl) h2
theorem wr_scans (hn : ∀ w ∈ names, WordOk w) {l : Nat} {E : Ex} {x : Bs} {ws : List PW} (h : Wr names l E x ws) : ∀ (r : Bs) (us : List PW), FT r → Scans r us → Scans (x ++ r) (ws ++ us) := by
  induction h with
  | down hl h ih => exact ih
  | @paren E x ws h ih =>
    intro r us hr hs
    have h1 : Scans (41 :: r) (pwS [41] :: us) := ydn rfl (fun c x e => by simp [sign2B]) rfl rfl rfl hs
    have h2 := ih _ _ ft_par h1
    have h3 : Scans (40 :: (x ++ 41 :: r)) (pwS [40] :: (ws ++ pwS [41] :: us)) := ydn rfl (fun c x e => by simp [sign2B]) rfl rfl rfl h2
    simpa using h3
  | @choice a b c xa xb xc wa wb wc ha hb hc iha ihb ihc =>
    intro r us hr hs
    have h3 := ihc r us hr hs
    have h32 : ∀ a, sign2B a 32 = false := fun a => blank_sign rfl a
    have h2 := ihb (32 :: 58 :: 32 :: (xc ++ r)) _ ft_sp (scans_sp (ydn (a := 58) rfl (yfb (h32 _)) rfl rfl rfl (scans_sp h3)))
    have h1 := iha (32 :: 63 :: 32 :: (xb ++ (32 :: 58 :: 32 :: (xc ++ r)))) _ ft_sp (scans_sp (ydn (a := 63) rfl (yfb (h32 _)) rfl rfl rfl (scans_sp h2)))
    simpa using h1
  | @bin op l w a b xa xb wa wb h0 hw hl h3 ha hb iha ihb =>
    intro r us hr hs
    have h1 := iha (32 :: (w ++ (32 :: (xb ++ r)))) _ ft_sp (scans_sp (scans_bin hw (ihb r us hr hs)))
    simpa using h1
  | @cmp op w a b xa xb wa wb h0 hw hl ha hb iha ihb =>
    intro r us hr hs
    have h1 := iha (32 :: (w ++ (32 :: (xb ++ r)))) _ ft_sp (scans_sp (scans_bin hw (ihb r us hr hs)))
    simpa using h1
  | @neg a xa wa ha iha =>
    intro r us hr hs
    have h1 := iha r us hr hs
    obtain ⟨c, y, rfl, hc⟩ := wr_head hn ha
    exact ydn rfl (yfb (sign2_head hc).1) rfl rfl rfl h1
  | @not a xa wa ha iha =>
    intro r us hr hs
    have h1 := iha r us hr hs
    obtain ⟨c, y, rfl, hc⟩ := wr_head hn ha
    exact ydn rfl (yfb (sign2_head hc).2) rfl rfl rfl h1
  | @agg op w a xa wa h0 hw ha iha =>
    intro r us hr hs
    have h1 : Scans (41 :: r) (pwS [41] :: us) := ydn rfl (fun c x e => by simp [sign2B]) rfl rfl rfl hs
    have h2 := iha _ _ ft_par h1
    have h3 : Scans (40 :: (xa ++ 41 :: r)) (pwS [40] :: (wa ++ pwS [41] :: us)) := ydn rfl (fun c x e => by simp [sign2B]) rfl rfl rfl h2
    have h4 := scans_name (agg_ok w hw) (yfb rfl) h3
    simpa using h4
  | @num n hn => exact fun r us hr hs => scans_num hn (hr.begins rfl rfl) hs
  | @own i w h => exact fun r us hr hs => scans_name (hn w (List.mem_of_getElem? h)) (hr.begins rfl rfl) hs
  | @near i w h => exact fun r us hr hs => scans_qdot (hn w (List.mem_of_getElem? h)) (hr.begins rfl rfl) hs
  | here => exact fun r us hr hs => scans_name q_ok (hr.begins rfl rfl) hs
  | @const op w h0 hw hne => exact fun r us hr hs => scans_name (const_ok w hw hne) (hr.begins rfl rfl) hs
  | @field op w h0 hw => exact fun r us hr hs => scans_qdot (field_ok w hw) (hr.begins rfl rfl) hs
end Go.Proofs.YtcpgpiabeimefaaGreatDoor
set_option linter.unusedVariables false
namespace Go.Proofs.YtcpgpiabeimefaaGreatDoor
open Go.RowKit
namespace Ex
def op : Ex → Int
  | lf t => t.1
  | un t _ => t.1
  | bi t _ _ => t.1
  | tr t _ _ _ => t.1
end Ex
def binW (op : Int) : Bs := (binL[(op - 30).toNat]?).getD []
def aggW (op : Int) : Bs := (aggL[(op - 20).toNat]?).getD []
def constW (op : Int) : Bs := (constL[(op - 2).toNat]?).getD []
def fieldW (op : Int) : Bs := (fieldL[(op - 13).toNat]?).getD []
def nameW (names : List Bs) (i : Int) : Bs := (names[i.toNat]?).getD []
def leafT (names : List Bs) (t : Tm) : Bs :=
  if t.1 = 1 then dec t.2.toNat else if t.1 = 5 then nameW names t.2 else if t.1 = 11 then [113] else if t.1 = 12 then 113 :: 46 :: nameW names t.2 else if 13 ≤ t.1 then 113 :: 46 :: fieldW t.1 else constW t.1
def leafP (names : List Bs) (t : Tm) : List PW :=
  if t.1 = 1 then [pwV t.2.toNat] else if t.1 = 5 then [pwN (nameW names t.2)] else if t.1 = 11 then [pwN [113]] else if t.1 = 12 then [pwN [113], pwS [46], pwN (nameW names t.2)] else if 13 ≤ t.1 then [pwN [113], pwS [46], pwN (fieldW t.1)] else [pwN (constW t.1)]
def brT (b : Bool) (x : Bs) : Bs := match b with
  | true => 40 :: (x ++ [41])
  | false => x
def brP (b : Bool) (x : List PW) : List PW := match b with
  | true => pwS [40] :: (x ++ [pwS [41]])
  | false => x
def ybp (l : Nat) (E : Ex) : Bool := decide (yef E.op < l)
def leftL (op : Int) : Nat := if yef op = 3 then 4 else yef op
def ybe (al : Bool) (names : List Bs) : Ex → Bs
  | .lf t => leafT names t
  | .un t a => if t.1 = 18 then 45 :: brT (al || ybp 6 a) (ybe al names a) else if t.1 = 19 then 33 :: brT (al || ybp 6 a) (ybe al names a) else aggW t.1 ++ (40 :: (ybe al names a ++ [41]))
  | .bi t a b => brT (al || ybp (leftL t.1) a) (ybe al names a) ++ (32 :: (binW t.1 ++ (32 :: brT (al || ybp (yef t.1 + 1) b) (ybe al names b))))
  | .tr _ a b c => brT (al || ybp 1 a) (ybe al names a) ++ (32 :: 63 :: 32 :: (brT al (ybe al names b) ++ (32 :: 58 :: 32 :: brT al (ybe al names c))))
def bodyP (al : Bool) (names : List Bs) : Ex → List PW
  | .lf t => leafP names t
  | .un t a => if t.1 = 18 then pwS [45] :: brP (al || ybp 6 a) (bodyP al names a) else if t.1 = 19 then pwS [33] :: brP (al || ybp 6 a) (bodyP al names a) else pwN (aggW t.1) :: pwS [40] :: (bodyP al names a ++ [pwS [41]])
  | .bi t a b => brP (al || ybp (leftL t.1) a) (bodyP al names a) ++ (pwS (binW t.1) :: brP (al || ybp (yef t.1 + 1) b) (bodyP al names b))
  | .tr _ a b c => brP (al || ybp 1 a) (bodyP al names a) ++ (pwS [63] :: (brP al (bodyP al names b) ++ (pwS [58] :: brP al (bodyP al names c))))
theorem Wr.downs {names : List Bs} {E : Ex} {x : Bs} {ws : List PW} {k : Nat} (hk : k ≤ 7) (h : Wr names k E x ws) : ∀ {l : Nat}, l ≤ k → Wr names l E x ws := by
  intro l hl
  obtain ⟨d, rfl⟩ := Nat.exists_eq_add_of_le hl
  clear hl
  induction d generalizing l with
  | zero => exact h
  | succ d ih => exact .down (by omega) (ih (l := l + 1) (by omega) (by rw [show l + 1 + d = l + (d + 1) by omega]; exact h))
theorem levO_le (op : Int) : yef op ≤ 7 := by unfold yef; (repeat' split) <;> omega
theorem wr_br {names : List Bs} {E : Ex} {x : Bs} {ws : List PW} (h : Wr names (yef E.op) E x ws) {l : Nat} (hl : l ≤ 7) {b : Bool} (hb : b = false → l ≤ yef E.op) : Wr names l E (brT b x) (brP b ws) := by
  cases b with
  | true => exact (Wr.paren (h.downs (levO_le _) (Nat.zero_le _))).downs (by omega) hl
  | false => exact h.downs (levO_le _) (hb rfl)
theorem bin_op : ∀ k : Fin 13, binO (binW (30 + (k : Nat))) = 30 + (k : Nat) ∧ binW (30 + (k : Nat)) ∈ binL ∧ 1 ≤ yef (30 + (k : Nat)) ∧ yef (30 + (k : Nat)) ≤ 5 ∧ (binW (30 + (k : Nat))).length ≤ 2 := by decide
theorem agg_op : ∀ k : Fin 10, aggO (aggW (20 + (k : Nat))) = 20 + (k : Nat) ∧ aggW (20 + (k : Nat)) ∈ aggL ∧ yef (20 + (k : Nat)) = 7 ∧ (aggW (20 + (k : Nat))).length ≤ 6 := by decide
theorem const_op : ∀ k : Fin 9, k ≠ 3 → yeu (constW (2 + (k : Nat))) = 2 + (k : Nat) ∧ constW (2 + (k : Nat)) ∈ constL ∧ constW (2 + (k : Nat)) ≠ [] ∧ (constW (2 + (k : Nat))).length ≤ 5 := by decide
theorem field_op : ∀ k : Fin 5, fieldO (fieldW (13 + (k : Nat))) = 13 + (k : Nat) ∧ fieldW (13 + (k : Nat)) ∈ fieldL ∧ (fieldW (13 + (k : Nat))).length ≤ 6 := by decide
theorem fin_of {op lo : Int} {n : Nat} (h1 : lo ≤ op) (h2 : op < lo + n) : ∃ k : Fin n, op = lo + (k : Nat) := ⟨⟨(op - lo).toNat, by omega⟩, by simp only; omega⟩
theorem levO_7 {op : Int} (h : op ≤ 17 ∨ (20 ≤ op ∧ op ≤ 29)) : yef op = 7 := by
  unfold yef
  rw [if_neg (by omega), if_neg (by omega), if_neg (by omega), if_neg (by omega), if_neg (by omega), if_neg (by omega), if_neg (by omega)]
variable {names : List Bs}
theorem leaf_wr {t : Tm} (h : ar t.1 = 0) (ha : argB names.length t = true) : Wr names 7 (.lf t) (leafT names t) (leafP names t) := by
  obtain ⟨op, i⟩ := t
  have hb : 1 ≤ op ∧ op ≤ 17 := by unfold ar at h; (repeat' split at h) <;> omega
  simp only [argB] at ha
  unfold leafT leafP
  simp only
  by_cases h1 : op = 1
  · subst h1
    simp at ha
    have := Wr.num (names := names) (n := i.toNat) (by omega)
    rw [Int.toNat_of_nonneg ha.1] at this
    exact this
  rw [if_neg h1, if_neg h1]
  rw [if_neg h1] at ha
  by_cases h5 : op = 5
  · subst h5
    simp at ha
    obtain ⟨w, hw⟩ : ∃ w, names[i.toNat]? = some w := ⟨_, List.getElem?_eq_getElem (by omega)⟩
    have := Wr.own (names := names) (i := i.toNat) hw
    rw [Int.toNat_of_nonneg ha.1] at this
    simpa [nameW, hw] using this
  by_cases h12 : op = 12
  · subst h12
    simp at ha
    obtain ⟨w, hw⟩ : ∃ w, names[i.toNat]? = some w := ⟨_, List.getElem?_eq_getElem (by omega)⟩
    have := Wr.near (names := names) (i := i.toNat) hw
    rw [Int.toNat_of_nonneg ha.1] at this
    simpa [nameW, hw] using this
  rw [if_neg (by omega)] at ha
  simp at ha
  subst ha
  rw [if_neg h5, if_neg h5]
  by_cases h11 : op = 11
  · subst h11
    exact .here
  rw [if_neg h11, if_neg h11, if_neg h12, if_neg h12]
  by_cases h13 : 13 ≤ op
  · rw [if_pos h13, if_pos h13]
    obtain ⟨k, rfl⟩ := fin_of (n := 5) h13 (by omega)
    exact .field (field_op k).1 (field_op k).2.1
  · rw [if_neg h13, if_neg h13]
    obtain ⟨k, rfl⟩ := fin_of (lo := 2) (n := 9) (op := op) (by omega) (by omega)
    have hk : k ≠ 3 := fun e => by subst e; exact h5 rfl
    exact .const (const_op k hk).1 (const_op k hk).2.1 (const_op k hk).2.2.1
theorem arg_zero {t : Tm} (h : 18 ≤ t.1) {v : Int} (ha : argB v t = true) : t.2 = 0 := by
  unfold argB at ha
  rw [if_neg (by omega), if_neg (by omega)] at ha
  simpa using ha
theorem body_wr (al : Bool) : ∀ (E : Ex), E.ok → (∀ t ∈ E.fl, argB names.length t = true) → Wr names (yef E.op) E (ybe al names E) (bodyP al names E)
  | .lf t, h, ha => by
    have hb : t.1 ≤ 17 := by have : ar t.1 = 0 := h; unfold ar at this; (repeat' split at this) <;> omega
    show Wr names (yef t.1) _ _ _
    rw [levO_7 (.inl hb)]
    exact leaf_wr h (ha t (by simp [Ex.fl]))
  | .un t a, h, ha => by
    obtain ⟨h1, h2⟩ := h
    have ih := body_wr al a h2 fun t ht => ha t (by simp [Ex.fl, ht])
    have hb : 18 ≤ t.1 ∧ t.1 ≤ 29 := by unfold ar at h1; (repeat' split at h1) <;> omega
    have h0 := arg_zero hb.1 (ha t (by simp [Ex.fl]))
    obtain ⟨op, i⟩ := t
    simp only at h0 hb
    subst h0
    simp only [ybe, bodyP, Ex.op]
    by_cases e : op = 18
    · subst e
      rw [if_pos rfl, if_pos rfl]
      exact .neg (wr_br ih (by omega) fun hb => by simp [ybp] at hb; exact hb.2)
    rw [if_neg e, if_neg e]
    by_cases e : op = 19
    · subst e
      rw [if_pos rfl, if_pos rfl]
      exact .not (wr_br ih (by omega) fun hb => by simp [ybp] at hb; exact hb.2)
    rw [if_neg e, if_neg e]
    obtain ⟨k, rfl⟩ := fin_of (lo := 20) (n := 10) (op := op) (by omega) (by omega)
    rw [(agg_op k).2.2.1]
    exact .agg (agg_op k).1 (agg_op k).2.1 (ih.downs (levO_le _) (Nat.zero_le _))
  | .bi t a b, h, ha => by
    obtain ⟨h1, h2, h3⟩ := h
    have iha := body_wr al a h2 fun t ht => ha t (by simp [Ex.fl, ht])
    have ihb := body_wr al b h3 fun t ht => ha t (by simp [Ex.fl, ht])
    have hb : 30 ≤ t.1 ∧ t.1 ≤ 42 := by unfold ar at h1; (repeat' split at h1) <;> omega
    have h0 := arg_zero (by omega) (ha t (by simp [Ex.fl]))
    obtain ⟨op, i⟩ := t
    simp only at h0 hb
    subst h0
    simp only [ybe, bodyP, Ex.op]
    obtain ⟨k, rfl⟩ := fin_of (lo := 30) (n := 13) (op := op) (by omega) (by omega)
    obtain ⟨g1, g2, g3, g4, _⟩ := bin_op k
    generalize (30 + ((k : Nat) : Int)) = op at *
    have hwb := wr_br ihb (l := yef op + 1) (by omega) (b := al || ybp (yef op + 1) b) fun hb => by simp [ybp] at hb; omega
    by_cases e : yef op = 3
    · have hwa := wr_br iha (l := 4) (by omega) (b := al || ybp 4 a) fun hb => by simp [ybp] at hb; omega
      have : leftL op = 4 := by rw [leftL, if_pos e]
      rw [this]
      rw [e] at hwb ⊢
      exact .cmp g1 g2 e hwa hwb
    · have : leftL op = yef op := by rw [leftL, if_neg e]
      rw [this]
      have hwa := wr_br iha (l := yef op) (by omega) (b := al || ybp (yef op) a) fun hb => by simp [ybp] at hb; omega
      exact .bin g1 g2 rfl e hwa hwb
  | .tr t a b c, h, ha => by
    obtain ⟨h1, h2, h3, h4⟩ := h
    have iha := body_wr al a h2 fun t ht => ha t (by simp [Ex.fl, ht])
    have ihb := body_wr al b h3 fun t ht => ha t (by simp [Ex.fl, ht])
    have ihc := body_wr al c h4 fun t ht => ha t (by simp [Ex.fl, ht])
    have hb : t.1 = 43 := by unfold ar at h1; (repeat' split at h1) <;> omega
    have h0 := arg_zero (by omega) (ha t (by simp [Ex.fl]))
    obtain ⟨op, i⟩ := t
    simp only at h0 hb
    subst h0; subst hb
    simp only [ybe, bodyP, Ex.op]
    exact .choice (wr_br iha (by omega) fun hb => by simp [ybp] at hb; omega) (wr_br ihb (by omega) fun _ => Nat.zero_le _) (wr_br ihc (by omega) fun _ => Nat.zero_le _)
theorem brT_len (b : Bool) (x : Bs) : (brT b x).length ≤ x.length + 2 := by cases b <;> simp [brT]
theorem brP_len (b : Bool) (x : List PW) : (brP b x).length ≤ x.length + 2 := by cases b <;> simp [brP]
theorem leaf_len (hn : ∀ w ∈ names, w.length ≤ 24) {t : Tm} (h : ar t.1 = 0) (ha : argB names.length t = true) : (leafT names t).length ≤ 26 ∧ (leafP names t).length ≤ 3 := by
  obtain ⟨op, i⟩ := t
  have hb : 1 ≤ op ∧ op ≤ 17 := by unfold ar at h; (repeat' split at h) <;> omega
  simp only [argB] at ha
  unfold leafT leafP
  simp only
  have hnm : (nameW names i).length ≤ 24 := by
    unfold nameW
    cases hw : names[i.toNat]? with
    | none => simp
    | some w => exact hn w (List.mem_of_getElem? hw)
  by_cases h1 : op = 1
  · subst h1
    simp at ha
    have := dec_len 10 i.toNat (by omega) (by omega)
    simp only [if_true]
    exact ⟨by omega, by simp⟩
  rw [if_neg h1, if_neg h1]
  by_cases h5 : op = 5
  · rw [if_pos h5, if_pos h5]; exact ⟨by omega, by simp⟩
  rw [if_neg h5, if_neg h5]
  by_cases h11 : op = 11
  · rw [if_pos h11, if_pos h11]; exact ⟨by simp, by simp⟩
  rw [if_neg h11, if_neg h11]
  by_cases h12 : op = 12
  · rw [if_pos h12, if_pos h12]; exact ⟨by simp only [List.length_cons]; omega, by simp⟩
  rw [if_neg h12, if_neg h12]
  by_cases h13 : 13 ≤ op
  · rw [if_pos h13, if_pos h13]
    obtain ⟨k, rfl⟩ := fin_of (n := 5) h13 (by omega)
    have := (field_op k).2.2
    exact ⟨by simp only [List.length_cons]; omega, by simp⟩
  · rw [if_neg h13, if_neg h13]
    obtain ⟨k, rfl⟩ := fin_of (lo := 2) (n := 9) (op := op) (by omega) (by omega)
    have hk : k ≠ 3 := fun e => by subst e; exact h5 rfl
    have := (const_op k hk).2.2.2
    exact ⟨by omega, by simp⟩
theorem ydq (hn : ∀ w ∈ names, w.length ≤ 24) (al : Bool) : ∀ (E : Ex), E.ok → (∀ t ∈ E.fl, argB names.length t = true) → (ybe al names E).length + 2 ≤ 34 * E.fl.length ∧ (bodyP al names E).length + 2 ≤ 8 * E.fl.length
  | .lf t, h, ha => by
    have := leaf_len hn h (ha t (by simp [Ex.fl]))
    simp only [ybe, bodyP, Ex.fl, List.length_cons, List.length_nil]
    omega
  | .un t a, h, ha => by
    obtain ⟨h1, h2⟩ := h
    have ih := ydq hn al a h2 fun t ht => ha t (by simp [Ex.fl, ht])
    have hb : 18 ≤ t.1 ∧ t.1 ≤ 29 := by unfold ar at h1; (repeat' split at h1) <;> omega
    obtain ⟨op, i⟩ := t
    simp only at hb
    have b1 := brT_len (al || ybp 6 a) (ybe al names a)
    have b2 := brP_len (al || ybp 6 a) (bodyP al names a)
    simp only [ybe, bodyP, Ex.fl, List.length_cons]
    by_cases e : op = 18
    · rw [if_pos e, if_pos e]; simp only [List.length_cons]; omega
    rw [if_neg e, if_neg e]
    by_cases e : op = 19
    · rw [if_pos e, if_pos e]; simp only [List.length_cons]; omega
    rw [if_neg e, if_neg e]
    obtain ⟨k, rfl⟩ := fin_of (lo := 20) (n := 10) (op := op) (by omega) (by omega)
    have := (agg_op k).2.2.2
    simp only [List.length_cons, List.length_append, List.length_nil]
    omega
  | .bi t a b, h, ha => by
    obtain ⟨h1, h2, h3⟩ := h
    have iha := ydq hn al a h2 fun t ht => ha t (by simp [Ex.fl, ht])
    have ihb := ydq hn al b h3 fun t ht => ha t (by simp [Ex.fl, ht])
    have hb : 30 ≤ t.1 ∧ t.1 ≤ 42 := by unfold ar at h1; (repeat' split at h1) <;> omega
    obtain ⟨op, i⟩ := t
    simp only at hb
    simp only [ybe, bodyP, Ex.fl, List.length_cons]
    obtain ⟨k, rfl⟩ := fin_of (lo := 30) (n := 13) (op := op) (by omega) (by omega)
    have := (bin_op k).2.2.2.2
    have b1 := brT_len (al || ybp (leftL (30 + ((k : Nat) : Int))) a) (ybe al names a)
    have b2 := brP_len (al || ybp (leftL (30 + ((k : Nat) : Int))) a) (bodyP al names a)
    have b3 := brT_len (al || ybp (yef (30 + ((k : Nat) : Int)) + 1) b) (ybe al names b)
    have b4 := brP_len (al || ybp (yef (30 + ((k : Nat) : Int)) + 1) b) (bodyP al names b)
    simp only [List.length_cons, List.length_append]
    omega
  | .tr t a b c, h, ha => by
    obtain ⟨h1, h2, h3, h4⟩ := h
    have iha := ydq hn al a h2 fun t ht => ha t (by simp [Ex.fl, ht])
    have ihb := ydq hn al b h3 fun t ht => ha t (by simp [Ex.fl, ht])
    have ihc := ydq hn al c h4 fun t ht => ha t (by simp [Ex.fl, ht])
    have b1 := brT_len (al || ybp 1 a) (ybe al names a)
    have b2 := brP_len (al || ybp 1 a) (bodyP al names a)
    have b3 := brT_len al (ybe al names b)
    have b4 := brP_len al (bodyP al names b)
    have b5 := brT_len al (ybe al names c)
    have b6 := brP_len al (bodyP al names c)
    simp only [ybe, bodyP, Ex.fl, List.length_cons, List.length_append]
    omega
theorem brT_true (x : Bs) : (brT true x).length = x.length + 2 := by simp [brT]
theorem body_short (names : List Bs) : ∀ (E : Ex), (ybe false names E).length ≤ (ybe true names E).length
  | .lf t => Nat.le_refl _
  | .un t a => by
    have ih := body_short names a
    have b1 := brT_len (false || ybp 6 a) (ybe false names a)
    have b2 := brT_true (ybe true names a)
    simp only [ybe, Bool.true_or]
    split
    · simp only [List.length_cons]; omega
    · split
      · simp only [List.length_cons]; omega
      · simp only [List.length_cons, List.length_append, List.length_nil]; omega
  | .bi t a b => by
    have iha := body_short names a
    have ihb := body_short names b
    have b1 := brT_len (false || ybp (leftL t.1) a) (ybe false names a)
    have b3 := brT_len (false || ybp (yef t.1 + 1) b) (ybe false names b)
    have b2 := brT_true (ybe true names a)
    have b4 := brT_true (ybe true names b)
    simp only [ybe, Bool.true_or, List.length_cons, List.length_append]
    omega
  | .tr t a b c => by
    have iha := body_short names a
    have ihb := body_short names b
    have ihc := body_short names c
    have b1 := brT_len (false || ybp 1 a) (ybe false names a)
    have b2 := brT_true (ybe true names a)
    have b3 := brT_true (ybe true names b)
    have b4 := brT_true (ybe true names c)
    have b5 := brT_len false (ybe false names b)
    have b6 := brT_len false (ybe false names c)
    have e : ∀ x, brT false x = x := fun _ => rfl
    simp only [ybe, Bool.true_or, List.length_cons, List.length_append, e]
    omega
end Go.Proofs.YtcpgpiabeimefaaGreatDoor
set_option linter.unusedVariables false
namespace Go.Proofs.YtcpgpiabeimefaaGreatDoor
variable {nm : Bs → Bool} {names : List Bs}
theorem split_of {α : Type} {a b p r : List α} (h : a ++ b = p ++ r) (hs : r <:+ b) : ∃ q, b = q ++ r ∧ p = a ++ q := by
  obtain ⟨q, rfl⟩ := hs
  refine ⟨q, rfl, ?_⟩
  rw [← List.append_assoc] at h
  exact (List.append_cancel_right h).symm
theorem nil_of_app {α : Type} {p r : List α} (h : r = p ++ r) : p = [] := by
  have := congrArg List.length h
  rw [List.length_append] at this
  exact List.eq_nil_of_length_eq_zero (by omega)
def Like (r r' : List PW) : Prop := r'.head? = r.head? ∨ r' = []
theorem same_cons {t : PW} {r r' : List PW} (h : r'.head? = (t :: r).head?) : ∃ r2, r' = t :: r2 := by
  cases r' with
  | nil => cases h
  | cons a r2 => cases h; exact ⟨r2, rfl⟩
def EndR (y : Option Res) : Prop := y = none ∨ (∃ x, y = some (.ok x [])) ∨ y = some (.bad 4 [])
def Res.rest : Res → List PW
  | .ok _ r => r
  | .bad _ r => r
def Cut (F : List PW → Option Res) (ts : List PW) : Res → Prop
  | .ok e r => ∀ p, ts = p ++ r → ∀ r', Like r r' → F (p ++ r') = some (.ok e r')
  | .bad c r => r ≠ [] → ∀ p, ts = p ++ r → (∀ r', r'.head? = r.head? → F (p ++ r') = some (.bad c r')) ∧ EndR (F p)
def Tame (F : List PW → Option Res) : Prop := ∀ ts res, F ts = some res → res.rest <:+ ts ∧ Cut F ts res
inductive Looks (F : List PW → Option Res) (t : PW) : Prop
  | takes (A : List PW → Option Res) (hA : Tame A) (h : ∀ r, F (t :: r) = A r) : Looks F t
  | fails (c : Int) (h : ∀ r, F (t :: r) = some (.bad c (t :: r))) : Looks F t
  | leaves (B : List PW → Option Res) (hB : Tame B) (h0 : F [] = B []) (h : ∀ r, F (t :: r) = B (t :: r)) : Looks F t
theorem tame_looks {F : List PW → Option Res} (h0 : EndR (F [])) (h : ∀ t, Looks F t) : Tame F := by
  intro ts res hf
  cases ts with
  | nil =>
    rcases h0 with h0 | ⟨x, h0⟩ | h0
    · rw [h0] at hf; cases hf
    · have h1 := h0
      rw [hf] at h1
      obtain rfl := Option.some.inj h1
      refine ⟨List.suffix_refl _, fun p hp r' hl => ?_⟩
      have hp : p = [] := by simpa using hp.symm
      subst hp
      rcases hl with hl | rfl
      · cases r' with
        | nil => exact h0
        | cons a r' => cases hl
      · exact h0
    · have h1 := h0
      rw [hf] at h1
      obtain rfl := Option.some.inj h1
      exact ⟨List.suffix_refl _, fun hr => absurd rfl hr⟩
  | cons t r =>
    cases h t with
    | takes A hA he =>
      rw [he] at hf
      obtain ⟨hs, hc⟩ := hA _ _ hf
      refine ⟨hs.trans (List.suffix_cons _ _), ?_⟩
      cases res with
      | ok e r2 =>
        intro p hp r' hl
        obtain ⟨q, rfl, rfl⟩ := split_of (a := [t]) hp hs
        show F (t :: (q ++ r')) = _
        rw [he]
        exact hc q rfl r' hl
      | bad c r2 =>
        intro hr p hp
        obtain ⟨q, rfl, rfl⟩ := split_of (a := [t]) hp hs
        obtain ⟨c1, c2⟩ := hc hr q rfl
        refine ⟨fun r' hl => ?_, ?_⟩
        · show F (t :: (q ++ r')) = _
          rw [he]; exact c1 r' hl
        · show EndR (F (t :: q))
          rw [he]; exact c2
    | fails c he =>
      have h1 := he r
      rw [hf] at h1
      obtain rfl := Option.some.inj h1
      refine ⟨List.suffix_refl _, fun hr p hp => ?_⟩
      have hp : p = [] := nil_of_app hp
      subst hp
      refine ⟨fun r' hl => ?_, h0⟩
      obtain ⟨r2, rfl⟩ := same_cons hl
      exact he r2
    | leaves B hB hB0 he =>
      rw [he] at hf
      obtain ⟨hs, hc⟩ := hB _ _ hf
      refine ⟨hs, ?_⟩
      cases res with
      | ok e r2 =>
        intro p hp r' hl
        have := hc p hp r' hl
        cases p with
        | nil =>
          obtain rfl : t :: r = r2 := hp
          rcases hl with hl | rfl
          · obtain ⟨r3, rfl⟩ := same_cons hl
            exact (he r3).trans this
          · exact hB0.trans this
        | cons a p =>
          obtain ⟨rfl, rfl⟩ := List.cons.inj hp
          exact (he _).trans this
      | bad c r2 =>
        intro hr p hp
        obtain ⟨c1, c2⟩ := hc hr p hp
        cases p with
        | nil =>
          obtain rfl : t :: r = r2 := hp
          refine ⟨fun r' hl => ?_, h0⟩
          have := c1 r' hl
          obtain ⟨r3, rfl⟩ := same_cons hl
          exact (he r3).trans this
        | cons a p =>
          obtain ⟨rfl, rfl⟩ := List.cons.inj hp
          exact ⟨fun r' hl => (he _).trans (c1 r' hl), by rw [he]; exact c2⟩
theorem tame_ok (e : List Tm) : Tame fun ts => some (.ok e ts) := by
  intro ts res h
  obtain rfl := (Option.some.inj h).symm
  refine ⟨List.suffix_refl _, fun p hp r' hl => ?_⟩
  have hp : p = [] := nil_of_app hp
  subst hp; rfl
theorem end_ok (e : List Tm) : EndR (some (.ok e [])) := .inr (.inl ⟨e, rfl⟩)
theorem end_bad : EndR (some (.bad 4 [])) := .inr (.inr rfl)
theorem tame_var (op : Int) : Tame fun ts => some (varR nm names op ts) := by
  refine tame_looks end_bad fun t => ?_
  by_cases h : nm t.w = true
  · cases hx : idxW names t.w with
    | some x => exact .takes _ (tame_ok [(op, (x : Int))]) fun r => by simp only [varR, if_pos h, hx]
    | none => exact .fails 5 fun r => by simp only [varR, if_pos h, hx]
  · exact .fails 4 fun r => by simp only [varR, if_neg h]
theorem tame_near : Tame fun ts => some (nearR nm names ts) := by
  refine tame_looks (end_ok _) fun t => ?_
  by_cases h : t.w = [46]
  · refine .takes (fun r => some (if fieldO (ybg r) = 0 then varR nm names 12 r else .ok [(fieldO (ybg r), 0)] r.tail)) ?_ fun r => congrArg some (if_pos h)
    refine tame_looks end_bad fun t => ?_
    by_cases h : fieldO t.w = 0
    · exact .leaves _ (tame_var (nm := nm) (names := names) 12) rfl fun r => congrArg some (if_pos h)
    · exact .takes _ (tame_ok [(fieldO t.w, 0)]) fun r => congrArg some (if_neg h)
  · exact .leaves _ (tame_ok [(11, 0)]) rfl fun r => congrArg some (if_neg h)
end Go.Proofs.YtcpgpiabeimefaaGreatDoor
set_option linter.unusedVariables false
namespace Go.Proofs.YtcpgpiabeimefaaGreatDoor
open Go.RowKit
variable {nm : Bs → Bool} {names : List Bs}
def yeo (nm : Bs → Bool) (names : List Bs) : Bool := decide (names.length ≤ 6) && (names.all nm && decide names.Nodup)
def atPlace (s : ByteArray) (ts : List Tok) (rest : List PW) : Nat :=
  match ts.drop (ts.length - rest.length) with
  | [] => s.size
  | t :: _ => t.from_
def ansX (s : ByteArray) (ts : List Tok) (vars : Nat) : Res → List Tm × Int × Int
  | .ok e [] => if yda e vars = true then (e, 0, 0) else ([], 0, 3)
  | .ok e (t :: r) => ([], atPlace s ts (t :: r), 4)
  | .bad c rest => ([], atPlace s ts rest, c)
def parseX (nm : Bs → Bool) (names : List Bs) (s : ByteArray) : List Tm × Int × Int :=
  if yeo nm names = false then ([], 0, 7) else
  match scanF s with
  | .error (p, e) => ([], p, e)
  | .ok ts => match PP nm names (10 * ts.length + 9) .choice (ts.map (pwT s)) with
    | some res => ansX s ts names.length res
    | none => ([], 0, 0)
theorem parseX_bad {s : ByteArray} (h : yeo nm names = false) : parseX nm names s = ([], 0, 7) := by rw [parseX, if_pos h]
theorem parseX_err {s : ByteArray} {p e : Nat} (h : yeo nm names = true) (hs : scanF s = .error (p, e)) : parseX nm names s = ([], (p : Int), (e : Int)) := by
  rw [parseX, if_neg (by simp [h]), hs]
theorem pars_fuel {ts : List PW} {res : Res} (h : Pars nm names .choice ts res) {f : Nat} (hf : 10 * ts.length + 9 ≤ f) : PP nm names f .choice ts = some res := by
  obtain ⟨y, hy⟩ := PP_total (nm := nm) (names := names) f .choice ts (fun l e => by cases e) (fun l x e => by cases e) hf
  rw [hy, Pars.det ⟨f, hy⟩ h]
theorem parseX_of {s : ByteArray} {ts : List Tok} {res : Res} (h : yeo nm names = true) (hs : scanF s = .ok ts) (hr : Pars nm names .choice (ts.map (pwT s)) res) : parseX nm names s = ansX s ts names.length res := by
  have := pars_fuel hr (f := 10 * ts.length + 9) (by simp)
  rw [parseX, if_neg (by simp [h]), hs]
  simp only [this]
structure NmW (nm : Bs → Bool) : Prop where
  word : ∀ w, nm w = true → WordOk w
  res : ∀ w, nm w = true → yeu w = 0 ∧ aggO w = 0 ∧ fieldO w = 0 ∧ w ≠ [113] ∧ w ≠ [40] ∧ w ≠ [45] ∧ w ≠ [33]
theorem goodL_spec (h : yeo nm names = true) : names.length ≤ 6 ∧ (∀ w ∈ names, nm w = true) ∧ names.Nodup := by
  simp only [yeo, Bool.and_eq_true, decide_eq_true_eq, List.all_eq_true] at h
  exact h
theorem NmW.ok (hN : NmW nm) (h : yeo nm names = true) : NmOk nm names := ⟨(goodL_spec h).2.1, (goodL_spec h).2.2, hN.res⟩
theorem NmW.words (hN : NmW nm) (h : yeo nm names = true) : ∀ w ∈ names, WordOk w := fun w hw => hN.word w ((goodL_spec h).2.1 w hw)
def HasW (x : Bs) (ws : List PW) : Prop := ∀ (r : Bs) (us : List PW), FT r → Scans r us → Scans (x ++ r) (ws ++ us)
theorem valid_spec {l : List Tm} {v : Int} (h : yda l v = true) : ∃ E, parse l = some E ∧ E.ok ∧ E.fl = l ∧ l.length ≤ 200 ∧ (∀ t ∈ l, argB v t = true) := by
  unfold yda at h
  cases hp : parse l with
  | none => rw [hp] at h; cases h
  | some E =>
    rw [hp] at h
    simp only [Bool.and_eq_true, decide_eq_true_eq, List.all_eq_true] at h
    exact ⟨E, rfl, (yfj hp).1, (yfj hp).2, h.1, h.2.1⟩
theorem parseX_wr (hN : NmW nm) (h : yeo nm names = true) {E : Ex} {x x0 : Bs} {ws : List PW} (hw : Wr names 0 E x0 ws) (hx : HasW x ws) (hv : yda E.fl names.length = true) (h1 : x.length ≤ 16384) (h2 : ws.length ≤ 4096) : parseX nm names (ba x) = (E.fl, 0, 0) := by
  have hs : Scans (bl (ba x)) ws := by
    have := hx [] [] (fun c y e => by cases e) (.nil rfl)
    rwa [List.append_nil, List.append_nil, ← ydp x] at this
  obtain ⟨ts, g1, g2⟩ := scanF_of hs (by rw [ybb]; exact h1) h2
  have hp := (wr_ans (hN.ok h) hw).1 rfl [] ⟨fun _ => by simp [ybg], by simp [ybg], .inl rfl⟩
  rw [List.append_nil, ← g2] at hp
  rw [parseX_of h g1 hp, ansX, if_pos hv]
theorem hasW_wr (hN : NmW nm) (h : yeo nm names = true) {l : Nat} {E : Ex} {x : Bs} {ws : List PW} (hw : Wr names l E x ws) : HasW x ws := wr_scans (hN.words h) hw
def brkT (x : Bs) : Bs := 40 :: 32 :: (x ++ [41, 35, 32, 120, 10])
theorem hasW_brk {x : Bs} {ws : List PW} (h : HasW x ws) : HasW (brkT x) (pwS [40] :: (ws ++ [pwS [41]])) := by
  intro r us hr hs
  have h0 : Scans (35 :: 32 :: 120 :: 10 :: r) us := by
    have e : (35 :: 32 :: 120 :: 10 :: r : Bs).drop (ydk false (35 :: 32 :: 120 :: 10 :: r)) = r.drop (ydk false r) := by
      have : ydk false (35 :: 32 :: 120 :: 10 :: r) = ydk false r + 4 := by
        simp only [ydk]
        simp
        omega
      rw [this]; rfl
    cases hs with
    | nil h => exact .nil (e.trans h)
    | cons h hy ht hr => exact .cons (e.trans h) hy ht hr
  have h1 : Scans (41 :: 35 :: 32 :: 120 :: 10 :: r) (pwS [41] :: us) := ydn rfl (fun c x e => by simp [sign2B]) rfl rfl rfl h0
  have h2 := h _ _ ft_par h1
  have h3 : Scans (40 :: 32 :: (x ++ 41 :: 35 :: 32 :: 120 :: 10 :: r)) (pwS [40] :: (ws ++ pwS [41] :: us)) := ydn rfl (fun c x e => by simp [sign2B]) rfl rfl rfl (scans_sp h2)
  simpa [brkT] using h3
def brkN : Nat → Bs → Bs
  | 0, x => x
  | n + 1, x => brkT (brkN n x)
theorem brkN_len (x : Bs) : ∀ n, (brkN n x).length = x.length + 7 * n
  | 0 => rfl
  | n + 1 => by rw [brkN, brkT]; simp [brkN_len x n]; omega
theorem brkN_words {E : Ex} {x : Bs} {ws : List PW} (hw : Wr names 0 E x ws) (hx : HasW x ws) : ∀ n, ∃ x0 ws', Wr names 0 E x0 ws' ∧ HasW (brkN n x) ws' ∧ ws'.length = ws.length + 2 * n
  | 0 => ⟨x, ws, hw, hx, rfl⟩
  | n + 1 => by
    obtain ⟨x0, ws', h1, h2, h3⟩ := brkN_words hw hx n
    exact ⟨_, _, (Wr.paren h1).downs (by omega) (Nat.zero_le _), hasW_brk h2, by simp; omega⟩
def yec (al : Bool) (names : List Bs) (e : List Tm) : Bs := match parse e with
  | some E => ybe al names E
  | none => []
def formatX (nm : Bs → Bool) (names : List Bs) (e : List Tm) : Bs × Int := if yeo nm names = true ∧ yda e names.length = true then (yec false names e, 0) else ([], 7)
theorem formatT_len (hN : NmW nm) (h : yeo nm names = true) {e : List Tm} (hv : yda e names.length = true) (al : Bool) : (yec al names e).length + 2 ≤ 34 * e.length ∧ e.length ≤ 200 := by
  obtain ⟨E, h1, h2, rfl, h3, h4⟩ := valid_spec hv
  have := (ydq (fun w hw => (hN.words h w hw).1) al E h2 h4).1
  rw [yec, h1]
  exact ⟨this, h3⟩
theorem parseX_format (hN : NmW nm) (h : yeo nm names = true) {e : List Tm} (hv : yda e names.length = true) (al : Bool) (n : Nat) (hn : n ≤ 100) : parseX nm names (ba (brkN n (yec al names e))) = (e, 0, 0) := by
  obtain ⟨E, h1, h2, rfl, h3, h4⟩ := valid_spec hv
  have hb := ydq (fun w hw => (hN.words h w hw).1) al E h2 h4
  have hw := (body_wr (names := names) al E h2 h4).downs (levO_le _) (Nat.zero_le _)
  obtain ⟨x0, ws', g1, g2, g3⟩ := brkN_words hw (hasW_wr hN h hw) n
  rw [show yec al names E.fl = ybe al names E by rw [yec, h1]]
  exact parseX_wr hN h g1 g2 hv (by rw [brkN_len]; omega) (by omega)
theorem tokL_err {r : List UInt8} {e : Nat} (h : tokL r = .error e) : 1 ≤ e ∧ e ≤ 5 := by
  unfold tokL at h
  cases r with
  | nil => cases h; omega
  | cons c x =>
    simp only at h
    split at h
    · split at h
      · cases h; omega
      · cases h
    · split at h
      · split at h
        · cases h; omega
        · cases h
      · split at h
        · cases h; omega
        · cases h
theorem consTok_err {t : Tok} {x : Except (Nat × Nat) (List Tok)} {e : Nat × Nat} (h : consTok t x = .error e) : x = .error e := by
  cases x with
  | error e' => exact h
  | ok us => cases h
theorem scanL_err : ∀ (left p : Nat) (r : List UInt8) (q e : Nat), scanL left p r = .error (q, e) → 1 ≤ e ∧ e ≤ 5
  | 0, p, r, q, e, h => by
    rw [scanL] at h
    split at h
    · cases h
    · cases h; omega
  | left + 1, p, r, q, e, h => by
    rw [scanL] at h
    split at h
    · cases h
    · split at h
      · rename_i ht; cases h; exact tokL_err ht
      · exact scanL_err left _ _ q e (consTok_err h)
theorem scan_pos {s : ByteArray} {q e : Nat} (h : scanF s = .error (q, e)) : 1 ≤ e ∧ e ≤ 5 := by
  unfold scanF at h
  split at h
  · cases h; omega
  · exact scanL_err _ _ _ _ _ h
theorem parseX_valid {s : ByteArray} (h : (parseX nm names s).2.2 = 0) : yeo nm names = true ∧ yda (parseX nm names s).1 names.length = true := by
  cases hg : yeo nm names with
  | false => rw [parseX_bad hg] at h; cases h
  | true =>
    refine ⟨rfl, ?_⟩
    rw [parseX, if_neg (by simp [hg])] at h ⊢
    cases hs : scanF s with
    | error pe =>
      obtain ⟨p, e⟩ := pe
      rw [hs] at h
      simp only at h
      have := scan_pos hs
      omega
    | ok ts =>
      rw [hs] at h
      simp only at h ⊢
      cases hp : PP nm names (10 * ts.length + 9) .choice (ts.map (pwT s)) with
      | none =>
        obtain ⟨y, hy⟩ := PP_total (nm := nm) (names := names) (10 * ts.length + 9) .choice (ts.map (pwT s)) (fun l e => by cases e) (fun l x e => by cases e) (by simp [rankN])
        rw [hp] at hy; cases hy
      | some res =>
        rw [hp] at h
        simp only at h ⊢
        cases res with
        | bad c r =>
          have := (ydo _ _ _ _ hp).2.1
          simp only [ansX] at h
          omega
        | ok e r => cases r with
          | cons t r => simp [ansX] at h
          | nil =>
            simp only [ansX] at h ⊢
            split
            · assumption
            · rename_i hv; rw [if_neg hv] at h; simp at h
end Go.Proofs.YtcpgpiabeimefaaGreatDoor
set_option linter.unusedVariables false
set_option maxRecDepth 100000
set_option maxHeartbeats 8000000
namespace Go.Proofs.YtcpgpiabeimefaaGreatDoor
open Go.RowKit
def resW : List (List UInt8) := [[112, 114, 111, 103, 114, 97, 109], [118, 97, 114], [114, 117, 108, 101], [98, 111, 111, 108], [112, 111, 114, 116], [116, 114, 117, 101], [102, 97, 108, 115, 101], [110, 111, 110, 101], [110], [105, 100, 115], [105, 100], [100, 101, 103], [114, 111, 111, 116], [113], [119, 101, 105, 103, 104, 116], [98, 97, 99, 107], [97, 108, 108], [115, 111, 109, 101], [99, 111, 117, 110, 116], [102, 105, 114, 115, 116], [109, 105, 110], [109, 97, 120], [115, 117, 109], [109, 101, 120], [115, 101, 99, 111, 110, 100], [104, 101, 97, 100]]
def resB (s : ByteArray) : Bool := resW.any (fun x => s.toList == x)
theorem resB_no (s : ByteArray) (q0 : (s.toList == [112, 114, 111, 103, 114, 97, 109]) = false) (q1 : (s.toList == [118, 97, 114]) = false) (q2 : (s.toList == [114, 117, 108, 101]) = false) (q3 : (s.toList == [98, 111, 111, 108]) = false) (q4 : (s.toList == [112, 111, 114, 116]) = false) (q5 : (s.toList == [116, 114, 117, 101]) = false) (q6 : (s.toList == [102, 97, 108, 115, 101]) = false) (q7 : (s.toList == [110, 111, 110, 101]) = false) (q8 : (s.toList == [110]) = false) (q9 : (s.toList == [105, 100, 115]) = false) (q10 : (s.toList == [105, 100]) = false) (q11 : (s.toList == [100, 101, 103]) = false) (q12 : (s.toList == [114, 111, 111, 116]) = false) (q13 : (s.toList == [113]) = false) (q14 : (s.toList == [119, 101, 105, 103, 104, 116]) = false) (q15 : (s.toList == [98, 97, 99, 107]) = false) (q16 : (s.toList == [97, 108, 108]) = false) (q17 : (s.toList == [115, 111, 109, 101]) = false) (q18 : (s.toList == [99, 111, 117, 110, 116]) = false) (q19 : (s.toList == [102, 105, 114, 115, 116]) = false) (q20 : (s.toList == [109, 105, 110]) = false) (q21 : (s.toList == [109, 97, 120]) = false) (q22 : (s.toList == [115, 117, 109]) = false) (q23 : (s.toList == [109, 101, 120]) = false) (q24 : (s.toList == [115, 101, 99, 111, 110, 100]) = false) (q25 : (s.toList == [104, 101, 97, 100]) = false) : resB s = false := by
  simp only [resB, resW, List.any_cons, List.any_nil, q0, q1, q2, q3, q4, q5, q6, q7, q8, q9, q10, q11, q12, q13, q14, q15, q16, q17, q18, q19, q20, q21, q22, q23, q24, q25, Bool.or_false]
theorem ybf (s : ByteArray) (x : List UInt8) (hx : resW.contains x = true) (h : (s.toList == x) = true) : resB s = true := by
  unfold resB
  rw [List.any_eq_true]
  exact ⟨x, List.contains_iff_mem.1 hx, h⟩

set_option maxHeartbeats 4000000 in
def nameB (s : ByteArray) : Bool :=
  match yal s 0 with
  | [] => false
  | c :: r => decide (s.size ≤ 24) && (ycm c && ((c :: r).all ydx && !resB s))
theorem nameB_empty (s : ByteArray) (h : s.size = 0) : nameB s = false := by
  unfold nameB; rw [bytesFrom_ge s 0 (by omega)]
theorem nameB_long (s : ByteArray) (h : 24 < s.size) : nameB s = false := by
  unfold nameB; rw [ybq s 0 (by omega)]; simp; omega
theorem nameB_letter (s : ByteArray) (h : 0 < s.size) (hl : ycm s[0] = false) : nameB s = false := by
  unfold nameB; rw [ybq s 0 h]; simp [hl]
theorem nameB_word (s : ByteArray) (k : Nat) (h : k < s.size) (hw : ydx s[k] = false) : nameB s = false := by
  have hm := mem_bytes s k h
  unfold nameB
  cases hb : yal s 0 with
  | nil => rfl
  | cons c r =>
    rw [hb] at hm
    have : (c :: r).all ydx = false := by
      rw [List.all_eq_false]; exact ⟨s[k], hm, by simp [hw]⟩
    simp only [this, Bool.false_and, Bool.and_false]
theorem nameB_rest (s : ByteArray) (h : 0 < s.size) (h24 : s.size ≤ 24) (hl : ycm s[0] = true) (ha : ((yal s 0).take s.size).all ydx = true) : nameB s = !resB s := by
  rw [take_all s _ (Nat.le_refl _)] at ha
  unfold nameB
  rw [ybq s 0 h] at *
  simp only [ha, hl, h24, decide_true, Bool.true_and]
theorem all_snoc (s : ByteArray) (k : Nat) (h : k < s.size) (ha : ((yal s 0).take k).all ydx = true) (hw : ydx s[k] = true) : ((yal s 0).take (k + 1)).all ydx = true := by
  rw [take_snoc s k h, List.all_append, ha]; simp [hw]

set_option maxHeartbeats 1000000 in
theorem name_not_reserved (s : ByteArray) (h : nameB s = true) : resB s = false := by
  unfold nameB at h
  split at h
  · cases h
  · simp at h; exact h.2.2.2
end Go.Proofs.YtcpgpiabeimefaaGreatDoor
set_option linter.unusedVariables false
namespace Go.Proofs.YtcpgpiabeimefaaGreatDoor
open Go.RowKit
def nmW (w : Bs) : Bool := nameB (ba w)
theorem yem (w : Bs) : (ba w).toList = w := by rw [Lib.toList_data]; exact ydp w
theorem resB_ba (w : Bs) : resB (ba w) = resW.any (fun x => w == x) := by rw [resB, yem]
theorem nmW_spec {w : Bs} (h : nmW w = true) : WordOk w ∧ resW.contains w = false := by
  have hr := name_not_reserved _ h
  rw [resB_ba] at hr
  unfold nmW nameB at h
  have hb : yal (ba w) 0 = w := ydp w
  rw [hb] at h
  cases w with
  | nil => cases h
  | cons c r =>
    simp only [Bool.and_eq_true, decide_eq_true_eq, List.all_eq_true] at h
    rw [ybb] at h
    refine ⟨⟨h.1, h.2.2.1, c, r, rfl, h.2.1⟩, ?_⟩
    rw [List.any_eq_false] at hr
    cases hc : resW.contains (c :: r) with
    | false => rfl
    | true =>
      rw [List.contains_iff_mem] at hc
      exact absurd (by simp) (hr _ hc)
theorem const_res : ∀ w ∈ constL, w ≠ [] → resW.contains w = true := by decide
theorem agg_res : ∀ w ∈ aggL, resW.contains w = true := by decide
theorem field_res : ∀ w ∈ fieldL, resW.contains w = true := by decide
theorem nmW_names : NmW nmW := by
  refine ⟨fun w h => (nmW_spec h).1, fun w h => ?_⟩
  obtain ⟨⟨_, h2, c, r, rfl, hc⟩, hr⟩ := nmW_spec h
  have hz : ∀ (first : Int) (l : List Bs), (∀ x ∈ l, x ≠ [] → resW.contains x = true) → findL first l (c :: r) = 0 := by
    intro first l hl
    refine Decidable.byContradiction fun hne => ?_
    have := find_mem hne
    rw [hl _ this.1 this.2] at hr
    cases hr
  refine ⟨hz 2 constL const_res, hz 20 aggL fun x hx _ => agg_res x hx, hz 13 fieldL fun x hx _ => field_res x hx, ?_, ?_, ?_, ?_⟩
  · intro e; rw [e] at hr; revert hr; decide
  all_goals
    intro e
    obtain ⟨rfl, _⟩ := List.cons.inj e
    revert hc; decide
end Go.Proofs.YtcpgpiabeimefaaGreatDoor
set_option linter.unusedVariables false
set_option maxHeartbeats 4000000
namespace Go.Proofs.YtcpgpiabeimefaaGreatDoor
open Go.RowKit

theorem hlook_ne {j d : Nat} {o : Option LObj} {h : List (Nat × Option LObj)} (hne : j ≠ d) : yaq ((d, o) :: h) j = yaq h j := by
  simp only [yaq]
  rw [beq_ne hne]
def matO : List AV → LObj
  | [] => .vec []
  | x :: xs => .mcells (x :: xs)
variable {f : List (Nat × Option LObj)} {M sz : Nat} {rows : List (List AV)} {extra : List AV}
theorem mentO_matO (d : Nat) (xs : List AV) : mentO d (matO xs) = ment.mentL d xs := by cases xs <;> rfl
section
variable {P : Program} {T : Nat → Option Ty} {N : Nat} {ops : Array Oper} {lf : Oper → Bool} {Q : SS → Prop} {t : List (Nat × AV)} {h : List (Nat × Option LObj)} {rest : List Oper} {d : Nat} {op : Op} {ty : TypeId} {pos : String} {af : Array Edge} {gd : Option (Nat × Bool)} {r : AV}
end

theorem renA_pure {σ : Nat → Nat} : ∀ {x : AV}, ybv x = true → renA σ x = x
  | .v _, _ => rfl
  | .any, _ => rfl
  | .one, _ => rfl
  | .sl _ _, _ => rfl
  | .dp _ _, _ => rfl
  | .mv _, _ => rfl
  | .agg cs, h => by simp only [renA, rows (cs := cs) h]
  | .tup cs, h => by simp only [renA, rows (cs := cs) h]
  | .fn _ cs, h => by simp only [renA, rows (cs := cs) h]
  where rows : ∀ {cs : List AV}, ybv.pureL cs = true → renA.renL σ cs = cs
  | [], _ => rfl
  | c :: cs, h => by
    simp only [ybv.pureL, Bool.and_eq_true] at h
    simp only [renA.renL, renA_pure h.1, rows h.2]
section
variable {P : Program} {T : Nat → Option Ty} {N : Nat} {ops : Array Oper} {lf : Oper → Bool} {Q : SS → Prop} {t : List (Nat × AV)} {h : List (Nat × Option LObj)} {rest : List Oper} {d : Nat} {op : Op} {ty : TypeId} {pos : String} {af : Array Edge} {gd : Option (Nat × Bool)} {r : AV}
end

end Go.Proofs.YtcpgpiabeimefaaGreatDoor
