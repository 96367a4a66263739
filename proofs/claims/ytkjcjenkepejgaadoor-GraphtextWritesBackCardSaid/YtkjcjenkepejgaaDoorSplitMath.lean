/- Texts cut at a byte; numbers of at most six digits; links, nodes and graphs as text. No program. -/
import Derived.Test.YtkjcjenkepejgaaDoorGraph
import Derived.Lib.Split
import Derived.Lib.SplitLaws
import GoSem.Core.Utf8
set_option linter.unusedVariables false
namespace Go.Proofs.YtkjcjenkepejgaaDoor

abbrev Bs := List UInt8
def ba (l : Bs) : ByteArray := ⟨l.toArray⟩
def bl (s : ByteArray) : Bs := s.data.toList
theorem bl_ba (l : Bs) : bl (ba l) = l := by simp [bl, ba]
theorem ba_bl (s : ByteArray) : ba (bl s) = s := Lib.mk_data s
theorem ba_inj {a b : Bs} (h : ba a = ba b) : a = b := by rw [← bl_ba a, h, bl_ba]
theorem bl_len (s : ByteArray) : (bl s).length = s.size := (Lib.size_eq s).symm
theorem ba_size (l : Bs) : (ba l).size = l.length := by simp [ba, ByteArray.size]
theorem bl_get {s : ByteArray} {i : Nat} {b : UInt8} (h : (bl s)[i]? = some b) : s[i]? = some b := by
  have hlt := (List.getElem?_eq_some_iff.1 h).1
  rw [bl_len] at hlt
  rw [getElem?_pos s i hlt]
  rw [List.getElem?_eq_getElem (by rw [bl_len]; exact hlt)] at h
  simp only [Option.some.injEq] at h ⊢
  rw [← h]
  rfl
theorem bl_extract (s : ByteArray) (a b : Nat) : bl (s.extract a b) = ((bl s).take b).drop a := by
  rw [bl, Lib.extract_data, bl, List.drop_take]

/-- A text, cut at every byte c. -/
def splitL (c : UInt8) : Bs → List Bs
  | [] => [[]]
  | x :: r => if x == c then [] :: splitL c r else match splitL c r with
    | [] => [[x]]
    | p :: ps => (x :: p) :: ps
theorem splitL_ne (c : UInt8) : ∀ l, splitL c l ≠ []
  | [] => by simp [splitL]
  | x :: r => by
    unfold splitL
    split
    · simp
    · split <;> simp
theorem splitL_cons_ne {c x : UInt8} {r : Bs} (h : x ≠ c) : ∃ p ps, splitL c r = p :: ps ∧ splitL c (x :: r) = (x :: p) :: ps := by
  cases hs : splitL c r with
  | nil => exact absurd hs (splitL_ne c r)
  | cons p ps => exact ⟨p, ps, rfl, by simp [splitL, hs, h]⟩
theorem splitL_none {c : UInt8} : ∀ {l : Bs}, c ∉ l → splitL c l = [l]
  | [], _ => rfl
  | x :: r, h => by
    have hx : x ≠ c := fun e => h (by simp [e])
    obtain ⟨p, ps, h1, h2⟩ := splitL_cons_ne (r := r) hx
    rw [splitL_none (fun e => h (by simp [e]))] at h1
    cases h1
    exact h2
theorem splitL_at {c : UInt8} : ∀ {a r : Bs}, c ∉ a → splitL c (a ++ c :: r) = a :: splitL c r
  | [], r, _ => by simp [splitL]
  | x :: a, r, h => by
    have hx : x ≠ c := fun e => h (by simp [e])
    obtain ⟨p, ps, h1, h2⟩ := splitL_cons_ne (r := a ++ c :: r) hx
    rw [splitL_at (fun e => h (by simp [e]))] at h1
    cases h1
    exact h2
theorem splitL_len (c : UInt8) : ∀ l, (splitL c l).length ≤ l.length + 1
  | [] => by simp [splitL]
  | x :: r => by
    have := splitL_len c r
    unfold splitL
    split
    · simp; omega
    · split
      · simp
      · rename_i h; rw [h] at this; simp at this ⊢; omega
theorem splitL_mem (c : UInt8) : ∀ {l p : Bs}, p ∈ splitL c l → p.length ≤ l.length
  | [], p, h => by simp [splitL] at h; simp [h]
  | x :: r, p, h => by
    unfold splitL at h
    split at h
    · rcases List.mem_cons.1 h with rfl | h
      · simp
      · have := splitL_mem c h; simp; omega
    · split at h
      · simp at h; simp [h]
      · rename_i q qs hq
        rcases List.mem_cons.1 h with rfl | h
        · have := splitL_mem c (l := r) (p := q) (by rw [hq]; simp); simp; omega
        · have := splitL_mem c (l := r) (p := p) (by rw [hq]; simp [h]); simp; omega
theorem splitL_notin (c : UInt8) : ∀ {l p : Bs}, p ∈ splitL c l → c ∉ p
  | [], p, h => by simp [splitL] at h; simp [h]
  | x :: r, p, h => by
    unfold splitL at h
    split at h
    · rcases List.mem_cons.1 h with rfl | h
      · simp
      · exact splitL_notin c h
    · rename_i hx
      split at h
      · simp at h hx; subst h; simpa using fun e => hx e.symm
      · rename_i q qs hq
        rcases List.mem_cons.1 h with rfl | h
        · have := splitL_notin c (l := r) (p := q) (by rw [hq]; simp)
          simp at hx
          simp only [List.mem_cons, not_or]
          exact ⟨fun e => hx e.symm, this⟩
        · exact splitL_notin c (l := r) (p := p) (by rw [hq]; simp [h])
/-- As the loop of the reference cuts: pieces done, the piece begun. -/
theorem splitL_app {c : UInt8} : ∀ {a b cur : Bs} {ds : List Bs}, splitL c a = ds ++ [cur] → c ∉ b → splitL c (a ++ b) = ds ++ [cur ++ b]
  | [], b, cur, ds, h, hb => by
    cases ds with
    | nil => simp [splitL] at h; subst h; simp [splitL_none hb]
    | cons d ds => simp [splitL] at h
  | x :: a, b, cur, ds, h, hb => by
    by_cases hx : x = c
    · subst hx
      have e1 : splitL x (x :: a) = [] :: splitL x a := by simp [splitL]
      have e2 : splitL x (x :: a ++ b) = [] :: splitL x (a ++ b) := by simp [splitL]
      rw [e1] at h
      cases ds with
      | nil => simp at h; exact absurd h.2 (splitL_ne x a)
      | cons d ds =>
        simp at h
        rw [e2, splitL_app h.2 hb, ← h.1]; simp
    · obtain ⟨p, ps, h1, h2⟩ := splitL_cons_ne (r := a) hx
      obtain ⟨q, qs, h3, h4⟩ := splitL_cons_ne (r := a ++ b) hx
      have h4' : splitL c (x :: a ++ b) = (x :: q) :: qs := h4
      rw [h2] at h
      cases ds with
      | nil =>
        simp at h
        obtain ⟨rfl, rfl⟩ := h
        have := splitL_app (ds := []) (b := b) h1 hb
        rw [h3] at this
        simp at this
        rw [h4']; simp [this.1, this.2]
      | cons d ds =>
        simp at h
        obtain ⟨rfl, h⟩ := h
        have := splitL_app (ds := p :: ds) (cur := cur) (b := b) (by rw [h1, h]; simp) hb
        rw [h3] at this
        simp at this
        rw [h4']; simp [this.1, this.2]
theorem splitL_snoc (c : UInt8) (a : Bs) : splitL c (a ++ [c]) = splitL c a ++ [[]] := by
  induction a with
  | nil => simp [splitL]
  | cons x a ih =>
    by_cases hx : x = c
    · subst hx
      have e1 : splitL x (x :: a) = [] :: splitL x a := by simp [splitL]
      have e2 : splitL x (x :: a ++ [x]) = [] :: splitL x (a ++ [x]) := by simp [splitL]
      rw [e2, ih, e1]; simp
    · obtain ⟨p, ps, h1, h2⟩ := splitL_cons_ne (r := a) hx
      obtain ⟨q, qs, h3, h4⟩ := splitL_cons_ne (r := a ++ [c]) hx
      have h4' : splitL c (x :: a ++ [c]) = (x :: q) :: qs := h4
      rw [h4', h2]
      rw [ih, h1] at h3
      simp at h3 ⊢
      simp [h3.1, h3.2]

/-! ### The library's cut at one byte -/
theorem index_one (c : UInt8) : ∀ (l : Bs), (c ∉ l → Lib.index l [c] = -1) ∧ ∀ a r, c ∉ a → l = a ++ c :: r → Lib.index l [c] = a.length
  | [] => by
    refine ⟨fun _ => by simp [Lib.index], fun a r _ h => by simp at h⟩
  | x :: l => by
    obtain ⟨h1, h2⟩ := index_one c l
    by_cases hx : x = c
    · subst hx
      have e : Lib.index (x :: l) [x] = 0 := by unfold Lib.index; simp
      refine ⟨fun h => absurd (by simp) h, fun a r ha he => ?_⟩
      cases a with
      | nil => simp [e]
      | cons y a => simp at he; exact absurd (by simp [he.1]) ha
    · have e : Lib.index (x :: l) [c] = if Lib.index l [c] == -1 then -1 else Lib.index l [c] + 1 := by
        conv => lhs; unfold Lib.index
        simp [Ne.symm hx]
      refine ⟨fun h => ?_, fun a r ha he => ?_⟩
      · rw [e, h1 (fun hh => h (by simp [hh]))]; simp
      · cases a with
        | nil => simp at he; exact absurd he.1 hx
        | cons y a =>
          simp at he
          have := h2 a r (fun hh => ha (by simp [hh])) he.2
          rw [e, this]
          have : ¬ ((a.length : Int) == -1) = true := by simp
          simp [this]
theorem first_at {c : UInt8} {l : Bs} (h : c ∈ l) : ∃ a r, c ∉ a ∧ l = a ++ c :: r := by
  obtain ⟨a, r, h1, h2⟩ := List.eq_append_cons_of_mem h
  exact ⟨a, r, h2, h1⟩
theorem countFrom_one (c : UInt8) : ∀ (fuel : Nat) (l : Bs), l.length < fuel → Lib.countFrom [c] fuel l = l.count c
  | 0, l, h => by omega
  | fuel + 1, l, h => by
    unfold Lib.countFrom
    by_cases hc : c ∈ l
    · obtain ⟨a, r, ha, rfl⟩ := first_at hc
      have hi := (index_one c (a ++ c :: r)).2 a r ha rfl
      have hne : ¬ ((a.length : Int) == -1) = true := by simp
      rw [hi, if_neg hne]
      have e : ((a ++ c :: r).drop ((a.length : Int).toNat + [c].length)) = r := by simp [← List.drop_drop]
      rw [e, countFrom_one c fuel r (by simp at h; omega), List.count_append, List.count_eq_zero.2 ha]
      simp; omega
    · rw [(index_one c l).1 hc]
      simp [List.count_eq_zero.2 hc]
theorem splitK_one (c : UInt8) : ∀ (k : Nat) (l : Bs), l.count c ≤ k → Lib.splitK [c] 0 k l = splitL c l
  | 0, l, h => by
    have hc : c ∉ l := List.count_eq_zero.1 (by omega)
    rw [splitL_none hc]; rfl
  | k + 1, l, h => by
    unfold Lib.splitK
    by_cases hc : c ∈ l
    · obtain ⟨a, r, ha, rfl⟩ := first_at hc
      have hi := (index_one c (a ++ c :: r)).2 a r ha rfl
      have hne : ¬ ((a.length : Int) == -1) = true := by simp
      rw [hi, if_neg hne]
      have e : ((a ++ c :: r).drop ((a.length : Int).toNat + [c].length)) = r := by simp [← List.drop_drop]
      rw [e, splitK_one c k r (by rw [List.count_append, List.count_eq_zero.2 ha] at h; simp at h; omega), splitL_at ha]
      simp
    · rw [(index_one c l).1 hc, splitL_none hc]; simp
/-- The library's cut at one byte. -/
theorem splitB_one (c : UInt8) (s : ByteArray) : Lib.splitB (ba [c]) 0 (Lib.countB s (ba [c])) s = (splitL c (bl s)).map ba ∧ Lib.countB s (ba [c]) + 1 = (splitL c (bl s)).length := by
  have hc : Lib.countB s (ba [c]) = (bl s).count c := by
    have : Lib.countB s (ba [c]) = Lib.count (bl s) (bl (ba [c])) := rfl
    rw [this, bl_ba]
    exact countFrom_one c _ _ (by omega)
  have h1 := Lib.splitB_data (ba [c]) 0 (Lib.countB s (ba [c])) s
  have h2 : (Lib.splitB (ba [c]) 0 (Lib.countB s (ba [c])) s).map bl = splitL c (bl s) := by
    have e : (ba [c]).data.toList = [c] := bl_ba [c]
    rw [e, splitK_one c _ _ (by rw [hc]; exact Nat.le_refl _)] at h1
    exact h1
  have h3 := Lib.splitB_all (ba [c]) (by simp [ba_size]) 0 _ s rfl
  refine ⟨?_, by rw [← h2]; simpa using h3.symm⟩
  rw [← h2, List.map_map]
  conv => lhs; rw [← List.map_id (Lib.splitB (ba [c]) 0 (Lib.countB s (ba [c])) s)]
  exact List.map_congr_left fun x _ => (ba_bl x).symm

/-! ### Numbers -/
def numGo : Nat → Bs → Option Nat
  | v, [] => some v
  | v, c :: r => if c.toNat < 48 ∨ 57 < c.toNat then none else numGo (10 * v + (c.toNat - 48)) r
def numBad (l : Bs) : Bool := decide (l.length < 1) || (decide (6 < l.length) || (decide (1 < l.length) && (l.head? == some 48)))
def numberO (l : Bs) : Option Nat := if numBad l then none else numGo 0 l
theorem numGo_digits : ∀ {l : Bs} {v x : Nat}, numGo v l = some x → ∀ c ∈ l, 48 ≤ c.toNat ∧ c.toNat ≤ 57
  | [], _, _, _, c, h => by cases h
  | d :: l, v, x, h, c, hc => by
    unfold numGo at h
    split at h
    · cases h
    · rename_i hd
      rcases List.mem_cons.1 hc with rfl | hc
      · omega
      · exact numGo_digits h c hc
theorem numberO_digits {l : Bs} {x : Nat} (h : numberO l = some x) : ∀ c ∈ l, 48 ≤ c.toNat ∧ c.toNat ≤ 57 := by
  unfold numberO at h
  split at h
  · cases h
  · exact numGo_digits h

/-! ### Links, nodes, graphs -/
def linkF (w : Bs) : Option Lk := match splitL 47 w with
  | [a, b] => match numberO a, numberO b with
    | some x, some y => some ((x : Int), (y : Int))
    | _, _ => none
  | _ => none
theorem linkF_none {w : Bs} (h : (47 : UInt8) ∉ w) : linkF w = none := by unfold linkF; rw [splitL_none h]
theorem linkF_at {a r : Bs} (h : (47 : UInt8) ∉ a) : linkF (a ++ 47 :: r) = match numberO a, numberO r with
    | some x, some y => some ((x : Int), (y : Int))
    | _, _ => none := by
  unfold linkF
  rw [splitL_at h]
  by_cases hr : (47 : UInt8) ∈ r
  · have hn : numberO r = none := by
      cases hq : numberO r with
      | none => rfl
      | some y => exact absurd (numberO_digits hq 47 hr) (by decide)
    obtain ⟨b, q, hb, rfl⟩ := first_at hr
    rw [splitL_at hb, hn]
    cases hs : splitL 47 q with
    | nil => exact absurd hs (splitL_ne 47 q)
    | cons p ps => cases numberO a <;> simp
  · rw [splitL_none hr]
def linksF : List Bs → Option (List Lk)
  | [] => some []
  | w :: ws => match linkF w, linksF ws with
    | some l, some ls => some (l :: ls)
    | _, _ => none
def nodeF (line : Bs) : Option (Nat × List Lk) := match splitL 32 line with
  | a :: b :: ws => if a = [110, 111, 100, 101] then match numberO b, linksF ws with
      | some x, some ls => some (x, ls)
      | _, _ => none
    else none
  | _ => none
def linesF (t : Bs) : List Bs := if (splitL 10 t).getLast (splitL_ne 10 t) = [] then (splitL 10 t).dropLast else splitL 10 t
/-- The nodes up to the first line that is none: its number. -/
def nodesF : List Bs → Nat → Except Nat (List Int × List (List Lk))
  | [], _ => .ok ([], [])
  | l :: ls, i => match nodeF l with
    | none => .error (i + 1)
    | some (x, lk) => match nodesF ls (i + 1) with
      | .error k => .error k
      | .ok (a, b) => .ok ((x : Int) :: a, lk :: b)
def gNil : GraphD := ⟨[], []⟩
def parseF (t : Bs) : GraphD × Int × Int :=
  if 16384 < t.length then (gNil, 0, 3) else
  if linesF t = [] then (gNil, 1, 4) else
  match nodesF (linesF t) 0 with
  | .error k => (gNil, (k : Int), 4)
  | .ok (a, b) => if validG ⟨a, b⟩ then (⟨a, b⟩, 0, 0) else (gNil, 0, 1)
theorem linesF_nil : linesF [] = [] := by decide
theorem last_snoc {α : Type} {l : List α} {ds : List α} {x : α} (h : l = ds ++ [x]) (hne : l ≠ []) : l.getLast hne = x ∧ l.dropLast = ds := by subst h; simp
/-- The lines as the program finds them. -/
theorem linesF_trim {t : Bs} (h : t ≠ []) : linesF t = splitL 10 (Lib.trimSuffix t [10]) := by
  obtain ⟨a, x, rfl⟩ : ∃ a x, t = a ++ [x] := ⟨t.dropLast, t.getLast h, (List.dropLast_concat_getLast h).symm⟩
  by_cases hx : x = 10
  · subst hx
    have h1 := splitL_snoc 10 a
    obtain ⟨h2, h3⟩ := last_snoc h1 (splitL_ne 10 _)
    have h4 : Lib.trimSuffix (a ++ [10]) [10] = a := by
      have : Lib.hasSuffix (a ++ [10]) [10] = true := by simp [Lib.hasSuffix]
      simp [Lib.trimSuffix, this]
    unfold linesF
    rw [if_pos h2, h3, h4]
  · obtain ⟨ds, cur, hd⟩ : ∃ ds cur, splitL 10 a = ds ++ [cur] := ⟨_, _, (List.dropLast_concat_getLast (splitL_ne 10 a)).symm⟩
    have h1 := splitL_app (b := [x]) hd (by simpa using Ne.symm hx)
    obtain ⟨h2, h3⟩ := last_snoc h1 (splitL_ne 10 _)
    have h4 : Lib.trimSuffix (a ++ [x]) [10] = a ++ [x] := by
      have : Lib.hasSuffix (a ++ [x]) [10] = false := by
        rw [← Bool.not_eq_true]
        intro hs
        simp [Lib.hasSuffix, List.isSuffixOf] at hs
        exact hx hs.symm
      simp [Lib.trimSuffix, this]
    unfold linesF
    rw [if_neg (by rw [h2]; simp), h4]
/-! ### The first slash, as a range over a string finds it -/
theorem decode_slash {s : ByteArray} {p : Nat} (hp : p < s.size) : 1 ≤ (Utf8.decode s p).2 ∧ p + (Utf8.decode s p).2 ≤ s.size ∧ (((Utf8.decode s p).1 = 47 ∧ (bl s)[p]? = some 47) ∨ ((Utf8.decode s p).1 ≠ 47 ∧ ∀ j, j < (Utf8.decode s p).2 → (bl s)[p + j]? ≠ some 47)) := by
  have hget : ∀ j, p + j < s.size → (bl s)[p + j]? = some (s.get! (p + j)) := fun j hj => by
    rw [List.getElem?_eq_getElem (by rw [bl_len]; exact hj)]
    simp only [Option.some.injEq, bl]
    simp [ByteArray.get!, getElem!_pos, hj]
  have hbyte : ∀ j, p + j < s.size → (s.get! (p + j)).toNat ≠ 47 → (bl s)[p + j]? ≠ some 47 := fun j hj hne he => by
    rw [hget j hj] at he
    simp only [Option.some.injEq] at he
    exact hne (by rw [he]; rfl)
  have hz : ∀ j, j < 1 → j = 0 := fun j h => by omega
  unfold Utf8.decode
  simp only [Utf8.runeError, Nat.add_zero]
  by_cases hb : (s.get! p).toNat < 128
  · rw [if_pos hb]
    refine ⟨Nat.le_refl _, hp, ?_⟩
    by_cases he : (s.get! p).toNat = 47
    · refine .inl ⟨he, ?_⟩
      have := hget 0 hp
      rw [Nat.add_zero] at this
      rw [this, Option.some.injEq]
      exact UInt8.toNat_inj.1 he
    · exact .inr ⟨he, fun j hj => by rw [hz j hj]; exact hbyte 0 hp he⟩
  rw [if_neg hb]
  have one : ∀ j, j < 1 → (bl s)[p + j]? ≠ some 47 := fun j hj => by rw [hz j hj]; exact hbyte 0 hp (by rw [Nat.add_zero]; omega)
  have cn : ∀ k, (decide (p + k < s.size) && (s.get! (p + k)).toNat / 64 == 2) = true → p + k < s.size ∧ (bl s)[p + k]? ≠ some 47 := fun k hk => by
    simp only [Bool.and_eq_true, decide_eq_true_eq, beq_iff_eq] at hk
    exact ⟨hk.1, hbyte k hk.1 (by omega)⟩
  split
  · rename_i h1
    simp only [Bool.and_eq_true] at h1
    have c1 := cn 1 (by simpa using h1.2)
    split
    · rename_i hc
      refine ⟨by omega, by simp only; omega, .inr ⟨by simp only; omega, fun j hj => ?_⟩⟩
      rcases (by simp only at hj; omega : j = 0 ∨ j = 1) with rfl | rfl
      · exact one 0 (by omega)
      · exact c1.2
    · exact ⟨Nat.le_refl _, hp, .inr ⟨by simp, one⟩⟩
  split
  · rename_i h1
    simp only [Bool.and_eq_true] at h1
    have c1 := cn 1 (by simpa using h1.1.2)
    have c2 := cn 2 (by simpa using h1.2)
    split
    · rename_i hc
      simp only [Bool.and_eq_true, decide_eq_true_eq] at hc
      refine ⟨by simp only; omega, by simp only; omega, .inr ⟨by simp only; omega, fun j hj => ?_⟩⟩
      rcases (by simp only at hj; omega : j = 0 ∨ j = 1 ∨ j = 2) with rfl | rfl | rfl
      · exact one 0 (by omega)
      · exact c1.2
      · exact c2.2
    · exact ⟨Nat.le_refl _, hp, .inr ⟨by simp, one⟩⟩
  split
  · rename_i h1
    simp only [Bool.and_eq_true] at h1
    have c1 := cn 1 (by simpa using h1.1.1.2)
    have c2 := cn 2 (by simpa using h1.1.2)
    have c3 := cn 3 (by simpa using h1.2)
    split
    · rename_i hc
      simp only [Bool.and_eq_true, decide_eq_true_eq] at hc
      refine ⟨by simp only; omega, by simp only; omega, .inr ⟨by simp only; omega, fun j hj => ?_⟩⟩
      rcases (by simp only at hj; omega : j = 0 ∨ j = 1 ∨ j = 2 ∨ j = 3) with rfl | rfl | rfl | rfl
      · exact one 0 (by omega)
      · exact c1.2
      · exact c2.2
      · exact c3.2
    · exact ⟨Nat.le_refl _, hp, .inr ⟨by simp, one⟩⟩
  exact ⟨Nat.le_refl _, hp, .inr ⟨by simp, one⟩⟩
end Go.Proofs.YtkjcjenkepejgaaDoor
