/- Plain facts: tokens written again with blanks between them are the same tokens. No program. -/
import Derived.Test.YtcaliinineajkaaLexMath3
namespace Go.Proofs.Ytcaliinineajkaa
open Go.RowKit

/-- What a blank text does: it begins with a blank byte, and the scan passes over it. -/
def Passes (b : List UInt8) : Prop := (∃ c r, b = c :: r ∧ blankB c = true) ∧ (∀ x, skipL false (b ++ x) = b.length + skipL false x) ∧ b.length ≤ 10

def tokText (s : ByteArray) (t : Tok) : List UInt8 := (bytesFrom s t.from_).take (t.to - t.from_)
/-- The tokens' texts, each with a blank behind it. -/
def joinT (s : ByteArray) (b : Nat → List UInt8) : Nat → List Tok → List UInt8
  | _, [] => []
  | i, t :: ts => tokText s t ++ (b i ++ joinT s b (i + 1) ts)
def joinU (b : Nat → List UInt8) : Nat → Nat → List Tok → List Tok
  | _, _, [] => []
  | i, p, t :: ts => ⟨t.kind, p, p + (t.to - t.from_), t.num⟩ :: joinU b (i + 1) (p + (t.to - t.from_) + (b i).length) ts
theorem joinU_length (b : Nat → List UInt8) (ts : List Tok) : ∀ i p, (joinU b i p ts).length = ts.length := by
  induction ts with
  | nil => intro i p; rfl
  | cons t ts ih => intro i p; simp only [joinU, List.length_cons, ih]

/-- What is known of each token of a text. -/
def OfText (s : ByteArray) (t : Tok) : Prop := t.from_ < s.size ∧ tokL (bytesFrom s t.from_) = .ok (t.kind, t.to - t.from_, t.num) ∧ t.from_ < t.to ∧ t.to ≤ s.size ∧ skipL false (bytesFrom s t.from_) = 0

theorem tokText_length (s : ByteArray) (t : Tok) (h : OfText s t) : (tokText s t).length = t.to - t.from_ := by
  obtain ⟨h1, h2, h3, h4, h5⟩ := h
  unfold tokText; rw [List.length_take, bytesFrom_length]; omega
theorem tokText_head (s : ByteArray) (t : Tok) (h : OfText s t) : ∃ c r, tokText s t = c :: r ∧ ∀ y, skipL false (c :: y) = 0 := by
  obtain ⟨h1, h2, h3, h4, h5⟩ := h
  unfold tokText
  rw [bytesFrom_lt s t.from_ h1] at *
  obtain ⟨m, hm⟩ : ∃ m, t.to - t.from_ = m + 1 := ⟨t.to - t.from_ - 1, by omega⟩
  rw [hm, List.take_succ_cons]
  exact ⟨_, _, rfl, skip_zero h5⟩

theorem scan_join (s : ByteArray) (b : Nat → List UInt8) (hb : ∀ i, Passes (b i)) (ts : List Tok) : (∀ t ∈ ts, OfText s t) → ∀ (left p i : Nat) (pre : List UInt8), ts.length ≤ left →
    (∀ x, skipL false (pre ++ x) = pre.length + skipL false x) → scanL left p (pre ++ joinT s b i ts) = .ok (joinU b i (p + pre.length) ts) := by
  induction ts with
  | nil =>
    intro _ left p i pre _ hpre
    have h1 : (pre ++ joinT s b i []).drop (skipL false (pre ++ joinT s b i [])) = [] := by
      rw [hpre]; simp [joinT, skipL]
    cases left <;> rw [scanL, if_pos h1] <;> rfl
  | cons t ts ih =>
    intro hall left p i pre hle hpre
    have ht := hall t (List.mem_cons_self ..)
    obtain ⟨c, r, hcr, h0⟩ := tokText_head s t ht
    obtain ⟨⟨c', r', hb1, hb2⟩, hb3, _⟩ := hb i
    have hlen := tokText_length s t ht
    obtain ⟨left, rfl⟩ : ∃ m, left = m + 1 := ⟨left - 1, by simp at hle; omega⟩
    have hsk : skipL false (pre ++ joinT s b i (t :: ts)) = pre.length := by
      rw [hpre]
      simp only [joinT, hcr, List.cons_append, h0, Nat.add_zero]
    have hdr : (pre ++ joinT s b i (t :: ts)).drop pre.length = joinT s b i (t :: ts) := by simp
    have hne : joinT s b i (t :: ts) ≠ [] := by simp [joinT, hcr]
    have htk : tokL (joinT s b i (t :: ts)) = .ok (t.kind, t.to - t.from_, t.num) := by
      simp only [joinT, hb1, List.cons_append]
      rw [tok_app _ _ _ hb2 (by rw [hcr]; simp)]
      exact tok_take _ _ _ _ _ ht.2.1 (Nat.le_refl _)
    have hd2 : (joinT s b i (t :: ts)).drop (t.to - t.from_) = b i ++ joinT s b (i + 1) ts := by
      simp only [joinT]
      rw [← hlen]; simp
    rw [scanL, hsk, hdr, if_neg hne, htk]
    simp only
    rw [hd2, ih (fun t h => hall t (List.mem_cons_of_mem _ h)) left _ (i + 1) (b i) (by simp at hle; omega) hb3]
    rfl

theorem join_len (s : ByteArray) (b : Nat → List UInt8) (hb : ∀ i, Passes (b i)) : ∀ (ts : List Tok) (p i : Nat), Good s p ts → (joinT s b i ts).length + p ≤ s.size + 10 * ts.length := by
  intro ts
  induction ts with
  | nil => intro p i h; have := h.1; simp [joinT]; omega
  | cons t ts ih =>
    intro p i h
    have h1 := ih t.to (i + 1) h.tail
    have h2 := tokText_length s t (h.mem t (List.mem_cons_self ..))
    have h3 := (hb i).2.2
    obtain ⟨g1, g2, g3, _, g5, g6, _⟩ := h
    have h4 := (skipTo_bd s false p g1).1
    simp only [joinT, List.length_append, List.length_cons, h2]
    omega

/-- The new token's bytes are the old one's. -/
theorem join_text (s : ByteArray) (b : Nat → List UInt8) (ts : List Tok) : (∀ t ∈ ts, OfText s t) → ∀ (i : Nat) (L : List UInt8) (j : Nat) (u t : Tok), (joinU b i L.length ts)[j]? = some u → ts[j]? = some t →
    u.kind = t.kind ∧ u.num = t.num ∧ u.from_ ≤ u.to ∧ u.to ≤ (L ++ joinT s b i ts).length ∧ ((L ++ joinT s b i ts).drop u.from_).take (u.to - u.from_) = tokText s t := by
  induction ts with
  | nil => intro _ i L j u t _ h; simp at h
  | cons x ts ih =>
    intro hall i L j u t hu ht
    have hx := hall x (List.mem_cons_self ..)
    have hlen := tokText_length s x hx
    cases j with
    | zero =>
      simp only [joinU, List.getElem?_cons_zero, Option.some.injEq] at hu ht
      subst hu ht
      refine ⟨rfl, rfl, by show L.length ≤ L.length + (x.to - x.from_); omega, ?_, ?_⟩
      · show L.length + (x.to - x.from_) ≤ _
        rw [List.length_append]; simp only [joinT]; rw [List.length_append, hlen]; omega
      · show ((L ++ joinT s b i (x :: ts)).drop L.length).take (L.length + (x.to - x.from_) - L.length) = _
        rw [List.drop_append_of_le_length (Nat.le_refl _), List.drop_length, List.nil_append, Nat.add_sub_cancel_left, ← hlen]
        simp only [joinT]
        rw [List.take_append_of_le_length (Nat.le_refl _), List.take_length]
    | succ j =>
      simp only [joinU, List.getElem?_cons_succ] at hu ht
      have h1 := ih (fun t h => hall t (List.mem_cons_of_mem _ h)) (i + 1) (L ++ tokText s x ++ b i) j u t (by rw [List.length_append, List.length_append, hlen]; exact hu) ht
      simp only [List.append_assoc] at h1
      simp only [joinT]
      exact h1

theorem good_all {s : ByteArray} {p : Nat} {ts : List Tok} (h : Good s p ts) : ∀ t ∈ ts, OfText s t := fun t ht => h.mem t ht
theorem scanF_join (s o : ByteArray) (b : Nat → List UInt8) (hb : ∀ i, Passes (b i)) (ts : List Tok) (hg : Good s 0 ts) (ho : bytesFrom o 0 = joinT s b 0 ts) (hs : o.size ≤ 16384) (hl : ts.length ≤ 4096) : scanF o = .ok (joinU b 0 0 ts) := by
  unfold scanF
  rw [if_neg (by omega), ho]
  exact scan_join s b hb ts (good_all hg) 4096 0 0 [] hl (fun x => by simp)
end Go.Proofs.Ytcaliinineajkaa
