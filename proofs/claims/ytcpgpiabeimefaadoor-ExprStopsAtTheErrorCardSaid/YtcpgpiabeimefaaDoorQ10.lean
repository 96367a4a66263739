/- Part 10 of the texts under ExprStopsAtTheError: joined, with what it needs alone. -/
import Derived.Below
import Derived.WalkSmall
import Derived.Test.YtcpgpiabeimefaaDoorQ4
import Derived.Test.YtcpgpiabeimefaaDoorQ7
import Derived.Test.YtcpgpiabeimefaaDoorQ9
set_option linter.unusedVariables false
namespace Go.Proofs.YtcpgpiabeimefaaDoor
open Go.RowKit
namespace Ex
def op : Ex → Int
  | lf t => t.1
  | un t _ => t.1
  | bi t _ _ => t.1
  | tr t _ _ _ => t.1
end Ex
def binW (op : Int) : Bs := (binL[(op - 30).toNat]?).getD []
def aggW (op : Int) : Bs := (aggL[(op - 20).toNat]?).getD []
def constW (op : Int) : Bs := (constL[(op - 2).toNat]?).getD []
def fieldW (op : Int) : Bs := (fieldL[(op - 13).toNat]?).getD []
def nameW (names : List Bs) (i : Int) : Bs := (names[i.toNat]?).getD []
def leafT (names : List Bs) (t : Tm) : Bs :=
  if t.1 = 1 then dec t.2.toNat else if t.1 = 5 then nameW names t.2 else if t.1 = 11 then [113] else if t.1 = 12 then 113 :: 46 :: nameW names t.2 else if 13 ≤ t.1 then 113 :: 46 :: fieldW t.1 else constW t.1
def leafP (names : List Bs) (t : Tm) : List PW :=
  if t.1 = 1 then [pwV t.2.toNat] else if t.1 = 5 then [pwN (nameW names t.2)] else if t.1 = 11 then [pwN [113]] else if t.1 = 12 then [pwN [113], pwS [46], pwN (nameW names t.2)] else if 13 ≤ t.1 then [pwN [113], pwS [46], pwN (fieldW t.1)] else [pwN (constW t.1)]
def brT (b : Bool) (x : Bs) : Bs := match b with
  | true => 40 :: (x ++ [41])
  | false => x
def brP (b : Bool) (x : List PW) : List PW := match b with
  | true => pwS [40] :: (x ++ [pwS [41]])
  | false => x
def ybk (l : Nat) (E : Ex) : Bool := decide (yej E.op < l)
def leftL (op : Int) : Nat := if yej op = 3 then 4 else yej op
def ybe (al : Bool) (names : List Bs) : Ex → Bs
  | .lf t => leafT names t
  | .un t a => if t.1 = 18 then 45 :: brT (al || ybk 6 a) (ybe al names a) else if t.1 = 19 then 33 :: brT (al || ybk 6 a) (ybe al names a) else aggW t.1 ++ (40 :: (ybe al names a ++ [41]))
  | .bi t a b => brT (al || ybk (leftL t.1) a) (ybe al names a) ++ (32 :: (binW t.1 ++ (32 :: brT (al || ybk (yej t.1 + 1) b) (ybe al names b))))
  | .tr _ a b c => brT (al || ybk 1 a) (ybe al names a) ++ (32 :: 63 :: 32 :: (brT al (ybe al names b) ++ (32 :: 58 :: 32 :: brT al (ybe al names c))))
def bodyP (al : Bool) (names : List Bs) : Ex → List PW
  | .lf t => leafP names t
  | .un t a => if t.1 = 18 then pwS [45] :: brP (al || ybk 6 a) (bodyP al names a) else if t.1 = 19 then pwS [33] :: brP (al || ybk 6 a) (bodyP al names a) else pwN (aggW t.1) :: pwS [40] :: (bodyP al names a ++ [pwS [41]])
  | .bi t a b => brP (al || ybk (leftL t.1) a) (bodyP al names a) ++ (pwS (binW t.1) :: brP (al || ybk (yej t.1 + 1) b) (bodyP al names b))
  | .tr _ a b c => brP (al || ybk 1 a) (bodyP al names a) ++ (pwS [63] :: (brP al (bodyP al names b) ++ (pwS [58] :: brP al (bodyP al names c))))
theorem Wr.downs {names : List Bs} {E : Ex} {x : Bs} {ws : List PW} {k : Nat} (hk : k ≤ 7) (h : Wr names k E x ws) : ∀ {l : Nat}, l ≤ k → Wr names l E x ws := by
  intro l hl
  obtain ⟨d, rfl⟩ := Nat.exists_eq_add_of_le hl
  clear hl
  induction d generalizing l with
  | zero => exact h
  | succ d ih => exact .down (by omega) (ih (l := l + 1) (by omega) (by rw [show l + 1 + d = l + (d + 1) by omega]; exact h))
theorem levO_le (op : Int) : yej op ≤ 7 := by unfold yej; (repeat' split) <;> omega
theorem wr_br {names : List Bs} {E : Ex} {x : Bs} {ws : List PW} (h : Wr names (yej E.op) E x ws) {l : Nat} (hl : l ≤ 7) {b : Bool} (hb : b = false → l ≤ yej E.op) : Wr names l E (brT b x) (brP b ws) := by
  cases b with
  | true => exact (Wr.paren (h.downs (levO_le _) (Nat.zero_le _))).downs (by omega) hl
  | false => exact h.downs (levO_le _) (hb rfl)
theorem bin_op : ∀ k : Fin 13, binO (binW (30 + (k : Nat))) = 30 + (k : Nat) ∧ binW (30 + (k : Nat)) ∈ binL ∧ 1 ≤ yej (30 + (k : Nat)) ∧ yej (30 + (k : Nat)) ≤ 5 ∧ (binW (30 + (k : Nat))).length ≤ 2 := by decide
theorem agg_op : ∀ k : Fin 10, aggO (aggW (20 + (k : Nat))) = 20 + (k : Nat) ∧ aggW (20 + (k : Nat)) ∈ aggL ∧ yej (20 + (k : Nat)) = 7 ∧ (aggW (20 + (k : Nat))).length ≤ 6 := by decide
theorem const_op : ∀ k : Fin 9, k ≠ 3 → constO (constW (2 + (k : Nat))) = 2 + (k : Nat) ∧ constW (2 + (k : Nat)) ∈ constL ∧ constW (2 + (k : Nat)) ≠ [] ∧ (constW (2 + (k : Nat))).length ≤ 5 := by decide
theorem field_op : ∀ k : Fin 5, fieldO (fieldW (13 + (k : Nat))) = 13 + (k : Nat) ∧ fieldW (13 + (k : Nat)) ∈ fieldL ∧ (fieldW (13 + (k : Nat))).length ≤ 6 := by decide
theorem fin_of {op lo : Int} {n : Nat} (h1 : lo ≤ op) (h2 : op < lo + n) : ∃ k : Fin n, op = lo + (k : Nat) := ⟨⟨(op - lo).toNat, by omega⟩, by simp only; omega⟩
theorem levO_7 {op : Int} (h : op ≤ 17 ∨ (20 ≤ op ∧ op ≤ 29)) : yej op = 7 := by
  unfold yej
  rw [if_neg (by omega), if_neg (by omega), if_neg (by omega), if_neg (by omega), if_neg (by omega), if_neg (by omega), if_neg (by omega)]
variable {names : List Bs}
theorem leaf_wr {t : Tm} (h : ar t.1 = 0) (ha : argB names.length t = true) : Wr names 7 (.lf t) (leafT names t) (leafP names t) := by
  obtain ⟨op, i⟩ := t
  have hb : 1 ≤ op ∧ op ≤ 17 := by unfold ar at h; (repeat' split at h) <;> omega
  simp only [argB] at ha
  unfold leafT leafP
  simp only
  by_cases h1 : op = 1
  · subst h1
    simp at ha
    have := Wr.num (names := names) (n := i.toNat) (by omega)
    rw [Int.toNat_of_nonneg ha.1] at this
    exact this
  rw [if_neg h1, if_neg h1]
  rw [if_neg h1] at ha
  by_cases h5 : op = 5
  · subst h5
    simp at ha
    obtain ⟨w, hw⟩ : ∃ w, names[i.toNat]? = some w := ⟨_, List.getElem?_eq_getElem (by omega)⟩
    have := Wr.own (names := names) (i := i.toNat) hw
    rw [Int.toNat_of_nonneg ha.1] at this
    simpa [nameW, hw] using this
  by_cases h12 : op = 12
  · subst h12
    simp at ha
    obtain ⟨w, hw⟩ : ∃ w, names[i.toNat]? = some w := ⟨_, List.getElem?_eq_getElem (by omega)⟩
    have := Wr.near (names := names) (i := i.toNat) hw
    rw [Int.toNat_of_nonneg ha.1] at this
    simpa [nameW, hw] using this
  rw [if_neg (by omega)] at ha
  simp at ha
  subst ha
  rw [if_neg h5, if_neg h5]
  by_cases h11 : op = 11
  · subst h11
    exact .here
  rw [if_neg h11, if_neg h11, if_neg h12, if_neg h12]
  by_cases h13 : 13 ≤ op
  · rw [if_pos h13, if_pos h13]
    obtain ⟨k, rfl⟩ := fin_of (n := 5) h13 (by omega)
    exact .field (field_op k).1 (field_op k).2.1
  · rw [if_neg h13, if_neg h13]
    obtain ⟨k, rfl⟩ := fin_of (lo := 2) (n := 9) (op := op) (by omega) (by omega)
    have hk : k ≠ 3 := fun e => by subst e; exact h5 rfl
    exact .const (const_op k hk).1 (const_op k hk).2.1 (const_op k hk).2.2.1
theorem arg_zero {t : Tm} (h : 18 ≤ t.1) {v : Int} (ha : argB v t = true) : t.2 = 0 := by
  unfold argB at ha
  rw [if_neg (by omega), if_neg (by omega)] at ha
  simpa using ha
theorem body_wr (al : Bool) : ∀ (E : Ex), E.ok → (∀ t ∈ E.fl, argB names.length t = true) → Wr names (yej E.op) E (ybe al names E) (bodyP al names E)
  | .lf t, h, ha => by
    have hb : t.1 ≤ 17 := by have : ar t.1 = 0 := h; unfold ar at this; (repeat' split at this) <;> omega
    show Wr names (yej t.1) _ _ _
    rw [levO_7 (.inl hb)]
    exact leaf_wr h (ha t (by simp [Ex.fl]))
  | .un t a, h, ha => by
    obtain ⟨h1, h2⟩ := h
    have ih := body_wr al a h2 fun t ht => ha t (by simp [Ex.fl, ht])
    have hb : 18 ≤ t.1 ∧ t.1 ≤ 29 := by unfold ar at h1; (repeat' split at h1) <;> omega
    have h0 := arg_zero hb.1 (ha t (by simp [Ex.fl]))
    obtain ⟨op, i⟩ := t
    simp only at h0 hb
    subst h0
    simp only [ybe, bodyP, Ex.op]
    by_cases e : op = 18
    · subst e
      rw [if_pos rfl, if_pos rfl]
      exact .neg (wr_br ih (by omega) fun hb => by simp [ybk] at hb; exact hb.2)
    rw [if_neg e, if_neg e]
    by_cases e : op = 19
    · subst e
      rw [if_pos rfl, if_pos rfl]
      exact .not (wr_br ih (by omega) fun hb => by simp [ybk] at hb; exact hb.2)
    rw [if_neg e, if_neg e]
    obtain ⟨k, rfl⟩ := fin_of (lo := 20) (n := 10) (op := op) (by omega) (by omega)
    rw [(agg_op k).2.2.1]
    exact .agg (agg_op k).1 (agg_op k).2.1 (ih.downs (levO_le _) (Nat.zero_le _))
  | .bi t a b, h, ha => by
    obtain ⟨h1, h2, h3⟩ := h
    have iha := body_wr al a h2 fun t ht => ha t (by simp [Ex.fl, ht])
    have ihb := body_wr al b h3 fun t ht => ha t (by simp [Ex.fl, ht])
    have hb : 30 ≤ t.1 ∧ t.1 ≤ 42 := by unfold ar at h1; (repeat' split at h1) <;> omega
    have h0 := arg_zero (by omega) (ha t (by simp [Ex.fl]))
    obtain ⟨op, i⟩ := t
    simp only at h0 hb
    subst h0
    simp only [ybe, bodyP, Ex.op]
    obtain ⟨k, rfl⟩ := fin_of (lo := 30) (n := 13) (op := op) (by omega) (by omega)
    obtain ⟨g1, g2, g3, g4, _⟩ := bin_op k
    generalize (30 + ((k : Nat) : Int)) = op at *
    have hwb := wr_br ihb (l := yej op + 1) (by omega) (b := al || ybk (yej op + 1) b) fun hb => by simp [ybk] at hb; omega
    by_cases e : yej op = 3
    · have hwa := wr_br iha (l := 4) (by omega) (b := al || ybk 4 a) fun hb => by simp [ybk] at hb; omega
      have : leftL op = 4 := by rw [leftL, if_pos e]
      rw [this]
      rw [e] at hwb ⊢
      exact .cmp g1 g2 e hwa hwb
    · have : leftL op = yej op := by rw [leftL, if_neg e]
      rw [this]
      have hwa := wr_br iha (l := yej op) (by omega) (b := al || ybk (yej op) a) fun hb => by simp [ybk] at hb; omega
      exact .bin g1 g2 rfl e hwa hwb
  | .tr t a b c, h, ha => by
    obtain ⟨h1, h2, h3, h4⟩ := h
    have iha := body_wr al a h2 fun t ht => ha t (by simp [Ex.fl, ht])
    have ihb := body_wr al b h3 fun t ht => ha t (by simp [Ex.fl, ht])
    have ihc := body_wr al c h4 fun t ht => ha t (by simp [Ex.fl, ht])
    have hb : t.1 = 43 := by unfold ar at h1; (repeat' split at h1) <;> omega
    have h0 := arg_zero (by omega) (ha t (by simp [Ex.fl]))
    obtain ⟨op, i⟩ := t
    simp only at h0 hb
    subst h0; subst hb
    simp only [ybe, bodyP, Ex.op]
    exact .choice (wr_br iha (by omega) fun hb => by simp [ybk] at hb; omega) (wr_br ihb (by omega) fun _ => Nat.zero_le _) (wr_br ihc (by omega) fun _ => Nat.zero_le _)
theorem brT_len (b : Bool) (x : Bs) : (brT b x).length ≤ x.length + 2 := by cases b <;> simp [brT]
theorem brP_len (b : Bool) (x : List PW) : (brP b x).length ≤ x.length + 2 := by cases b <;> simp [brP]
theorem leaf_len (hn : ∀ w ∈ names, w.length ≤ 24) {t : Tm} (h : ar t.1 = 0) (ha : argB names.length t = true) : (leafT names t).length ≤ 26 ∧ (leafP names t).length ≤ 3 := by
  obtain ⟨op, i⟩ := t
  have hb : 1 ≤ op ∧ op ≤ 17 := by unfold ar at h; (repeat' split at h) <;> omega
  simp only [argB] at ha
  unfold leafT leafP
  simp only
  have hnm : (nameW names i).length ≤ 24 := by
    unfold nameW
    cases hw : names[i.toNat]? with
    | none => simp
    | some w => exact hn w (List.mem_of_getElem? hw)
  by_cases h1 : op = 1
  · subst h1
    simp at ha
    have := dec_len 10 i.toNat (by omega) (by omega)
    simp only [if_true]
    exact ⟨by omega, by simp⟩
  rw [if_neg h1, if_neg h1]
  by_cases h5 : op = 5
  · rw [if_pos h5, if_pos h5]; exact ⟨by omega, by simp⟩
  rw [if_neg h5, if_neg h5]
  by_cases h11 : op = 11
  · rw [if_pos h11, if_pos h11]; exact ⟨by simp, by simp⟩
  rw [if_neg h11, if_neg h11]
  by_cases h12 : op = 12
  · rw [if_pos h12, if_pos h12]; exact ⟨by simp only [List.length_cons]; omega, by simp⟩
  rw [if_neg h12, if_neg h12]
  by_cases h13 : 13 ≤ op
  · rw [if_pos h13, if_pos h13]
    obtain ⟨k, rfl⟩ := fin_of (n := 5) h13 (by omega)
    have := (field_op k).2.2
    exact ⟨by simp only [List.length_cons]; omega, by simp⟩
  · rw [if_neg h13, if_neg h13]
    obtain ⟨k, rfl⟩ := fin_of (lo := 2) (n := 9) (op := op) (by omega) (by omega)
    have hk : k ≠ 3 := fun e => by subst e; exact h5 rfl
    have := (const_op k hk).2.2.2
    exact ⟨by omega, by simp⟩
theorem ydm (hn : ∀ w ∈ names, w.length ≤ 24) (al : Bool) : ∀ (E : Ex), E.ok → (∀ t ∈ E.fl, argB names.length t = true) → (ybe al names E).length + 2 ≤ 34 * E.fl.length ∧ (bodyP al names E).length + 2 ≤ 8 * E.fl.length
  | .lf t, h, ha => by
    have := leaf_len hn h (ha t (by simp [Ex.fl]))
    simp only [ybe, bodyP, Ex.fl, List.length_cons, List.length_nil]
    omega
  | .un t a, h, ha => by
    obtain ⟨h1, h2⟩ := h
    have ih := ydm hn al a h2 fun t ht => ha t (by simp [Ex.fl, ht])
    have hb : 18 ≤ t.1 ∧ t.1 ≤ 29 := by unfold ar at h1; (repeat' split at h1) <;> omega
    obtain ⟨op, i⟩ := t
    simp only at hb
    have b1 := brT_len (al || ybk 6 a) (ybe al names a)
    have b2 := brP_len (al || ybk 6 a) (bodyP al names a)
    simp only [ybe, bodyP, Ex.fl, List.length_cons]
    by_cases e : op = 18
    · rw [if_pos e, if_pos e]; simp only [List.length_cons]; omega
    rw [if_neg e, if_neg e]
    by_cases e : op = 19
    · rw [if_pos e, if_pos e]; simp only [List.length_cons]; omega
    rw [if_neg e, if_neg e]
    obtain ⟨k, rfl⟩ := fin_of (lo := 20) (n := 10) (op := op) (by omega) (by omega)
    have := (agg_op k).2.2.2
    simp only [List.length_cons, List.length_append, List.length_nil]
    omega
  | .bi t a b, h, ha => by
    obtain ⟨h1, h2, h3⟩ := h
    have iha := ydm hn al a h2 fun t ht => ha t (by simp [Ex.fl, ht])
    have ihb := ydm hn al b h3 fun t ht => ha t (by simp [Ex.fl, ht])
    have hb : 30 ≤ t.1 ∧ t.1 ≤ 42 := by unfold ar at h1; (repeat' split at h1) <;> omega
    obtain ⟨op, i⟩ := t
    simp only at hb
    simp only [ybe, bodyP, Ex.fl, List.length_cons]
    obtain ⟨k, rfl⟩ := fin_of (lo := 30) (n := 13) (op := op) (by omega) (by omega)
    have := (bin_op k).2.2.2.2
    have b1 := brT_len (al || ybk (leftL (30 + ((k : Nat) : Int))) a) (ybe al names a)
    have b2 := brP_len (al || ybk (leftL (30 + ((k : Nat) : Int))) a) (bodyP al names a)
    have b3 := brT_len (al || ybk (yej (30 + ((k : Nat) : Int)) + 1) b) (ybe al names b)
    have b4 := brP_len (al || ybk (yej (30 + ((k : Nat) : Int)) + 1) b) (bodyP al names b)
    simp only [List.length_cons, List.length_append]
    omega
  | .tr t a b c, h, ha => by
    obtain ⟨h1, h2, h3, h4⟩ := h
    have iha := ydm hn al a h2 fun t ht => ha t (by simp [Ex.fl, ht])
    have ihb := ydm hn al b h3 fun t ht => ha t (by simp [Ex.fl, ht])
    have ihc := ydm hn al c h4 fun t ht => ha t (by simp [Ex.fl, ht])
    have b1 := brT_len (al || ybk 1 a) (ybe al names a)
    have b2 := brP_len (al || ybk 1 a) (bodyP al names a)
    have b3 := brT_len al (ybe al names b)
    have b4 := brP_len al (bodyP al names b)
    have b5 := brT_len al (ybe al names c)
    have b6 := brP_len al (bodyP al names c)
    simp only [ybe, bodyP, Ex.fl, List.length_cons, List.length_append]
    omega
end Go.Proofs.YtcpgpiabeimefaaDoor
set_option linter.unusedVariables false
namespace Go.Proofs.YtcpgpiabeimefaaDoor
variable {nm : Bs → Bool} {names : List Bs}
theorem split_of {α : Type} {a b p r : List α} (h : a ++ b = p ++ r) (hs : r <:+ b) : ∃ q, b = q ++ r ∧ p = a ++ q := by
  obtain ⟨q, rfl⟩ := hs
  refine ⟨q, rfl, ?_⟩
  rw [← List.append_assoc] at h
  exact (List.append_cancel_right h).symm
theorem nil_of_app {α : Type} {p r : List α} (h : r = p ++ r) : p = [] := by
  have := congrArg List.length h
  rw [List.length_append] at this
  exact List.eq_nil_of_length_eq_zero (by omega)
def Like (r r' : List PW) : Prop := r'.head? = r.head? ∨ r' = []
theorem like_app {q r r' : List PW} (h : Like r r') : Like (q ++ r) (q ++ r') := by
  cases q with
  | nil => exact h
  | cons a q => exact .inl rfl
theorem like_cut {q r : List PW} : Like (q ++ r) q := by
  cases q with
  | nil => exact .inr rfl
  | cons a q => exact .inl rfl
theorem same_cons {t : PW} {r r' : List PW} (h : r'.head? = (t :: r).head?) : ∃ r2, r' = t :: r2 := by
  cases r' with
  | nil => cases h
  | cons a r2 => cases h; exact ⟨r2, rfl⟩
def EndR (y : Option Res) : Prop := y = none ∨ (∃ x, y = some (.ok x [])) ∨ y = some (.bad 4 [])
def Res.rest : Res → List PW
  | .ok _ r => r
  | .bad _ r => r
def Cut (F : List PW → Option Res) (ts : List PW) : Res → Prop
  | .ok e r => ∀ p, ts = p ++ r → ∀ r', Like r r' → F (p ++ r') = some (.ok e r')
  | .bad c r => r ≠ [] → ∀ p, ts = p ++ r → (∀ r', r'.head? = r.head? → F (p ++ r') = some (.bad c r')) ∧ EndR (F p)
def Tame (F : List PW → Option Res) : Prop := ∀ ts res, F ts = some res → res.rest <:+ ts ∧ Cut F ts res
theorem yfc {x : List PW → Option Res} {K : List Tm → List PW → Option Res} (hx : Tame x) (hK : ∀ e, Tame (K e)) (hE : ∀ e, EndR (K e [])) : Tame fun ts => andR (x ts) K := by
  intro ts res h
  rcases ybx h with ⟨e, r, h1, h2⟩ | ⟨c, r, h1, rfl⟩
  · obtain ⟨⟨p1, hp1⟩, cx⟩ := hx _ _ h1
    obtain ⟨hs, ck⟩ := hK e _ _ h2
    simp only [Res.rest] at hp1
    refine ⟨hs.trans ⟨p1, hp1⟩, ?_⟩
    cases res with
    | ok e2 r2 =>
      intro p hp r' hl
      obtain ⟨q, rfl, rfl⟩ := split_of (hp1.trans hp) hs
      simp only
      rw [List.append_assoc, cx p1 hp1.symm (q ++ r') (like_app hl), andR_ok]
      exact ck q rfl r' hl
    | bad c r2 =>
      intro hr2 p hp
      obtain ⟨q, rfl, rfl⟩ := split_of (hp1.trans hp) hs
      obtain ⟨g1, g2⟩ := ck hr2 q rfl
      refine ⟨fun r' hl => ?_, ?_⟩
      · simp only
        rw [List.append_assoc, cx p1 hp1.symm (q ++ r') (like_app (.inl hl)), andR_ok]
        exact g1 r' hl
      · simp only
        rw [cx p1 hp1.symm q like_cut, andR_ok]
        exact g2
  · obtain ⟨hs, cx⟩ := hx _ _ h1
    refine ⟨hs, fun hr p hp => ?_⟩
    obtain ⟨c1, c2⟩ := cx hr p hp
    refine ⟨fun r' hl => by simp only; rw [c1 r' hl]; rfl, ?_⟩
    simp only
    rcases c2 with h | ⟨y, h⟩ | h
    · rw [h]; exact .inl rfl
    · rw [h, andR_ok]; exact hE y
    · rw [h]; exact .inr (.inr rfl)
inductive Looks (F : List PW → Option Res) (t : PW) : Prop
  | takes (A : List PW → Option Res) (hA : Tame A) (h : ∀ r, F (t :: r) = A r) : Looks F t
  | fails (c : Int) (h : ∀ r, F (t :: r) = some (.bad c (t :: r))) : Looks F t
  | leaves (B : List PW → Option Res) (hB : Tame B) (h0 : F [] = B []) (h : ∀ r, F (t :: r) = B (t :: r)) : Looks F t
theorem yeo {F : List PW → Option Res} (h0 : EndR (F [])) (h : ∀ t, Looks F t) : Tame F := by
  intro ts res hf
  cases ts with
  | nil =>
    rcases h0 with h0 | ⟨x, h0⟩ | h0
    · rw [h0] at hf; cases hf
    · have h1 := h0
      rw [hf] at h1
      obtain rfl := Option.some.inj h1
      refine ⟨List.suffix_refl _, fun p hp r' hl => ?_⟩
      have hp : p = [] := by simpa using hp.symm
      subst hp
      rcases hl with hl | rfl
      · cases r' with
        | nil => exact h0
        | cons a r' => cases hl
      · exact h0
    · have h1 := h0
      rw [hf] at h1
      obtain rfl := Option.some.inj h1
      exact ⟨List.suffix_refl _, fun hr => absurd rfl hr⟩
  | cons t r =>
    cases h t with
    | takes A hA he =>
      rw [he] at hf
      obtain ⟨hs, hc⟩ := hA _ _ hf
      refine ⟨hs.trans (List.suffix_cons _ _), ?_⟩
      cases res with
      | ok e r2 =>
        intro p hp r' hl
        obtain ⟨q, rfl, rfl⟩ := split_of (a := [t]) hp hs
        show F (t :: (q ++ r')) = _
        rw [he]
        exact hc q rfl r' hl
      | bad c r2 =>
        intro hr p hp
        obtain ⟨q, rfl, rfl⟩ := split_of (a := [t]) hp hs
        obtain ⟨c1, c2⟩ := hc hr q rfl
        refine ⟨fun r' hl => ?_, ?_⟩
        · show F (t :: (q ++ r')) = _
          rw [he]; exact c1 r' hl
        · show EndR (F (t :: q))
          rw [he]; exact c2
    | fails c he =>
      have h1 := he r
      rw [hf] at h1
      obtain rfl := Option.some.inj h1
      refine ⟨List.suffix_refl _, fun hr p hp => ?_⟩
      have hp : p = [] := nil_of_app hp
      subst hp
      refine ⟨fun r' hl => ?_, h0⟩
      obtain ⟨r2, rfl⟩ := same_cons hl
      exact he r2
    | leaves B hB hB0 he =>
      rw [he] at hf
      obtain ⟨hs, hc⟩ := hB _ _ hf
      refine ⟨hs, ?_⟩
      cases res with
      | ok e r2 =>
        intro p hp r' hl
        have := hc p hp r' hl
        cases p with
        | nil =>
          obtain rfl : t :: r = r2 := hp
          rcases hl with hl | rfl
          · obtain ⟨r3, rfl⟩ := same_cons hl
            exact (he r3).trans this
          · exact hB0.trans this
        | cons a p =>
          obtain ⟨rfl, rfl⟩ := List.cons.inj hp
          exact (he _).trans this
      | bad c r2 =>
        intro hr p hp
        obtain ⟨c1, c2⟩ := hc hr p hp
        cases p with
        | nil =>
          obtain rfl : t :: r = r2 := hp
          refine ⟨fun r' hl => ?_, h0⟩
          have := c1 r' hl
          obtain ⟨r3, rfl⟩ := same_cons hl
          exact (he r3).trans this
        | cons a p =>
          obtain ⟨rfl, rfl⟩ := List.cons.inj hp
          exact ⟨fun r' hl => (he _).trans (c1 r' hl), by rw [he]; exact c2⟩
theorem yez (e : List Tm) : Tame fun ts => some (.ok e ts) := by
  intro ts res h
  obtain rfl := (Option.some.inj h).symm
  refine ⟨List.suffix_refl _, fun p hp r' hl => ?_⟩
  have hp : p = [] := nil_of_app hp
  subst hp; rfl
theorem end_ok (e : List Tm) : EndR (some (.ok e [])) := .inr (.inl ⟨e, rfl⟩)
theorem end_bad : EndR (some (.bad 4 [])) := .inr (.inr rfl)
theorem tame_want (w : Bs) {k : List PW → Option Res} (hk : Tame k) : Tame fun ts => wantW w ts k := by
  refine yeo end_bad fun t => ?_
  by_cases h : t.w = w
  · exact .takes k hk fun r => by simp only [wantW, if_pos h]
  · exact .fails 4 fun r => by simp only [wantW, if_neg h]
theorem tame_var (op : Int) : Tame fun ts => some (varR nm names op ts) := by
  refine yeo end_bad fun t => ?_
  by_cases h : nm t.w = true
  · cases hx : idxW names t.w with
    | some x => exact .takes _ (yez [(op, (x : Int))]) fun r => by simp only [varR, if_pos h, hx]
    | none => exact .fails 5 fun r => by simp only [varR, if_pos h, hx]
  · exact .fails 4 fun r => by simp only [varR, if_neg h]
theorem tame_near : Tame fun ts => some (nearR nm names ts) := by
  refine yeo (end_ok _) fun t => ?_
  by_cases h : t.w = [46]
  · refine .takes (fun r => some (if fieldO (ybq r) = 0 then varR nm names 12 r else .ok [(fieldO (ybq r), 0)] r.tail)) ?_ fun r => congrArg some (if_pos h)
    refine yeo end_bad fun t => ?_
    by_cases h : fieldO t.w = 0
    · exact .leaves _ (tame_var (nm := nm) (names := names) 12) rfl fun r => congrArg some (if_pos h)
    · exact .takes _ (yez [(fieldO t.w, 0)]) fun r => congrArg some (if_neg h)
  · exact .leaves _ (yez [(11, 0)]) rfl fun r => congrArg some (if_neg h)
theorem end_and {x : Option Res} {K : List Tm → List PW → Option Res} (hx : EndR x) (hK : ∀ e, EndR (K e [])) : EndR (andR x K) := by
  rcases hx with rfl | ⟨e, rfl⟩ | rfl
  · exact .inl rfl
  · exact hK e
  · exact end_bad
theorem PP_end : ∀ (f : Nat) (nt : NT), EndR (PP nm names f nt [])
  | 0, nt => .inl rfl
  | f + 1, nt => by
    have ih := PP_end f
    cases nt with
    | choice =>
      rw [PP]
      refine end_and (ih _) fun e => ?_
      rw [if_neg (by simp [ybq])]; exact end_ok e
    | bin l =>
      rw [PP]
      split
      · exact ih _
      · exact end_and (ih _) fun e => ih _
    | tail l left => rw [PP, if_pos (.inl rfl)]; exact end_ok _
    | unary => rw [PP, if_neg (by simp [ybq]), if_neg (by simp [ybq])]; exact ih _
    | prim => exact end_bad
theorem PP_tame : ∀ (f : Nat) (nt : NT), Tame (PP nm names f nt)
  | 0, nt => fun ts res h => by cases h
  | f + 1, nt => by
    have ih := PP_tame f
    cases nt with
    | choice =>
      have hF : PP nm names (f + 1) .choice = fun ts => andR (PP nm names f (.bin 1) ts) fun c r => if ybq r = [63] then andR (PP nm names f .choice r.tail) fun y r2 => wantW [58] r2 fun r3 => andR (PP nm names f .choice r3) fun z r4 => some (.ok ((43, 0) :: (c ++ (y ++ z))) r4) else some (.ok c r) := by
        funext ts; rw [PP]
      rw [hF]
      refine yfc (ih _) (fun c => ?_) fun c => by rw [if_neg (by simp [ybq])]; exact end_ok c
      refine yeo (by rw [if_neg (by simp [ybq])]; exact end_ok c) fun t => ?_
      by_cases h : t.w = [63]
      · exact .takes _ (yfc (ih .choice) (fun y => tame_want [58] (yfc (ih .choice) (fun z => yez ((43, 0) :: (c ++ (y ++ z)))) fun z => end_ok _)) fun y => end_bad) fun r => if_pos h
      · exact .leaves _ (yez c) (by rw [if_neg (by simp [ybq])]) fun r => if_neg h
    | bin l =>
      by_cases h : 6 ≤ l
      · have hF : PP nm names (f + 1) (.bin l) = PP nm names f .unary := by funext ts; rw [PP, if_pos h]
        rw [hF]; exact ih _
      · have hF : PP nm names (f + 1) (.bin l) = fun ts => andR (PP nm names f (.bin (l + 1)) ts) fun left r => PP nm names f (.tail l left) r := by funext ts; rw [PP, if_neg h]
        rw [hF]
        exact yfc (ih _) (fun e => ih _) fun e => PP_end f _
    | tail l left =>
      refine yeo (PP_end _ _) fun t => ?_
      by_cases h : binO t.w = 0 ∨ yej (binO t.w) ≠ l
      · exact .leaves _ (yez left) (by rw [PP, if_pos (.inl rfl)]) fun r => by rw [PP, if_pos (by exact h)]
      · refine .takes (fun r => andR (PP nm names f (.bin (l + 1)) r) fun right r => if l = 3 then some (.ok ((binO t.w, 0) :: (left ++ right)) r) else PP nm names f (.tail l ((binO t.w, 0) :: (left ++ right))) r) ?_ fun r => by rw [PP, if_neg (by exact h), List.tail_cons]; rfl
        by_cases h3 : l = 3
        · simp only [if_pos h3]
          exact yfc (ih _) (fun e => yez _) fun e => end_ok _
        · simp only [if_neg h3]
          exact yfc (ih _) (fun e => ih _) fun e => PP_end f _
    | unary =>
      refine yeo (PP_end _ _) fun t => ?_
      by_cases h : t.w = [45]
      · exact .takes (fun r => andR (PP nm names f .unary r) fun x r => some (.ok ((18, 0) :: x) r)) (yfc (ih _) (fun e => yez _) fun e => end_ok _) fun r => by rw [PP, if_pos (by exact h), List.tail_cons]
      · by_cases h2 : t.w = [33]
        · exact .takes (fun r => andR (PP nm names f .unary r) fun x r => some (.ok ((19, 0) :: x) r)) (yfc (ih _) (fun e => yez _) fun e => end_ok _) fun r => by rw [PP, if_neg (by exact h), if_pos (by exact h2), List.tail_cons]
        · exact .leaves _ (ih .prim) (by rw [PP, if_neg (by simp [ybq]), if_neg (by simp [ybq])]) fun r => by rw [PP, if_neg (by exact h), if_neg (by exact h2)]
    | prim =>
      refine yeo end_bad fun t => ?_
      by_cases h1 : t.k = 2
      · exact .takes _ (yez [(1, (t.v : Int))]) fun r => by simp only [PP, if_pos h1]
      by_cases h2 : t.w = [40]
      · exact .takes _ (yfc (ih .choice) (fun x => tame_want [41] (yez x)) fun x => end_bad) fun r => by simp only [PP, if_neg h1, if_pos h2]
      by_cases h3 : t.w = [113]
      · exact .takes _ (tame_near (nm := nm) (names := names)) fun r => by simp only [PP, if_neg h1, if_neg h2, if_pos h3]
      by_cases h4 : constO t.w ≠ 0
      · exact .takes _ (yez [(constO t.w, 0)]) fun r => by simp only [PP, if_neg h1, if_neg h2, if_neg h3, if_pos h4]
      by_cases h5 : aggO t.w ≠ 0
      · exact .takes _ (tame_want [40] (yfc (ih .choice) (fun x => tame_want [41] (yez ((aggO t.w, 0) :: x))) fun x => end_bad)) fun r => by simp only [PP, if_neg h1, if_neg h2, if_neg h3, if_neg h4, if_pos h5]
      · exact .leaves _ (tame_var (nm := nm) (names := names) 5) rfl fun r => by simp only [PP, if_neg h1, if_neg h2, if_neg h3, if_neg h4, if_neg h5]
end Go.Proofs.YtcpgpiabeimefaaDoor
namespace Go.Proofs.YtcpgpiabeimefaaDoor
open Go.RowKit

theorem drop_ne {r : List UInt8} {k : Nat} (h : r.drop k ≠ []) : k < r.length := by
  rcases Nat.lt_or_ge k r.length with h1 | h1
  · exact h1
  · exact absurd (List.drop_eq_nil_of_le h1) h

theorem scan_head (r x : List UInt8) (c : UInt8) (hc : blankB c = true) (h : r.drop (ybo false r) ≠ []) :
    ybo false (r ++ c :: x) = ybo false r ∧ (r ++ c :: x).drop (ybo false r) = r.drop (ybo false r) ++ c :: x ∧ (r.drop (ybo false r) ++ c :: x) ≠ [] ∧ tokL (r.drop (ybo false r) ++ c :: x) = tokL (r.drop (ybo false r)) := by
  have h1 := drop_ne h
  refine ⟨skip_app _ _ _ h1, ?_, by simp, tok_app _ _ _ hc h⟩
  rw [List.drop_append_of_le_length (by omega)]

theorem scan_more (c : UInt8) (hc : blankB c = true) (x : List UInt8) (left : Nat) : ∀ (p : Nat) (r : List UInt8) (ts : List Tok), ydc left p r = .ok ts →
    (∃ e, ydc left p (r ++ c :: x) = .error e) ∨ ∃ us, ydc left p (r ++ c :: x) = .ok (ts ++ us) := by
  have either : ∀ (left p : Nat) (r : List UInt8), (∃ e, ydc left p r = .error e) ∨ ∃ us, ydc left p r = .ok ([] ++ us) := fun left p r => by
    cases h : ydc left p r with
    | error e => exact .inl ⟨e, rfl⟩
    | ok us => exact .inr ⟨us, rfl⟩
  induction left with
  | zero =>
    intro p r ts h
    rw [ydc] at h
    split at h
    · simp at h; subst h; exact either _ _ _
    · cases h
  | succ left ih =>
    intro p r ts h
    rw [ydc] at h
    split at h
    · simp at h; subst h; exact either _ _ _
    · rename_i hne
      obtain ⟨e1, e2, e3, e4⟩ := scan_head r x c hc hne
      generalize hq : tokL (r.drop (ybo false r)) = q at h e4
      match q, hq with
      | .error e, _ => cases h
      | .ok (k, n, v), hq =>
        have hb := tokL_bd hq
        simp only at h
        generalize hw : ydc left (p + ybo false r + n) ((r.drop (ybo false r)).drop n) = w at h
        cases w with
        | error e => cases h
        | ok us =>
          simp only [consTok] at h
          cases h
          rw [ydc, e1, e2, if_neg e3, e4]
          simp only
          rw [List.drop_append_of_le_length (by omega)]
          rcases ih _ _ _ hw with ⟨e, he⟩ | ⟨vs, hv⟩
          · exact .inl ⟨e, by rw [he]; rfl⟩
          · exact .inr ⟨vs, by rw [hv]; rfl⟩

theorem scan_err_app (c : UInt8) (hc : blankB c = true) (x : List UInt8) (left : Nat) : ∀ (p : Nat) (r : List UInt8) (e : Nat × Nat), ydc left p r = .error e → ydc left p (r ++ c :: x) = .error e := by
  induction left with
  | zero =>
    intro p r e h
    rw [ydc] at h
    split at h
    · cases h
    · rename_i hne
      obtain ⟨e1, e2, e3, e4⟩ := scan_head r x c hc hne
      rw [ydc, e1, e2, if_neg e3]; exact h
  | succ left ih =>
    intro p r e h
    rw [ydc] at h
    split at h
    · cases h
    · rename_i hne
      obtain ⟨e1, e2, e3, e4⟩ := scan_head r x c hc hne
      generalize hq : tokL (r.drop (ybo false r)) = q at h e4
      match q, hq with
      | .error y, _ => rw [ydc, e1, e2, if_neg e3, e4]; exact h
      | .ok (k, n, v), hq =>
        have hb := tokL_bd hq
        simp only at h
        generalize hw : ydc left (p + ybo false r + n) ((r.drop (ybo false r)).drop n) = w at h
        cases w with
        | ok us => cases h
        | error y =>
          simp only [consTok] at h
          cases h
          rw [ydc, e1, e2, if_neg e3, e4]
          simp only
          rw [List.drop_append_of_le_length (by omega), ih _ _ _ hw]
          rfl

theorem bytes_append (a b : ByteArray) : yah (a ++ b) 0 = yah a 0 ++ yah b 0 := by
  unfold yah; simp [ByteArray.data_append]

theorem scanF_err_app {s x : ByteArray} {q e : Nat} {c : UInt8} {r : List UInt8} (hx : yah x 0 = c :: r) (hc : blankB c = true) (hs : (s ++ x).size ≤ 16384) (h : ydh s = .error (q, e)) : ydh (s ++ x) = .error (q, e) := by
  unfold ydh at h
  have := ByteArray.size_append (a := s) (b := x)
  rw [if_neg (by omega)] at h
  unfold ydh
  rw [if_neg (by omega), bytes_append, hx]
  exact scan_err_app c hc r _ _ _ _ h
theorem scanF_more {s x : ByteArray} {ts : List Tok} {c : UInt8} {r : List UInt8} (hx : yah x 0 = c :: r) (hc : blankB c = true) (hs : (s ++ x).size ≤ 16384) (h : ydh s = .ok ts) :
    (∃ e, ydh (s ++ x) = .error e) ∨ ∃ us, ydh (s ++ x) = .ok (ts ++ us) := by
  unfold ydh at h
  have := ByteArray.size_append (a := s) (b := x)
  rw [if_neg (by omega)] at h
  unfold ydh
  rw [if_neg (by omega), bytes_append, hx]
  exact scan_more c hc r _ _ _ _ h
end Go.Proofs.YtcpgpiabeimefaaDoor
set_option linter.unusedVariables false
namespace Go.Proofs.YtcpgpiabeimefaaDoor
open Go.RowKit
variable {nm : Bs → Bool} {names : List Bs}
def yff (nm : Bs → Bool) (names : List Bs) : Bool := decide (names.length ≤ 6) && (names.all nm && decide names.Nodup)
def yfm (s : ByteArray) (ts : List Tok) (rest : List PW) : Nat :=
  match ts.drop (ts.length - rest.length) with
  | [] => s.size
  | t :: _ => t.from_
def ansX (s : ByteArray) (ts : List Tok) (vars : Nat) : Res → List Tm × Int × Int
  | .ok e [] => if yep e vars = true then (e, 0, 0) else ([], 0, 3)
  | .ok e (t :: r) => ([], yfm s ts (t :: r), 4)
  | .bad c rest => ([], yfm s ts rest, c)
def yby (nm : Bs → Bool) (names : List Bs) (s : ByteArray) : List Tm × Int × Int :=
  if yff nm names = false then ([], 0, 7) else
  match ydh s with
  | .error (p, e) => ([], p, e)
  | .ok ts => match PP nm names (10 * ts.length + 9) .choice (ts.map (pwT s)) with
    | some res => ansX s ts names.length res
    | none => ([], 0, 0)
theorem parseX_bad {s : ByteArray} (h : yff nm names = false) : yby nm names s = ([], 0, 7) := by rw [yby, if_pos h]
theorem parseX_err {s : ByteArray} {p e : Nat} (h : yff nm names = true) (hs : ydh s = .error (p, e)) : yby nm names s = ([], (p : Int), (e : Int)) := by
  rw [yby, if_neg (by simp [h]), hs]
theorem pars_fuel {ts : List PW} {res : Res} (h : Pars nm names .choice ts res) {f : Nat} (hf : 10 * ts.length + 9 ≤ f) : PP nm names f .choice ts = some res := by
  obtain ⟨y, hy⟩ := PP_total (nm := nm) (names := names) f .choice ts (fun l e => by cases e) (fun l x e => by cases e) hf
  rw [hy, Pars.det ⟨f, hy⟩ h]
theorem parseX_of {s : ByteArray} {ts : List Tok} {res : Res} (h : yff nm names = true) (hs : ydh s = .ok ts) (hr : Pars nm names .choice (ts.map (pwT s)) res) : yby nm names s = ansX s ts names.length res := by
  have := pars_fuel hr (f := 10 * ts.length + 9) (by simp)
  rw [yby, if_neg (by simp [h]), hs]
  simp only [this]
structure NmW (nm : Bs → Bool) : Prop where
  word : ∀ w, nm w = true → WordOk w
  res : ∀ w, nm w = true → constO w = 0 ∧ aggO w = 0 ∧ fieldO w = 0 ∧ w ≠ [113] ∧ w ≠ [40] ∧ w ≠ [45] ∧ w ≠ [33]
theorem goodL_spec (h : yff nm names = true) : names.length ≤ 6 ∧ (∀ w ∈ names, nm w = true) ∧ names.Nodup := by
  simp only [yff, Bool.and_eq_true, decide_eq_true_eq, List.all_eq_true] at h
  exact h
theorem NmW.ok (hN : NmW nm) (h : yff nm names = true) : NmOk nm names := ⟨(goodL_spec h).2.1, (goodL_spec h).2.2, hN.res⟩
theorem NmW.words (hN : NmW nm) (h : yff nm names = true) : ∀ w ∈ names, WordOk w := fun w hw => hN.word w ((goodL_spec h).2.1 w hw)
theorem valid_spec {l : List Tm} {v : Int} (h : yep l v = true) : ∃ E, yfr l = some E ∧ E.ok ∧ E.fl = l ∧ l.length ≤ 200 ∧ (∀ t ∈ l, argB v t = true) := by
  unfold yep at h
  cases hp : yfr l with
  | none => rw [hp] at h; cases h
  | some E =>
    rw [hp] at h
    simp only [Bool.and_eq_true, decide_eq_true_eq, List.all_eq_true] at h
    exact ⟨E, rfl, (parse_some hp).1, (parse_some hp).2, h.1, h.2.1⟩
def formatT (al : Bool) (names : List Bs) (e : List Tm) : Bs := match yfr e with
  | some E => ybe al names E
  | none => []
def formatX (nm : Bs → Bool) (names : List Bs) (e : List Tm) : Bs × Int := if yff nm names = true ∧ yep e names.length = true then (formatT false names e, 0) else ([], 7)
theorem tokL_err {r : List UInt8} {e : Nat} (h : tokL r = .error e) : 1 ≤ e ∧ e ≤ 5 := by
  unfold tokL at h
  cases r with
  | nil => cases h; omega
  | cons c x =>
    simp only at h
    split at h
    · split at h
      · cases h; omega
      · cases h
    · split at h
      · split at h
        · cases h; omega
        · cases h
      · split at h
        · cases h; omega
        · cases h
theorem consTok_err {t : Tok} {x : Except (Nat × Nat) (List Tok)} {e : Nat × Nat} (h : consTok t x = .error e) : x = .error e := by
  cases x with
  | error e' => exact h
  | ok us => cases h
theorem scanL_err : ∀ (left p : Nat) (r : List UInt8) (q e : Nat), ydc left p r = .error (q, e) → 1 ≤ e ∧ e ≤ 5
  | 0, p, r, q, e, h => by
    rw [ydc] at h
    split at h
    · cases h
    · cases h; omega
  | left + 1, p, r, q, e, h => by
    rw [ydc] at h
    split at h
    · cases h
    · split at h
      · rename_i ht; cases h; exact tokL_err ht
      · exact scanL_err left _ _ q e (consTok_err h)
theorem scan_pos {s : ByteArray} {q e : Nat} (h : ydh s = .error (q, e)) : 1 ≤ e ∧ e ≤ 5 := by
  unfold ydh at h
  split at h
  · cases h; omega
  · exact scanL_err _ _ _ _ _ h
end Go.Proofs.YtcpgpiabeimefaaDoor
set_option linter.unusedVariables false
namespace Go.Proofs.YtcpgpiabeimefaaDoor
open Go.RowKit
variable {nm : Bs → Bool} {names : List Bs}
theorem skipL_take0 (r : List UInt8) (m : Nat) : (r.take m).drop (ybo false (r.take m)) = (r.drop (ybo false r)).take (m - ybo false r) := by
  rw [skip_take, List.drop_take]
  by_cases h : m ≤ ybo false r
  · rw [Nat.min_eq_left h, Nat.sub_self, Nat.sub_eq_zero_of_le h, List.take_zero, List.take_zero]
  · rw [Nat.min_eq_right (by omega)]
theorem scan_before (left : Nat) : ∀ (p : Nat) (r : List UInt8) (pre : List Tok) (t : Tok) (suf : List Tok), ydc left p r = .ok (pre ++ t :: suf) → p ≤ t.from_ ∧ t.from_ ≤ p + r.length ∧ ydc left p (r.take (t.from_ - p)) = .ok pre ∧ ∀ x ∈ pre, x.to ≤ t.from_ := by
  induction left with
  | zero =>
    intro p r pre t suf h
    rw [ydc] at h
    split at h <;> simp at h
  | succ left ih =>
    intro p r pre t suf h
    rw [ydc] at h
    split at h
    · simp at h
    · rename_i h0
      split at h
      · cases h
      · rename_i k n v ht
        obtain ⟨us, h1, he⟩ := consTok_ok h
        have hb := tokL_bd ht
        have hlen : ybo false r ≤ r.length := skipL_le _ _
        rw [List.length_drop] at hb
        cases pre with
        | nil =>
          simp only [List.nil_append, List.cons.injEq] at he
          obtain ⟨rfl, rfl⟩ := he
          simp only
          refine ⟨by omega, by omega, ?_, by simp⟩
          rw [Nat.add_sub_cancel_left]
          have e : (r.take (ybo false r)).drop (ybo false (r.take (ybo false r))) = [] := by rw [skipL_take0, Nat.sub_self, List.take_zero]
          rw [ydc, if_pos e]
        | cons t0 pre =>
          simp only [List.cons_append, List.cons.injEq] at he
          obtain ⟨rfl, rfl⟩ := he
          obtain ⟨g1, g2, g3, g4⟩ := ih _ _ pre t suf h1
          simp only [List.length_drop] at g2
          have e : (r.take (t.from_ - p)).drop (ybo false (r.take (t.from_ - p))) = (r.drop (ybo false r)).take (t.from_ - p - ybo false r) := skipL_take0 _ _
          have hn : n ≤ t.from_ - p - ybo false r := by omega
          have ht2 := tok_take _ k n v _ ht hn
          have hs : ybo false (r.take (t.from_ - p)) = ybo false r := by rw [skip_take]; omega
          refine ⟨by omega, by omega, ?_, fun x hx => ?_⟩
          · rw [ydc, if_neg, e, ht2]
            · simp only
              rw [hs, List.drop_take, show t.from_ - p - ybo false r - n = t.from_ - (p + ybo false r + n) by omega, g3]
              rfl
            · rw [e]
              intro hnil
              have := congrArg List.length hnil
              simp only [List.length_take, List.length_drop, List.length_nil] at this
              omega
          · rcases List.mem_cons.1 hx with rfl | hx
            · simp only; omega
            · exact g4 x hx
theorem scanF_before {s : ByteArray} {pre suf : List Tok} {t : Tok} (hs : s.size ≤ 16384) (h : ydh s = .ok (pre ++ t :: suf)) : t.from_ ≤ s.size ∧ ydh (s.extract 0 t.from_) = .ok pre ∧ ∀ x ∈ pre, x.to ≤ t.from_ := by
  rw [ydh, if_neg (by omega)] at h
  obtain ⟨h1, h2, h3, h4⟩ := scan_before 4096 0 _ pre t suf h
  rw [ybd] at h2
  refine ⟨by omega, ?_, h4⟩
  rw [ydh, if_neg (by rw [extract_size _ _ _ (by omega)]; omega), bytes_extract]
  exact h3
theorem pwT_before {s : ByteArray} {t : Tok} {n : Nat} (h1 : t.from_ ≤ t.to) (h : t.to ≤ n) (hn : n ≤ s.size) : pwT (s.extract 0 n) t = pwT s t := by
  have e : yah (s.extract 0 n) t.from_ = (yah s t.from_).take (n - t.from_) := by
    rw [show yah (s.extract 0 n) t.from_ = (yah (s.extract 0 n) 0).drop t.from_ by rw [bytesFrom_drop, Nat.zero_add], bytes_extract, Nat.sub_zero, List.drop_take, bytesFrom_drop, Nat.zero_add]
  rw [pwT, pwT, e, List.take_take, Nat.min_eq_left (by omega)]
theorem pwT_app {s x : ByteArray} {t : Tok} (h1 : t.from_ ≤ t.to) (h : t.to ≤ s.size) : pwT (s ++ x) t = pwT s t := by
  have e : yah (s ++ x) t.from_ = yah s t.from_ ++ yah x 0 := by
    rw [show yah (s ++ x) t.from_ = (yah (s ++ x) 0).drop t.from_ by rw [bytesFrom_drop, Nat.zero_add], bytes_append, List.drop_append_of_le_length (by rw [ybd]; omega), bytesFrom_drop, Nat.zero_add]
  rw [pwT, pwT, e, List.take_append_of_le_length (by rw [ybd]; omega)]
theorem map_pw {s s' : ByteArray} {l : List Tok} (h : ∀ t ∈ l, pwT s' t = pwT s t) : l.map (pwT s') = l.map (pwT s) := List.map_congr_left h
theorem rest_split {s : ByteArray} {ts : List Tok} {rest : List PW} (h : rest <:+ ts.map (pwT s)) (hne : rest ≠ []) : ∃ pre t suf, ts = pre ++ t :: suf ∧ rest = (t :: suf).map (pwT s) ∧ ts.map (pwT s) = pre.map (pwT s) ++ rest ∧ yfm s ts rest = t.from_ := by
  have hl := h.length_le
  rw [List.length_map] at hl
  have hr : rest = (ts.drop (ts.length - rest.length)).map (pwT s) := by
    have := List.suffix_iff_eq_drop.1 h
    rwa [List.length_map, ← List.map_drop] at this
  have hp : 1 ≤ rest.length := by
    cases rest with
    | nil => exact absurd rfl hne
    | cons a b => simp
  cases hd : ts.drop (ts.length - rest.length) with
  | nil =>
    have := congrArg List.length hd
    simp at this
    omega
  | cons t suf =>
    refine ⟨ts.take (ts.length - rest.length), t, suf, ?_, ?_, ?_, ?_⟩
    · rw [← hd, List.take_append_drop]
    · rw [hr, hd]
    · conv => rhs; rhs; rw [hr]
      rw [← List.map_append, List.take_append_drop]
    · rw [yfm, hd]
theorem atPlace_of {s : ByteArray} {pre suf : List Tok} {t : Tok} {rest : List PW} (h : rest.length = suf.length + 1) : yfm s (pre ++ t :: suf) rest = t.from_ := by
  have e : (pre ++ t :: suf).drop ((pre ++ t :: suf).length - rest.length) = t :: suf := by
    rw [List.length_append, List.length_cons, h, Nat.add_sub_cancel, List.drop_left]
  rw [yfm, e]
theorem ansX_err {s : ByteArray} {ts : List Tok} {v : Nat} {res : Res} (h : (ansX s ts v res).2.2 = 4 ∨ (ansX s ts v res).2.2 = 5) : ∃ c, ansX s ts v res = ([], ((yfm s ts res.rest : Nat) : Int), c) ∧ ((∃ e, res = .ok e res.rest) ∧ c = 4 ∧ res.rest ≠ [] ∨ res = .bad c res.rest) := by
  cases res with
  | bad c r => exact ⟨c, rfl, .inr rfl⟩
  | ok e r => cases r with
    | nil =>
      simp only [ansX] at h
      split at h <;> simp at h
    | cons t r => exact ⟨4, rfl, .inl ⟨⟨e, rfl⟩, rfl, by simp [Res.rest]⟩⟩
theorem parseX_stops (hg : yff nm names = true) {s x : ByteArray} {ts us : List Tok} {c : UInt8} {r : List UInt8} (hs : s.size ≤ 16384) (hsx : (s ++ x).size ≤ 16384) (h1 : ydh s = .ok ts) (h2 : ydh (s ++ x) = .ok (ts ++ us)) (h : (yby nm names s).2.2 = 4 ∨ (yby nm names s).2.2 = 5) (hat : (yby nm names s).2.1 ≠ s.size) :
    ∃ at_ : Nat, at_ ≤ s.size ∧ (yby nm names s).2.1 = at_ ∧ (yby nm names (s ++ x)).2.1 = at_ ∧ (yby nm names (s ++ x)).2.2 = (yby nm names s).2.2 ∧
      ((yby nm names (s.extract 0 at_)).2.2 = 0 ∨ (yby nm names (s.extract 0 at_)).2.2 = 3 ∨ (yby nm names (s.extract 0 at_)).2.2 = 4 ∧ (yby nm names (s.extract 0 at_)).2.1 = at_) := by
  obtain ⟨res, hres⟩ := pars_total (nm := nm) (names := names) (ts.map (pwT s))
  have hP := parseX_of hg h1 hres
  have hgd := good_of s ts h1
  have hmem := hgd.mem
  rw [hP] at h hat ⊢
  obtain ⟨c, hc, hk⟩ := ansX_err h
  rw [hc] at hat ⊢
  have hsuf : res.rest <:+ ts.map (pwT s) := by
    have := hres.sp
    cases res <;> exact this.1
  have hne : res.rest ≠ [] := by
    intro e
    rw [e] at hat
    apply hat
    simp [yfm]
  obtain ⟨pre, t, suf, hts, hrest, hmap, hpl⟩ := rest_split hsuf hne
  rw [hpl]
  subst hts
  obtain ⟨b1, b2, b3⟩ := scanF_before hs h1
  have hpre : pre.map (pwT (s.extract 0 t.from_)) = pre.map (pwT s) := map_pw fun y hy => by
    have := hmem y (by simp [hy])
    exact pwT_before (by omega) (b3 y hy) b1
  have happ : (pre ++ t :: suf).map (pwT (s ++ x)) = (pre ++ t :: suf).map (pwT s) := map_pw fun y hy => by
    have := hmem y hy
    exact pwT_app (by omega) this.2.2.2.1
  have hmap2 : (pre ++ t :: suf ++ us).map (pwT (s ++ x)) = pre.map (pwT s) ++ (res.rest ++ us.map (pwT (s ++ x))) := by
    rw [List.map_append, happ, hmap, List.append_assoc]
  obtain ⟨f, hf⟩ := hres
  rw [hmap] at hf
  have hT := PP_tame (nm := nm) (names := names) (max f (10 * pre.length + 9)) .choice _ _ (PP_mono hf (Nat.le_max_left _ _))
  obtain ⟨y, hy⟩ := PP_total (nm := nm) (names := names) (max f (10 * pre.length + 9)) .choice (pre.map (pwT s)) (fun l e => by cases e) (fun l x e => by cases e) (by rw [List.length_map]; exact Nat.le_max_right _ _)
  have hhead : (res.rest ++ us.map (pwT (s ++ x))).head? = res.rest.head? := by
    cases hq : res.rest with
    | nil => exact absurd hq hne
    | cons a b => rfl
  have hlen : ∀ q : List PW, (res.rest ++ us.map (pwT (s ++ x))).length = (suf ++ us).length + 1 := fun _ => by
    rw [hrest]; simp
  have hplace2 : yfm (s ++ x) (pre ++ t :: suf ++ us) (res.rest ++ us.map (pwT (s ++ x))) = t.from_ := by
    rw [List.append_assoc, List.cons_append]
    exact atPlace_of (hlen [])
  have hfin : ∀ r2, Pars nm names .choice (pre.map (pwT s)) r2 → (∃ e, r2 = .ok e []) ∨ r2 = .bad 4 [] → ((yby nm names (s.extract 0 t.from_)).2.2 = 0 ∨ (yby nm names (s.extract 0 t.from_)).2.2 = 3 ∨ (yby nm names (s.extract 0 t.from_)).2.2 = 4 ∧ (yby nm names (s.extract 0 t.from_)).2.1 = (t.from_ : Int)) := by
    intro r2 hr2 hcase
    have := parseX_of hg b2 (by rw [hpre]; exact hr2)
    rw [this]
    rcases hcase with ⟨e, rfl⟩ | rfl
    · rw [ansX]
      split
      · exact .inl rfl
      · exact .inr (.inl rfl)
    · refine .inr (.inr ⟨rfl, ?_⟩)
      simp only [ansX, yfm, List.length_nil, Nat.sub_zero, List.drop_length]
      rw [extract_size _ _ _ b1]
      simp
  refine ⟨t.from_, b1, rfl, ?_⟩
  rcases hk with ⟨⟨e, he⟩, rfl, _⟩ | he
  · rw [he] at hT
    obtain ⟨_, hcut⟩ := hT
    have c1 := hcut _ rfl _ (.inl hhead)
    have c2 := hcut _ rfl _ (.inr rfl)
    rw [List.append_nil] at c2
    have hp2 := parseX_of hg h2 (by rw [hmap2]; exact ⟨_, c1⟩)
    refine ⟨?_, ?_, hfin _ ⟨_, c2⟩ (.inl ⟨e, rfl⟩)⟩
    · rw [hp2]
      cases hq : res.rest ++ us.map (pwT (s ++ x)) with
      | nil => rw [hq] at hhead; rw [← hhead] at *; exact absurd (List.append_eq_nil_iff.1 hq).1 hne
      | cons a b => rw [ansX, ← hq, hplace2]
    · rw [hp2]
      cases hq : res.rest ++ us.map (pwT (s ++ x)) with
      | nil => exact absurd (List.append_eq_nil_iff.1 hq).1 hne
      | cons a b => rw [ansX]
  · rw [he] at hT
    obtain ⟨_, hcut⟩ := hT
    obtain ⟨c1, c2⟩ := hcut hne _ rfl
    have hp2 := parseX_of hg h2 (by rw [hmap2]; exact ⟨_, c1 _ hhead⟩)
    refine ⟨?_, ?_, ?_⟩
    · rw [hp2, ansX, hplace2]
    · rw [hp2, ansX]
    · rcases c2 with h | ⟨e, h⟩ | h
      · rw [hy] at h; cases h
      · exact hfin _ ⟨_, h⟩ (.inl ⟨e, rfl⟩)
      · exact hfin _ ⟨_, h⟩ (.inr rfl)
end Go.Proofs.YtcpgpiabeimefaaDoor
set_option linter.unusedVariables false
set_option maxRecDepth 100000
set_option maxHeartbeats 8000000
namespace Go.Proofs.YtcpgpiabeimefaaDoor
open Go.RowKit
def resW : List (List UInt8) := [[112, 114, 111, 103, 114, 97, 109], [118, 97, 114], [114, 117, 108, 101], [98, 111, 111, 108], [112, 111, 114, 116], [116, 114, 117, 101], [102, 97, 108, 115, 101], [110, 111, 110, 101], [110], [105, 100, 115], [105, 100], [100, 101, 103], [114, 111, 111, 116], [113], [119, 101, 105, 103, 104, 116], [98, 97, 99, 107], [97, 108, 108], [115, 111, 109, 101], [99, 111, 117, 110, 116], [102, 105, 114, 115, 116], [109, 105, 110], [109, 97, 120], [115, 117, 109], [109, 101, 120], [115, 101, 99, 111, 110, 100], [104, 101, 97, 100]]
def resB (s : ByteArray) : Bool := resW.any (fun x => s.toList == x)
theorem resB_no (s : ByteArray) (q0 : (s.toList == [112, 114, 111, 103, 114, 97, 109]) = false) (q1 : (s.toList == [118, 97, 114]) = false) (q2 : (s.toList == [114, 117, 108, 101]) = false) (q3 : (s.toList == [98, 111, 111, 108]) = false) (q4 : (s.toList == [112, 111, 114, 116]) = false) (q5 : (s.toList == [116, 114, 117, 101]) = false) (q6 : (s.toList == [102, 97, 108, 115, 101]) = false) (q7 : (s.toList == [110, 111, 110, 101]) = false) (q8 : (s.toList == [110]) = false) (q9 : (s.toList == [105, 100, 115]) = false) (q10 : (s.toList == [105, 100]) = false) (q11 : (s.toList == [100, 101, 103]) = false) (q12 : (s.toList == [114, 111, 111, 116]) = false) (q13 : (s.toList == [113]) = false) (q14 : (s.toList == [119, 101, 105, 103, 104, 116]) = false) (q15 : (s.toList == [98, 97, 99, 107]) = false) (q16 : (s.toList == [97, 108, 108]) = false) (q17 : (s.toList == [115, 111, 109, 101]) = false) (q18 : (s.toList == [99, 111, 117, 110, 116]) = false) (q19 : (s.toList == [102, 105, 114, 115, 116]) = false) (q20 : (s.toList == [109, 105, 110]) = false) (q21 : (s.toList == [109, 97, 120]) = false) (q22 : (s.toList == [115, 117, 109]) = false) (q23 : (s.toList == [109, 101, 120]) = false) (q24 : (s.toList == [115, 101, 99, 111, 110, 100]) = false) (q25 : (s.toList == [104, 101, 97, 100]) = false) : resB s = false := by
  simp only [resB, resW, List.any_cons, List.any_nil, q0, q1, q2, q3, q4, q5, q6, q7, q8, q9, q10, q11, q12, q13, q14, q15, q16, q17, q18, q19, q20, q21, q22, q23, q24, q25, Bool.or_false]
theorem ybs (s : ByteArray) (x : List UInt8) (hx : resW.contains x = true) (h : (s.toList == x) = true) : resB s = true := by
  unfold resB
  rw [List.any_eq_true]
  exact ⟨x, List.contains_iff_mem.1 hx, h⟩

set_option maxHeartbeats 4000000 in
def nameB (s : ByteArray) : Bool :=
  match yah s 0 with
  | [] => false
  | c :: r => decide (s.size ≤ 24) && (ycb c && ((c :: r).all yda && !resB s))
theorem nameB_empty (s : ByteArray) (h : s.size = 0) : nameB s = false := by
  unfold nameB; rw [bytesFrom_ge s 0 (by omega)]
theorem nameB_long (s : ByteArray) (h : 24 < s.size) : nameB s = false := by
  unfold nameB; rw [ybf s 0 (by omega)]; simp; omega
theorem nameB_letter (s : ByteArray) (h : 0 < s.size) (hl : ycb s[0] = false) : nameB s = false := by
  unfold nameB; rw [ybf s 0 h]; simp [hl]
theorem nameB_word (s : ByteArray) (k : Nat) (h : k < s.size) (hw : yda s[k] = false) : nameB s = false := by
  have hm := mem_bytes s k h
  unfold nameB
  cases hb : yah s 0 with
  | nil => rfl
  | cons c r =>
    rw [hb] at hm
    have : (c :: r).all yda = false := by
      rw [List.all_eq_false]; exact ⟨s[k], hm, by simp [hw]⟩
    simp only [this, Bool.false_and, Bool.and_false]
theorem nameB_rest (s : ByteArray) (h : 0 < s.size) (h24 : s.size ≤ 24) (hl : ycb s[0] = true) (ha : ((yah s 0).take s.size).all yda = true) : nameB s = !resB s := by
  rw [take_all s _ (Nat.le_refl _)] at ha
  unfold nameB
  rw [ybf s 0 h] at *
  simp only [ha, hl, h24, decide_true, Bool.true_and]
theorem all_snoc (s : ByteArray) (k : Nat) (h : k < s.size) (ha : ((yah s 0).take k).all yda = true) (hw : yda s[k] = true) : ((yah s 0).take (k + 1)).all yda = true := by
  rw [take_snoc s k h, List.all_append, ha]; simp [hw]

set_option maxHeartbeats 1000000 in
theorem name_not_reserved (s : ByteArray) (h : nameB s = true) : resB s = false := by
  unfold nameB at h
  split at h
  · cases h
  · simp at h; exact h.2.2.2
end Go.Proofs.YtcpgpiabeimefaaDoor
set_option linter.unusedVariables false
namespace Go.Proofs.YtcpgpiabeimefaaDoor
open Go.RowKit
def nmW (w : Bs) : Bool := nameB (ba w)
theorem yfk (w : Bs) : (ba w).toList = w := by rw [Lib.toList_data]; exact ycn w
theorem resB_ba (w : Bs) : resB (ba w) = resW.any (fun x => w == x) := by rw [resB, yfk]
theorem nmW_spec {w : Bs} (h : nmW w = true) : WordOk w ∧ resW.contains w = false := by
  have hr := name_not_reserved _ h
  rw [resB_ba] at hr
  unfold nmW nameB at h
  have hb : yah (ba w) 0 = w := ycn w
  rw [hb] at h
  cases w with
  | nil => cases h
  | cons c r =>
    simp only [Bool.and_eq_true, decide_eq_true_eq, List.all_eq_true] at h
    rw [yau] at h
    refine ⟨⟨h.1, h.2.2.1, c, r, rfl, h.2.1⟩, ?_⟩
    rw [List.any_eq_false] at hr
    cases hc : resW.contains (c :: r) with
    | false => rfl
    | true =>
      rw [List.contains_iff_mem] at hc
      exact absurd (by simp) (hr _ hc)
theorem const_res : ∀ w ∈ constL, w ≠ [] → resW.contains w = true := by decide
theorem agg_res : ∀ w ∈ aggL, resW.contains w = true := by decide
theorem field_res : ∀ w ∈ fieldL, resW.contains w = true := by decide
theorem nmW_names : NmW nmW := by
  refine ⟨fun w h => (nmW_spec h).1, fun w h => ?_⟩
  obtain ⟨⟨_, h2, c, r, rfl, hc⟩, hr⟩ := nmW_spec h
  have hz : ∀ (first : Int) (l : List Bs), (∀ x ∈ l, x ≠ [] → resW.contains x = true) → findL first l (c :: r) = 0 := by
    intro first l hl
    refine Decidable.byContradiction fun hne => ?_
    have := find_mem hne
    rw [hl _ this.1 this.2] at hr
    cases hr
  refine ⟨hz 2 constL const_res, hz 20 aggL fun x hx _ => agg_res x hx, hz 13 fieldL fun x hx _ => field_res x hx, ?_, ?_, ?_, ?_⟩
  · intro e; rw [e] at hr; revert hr; decide
  all_goals
    intro e
    obtain ⟨rfl, _⟩ := List.cons.inj e
    revert hc; decide
end Go.Proofs.YtcpgpiabeimefaaDoor
set_option linter.unusedVariables false
set_option maxHeartbeats 4000000
namespace Go.Proofs.YtcpgpiabeimefaaDoor
open Go.RowKit

theorem hlook_ne {j d : Nat} {o : Option LObj} {h : List (Nat × Option LObj)} (hne : j ≠ d) : yal ((d, o) :: h) j = yal h j := by
  simp only [yal]
  rw [yeb hne]
def matO : List AV → LObj
  | [] => .vec []
  | x :: xs => .mcells (x :: xs)
variable {f : List (Nat × Option LObj)} {M sz : Nat} {rows : List (List AV)} {extra : List AV}
def lowA : AV → Bool
  | .lp id _ => Nat.blt id 1000000
  | .ls id _ _ => Nat.blt id 1000000
  | .mp id => Nat.blt id 1000000
  | .agg cs => lowL cs
  | .tup cs => lowL cs
  | .fn _ cs => lowL cs
  | _ => true
  where lowL : List AV → Bool
  | [] => true
  | c :: cs => lowA c && lowL cs
theorem blt_low {id j : Nat} (h : Nat.blt id 1000000 = true) (hj : 1000000 ≤ j) : Nat.beq id j = false := yeb (by have h2 : id < 1000000 := (by simpa using h); omega)
theorem lowA.ment {j : Nat} (hj : 1000000 ≤ j) : ∀ {x : AV}, lowA x = true → ment j x = false
  | .v _, _ => rfl
  | .any, _ => rfl
  | .one, _ => rfl
  | .sl _ _, _ => rfl
  | .dp _ _, _ => rfl
  | .mv _, _ => rfl
  | .lp id _, h => blt_low h hj
  | .ls id _ _, h => blt_low h hj
  | .mp id, h => blt_low h hj
  | .agg cs, h => rowsM (cs := cs) h
  | .tup cs, h => rowsM (cs := cs) h
  | .fn _ cs, h => rowsM (cs := cs) h
  where rowsM : ∀ {cs : List AV}, lowA.lowL cs = true → ment.mentL j cs = false
  | [], _ => rfl
  | c :: cs, h => by
    simp only [lowA.lowL, Bool.and_eq_true] at h
    simp only [ment.mentL, Bool.or_eq_false_iff]
    exact ⟨lowA.ment hj h.1, rowsM h.2⟩
def lowO : LObj → Bool
  | .cells xs => lowA.lowL xs
  | .tcells _ xs => lowA.lowL xs
  | .mcells xs => lowA.lowL xs
  | _ => true
theorem lowO.ment {j : Nat} (hj : 1000000 ≤ j) {o : LObj} (h : lowO o = true) : yel j o = false := by
  cases o <;> first | rfl | exact lowA.ment.rowsM hj h
theorem mentO_matO (d : Nat) (xs : List AV) : yel d (matO xs) = ment.mentL d xs := by cases xs <;> rfl
section
variable {P : Program} {T : Nat → Option Ty} {N : Nat} {ops : Array Oper} {lf : Oper → Bool} {Q : SS → Prop} {t : List (Nat × AV)} {h : List (Nat × Option LObj)} {rest : List Oper} {d : Nat} {op : Op} {ty : TypeId} {pos : String} {af : Array Edge} {gd : Option (Nat × Bool)} {r : AV}
end

theorem renA_pure {σ : Nat → Nat} : ∀ {x : AV}, ybn x = true → yen σ x = x
  | .v _, _ => rfl
  | .any, _ => rfl
  | .one, _ => rfl
  | .sl _ _, _ => rfl
  | .dp _ _, _ => rfl
  | .mv _, _ => rfl
  | .agg cs, h => by simp only [yen, rows (cs := cs) h]
  | .tup cs, h => by simp only [yen, rows (cs := cs) h]
  | .fn _ cs, h => by simp only [yen, rows (cs := cs) h]
  where rows : ∀ {cs : List AV}, ybn.pureL cs = true → yen.renL σ cs = cs
  | [], _ => rfl
  | c :: cs, h => by
    simp only [ybn.pureL, Bool.and_eq_true] at h
    simp only [yen.renL, renA_pure h.1, rows h.2]
section
variable {P : Program} {T : Nat → Option Ty} {N : Nat} {ops : Array Oper} {lf : Oper → Bool} {Q : SS → Prop} {t : List (Nat × AV)} {h : List (Nat × Option LObj)} {rest : List Oper} {d : Nat} {op : Op} {ty : TypeId} {pos : String} {af : Array Edge} {gd : Option (Nat × Bool)} {r : AV}
end

end Go.Proofs.YtcpgpiabeimefaaDoor
set_option linter.unusedVariables false
set_option maxHeartbeats 4000000
namespace Go.Proofs.YtcpgpiabeimefaaDoor
open Go.RowKit
theorem box_to_dp {h : Nat → Option LObj} {id off : Nat} {xs : List AV} {B : Bse} {ok0 : Nat → Prop} {lv : Live} {w : World} {u : Value} (hi : Inv B ok0 h lv w) (hx : h id = some (.cells xs)) (hr : Rel (ybh B ok0 lv w) w lv (.lp id off) u) (hp : ybn.pureL xs = true) (ok' : Nat → Prop) (hk1 : ∀ g, ybh B ok0 lv w g → ok' g) (hk2 : ∀ b n, lv id = some (some b, n) → ok' b) : Rel ok' w (fun _ => none) (.dp xs off) u := by
  obtain ⟨b, n, h1, rfl, h2⟩ := yck hi (by rw [hx]; rfl) (.inr hx) hr
  have := Rel.dp (ok := ok') (w := w) (lv := fun _ => none) (row := xs) (off := off) b 0 (fun j => (w.cell? ⟨b, 0 + j, none⟩).getD undef) (hk2 b n h1) (fun j c hc => ?_) (fun j c hc => ?_)
  · rwa [Nat.zero_add] at this
  · obtain ⟨q1, v, q2, _⟩ := h2 j c hc
    exact ⟨by rw [q2]; rfl, q1⟩
  · obtain ⟨_, v, q2, q3⟩ := h2 j c hc
    rw [q2]
    exact (q3.relive fun id b n hb _ => by cases hb).keep fun g hg => ⟨hk1 g hg, rfl⟩
theorem Frz.box {h : Nat → Option LObj} {id off : Nat} {xs : List AV} (hx : h id = some (.cells xs)) (hp : ybn.pureL xs = true) : Frz h (.lp id off) (.dp xs off) :=
  fun B ok0 lv w u hi hr => box_to_dp hi hx hr hp _ (fun g hg => ⟨hg.1, hg.2.1⟩) fun b n hb => by obtain ⟨_, _, h1, h2, _⟩ := hi.lvat hb; exact ⟨.inr h1, h2⟩
theorem Frz.fn {h : Nat → Option LObj} {f : Nat} {xs ys : List AV} (hl : xs.length = ys.length) (hf : ∀ (i : Nat) (x y : AV), xs[i]? = some x → ys[i]? = some y → Frz h x y) : Frz h (.fn f xs) (.fn f ys) := by
  intro B ok0 lv w u hi hr
  cases hr with
  | fn vs hvl hrr =>
    refine .fn vs (hvl.trans hl) fun i c v hc hv => ?_
    obtain ⟨x, hx⟩ : ∃ x, xs[i]? = some x := ⟨_, List.getElem?_eq_getElem (by have := (List.getElem?_eq_some_iff.1 hc).1; omega)⟩
    exact hf i x c hx hc B ok0 lv w v hi (hrr i x v hx hv)
variable {P : Program} {N : Nat} {t : List (Nat × AV)} {h : List (Nat × Option LObj)}
end Go.Proofs.YtcpgpiabeimefaaDoor
set_option linter.unusedVariables false
set_option maxHeartbeats 4000000
namespace Go.Proofs.YtcpgpiabeimefaaDoor
open Go.RowKit
theorem isC_matO (xs : List AV) : isC (matO xs) = false := by cases xs <;> rfl
theorem objAt_matO {ok : Nat → Prop} {lv : Live} {w : World} {b n : Nat} {xs : List AV} : yeg ok lv w b n (matO xs) ↔ yeq ok lv w b n xs := by
  cases xs with
  | nil => exact ⟨fun h => h.1, fun h => ⟨h, fun x hx => by cases hx⟩⟩
  | cons x xs => exact Iff.rfl
variable {P : Program} {T : Nat → Option Ty} {N : Nat} {ops : Array Oper} {lf : Oper → Bool} {Q : SS → Prop} {t : List (Nat × AV)} {h : List (Nat × Option LObj)} {rest : List Oper} {d : Nat} {op : Op} {ty : TypeId} {pos : String} {af : Array Edge} {gd : Option (Nat × Bool)} {r : AV}
theorem buildM_loud (hT : TOK P T) {o : Oper} {ti e es eb sz len : Nat} {ea ag : Bool} {ez z : List Value} {parts : List (Nat × Operand)} {ps : List (Nat × AV)} {ys : List AV} {s : SS} (id : Nat) (ho : o.op = .buildSlice ti len parts.toArray) (hd : o.dst = some d) (hdN : d < N) (hk : T ti = some ⟨.slc e es ea eb ez, sz, ag, z⟩) (hone : ez.all Value.oneCell' = true)
    (hps : evP (evF s.t) parts = some ps) (hf : fillA (fun i => some (i * es, es)) (repA len (vMap ez)) ps = some ys) (hlen : ys.length = len * es) (hlim : Nat.ble (len * es) 16777216 = true) (hfr : Fresh s id) (hm : ment.mentL id ys = false) :
    LoudAt P N o s (· = ⟨updF s.t (some d) (.ls id es len), ydq s.h id (some (matO ys))⟩) := by
  intro B ok0 lv a w hs Q
  obtain ⟨h1, h2⟩ := evP_rel (ok := ybh B ok0 lv w) (w := w) (lv := lv) (a := a) hps fun x y hx hxy => hs.eval hxy
  obtain ⟨hu, hsz, _, hz, hzl, hpos⟩ := (hT _ _ hk).2.2
  obtain ⟨zv, hz1, hz2⟩ := hz.run (w := w)
  obtain ⟨out, g1, g2, g3⟩ := fill_rel (place' := fun i => some (i * es, es)) (fun i p h => h) hf (repA_rel (z := ez) len (by omega)) (repA_cell (vMap_cell hone) len) h1 h2
  have hlim' : len * es ≤ 16777216 := by simpa using hlim
  have hle : len ≤ len * es := Nat.le_mul_of_pos_right _ hpos
  have hrun : (execOp a.eval o).run P w = .ok (.value (.slice (some ⟨w.heap.size, 0, none⟩) len len)) (w.alloc (.cells out.toArray e)) := by
    have e' : Instr.fill (fun i => some (i * es, es)) (madeCells ez.toArray (len * es)) (parts.toArray.map fun x => (x.1, a.eval x.2)).toList = some out.toArray := by
      have : (madeCells ez.toArray (len * ez.length)).toList.toArray = madeCells ez.toArray (len * es) := by rw [hzl]
      rw [← this]
      have e : (parts.toArray.map fun x => (x.1, a.eval x.2)).toList = parts.map fun x => (x.1, a.eval x.2) := by simp
      rw [e]; exact g1
    unfold madeCells at e'
    have n1 : ¬ (len * es > 2 ^ 24) := by omega
    by_cases h0 : len * es = 0
    · have hl0 : len = 0 := by omega
      subst hl0
      simp only [Nat.zero_mul, Array.range_zero', Array.map_empty] at e'
      simp [execOp, ho, Instr.buildSlice, run_underlying hu, (hsz.run (w := w)).1, newRow, Array.range_zero']
      simp at e'
      rw [e']
      simp
    · simp only [execOp, ho, Instr.buildSlice, Sem.run_bind, run_underlying hu, (hsz.run (w := w)).1, Result.andThen_ok, if_neg n1, if_neg h0, hz1, hz2, Sem.run_pure, e', newRow]
      simp
  unfold Oper.wp
  rw [hrun]
  simp only [Oper.upon, hd]
  have hnew := hs.newBlock (ob := matO ys) (n := len * es) hfr (w' := w.alloc (.cells out.toArray e)) (ydl w _) (by simp) (by rw [mentO_matO]; exact hm) (fun h => by rw [isC_matO] at h; cases h)
    (fun ok' lv' k1 k2 => objAt_matO.2 (blk_new (e := e) (extra := []) (by rw [g2.1, hlen]; simp) (by rw [List.append_nil]; exact heap_alloc_eq w _) g2 g3 ok' lv' k1 fun i b mm hb hmm => k2 i b mm hb (by rw [mentO_matO]; exact hmm)))
  refine ⟨_, _, rfl, hnew.putOnly hdN (.ls _ rfl fun b n' hb => ?_)⟩
  simp only [setLv, if_true, Option.some.injEq, Prod.mk.injEq] at hb
  obtain ⟨rfl, rfl⟩ := hb
  exact ⟨len, rfl, Nat.le_refl _, by unfold maxLen; omega, rfl⟩
theorem L_buildM (hT : TOK P T) {ti e es eb sz len : Nat} {ea ag : Bool} {ez z : List Value} {parts : List (Nat × Operand)} {ps : List (Nat × AV)} {ys : List AV} (id : Nat) (hk : T ti = some ⟨.slc e es ea eb ez, sz, ag, z⟩) (hone : ez.all Value.oneCell' = true)
    (hps : evP (evF (ybb t)) parts = some ps) (hf : fillA (fun i => some (i * es, es)) (repA len (vMap ez)) ps = some ys) (hlen : ys.length = len * es) (hlim : Nat.ble (len * es) 16777216 = true) (hfr : Fresh (S t h) id) (hm : ment.mentL id ys = false)
    (hl : lf ⟨some d, .buildSlice ti len parts.toArray, ty, pos, af, gd⟩ = true) (hw : yaz ops (ybb t) ⟨some d, .buildSlice ti len parts.toArray, ty, pos, af, gd⟩ = some true) (hd : Nat.blt d N = true) (k : Lex P N ops lf Q rest (S ((d, .ls id es len) :: t) ((id, some (matO ys)) :: h))) :
    Lex P N ops lf Q (⟨some d, .buildSlice ti len parts.toArray, ty, pos, af, gd⟩ :: rest) (S t h) := by
  refine L_loud hl hw ?_ k
  have := buildM_loud (N := N) (s := S t h) (P := P) hT (o := ⟨some d, .buildSlice ti len parts.toArray, ty, pos, af, gd⟩) id rfl rfl (by simpa using hd) hk hone hps hf hlen hlim hfr hm
  rwa [show (⟨updF (S t h).t (some d) (.ls id es len), ydq (S t h).h id (some (matO ys))⟩ : SS) = S ((d, .ls id es len) :: t) ((id, some (matO ys)) :: h) from S_upd] at this
def subTM (id : Nat) (t : List (Nat × AV)) : List (Nat × AV) → Prop
  | [] => True
  | (x, y) :: t' => (ybb t x = some y ∧ ment id y = false) ∧ subTM id t t'
theorem subTM_nil {id : Nat} {t : List (Nat × AV)} : subTM id t [] := trivial
theorem subTM_cons {id : Nat} {t : List (Nat × AV)} {x : Nat} {y : AV} {t' : List (Nat × AV)} (h1 : ybb t x = some y) (h2 : ment id y = false) (h : subTM id t t') : subTM id t ((x, y) :: t') := ⟨⟨h1, h2⟩, h⟩
theorem subTM_look {id : Nat} {t : List (Nat × AV)} : ∀ {t' : List (Nat × AV)}, subTM id t t' → ∀ x y, ybb t' x = some y → ybb t x = some y ∧ ment id y = false
  | [], _, x, y, h => by simp [ybb] at h
  | (s, z) :: t', hs, x, y, h => by
    simp only [ybb] at h
    split at h
    · rename_i e
      have e : x = s := by simpa using e
      subst e
      simp only [Option.some.injEq] at h
      subst h
      exact hs.1
    · exact subTM_look hs.2 x y h
theorem L_appendV (hT : TOK P T) {ti e es eb sz : Nat} {ea ag : Bool} {ez z : List Value} {x y : Operand} {id len : Nat} {xs : List AV} {rows : List (List AV)} {t' : List (Nat × AV)} {h0 : List (Nat × Option LObj)} (hk : T ti = some ⟨.slc e es ea eb ez, sz, ag, z⟩) (hx : evF (ybb t) x = some (.ls id es len)) (hxl : xs.length = len * es) (hy : evF (ybb t) y = some (.sl es rows))
    (hcp : ∀ c ∈ rows.flatten, ybn c = true) (hlim : len + rows.length ≤ 4294967296 ∧ (len + rows.length) * eb ≤ 140737488355328) (ht : subTM id t t') (h2 : ydr id h0 = true) (hl : lf ⟨some d, .call { callee := .builtin .append, args := #[x, y], argTypes := #[ti, ti] }, ty, pos, af, gd⟩ = true)
    (hw : yaz ops (ybb t) ⟨some d, .call { callee := .builtin .append, args := #[x, y], argTypes := #[ti, ti] }, ty, pos, af, gd⟩ = some true) (hd : Nat.blt d N = true) (k : Lex P N ops lf Q rest (S ((d, .ls id es (len + rows.length)) :: t') ((id, some (.vec (xs ++ rows.flatten))) :: h0))) :
    Lex P N ops lf Q (⟨some d, .call { callee := .builtin .append, args := #[x, y], argTypes := #[ti, ti] }, ty, pos, af, gd⟩ :: rest) (S t ((id, some (.vec xs)) :: h0)) := by
  have e : S ((d, .ls id es (len + rows.length)) :: t') ((id, some (.vec (xs ++ rows.flatten))) :: h0) = (⟨updF (S t' ((id, some (.vec (xs ++ rows.flatten))) :: h0)).t (some d) (.ls id es (len + rows.length)), (S t' ((id, some (.vec (xs ++ rows.flatten))) :: h0)).h⟩ : SS) := by
    unfold S; rw [yfg]
  refine L_loud hl hw ?_ k
  rw [e]
  refine append_loud hT rfl rfl (by simpa using hd) hk hx (by simp [S, yal]) hxl hy (fun ok w lv u hr => src_sl hr) hcp hlim (fun x y h => .inr (subTM_look ht x y h)) (fun x y h => ⟨y, (subTM_look ht x y h).1⟩) (fun j ob' hj hob => ?_) ?_
  · simp only [S] at hob ⊢
    rw [hlook_ne hj] at hob ⊢
    exact ⟨(freshH_look h2).2 j ob' hob, ob', hob, .inl rfl⟩
  · simp [S, yal]
theorem L_lenI (hT : TOK P T) {ti e es eb sz : Nat} {ea ag : Bool} {ez z0 : List Value} {x : Operand} {id z len : Nat} {ob : LObj} (hk : T ti = some ⟨.slc e es ea eb ez, sz, ag, z0⟩) (hx : evF (ybb t) x = some (.ls id z len)) (hh : yal h id = some ob)
    (hw : yaz ops (ybb t) ⟨some d, .call { callee := .builtin .len, args := #[x], argTypes := #[ti] }, ty, pos, af, gd⟩ = some true) (hd : Nat.blt d N = true) (k : Lex P N ops lf Q rest (S ((d, .v (.int .i64 len)) :: t) h)) : Lex P N ops lf Q (⟨some d, .call { callee := .builtin .len, args := #[x], argTypes := #[ti] }, ty, pos, af, gd⟩ :: rest) (S t h) :=
  ych (yield_len_ls (hT _ _ hk).2.2 hx hh) hw hd k
end Go.Proofs.YtcpgpiabeimefaaDoor
set_option linter.unusedVariables false
namespace Go.Proofs.YtcpgpiabeimefaaDoor
open Go.RowKit
def okW (w : World) (g : Nat) : Prop := g < w.heap.size
theorem relAll1 {ok : Nat → Prop} {w : World} {lv : Live} {a : AV} {cs : List Value} (h : ybp ok w lv [a] cs) : ∃ u, cs = [u] ∧ Rel ok w lv a u := by
  match cs, h with
  | [u], h => exact ⟨u, rfl, h.2 0 _ _ rfl rfl⟩
theorem relAll2 {ok : Nat → Prop} {w : World} {lv : Live} {a b : AV} {cs : List Value} (h : ybp ok w lv [a, b] cs) : ∃ u v, cs = [u, v] ∧ Rel ok w lv a u ∧ Rel ok w lv b v := by
  match cs, h with
  | [u, v], h => exact ⟨u, v, rfl, h.2 0 _ _ rfl rfl, h.2 1 _ _ rfl rfl⟩
theorem con_of_calls {P : Program} {f : FuncId} {args : List AV} {x : Value} (hb : HasBody P f) (h : ∀ (w : World) (us : List Value) (ok : Nat → Prop), (∀ g, ok g → g < w.heap.size) → ybp ok w (fun _ => none) args us → Calls P f us.toArray w fun e w' => e = .returned x ∧ Below w.heap.size w w') : Con P f args (.v x) :=
  ⟨hb, rfl, fun ok0 w us _ hok hr => (h w us ok0 hok hr).mono fun e w' ⟨h1, h2⟩ => ⟨x, h1, .v x, h2⟩⟩
end Go.Proofs.YtcpgpiabeimefaaDoor
namespace Go.Proofs.YtcpgpiabeimefaaDoor
open Go.RowKit

theorem bcell {W w1 : World} (hb : Below W.heap.size W w1) : (∀ b o, b < W.heap.size → w1.cell? ⟨b, o, none⟩ = W.cell? ⟨b, o, none⟩) ∧ (∀ b o, b < W.heap.size → w1.frozen? ⟨b, o, none⟩ = W.frozen? ⟨b, o, none⟩) :=
  ⟨fun b o h => hb.cell (p := ⟨b, o, none⟩) h, fun b o h => hb.frozen (p := ⟨b, o, none⟩) h⟩
theorem bthen {w w1 w2 : World} (h1 : Below w.heap.size w w1) (h2 : Below w1.heap.size w1 w2) : Below w.heap.size w w2 := h1.trans (h2.mono h1.size)
theorem yay {a b : Bool} (h : a = b) : Ending.returned (.bool a) = .returned (.bool b) := by rw [h]
theorem yav {k : IntKind} {a b : Int} (h : a = b) : Ending.returned (.int k a) = .returned (.int k b) := by rw [h]

def Row (w : World) (v : Value) (size n : Nat) (xs : List Value) : Prop :=
  ∃ a cap, v = .slice a n cap ∧ n ≤ cap ∧ cap ≤ maxLen ∧ xs.length = n * size ∧ (a = none → cap = 0) ∧
    (n = 0 ∨ ∃ g o, a = some ⟨g, o, none⟩ ∧ g < w.heap.size ∧ ∀ j u, xs[j]? = some u → w.cell? ⟨g, o + j, none⟩ = some u)

theorem Row.below {w w' : World} {v : Value} {size n : Nat} {xs : List Value} (h : Row w v size n xs) (hb : Below w.heap.size w w') : Row w' v size n xs := by
  obtain ⟨a, cap, hv, h1, h2, h3, h4, h5⟩ := h
  refine ⟨a, cap, hv, h1, h2, h3, h4, ?_⟩
  rcases h5 with h5 | ⟨g, o, ha, hg, hc⟩
  · exact .inl h5
  · exact .inr ⟨g, o, ha, Nat.lt_of_lt_of_le hg hb.size, fun j u hu => (hb.cell (p := ⟨g, _, none⟩) hg).trans (hc j u hu)⟩
theorem own_below {w w' : World} {B e size n : Nat} {v : Value} {xs : List Value} (h : w.ownsRow B e size v n xs) (hb : Below w.heap.size w w') : w'.ownsRow B e size v n xs := by
  obtain ⟨h1, h2⟩ := h
  refine ⟨h1, ?_⟩
  rcases h2 with h2 | ⟨g, cap, cur, hv, hg, hh, r⟩
  · exact .inl h2
  · exact .inr ⟨g, cap, cur, hv, hg, by rw [hb.block g (by rcases Nat.lt_or_ge g w.heap.size with h | h; exact h; simp [Array.getElem?_eq_none h] at hh)]; exact hh, r⟩
theorem own_shape {w : World} {B e size n : Nat} {v : Value} {xs : List Value} (h : w.ownsRow B e size v n xs) : ∃ a cap, v = .slice a n cap := by
  rcases h.2 with ⟨rfl, rfl⟩ | ⟨g, cap, cur, hv, _⟩
  · exact ⟨_, _, rfl⟩
  · exact ⟨_, _, hv⟩
theorem own_lt {w : World} {B e size n : Nat} {v : Value} {xs : List Value} (h : w.ownsRow B e size v n xs) (x : Nat) (hx : w.heap.size ≤ x) : some x ≠ v.ownBlock :=
  fun h1 => by have := (h.lt x h1.symm).2; omega
theorem own_ge {w : World} {B e size n : Nat} {v : Value} {xs : List Value} (h : w.ownsRow B e size v n xs) : ∀ k, v.ownBlock = some k → B ≤ k := fun k hk => (h.lt k hk).1
theorem new_cells (W : World) (l : List Value) (e n : Nat) (hn : n = W.heap.size) : ∀ j u, l[j]? = some u → (W.alloc (.cells l.toArray e)).cell? ((⟨n, 0, none⟩ : Addr).add j) = some u := by
  intro j u h
  subst hn
  have h0 : (⟨W.heap.size, 0, none⟩ : Addr).add j = ⟨W.heap.size, j, none⟩ := by
    unfold Addr.add
    split <;> simp_all
  rw [h0]
  have h1 : (W.alloc (.cells l.toArray e)).heap[W.heap.size]? = some (.cells l.toArray e) := by
    show (W.heap.push (.cells l.toArray e))[W.heap.size]? = _
    rw [Array.getElem?_push, if_pos rfl]
  unfold World.cell?
  simp only [h1]
  simpa using h

theorem row_of_own {w : World} {B e size n : Nat} {v : Value} {xs : List Value} (h : w.ownsRow B e size v n xs) : Row w v size n xs := by
  obtain ⟨h1, h2⟩ := h
  rcases h2 with ⟨rfl, rfl⟩ | ⟨g, cap, cur, hv, hg, hh, hle, hcap, hcs, htk⟩
  · exact ⟨none, 0, rfl, by omega, by simp [maxLen], h1, fun _ => rfl, .inl rfl⟩
  · refine ⟨some ⟨g, 0, none⟩, cap, hv, hle, hcap, h1, (fun h => by cases h), .inr ⟨g, 0, rfl, ?_, fun j u hu => ?_⟩⟩
    · rcases Nat.lt_or_ge g w.heap.size with h | h
      · exact h
      · simp [Array.getElem?_eq_none h] at hh
    · have hj : (cur.toList.take (n * size))[j]? = some u := by rw [htk]; exact hu
      rw [List.getElem?_take] at hj
      unfold World.cell?
      simp only [hh, Nat.zero_add]
      split at hj
      · simpa using hj
      · cases hj
theorem row_nil (w : World) (size : Nat) : Row w (.slice none 0 0) size 0 [] := ⟨none, 0, rfl, by simp, by simp [maxLen], by simp, fun _ => rfl, .inl rfl⟩

theorem Row.open {w : World} {v : Value} {size n : Nat} {xs : List Value} (h : Row w v size n xs) : ∃ a cap, v = .slice a n cap ∧ n ≤ cap ∧ cap ≤ 9223372036854775807 ∧ (a = none → cap = 0) ∧
    (0 < n → ∃ g o, a = some ⟨g, o, none⟩ ∧ g < w.heap.size ∧ ∀ j u, xs[j]? = some u → w.cell? ⟨g, o + j, none⟩ = some u) := by
  obtain ⟨a, cap, hv, h1, h2, h3, h4, h5⟩ := h
  unfold maxLen at h2
  refine ⟨a, cap, hv, h1, by omega, h4, fun hn => ?_⟩
  rcases h5 with h5 | h5
  · omega
  · exact h5

theorem flat_get {α : Type} (f : α → List Value) (k : Nat) (hf : ∀ x, (f x).length = k) (l : List α) : ∀ (i j : Nat) (x : α) (u : Value), l[i]? = some x → (f x)[j]? = some u → (l.flatMap f)[i * k + j]? = some u := by
  induction l with
  | nil => intro i j x u h; simp at h
  | cons y l ih =>
    intro i j x u h hu
    rw [List.flatMap_cons]
    have hj : j < k := by have := (List.getElem?_eq_some_iff.1 hu).1; rw [hf] at this; exact this
    cases i with
    | zero =>
      simp at h; subst h
      rw [Nat.zero_mul, Nat.zero_add, List.getElem?_append_left (by rw [hf]; exact hj)]; exact hu
    | succ i =>
      rw [Nat.succ_mul, List.getElem?_append_right (by rw [hf]; omega), hf, show i * k + k + j - k = i * k + j by omega]
      exact ih i j x u (by simpa using h) hu
theorem flat_len {α : Type} (f : α → List Value) (k : Nat) (hf : ∀ x, (f x).length = k) (l : List α) : (l.flatMap f).length = l.length * k := by
  induction l with
  | nil => simp
  | cons y l ih => rw [List.flatMap_cons, List.length_append, hf, ih, List.length_cons, Nat.succ_mul]; omega

end Go.Proofs.YtcpgpiabeimefaaDoor
