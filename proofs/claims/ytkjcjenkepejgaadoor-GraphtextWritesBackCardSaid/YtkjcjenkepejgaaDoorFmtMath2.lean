/- What is read from a text is written back; texts without their last line feed. No program. -/
import Derived.Test.YtkjcjenkepejgaaDoorFmtMath
set_option linter.unusedVariables false
namespace Go.Proofs.YtkjcjenkepejgaaDoor

theorem dec_number : ∀ (n : Nat) (l : Bs) (x : Nat), l.length = n + 1 → (l.length = 1 ∨ l.head? ≠ some 48) → numGo 0 l = some x → dec x = l ∧ (l.head? ≠ some 48 → 1 ≤ x)
  | 0, l, x, hl, _, h => by
    obtain ⟨c, rfl⟩ : ∃ c, l = [c] := List.length_eq_one_iff.1 (by omega)
    simp only [numGo] at h
    split at h
    · cases h
    · rename_i hc
      simp only [Option.some.injEq] at h
      have hx : x = c.toNat - 48 := by omega
      subst hx
      refine ⟨?_, fun hh => ?_⟩
      · rw [dec_small (by omega)]
        congr 1
        refine UInt8.toNat_inj.1 ?_
        rw [digit_nat (by omega)]; omega
      · have : c.toNat ≠ 48 := fun e => hh (by simp only [List.head?_cons, Option.some.injEq]; exact UInt8.toNat_inj.1 (by rw [e]; rfl))
        omega
  | n + 1, l, x, hl, hh, h => by
    have hne : l ≠ [] := by intro e; subst e; simp at hl
    have hd := List.dropLast_concat_getLast hne
    generalize l.dropLast = r at hd
    generalize l.getLast hne = c at hd
    subst hd
    simp only [List.length_append, List.length_cons, List.length_nil] at hl
    have hr : r.length = n + 1 := by omega
    have hrne : r ≠ [] := by intro e; subst e; simp at hr
    have hhd : (r ++ [c]).head? = r.head? := by cases r with | nil => exact absurd rfl hrne | cons a b => rfl
    have hh' : r.head? ≠ some 48 := by
      rcases hh with hh | hh
      · simp only [List.length_append, List.length_cons, List.length_nil] at hh; omega
      · rwa [hhd] at hh
    rw [numGo_app] at h
    cases hy : numGo 0 r with
    | none => rw [hy] at h; cases h
    | some y =>
      rw [hy] at h
      simp only [numGo] at h
      split at h
      · cases h
      · rename_i hc
        simp only [Option.some.injEq] at h
        obtain ⟨h1, h2⟩ := dec_number n r y hr (.inr hh') hy
        have h3 := h2 hh'
        refine ⟨?_, fun _ => by omega⟩
        rw [dec_big (by omega), show x / 10 = y by omega, h1]
        congr 2
        refine UInt8.toNat_inj.1 ?_
        rw [digit_nat (by omega)]; omega
theorem numberO_back {l : Bs} {x : Nat} (h : numberO l = some x) : dec x = l := by
  unfold numberO at h
  split at h
  · cases h
  · rename_i hb
    simp only [numBad, Bool.or_eq_true, decide_eq_true_eq, Bool.and_eq_true, beq_iff_eq, not_or, not_and] at hb
    exact (dec_number (l.length - 1) l x (by omega) (by
      rcases Nat.lt_or_ge 1 l.length with h1 | h1
      · exact .inr (hb.2.2 h1)
      · exact .inl (by omega)) h).1
theorem linkF_back {w : Bs} {l : Lk} (h : linkF w = some l) : lkW l = w := by
  unfold linkF at h
  split at h
  · rename_i a b hs
    split at h
    · rename_i x y hx hy
      simp only [Option.some.injEq] at h
      subst h
      obtain ⟨w', ws, h1, h2⟩ := glue_splitL 47 w
      rw [hs] at h1
      cases h1
      rw [h2]
      simp only [lkW, Int.toNat_natCast, numberO_back hx, numberO_back hy, glue, List.flatMap_cons, List.flatMap_nil, List.append_nil]
    · cases h
  · cases h
theorem linksF_back : ∀ {ws : List Bs} {ls : List Lk}, linksF ws = some ls → ls.map lkW = ws
  | [], ls, h => by simp [linksF] at h; subst h; rfl
  | w :: ws, ls, h => by
    simp only [linksF] at h
    split at h
    · rename_i l ls' h1 h2
      simp only [Option.some.injEq] at h
      subst h
      simp only [List.map_cons, linkF_back h1, linksF_back h2]
    · cases h
theorem nodeF_back {line : Bs} {x : Nat} {ls : List Lk} (h : nodeF line = some (x, ls)) : lineW x ls = line := by
  unfold nodeF at h
  split at h
  · rename_i a b ws hs
    split at h
    · rename_i ha
      split at h
      · rename_i x' ls' hx hls
        simp only [Option.some.injEq, Prod.mk.injEq] at h
        obtain ⟨rfl, rfl⟩ := h
        obtain ⟨w', ws', h1, h2⟩ := glue_splitL 32 line
        rw [hs] at h1
        cases h1
        rw [h2, ha]
        unfold lineW nodeW
        rw [Int.toNat_natCast, numberO_back hx, linksF_back hls]
      · cases h
    · cases h
  · cases h
theorem nodesF_back : ∀ {ls : List Bs} {k : Nat} {a : List Int} {b : List (List Lk)}, nodesF ls k = .ok (a, b) → fmtL a b = ls
  | [], k, a, b, h => by simp [nodesF] at h; obtain ⟨rfl, rfl⟩ := h; rfl
  | l :: ls, k, a, b, h => by
    simp only [nodesF] at h
    split at h
    · cases h
    · rename_i x lk hx
      split at h
      · cases h
      · rename_i a' b' h2
        simp only [Except.ok.injEq, Prod.mk.injEq] at h
        obtain ⟨rfl, rfl⟩ := h
        have := nodesF_back h2
        unfold fmtL at *
        rw [List.zipWith_cons_cons, this, nodeF_back hx]
theorem unlines_glue : ∀ (w : Bs) (ws : List Bs), unlines (w :: ws) = w ++ glue 10 ws ++ [10]
  | w, [] => by simp [unlines, glue]
  | w, v :: ws => by
    have := unlines_glue v ws
    simp only [unlines, glue, List.flatMap_cons, List.append_assoc, List.cons_append, List.nil_append] at this ⊢
    rw [this]
theorem unlines_lines {t : Bs} : unlines (linesF t) = t ∨ unlines (linesF t) = t ++ [10] := by
  obtain ⟨w, ws, h1, h2⟩ := glue_splitL 10 t
  unfold linesF
  split
  · rename_i hl
    left
    have hd := List.dropLast_concat_getLast (splitL_ne 10 t)
    rw [hl] at hd
    generalize (splitL 10 t).dropLast = ds at hd
    rw [h1] at hd
    have : unlines (ds ++ [[]]) = unlines ds ++ [10] := by simp [unlines]
    rw [hd, unlines_glue, ← h2] at this
    exact (List.append_cancel_right this).symm
  · right
    rw [h1, unlines_glue, ← h2]
theorem parse_back {t : Bs} {g : GraphD} {k : Int} (h : parseF t = (g, k, 0)) : validG g = true ∧ k = 0 ∧ (formatF g = t ∨ formatF g = t ++ [10]) := by
  unfold parseF at h
  split at h
  · simp at h
  · split at h
    · simp at h
    · split at h
      · simp at h
      · rename_i a b hn
        split at h
        · rename_i hv
          simp only [Prod.mk.injEq, and_true] at h
          obtain ⟨rfl, rfl⟩ := h
          refine ⟨hv, rfl, ?_⟩
          unfold formatF
          simp only
          rw [nodesF_back hn]
          exact unlines_lines
        · simp at h
theorem formatF_inj {g h : GraphD} (hg : validG g = true) (hh : validG h = true) : formatF g = formatF h ↔ g = h := by
  constructor
  · intro e
    have h1 := parse_format hg
    rw [e, parse_format hh] at h1
    simp at h1
    exact h1.symm
  · rintro rfl; rfl
theorem linesF_cut {ls : List Bs} (h : ∀ l ∈ ls, (10 : UInt8) ∉ l) (h0 : ∀ l ∈ ls, l ≠ []) : linesF ((unlines ls).dropLast) = ls := by
  cases ls with
  | nil => rfl
  | cons w ws =>
    rw [unlines_glue, List.dropLast_concat]
    have hs := splitL_glue (c := 10) (w := w) (ws := ws) (h w (by simp)) (fun u hu => h u (by simp [hu]))
    unfold linesF
    split
    · rename_i hl
      have hm := List.getLast_mem (splitL_ne 10 (w ++ glue 10 ws))
      rw [hl, hs] at hm
      exact absurd rfl (h0 [] hm)
    · exact hs
theorem fmtL_ne {ids : List Int} {ports : List (List Lk)} : ∀ l ∈ fmtL ids ports, l ≠ [] := by
  intro l hl
  unfold fmtL at hl
  obtain ⟨i, hi, rfl⟩ := List.mem_iff_getElem.1 hl
  rw [List.getElem_zipWith]
  simp [lineW, nodeW]
theorem parse_cut {g : GraphD} (h : validG g = true) : parseF (formatF g).dropLast = (g, 0, 0) := by
  have hp := parse_format h
  have h1 : linesF (formatF g).dropLast = fmtL g.ids g.ports := linesF_cut fmtL_not fmtL_ne
  have h2 : linesF (formatF g) = fmtL g.ids g.ports := lines_unlines fmtL_not
  have hl := formatF_len (GOk_of h)
  have hl' : (formatF g).dropLast.length ≤ 4728 := by rw [List.length_dropLast]; omega
  unfold parseF at hp ⊢
  rw [if_neg (by omega), h2] at hp
  rw [if_neg (by omega), h1]
  exact hp
theorem formatF_pos {g : GraphD} (h : validG g = true) : 1 ≤ (formatF g).length := by
  rcases Nat.eq_zero_or_pos (formatF g).length with h0 | h0
  · have := parse_format h
    rw [List.length_eq_zero_iff.1 h0] at this
    have h2 : parseF [] = (gNil, 1, 4) := by unfold parseF; rw [if_neg (by decide), if_pos linesF_nil]
    rw [h2] at this
    simp at this
  · exact h0
end Go.Proofs.YtkjcjenkepejgaaDoor
