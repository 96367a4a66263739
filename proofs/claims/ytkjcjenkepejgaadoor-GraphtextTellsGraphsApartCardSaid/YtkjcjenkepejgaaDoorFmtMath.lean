/- Numbers, links, nodes and graphs written as text; what is written is read back, what is read is written back. No program. -/
import Derived.Test.YtkjcjenkepejgaaDoorSplitMath
import Derived.Lib.ItoaNum
set_option linter.unusedVariables false
namespace Go.Proofs.YtkjcjenkepejgaaDoor

abbrev dec (v : Nat) : Bs := Lib.decDigits v
theorem dec_small {v : Nat} (h : v < 10) : dec v = [UInt8.ofNat (48 + v)] := by unfold dec; rw [Lib.decDigits, dif_pos h]
theorem dec_big {v : Nat} (h : ¬ v < 10) : dec v = dec (v / 10) ++ [UInt8.ofNat (48 + v % 10)] := by unfold dec; rw [Lib.decDigits, dif_neg h]
theorem digit_nat {d : Nat} (h : d < 10) : (UInt8.ofNat (48 + d)).toNat = 48 + d := by
  rw [UInt8.toNat_ofNat']; omega
theorem dec_digits (v : Nat) : ∀ c ∈ dec v, 48 ≤ c.toNat ∧ c.toNat ≤ 57 := by
  induction v using Nat.strongRecOn with
  | ind v ih =>
    intro c hc
    by_cases h : v < 10
    · rw [dec_small h] at hc
      simp only [List.mem_singleton] at hc
      subst hc
      rw [digit_nat h]; omega
    · rw [dec_big h] at hc
      rcases List.mem_append.1 hc with hc | hc
      · exact ih (v / 10) (by omega) c hc
      · simp only [List.mem_singleton] at hc
        subst hc
        rw [digit_nat (by omega)]; omega
theorem dec_pos (v : Nat) : 1 ≤ (dec v).length := by
  by_cases h : v < 10
  · rw [dec_small h]; simp
  · rw [dec_big h]; simp
theorem dec_len : ∀ (k v : Nat), 1 ≤ k → v < 10 ^ k → (dec v).length ≤ k
  | 0, v, h, _ => by omega
  | k + 1, v, _, hv => by
    by_cases h : v < 10
    · rw [dec_small h]; simp
    · rw [dec_big h]
      have hk : 1 ≤ k := by
        rcases Nat.eq_zero_or_pos k with h0 | h0
        · subst h0; simp at hv; omega
        · exact h0
      have := dec_len k (v / 10) hk (by rw [Nat.pow_succ] at hv; omega)
      simp; omega
theorem numGo_app : ∀ (l r : Bs) (a : Nat), numGo a (l ++ r) = match numGo a l with | some x => numGo x r | none => none
  | [], r, a => rfl
  | c :: l, r, a => by
    simp only [List.cons_append, numGo]
    split
    · rfl
    · exact numGo_app l r _
theorem numGo_dec (v : Nat) : numGo 0 (dec v) = some v := by
  induction v using Nat.strongRecOn with
  | ind v ih =>
    by_cases h : v < 10
    · rw [dec_small h]
      simp only [numGo, digit_nat h]
      rw [if_neg (by omega)]
      congr 1; omega
    · rw [dec_big h, numGo_app, ih (v / 10) (by omega)]
      simp only [numGo, digit_nat (show v % 10 < 10 by omega)]
      rw [if_neg (by omega)]
      congr 1; omega
theorem dec_head (v : Nat) (h0 : 1 ≤ v) : (dec v).head? ≠ some 48 := by
  induction v using Nat.strongRecOn with
  | ind v ih =>
    by_cases h : v < 10
    · rw [dec_small h]
      simp only [List.head?_cons, ne_eq, Option.some.injEq]
      intro e
      have := congrArg UInt8.toNat e
      rw [digit_nat h] at this
      simp at this; omega
    · rw [dec_big h]
      have hp := dec_pos (v / 10)
      have := ih (v / 10) (by omega) (by omega)
      cases hd : dec (v / 10) with
      | nil => rw [hd] at hp; simp at hp
      | cons c r => rw [hd] at this; simpa using this
theorem numberO_dec {v : Nat} (h : v < 1000000) : numberO (dec v) = some v := by
  have h1 := dec_pos v
  have h2 := dec_len 6 v (by omega) (by omega)
  have hb : numBad (dec v) = false := by
    have e1 : decide ((dec v).length < 1) = false := decide_eq_false (by omega)
    have e2 : decide (6 < (dec v).length) = false := decide_eq_false (by omega)
    simp only [numBad, e1, e2, Bool.false_or]
    by_cases h3 : v < 10
    · have : decide (1 < (dec v).length) = false := by rw [dec_small h3]; rfl
      rw [this, Bool.false_and]
    · rw [Bool.and_eq_false_iff]
      right
      rw [beq_eq_false_iff_ne]
      exact dec_head v (by omega)
  unfold numberO
  rw [hb]
  exact numGo_dec v
theorem dec_not (v : Nat) {c : UInt8} (hc : c.toNat < 48 ∨ 57 < c.toNat) : c ∉ dec v := fun h => by have := dec_digits v c h; omega

def lkW (l : Lk) : Bs := dec l.1.toNat ++ 47 :: dec l.2.toNat
def LkOk (l : Lk) : Prop := 0 ≤ l.1 ∧ l.1 < 1000000 ∧ 0 ≤ l.2 ∧ l.2 < 1000000
theorem lkW_not (l : Lk) {c : UInt8} (hc : c.toNat < 47 ∨ 57 < c.toNat) : c ∉ lkW l := by
  unfold lkW
  simp only [List.mem_append, List.mem_cons, not_or]
  exact ⟨dec_not _ (by omega), fun e => by subst e; simp at hc, dec_not _ (by omega)⟩
theorem linkF_lkW {l : Lk} (h : LkOk l) : linkF (lkW l) = some l := by
  obtain ⟨h1, h2, h3, h4⟩ := h
  unfold lkW
  rw [linkF_at (dec_not _ (by decide)), numberO_dec (by omega), numberO_dec (by omega)]
  simp only [Option.some.injEq]
  exact Prod.ext (by simp; omega) (by simp; omega)
theorem linksF_lkW : ∀ {ls : List Lk}, (∀ l ∈ ls, LkOk l) → linksF (ls.map lkW) = some ls
  | [], _ => rfl
  | l :: ls, h => by
    simp only [List.map_cons, linksF, linkF_lkW (h l (by simp)), linksF_lkW (ls := ls) (fun x hx => h x (by simp [hx]))]
def glue (c : UInt8) (ws : List Bs) : Bs := ws.flatMap fun u => c :: u
theorem splitL_glue {c : UInt8} : ∀ {ws : List Bs} {w : Bs}, c ∉ w → (∀ u ∈ ws, c ∉ u) → splitL c (w ++ glue c ws) = w :: ws
  | [], w, hw, _ => by simp [glue, splitL_none hw]
  | u :: ws, w, hw, h => by
    have : w ++ glue c (u :: ws) = w ++ c :: (u ++ glue c ws) := by simp [glue]
    rw [this, splitL_at hw, splitL_glue (h u (by simp)) (fun x hx => h x (by simp [hx]))]
theorem glue_splitL (c : UInt8) : ∀ (l : Bs), ∃ w ws, splitL c l = w :: ws ∧ l = w ++ glue c ws
  | [] => ⟨[], [], rfl, rfl⟩
  | x :: r => by
    obtain ⟨w, ws, h1, h2⟩ := glue_splitL c r
    by_cases hx : x = c
    · subst hx
      refine ⟨[], w :: ws, ?_, ?_⟩
      · simp [splitL, h1]
      · simp only [glue, List.flatMap_cons, List.nil_append, List.cons_append]
        rw [h2]; rfl
    · obtain ⟨p, ps, h3, h4⟩ := splitL_cons_ne (r := r) hx
      rw [h1] at h3
      cases h3
      exact ⟨x :: w, ws, h4, by rw [h2]; simp⟩
def nodeW : Bs := [110, 111, 100, 101]
def lineW (x : Int) (ls : List Lk) : Bs := nodeW ++ glue 32 (dec x.toNat :: ls.map lkW)
theorem split_lineW (x : Int) (ls : List Lk) : splitL 32 (lineW x ls) = nodeW :: dec x.toNat :: ls.map lkW := by
  refine splitL_glue (by decide) fun u hu => ?_
  rcases List.mem_cons.1 hu with rfl | hu
  · exact dec_not _ (by decide)
  · obtain ⟨l, _, rfl⟩ := List.mem_map.1 hu
    exact lkW_not _ (by decide)
theorem lineW_not (x : Int) (ls : List Lk) : (10 : UInt8) ∉ lineW x ls := by
  unfold lineW glue
  simp only [List.mem_append, List.mem_flatMap, not_or, not_exists, not_and]
  refine ⟨by decide, fun u hu => ?_⟩
  simp only [List.mem_cons, not_or]
  refine ⟨by decide, ?_⟩
  rcases List.mem_cons.1 hu with rfl | hu
  · exact dec_not _ (by decide)
  · obtain ⟨l, _, rfl⟩ := List.mem_map.1 hu
    exact lkW_not _ (by decide)
theorem nodeF_lineW {x : Int} {ls : List Lk} (hx : 0 ≤ x ∧ x < 1000000) (h : ∀ l ∈ ls, LkOk l) : nodeF (lineW x ls) = some (x.toNat, ls) := by
  unfold nodeF
  rw [split_lineW]
  simp only [nodeW, if_true]
  rw [numberO_dec (by omega), linksF_lkW h]
def fmtL (ids : List Int) (ports : List (List Lk)) : List Bs := List.zipWith lineW ids ports
def unlines (ls : List Bs) : Bs := ls.flatMap fun l => l ++ [10]
def formatF (g : GraphD) : Bs := unlines (fmtL g.ids g.ports)
theorem split_unlines : ∀ {ls : List Bs}, (∀ l ∈ ls, (10 : UInt8) ∉ l) → splitL 10 (unlines ls) = ls ++ [[]]
  | [], _ => rfl
  | l :: ls, h => by
    have : unlines (l :: ls) = l ++ 10 :: unlines ls := by simp [unlines]
    rw [this, splitL_at (h l (by simp)), split_unlines (fun x hx => h x (by simp [hx]))]
    rfl
theorem lines_unlines {ls : List Bs} (h : ∀ l ∈ ls, (10 : UInt8) ∉ l) : linesF (unlines ls) = ls := by
  have h1 := split_unlines h
  obtain ⟨h2, h3⟩ := last_snoc h1 (splitL_ne 10 _)
  unfold linesF
  rw [h2, h3, if_pos rfl]
theorem fmtL_not {ids : List Int} {ports : List (List Lk)} : ∀ l ∈ fmtL ids ports, (10 : UInt8) ∉ l := by
  intro l hl
  unfold fmtL at hl
  obtain ⟨i, hi⟩ := List.getElem?_of_mem hl
  rw [List.getElem?_zipWith] at hi
  split at hi
  · cases hi; exact lineW_not _ _
  · cases hi
theorem nodes_fmtL : ∀ {ids : List Int} {ports : List (List Lk)} {k : Nat}, ids.length = ports.length → (∀ x ∈ ids, 0 ≤ x ∧ x < 1000000) → (∀ ls ∈ ports, ∀ l ∈ ls, LkOk l) → nodesF (fmtL ids ports) k = .ok (ids, ports)
  | [], [], k, _, _, _ => rfl
  | [], _ :: _, k, h, _, _ => by simp at h
  | _ :: _, [], k, h, _, _ => by simp at h
  | x :: ids, ls :: ports, k, h, h1, h2 => by
    have hx := h1 x (by simp)
    have : fmtL (x :: ids) (ls :: ports) = lineW x ls :: fmtL ids ports := rfl
    rw [this]
    simp only [nodesF, nodeF_lineW hx (h2 ls (by simp)), nodes_fmtL (ids := ids) (ports := ports) (k := k + 1) (by simpa using h) (fun y hy => h1 y (by simp [hy])) (fun y hy => h2 y (by simp [hy]))]
    rw [Int.toNat_of_nonneg hx.1]
def GOk (g : GraphD) : Prop := g.ids.length = g.ports.length ∧ (∀ x ∈ g.ids, 0 ≤ x ∧ x < 1000) ∧ (∀ ls ∈ g.ports, ls.length ≤ 23 ∧ ∀ l ∈ ls, 0 ≤ l.1 ∧ l.1 < 1000 ∧ 0 ≤ l.2 ∧ l.2 < 1000) ∧ g.ids.length ≤ 24 ∧ 1 ≤ g.ids.length
theorem GOk_of {g : GraphD} (h : validG g = true) : GOk g := by
  obtain ⟨h1, h2, h3, h4, h5, h6, h7⟩ := valid_facts h
  refine ⟨h3, fun x hx => by have := h4 x hx; omega, fun ls hls => ?_, by omega, by omega⟩
  obtain ⟨v, hv⟩ := List.getElem?_of_mem hls
  have hlb := h6 v ls hv
  have hvl := (List.getElem?_eq_some_iff.1 hv).1
  refine ⟨by have := links_short hvl hlb; omega, fun l hl => ?_⟩
  have := (linkB_iff _ _ _).1 (((linksB_iff _ _ _).1 hlb).1 l hl)
  omega
theorem GOk.ids' {g : GraphD} (h : GOk g) : ∀ x ∈ g.ids, 0 ≤ x ∧ x < 1000000 := fun x hx => by have := h.2.1 x hx; omega
theorem GOk.ports' {g : GraphD} (h : GOk g) : ∀ ls ∈ g.ports, ∀ l ∈ ls, LkOk l := fun ls hls l hl => by have := (h.2.2.1 ls hls).2 l hl; exact ⟨by omega, by omega, by omega, by omega⟩
theorem lkW_len {l : Lk} (h : 0 ≤ l.1 ∧ l.1 < 1000 ∧ 0 ≤ l.2 ∧ l.2 < 1000) : (lkW l).length ≤ 7 := by
  have h1 := dec_len 3 l.1.toNat (by omega) (by omega)
  have h2 := dec_len 3 l.2.toNat (by omega) (by omega)
  unfold lkW
  simp only [List.length_append, List.length_cons]
  omega
theorem glue_len (c : UInt8) {n : Nat} : ∀ {ws : List Bs}, (∀ u ∈ ws, u.length ≤ n) → (glue c ws).length ≤ ws.length * (n + 1)
  | [], _ => by simp [glue]
  | u :: ws, h => by
    have h1 := h u (by simp)
    have h2 := glue_len c (fun x hx => h x (by simp [hx]) : ∀ x ∈ ws, x.length ≤ n)
    have : glue c (u :: ws) = c :: (u ++ glue c ws) := by simp [glue]
    rw [this, List.length_cons, List.length_append, List.length_cons, Nat.succ_mul]
    omega
theorem lineW_len {x : Int} {ls : List Lk} (hx : 0 ≤ x ∧ x < 1000) (hl : ls.length ≤ 23) (h : ∀ l ∈ ls, 0 ≤ l.1 ∧ l.1 < 1000 ∧ 0 ≤ l.2 ∧ l.2 < 1000) : (lineW x ls).length ≤ 196 := by
  have h1 := glue_len 32 (n := 7) (ws := dec x.toNat :: ls.map lkW) (fun u hu => by
    rcases List.mem_cons.1 hu with rfl | hu
    · have := dec_len 3 x.toNat (by omega) (by omega); omega
    · obtain ⟨l, hl', rfl⟩ := List.mem_map.1 hu
      exact lkW_len (h l hl'))
  simp only [List.length_cons, List.length_map] at h1
  unfold lineW
  rw [List.length_append]
  have : nodeW.length = 4 := rfl
  omega
theorem unlines_len {n : Nat} : ∀ {ls : List Bs}, (∀ u ∈ ls, u.length ≤ n) → (unlines ls).length ≤ ls.length * (n + 1)
  | [], _ => by simp [unlines]
  | u :: ws, h => by
    have h1 := h u (by simp)
    have h2 := unlines_len (fun x hx => h x (by simp [hx]) : ∀ x ∈ ws, x.length ≤ n)
    have : unlines (u :: ws) = u ++ 10 :: unlines ws := by simp [unlines]
    rw [this, List.length_append, List.length_cons, List.length_cons, Nat.succ_mul]
    omega
theorem fmtL_len {g : GraphD} (h : GOk g) : (fmtL g.ids g.ports).length = g.ids.length ∧ ∀ u ∈ fmtL g.ids g.ports, u.length ≤ 196 := by
  refine ⟨by unfold fmtL; rw [List.length_zipWith, h.1, Nat.min_self], fun u hu => ?_⟩
  unfold fmtL at hu
  obtain ⟨i, hi⟩ := List.getElem?_of_mem hu
  rw [List.getElem?_zipWith] at hi
  split at hi
  · rename_i x ls hx hls
    cases hi
    have := h.2.2.1 ls (List.mem_of_getElem? hls)
    exact lineW_len (h.2.1 x (List.mem_of_getElem? hx)) this.1 this.2
  · cases hi
theorem formatF_len {g : GraphD} (h : GOk g) : (formatF g).length ≤ 4728 := by
  obtain ⟨h1, h2⟩ := fmtL_len h
  have h3 := unlines_len (n := 196) h2
  have := h.2.2.2.1
  have h4 : (fmtL g.ids g.ports).length * (196 + 1) ≤ 24 * 197 := Nat.mul_le_mul (by omega) (by omega)
  unfold formatF
  omega
theorem parse_format {g : GraphD} (h : validG g = true) : parseF (formatF g) = (g, 0, 0) := by
  have hg := GOk_of h
  have hl := formatF_len hg
  have hlines : linesF (formatF g) = fmtL g.ids g.ports := lines_unlines fmtL_not
  have hne : fmtL g.ids g.ports ≠ [] := by
    intro e
    have := (fmtL_len hg).1
    rw [e] at this
    have := hg.2.2.2.2
    simp at *; omega
  unfold parseF
  rw [if_neg (by omega), hlines, if_neg hne, nodes_fmtL hg.1 hg.ids' hg.ports']
  simp only
  rw [if_pos h]
/-- A line that is no node among the lines. -/
theorem nodes_insert : ∀ {ls : List Bs} {w : Bs} {k j : Nat} {a : List Int} {b : List (List Lk)}, nodesF ls j = .ok (a, b) → nodeF w = none → k ≤ ls.length → nodesF (ls.take k ++ w :: ls.drop k) j = .error (j + k + 1)
  | ls, w, 0, j, a, b, _, hw, _ => by simp [nodesF, hw]
  | [], w, k + 1, j, a, b, _, _, h => by simp at h
  | l :: ls, w, k + 1, j, a, b, h, hw, hk => by
    simp only [nodesF] at h
    split at h
    · cases h
    · rename_i x lk hx
      split at h
      · cases h
      · rename_i a' b' h2
        have := nodes_insert (k := k) h2 hw (by simpa using hk)
        simp only [List.take_succ_cons, List.drop_succ_cons, List.cons_append, nodesF, hx, this]
        congr 1; omega
theorem parse_insert {g : GraphD} (h : validG g = true) {w : Bs} {k : Nat} (hw : ∀ c ∈ w, 97 ≤ c.toNat ∧ c.toNat ≤ 109) (hwl : w.length ≤ 40) (hk : k ≤ (fmtL g.ids g.ports).length) :
    (unlines ((fmtL g.ids g.ports).take k ++ w :: (fmtL g.ids g.ports).drop k)).length ≤ 4990 ∧ (parseF (unlines ((fmtL g.ids g.ports).take k ++ w :: (fmtL g.ids g.ports).drop k))).2 = (((k + 1 : Nat) : Int), (4 : Int)) := by
  have hg := GOk_of h
  have h10 : (10 : UInt8) ∉ w := fun hc => by have := hw _ hc; simp at this
  have h32 : (32 : UInt8) ∉ w := fun hc => by have := hw _ hc; simp at this
  have hn : nodeF w = none := by unfold nodeF; rw [splitL_none h32]
  have hnot : ∀ l ∈ (fmtL g.ids g.ports).take k ++ w :: (fmtL g.ids g.ports).drop k, (10 : UInt8) ∉ l := by
    intro l hl
    simp only [List.mem_append, List.mem_cons] at hl
    rcases hl with hl | rfl | hl
    · exact fmtL_not l (List.mem_of_mem_take hl)
    · exact h10
    · exact fmtL_not l (List.mem_of_mem_drop hl)
  obtain ⟨f1, f2⟩ := fmtL_len hg
  have hlen : (unlines ((fmtL g.ids g.ports).take k ++ w :: (fmtL g.ids g.ports).drop k)).length ≤ 4990 := by
    have e : unlines ((fmtL g.ids g.ports).take k ++ w :: (fmtL g.ids g.ports).drop k) = unlines ((fmtL g.ids g.ports).take k) ++ (w ++ 10 :: unlines ((fmtL g.ids g.ports).drop k)) := by simp [unlines]
    have l1 := unlines_len (n := 196) (ls := (fmtL g.ids g.ports).take k) (fun u hu => f2 u (List.mem_of_mem_take hu))
    have l2 := unlines_len (n := 196) (ls := (fmtL g.ids g.ports).drop k) (fun u hu => f2 u (List.mem_of_mem_drop hu))
    rw [List.length_take] at l1
    rw [List.length_drop] at l2
    have := hg.2.2.2.1
    rw [e]
    simp only [List.length_append, List.length_cons]
    have : min k (fmtL g.ids g.ports).length = k := by omega
    rw [this] at l1
    have e2 : k * (196 + 1) + ((fmtL g.ids g.ports).length - k) * (196 + 1) = (fmtL g.ids g.ports).length * 197 := by rw [← Nat.add_mul]; congr 1; omega
    have : (fmtL g.ids g.ports).length * 197 ≤ 24 * 197 := Nat.mul_le_mul_right _ (by omega)
    omega
  refine ⟨hlen, ?_⟩
  unfold parseF
  rw [if_neg (by omega), lines_unlines hnot, if_neg (by simp), nodes_insert (nodes_fmtL hg.1 hg.ids' hg.ports') hn hk]
  simp
end Go.Proofs.YtkjcjenkepejgaaDoor
