/- The types of expressions, on trees. No program. -/
import Derived.Test.YtogennegbihceaaTermMath2
namespace Go.Proofs.Ytogennegbihceaa
open Go.RowKit

def nearB (op : Int) : Bool := decide (11 ≤ op) && decide (op ≤ 17)
def leafTy (kinds : List Int) (t : Tm) : Int :=
  if t.1 = 2 ∨ t.1 = 3 ∨ t.1 = 10 ∨ t.1 = 15 then 2 else if t.1 = 4 ∨ t.1 = 11 ∨ t.1 = 17 then 3 else if t.1 = 5 ∨ t.1 = 12 then kinds.getD t.2.toNat 0 else 1
def ty1 (op a : Int) : Int :=
  if op = 19 ∨ op = 20 ∨ op = 21 then (if a = 2 then 2 else 0) else if op = 22 then (if a = 2 then 1 else 0) else if op = 23 then (if a = 2 then 3 else 0) else (if a = 1 then 1 else 0)
def ty2 (op a b : Int) : Int :=
  if op = 35 ∨ op = 36 then (if a = b ∧ a ≠ 0 then 2 else 0) else if op = 41 ∨ op = 42 then (if a = 2 ∧ b = 2 then 2 else 0) else if a = 1 ∧ b = 1 then (if 37 ≤ op ∧ op ≤ 40 then 2 else 1) else 0
def ty3 (a b c : Int) : Int := if a = 2 ∧ b = c then b else 0
def ty (kinds : List Int) : Bool → Ex → Int
  | bound, .lf t => if nearB t.1 && !bound then 0 else leafTy kinds t
  | bound, .un t a => ty1 t.1 (ty kinds (bound || aggB t.1) a)
  | bound, .bi t a b => ty2 t.1 (ty kinds bound a) (ty kinds bound b)
  | bound, .tr _ a b c => ty3 (ty kinds bound a) (ty kinds bound b) (ty kinds bound c)
theorem ty1_bd (op a : Int) : 0 ≤ ty1 op a ∧ ty1 op a ≤ 3 ∧ (ty1 op a ≠ 0 → a ≠ 0) := by
  unfold ty1; repeat' split
  all_goals omega
theorem ty2_bd (op a b : Int) : 0 ≤ ty2 op a b ∧ ty2 op a b ≤ 3 ∧ (ty2 op a b ≠ 0 → a ≠ 0 ∧ b ≠ 0) := by
  unfold ty2; repeat' split
  all_goals omega
theorem ty3_bd (a b c : Int) (h : 0 ≤ b ∧ b ≤ 3) : 0 ≤ ty3 a b c ∧ ty3 a b c ≤ 3 ∧ (ty3 a b c ≠ 0 → a ≠ 0 ∧ b ≠ 0 ∧ c ≠ 0) := by
  unfold ty3; split <;> omega
/-- The kinds of variables are types. -/
def kindsB (kinds : List Int) : Bool := kinds.all fun k => decide (k = 1) || (decide (k = 2) || decide (k = 3))
theorem leafTy_bd (kinds : List Int) (hk : kindsB kinds = true) (t : Tm) : 0 ≤ leafTy kinds t ∧ leafTy kinds t ≤ 3 := by
  unfold leafTy
  repeat' split
  · omega
  · omega
  · rw [List.getD_eq_getElem?_getD]
    cases h : kinds[t.2.toNat]? with
    | none => simp
    | some k =>
      have := List.mem_of_getElem? h
      unfold kindsB at hk
      rw [List.all_eq_true] at hk
      have := hk k this
      simp at this
      simp; omega
  · omega
theorem ty_bd (kinds : List Int) (hk : kindsB kinds = true) (E : Ex) : ∀ bound, 0 ≤ ty kinds bound E ∧ ty kinds bound E ≤ 3 := by
  induction E with
  | lf t => intro bound; have := leafTy_bd kinds hk t; simp only [ty]; split <;> omega
  | un t a iha => intro bound; have := ty1_bd t.1 (ty kinds (bound || aggB t.1) a); simp only [ty]; omega
  | bi t a b iha ihb => intro bound; have := ty2_bd t.1 (ty kinds bound a) (ty kinds bound b); simp only [ty]; omega
  | tr t a b c iha ihb ihc => intro bound; have := ty3_bd (ty kinds bound a) (ty kinds bound b) (ty kinds bound c) (ihb bound); simp only [ty]; omega

/-- Of: the type and the error. -/
def ofF (l : List Tm) (kinds : List Int) (bound : Bool) : Int × Int :=
  if 6 < kinds.length then (0, 7) else if kindsB kinds = false then (0, 7) else if validB l kinds.length = false then (0, 7) else
  match parse l with
  | none => (0, 7)
  | some E => if ty kinds bound E = 0 then (0, 6) else (ty kinds bound E, 0)
theorem ofF_many (l : List Tm) (kinds : List Int) (bound : Bool) (h : 6 < kinds.length) : ofF l kinds bound = (0, 7) := by unfold ofF; rw [if_pos h]
theorem ofF_kinds (l : List Tm) (kinds : List Int) (bound : Bool) (h : kindsB kinds = false) : ofF l kinds bound = (0, 7) := by unfold ofF; rw [if_pos h]; split <;> rfl
theorem ofF_invalid (l : List Tm) (kinds : List Int) (bound : Bool) (h : validB l kinds.length = false) : ofF l kinds bound = (0, 7) := by unfold ofF; rw [if_pos h]; split <;> (try split) <;> rfl
theorem ofF_ok (l : List Tm) (kinds : List Int) (bound : Bool) (E : Ex) (h6 : ¬ 6 < kinds.length) (hk : kindsB kinds = true) (hv : validB l kinds.length = true) (hp : parse l = some E) :
    ofF l kinds bound = if ty kinds bound E = 0 then (0, 6) else (ty kinds bound E, 0) := by
  unfold ofF; rw [if_neg h6, if_neg (by simp [hk]), if_neg (by simp [hv]), hp]
theorem valid_parse {l : List Tm} {vars : Int} (h : validB l vars = true) : ∃ E, parse l = some E ∧ E.ok ∧ E.fl = l ∧ l.length ≤ 200 ∧ l.all (argB vars) = true ∧ E.dp ≤ 24 ∧ E.ns ≤ 2 := by
  unfold validB at h
  cases hp : parse l with
  | none => rw [hp] at h; cases h
  | some E =>
    rw [hp] at h
    simp only [Bool.and_eq_true, decide_eq_true_eq] at h
    obtain ⟨h1, h2⟩ := parse_some hp
    exact ⟨E, rfl, h1, h2, h.1, h.2.1, h.2.2.1, h.2.2.2⟩

/-- A bound neighbour keeps the type of an expression that needs none. -/
theorem ty_keep (kinds : List Int) (hk : kindsB kinds = true) (E : Ex) : ty kinds false E ≠ 0 → ty kinds true E = ty kinds false E := by
  induction E with
  | lf t =>
    intro h
    simp only [ty] at *
    cases hn : nearB t.1
    · simp
    · rw [hn] at h; simp at h
  | un t a iha =>
    intro h
    simp only [ty, Bool.false_or, Bool.true_or] at *
    cases hg : aggB t.1
    · rw [hg] at h; rw [iha ((ty1_bd _ _).2.2 h)]
    · rfl
  | bi t a b iha ihb =>
    intro h
    simp only [ty] at *
    have := (ty2_bd _ _ _).2.2 h
    rw [iha this.1, ihb this.2]
  | tr t a b c iha ihb ihc =>
    intro h
    simp only [ty] at *
    have := (ty3_bd _ _ _ (ty_bd kinds hk b false)).2.2 h
    rw [iha this.1, ihb this.2.1, ihc this.2.2]
theorem ofF_keep (l : List Tm) (kinds : List Int) : ((ofF l kinds false).2 = 0 → ofF l kinds true = ofF l kinds false) ∧ ((ofF l kinds false).2 ≠ 0 → (ofF l kinds false).1 = 0 ∧ ((ofF l kinds false).2 = 6 ∨ (ofF l kinds false).2 = (ofF l kinds true).2)) := by
  by_cases h6 : 6 < kinds.length
  · rw [ofF_many _ _ _ h6, ofF_many _ _ _ h6]; simp
  cases hk : kindsB kinds
  · rw [ofF_kinds _ _ _ hk, ofF_kinds _ _ _ hk]; simp
  cases hv : validB l kinds.length
  · rw [ofF_invalid _ _ _ hv, ofF_invalid _ _ _ hv]; simp
  obtain ⟨E, hp, _⟩ := valid_parse hv
  rw [ofF_ok _ _ _ E h6 hk hv hp, ofF_ok _ _ _ E h6 hk hv hp]
  by_cases h0 : ty kinds false E = 0
  · rw [if_pos h0]; simp
  · rw [ty_keep kinds hk E h0, if_neg h0]; simp

/-- Terms changed without their operations. -/
def mapE (g : Tm → Tm) : Ex → Ex
  | .lf t => .lf (g t)
  | .un t a => .un (g t) (mapE g a)
  | .bi t a b => .bi (g t) (mapE g a) (mapE g b)
  | .tr t a b c => .tr (g t) (mapE g a) (mapE g b) (mapE g c)
theorem mapE_facts (g : Tm → Tm) (hg : ∀ t, (g t).1 = t.1) (E : Ex) : (mapE g E).fl = E.fl.map g ∧ (E.ok → (mapE g E).ok) ∧ (mapE g E).dp = E.dp ∧ (mapE g E).ns = E.ns := by
  induction E with
  | lf t => exact ⟨rfl, fun h => by show ar (g t).1 = 0; rw [hg]; exact h, rfl, rfl⟩
  | un t a iha =>
    obtain ⟨a1, a2, a3, a4⟩ := iha
    exact ⟨by simp only [mapE, Ex.fl, List.map_cons, a1], fun h => ⟨by rw [hg]; exact h.1, a2 h.2⟩, by simp only [mapE, Ex.dp, a3], by simp only [mapE, Ex.ns, a4, hg]⟩
  | bi t a b iha ihb =>
    obtain ⟨a1, a2, a3, a4⟩ := iha
    obtain ⟨b1, b2, b3, b4⟩ := ihb
    exact ⟨by simp only [mapE, Ex.fl, List.map_cons, List.map_append, a1, b1], fun h => ⟨by rw [hg]; exact h.1, a2 h.2.1, b2 h.2.2⟩, by simp only [mapE, Ex.dp, a3, b3], by simp only [mapE, Ex.ns, a4, b4]⟩
  | tr t a b c iha ihb ihc =>
    obtain ⟨a1, a2, a3, a4⟩ := iha
    obtain ⟨b1, b2, b3, b4⟩ := ihb
    obtain ⟨c1, c2, c3, c4⟩ := ihc
    exact ⟨by simp only [mapE, Ex.fl, List.map_cons, List.map_append, a1, b1, c1], fun h => ⟨by rw [hg]; exact h.1, a2 h.2.1, b2 h.2.2.1, c2 h.2.2.2⟩, by simp only [mapE, Ex.dp, a3, b3, c3], by simp only [mapE, Ex.ns, a4, b4, c4]⟩
theorem parse_map (g : Tm → Tm) (hg : ∀ t, (g t).1 = t.1) (l : List Tm) (E : Ex) (h : parse l = some E) : parse (l.map g) = some (mapE g E) := by
  obtain ⟨h1, h2⟩ := parse_some h
  obtain ⟨a1, a2, _, _⟩ := mapE_facts g hg E
  rw [← h2, ← a1]; exact parse_fl _ (a2 h1)
theorem parse_map_none (g : Tm → Tm) (hg : ∀ t, (g t).1 = t.1) (l : List Tm) (h : parse l = none) : parse (l.map g) = none := by
  cases hp : parse (l.map g) with
  | none => rfl
  | some E =>
    exfalso
    have h1 := (parse_iff (l.map g)).1 ⟨E, hp⟩
    have h2 : ∀ (l : List Tm) (w : Nat), endN w (l.map g) = endN w l := by
      intro l
      induction l with
      | nil => intro w; rfl
      | cons t l ih =>
        intro w
        cases w with
        | zero => rw [endN_zero, endN_zero]
        | succ w => simp only [List.map_cons, endN, hg, ih]
    rw [h2, List.length_map] at h1
    obtain ⟨E', h3⟩ := (parse_iff l).2 h1
    rw [h] at h3; cases h3
/-- The type of an expression whose terms were changed, if the leaves keep their types. -/
theorem ty_map (g : Tm → Tm) (hg : ∀ t, (g t).1 = t.1) (k1 k2 : List Int) (E : Ex) : (∀ t ∈ E.fl, ar t.1 = 0 → leafTy k2 (g t) = leafTy k1 t) → E.ok → ∀ bound, ty k2 bound (mapE g E) = ty k1 bound E := by
  induction E with
  | lf t => intro hl ho bound; simp only [mapE, ty, hg]; rw [hl t (by simp [Ex.fl]) ho]
  | un t a iha => intro hl ho bound; simp only [mapE, ty, hg]; rw [iha (fun t ht => hl t (by simp [Ex.fl, ht])) ho.2]
  | bi t a b iha ihb => intro hl ho bound; simp only [mapE, ty, hg]; rw [iha (fun t ht => hl t (by simp [Ex.fl, ht])) ho.2.1, ihb (fun t ht => hl t (by simp [Ex.fl, ht])) ho.2.2]
  | tr t a b c iha ihb ihc =>
    intro hl ho bound; simp only [mapE, ty]
    rw [iha (fun t ht => hl t (by simp [Ex.fl, ht])) ho.2.1, ihb (fun t ht => hl t (by simp [Ex.fl, ht])) ho.2.2.1, ihc (fun t ht => hl t (by simp [Ex.fl, ht])) ho.2.2.2]
/-- Other terms with the same operations, arguments as permitted as before, and leaves of the same types: the same answer. -/
theorem ofF_map (g : Tm → Tm) (hg : ∀ t, (g t).1 = t.1) (k1 k2 : List Int) (l : List Tm) (bound : Bool) (h6 : 6 < k1.length ↔ 6 < k2.length) (hk : kindsB k2 = kindsB k1)
    (ha : (l.map g).all (argB k2.length) = l.all (argB k1.length)) (hl : validB l k1.length = true → ∀ t ∈ l, ar t.1 = 0 → leafTy k2 (g t) = leafTy k1 t) : ofF (l.map g) k2 bound = ofF l k1 bound := by
  by_cases h6' : 6 < k1.length
  · rw [ofF_many _ _ _ h6', ofF_many _ _ _ (h6.1 h6')]
  cases hk' : kindsB k1
  · rw [ofF_kinds _ _ _ hk', ofF_kinds _ _ _ (by rw [hk]; exact hk')]
  have hv : validB (l.map g) k2.length = validB l k1.length := by
    unfold validB
    cases hp : parse l with
    | none => rw [parse_map_none g hg l hp]
    | some E =>
      rw [parse_map g hg l E hp]
      obtain ⟨_, _, a3, a4⟩ := mapE_facts g hg E
      simp only [a3, a4, ha, List.length_map]
  cases hv' : validB l k1.length
  · rw [ofF_invalid _ _ _ hv', ofF_invalid _ _ _ (by rw [hv]; exact hv')]
  obtain ⟨E, hp, ho, hf, _⟩ := valid_parse hv'
  rw [ofF_ok _ _ _ E h6' hk' hv' hp, ofF_ok _ _ _ (mapE g E) (by omega) (by rw [hk]; exact hk') (by rw [hv]; exact hv') (parse_map g hg l E hp), ty_map g hg k1 k2 E (fun t ht => hl hv' t (hf ▸ ht)) ho]
end Go.Proofs.Ytogennegbihceaa
