/- Ranges of variables: what the domain's functions return. No program. -/
import Derived.Test.YtmjcmldkbibhfaaCheckWalk9
import Derived.Test.YtmjcmldkbibhfaaGraph
set_option linter.unusedVariables false
namespace Go.Proofs.Ytmjcmldkbibhfaa

def greatestL (l : List Int) : Int := l.foldl max 0
theorem greatestL_snoc (l : List Int) (k : Nat) (x : Int) (h : l[k]? = some x) : greatestL (l.take (k + 1)) = if x > greatestL (l.take k) then x else greatestL (l.take k) := by
  unfold greatestL
  rw [List.take_add_one, h]
  simp only [Option.toList_some, List.foldl_append, List.foldl_cons, List.foldl_nil]
  omega
theorem greatestL_bd {l : List Int} (h : ∀ x ∈ l, x ≤ 255) : 0 ≤ greatestL l ∧ greatestL l ≤ 255 := by
  unfold greatestL
  have : ∀ (l : List Int) (a : Int), (∀ x ∈ l, x ≤ 255) → 0 ≤ a → a ≤ 255 → 0 ≤ l.foldl max a ∧ l.foldl max a ≤ 255 := by
    intro l
    induction l with
    | nil => intro a _ h1 h2; exact ⟨h1, h2⟩
    | cons y l ih =>
      intro a hl h1 h2
      have := hl y (by simp)
      exact ih (max a y) (fun x hx => hl x (by simp [hx])) (by omega) (by omega)
  exact this l 0 h (by omega) (by omega)

instance : Inhabited VarD := ⟨⟨ByteArray.empty, 0, 0, 0, 0, 0⟩⟩
theorem num_facts {x : VarD} (h : numB x = true) : (x.kind = 1 ∨ x.kind = 2 ∨ x.kind = 3) ∧ 0 ≤ x.lo ∧ x.lo ≤ 4096 ∧ -4096 ≤ x.hi ∧ x.hi ≤ 4096 ∧ 0 ≤ x.perNode ∧ x.perNode ≤ 255 ∧ 0 ≤ x.perID ∧ x.perID ≤ 255 := by
  unfold numB at h
  rw [Bool.and_eq_true] at h
  obtain ⟨h1, h2⟩ := h
  have hk : x.kind = 1 ∨ x.kind = 2 ∨ x.kind = 3 := by simp [kindB] at h1; omega
  refine ⟨hk, ?_⟩
  split at h2
  · simp at h2; omega
  · simp only [withinB, Bool.and_eq_true, decide_eq_true_eq] at h2
    obtain ⟨g1, g2, g3, g4⟩ := h2
    split at g4 <;> simp at g4 <;> omega
theorem check_facts {p : ProgD} (h : checkF p = 0) : 1 ≤ p.vars.length ∧ p.vars.length ≤ 6 ∧ p.rules.length ≤ 12 ∧ ∀ x ∈ p.vars, numB x = true := by
  by_cases h1 : p.vars.length = 0 ∨ 6 < p.vars.length ∨ 12 < p.rules.length
  · rw [check_limit h1] at h; omega
  by_cases h2 : namedB p = true
  · by_cases h3 : p.vars.all numB = true
    · exact ⟨by omega, by omega, by omega, fun x hx => List.all_eq_true.1 h3 x hx⟩
    · rw [check_num h1 h2 (by simpa using h3)] at h; omega
  · rw [check_name h1 (by simpa using h2)] at h; omega

/-- The least and the greatest value of a variable at a node of that degree. -/
def boundsV (x : VarD) (g : GraphD) (deg : Int) : Int × Int :=
  if x.kind = 2 then (0, 1) else if x.kind = 3 then (-1, deg - 1) else (x.lo, x.hi + x.perNode * g.ports.length + x.perID * greatestL g.ids)
def degAt (g : GraphD) (v : Int) : Int := (g.ports.getD v.toNat []).length
def varAt (p : ProgD) (x : Int) : VarD := p.vars.getD x.toNat default
def there (p : ProgD) (g : GraphD) (v x : Int) : Bool := decide (0 ≤ v) && decide (v < g.ports.length) && (decide (0 ≤ x) && decide (x < p.vars.length))
theorem there_iff (p : ProgD) (g : GraphD) (v x : Int) : there p g v x = true ↔ 0 ≤ v ∧ v < g.ports.length ∧ 0 ≤ x ∧ x < p.vars.length := by unfold there; simp [and_assoc]
def rangeF (p : ProgD) (g : GraphD) (v x : Int) : Int × Int × Int :=
  if checkF p = 0 then if validG g = true then if there p g v x = true then ((boundsV (varAt p x) g (degAt g v)).1, (boundsV (varAt p x) g (degAt g v)).2, 0) else (0, 0, 2) else (0, 0, 1) else (0, 0, 8)
def fitB (g : GraphD) (x : VarD) : Bool := !(x.kind == 1) || (decide ((boundsV x g 0).1 ≤ (boundsV x g 0).2) && decide ((boundsV x g 0).2 - (boundsV x g 0).1 + 1 ≤ 4096))
def fitsF (p : ProgD) (g : GraphD) : Int := if checkF p = 0 then if validG g = true then if p.vars.all (fitB g) = true then 0 else 9 else 1 else 8
def bringF (kind lo hi value : Int) : Int := if lo ≤ value ∧ value ≤ hi then value else if kind = 3 then -1 else if value < lo then lo else hi
def clampF (p : ProgD) (g : GraphD) (v x value : Int) : Int :=
  if fitsF p g = 0 then if there p g v x = true then bringF (varAt p x).kind (boundsV (varAt p x) g (degAt g v)).1 (boundsV (varAt p x) g (degAt g v)).2 value else 0 else 0
def sizeStep (g : GraphD) (deg : Int) (n : Int) (x : VarD) : Int := if (1073741824 : Int) < n * ((boundsV x g deg).2 - (boundsV x g deg).1 + 1) then 1073741824 else n * ((boundsV x g deg).2 - (boundsV x g deg).1 + 1)
def sizeF (p : ProgD) (g : GraphD) (v : Int) : Int := if fitsF p g = 0 then if 0 ≤ v ∧ v < g.ports.length then p.vars.foldl (sizeStep g (degAt g v)) 1 else 0 else 0

theorem fits_zero {p : ProgD} {g : GraphD} : fitsF p g = 0 ↔ checkF p = 0 ∧ validG g = true ∧ ∀ x ∈ p.vars, fitB g x = true := by
  unfold fitsF
  constructor
  · intro h
    split at h
    · split at h
      · split at h
        · rename_i h1 h2 h3; exact ⟨h1, h2, List.all_eq_true.1 h3⟩
        · omega
      · omega
    · omega
  · rintro ⟨h1, h2, h3⟩
    rw [if_pos h1, if_pos h2, if_pos (List.all_eq_true.2 h3)]
theorem valid_greatest {g : GraphD} (h : validG g = true) : 0 ≤ greatestL g.ids ∧ greatestL g.ids ≤ 255 := greatestL_bd fun x hx => ((valid_facts h).2.2.2.1 x hx).2
theorem mul_bd {a b A B : Int} (h0 : 0 ≤ a) (h1 : a ≤ A) (h2 : 0 ≤ b) (h3 : b ≤ B) : 0 ≤ a * b ∧ a * b ≤ A * B := ⟨Int.mul_nonneg h0 h2, Int.mul_le_mul h1 h3 h2 (by omega)⟩
theorem terms_bd {x : VarD} {g : GraphD} (hx : numB x = true) (hg : validG g = true) : 0 ≤ x.perNode * (g.ports.length : Int) ∧ x.perNode * (g.ports.length : Int) ≤ 255 * 24 ∧ 0 ≤ x.perID * greatestL g.ids ∧ x.perID * greatestL g.ids ≤ 255 * 255 := by
  have h1 := num_facts hx
  have h2 := valid_facts hg
  have h3 := valid_greatest hg
  have m1 := mul_bd (a := x.perNode) (b := (g.ports.length : Int)) (A := 255) (B := 24) (by omega) (by omega) (by omega) (by omega)
  have m2 := mul_bd (a := x.perID) (b := greatestL g.ids) (A := 255) (B := 255) (by omega) (by omega) (by omega) (by omega)
  omega
theorem bounds_bd {x : VarD} {g : GraphD} {deg : Int} (hx : numB x = true) (hg : validG g = true) (hd : 0 ≤ deg ∧ deg ≤ 30) : -1 ≤ (boundsV x g deg).1 ∧ (boundsV x g deg).1 ≤ 4096 ∧ -4096 ≤ (boundsV x g deg).2 ∧ (boundsV x g deg).2 ≤ 100000 := by
  have h1 := num_facts hx
  have h2 := terms_bd hx hg
  unfold boundsV
  split
  · simp
  · split
    · simp only; omega
    · simp only; omega
theorem fit_bd {x : VarD} {g : GraphD} {deg : Int} (hf : fitB g x = true) (hx : numB x = true) (hd : 0 ≤ deg ∧ deg ≤ 30) : (boundsV x g deg).1 ≤ (boundsV x g deg).2 + (if x.kind = 3 then 1 else 0) ∧ (boundsV x g deg).2 - (boundsV x g deg).1 + 1 ≤ 4096 := by
  have h1 := num_facts hx
  unfold fitB at hf
  unfold boundsV at hf ⊢
  rcases h1.1 with hk | hk | hk
  · simp [hk] at hf ⊢; omega
  · simp [hk]
  · simp [hk]; omega
theorem size_bd {g : GraphD} {deg : Int} (hd : 0 ≤ deg ∧ deg ≤ 30) : ∀ (l : List VarD) (n : Int), (∀ x ∈ l, numB x = true) → (∀ x ∈ l, fitB g x = true) → 0 ≤ n → n ≤ 1073741824 → 0 ≤ l.foldl (sizeStep g deg) n ∧ l.foldl (sizeStep g deg) n ≤ 1073741824
  | [], n, _, _, h1, h2 => ⟨h1, h2⟩
  | x :: l, n, hx, hf, h1, h2 => by
    have hb := fit_bd (deg := deg) (hf x (by simp)) (hx x (by simp)) hd
    have hw : 0 ≤ (boundsV x g deg).2 - (boundsV x g deg).1 + 1 := by split at hb <;> omega
    have hm : 0 ≤ n * ((boundsV x g deg).2 - (boundsV x g deg).1 + 1) := Int.mul_nonneg h1 hw
    refine size_bd hd l _ (fun y hy => hx y (by simp [hy])) (fun y hy => hf y (by simp [hy])) ?_ ?_
    · unfold sizeStep; split <;> omega
    · unfold sizeStep; split <;> omega
end Go.Proofs.Ytmjcmldkbibhfaa
