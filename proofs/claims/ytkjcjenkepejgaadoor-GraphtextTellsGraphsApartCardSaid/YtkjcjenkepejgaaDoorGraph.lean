/- Graphs as data: when one is valid. No program. Graphs: identifiers that differ, step by step. No program. -/
import Derived.Below
set_option linter.unusedVariables false
namespace Go.Proofs.YtkjcjenkepejgaaDoor
open Go.RowKit

/-- A link: the neighbour and the weight. -/
abbrev Lk := Int × Int
structure GraphD where
  ids : List Int
  ports : List (List Lk)
def GraphD.n (g : GraphD) : Nat := g.ports.length

def linkB (n v : Nat) (l : Lk) : Bool := decide (0 ≤ l.1) && (decide (l.1 < n) && (!(l.1 == (v : Int)) && (decide (1 ≤ l.2) && decide (l.2 ≤ 15))))
theorem linkB_iff (n v : Nat) (l : Lk) : linkB n v l = true ↔ 0 ≤ l.1 ∧ l.1 < n ∧ l.1 ≠ v ∧ 1 ≤ l.2 ∧ l.2 ≤ 15 := by
  unfold linkB
  simp
def linksB (n v : Nat) (ls : List Lk) : Bool := ls.all (linkB n v) && decide ((ls.map (·.1)).Nodup)
def idB (x : Int) : Bool := decide (0 ≤ x) && decide (x ≤ 255)
def idsB (l : List Int) : Bool := l.all idB && decide l.Nodup
/-- The weight of the link to a node; 0 if there is none. -/
def weightTo (ls : List Lk) (u : Int) : Int := match ls.find? (fun l => l.1 == u) with | some l => l.2 | none => 0
def portsB (ports : List (List Lk)) : Bool := (List.range ports.length).all fun v => linksB ports.length v (ports.getD v [])
def symB (ports : List (List Lk)) : Bool := (List.range ports.length).all fun v => (ports.getD v []).all fun l => weightTo (ports.getD l.1.toNat []) v == l.2
/-- A valid graph. -/
def validG (g : GraphD) : Bool := decide (1 ≤ g.ports.length) && (decide (g.ports.length ≤ 24) && (decide (g.ids.length = g.ports.length) && (idsB g.ids && (portsB g.ports && symB g.ports))))

theorem pigeon (n : Nat) : ∀ l : List Nat, l.Nodup → (∀ x ∈ l, x < n) → l.length ≤ n := by
  induction n with
  | zero =>
    intro l _ h
    cases l with
    | nil => simp
    | cons a l => exact absurd (h a (by simp)) (by omega)
  | succ n ih =>
    intro l hn h
    by_cases hm : n ∈ l
    · have h1 := ih (l.erase n) (hn.erase n) (fun x hx => by
        have h2 := h x (List.mem_of_mem_erase hx)
        have h3 : x ≠ n := fun e => by rw [e] at hx; exact (List.Nodup.not_mem_erase hn) hx
        omega)
      rw [List.length_erase_of_mem hm] at h1
      omega
    · have := ih l hn (fun x hx => by have h2 := h x hx; have h3 : x ≠ n := fun e => hm (e ▸ hx); omega)
      omega
theorem nodup_map_inj {α β : Type} (f : α → β) : ∀ l : List α, l.Nodup → (∀ x ∈ l, ∀ y ∈ l, f x = f y → x = y) → (l.map f).Nodup := by
  intro l
  induction l with
  | nil => intro _ _; simp
  | cons a l ih =>
    intro hn hf
    rw [List.map_cons, List.nodup_cons] at *
    refine ⟨fun h => ?_, ih hn.2 fun x hx y hy h => hf x (by simp [hx]) y (by simp [hy]) h⟩
    rw [List.mem_map] at h
    obtain ⟨b, hb, he⟩ := h
    exact hn.1 (hf b (by simp [hb]) a (by simp) he ▸ hb)
/-- A node of a valid graph has fewer ports than there are nodes. -/
theorem links_short {n v : Nat} {ls : List Lk} (hv : v < n) (h : linksB n v ls = true) : ls.length < n := by
  unfold linksB at h
  rw [Bool.and_eq_true, decide_eq_true_eq, List.all_eq_true] at h
  obtain ⟨h1, h2⟩ := h
  have hb : ∀ x : Int, x ∈ ls.map (·.1) → 0 ≤ x ∧ x < n ∧ x ≠ v := by
    intro x hx
    rw [List.mem_map] at hx
    obtain ⟨l, hl, rfl⟩ := hx
    have := (linkB_iff n v l).1 (h1 l hl)
    exact ⟨this.1, this.2.1, this.2.2.1⟩
  have h3 : ((ls.map (·.1)).map Int.toNat).Nodup := nodup_map_inj Int.toNat _ h2 fun x hx y hy he => by
    have hx' := hb x hx
    have hy' := hb y hy
    omega
  have h4 := pigeon n (v :: (ls.map (·.1)).map Int.toNat) (by
    rw [List.nodup_cons]
    refine ⟨fun hm => ?_, h3⟩
    rw [List.mem_map] at hm
    obtain ⟨x, hx, he⟩ := hm
    have := hb x hx
    omega) (fun x hx => by
      rcases List.mem_cons.1 hx with rfl | hx
      · exact hv
      · rw [List.mem_map] at hx
        obtain ⟨y, hy, rfl⟩ := hx
        have := hb y hy
        omega)
  simp at h4
  omega
theorem valid_facts {g : GraphD} (h : validG g = true) : 1 ≤ g.ports.length ∧ g.ports.length ≤ 24 ∧ g.ids.length = g.ports.length ∧ (∀ x ∈ g.ids, 0 ≤ x ∧ x ≤ 255) ∧ g.ids.Nodup ∧
    (∀ (v : Nat) (ls : List Lk), g.ports[v]? = some ls → linksB g.ports.length v ls = true) ∧ (∀ (v : Nat) (ls : List Lk), g.ports[v]? = some ls → ∀ l ∈ ls, weightTo (g.ports.getD l.1.toNat []) v = l.2) := by
  unfold validG at h
  simp only [Bool.and_eq_true, decide_eq_true_eq] at h
  obtain ⟨h1, h2, h3, h4, h5, h6⟩ := h
  unfold idsB at h4
  simp only [Bool.and_eq_true, decide_eq_true_eq, List.all_eq_true, idB] at h4
  refine ⟨h1, h2, h3, h4.1, h4.2, fun v ls hv => ?_, fun v ls hv l hl => ?_⟩
  · have hlt := (List.getElem?_eq_some_iff.1 hv).1
    have := List.all_eq_true.1 h5 v (List.mem_range.2 hlt)
    rw [List.getD_eq_getElem?_getD, hv] at this
    exact this
  · have hlt := (List.getElem?_eq_some_iff.1 hv).1
    have := List.all_eq_true.1 h6 v (List.mem_range.2 hlt)
    rw [List.getD_eq_getElem?_getD, hv] at this
    have := List.all_eq_true.1 this l hl
    simpa using this
end Go.Proofs.YtkjcjenkepejgaaDoor

set_option linter.unusedVariables false
namespace Go.Proofs.YtkjcjenkepejgaaDoor

theorem idsB_bad {l : List Int} {k : Nat} {x : Int} (hx : l[k]? = some x) (h : idB x = false) : idsB l = false := by
  unfold idsB
  rw [List.all_eq_false.2 ⟨x, List.mem_of_getElem? hx, by simp [h]⟩]; rfl
theorem idsB_twice {l : List Int} {k : Nat} {x : Int} (hx : l[k]? = some x) (h : x ∈ l.take k) : idsB l = false := by
  unfold idsB
  have : ¬ l.Nodup := by
    intro hn
    obtain ⟨j, hj⟩ := List.getElem?_of_mem h
    rw [List.getElem?_take] at hj
    split at hj
    · rename_i hjk
      have h1 := List.getElem?_eq_some_iff.1 hj
      have h2 := List.getElem?_eq_some_iff.1 hx
      have := (List.pairwise_iff_getElem.1 hn) j k h1.1 h2.1 hjk
      rw [h1.2, h2.2] at this
      exact this rfl
    · cases hj
  simp [this]
theorem idsB_iff (l : List Int) : idsB l = true ↔ (∀ x ∈ l, idB x = true) ∧ l.Nodup := by
  unfold idsB; rw [Bool.and_eq_true, decide_eq_true_eq, List.all_eq_true]
theorem take_next {α : Type} {l : List α} {k : Nat} {x : α} (hx : l[k]? = some x) : l.take (k + 1) = l.take k ++ [x] := by
  rw [List.take_add_one, hx]; rfl
theorem idsB_step {l : List Int} {k : Nat} {x : Int} (hx : l[k]? = some x) (h : idsB (l.take k) = true) (h1 : idB x = true) (h2 : x ∉ l.take k) : idsB (l.take (k + 1)) = true := by
  rw [idsB_iff] at *
  rw [take_next hx]
  refine ⟨fun y hy => ?_, ?_⟩
  · rcases List.mem_append.1 hy with hy | hy
    · exact h.1 y hy
    · simp at hy; subst hy; exact h1
  · rw [List.nodup_append]
    exact ⟨h.2, by simp, fun a ha b hb => by simp at hb; subst hb; exact fun e => h2 (e ▸ ha)⟩
/-- Which numbers have been met. -/
def bits (l : List Int) : List Bool := (List.range 256).map fun i : Nat => decide ((i : Int) ∈ l)
theorem bits_nil : bits [] = List.replicate 256 false := by
  unfold bits
  rw [show (fun i : Nat => decide ((i : Int) ∈ ([] : List Int))) = fun _ => false from by funext i; simp, List.map_const', List.length_range]
theorem bits_len (l : List Int) : (bits l).length = 256 := by simp [bits]
theorem bits_get (l : List Int) (x : Int) (h0 : 0 ≤ x) (h1 : x ≤ 255) : (bits l)[x.toNat]? = some (decide (x ∈ l)) := by
  unfold bits
  rw [List.getElem?_map, List.getElem?_range (by omega)]
  have : ((x.toNat : Nat) : Int) = x := by omega
  simp [this]
theorem bits_set (l : List Int) (x : Int) (h0 : 0 ≤ x) (h1 : x ≤ 255) : (bits l).set x.toNat true = bits (l ++ [x]) := by
  apply List.ext_getElem
  · simp [bits]
  · intro i h2 h3
    have hx : ((x.toNat : Nat) : Int) = x := by omega
    rw [List.getElem_set]
    unfold bits
    simp only [List.getElem_map, List.getElem_range, List.mem_append, List.mem_singleton]
    by_cases hi : x.toNat = i
    · subst hi
      simp [hx]
    · have : ¬ ((i : Nat) : Int) = x := by omega
      simp [hi, this]
end Go.Proofs.YtkjcjenkepejgaaDoor
namespace Go.Proofs.YtkjcjenkepejgaaDoor
theorem linksB_iff (n v : Nat) (l : List Lk) : linksB n v l = true ↔ (∀ x ∈ l, linkB n v x = true) ∧ (l.map (·.1)).Nodup := by
  unfold linksB; rw [Bool.and_eq_true, decide_eq_true_eq, List.all_eq_true]
theorem linksB_bad {n v : Nat} {l : List Lk} {k : Nat} {x : Lk} (hx : l[k]? = some x) (h : linkB n v x = false) : linksB n v l = false := by
  rw [← Bool.not_eq_true, linksB_iff]
  intro h1
  rw [h1.1 x (List.mem_of_getElem? hx)] at h; cases h
theorem linksB_twice {n v : Nat} {l : List Lk} {j k : Nat} {x y : Lk} (hjk : j < k) (hy : l[j]? = some y) (hx : l[k]? = some x) (h : y.1 = x.1) : linksB n v l = false := by
  rw [← Bool.not_eq_true, linksB_iff]
  intro h1
  have g1 := List.getElem?_eq_some_iff.1 hy
  have g2 := List.getElem?_eq_some_iff.1 hx
  have := (List.pairwise_iff_getElem.1 h1.2) j k (by simpa using g1.1) (by simpa using g2.1) hjk
  simp [g1.2, g2.2, h] at this
theorem linksB_step {n v : Nat} {l : List Lk} {k : Nat} {x : Lk} (hx : l[k]? = some x) (h : linksB n v (l.take k) = true) (h1 : linkB n v x = true) (h2 : ∀ (j : Nat) (y : Lk), j < k → l[j]? = some y → y.1 ≠ x.1) : linksB n v (l.take (k + 1)) = true := by
  rw [linksB_iff] at *
  rw [take_next hx]
  refine ⟨fun y hy => ?_, ?_⟩
  · rcases List.mem_append.1 hy with hy | hy
    · exact h.1 y hy
    · simp at hy; subst hy; exact h1
  · rw [List.map_append, List.nodup_append]
    refine ⟨h.2, by simp, fun a ha b hb => ?_⟩
    simp at hb; subst hb
    obtain ⟨y, hy, rfl⟩ := List.mem_map.1 ha
    obtain ⟨j, hj⟩ := List.getElem?_of_mem hy
    rw [List.getElem?_take] at hj
    split at hj
    · rename_i hjk; exact h2 j y hjk hj
    · cases hj
/-- The port that leads to a node, or -1. -/
def portTo (l : List Lk) (u : Int) : Int := match l.findIdx? (fun x => x.1 == u) with | some i => i | none => -1
theorem portTo_none {l : List Lk} {u : Int} (h : ∀ (j : Nat) (y : Lk), l[j]? = some y → y.1 ≠ u) : portTo l u = -1 := by
  unfold portTo
  have : l.findIdx? (fun x => x.1 == u) = none := by
    rw [List.findIdx?_eq_none_iff]
    intro x hx
    obtain ⟨j, hj⟩ := List.getElem?_of_mem hx
    simpa using h j x hj
  rw [this]
theorem portTo_some {l : List Lk} {u : Int} {k : Nat} {x : Lk} (hx : l[k]? = some x) (hu : x.1 = u) (h : ∀ (j : Nat) (y : Lk), j < k → l[j]? = some y → y.1 ≠ u) : portTo l u = k := by
  unfold portTo
  have : l.findIdx? (fun x => x.1 == u) = some k := by
    rw [List.findIdx?_eq_some_iff_getElem]
    have g := List.getElem?_eq_some_iff.1 hx
    refine ⟨g.1, by simp [g.2, hu], fun j hj => ?_⟩
    have hjl : j < l.length := by have := g.1; omega
    have := h j l[j] hj (List.getElem?_eq_getElem hjl)
    simpa using this
  rw [this]
theorem portTo_cases (l : List Lk) (u : Int) : (portTo l u = -1 ∧ ∀ x ∈ l, x.1 ≠ u) ∨ ∃ (k : Nat) (x : Lk), portTo l u = k ∧ l[k]? = some x ∧ x.1 = u ∧ l.find? (fun x => x.1 == u) = some x := by
  unfold portTo
  cases hf : l.findIdx? (fun x => x.1 == u) with
  | none =>
    rw [List.findIdx?_eq_none_iff] at hf
    exact .inl ⟨rfl, fun x hx => by simpa using hf x hx⟩
  | some k =>
    obtain ⟨h1, h2, h3⟩ := List.findIdx?_eq_some_iff_getElem.1 hf
    refine .inr ⟨k, l[k], rfl, List.getElem?_eq_getElem h1, by simpa using h2, ?_⟩
    rw [List.find?_eq_some_iff_getElem]
    exact ⟨h2, k, h1, rfl, fun j hj => by simpa using h3 j hj⟩
theorem weight_none {l : List Lk} {u : Int} (h : ∀ x ∈ l, x.1 ≠ u) : weightTo l u = 0 := by
  unfold weightTo
  have : l.find? (fun x => x.1 == u) = none := by
    rw [List.find?_eq_none]; intro x hx; simpa using h x hx
  rw [this]
theorem weight_some {l : List Lk} {u : Int} {x : Lk} (h : l.find? (fun x => x.1 == u) = some x) : weightTo l u = x.2 := by unfold weightTo; rw [h]
theorem validG_iff (g : GraphD) : validG g = true ↔ 1 ≤ g.ports.length ∧ g.ports.length ≤ 24 ∧ g.ids.length = g.ports.length ∧ idsB g.ids = true ∧ portsB g.ports = true ∧ symB g.ports = true := by
  unfold validG; simp only [Bool.and_eq_true, decide_eq_true_eq]
theorem portsB_iff (ports : List (List Lk)) : portsB ports = true ↔ ∀ (v : Nat) (ls : List Lk), ports[v]? = some ls → linksB ports.length v ls = true := by
  unfold portsB
  rw [List.all_eq_true]
  constructor
  · intro h v ls hv
    have := h v (List.mem_range.2 (List.getElem?_eq_some_iff.1 hv).1)
    rwa [List.getD_eq_getElem?_getD, hv] at this
  · intro h v hv
    obtain ⟨ls, hls⟩ : ∃ ls, ports[v]? = some ls := ⟨_, List.getElem?_eq_getElem (List.mem_range.1 hv)⟩
    rw [List.getD_eq_getElem?_getD, hls]
    exact h v ls hls
theorem symB_iff (ports : List (List Lk)) : symB ports = true ↔ ∀ (v : Nat) (ls : List Lk), ports[v]? = some ls → ∀ l ∈ ls, weightTo (ports.getD l.1.toNat []) v = l.2 := by
  unfold symB
  rw [List.all_eq_true]
  constructor
  · intro h v ls hv l hl
    have := h v (List.mem_range.2 (List.getElem?_eq_some_iff.1 hv).1)
    rw [List.getD_eq_getElem?_getD, hv] at this
    simpa using List.all_eq_true.1 this l hl
  · intro h v hv
    obtain ⟨ls, hls⟩ : ∃ ls, ports[v]? = some ls := ⟨_, List.getElem?_eq_getElem (List.mem_range.1 hv)⟩
    rw [List.getD_eq_getElem?_getD, hls]
    rw [Option.getD_some, List.all_eq_true]
    intro l hl
    simpa using h v ls hls l hl
end Go.Proofs.YtkjcjenkepejgaaDoor
