/- Part 10 of the texts under MemoryReadsAndWrites,MemoryReadsBack: joined, with what it needs alone. -/
import Derived.Below
import Derived.Test.YtmlkdoimkdbdpaaGreatDoorL4
import Derived.Test.YtmlkdoimkdbdpaaGreatDoorL8
import Derived.Test.YtmlkdoimkdbdpaaGreatDoorL9
set_option linter.unusedVariables false
namespace Go.Proofs.YtmlkdoimkdbdpaaGreatDoor
open Go.RowKit

abbrev Lk := Int × Int
structure GraphD where
  ids : List Int
  ports : List (List Lk)
def GraphD.n (g : GraphD) : Nat := g.ports.length

def linkB (n v : Nat) (l : Lk) : Bool := decide (0 ≤ l.1) && (decide (l.1 < n) && (!(l.1 == (v : Int)) && (decide (1 ≤ l.2) && decide (l.2 ≤ 15))))
theorem ycw (n v : Nat) (l : Lk) : linkB n v l = true ↔ 0 ≤ l.1 ∧ l.1 < n ∧ l.1 ≠ v ∧ 1 ≤ l.2 ∧ l.2 ≤ 15 := by
  unfold linkB
  simp
def yfk (n v : Nat) (ls : List Lk) : Bool := ls.all (linkB n v) && decide ((ls.map (·.1)).Nodup)
def idB (x : Int) : Bool := decide (0 ≤ x) && decide (x ≤ 255)
def idsB (l : List Int) : Bool := l.all idB && decide l.Nodup
def yec (ls : List Lk) (u : Int) : Int := match ls.find? (fun l => l.1 == u) with | some l => l.2 | none => 0
def portsB (ports : List (List Lk)) : Bool := (List.range ports.length).all fun v => yfk ports.length v (ports.getD v [])
def symB (ports : List (List Lk)) : Bool := (List.range ports.length).all fun v => (ports.getD v []).all fun l => yec (ports.getD l.1.toNat []) v == l.2
def yeq (g : GraphD) : Bool := decide (1 ≤ g.ports.length) && (decide (g.ports.length ≤ 24) && (decide (g.ids.length = g.ports.length) && (idsB g.ids && (portsB g.ports && symB g.ports))))

theorem pigeon (n : Nat) : ∀ l : List Nat, l.Nodup → (∀ x ∈ l, x < n) → l.length ≤ n := by
  induction n with
  | zero =>
    intro l _ h
    cases l with
    | nil => simp
    | cons a l => exact absurd (h a (by simp)) (by omega)
  | succ n ih =>
    intro l hn h
    by_cases hm : n ∈ l
    · have h1 := ih (l.erase n) (hn.erase n) (fun x hx => by
        have h2 := h x (List.mem_of_mem_erase hx)
        have h3 : x ≠ n := fun e => by rw [e] at hx; exact (List.Nodup.not_mem_erase hn) hx
        omega)
      rw [List.length_erase_of_mem hm] at h1
      omega
    · have := ih l hn (fun x hx => by have h2 := h x hx; have h3 : x ≠ n := fun e => hm (e ▸ hx); omega)
      omega
theorem nodup_map_inj {α β : Type} (f : α → β) : ∀ l : List α, l.Nodup → (∀ x ∈ l, ∀ y ∈ l, f x = f y → x = y) → (l.map f).Nodup := by
  intro l
  induction l with
  | nil => intro _ _; simp
  | cons a l ih =>
    intro hn hf
    rw [List.map_cons, List.nodup_cons] at *
    refine ⟨fun h => ?_, ih hn.2 fun x hx y hy h => hf x (by simp [hx]) y (by simp [hy]) h⟩
    rw [List.mem_map] at h
    obtain ⟨b, hb, he⟩ := h
    exact hn.1 (hf b (by simp [hb]) a (by simp) he ▸ hb)
theorem links_short {n v : Nat} {ls : List Lk} (hv : v < n) (h : yfk n v ls = true) : ls.length < n := by
  unfold yfk at h
  rw [Bool.and_eq_true, decide_eq_true_eq, List.all_eq_true] at h
  obtain ⟨h1, h2⟩ := h
  have hb : ∀ x : Int, x ∈ ls.map (·.1) → 0 ≤ x ∧ x < n ∧ x ≠ v := by
    intro x hx
    rw [List.mem_map] at hx
    obtain ⟨l, hl, rfl⟩ := hx
    have := (ycw n v l).1 (h1 l hl)
    exact ⟨this.1, this.2.1, this.2.2.1⟩
  have h3 : ((ls.map (·.1)).map Int.toNat).Nodup := nodup_map_inj Int.toNat _ h2 fun x hx y hy he => by
    have hx' := hb x hx
    have hy' := hb y hy
    omega
  have h4 := pigeon n (v :: (ls.map (·.1)).map Int.toNat) (by
    rw [List.nodup_cons]
    refine ⟨fun hm => ?_, h3⟩
    rw [List.mem_map] at hm
    obtain ⟨x, hx, he⟩ := hm
    have := hb x hx
    omega) (fun x hx => by
      rcases List.mem_cons.1 hx with rfl | hx
      · exact hv
      · rw [List.mem_map] at hx
        obtain ⟨y, hy, rfl⟩ := hx
        have := hb y hy
        omega)
  simp at h4
  omega
theorem ycy {g : GraphD} (h : yeq g = true) : 1 ≤ g.ports.length ∧ g.ports.length ≤ 24 ∧ g.ids.length = g.ports.length ∧ (∀ x ∈ g.ids, 0 ≤ x ∧ x ≤ 255) ∧ g.ids.Nodup ∧
    (∀ (v : Nat) (ls : List Lk), g.ports[v]? = some ls → yfk g.ports.length v ls = true) ∧ (∀ (v : Nat) (ls : List Lk), g.ports[v]? = some ls → ∀ l ∈ ls, yec (g.ports.getD l.1.toNat []) v = l.2) := by
  unfold yeq at h
  simp only [Bool.and_eq_true, decide_eq_true_eq] at h
  obtain ⟨h1, h2, h3, h4, h5, h6⟩ := h
  unfold idsB at h4
  simp only [Bool.and_eq_true, decide_eq_true_eq, List.all_eq_true, idB] at h4
  refine ⟨h1, h2, h3, h4.1, h4.2, fun v ls hv => ?_, fun v ls hv l hl => ?_⟩
  · have hlt := (List.getElem?_eq_some_iff.1 hv).1
    have := List.all_eq_true.1 h5 v (List.mem_range.2 hlt)
    rw [List.getD_eq_getElem?_getD, hv] at this
    exact this
  · have hlt := (List.getElem?_eq_some_iff.1 hv).1
    have := List.all_eq_true.1 h6 v (List.mem_range.2 hlt)
    rw [List.getD_eq_getElem?_getD, hv] at this
    have := List.all_eq_true.1 this l hl
    simpa using this
end Go.Proofs.YtmlkdoimkdbdpaaGreatDoor

set_option linter.unusedVariables false
namespace Go.Proofs.YtmlkdoimkdbdpaaGreatDoor

theorem idsB_bad {l : List Int} {k : Nat} {x : Int} (hx : l[k]? = some x) (h : idB x = false) : idsB l = false := by
  unfold idsB
  rw [List.all_eq_false.2 ⟨x, List.mem_of_getElem? hx, by simp [h]⟩]; rfl
theorem idsB_twice {l : List Int} {k : Nat} {x : Int} (hx : l[k]? = some x) (h : x ∈ l.take k) : idsB l = false := by
  unfold idsB
  have : ¬ l.Nodup := by
    intro hn
    obtain ⟨j, hj⟩ := List.getElem?_of_mem h
    rw [List.getElem?_take] at hj
    split at hj
    · rename_i hjk
      have h1 := List.getElem?_eq_some_iff.1 hj
      have h2 := List.getElem?_eq_some_iff.1 hx
      have := (List.pairwise_iff_getElem.1 hn) j k h1.1 h2.1 hjk
      rw [h1.2, h2.2] at this
      exact this rfl
    · cases hj
  simp [this]
theorem idsB_iff (l : List Int) : idsB l = true ↔ (∀ x ∈ l, idB x = true) ∧ l.Nodup := by
  unfold idsB; rw [Bool.and_eq_true, decide_eq_true_eq, List.all_eq_true]
theorem yeo {α : Type} {l : List α} {k : Nat} {x : α} (hx : l[k]? = some x) : l.take (k + 1) = l.take k ++ [x] := by
  rw [List.take_add_one, hx]; rfl
theorem idsB_step {l : List Int} {k : Nat} {x : Int} (hx : l[k]? = some x) (h : idsB (l.take k) = true) (h1 : idB x = true) (h2 : x ∉ l.take k) : idsB (l.take (k + 1)) = true := by
  rw [idsB_iff] at *
  rw [yeo hx]
  refine ⟨fun y hy => ?_, ?_⟩
  · rcases List.mem_append.1 hy with hy | hy
    · exact h.1 y hy
    · simp at hy; subst hy; exact h1
  · rw [List.nodup_append]
    exact ⟨h.2, by simp, fun a ha b hb => by simp at hb; subst hb; exact fun e => h2 (e ▸ ha)⟩
def bits (l : List Int) : List Bool := (List.range 256).map fun i : Nat => decide ((i : Int) ∈ l)
theorem bits_nil : bits [] = List.replicate 256 false := by
  unfold bits
  rw [show (fun i : Nat => decide ((i : Int) ∈ ([] : List Int))) = fun _ => false from by funext i; simp, List.map_const', List.length_range]
theorem bits_len (l : List Int) : (bits l).length = 256 := by simp [bits]
theorem bits_get (l : List Int) (x : Int) (h0 : 0 ≤ x) (h1 : x ≤ 255) : (bits l)[x.toNat]? = some (decide (x ∈ l)) := by
  unfold bits
  rw [List.getElem?_map, List.getElem?_range (by omega)]
  have : ((x.toNat : Nat) : Int) = x := by omega
  simp [this]
theorem bits_set (l : List Int) (x : Int) (h0 : 0 ≤ x) (h1 : x ≤ 255) : (bits l).set x.toNat true = bits (l ++ [x]) := by
  apply List.ext_getElem
  · simp [bits]
  · intro i h2 h3
    have hx : ((x.toNat : Nat) : Int) = x := by omega
    rw [List.getElem_set]
    unfold bits
    simp only [List.getElem_map, List.getElem_range, List.mem_append, List.mem_singleton]
    by_cases hi : x.toNat = i
    · subst hi
      simp [hx]
    · have : ¬ ((i : Nat) : Int) = x := by omega
      simp [hi, this]
end Go.Proofs.YtmlkdoimkdbdpaaGreatDoor
namespace Go.Proofs.YtmlkdoimkdbdpaaGreatDoor
theorem yez (n v : Nat) (l : List Lk) : yfk n v l = true ↔ (∀ x ∈ l, linkB n v x = true) ∧ (l.map (·.1)).Nodup := by
  unfold yfk; rw [Bool.and_eq_true, decide_eq_true_eq, List.all_eq_true]
theorem yey {n v : Nat} {l : List Lk} {k : Nat} {x : Lk} (hx : l[k]? = some x) (h : linkB n v x = false) : yfk n v l = false := by
  rw [← Bool.not_eq_true, yez]
  intro h1
  rw [h1.1 x (List.mem_of_getElem? hx)] at h; cases h
theorem linksB_twice {n v : Nat} {l : List Lk} {j k : Nat} {x y : Lk} (hjk : j < k) (hy : l[j]? = some y) (hx : l[k]? = some x) (h : y.1 = x.1) : yfk n v l = false := by
  rw [← Bool.not_eq_true, yez]
  intro h1
  have g1 := List.getElem?_eq_some_iff.1 hy
  have g2 := List.getElem?_eq_some_iff.1 hx
  have := (List.pairwise_iff_getElem.1 h1.2) j k (by simpa using g1.1) (by simpa using g2.1) hjk
  simp [g1.2, g2.2, h] at this
theorem linksB_step {n v : Nat} {l : List Lk} {k : Nat} {x : Lk} (hx : l[k]? = some x) (h : yfk n v (l.take k) = true) (h1 : linkB n v x = true) (h2 : ∀ (j : Nat) (y : Lk), j < k → l[j]? = some y → y.1 ≠ x.1) : yfk n v (l.take (k + 1)) = true := by
  rw [yez] at *
  rw [yeo hx]
  refine ⟨fun y hy => ?_, ?_⟩
  · rcases List.mem_append.1 hy with hy | hy
    · exact h.1 y hy
    · simp at hy; subst hy; exact h1
  · rw [List.map_append, List.nodup_append]
    refine ⟨h.2, by simp, fun a ha b hb => ?_⟩
    simp at hb; subst hb
    obtain ⟨y, hy, rfl⟩ := List.mem_map.1 ha
    obtain ⟨j, hj⟩ := List.getElem?_of_mem hy
    rw [List.getElem?_take] at hj
    split at hj
    · rename_i hjk; exact h2 j y hjk hj
    · cases hj
def portTo (l : List Lk) (u : Int) : Int := match l.findIdx? (fun x => x.1 == u) with | some i => i | none => -1
theorem portTo_none {l : List Lk} {u : Int} (h : ∀ (j : Nat) (y : Lk), l[j]? = some y → y.1 ≠ u) : portTo l u = -1 := by
  unfold portTo
  have : l.findIdx? (fun x => x.1 == u) = none := by
    rw [List.findIdx?_eq_none_iff]
    intro x hx
    obtain ⟨j, hj⟩ := List.getElem?_of_mem hx
    simpa using h j x hj
  rw [this]
theorem portTo_some {l : List Lk} {u : Int} {k : Nat} {x : Lk} (hx : l[k]? = some x) (hu : x.1 = u) (h : ∀ (j : Nat) (y : Lk), j < k → l[j]? = some y → y.1 ≠ u) : portTo l u = k := by
  unfold portTo
  have : l.findIdx? (fun x => x.1 == u) = some k := by
    rw [List.findIdx?_eq_some_iff_getElem]
    have g := List.getElem?_eq_some_iff.1 hx
    refine ⟨g.1, by simp [g.2, hu], fun j hj => ?_⟩
    have hjl : j < l.length := by have := g.1; omega
    have := h j l[j] hj (List.getElem?_eq_getElem hjl)
    simpa using this
  rw [this]
theorem portTo_cases (l : List Lk) (u : Int) : (portTo l u = -1 ∧ ∀ x ∈ l, x.1 ≠ u) ∨ ∃ (k : Nat) (x : Lk), portTo l u = k ∧ l[k]? = some x ∧ x.1 = u ∧ l.find? (fun x => x.1 == u) = some x := by
  unfold portTo
  cases hf : l.findIdx? (fun x => x.1 == u) with
  | none =>
    rw [List.findIdx?_eq_none_iff] at hf
    exact .inl ⟨rfl, fun x hx => by simpa using hf x hx⟩
  | some k =>
    obtain ⟨h1, h2, h3⟩ := List.findIdx?_eq_some_iff_getElem.1 hf
    refine .inr ⟨k, l[k], rfl, List.getElem?_eq_getElem h1, by simpa using h2, ?_⟩
    rw [List.find?_eq_some_iff_getElem]
    exact ⟨h2, k, h1, rfl, fun j hj => by simpa using h3 j hj⟩
theorem weight_none {l : List Lk} {u : Int} (h : ∀ x ∈ l, x.1 ≠ u) : yec l u = 0 := by
  unfold yec
  have : l.find? (fun x => x.1 == u) = none := by
    rw [List.find?_eq_none]; intro x hx; simpa using h x hx
  rw [this]
theorem weight_some {l : List Lk} {u : Int} {x : Lk} (h : l.find? (fun x => x.1 == u) = some x) : yec l u = x.2 := by unfold yec; rw [h]
theorem validG_iff (g : GraphD) : yeq g = true ↔ 1 ≤ g.ports.length ∧ g.ports.length ≤ 24 ∧ g.ids.length = g.ports.length ∧ idsB g.ids = true ∧ portsB g.ports = true ∧ symB g.ports = true := by
  unfold yeq; simp only [Bool.and_eq_true, decide_eq_true_eq]
theorem portsB_iff (ports : List (List Lk)) : portsB ports = true ↔ ∀ (v : Nat) (ls : List Lk), ports[v]? = some ls → yfk ports.length v ls = true := by
  unfold portsB
  rw [List.all_eq_true]
  constructor
  · intro h v ls hv
    have := h v (List.mem_range.2 (List.getElem?_eq_some_iff.1 hv).1)
    rwa [List.getD_eq_getElem?_getD, hv] at this
  · intro h v hv
    obtain ⟨ls, hls⟩ : ∃ ls, ports[v]? = some ls := ⟨_, List.getElem?_eq_getElem (List.mem_range.1 hv)⟩
    rw [List.getD_eq_getElem?_getD, hls]
    exact h v ls hls
theorem symB_iff (ports : List (List Lk)) : symB ports = true ↔ ∀ (v : Nat) (ls : List Lk), ports[v]? = some ls → ∀ l ∈ ls, yec (ports.getD l.1.toNat []) v = l.2 := by
  unfold symB
  rw [List.all_eq_true]
  constructor
  · intro h v ls hv l hl
    have := h v (List.mem_range.2 (List.getElem?_eq_some_iff.1 hv).1)
    rw [List.getD_eq_getElem?_getD, hv] at this
    simpa using List.all_eq_true.1 this l hl
  · intro h v hv
    obtain ⟨ls, hls⟩ : ∃ ls, ports[v]? = some ls := ⟨_, List.getElem?_eq_getElem (List.mem_range.1 hv)⟩
    rw [List.getD_eq_getElem?_getD, hls]
    rw [Option.getD_some, List.all_eq_true]
    intro l hl
    simpa using h v ls hls l hl
end Go.Proofs.YtmlkdoimkdbdpaaGreatDoor
set_option linter.unusedVariables false
namespace Go.Proofs.YtmlkdoimkdbdpaaGreatDoor
open Go.RowKit
def ybk (l : List Int) : AV := .sl 1 (l.map fun z => [i64 z])
def encLink (l : Lk) : List AV := [i64 l.1, i64 l.2]
def encLinks (l : List Lk) : AV := .sl 2 (l.map encLink)
def ybz (l : List (List Lk)) : AV := .sl 1 (l.map fun x => [encLinks x])
def encG (g : GraphD) : AV := .agg [ybk g.ids, ybz g.ports]
def encC (c : List (List Int)) : AV := .sl 1 (c.map fun x => [ybk x])
def okW (w : World) (g : Nat) : Prop := g < w.heap.size
theorem relAll1 {ok : Nat → Prop} {w : World} {lv : Live} {a : AV} {cs : List Value} (h : ybt ok w lv [a] cs) : ∃ u, cs = [u] ∧ Rel ok w lv a u := by
  match cs, h with
  | [u], h => exact ⟨u, rfl, h.2 0 _ _ rfl rfl⟩
theorem relAll2 {ok : Nat → Prop} {w : World} {lv : Live} {a b : AV} {cs : List Value} (h : ybt ok w lv [a, b] cs) : ∃ u v, cs = [u, v] ∧ Rel ok w lv a u ∧ Rel ok w lv b v := by
  match cs, h with
  | [u, v], h => exact ⟨u, v, rfl, h.2 0 _ _ rfl rfl, h.2 1 _ _ rfl rfl⟩
theorem relAll3 {ok : Nat → Prop} {w : World} {lv : Live} {a b c : AV} {cs : List Value} (h : ybt ok w lv [a, b, c] cs) : ∃ u v x, cs = [u, v, x] ∧ Rel ok w lv a u ∧ Rel ok w lv b v ∧ Rel ok w lv c x := by
  match cs, h with
  | [u, v, x], h => exact ⟨u, v, x, rfl, h.2 0 _ _ rfl rfl, h.2 1 _ _ rfl rfl, h.2 2 _ _ rfl rfl⟩
theorem con_of_calls {P : Program} {f : FuncId} {args : List AV} {x : Value} (hb : HasBody P f) (h : ∀ (w : World) (us : List Value) (ok : Nat → Prop), (∀ g, ok g → g < w.heap.size) → ybt ok w (fun _ => none) args us → Calls P f us.toArray w fun e w' => e = .returned x ∧ Below w.heap.size w w') : Con P f args (.v x) :=
  ⟨hb, rfl, fun ok0 w us _ hok hr => (h w us ok0 hok hr).mono fun e w' ⟨h1, h2⟩ => ⟨x, h1, .v x, h2⟩⟩
end Go.Proofs.YtmlkdoimkdbdpaaGreatDoor
set_option linter.unusedVariables false
set_option maxRecDepth 100000
set_option maxHeartbeats 8000000
namespace Go.Proofs.YtmlkdoimkdbdpaaGreatDoor
open Go.RowKit
def encRg (p : Int × Int) : List AV := [i64 p.1, i64 p.2]
def yfj (tbl : List (List (Int × Int))) : AV := .sl 1 (tbl.map fun r => [.sl 2 (r.map encRg)])
def nilA : AV := .v (.slice none 0 0)
theorem rep1 (x : AV) (n : Nat) : repA n [x] = List.replicate n x := by
  induction n with
  | zero => rfl
  | succ n ih => simp [repA, ih, List.replicate_succ]
def builtR (tbl : List (List (Int × Int))) (val : Nat → Nat → Int) : List (List AV) := tbl.mapIdx fun i r => (List.range r.length).map fun j => i64 (val i j)
theorem builtR_get {tbl : List (List (Int × Int))} {val : Nat → Nat → Int} {i : Nat} {r : List (Int × Int)} (h : tbl[i]? = some r) : (builtR tbl val)[i]? = some ((List.range r.length).map fun j => i64 (val i j)) := by
  simp [builtR, List.getElem?_mapIdx, h]
theorem ych {α : Type} {l : List α} {i : Nat} {x : α} (h : l[i]? = some x) : l.take (i + 1) = l.take i ++ [x] := by
  rw [List.take_add_one, h]; rfl
theorem set_fill {α : Type} {l : List α} {m j : Nat} {x z : α} (hl : l.length = m) (h : l[j]? = some x) : (l.take j ++ List.replicate (m - j) z).set j x = l.take (j + 1) ++ List.replicate (m - (j + 1)) z := by
  have hj := (List.getElem?_eq_some_iff.1 h).1
  have e : (l.take j).length = j := by rw [List.length_take]; omega
  rw [List.set_append_right _ _ (Nat.le_of_eq e), e, Nat.sub_self, show m - j = (m - (j + 1)) + 1 by omega, List.replicate_succ, ych h]
  simp
theorem set_last {α : Type} {l : List α} {k : Nat} {x y : α} (h : l.length = k) : (l ++ [x]).set k y = l ++ [y] := by
  rw [List.set_append_right _ _ (Nat.le_of_eq h), h, Nat.sub_self]; rfl

theorem build_con (tbl : List (List (Int × Int))) (F : Nat) (caps : List AV) (val : Nat → Nat → Int) (hcaps : ybl.pureL caps = true) (hlow : lowA.lowL caps = true) (hn : tbl.length ≤ 1000) (hm : ∀ r ∈ tbl, r.length ≤ 1000) (hF : ∀ (i j : Nat) (r : List (Int × Int)), tbl[i]? = some r → j < r.length → Con Tryz.prog F ([i64 i, i64 j] ++ caps) (i64 (val i j))) :
    ConM Tryz.prog 36 [yfj tbl, .fn F caps] (fun _ => none) (.ls 10 1 tbl.length) (yap (yei 10 1 (builtR tbl val) [])) := by
  refine conO_of tok Tryz.func36 rfl rfl Tryz.ntmps36 Tryz.results36 rfl rfl ?_
  (repeat (first | refine zI ?_ | refine zL ?_ | refine zC ?_ | refine yai ?_ | refine yaj ?_ | refine zR ?_ | refine zD ?_ | refine zK ?_ | refine zB ?_ | refine zA ?_ | refine zS ?_ | refine zU ?_ | refine zV ?_ | refine zF ?_ | with_reducible refine yac ?_ | with_reducible refine yag ?_ | refine yad ?_ | refine yae ?_ | refine yaf ?_ | refine zT ?_ | refine zE ?_ | refine zX ?_ | refine L_make tok rfl rfl rfl rfl (by constructor <;> omega) (by simp [freshT, ment, enumF, yfj, ybl.pureL.ment hcaps]) rfl rfl rfl rfl ?_))
  refine A_asMat 10 (List.replicate tbl.length nilA) rfl (rep1 _ _) ?_
  refine A_invS (α := Nat) (fun k => [(13, i64 k), (12, i64 tbl.length), (5, .ls 10 1 tbl.length), (0, yfj tbl), (1, .fn F caps)]) (fun k => yei 10 1 ((builtR tbl val).take k) (List.replicate (tbl.length - k) nilA)) (fun k => tbl.length - k) (fun k => k ≤ tbl.length) 0 (by omega) (by (repeat (first | exact yan | refine yak rfl ?_))) (hsE (by simp only [yei, matC, famL, List.take_zero, List.nil_append, Nat.sub_zero]; exact hlook_dup)) ?_
  intro k hk
  (repeat (first | refine zI ?_ | refine zL ?_ | refine zC ?_ | refine yai ?_ | refine yaj ?_ | refine zR ?_ | refine zD ?_ | refine zK ?_ | refine zB ?_ | refine zA ?_ | refine zS ?_ | refine zU ?_ | refine zV ?_ | refine zF ?_ | with_reducible refine yac ?_ | with_reducible refine yag ?_ | refine yad ?_ | refine yae ?_ | refine yaf ?_ | refine zT ?_ | refine zE ?_ | refine zX ?_))
  refine yaq rfl (fun h => ?_) (fun h => ?_)
  · simp at h
    obtain ⟨r, hr⟩ := yeh (show k < tbl.length by omega)
    (repeat (first | refine zI ?_ | refine zL ?_ | refine zC ?_ | refine yai ?_ | refine yaj ?_ | refine zR ?_ | refine zD ?_ | refine zK ?_ | refine zB ?_ | refine zA ?_ | refine zS ?_ | refine zU ?_ | refine zV ?_ | refine zF ?_ | with_reducible refine yac ?_ | with_reducible refine yag ?_ | refine yad ?_ | refine yae ?_ | refine yaf ?_ | refine zT ?_ | refine zE ?_ | refine zX ?_))
    have hrm := hm r (List.mem_of_getElem? hr)
    have hrow := builtR_get (val := val) hr
    have hlen : (builtR tbl val).length = tbl.length := by simp [builtR]
    have htk : ((builtR tbl val).take k).length = k := by rw [List.length_take, hlen]; omega
    refine L_makeI tok (fam 10 k) rfl rfl rfl rfl (by constructor <;> omega) (fresh_fam (f := []) (by simp [lowT, lowA, yfj, i64, hlow]; rfl) rfl rfl htk.symm (low_rep nilA rfl _)) rfl rfl rfl ?_
    refine ybb tok rfl rfl (by rw [ybp (yee (by omega))]; exact ybf (f := []) rfl) rfl (by omega) (by omega) rfl rfl ?_
    refine L_storeM tok rfl rfl rfl rfl rfl (by rw [ybp (yee (by omega))]; exact ybf (f := []) rfl) (by rw [List.length_append, matC_len, htk, List.length_replicate]; simp; omega) rfl rfl ?_
    refine L_hs (h' := yei 10 1 ((builtR tbl val).take k ++ [List.replicate r.length (i64 0)]) (List.replicate (tbl.length - k - 1) nilA)) ?_ ?_
    · have hrep : repA r.length (vMap [Value.int .i64 0]) = List.replicate r.length (i64 0) := rep1 _ _
      have hex : List.replicate (tbl.length - k) nilA = nilA :: List.replicate (tbl.length - k - 1) nilA := by rw [← List.replicate_succ]; congr 1; omega
      rw [show ((k : Int).toNat * 1) = k by simp]
      exact mat_new (f := []) (a := nilA) rfl rfl rfl htk.symm (by rw [hrep]; simp) hex (by rw [hrep])
    (repeat (first | refine zI ?_ | refine zL ?_ | refine zC ?_ | refine yai ?_ | refine yaj ?_ | refine zR ?_ | refine zD ?_ | refine zK ?_ | refine zB ?_ | refine zA ?_ | refine zS ?_ | refine zU ?_ | refine zV ?_ | refine zF ?_ | with_reducible refine yac ?_ | with_reducible refine yag ?_ | refine yad ?_ | refine yae ?_ | refine yaf ?_ | refine zT ?_ | refine zE ?_ | refine zX ?_))
    refine A_invS (α := Nat) (fun j => [(30, i64 j), (29, i64 r.length), (6, i64 k), (13, i64 k), (12, i64 tbl.length), (5, .ls 10 1 tbl.length), (0, yfj tbl), (1, .fn F caps)]) (fun j => yei 10 1 ((builtR tbl val).take k ++ [((List.range r.length).map fun j => i64 (val k j)).take j ++ List.replicate (r.length - j) (i64 0)]) (List.replicate (tbl.length - k - 1) nilA)) (fun j => r.length - j) (fun j => j ≤ r.length) 0 (by omega) (by (repeat (first | exact yan | refine yak rfl ?_))) (hsE (by simp)) ?_
    intro j hj
    (repeat (first | refine zI ?_ | refine zL ?_ | refine zC ?_ | refine yai ?_ | refine yaj ?_ | refine zR ?_ | refine zD ?_ | refine zK ?_ | refine zB ?_ | refine zA ?_ | refine zS ?_ | refine zU ?_ | refine zV ?_ | refine zF ?_ | with_reducible refine yac ?_ | with_reducible refine yag ?_ | refine yad ?_ | refine yae ?_ | refine yaf ?_ | refine zT ?_ | refine zE ?_ | refine zX ?_))
    refine yaq rfl (fun h2 => ?_) (fun h2 => ?_)
    · simp at h2
      have hpart : ((builtR tbl val).take k ++ [((List.range r.length).map fun j => i64 (val k j)).take j ++ List.replicate (r.length - j) (i64 0)])[k]? = some (((List.range r.length).map fun j => i64 (val k j)).take j ++ List.replicate (r.length - j) (i64 0)) := by
        rw [List.getElem?_append_right (by omega), htk, Nat.sub_self]; rfl
      have hpl : (((List.range r.length).map fun j => i64 (val k j)).take j ++ List.replicate (r.length - j) (i64 0)).length = r.length := by simp; omega
      (repeat (first | refine zI ?_ | refine zL ?_ | refine zC ?_ | refine yai ?_ | refine yaj ?_ | refine zR ?_ | refine zD ?_ | refine zK ?_ | refine zB ?_ | refine zA ?_ | refine zS ?_ | refine zU ?_ | refine zV ?_ | refine zF ?_ | with_reducible refine yac ?_ | with_reducible refine yag ?_ | refine yad ?_ | refine yae ?_ | refine yaf ?_ | refine zT ?_ | refine zE ?_ | refine zX ?_))
      refine ybb tok rfl rfl (ybf (f := []) rfl) rfl (by omega) (by omega) rfl rfl ?_
      refine ycg (r := .ls (fam 10 k) 1 r.length) tok rfl rfl rfl (by rw [matH_at_M]; exact cellsO_matO _) ?_ rfl rfl ?_
      · rw [show ((k : Int).toNat * 1) = k by simp, List.getElem?_append_left (by rw [matC_len]; simp; omega), matC_get, hpart]
        simp only [Option.map_some, hpl, Nat.div_one, Nat.zero_add]
      (repeat (first | refine zI ?_ | refine zL ?_ | refine zC ?_ | refine yai ?_ | refine yaj ?_ | refine zR ?_ | refine zD ?_ | refine zK ?_ | refine zB ?_ | refine zA ?_ | refine zS ?_ | refine zU ?_ | refine zV ?_ | refine zF ?_ | with_reducible refine yac ?_ | with_reducible refine yag ?_ | refine yad ?_ | refine yae ?_ | refine yaf ?_ | refine zT ?_ | refine zE ?_ | refine zX ?_))
      refine yar rfl rfl (hF k j r hr (by omega)) rfl rfl ?_
      refine ybb tok rfl rfl (yaw (f := []) rfl (by omega) hpart) rfl (by omega) (by omega) rfl rfl ?_
      refine L_storeI (h' := yei 10 1 ((builtR tbl val).take k ++ [((List.range r.length).map fun j => i64 (val k j)).take (j + 1) ++ List.replicate (r.length - (j + 1)) (i64 0)]) (List.replicate (tbl.length - k - 1) nilA)) tok rfl rfl rfl rfl rfl (yaw (f := []) rfl (by omega) hpart) (by rw [hpl]; simp; omega) rfl ?_ rfl rfl ?_
      · rw [show ((j : Int).toNat * 1) = j by simp, set_fill (by simp) (show ((List.range r.length).map fun j => i64 (val k j))[j]? = some (i64 (val k j)) by rw [List.getElem?_map, List.getElem?_range (by omega)]; rfl)]
        refine (mat_upd (f := []) rfl (by omega) hpart (by simp; omega)).trans ?_
        rw [set_last htk]
        rfl
      (repeat (first | refine zI ?_ | refine zL ?_ | refine zC ?_ | refine yai ?_ | refine yaj ?_ | refine zR ?_ | refine zD ?_ | refine zK ?_ | refine zB ?_ | refine zA ?_ | refine zS ?_ | refine zU ?_ | refine zV ?_ | refine zF ?_ | with_reducible refine yac ?_ | with_reducible refine yag ?_ | refine yad ?_ | refine yae ?_ | refine yaf ?_ | refine zT ?_ | refine zE ?_ | refine zX ?_))
      refine rndS (j + 1) (by omega) (by omega) (by (repeat (first | exact yan | refine yak rfl ?_))) (fun id o h => h)
    · simp at h2
      obtain rfl : j = r.length := by omega
      (repeat (first | refine zI ?_ | refine zL ?_ | refine zC ?_ | refine yai ?_ | refine yaj ?_ | refine zR ?_ | refine zD ?_ | refine zK ?_ | refine zB ?_ | refine zA ?_ | refine zS ?_ | refine zU ?_ | refine zV ?_ | refine zF ?_ | with_reducible refine yac ?_ | with_reducible refine yag ?_ | refine yad ?_ | refine yae ?_ | refine yaf ?_ | refine zT ?_ | refine zE ?_ | refine zX ?_))
      refine rndS (k + 1) (by omega) (by omega) (by (repeat (first | exact yan | refine yak rfl ?_))) (hsE ?_)
      rw [ych hrow]
      simp [List.take_of_length_le, Nat.sub_sub]
  · simp at h
    obtain rfl : k = tbl.length := by omega
    (repeat (first | refine zI ?_ | refine zL ?_ | refine zC ?_ | refine yai ?_ | refine yaj ?_ | refine zR ?_ | refine zD ?_ | refine zK ?_ | refine zB ?_ | refine zA ?_ | refine zS ?_ | refine zU ?_ | refine zV ?_ | refine zF ?_ | with_reducible refine yac ?_ | with_reducible refine yag ?_ | refine yad ?_ | refine yae ?_ | refine yaf ?_ | refine zT ?_ | refine zE ?_ | refine zX ?_))
    refine yas ⟨_, rfl, wk_refl _, fun id o ho => ?_⟩
    have : (builtR tbl val).take tbl.length = builtR tbl val := List.take_of_length_le (by simp [builtR])
    rw [← this] at ho
    simpa [S] using ho

def matR (c : List (List Int)) : List (List AV) := c.map fun r => r.map i64
theorem ints_flatM (r : List Int) : (r.map fun x => [i64 x]).flatten = r.map i64 := by
  induction r with
  | nil => rfl
  | cons x r ih => simp [ih]
end Go.Proofs.YtmlkdoimkdbdpaaGreatDoor
