/- Part 30 of the texts under MemoryRanks,MemoryChanges,MemoryCarries,MemoryCorruptsNamedNodes,MemoryCarriesToItself: joined, with what it needs alone. -/
import Derived.Test.YtenajilnjeafpaaGreatL18
import Derived.Test.YtenajilnjeafpaaGreatL20
import Derived.Test.YtenajilnjeafpaaGreatL24
import Derived.Test.YtenajilnjeafpaaGreatL26
set_option linter.unusedVariables false
set_option maxRecDepth 100000
set_option maxHeartbeats 8000000
namespace Go.Proofs.YtenajilnjeafpaaGreat
open Go.RowKit
def get2 (d : List (List Int)) (v x : Nat) : Option Int := (d[v]?).bind fun s => s[x]?
theorem get2_some {d : List (List Int)} {v x : Nat} {z : Int} : get2 d v x = some z ↔ ∃ s, d[v]? = some s ∧ s[x]? = some z := by
  unfold get2
  cases d[v]? with
  | none => simp
  | some s => simp
theorem get2_same {d : List (List Int)} {v x : Nat} {y z : Int} (h : get2 d v x = some y) : get2 (setAt d v x z) v x = some z := by
  obtain ⟨s, h1, h2⟩ := get2_some.1 h
  refine get2_some.2 ⟨s.set x z, ?_, ?_⟩
  · unfold setAt
    rw [List.getElem?_set_self (List.getElem?_eq_some_iff.1 h1).1, List.getD_eq_getElem?_getD, h1]; rfl
  · rw [List.getElem?_set_self (List.getElem?_eq_some_iff.1 h2).1]
theorem get2_other {d : List (List Int)} {v x v' x' : Nat} {z : Int} (h : v' ≠ v ∨ x' ≠ x) : get2 (setAt d v x z) v' x' = get2 d v' x' := by
  unfold get2 setAt
  by_cases e : v = v'
  · subst e
    have hx : x' ≠ x := by rcases h with h | h; exact absurd rfl h; exact h
    by_cases hv : v < d.length
    · rw [List.getElem?_set_self hv, List.getD_eq_getElem?_getD]
      obtain ⟨s, hs⟩ := getN hv
      rw [hs]
      simp only [Option.getD_some, Option.bind_some]
      rw [List.getElem?_set_ne (Ne.symm hx)]
    · rw [List.getElem?_eq_none (by simp; omega), List.getElem?_eq_none (by omega)]
  · rw [List.getElem?_set_ne e]
theorem node_other {d : List (List Int)} {v x v' : Nat} {z : Int} (h : v' ≠ v) : (setAt d v x z)[v']? = d[v']? := by
  unfold setAt; rw [List.getElem?_set_ne (Ne.symm h)]
theorem cfgIn_iff {tbl : List (List (Int × Int))} {d : List (List Int)} : cfgInB tbl d = true ↔ Shape tbl d ∧ ∀ (v x : Nat) (r : List (Int × Int)) (b : Int × Int), tbl[v]? = some r → r[x]? = some b → ∃ z, get2 d v x = some z ∧ b.1 ≤ z ∧ z ≤ b.2 := by
  constructor
  · intro h
    refine ⟨shape_of h, fun v x r b hr hb => ?_⟩
    obtain ⟨s, hs, hst⟩ := (cfg_get h).2 v r hr
    obtain ⟨z, hz, hz1⟩ := (state_get hst).2 x b hb
    exact ⟨z, get2_some.2 ⟨s, hs, hz⟩, hz1⟩
  · rintro ⟨⟨h1, h2⟩, h3⟩
    simp only [cfgInB, Bool.and_eq_true, beq_iff_eq]
    refine ⟨h1, List.all_eq_true.2 fun q hq => ?_⟩
    obtain ⟨v, hv⟩ := List.getElem?_of_mem hq
    rw [List.getElem?_zip_eq_some] at hv
    obtain ⟨s, hs, hsl⟩ := h2 v _ hv.1
    rw [hs] at hv
    obtain ⟨hr, hs'⟩ := hv
    cases hs'
    simp only [stateB, Bool.and_eq_true, beq_iff_eq]
    refine ⟨hsl, List.all_eq_true.2 fun y hy => ?_⟩
    obtain ⟨x, hx⟩ := List.getElem?_of_mem hy
    rw [List.getElem?_zip_eq_some] at hx
    obtain ⟨z, hz, hz1, hz2⟩ := h3 v x _ _ hr hx.1
    obtain ⟨s', hs'', hz'⟩ := get2_some.1 hz
    rw [hs] at hs''
    cases hs''
    rw [hx.2] at hz'
    cases hz'
    simp only [inRg, Bool.and_eq_true, decide_eq_true_eq]
    exact ⟨hz1, hz2⟩
/-- Every fault names a variable of a node. -/
def allOk (n m : Nat) (l : List FaultD) : Bool := l.all (faultOk n m)
def corF (p : ProgD) (tbl : List (List (Int × Int))) (d : List (List Int)) (l : List FaultD) : List (List Int) := l.foldl (fun d f => setAt d f.node.toNat f.var.toNat (broughtT p tbl f.node.toNat f.var.toNat f.value)) d
theorem corL_F {p : ProgD} {tbl : List (List (Int × Int))} : ∀ {l : List FaultD} {d : List (List Int)}, corL p tbl d l = if allOk tbl.length p.vars.length l = true then some (corF p tbl d l) else none
  | [], d => by simp [corL, allOk, corF]
  | f :: l, d => by
    simp only [corL]
    by_cases h : faultOk tbl.length p.vars.length f = true
    · rw [if_pos h, corL_F (l := l)]
      have e : allOk tbl.length p.vars.length (f :: l) = allOk tbl.length p.vars.length l := by simp [allOk, h]
      rw [e]; rfl
    · rw [if_neg h]
      simp [allOk, h]
theorem faultOk_spec {n m : Nat} {f : FaultD} (h : faultOk n m f = true) : 0 ≤ f.node ∧ f.node < n ∧ 0 ≤ f.var ∧ f.var < m := by
  simp only [faultOk, Bool.and_eq_true, decide_eq_true_eq] at h; omega
theorem corF_node {p : ProgD} {tbl : List (List (Int × Int))} {v : Nat} : ∀ {l : List FaultD} {d : List (List Int)}, (∀ f ∈ l, f.node.toNat ≠ v) → (corF p tbl d l)[v]? = d[v]?
  | [], d, _ => rfl
  | f :: l, d, h => by
    simp only [corF, List.foldl_cons]
    refine (corF_node (l := l) fun g hg => h g (by simp [hg])).trans ?_
    exact node_other (Ne.symm (h f (by simp)))
theorem corF_keep {p : ProgD} {tbl : List (List (Int × Int))} {v x : Nat} : ∀ {l : List FaultD} {d : List (List Int)}, (∀ f ∈ l, f.node.toNat ≠ v ∨ f.var.toNat ≠ x) → get2 (corF p tbl d l) v x = get2 d v x
  | [], d, _ => rfl
  | f :: l, d, h => by
    simp only [corF, List.foldl_cons]
    refine (corF_keep (l := l) fun g hg => h g (by simp [hg])).trans ?_
    exact get2_other ((h f (by simp)).imp Ne.symm Ne.symm)
theorem corF_app (p : ProgD) (tbl : List (List (Int × Int))) (d : List (List Int)) (a b : List FaultD) : corF p tbl d (a ++ b) = corF p tbl (corF p tbl d a) b := by simp [corF]
theorem brought_in {p : ProgD} {g : GraphD} (hf : Fair p g) (h0 : fitsF p g = 0) {v x : Nat} {r : List (Int × Int)} {b : Int × Int} (hr : (tableF p g)[v]? = some r) (hb : r[x]? = some b) (z : Int) : b.1 ≤ broughtT p (tableF p g) v x z ∧ broughtT p (tableF p g) v x z ≤ b.2 := by
  have ht := (table_in hf h0).2 r (List.mem_of_getElem? hr)
  have hrg := ht.2 b (List.mem_of_getElem? hb)
  obtain ⟨ls, y, h1, h2, h3⟩ := table_inv hr hb
  have e : broughtT p (tableF p g) v x z = bringF y.kind b.1 b.2 z := by
    simp only [broughtT, List.getD_eq_getElem?_getD, hr, h2, Option.getD_some, hb]
  rw [e]
  exact bring_in hrg.2.1 fun hk => by rw [h3, bounds_three hk]
theorem clamp_brought {p : ProgD} {g : GraphD} (h0 : fitsF p g = 0) {v x z : Int} {r : List (Int × Int)} {b : Int × Int} (hv : 0 ≤ v) (hx : 0 ≤ x) (hr : (tableF p g)[v.toNat]? = some r) (hb : r[x.toNat]? = some b) : clampF p g v x z = broughtT p (tableF p g) v.toNat x.toNat z := by
  obtain ⟨ls, y, h1, h2, rfl⟩ := table_inv hr hb
  have q1 := (List.getElem?_eq_some_iff.1 h1).1
  have q2 := (List.getElem?_eq_some_iff.1 h2).1
  rw [clamp_at h0 ⟨hv, by omega⟩ ⟨hx, by omega⟩ h2 h1]
  simp only [broughtT, List.getD_eq_getElem?_getD, hr, h2, Option.getD_some, hb]
theorem set_in {p : ProgD} {g : GraphD} (hf : Fair p g) (h0 : fitsF p g = 0) {d : List (List Int)} {v x : Nat} {z : Int} (hd : cfgInB (tableF p g) d = true) : cfgInB (tableF p g) (setAt d v x (broughtT p (tableF p g) v x z)) = true := by
  rw [cfgIn_iff] at hd ⊢
  refine ⟨shape_set hd.1 _ _ _, fun v' x' r b hr hb => ?_⟩
  obtain ⟨y, hy, hy1⟩ := hd.2 v' x' r b hr hb
  by_cases e : v' = v ∧ x' = x
  · obtain ⟨rfl, rfl⟩ := e
    exact ⟨_, get2_same hy, brought_in hf h0 hr hb z⟩
  · exact ⟨y, by rw [get2_other (by omega)]; exact hy, hy1⟩
theorem corF_in {p : ProgD} {g : GraphD} (hf : Fair p g) (h0 : fitsF p g = 0) : ∀ {l : List FaultD} {d : List (List Int)}, cfgInB (tableF p g) d = true → cfgInB (tableF p g) (corF p (tableF p g) d l) = true
  | [], d, h => h
  | f :: l, d, h => by
    simp only [corF, List.foldl_cons]
    exact corF_in hf h0 (l := l) (set_in hf h0 h)
/-- The last fault of a variable decides. -/
theorem corF_last {p : ProgD} {tbl : List (List (Int × Int))} {c : List (List Int)} {l : List FaultD} {i : Nat} {f : FaultD} {y : Int} (hi : l[i]? = some f) (hy : get2 c f.node.toNat f.var.toNat = some y) (hs : Shape tbl c)
    (hl : ∀ g ∈ l.drop (i + 1), g.node.toNat ≠ f.node.toNat ∨ g.var.toNat ≠ f.var.toNat) : get2 (corF p tbl c l) f.node.toNat f.var.toNat = some (broughtT p tbl f.node.toNat f.var.toNat f.value) := by
  have hsp : l = l.take i ++ (f :: l.drop (i + 1)) := by rw [← drop_getM hi, List.take_append_drop]
  rw [hsp, corF_app]
  simp only [corF, List.foldl_cons]
  refine (corF_keep hl).trans ?_
  -- the cell is there
  have hex : ∀ (a : List FaultD) (d : List (List Int)) (y : Int), get2 d f.node.toNat f.var.toNat = some y → ∃ y', get2 (corF p tbl d a) f.node.toNat f.var.toNat = some y' := by
    intro a
    induction a with
    | nil => intro d y h; exact ⟨y, h⟩
    | cons g a ih =>
      intro d y h
      simp only [corF, List.foldl_cons]
      by_cases e : f.node.toNat = g.node.toNat ∧ f.var.toNat = g.var.toNat
      · rw [← e.1, ← e.2]
        exact ih _ _ (get2_same h)
      · exact ih _ y (by rw [get2_other (by omega)]; exact h)
  obtain ⟨y', hy'⟩ := hex (l.take i) c y hy
  exact get2_same hy'
/-- The nodes that faults name. -/
def namedU (l : List FaultD) : BitVec 32 := l.foldl (fun B f => B ||| 1#32 <<< f.node.toNat) 0#32
theorem namedU_snoc (l : List FaultD) (f : FaultD) : namedU (l ++ [f]) = namedU l ||| 1#32 <<< f.node.toNat := by simp [namedU]
theorem shl_bit (n i : Nat) (h : i < 32) : (1#32 <<< n).getLsbD i = decide (i = n) := by
  rw [BitVec.getLsbD_shiftLeft]
  by_cases e : i = n
  · subst e; simp [h]
  · simp [e, BitVec.getLsbD_one]; omega
theorem namedU_bit (l : List FaultD) : ∀ (B : BitVec 32) (i : Nat), i < 32 → (l.foldl (fun B f => B ||| 1#32 <<< f.node.toNat) B).getLsbD i = (B.getLsbD i || l.any fun f => decide (i = f.node.toNat)) := by
  induction l with
  | nil => intro B i h; simp
  | cons f l ih =>
    intro B i h
    simp only [List.foldl_cons, List.any_cons]
    rw [ih _ i h, BitVec.getLsbD_or, shl_bit _ _ h, Bool.or_assoc]
theorem differ_named {p : ProgD} {tbl : List (List (Int × Int))} {c : List (List Int)} {l : List FaultD} : differF c (corF p tbl c l) &&& ~~~(namedU l) = 0#32 := by
  apply BitVec.eq_of_getLsbD_eq
  intro i hi
  rw [BitVec.getLsbD_and, BitVec.getLsbD_not]
  unfold differF namedU
  rw [setU_bit _ _ _ hi, namedU_bit l _ _ hi]
  simp only [hi, decide_true, Bool.true_and, BitVec.getLsbD_zero, Bool.false_or]
  by_cases h : l.any (fun f => decide (i = f.node.toNat)) = true
  · simp [h]
  · have hno : ∀ f ∈ l, f.node.toNat ≠ i := by
      intro f hf e
      exact h (List.any_eq_true.2 ⟨f, hf, by simp [e]⟩)
    have : diffAt c (corF p tbl c l) i = false := by
      unfold diffAt
      rw [corF_node hno]
      simp
    simp [this]
end Go.Proofs.YtenajilnjeafpaaGreat
