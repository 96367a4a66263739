/- Part 8 of the texts under ProgramFormats,ProgramReadsBack,ProgramTellsProgramsApart,ProgramGrowsByLines,ProgramIgnoresBlanks: joined, with what it needs alone. -/
import Derived.Test.YtefiainojfeagaaGreatDoorRows
import Derived.WalkKit
import Derived.WalkSpells
import Derived.WalkLawsBesides
import Derived.Lib.Hide
import Derived.Lib.Bytealg
import Derived.Test.YtefiainojfeagaaGreatDoorPa5
import Derived.Test.YtefiainojfeagaaGreatDoorPa6
import Derived.Test.YtefiainojfeagaaGreatDoorPa7
namespace Go.Proofs.YtefiainojfeagaaGreatDoor
section
open Go.RowKit
set_option maxHeartbeats 400000 in
theorem yik (op : Int) (w : World) : Calls Tryz.prog 130 #[.int .i64 op] w fun e w' => e = .returned (.int .i64 (ar op)) ∧ w = w' := by
 go_enter Tryz.func130, Tryz.ntmps130
 go_wp2
 all_goals go_ret
 all_goals exact ⟨yak (by unfold ar; (repeat' split) <;> omega), rfl⟩
set_option maxHeartbeats 400000 in
theorem yig (op : Int) (w : World) : Calls Tryz.prog 134 #[.int .i64 op] w fun e w' => e = .returned (.bool (ymb op)) ∧ w = w' := by
 go_enter Tryz.func134, Tryz.ntmps134
 go_wp2
 all_goals go_ret
 all_goals exact ⟨yae (by rw [Bool.eq_iff_iff]; simp [ymb]; omega), rfl⟩
set_option maxHeartbeats 400000 in
theorem near_any (op : Int) (w : World) : Calls Tryz.prog 144 #[.int .i64 op] w fun e w' => e = .returned (.bool (zoq op)) ∧ w = w' := by
 go_enter Tryz.func144, Tryz.ntmps144
 go_wp2
 all_goals go_ret
 all_goals exact ⟨yae (by rw [Bool.eq_iff_iff]; simp [zoq]; omega), rfl⟩
set_option maxHeartbeats 400000 in
theorem yff (op : Int) (w : World) : Calls Tryz.prog 84 #[.int .i64 op] w fun e w' => e = .returned (.int .i64 (ar op)) ∧ w = w' := by
 go_enter Tryz.func84, Tryz.ntmps84
 go_wp2
 all_goals go_ret
 all_goals refine ⟨yak ?_, rfl⟩
 all_goals try simp only [beq_iff_eq, beq_eq_false_iff_ne, ne_eq] at *
 all_goals (unfold ar; (repeat' split) <;> omega)
set_option maxHeartbeats 400000 in
theorem yna (op : Int) (w : World) : Calls Tryz.prog 44 #[.int .i64 op] w fun e w' => e = .returned (.bool (ymb op)) ∧ w = w' := by
 go_enter Tryz.func44, Tryz.ntmps44
 go_wp2
 all_goals go_ret
 all_goals exact ⟨yae (by rw [Bool.eq_iff_iff]; simp [ymb]; omega), rfl⟩
def yei (w : World) (v : Value) (l : List Tm) : Prop := Row w v 2 l.length (l.flatMap fun t => [.int .i64 t.1, .int .i64 t.2])
theorem yei.below {w w' : World} {v : Value} {l : List Tm} (h : yei w v l) (hb : Below w.heap.size w w') : yei w' v l := Row.below h hb
theorem yei.open {w : World} {v : Value} {l : List Tm} (h : yei w v l) : ∃ a cap, v = .slice a l.length cap ∧ l.length ≤ cap ∧ cap ≤ 9223372036854775807 ∧
  (0 < l.length → ∃ g o, a = some ⟨g, o, none⟩ ∧ g < w.heap.size ∧ ∀ i t, l[i]? = some t → w.cell? ⟨g, o + i * 2, none⟩ = some (.int .i64 t.1) ∧ w.cell? ⟨g, o + i * 2 + 1, none⟩ = some (.int .i64 t.2)) := by
 obtain ⟨a, cap, hv, h1, h2, h3, h4⟩ := Row.open h
 refine ⟨a, cap, hv, h1, h2, fun hn => ?_⟩
 obtain ⟨g, o, ha, hg, hc⟩ := h4 hn
 exact ⟨g, o, ha, hg, fun i t ht => ⟨hc _ _ (yok _ 2 (fun _ => rfl) l i 0 t _ ht rfl), hc _ _ (yok _ 2 (fun _ => rfl) l i 1 t _ ht rfl)⟩⟩
def ysi (w k : Nat) (l : List Tm) : Int := match zke w (l.drop k) with | none => -1 | some n => (k : Int) + n
theorem ytx (m k : Nat) (l : List Tm) (hm : 1 ≤ m) (h : l.length ≤ k) : ysi m k l = -1 := by
 obtain ⟨m, rfl⟩ : ∃ q, m = q + 1 := ⟨m - 1, by omega⟩
 unfold ysi; rw [List.drop_eq_nil_of_le h, endN_nil]
theorem zmf (m k : Nat) (l : List Tm) (hm : 1 ≤ m) (h : k < l.length) (hn : ar l[k].1 < 0) : ysi m k l = -1 := by
 obtain ⟨m, rfl⟩ : ∃ q, m = q + 1 := ⟨m - 1, by omega⟩
 unfold ysi; rw [List.drop_eq_getElem_cons h, zme _ _ _ hn]
theorem zag (m k : Nat) (l : List Tm) (hm : 1 ≤ m) (h : k < l.length) (hn : ¬ ar l[k].1 < 0) : ysi m k l = ysi (m + (ar l[k].1).toNat - 1) (k + 1) l := by
 obtain ⟨m, rfl⟩ : ∃ q, m = q + 1 := ⟨m - 1, by omega⟩
 unfold ysi; rw [List.drop_eq_getElem_cons h, ynk _ _ _ hn, show m + 1 + (ar l[k].1).toNat - 1 = m + (ar l[k].1).toNat by omega]
 cases zke (m + (ar l[k].1).toNat) (l.drop (k + 1)) with
 | none => rfl
 | some n => simp; omega
theorem zhr (m k : Nat) (l : List Tm) (hm : 1 ≤ m) (h : k < l.length) (hn : ¬ ar l[k].1 < 0) (hz : (m : Int) + (ar l[k].1 - 1) = 0) : ysi m k l = k + 1 := by
 rw [zag m k l hm h hn, show m + (ar l[k].1).toNat - 1 = 0 by omega]
 unfold ysi; rw [ypp]; simp
set_option maxHeartbeats 1000000 in
theorem yxi (t : Tm) (vars : Int) (w : World) : Calls Tryz.prog 104 #[.agg #[.int .i64 t.1, .int .i64 t.2], .int .i64 vars] w fun e w' => e = .returned (.bool (yhl vars t)) ∧ Below w.heap.size w w' := by
 obtain ⟨op, x⟩ := t
 have hcases : (op == 1) = true ∨ (op == 1) = false ∧ ((op == 5) = true ∨ (op == 5) = false ∧ ((op == 12) = true ∨ (op == 12) = false)) := by
  cases (op == 1) <;> cases (op == 5) <;> cases (op == 12) <;> simp
 rcases hcases with q0 | ⟨q0, q1 | ⟨q1, q2 | q2⟩⟩
 all_goals
  go_enter Tryz.func104, Tryz.ntmps104
  go_wp2
  all_goals go_ret
  all_goals refine ⟨yae ?_, (Below.refl _ _).alloc (Nat.le_refl _) _⟩
  all_goals simp only [beq_iff_eq, beq_eq_false_iff_ne, ne_eq] at *
  all_goals rw [Bool.eq_iff_iff]
  all_goals simp [yhl, *]
  all_goals try omega
set_option maxHeartbeats 1000000 in
theorem yur (t : Tm) (vars : Int) (w : World) : Calls Tryz.prog 122 #[.agg #[.int .i64 t.1, .int .i64 t.2], .int .i64 vars] w fun e w' => e = .returned (.bool (yhl vars t)) ∧ Below w.heap.size w w' := by
 obtain ⟨op, x⟩ := t
 have hcases : (op == 1) = true ∨ (op == 1) = false ∧ ((op == 5) = true ∨ (op == 5) = false ∧ ((op == 12) = true ∨ (op == 12) = false)) := by
  cases (op == 1) <;> cases (op == 5) <;> cases (op == 12) <;> simp
 rcases hcases with q0 | ⟨q0, q1 | ⟨q1, q2 | q2⟩⟩
 all_goals
  go_enter Tryz.func122, Tryz.ntmps122
  go_wp2
  all_goals go_ret
  all_goals refine ⟨yae ?_, (Below.refl _ _).alloc (Nat.le_refl _) _⟩
  all_goals simp only [beq_iff_eq, beq_eq_false_iff_ne, ne_eq] at *
  all_goals rw [Bool.eq_iff_iff]
  all_goals simp [yhl, *]
  all_goals try omega
set_option maxHeartbeats 1000000 in
theorem end_any_in (v : Value) (l : List Tm) (at_ : Nat) (w : World) (hl : l.length ≤ 1000) (hv : Hid (yei w v l)) (ha : at_ < l.length) :
  Calls Tryz.prog 103 #[v, .int .i64 at_] w fun e w' => e = .returned (.int .i64 (ysi 1 at_ l)) ∧ w = w' := by
 obtain ⟨a, cap, rfl, h1, h2, h3⟩ := hv.out.open
 obtain ⟨g, o, rfl, hg, hc⟩ := h3 (by omega)
 have HC := Lib.hid hc
 have b1 : decide ((at_ : Int) < 0) = false := by simp
 have b2 : decide (l.length ≤ at_) = false := by simp; omega
 clear hc h3
 go_enter Tryz.func103, Tryz.ntmps103
 go_wp2
 go_loop [1, 5, 6] (fun i x _ => ∃ k m : Nat, k ≤ l.length ∧ 1 ≤ m ∧ m ≤ 2 * k + 1 ∧ i = .int .i64 k ∧ x = .int .i64 m ∧ Hid (ysi 1 at_ l = ysi m k l)) (fun i _ _ => l.length - (intOf i).toNat)
 case atStart => exact ⟨at_, 1, by omega, by omega, by omega, rfl, rfl, rfl⟩
 case round =>
  obtain ⟨k, m, hk, hm1, hm2, rfl, rfl, he⟩ := hrel
  by_cases hlt : k < l.length
  ·obtain ⟨c0, c1⟩ := HC.out k _ (List.getElem?_eq_getElem hlt)
   have hb := zhh l[k].1
   have hb1 := hb.1
   have hb2 := hb.2
   clear hb
   have HD := Lib.hid (List.drop_eq_getElem_cons hlt)
   by_cases hneg : ar l[k].1 < 0
   ·go_wp2_with (go_at_call 130; refine (yik _ _).mono ?_; rintro e w' ⟨rfl, rfl⟩)
    go_ret
    exact ⟨yak (by rw [he.out, zmf m k l hm1 hlt hneg]), rfl⟩
   ·by_cases hz : (m : Int) + (ar l[k].1 - 1) = 0
    ·have hz' : ((m : Int) + (ar l[k].1 - 1) == 0) = true := by simp; omega
     have HZ := Lib.hid hz
     clear hz
     go_wp2_with (go_at_call 130; refine (yik _ _).mono ?_; rintro e w' ⟨rfl, rfl⟩)
     go_ret
     exact ⟨yak (by rw [he.out, zhr m k l hm1 hlt (by omega) HZ.out]), rfl⟩
    ·have hz' : ((m : Int) + (ar l[k].1 - 1) == 0) = false := by simp; omega
     go_wp2_with (go_at_call 130; refine (yik _ _).mono ?_; rintro e w' ⟨rfl, rfl⟩)
     exact ⟨⟨k + 1, m + (ar l[k].1).toNat - 1, by omega, by omega, by omega, by go_num, by congr 1; omega, he.out.trans (zag m k l hm1 hlt (by omega))⟩, by simp [intOf]; omega⟩
  ·go_wp2
   go_ret
   exact ⟨yak (by rw [he.out, ytx m k l hm1 (by omega)]), rfl⟩
set_option maxHeartbeats 1000000 in
theorem rend_any_in (v : Value) (l : List Tm) (at_ : Nat) (w : World) (hl : l.length ≤ 1000) (hv : Hid (yei w v l)) (ha : at_ < l.length) :
  Calls Tryz.prog 83 #[v, .int .i64 at_] w fun e w' => e = .returned (.int .i64 (ysi 1 at_ l)) ∧ w = w' := by
 obtain ⟨a, cap, rfl, h1, h2, h3⟩ := hv.out.open
 obtain ⟨g, o, rfl, hg, hc⟩ := h3 (by omega)
 have HC := Lib.hid hc
 have b1 : decide ((at_ : Int) < 0) = false := by simp
 have b2 : decide (l.length ≤ at_) = false := by simp; omega
 clear hc h3
 go_enter Tryz.func83, Tryz.ntmps83
 go_wp2
 go_loop [5, 6, 7] (fun x i _ => ∃ k m : Nat, k ≤ l.length ∧ 1 ≤ m ∧ m ≤ 2 * k + 1 ∧ i = .int .i64 k ∧ x = .int .i64 m ∧ Hid (ysi 1 at_ l = ysi m k l)) (fun _ i _ => l.length - (intOf i).toNat)
 case atStart => exact ⟨at_, 1, by omega, by omega, by omega, rfl, rfl, rfl⟩
 case round =>
  obtain ⟨k, m, hk, hm1, hm2, rfl, rfl, he⟩ := hrel
  by_cases hlt : k < l.length
  ·obtain ⟨c0, c1⟩ := HC.out k _ (List.getElem?_eq_getElem hlt)
   have hb := zhh l[k].1
   have hb1 := hb.1
   have hb2 := hb.2
   clear hb
   have HD := Lib.hid (List.drop_eq_getElem_cons hlt)
   by_cases hneg : ar l[k].1 < 0
   ·go_wp2_with (go_at_call 84; refine (yff _ _).mono ?_; rintro e w' ⟨rfl, rfl⟩)
    go_ret
    exact ⟨yak (by rw [he.out, zmf m k l hm1 hlt hneg]), rfl⟩
   ·by_cases hz : (m : Int) + (ar l[k].1 - 1) = 0
    ·have hz' : ((m : Int) + (ar l[k].1 - 1) == 0) = true := by simp; omega
     have HZ := Lib.hid hz
     clear hz
     go_wp2_with (go_at_call 84; refine (yff _ _).mono ?_; rintro e w' ⟨rfl, rfl⟩)
     go_ret
     exact ⟨yak (by rw [he.out, zhr m k l hm1 hlt (by omega) HZ.out]), rfl⟩
    ·have hz' : ((m : Int) + (ar l[k].1 - 1) == 0) = false := by simp; omega
     go_wp2_with (go_at_call 84; refine (yff _ _).mono ?_; rintro e w' ⟨rfl, rfl⟩)
     exact ⟨⟨k + 1, m + (ar l[k].1).toNat - 1, by omega, by omega, by omega, by go_num, by congr 1; omega, he.out.trans (zag m k l hm1 hlt (by omega))⟩, by simp [intOf]; omega⟩
  ·go_wp2
   go_ret
   exact ⟨yak (by rw [he.out, ytx m k l hm1 (by omega)]), rfl⟩
end
set_option maxRecDepth 100000
section
open Go.ChangeShapes Go.WideShapes Go.RowKit
theorem zfg : Tryz.prog.cellsOf 3 = 1 := by kernel_rfl
theorem zho : Tryz.prog.cellsOf 81 = 2 := by kernel_rfl
section
variable {H : Type} {enc : TypeId × Value → H} {w : World} {cs : List Value} {v : Value} {base : Nat} {d : DataW H} {ps : List MemPlace}
def yzx (t : Tm) : Prop := yzs t.1 ∧ yzs t.2
theorem rd_term (h : Rd enc Tryz.prog w 81 cs) : ∃ t : Tm, cs = [.int .i64 t.1, .int .i64 t.2] ∧ yzx t := by
 obtain ⟨h1, h2⟩ := yqd Tryz.underlying81 h
 rw [zho] at h1
 match cs, h1 with
 | [a, b], _ =>
  have g0 := h2 0 _ rfl
  have g1 := h2 1 _ rfl
  simp [zfg] at g0 g1
  obtain ⟨x, hx, hx'⟩ := ymp Tryz.underlying3 g0
  obtain ⟨y, hy, hy'⟩ := ymp Tryz.underlying3 g1
  simp at hx hy
  exact ⟨(x, y), by simp [hx, hy], hx', hy'⟩
theorem terms_of_seq {l : List Tm} (h : Seq (fun cs (t : Tm) => cs = [.int .i64 t.1, .int .i64 t.2] ∧ yzx t) 2 w v l) : yei w v l ∧ ∀ t ∈ l, yzx t := by
 refine ⟨zgs (fun t : Tm => [.int .i64 t.1, .int .i64 t.2]) (fun _ => rfl) (by omega) h (fun cs x h => h.1), fun x hx => ?_⟩
 obtain ⟨xs, _, h2⟩ := h
 obtain ⟨i, hi⟩ := List.getElem?_of_mem hx
 exact (h2 i x hi).2
theorem zne (h : Rd enc Tryz.prog w 44 cs) : ∃ v l, cs = [v] ∧ yei w v l ∧ ∀ t ∈ l, yzx t := by
 obtain ⟨v, l, h1, h2⟩ := yuk (R := fun cs (t : Tm) => cs = [.int .i64 t.1, .int .i64 t.2] ∧ yzx t) Tryz.underlying44 zho (Nat.succ_pos 1) (fun cs h => rd_term h) h
 exact ⟨v, l, h1, terms_of_seq h2⟩
end
end
set_option linter.unusedVariables false
section
open Go.ChangeShapes Go.WideShapes Go.RowKit
structure VarD where
 name : ByteArray
 kind : Int
 lo : Int
 hi : Int
 perNode : Int
 perID : Int
structure SetD where
 var : Int
 val : List Tm
structure RuleD where
 name : ByteArray
 guard : List Tm
 sets : List SetD
structure ProgD where
 name : ByteArray
 vars : List VarD
 rules : List RuleD
def ymt (x : VarD) : List Value := [.string x.name, .int .i64 x.kind, .int .i64 x.lo, .int .i64 x.hi, .int .i64 x.perNode, .int .i64 x.perID]
def ymw (w : World) (cs : List Value) (s : SetD) : Prop := ∃ v, cs = [.int .i64 s.var, v] ∧ yei w v s.val
def yzw (w : World) (cs : List Value) (r : RuleD) : Prop := ∃ gv sv, cs = [.string r.name, gv, sv] ∧ yei w gv r.guard ∧ Seq (ymw w) 2 w sv r.sets
def yxf (w : World) (v : Value) (l : List VarD) : Prop := Row w v 6 l.length (l.flatMap ymt)
def ysc (w : World) (v : Value) (l : List RuleD) : Prop := Seq (yzw w) 3 w v l
def ygi (w : World) (v : Value) (p : ProgD) : Prop := ∃ vv rv, v = .agg #[.string p.name, vv, rv] ∧ yxf w vv p.vars ∧ ysc w rv p.rules
def zru (x : VarD) : Prop := x.name.size ≤ 9223372036854775807 ∧ yzs x.kind ∧ yzs x.lo ∧ yzs x.hi ∧ yzs x.perNode ∧ yzs x.perID
def ztt (s : SetD) : Prop := yzs s.var ∧ ∀ t ∈ s.val, yzx t
def zdh (r : RuleD) : Prop := r.name.size ≤ 9223372036854775807 ∧ (∀ t ∈ r.guard, yzx t) ∧ ∀ s ∈ r.sets, ztt s
def yet (p : ProgD) : Prop := p.name.size ≤ 9223372036854775807 ∧ (∀ x ∈ p.vars, zru x) ∧ ∀ r ∈ p.rules, zdh r
theorem ymw.below {w w' : World} {cs : List Value} {s : SetD} (hb : Below w.heap.size w w') (h : ymw w cs s) : ymw w' cs s := by
 obtain ⟨v, h1, h2⟩ := h
 exact ⟨v, h1, h2.below hb⟩
theorem yzw.below {w w' : World} {cs : List Value} {r : RuleD} (hb : Below w.heap.size w w') (h : yzw w cs r) : yzw w' cs r := by
 obtain ⟨gv, sv, h1, h2, h3⟩ := h
 exact ⟨gv, sv, h1, h2.below hb, h3.below hb fun _ _ => ymw.below hb⟩
theorem yxf.below {w w' : World} {v : Value} {l : List VarD} (h : yxf w v l) (hb : Below w.heap.size w w') : yxf w' v l := Row.below h hb
theorem ysc.below {w w' : World} {v : Value} {l : List RuleD} (h : ysc w v l) (hb : Below w.heap.size w w') : ysc w' v l := Seq.below h hb fun _ _ => yzw.below hb
theorem ygi.below {w w' : World} {v : Value} {p : ProgD} (h : ygi w v p) (hb : Below w.heap.size w w') : ygi w' v p := by
 obtain ⟨vv, rv, h1, h2, h3⟩ := h
 exact ⟨vv, rv, h1, h2.below hb, h3.below hb⟩
theorem Seq.open {α : Type} {R : List Value → α → Prop} {size : Nat} {w : World} {v : Value} {l : List α} (h : Seq R size w v l) : ∃ a cap, v = .slice a l.length cap ∧ l.length ≤ cap ∧ cap ≤ 9223372036854775807 ∧
  (0 < l.length → ∃ g o, a = some ⟨g, o, none⟩ ∧ g < w.heap.size ∧ ∀ i x, l[i]? = some x → ∃ cs, cs.length = size ∧ R cs x ∧ ∀ j u, cs[j]? = some u → w.cell? ⟨g, o + i * size + j, none⟩ = some u) := by
 obtain ⟨xs, h1, h2⟩ := h
 have hlen : xs.length = l.length * size := by obtain ⟨_, _, _, _, _, h, _⟩ := h1; exact h
 obtain ⟨a, cap, hv, h3, h4, _, h5⟩ := Row.open h1
 refine ⟨a, cap, hv, h3, h4, fun hn => ?_⟩
 obtain ⟨g, o, ha, hg, hc⟩ := h5 hn
 refine ⟨g, o, ha, hg, fun i x hx => ⟨_, ?_, h2 i x hx, fun j u hu => ?_⟩⟩
 ·have hi := (List.getElem?_eq_some_iff.1 hx).1
  rw [List.length_take, List.length_drop, hlen]
  have : i * size + size ≤ l.length * size := by rw [← Nat.succ_mul]; exact Nat.mul_le_mul_right _ hi
  omega
 ·rw [List.getElem?_take] at hu
  split at hu
  ·rw [List.getElem?_drop] at hu
   have := hc _ u hu
   rw [← Nat.add_assoc] at this
   exact this
  ·cases hu
theorem yxf.open {w : World} {v : Value} {l : List VarD} (h : yxf w v l) : ∃ a cap, v = .slice a l.length cap ∧ l.length ≤ cap ∧ cap ≤ 9223372036854775807 ∧
  (0 < l.length → ∃ g o, a = some ⟨g, o, none⟩ ∧ g < w.heap.size ∧ ∀ i x, l[i]? = some x → w.cell? ⟨g, o + i * 6, none⟩ = some (.string x.name) ∧ w.cell? ⟨g, o + i * 6 + 1, none⟩ = some (.int .i64 x.kind) ∧ w.cell? ⟨g, o + i * 6 + 2, none⟩ = some (.int .i64 x.lo) ∧
   w.cell? ⟨g, o + i * 6 + 3, none⟩ = some (.int .i64 x.hi) ∧ w.cell? ⟨g, o + i * 6 + 4, none⟩ = some (.int .i64 x.perNode) ∧ w.cell? ⟨g, o + i * 6 + 5, none⟩ = some (.int .i64 x.perID)) := by
 obtain ⟨a, cap, hv, h3, h4, _, h5⟩ := Row.open h
 refine ⟨a, cap, hv, h3, h4, fun hn => ?_⟩
 obtain ⟨g, o, ha, hg, hc⟩ := h5 hn
 refine ⟨g, o, ha, hg, fun i x hx => ?_⟩
 have h0 := fun j u hu => yok ymt 6 (fun _ => rfl) l i j x u hx hu
 exact ⟨hc _ _ (h0 0 _ rfl), hc _ _ (h0 1 _ rfl), hc _ _ (h0 2 _ rfl), hc _ _ (h0 3 _ rfl), hc _ _ (h0 4 _ rfl), hc _ _ (h0 5 _ rfl)⟩
theorem ysc.open {w : World} {v : Value} {l : List RuleD} (h : ysc w v l) : ∃ a cap, v = .slice a l.length cap ∧ l.length ≤ cap ∧ cap ≤ 9223372036854775807 ∧
  (0 < l.length → ∃ g o, a = some ⟨g, o, none⟩ ∧ g < w.heap.size ∧ ∀ i r, l[i]? = some r → ∃ gv sv, yei w gv r.guard ∧ Seq (ymw w) 2 w sv r.sets ∧ w.cell? ⟨g, o + i * 3, none⟩ = some (.string r.name) ∧ w.cell? ⟨g, o + i * 3 + 1, none⟩ = some gv ∧ w.cell? ⟨g, o + i * 3 + 2, none⟩ = some sv) := by
 obtain ⟨a, cap, hv, h3, h4, h5⟩ := Seq.open h
 refine ⟨a, cap, hv, h3, h4, fun hn => ?_⟩
 obtain ⟨g, o, ha, hg, hc⟩ := h5 hn
 refine ⟨g, o, ha, hg, fun i r hr => ?_⟩
 obtain ⟨cs, _, ⟨gv, sv, rfl, q1, q2⟩, q3⟩ := hc i r hr
 exact ⟨gv, sv, q1, q2, q3 0 _ rfl, q3 1 _ rfl, q3 2 _ rfl⟩
theorem yhg {w : World} {v : Value} {l : List SetD} (h : Seq (ymw w) 2 w v l) : ∃ a cap, v = .slice a l.length cap ∧ l.length ≤ cap ∧ cap ≤ 9223372036854775807 ∧
  (0 < l.length → ∃ g o, a = some ⟨g, o, none⟩ ∧ g < w.heap.size ∧ ∀ i s, l[i]? = some s → ∃ sv, yei w sv s.val ∧ w.cell? ⟨g, o + i * 2, none⟩ = some (.int .i64 s.var) ∧ w.cell? ⟨g, o + i * 2 + 1, none⟩ = some sv) := by
 obtain ⟨a, cap, hv, h3, h4, h5⟩ := Seq.open h
 refine ⟨a, cap, hv, h3, h4, fun hn => ?_⟩
 obtain ⟨g, o, ha, hg, hc⟩ := h5 hn
 refine ⟨g, o, ha, hg, fun i s hs => ?_⟩
 obtain ⟨cs, _, ⟨sv, rfl, q1⟩, q3⟩ := hc i s hs
 exact ⟨sv, q1, q3 0 _ rfl, q3 1 _ rfl⟩
theorem zma : Tryz.prog.cellsOf 43 = 6 := by kernel_rfl
theorem zlz : Tryz.prog.cellsOf 50 = 2 := by kernel_rfl
theorem zhn : Tryz.prog.cellsOf 47 = 3 := by kernel_rfl
theorem cellsProgram : Tryz.prog.cellsOf 25 = 3 := by kernel_rfl
theorem ysg : Tryz.prog.cellsOf 9 = 1 := by kernel_rfl
theorem zdk : Tryz.prog.cellsOf 44 = 1 := by kernel_rfl
theorem cellsSets : Tryz.prog.cellsOf 45 = 1 := by kernel_rfl
theorem cellsVars : Tryz.prog.cellsOf 22 = 1 := by kernel_rfl
theorem cellsRules : Tryz.prog.cellsOf 23 = 1 := by kernel_rfl
theorem zgg {n : Nat} (h : n ≤ maxLen) : n ≤ 9223372036854775807 := by unfold maxLen at h; omega
section
variable {H : Type} {enc : TypeId × Value → H} {w : World} {cs : List Value} {v : Value} {base : Nat} {d : DataW H} {ps : List MemPlace}
theorem rd_var (h : Rd enc Tryz.prog w 43 cs) : ∃ x : VarD, cs = ymt x ∧ zru x := by
 obtain ⟨h1, h2⟩ := yqd Tryz.underlying43 h
 rw [zma] at h1
 match cs, h1 with
 | [a, b, c, d, e, f], _ =>
  have g0 := h2 0 _ rfl
  have g1 := h2 1 _ rfl
  have g2 := h2 2 _ rfl
  have g3 := h2 3 _ rfl
  have g4 := h2 4 _ rfl
  have g5 := h2 5 _ rfl
  simp [zfg, ysg] at g0 g1 g2 g3 g4 g5
  obtain ⟨s, hs, hs'⟩ := zbw Tryz.underlying9 g0
  obtain ⟨x1, e1, q1⟩ := ymp Tryz.underlying3 g1
  obtain ⟨x2, e2, q2⟩ := ymp Tryz.underlying3 g2
  obtain ⟨x3, e3, q3⟩ := ymp Tryz.underlying3 g3
  obtain ⟨x4, e4, q4⟩ := ymp Tryz.underlying3 g4
  obtain ⟨x5, e5, q5⟩ := ymp Tryz.underlying3 g5
  simp at hs e1 e2 e3 e4 e5
  exact ⟨⟨s, x1, x2, x3, x4, x5⟩, by simp [ymt, hs, e1, e2, e3, e4, e5], zgg hs', q1, q2, q3, q4, q5⟩
theorem rd_set (h : Rd enc Tryz.prog w 50 cs) : ∃ s : SetD, ymw w cs s ∧ ztt s := by
 obtain ⟨h1, h2⟩ := yqd Tryz.underlying50 h
 rw [zlz] at h1
 match cs, h1 with
 | [a, b], _ =>
  have g0 := h2 0 _ rfl
  have g1 := h2 1 _ rfl
  simp [zfg, zdk] at g0 g1
  obtain ⟨x1, e1, q1⟩ := ymp Tryz.underlying3 g0
  obtain ⟨v, l, e2, q2, q3⟩ := zne g1
  simp at e1 e2
  exact ⟨⟨x1, l⟩, ⟨v, by simp [e1, e2], q2⟩, q1, q3⟩
theorem rd_rule (h : Rd enc Tryz.prog w 47 cs) : ∃ r : RuleD, yzw w cs r ∧ zdh r := by
 obtain ⟨h1, h2⟩ := yqd Tryz.underlying47 h
 rw [zhn] at h1
 match cs, h1 with
 | [a, b, c], _ =>
  have g0 := h2 0 _ rfl
  have g1 := h2 1 _ rfl
  have g2 := h2 2 _ rfl
  simp [ysg, zdk, cellsSets] at g0 g1 g2
  obtain ⟨s, hs, hs'⟩ := zbw Tryz.underlying9 g0
  obtain ⟨gv, l, e2, q2, q3⟩ := zne g1
  obtain ⟨sv, ss, e3, q4⟩ := yuk (R := fun cs s => ymw w cs s ∧ ztt s) Tryz.underlying45 zlz (Nat.succ_pos 1) (fun cs h => rd_set h) g2
  simp at hs e2 e3
  refine ⟨⟨s, l, ss⟩, ⟨gv, sv, by simp [hs, e2, e3], q2, q4.imp fun _ _ _ h => h.1⟩, zgg hs', q3, fun x hx => ?_⟩
  obtain ⟨xs, _, h2⟩ := q4
  obtain ⟨i, hi⟩ := List.getElem?_of_mem hx
  exact (h2 i x hi).2
theorem rd_vars (h : Rd enc Tryz.prog w 22 cs) : ∃ v l, cs = [v] ∧ yxf w v l ∧ ∀ x ∈ l, zru x := by
 obtain ⟨v, l, h1, h2⟩ := yuk (R := fun cs x => cs = ymt x ∧ zru x) Tryz.underlying22 zma (Nat.succ_pos 5) (fun cs h => rd_var h) h
 refine ⟨v, l, h1, zgs ymt (fun _ => rfl) (by omega) h2 (fun cs x h => h.1), fun x hx => ?_⟩
 obtain ⟨xs, _, h3⟩ := h2
 obtain ⟨i, hi⟩ := List.getElem?_of_mem hx
 exact (h3 i x hi).2
theorem rd_rules (h : Rd enc Tryz.prog w 23 cs) : ∃ v l, cs = [v] ∧ ysc w v l ∧ ∀ x ∈ l, zdh x := by
 obtain ⟨v, l, h1, h2⟩ := yuk (R := fun cs x => yzw w cs x ∧ zdh x) Tryz.underlying23 zhn (Nat.succ_pos 2) (fun cs h => rd_rule h) h
 refine ⟨v, l, h1, h2.imp fun _ _ _ h => h.1, fun x hx => ?_⟩
 obtain ⟨xs, _, h3⟩ := h2
 obtain ⟨i, hi⟩ := List.getElem?_of_mem hx
 exact (h3 i x hi).2
theorem yia (hv : Value.okWide Tryz.prog w .any base 25 v) (h : DataW.Trod enc Tryz.prog w 0 (fun _ => true) true 25 v d ps) : ∃ p, ygi w v p ∧ yet p := by
 obtain ⟨cs, rfl, hcs⟩ : ∃ cs, v = .agg cs ∧ cs.size = Tryz.prog.cellsOf 25 := by
  unfold Value.okWide at hv
  rw [Tryz.underlying25] at hv
  obtain ⟨cs, h1, h2, _⟩ := hv
  exact ⟨cs, h1, h2⟩
 have hr := zvd h
 simp only [Value.cells] at hr
 obtain ⟨h1, h2⟩ := yqd Tryz.underlying25 hr
 rw [cellsProgram] at h1
 obtain ⟨cs⟩ := cs
 simp only at h1 h2
 match cs, h1 with
 | [a, b, c], _ =>
  have g0 := h2 0 _ rfl
  have g1 := h2 1 _ rfl
  have g2 := h2 2 _ rfl
  simp [ysg, cellsVars, cellsRules] at g0 g1 g2
  obtain ⟨s, hs, hs'⟩ := zbw Tryz.underlying9 g0
  obtain ⟨vv, l, e2, q2, q3⟩ := rd_vars g1
  obtain ⟨rv, rr, e3, q4, q5⟩ := rd_rules g2
  simp at hs e2 e3
  exact ⟨⟨s, l, rr⟩, ⟨vv, rv, by simp [hs, e2, e3], q2, q4⟩, zgg hs', q3, q5⟩
end
end
section
open Go.RowKit
def ymz (t : Tm) : List AV := [i64 t.1, i64 t.2]
def ybk (l : List Tm) : AV := .sl 2 (l.map ymz)
def ylj (s : SetD) : List AV := [i64 s.var, ybk s.val]
def ybl (r : RuleD) : List AV := [ycj r.name, ybk r.guard, .sl 2 (r.sets.map ylj)]
def yil (x : VarD) : List AV := [ycj x.name, i64 x.kind, i64 x.lo, i64 x.hi, i64 x.perNode, i64 x.perID]
def zfo (p : ProgD) : AV := .agg [ycj p.name, .sl 6 (p.vars.map yil), .sl 3 (p.rules.map ybl)]
structure FaultD where
 node : Int
 var : Int
 value : Int
theorem yrf {α : Type} {f : α → List AV} {R : List Value → α → Prop} {ok : Nat → Prop} {w : World} {lv : Live} {size : Nat} {l : List α} {v : Value} (h : Rel ok w lv (.sl size (l.map f)) v) (hok : ∀ g, ok g → g < w.heap.size)
  (hR : ∀ x ∈ l, ∀ cs, yck ok w (fun _ => none) (f x) cs → R cs x) : Seq R size w v l := by
 cases h with
 | sl a cap u g o hn hc ha hsz hg hcell hrel =>
  simp only [List.length_map] at hn ⊢
  have hfl : ∀ x ∈ l, (f x).length = size := fun x hx => hsz _ (List.mem_map_of_mem hx)
  refine ⟨(List.range (l.length * size)).map fun j => u (j / size) (j % size), ⟨a, cap, rfl, hn, hc, by simp, ha, ?_⟩, fun i x hx => ?_⟩
  ·rcases Nat.eq_zero_or_pos l.length with h0 | h0
   ·exact .inl h0
   ·obtain ⟨rfl, hok'⟩ := hg (by intro h; simp at h; simp [h] at h0)
    refine .inr ⟨g, o, rfl, hok g hok', fun j v hj => ?_⟩
    have hlt := (List.getElem?_eq_some_iff.1 hj).1
    simp only [List.length_map, List.length_range] at hlt
    rw [List.getElem?_map, List.getElem?_range hlt] at hj
    simp only [Option.map_some, Option.some.injEq] at hj
    have hs0 : 0 < size := by
     rcases Nat.eq_zero_or_pos size with h | h
     ·simp [h] at hlt
     ·exact h
    have hi : j / size < l.length := by rw [Nat.div_lt_iff_lt_mul hs0]; exact hlt
    have hx := List.getElem?_eq_getElem hi
    have hm : j % size < (f l[j / size]).length := by rw [hfl _ (List.getElem_mem hi)]; exact Nat.mod_lt _ hs0
    have := (hcell (j / size) (j % size) (f l[j / size]) _ (by simp [hx]) (List.getElem?_eq_getElem hm)).1
    rw [← hj, ← this]
    congr 2
    rw [Nat.add_assoc, Nat.mul_comm, Nat.div_add_mod]
  ·refine hR x (List.mem_of_getElem? hx) _ ⟨?_, fun j c v hc hv => ?_⟩
   ·have hi := (List.getElem?_eq_some_iff.1 hx).1
    rw [hfl x (List.mem_of_getElem? hx), List.length_take, List.length_drop, List.length_map, List.length_range]
    have : i * size + size ≤ l.length * size := by rw [← Nat.succ_mul]; exact Nat.mul_le_mul_right _ hi
    omega
   ·have hj : j < size := by have := (List.getElem?_eq_some_iff.1 hc).1; rw [hfl x (List.mem_of_getElem? hx)] at this; exact this
    have hi := (List.getElem?_eq_some_iff.1 hx).1
    have hlt : i * size + j < l.length * size := by
     have : i * size + size ≤ l.length * size := by rw [← Nat.succ_mul]; exact Nat.mul_le_mul_right _ hi
     omega
    rw [List.getElem?_take, if_pos hj, List.getElem?_drop, List.getElem?_map, List.getElem?_range hlt] at hv
    simp only [Option.map_some, Option.some.injEq] at hv
    have e1 : (i * size + j) / size = i := by rw [Nat.add_comm, Nat.add_mul_div_right _ _ (by omega), Nat.div_eq_of_lt hj, Nat.zero_add]
    have e2 : (i * size + j) % size = j := by rw [Nat.add_comm, Nat.add_mul_mod_self_right, Nat.mod_eq_of_lt hj]
    rw [e1, e2] at hv
    subst hv
    exact hrel i j (f x) c (by simp [hx]) hc
theorem zrb {α : Type} {g : α → List Value} {size : Nat} {w : World} {v : Value} {l : List α} (hg : ∀ x, (g x).length = size) (h0 : 0 < size) (h : Seq (fun cs x => cs = g x) size w v l) : Row w v size l.length (l.flatMap g) := zgs g hg h0 h fun cs x h => h
theorem ymr {ok : Nat → Prop} {w : World} {lv : Live} {l : List Tm} {v : Value} (h : Rel ok w lv (ybk l) v) (hok : ∀ g, ok g → g < w.heap.size) : yei w v l :=
 zrb (g := fun t : Tm => [.int .i64 t.1, .int .i64 t.2]) (fun _ => rfl) (by omega) (yrf h hok fun x _ cs hr => by
  obtain ⟨u, v, rfl, h1, h2⟩ := zgj hr
  rw [yfp h1, yfp h2])
theorem yoo {ok : Nat → Prop} {w : World} {lv : Live} {p : ProgD} {v : Value} (h : Rel ok w lv (zfo p) v) (hok : ∀ g, ok g → g < w.heap.size) : ygi w v p := by
 cases h with
 | agg vs hl hc hr =>
  obtain ⟨u, vv, rv, rfl, h1, h2, h3⟩ := zqx ⟨hl, hr⟩
  rw [yfp h1]
  refine ⟨vv, rv, rfl, ?_, ?_⟩
  ·exact zrb (fun _ => rfl) (by omega) (yrf h2 hok fun x _ cs hr => by
    match cs, hr with
    | [c0, c1, c2, c3, c4, c5], hr =>
     have e0 := yfp (hr.2 0 _ _ rfl rfl)
     have e1 := yfp (hr.2 1 _ _ rfl rfl)
     have e2 := yfp (hr.2 2 _ _ rfl rfl)
     have e3 := yfp (hr.2 3 _ _ rfl rfl)
     have e4 := yfp (hr.2 4 _ _ rfl rfl)
     have e5 := yfp (hr.2 5 _ _ rfl rfl)
     rw [e0, e1, e2, e3, e4, e5]; rfl)
  ·exact yrf h3 hok fun x _ cs hr => by
    obtain ⟨u, gv, sv, rfl, q1, q2, q3⟩ := zqx hr
    rw [yfp q1]
    exact ⟨gv, sv, rfl, ymr q2 hok, yrf q3 hok fun y _ cs hr => by
     obtain ⟨u, tv, rfl, r1, r2⟩ := zgj hr
     rw [yfp r1]
     exact ⟨tv, rfl, ymr r2 hok⟩⟩
end
section
open Go.RowKit
set_option maxHeartbeats 400000 in
theorem ykx (c : UInt8) (w : World) :
  Calls Tryz.prog 78 #[.int .u8 (c.toNat : Int)] w fun e w' => e = .returned (.bool (ycp c)) ∧ w = w' := by
 go_enter Tryz.func78, Tryz.ntmps78
 go_wp2
 all_goals go_ret
 all_goals exact ⟨yae (by rw [Bool.eq_iff_iff]; simp [ycp, UInt8.le_iff_toNat_le]; omega), rfl⟩
set_option maxHeartbeats 400000 in
theorem ytu (c : UInt8) (w : World) :
  Calls Tryz.prog 80 #[.int .u8 (c.toNat : Int)] w fun e w' => e = .returned (.bool (yba c)) ∧ w = w' := by
 go_enter Tryz.func80, Tryz.ntmps80
 go_wp2
 all_goals go_ret
 all_goals exact ⟨yae (by rw [Bool.eq_iff_iff]; simp [yba, UInt8.le_iff_toNat_le]; omega), rfl⟩
set_option maxHeartbeats 400000 in
theorem yvz (c : UInt8) (w : World) :
  Calls Tryz.prog 79 #[.int .u8 (c.toNat : Int)] w fun e w' => e = .returned (.bool (ydu c)) ∧ w = w' := by
 go_enter Tryz.func79, Tryz.ntmps79
 cases h1 : ycp c <;> cases h2 : yba c
 all_goals
  go_wp2_with (first | (go_at_call 78; refine (ykx _ _).mono ?_; rintro e w' ⟨rfl, rfl⟩) | (go_at_call 80; refine (ytu _ _).mono ?_; rintro e w' ⟨rfl, rfl⟩))
  go_ret
  exact ⟨yae (by rw [Bool.eq_iff_iff]; simp [ydu, h1, h2, ← UInt8.toNat_inj]; try omega), rfl⟩
set_option maxHeartbeats 400000 in
theorem yht (c : UInt8) (w : World) :
  Calls Tryz.prog 60 #[.int .u8 (c.toNat : Int)] w fun e w' => e = .returned (.bool (ycp c)) ∧ w = w' := by
 go_enter Tryz.func60, Tryz.ntmps60
 go_wp2
 all_goals go_ret
 all_goals exact ⟨yae (by rw [Bool.eq_iff_iff]; simp [ycp, UInt8.le_iff_toNat_le]; omega), rfl⟩
set_option maxHeartbeats 400000 in
theorem yjj (c : UInt8) (w : World) :
  Calls Tryz.prog 62 #[.int .u8 (c.toNat : Int)] w fun e w' => e = .returned (.bool (yba c)) ∧ w = w' := by
 go_enter Tryz.func62, Tryz.ntmps62
 go_wp2
 all_goals go_ret
 all_goals exact ⟨yae (by rw [Bool.eq_iff_iff]; simp [yba, UInt8.le_iff_toNat_le]; omega), rfl⟩
set_option maxHeartbeats 400000 in
theorem yjk (c : UInt8) (w : World) :
  Calls Tryz.prog 61 #[.int .u8 (c.toNat : Int)] w fun e w' => e = .returned (.bool (ydu c)) ∧ w = w' := by
 go_enter Tryz.func61, Tryz.ntmps61
 cases h1 : ycp c <;> cases h2 : yba c
 all_goals
  go_wp2_with (first | (go_at_call 60; refine (yht _ _).mono ?_; rintro e w' ⟨rfl, rfl⟩) | (go_at_call 62; refine (yjj _ _).mono ?_; rintro e w' ⟨rfl, rfl⟩))
  go_ret
  exact ⟨yae (by rw [Bool.eq_iff_iff]; simp [ydu, h1, h2, ← UInt8.toNat_inj]; try omega), rfl⟩
set_option maxHeartbeats 1000000 in
theorem znw (s : ByteArray) (a : Nat) (w : World) (hs : s.size ≤ 20000) (ha : a ≤ s.size) :
  Calls Tryz.prog 38 #[.string s, .int .i64 a] w fun e w' => e = .returned (.int .i64 (yay s false a)) ∧ w = w' := by
 go_enter Tryz.func38, Tryz.ntmps38
 go_wp2
 go_loop [1] (fun i => ∃ k : Nat, k ≤ s.size ∧ i = .int .i64 k ∧ Hid (yay s false a = yay s false k)) (fun i => s.size - (intOf i).toNat)
 case atStart => exact ⟨a, ha, rfl, rfl⟩
 case round =>
  obtain ⟨k, hk, rfl, hk2⟩ := hrel
  by_cases hlt : k < s.size
  ·go_wp2
   all_goals try simp only [beq_iff_eq, beq_eq_false_iff_ne, ne_eq] at *
   iterate 4 exact ⟨⟨k + 1, by omega, by go_num, hk2.out.trans (yyc s k hlt (by simp [← UInt8.toNat_inj]; omega))⟩, by simp [intOf]; omega⟩
   ·go_loop [1] (fun i => ∃ j : Nat, k ≤ j ∧ j ≤ s.size ∧ i = .int .i64 j ∧ (k < j ∨ (j = k ∧ s[k].toNat = 35)) ∧ Hid (yay s false a = yay s true j)) (fun i => s.size - (intOf i).toNat)
    case atStart => exact ⟨k, by omega, by omega, rfl, .inr ⟨rfl, by omega⟩, hk2.out.trans (zcj s k hlt (by simp [← UInt8.toNat_inj]; omega))⟩
    case round =>
     obtain ⟨j, hj, hj', rfl, hjk, hj2⟩ := hrel
     by_cases hlj : j < s.size
     ·go_wp2
      all_goals try simp only [bne_iff_ne, bne_eq_false_iff_eq, ne_eq] at *
      ·exact ⟨⟨j + 1, by omega, by omega, by go_num, .inl (by omega), hj2.out.trans (zju s j hlj (by simp [← UInt8.toNat_inj]; omega))⟩, by simp [intOf]; omega⟩
      ·have hkj : k < j := by rcases hjk with h | ⟨rfl, h⟩ <;> omega
       exact ⟨⟨j, by omega, rfl, hj2.out.trans (zjv s j hlj (by simp [← UInt8.toNat_inj]; omega))⟩, by simp [intOf]; omega⟩
     ·go_wp2
      exact ⟨⟨j, by omega, rfl, hj2.out.trans (by rw [ykz _ _ _ (by omega), ykz _ _ _ (by omega)])⟩, by simp [intOf]; omega⟩
   ·go_ret
    rw [hk2.out, zck _ _ hlt (by simp [← UInt8.toNat_inj]; omega) (by simp [← UInt8.toNat_inj]; omega)]
    exact ⟨rfl, rfl⟩
  ·go_wp2
   go_ret
   rw [hk2.out, ykz _ _ _ (by omega)]
   exact ⟨rfl, rfl⟩
set_option maxHeartbeats 1000000 in
theorem zbv (s : ByteArray) (a : Nat) (w : World) (hs : s.size ≤ 20000) (ha : a ≤ s.size) :
  Calls Tryz.prog 31 #[.string s, .int .i64 a] w fun e w' => e = .returned (.int .i64 (yay s false a)) ∧ w = w' := by
 go_enter Tryz.func31, Tryz.ntmps31
 go_wp2
 go_loop [1] (fun i => ∃ k : Nat, k ≤ s.size ∧ i = .int .i64 k ∧ Hid (yay s false a = yay s false k)) (fun i => s.size - (intOf i).toNat)
 case atStart => exact ⟨a, ha, rfl, rfl⟩
 case round =>
  obtain ⟨k, hk, rfl, hk2⟩ := hrel
  by_cases hlt : k < s.size
  ·go_wp2
   all_goals try simp only [beq_iff_eq, beq_eq_false_iff_ne, ne_eq] at *
   iterate 4 exact ⟨⟨k + 1, by omega, by go_num, hk2.out.trans (yyc s k hlt (by simp [← UInt8.toNat_inj]; omega))⟩, by simp [intOf]; omega⟩
   ·go_loop [1] (fun i => ∃ j : Nat, k ≤ j ∧ j ≤ s.size ∧ i = .int .i64 j ∧ (k < j ∨ (j = k ∧ s[k].toNat = 35)) ∧ Hid (yay s false a = yay s true j)) (fun i => s.size - (intOf i).toNat)
    case atStart => exact ⟨k, by omega, by omega, rfl, .inr ⟨rfl, by omega⟩, hk2.out.trans (zcj s k hlt (by simp [← UInt8.toNat_inj]; omega))⟩
    case round =>
     obtain ⟨j, hj, hj', rfl, hjk, hj2⟩ := hrel
     by_cases hlj : j < s.size
     ·go_wp2
      all_goals try simp only [bne_iff_ne, bne_eq_false_iff_eq, ne_eq] at *
      ·exact ⟨⟨j + 1, by omega, by omega, by go_num, .inl (by omega), hj2.out.trans (zju s j hlj (by simp [← UInt8.toNat_inj]; omega))⟩, by simp [intOf]; omega⟩
      ·have hkj : k < j := by rcases hjk with h | ⟨rfl, h⟩ <;> omega
       exact ⟨⟨j, by omega, rfl, hj2.out.trans (zjv s j hlj (by simp [← UInt8.toNat_inj]; omega))⟩, by simp [intOf]; omega⟩
     ·go_wp2
      exact ⟨⟨j, by omega, rfl, hj2.out.trans (by rw [ykz _ _ _ (by omega), ykz _ _ _ (by omega)])⟩, by simp [intOf]; omega⟩
   ·go_ret
    rw [hk2.out, zck _ _ hlt (by simp [← UInt8.toNat_inj]; omega) (by simp [← UInt8.toNat_inj]; omega)]
    exact ⟨rfl, rfl⟩
  ·go_wp2
   go_ret
   rw [hk2.out, ykz _ _ _ (by omega)]
   exact ⟨rfl, rfl⟩
def zsh (ds : List UInt8) (w : World) (e : Ending) (w' : World) : Prop :=
 w = w' ∧ ((∃ v : Nat, yja ds = some v ∧ e = .returned (.tuple #[.int .i64 v, .bool true])) ∨ (∃ u : Int, yja ds = none ∧ e = .returned (.tuple #[.int .i64 u, .bool false])))
set_option maxHeartbeats 1000000 in
theorem number_any (s : ByteArray) (w : World) (hs : s.size ≤ 20000) (h0 : 0 < s.size) (hd : Hid (∀ c ∈ yad s 0, yba c = true)) :
  Calls Tryz.prog 81 #[.string s] w (zsh (yad s 0) w) := by
 have hh : Hid _ := Lib.hid (zdu s h0)
 have hl : Hid _ := Lib.hid (ycb s 0)
 go_enter Tryz.func81, Tryz.ntmps81
 go_wp2
 ·go_ret2
  exact ⟨rfl, .inr ⟨0, ysy _ (by rw [hl.out]; omega) (by rw [hh.out]; simp [← UInt8.toNat_inj]; omega), rfl⟩⟩
 all_goals
  have hz : Hid (¬ (1 < (yad s 0).length ∧ (yad s 0).head? = some 48)) := Lib.hid (by rw [hl.out, hh.out]; simp [← UInt8.toNat_inj]; omega)
  go_loop [4, 5, 16] (fun v _ i => ∃ k n : Nat, k ≤ s.size ∧ i = .int .i64 k ∧ n ≤ 1073741824 ∧ v = .int .i64 n ∧ Hid (n = yuj 0 ((yad s 0).take k))) (fun _ _ i => s.size - (intOf i).toNat)
  case atStart => exact ⟨0, 0, by omega, rfl, by omega, rfl, by rw [List.take_zero, yqy]; rfl⟩
  case round =>
   obtain ⟨k, n, hk, rfl, hn, rfl, hv⟩ := hrel
   by_cases hlt : k < s.size
   ·have hb := zfl s[k] (hd.out _ (zbg s k hlt))
    have hb1 := hb.1
    have hb2 := hb.2
    clear hb
    go_wp2
    ·go_ret2
     exact ⟨rfl, .inr ⟨0, numRes_big _ (k + 1) (by rw [zgh s k hlt, ← hv.out]; have := zkr n s[k] hb1; omega), rfl⟩⟩
    ·have hdi := zkr n s[k] hb1
     exact ⟨⟨k + 1, dig n s[k], by omega, by go_num, by omega, by rw [hdi], by rw [zgh s k hlt, ← hv.out]; rfl⟩, by simp [intOf]; omega⟩
   ·go_wp2
    go_ret2
    have h1 := hv.out
    rw [yzn _ _ (by omega)] at h1
    exact ⟨rfl, .inl ⟨n, by rw [h1]; exact zbl _ hz.out (by omega), rfl⟩⟩
set_option maxHeartbeats 1000000 in
theorem zcb (s : ByteArray) (w : World) (hs : s.size ≤ 20000) (h0 : 0 < s.size) (hd : Hid (∀ c ∈ yad s 0, yba c = true)) :
  Calls Tryz.prog 63 #[.string s] w (zsh (yad s 0) w) := by
 have hh : Hid _ := Lib.hid (zdu s h0)
 have hl : Hid _ := Lib.hid (ycb s 0)
 go_enter Tryz.func63, Tryz.ntmps63
 by_cases h10 : 10 < s.size
 ·go_wp2
  all_goals go_ret2
  all_goals exact ⟨rfl, .inr ⟨0, numRes_long _ hd.out (by rw [hl.out]; omega), rfl⟩⟩
 by_cases hq : 1 < s.size ∧ s[0].toNat = 48
 ·obtain ⟨hq1, hq2⟩ := hq
  have hq3 : ((s[0].toNat : Int) == 48) = true := by simp; omega
  go_wp2
  go_ret2
  exact ⟨rfl, .inr ⟨0, ysy _ (by rw [hl.out]; omega) (by rw [hh.out]; simp [← UInt8.toNat_inj]; omega), rfl⟩⟩
 ·have hz : Hid (¬ (1 < (yad s 0).length ∧ (yad s 0).head? = some 48)) := Lib.hid (by rw [hl.out, hh.out]; simp [← UInt8.toNat_inj]; omega)
  have hq' : s.size ≤ 1 ∨ (1 < s.size ∧ ((s[0].toNat : Int) == 48) = false) := by
   rcases Nat.lt_or_ge 1 s.size with h | h
   ·exact .inr ⟨h, by simp; omega⟩
   ·exact .inl h
  clear hq
  rcases hq' with hq | ⟨hq, hq2⟩
  all_goals
   go_wp2
   go_loop [4, 5] (fun v i => ∃ k n : Nat, k ≤ s.size ∧ i = .int .i64 k ∧ n ≤ 9999999999 ∧ v = .int .i64 n ∧ Hid (n = yuj 0 ((yad s 0).take k))) (fun _ i => s.size - (intOf i).toNat)
   case atStart => exact ⟨0, 0, by omega, rfl, by omega, rfl, by rw [List.take_zero, yqy]; rfl⟩
   case round =>
    obtain ⟨k, n, hk, rfl, hn, rfl, hv⟩ := hrel
    by_cases hlt : k < s.size
    ·have hb := zfl s[k] (hd.out _ (zbg s k hlt))
     have hb1 := hb.1
     have hb2 := hb.2
     clear hb
     go_wp2
     have hdi := zkr n s[k] hb1
     have hs1 := zgh s k hlt
     have hs2 := num_take_bd (yad s 0) (k + 1) hd.out (by rw [hl.out]; omega)
     rw [hs1, ← hv.out] at hs2
     exact ⟨⟨k + 1, dig n s[k], by omega, by go_num, hs2, by rw [hdi], by rw [hs1, ← hv.out]; rfl⟩, by simp [intOf]; omega⟩
    ·by_cases hm : n ≤ 1073741824
     ·go_wp2
      go_ret2
      have h1 := hv.out
      rw [yzn _ _ (by omega)] at h1
      refine ⟨rfl, .inl ⟨n, by rw [h1]; exact zbl _ hz.out (by omega), ?_⟩⟩
      first | rfl | (simp; omega)
     ·go_wp2
      go_ret2
      have h1 := hv.out
      rw [yzn _ _ (by omega)] at h1
      refine ⟨rfl, .inr ⟨n, zis _ (by omega), ?_⟩⟩
      first | rfl | (simp; omega)
end
section
open Go.RowKit
theorem reserved_any (s : ByteArray) (w : World) :
  Calls Tryz.prog 112 #[.string s] w fun e w' => e = .returned (.bool (zqy s)) ∧ w = w' := by
 rcases Bool.eq_false_or_eq_true (s.toList == [112, 114, 111, 103, 114, 97, 109]) with q0 | q0
 ·have H := Lib.hid (yau s _ (by decide) q0)
  go_enter Tryz.func112, Tryz.ntmps112
  go_wp2
  go_ret
  exact ⟨yae H.out.symm, rfl⟩
 rcases Bool.eq_false_or_eq_true (s.toList == [118, 97, 114]) with q1 | q1
 ·have H := Lib.hid (yau s _ (by decide) q1)
  go_enter Tryz.func112, Tryz.ntmps112
  go_wp2
  go_ret
  exact ⟨yae H.out.symm, rfl⟩
 rcases Bool.eq_false_or_eq_true (s.toList == [114, 117, 108, 101]) with q2 | q2
 ·have H := Lib.hid (yau s _ (by decide) q2)
  go_enter Tryz.func112, Tryz.ntmps112
  go_wp2
  go_ret
  exact ⟨yae H.out.symm, rfl⟩
 rcases Bool.eq_false_or_eq_true (s.toList == [98, 111, 111, 108]) with q3 | q3
 ·have H := Lib.hid (yau s _ (by decide) q3)
  go_enter Tryz.func112, Tryz.ntmps112
  go_wp2
  go_ret
  exact ⟨yae H.out.symm, rfl⟩
 rcases Bool.eq_false_or_eq_true (s.toList == [112, 111, 114, 116]) with q4 | q4
 ·have H := Lib.hid (yau s _ (by decide) q4)
  go_enter Tryz.func112, Tryz.ntmps112
  go_wp2
  go_ret
  exact ⟨yae H.out.symm, rfl⟩
 rcases Bool.eq_false_or_eq_true (s.toList == [116, 114, 117, 101]) with q5 | q5
 ·have H := Lib.hid (yau s _ (by decide) q5)
  go_enter Tryz.func112, Tryz.ntmps112
  go_wp2
  go_ret
  exact ⟨yae H.out.symm, rfl⟩
 rcases Bool.eq_false_or_eq_true (s.toList == [102, 97, 108, 115, 101]) with q6 | q6
 ·have H := Lib.hid (yau s _ (by decide) q6)
  go_enter Tryz.func112, Tryz.ntmps112
  go_wp2
  go_ret
  exact ⟨yae H.out.symm, rfl⟩
 rcases Bool.eq_false_or_eq_true (s.toList == [110, 111, 110, 101]) with q7 | q7
 ·have H := Lib.hid (yau s _ (by decide) q7)
  go_enter Tryz.func112, Tryz.ntmps112
  go_wp2
  go_ret
  exact ⟨yae H.out.symm, rfl⟩
 rcases Bool.eq_false_or_eq_true (s.toList == [110]) with q8 | q8
 ·have H := Lib.hid (yau s _ (by decide) q8)
  go_enter Tryz.func112, Tryz.ntmps112
  go_wp2
  go_ret
  exact ⟨yae H.out.symm, rfl⟩
 rcases Bool.eq_false_or_eq_true (s.toList == [105, 100, 115]) with q9 | q9
 ·have H := Lib.hid (yau s _ (by decide) q9)
  go_enter Tryz.func112, Tryz.ntmps112
  go_wp2
  go_ret
  exact ⟨yae H.out.symm, rfl⟩
 rcases Bool.eq_false_or_eq_true (s.toList == [105, 100]) with q10 | q10
 ·have H := Lib.hid (yau s _ (by decide) q10)
  go_enter Tryz.func112, Tryz.ntmps112
  go_wp2
  go_ret
  exact ⟨yae H.out.symm, rfl⟩
 rcases Bool.eq_false_or_eq_true (s.toList == [100, 101, 103]) with q11 | q11
 ·have H := Lib.hid (yau s _ (by decide) q11)
  go_enter Tryz.func112, Tryz.ntmps112
  go_wp2
  go_ret
  exact ⟨yae H.out.symm, rfl⟩
 rcases Bool.eq_false_or_eq_true (s.toList == [114, 111, 111, 116]) with q12 | q12
 ·have H := Lib.hid (yau s _ (by decide) q12)
  go_enter Tryz.func112, Tryz.ntmps112
  go_wp2
  go_ret
  exact ⟨yae H.out.symm, rfl⟩
 rcases Bool.eq_false_or_eq_true (s.toList == [113]) with q13 | q13
 ·have H := Lib.hid (yau s _ (by decide) q13)
  go_enter Tryz.func112, Tryz.ntmps112
  go_wp2
  go_ret
  exact ⟨yae H.out.symm, rfl⟩
 rcases Bool.eq_false_or_eq_true (s.toList == [119, 101, 105, 103, 104, 116]) with q14 | q14
 ·have H := Lib.hid (yau s _ (by decide) q14)
  go_enter Tryz.func112, Tryz.ntmps112
  go_wp2
  go_ret
  exact ⟨yae H.out.symm, rfl⟩
 rcases Bool.eq_false_or_eq_true (s.toList == [98, 97, 99, 107]) with q15 | q15
 ·have H := Lib.hid (yau s _ (by decide) q15)
  go_enter Tryz.func112, Tryz.ntmps112
  go_wp2
  go_ret
  exact ⟨yae H.out.symm, rfl⟩
 rcases Bool.eq_false_or_eq_true (s.toList == [97, 108, 108]) with q16 | q16
 ·have H := Lib.hid (yau s _ (by decide) q16)
  go_enter Tryz.func112, Tryz.ntmps112
  go_wp2
  go_ret
  exact ⟨yae H.out.symm, rfl⟩
 rcases Bool.eq_false_or_eq_true (s.toList == [115, 111, 109, 101]) with q17 | q17
 ·have H := Lib.hid (yau s _ (by decide) q17)
  go_enter Tryz.func112, Tryz.ntmps112
  go_wp2
  go_ret
  exact ⟨yae H.out.symm, rfl⟩
 rcases Bool.eq_false_or_eq_true (s.toList == [99, 111, 117, 110, 116]) with q18 | q18
 ·have H := Lib.hid (yau s _ (by decide) q18)
  go_enter Tryz.func112, Tryz.ntmps112
  go_wp2
  go_ret
  exact ⟨yae H.out.symm, rfl⟩
 rcases Bool.eq_false_or_eq_true (s.toList == [102, 105, 114, 115, 116]) with q19 | q19
 ·have H := Lib.hid (yau s _ (by decide) q19)
  go_enter Tryz.func112, Tryz.ntmps112
  go_wp2
  go_ret
  exact ⟨yae H.out.symm, rfl⟩
 rcases Bool.eq_false_or_eq_true (s.toList == [109, 105, 110]) with q20 | q20
 ·have H := Lib.hid (yau s _ (by decide) q20)
  go_enter Tryz.func112, Tryz.ntmps112
  go_wp2
  go_ret
  exact ⟨yae H.out.symm, rfl⟩
 rcases Bool.eq_false_or_eq_true (s.toList == [109, 97, 120]) with q21 | q21
 ·have H := Lib.hid (yau s _ (by decide) q21)
  go_enter Tryz.func112, Tryz.ntmps112
  go_wp2
  go_ret
  exact ⟨yae H.out.symm, rfl⟩
 rcases Bool.eq_false_or_eq_true (s.toList == [115, 117, 109]) with q22 | q22
 ·have H := Lib.hid (yau s _ (by decide) q22)
  go_enter Tryz.func112, Tryz.ntmps112
  go_wp2
  go_ret
  exact ⟨yae H.out.symm, rfl⟩
 rcases Bool.eq_false_or_eq_true (s.toList == [109, 101, 120]) with q23 | q23
 ·have H := Lib.hid (yau s _ (by decide) q23)
  go_enter Tryz.func112, Tryz.ntmps112
  go_wp2
  go_ret
  exact ⟨yae H.out.symm, rfl⟩
 rcases Bool.eq_false_or_eq_true (s.toList == [115, 101, 99, 111, 110, 100]) with q24 | q24
 ·have H := Lib.hid (yau s _ (by decide) q24)
  go_enter Tryz.func112, Tryz.ntmps112
  go_wp2
  go_ret
  exact ⟨yae H.out.symm, rfl⟩
 rcases Bool.eq_false_or_eq_true (s.toList == [104, 101, 97, 100]) with q25 | q25
 ·have H := Lib.hid (yau s _ (by decide) q25)
  go_enter Tryz.func112, Tryz.ntmps112
  go_wp2
  go_ret
  exact ⟨yae H.out.symm, rfl⟩
 have H := Lib.hid (zqz s q0 q1 q2 q3 q4 q5 q6 q7 q8 q9 q10 q11 q12 q13 q14 q15 q16 q17 q18 q19 q20 q21 q22 q23 q24 q25)
 go_enter Tryz.func112, Tryz.ntmps112
 go_wp2
 go_ret
 exact ⟨yae H.out.symm, rfl⟩
set_option maxHeartbeats 4000000 in
theorem rreserved_any (s : ByteArray) (w : World) :
  Calls Tryz.prog 118 #[.string s] w fun e w' => e = .returned (.bool (zqy s)) ∧ w = w' := by
 rcases Bool.eq_false_or_eq_true (s.toList == [112, 114, 111, 103, 114, 97, 109]) with q0 | q0
 ·have H := Lib.hid (yau s _ (by decide) q0)
  go_enter Tryz.func118, Tryz.ntmps118
  go_wp2
  go_ret
  exact ⟨yae H.out.symm, rfl⟩
 rcases Bool.eq_false_or_eq_true (s.toList == [118, 97, 114]) with q1 | q1
 ·have H := Lib.hid (yau s _ (by decide) q1)
  go_enter Tryz.func118, Tryz.ntmps118
  go_wp2
  go_ret
  exact ⟨yae H.out.symm, rfl⟩
 rcases Bool.eq_false_or_eq_true (s.toList == [114, 117, 108, 101]) with q2 | q2
 ·have H := Lib.hid (yau s _ (by decide) q2)
  go_enter Tryz.func118, Tryz.ntmps118
  go_wp2
  go_ret
  exact ⟨yae H.out.symm, rfl⟩
 rcases Bool.eq_false_or_eq_true (s.toList == [98, 111, 111, 108]) with q3 | q3
 ·have H := Lib.hid (yau s _ (by decide) q3)
  go_enter Tryz.func118, Tryz.ntmps118
  go_wp2
  go_ret
  exact ⟨yae H.out.symm, rfl⟩
 rcases Bool.eq_false_or_eq_true (s.toList == [112, 111, 114, 116]) with q4 | q4
 ·have H := Lib.hid (yau s _ (by decide) q4)
  go_enter Tryz.func118, Tryz.ntmps118
  go_wp2
  go_ret
  exact ⟨yae H.out.symm, rfl⟩
 rcases Bool.eq_false_or_eq_true (s.toList == [116, 114, 117, 101]) with q5 | q5
 ·have H := Lib.hid (yau s _ (by decide) q5)
  go_enter Tryz.func118, Tryz.ntmps118
  go_wp2
  go_ret
  exact ⟨yae H.out.symm, rfl⟩
 rcases Bool.eq_false_or_eq_true (s.toList == [102, 97, 108, 115, 101]) with q6 | q6
 ·have H := Lib.hid (yau s _ (by decide) q6)
  go_enter Tryz.func118, Tryz.ntmps118
  go_wp2
  go_ret
  exact ⟨yae H.out.symm, rfl⟩
 rcases Bool.eq_false_or_eq_true (s.toList == [110, 111, 110, 101]) with q7 | q7
 ·have H := Lib.hid (yau s _ (by decide) q7)
  go_enter Tryz.func118, Tryz.ntmps118
  go_wp2
  go_ret
  exact ⟨yae H.out.symm, rfl⟩
 rcases Bool.eq_false_or_eq_true (s.toList == [110]) with q8 | q8
 ·have H := Lib.hid (yau s _ (by decide) q8)
  go_enter Tryz.func118, Tryz.ntmps118
  go_wp2
  go_ret
  exact ⟨yae H.out.symm, rfl⟩
 rcases Bool.eq_false_or_eq_true (s.toList == [105, 100, 115]) with q9 | q9
 ·have H := Lib.hid (yau s _ (by decide) q9)
  go_enter Tryz.func118, Tryz.ntmps118
  go_wp2
  go_ret
  exact ⟨yae H.out.symm, rfl⟩
 rcases Bool.eq_false_or_eq_true (s.toList == [105, 100]) with q10 | q10
 ·have H := Lib.hid (yau s _ (by decide) q10)
  go_enter Tryz.func118, Tryz.ntmps118
  go_wp2
  go_ret
  exact ⟨yae H.out.symm, rfl⟩
 rcases Bool.eq_false_or_eq_true (s.toList == [100, 101, 103]) with q11 | q11
 ·have H := Lib.hid (yau s _ (by decide) q11)
  go_enter Tryz.func118, Tryz.ntmps118
  go_wp2
  go_ret
  exact ⟨yae H.out.symm, rfl⟩
 rcases Bool.eq_false_or_eq_true (s.toList == [114, 111, 111, 116]) with q12 | q12
 ·have H := Lib.hid (yau s _ (by decide) q12)
  go_enter Tryz.func118, Tryz.ntmps118
  go_wp2
  go_ret
  exact ⟨yae H.out.symm, rfl⟩
 rcases Bool.eq_false_or_eq_true (s.toList == [113]) with q13 | q13
 ·have H := Lib.hid (yau s _ (by decide) q13)
  go_enter Tryz.func118, Tryz.ntmps118
  go_wp2
  go_ret
  exact ⟨yae H.out.symm, rfl⟩
 rcases Bool.eq_false_or_eq_true (s.toList == [119, 101, 105, 103, 104, 116]) with q14 | q14
 ·have H := Lib.hid (yau s _ (by decide) q14)
  go_enter Tryz.func118, Tryz.ntmps118
  go_wp2
  go_ret
  exact ⟨yae H.out.symm, rfl⟩
 rcases Bool.eq_false_or_eq_true (s.toList == [98, 97, 99, 107]) with q15 | q15
 ·have H := Lib.hid (yau s _ (by decide) q15)
  go_enter Tryz.func118, Tryz.ntmps118
  go_wp2
  go_ret
  exact ⟨yae H.out.symm, rfl⟩
 rcases Bool.eq_false_or_eq_true (s.toList == [97, 108, 108]) with q16 | q16
 ·have H := Lib.hid (yau s _ (by decide) q16)
  go_enter Tryz.func118, Tryz.ntmps118
  go_wp2
  go_ret
  exact ⟨yae H.out.symm, rfl⟩
 rcases Bool.eq_false_or_eq_true (s.toList == [115, 111, 109, 101]) with q17 | q17
 ·have H := Lib.hid (yau s _ (by decide) q17)
  go_enter Tryz.func118, Tryz.ntmps118
  go_wp2
  go_ret
  exact ⟨yae H.out.symm, rfl⟩
 rcases Bool.eq_false_or_eq_true (s.toList == [99, 111, 117, 110, 116]) with q18 | q18
 ·have H := Lib.hid (yau s _ (by decide) q18)
  go_enter Tryz.func118, Tryz.ntmps118
  go_wp2
  go_ret
  exact ⟨yae H.out.symm, rfl⟩
 rcases Bool.eq_false_or_eq_true (s.toList == [102, 105, 114, 115, 116]) with q19 | q19
 ·have H := Lib.hid (yau s _ (by decide) q19)
  go_enter Tryz.func118, Tryz.ntmps118
  go_wp2
  go_ret
  exact ⟨yae H.out.symm, rfl⟩
 rcases Bool.eq_false_or_eq_true (s.toList == [109, 105, 110]) with q20 | q20
 ·have H := Lib.hid (yau s _ (by decide) q20)
  go_enter Tryz.func118, Tryz.ntmps118
  go_wp2
  go_ret
  exact ⟨yae H.out.symm, rfl⟩
 rcases Bool.eq_false_or_eq_true (s.toList == [109, 97, 120]) with q21 | q21
 ·have H := Lib.hid (yau s _ (by decide) q21)
  go_enter Tryz.func118, Tryz.ntmps118
  go_wp2
  go_ret
  exact ⟨yae H.out.symm, rfl⟩
 rcases Bool.eq_false_or_eq_true (s.toList == [115, 117, 109]) with q22 | q22
 ·have H := Lib.hid (yau s _ (by decide) q22)
  go_enter Tryz.func118, Tryz.ntmps118
  go_wp2
  go_ret
  exact ⟨yae H.out.symm, rfl⟩
 rcases Bool.eq_false_or_eq_true (s.toList == [109, 101, 120]) with q23 | q23
 ·have H := Lib.hid (yau s _ (by decide) q23)
  go_enter Tryz.func118, Tryz.ntmps118
  go_wp2
  go_ret
  exact ⟨yae H.out.symm, rfl⟩
 rcases Bool.eq_false_or_eq_true (s.toList == [115, 101, 99, 111, 110, 100]) with q24 | q24
 ·have H := Lib.hid (yau s _ (by decide) q24)
  go_enter Tryz.func118, Tryz.ntmps118
  go_wp2
  go_ret
  exact ⟨yae H.out.symm, rfl⟩
 rcases Bool.eq_false_or_eq_true (s.toList == [104, 101, 97, 100]) with q25 | q25
 ·have H := Lib.hid (yau s _ (by decide) q25)
  go_enter Tryz.func118, Tryz.ntmps118
  go_wp2
  go_ret
  exact ⟨yae H.out.symm, rfl⟩
 have H := Lib.hid (zqz s q0 q1 q2 q3 q4 q5 q6 q7 q8 q9 q10 q11 q12 q13 q14 q15 q16 q17 q18 q19 q20 q21 q22 q23 q24 q25)
 go_enter Tryz.func118, Tryz.ntmps118
 go_wp2
 go_ret
 exact ⟨yae H.out.symm, rfl⟩
theorem yks (s : ByteArray) (w : World) (hs : s.size ≤ 9223372036854775807) :
  Calls Tryz.prog 88 #[.string s] w fun e w' => e = .returned (.bool (yie s)) ∧ w = w' := by
 by_cases h0 : s.size = 0
 ·have H := Lib.hid (zbh s h0)
  have h0' : s.size < 1 := by omega
  clear h0
  go_enter Tryz.func88, Tryz.ntmps88
  go_wp2
  go_ret
  exact ⟨yae H.out.symm, rfl⟩
 have h0' : 0 < s.size := by omega
 clear h0
 by_cases h24 : 24 < s.size
 ·have H := Lib.hid (zdz s h24)
  go_enter Tryz.func88, Tryz.ntmps88
  go_wp2
  go_ret
  exact ⟨yae H.out.symm, rfl⟩
 cases hl : ycp s[0]
 ·have H := Lib.hid (yxv s h0' hl)
  go_enter Tryz.func88, Tryz.ntmps88
  go_wp2_with (go_at_call 78; refine (ykx _ _).mono ?_; rintro e w' ⟨rfl, rfl⟩)
  go_ret
  exact ⟨yae H.out.symm, rfl⟩
 go_enter Tryz.func88, Tryz.ntmps88
 go_wp2_with (go_at_call 78; refine (ykx _ _).mono ?_; rintro e w' ⟨rfl, rfl⟩)
 go_loop [3, 20] (fun _ i => ∃ k : Nat, k ≤ s.size ∧ i = .int .i64 k ∧ Hid (((yad s 0).take k).all ydu = true)) (fun _ i => s.size - (intOf i).toNat)
 case atStart => exact ⟨0, by omega, rfl, rfl⟩
 case round =>
  obtain ⟨k, hk, rfl, ha⟩ := hrel
  by_cases hlt : k < s.size
  ·cases hw : ydu s[k]
   ·have H := Lib.hid (zeb s k hlt hw)
    go_wp2_with (go_at_call 79; refine (yvz _ _).mono ?_; rintro e w' ⟨rfl, rfl⟩)
    go_ret
    exact ⟨yae H.out.symm, rfl⟩
   ·have H := Lib.hid (zls s k hlt ha.out hw)
    go_wp2_with (go_at_call 79; refine (yvz _ _).mono ?_; rintro e w' ⟨rfl, rfl⟩)
    exact ⟨⟨k + 1, by omega, by go_num, H⟩, by simp [intOf]; omega⟩
  ·obtain rfl : k = s.size := by omega
   have H := Lib.hid (zea s h0' (by omega) hl ha.out)
   go_wp2_with (go_at_call 112; refine (reserved_any _ _).mono ?_; rintro e w' ⟨rfl, rfl⟩)
   go_ret
   exact ⟨yae H.out.symm, rfl⟩
set_option maxHeartbeats 1000000 in
theorem ynv (s : ByteArray) (w : World) (hs : s.size ≤ 9223372036854775807) :
  Calls Tryz.prog 97 #[.string s] w fun e w' => e = .returned (.bool (yie s)) ∧ w = w' := by
 by_cases h0 : s.size = 0
 ·have H := Lib.hid (zbh s h0)
  have h0' : s.size < 1 := by omega
  clear h0
  go_enter Tryz.func97, Tryz.ntmps97
  go_wp2
  go_ret
  exact ⟨yae H.out.symm, rfl⟩
 have h0' : 0 < s.size := by omega
 clear h0
 by_cases h24 : 24 < s.size
 ·have H := Lib.hid (zdz s h24)
  go_enter Tryz.func97, Tryz.ntmps97
  go_wp2
  go_ret
  exact ⟨yae H.out.symm, rfl⟩
 cases hl : ycp s[0]
 ·have H := Lib.hid (yxv s h0' hl)
  go_enter Tryz.func97, Tryz.ntmps97
  go_wp2_with (go_at_call 60; refine (yht _ _).mono ?_; rintro e w' ⟨rfl, rfl⟩)
  go_ret
  exact ⟨yae H.out.symm, rfl⟩
 go_enter Tryz.func97, Tryz.ntmps97
 go_wp2_with (go_at_call 60; refine (yht _ _).mono ?_; rintro e w' ⟨rfl, rfl⟩)
 go_loop [3] (fun i => ∃ k : Nat, k ≤ s.size ∧ i = .int .i64 k ∧ Hid (((yad s 0).take k).all ydu = true)) (fun i => s.size - (intOf i).toNat)
 case atStart => exact ⟨1, by omega, rfl, by rw [ybm s 0 h0']; show (List.take 1 _).all ydu = true; simp [ydu, hl]⟩
 case round =>
  obtain ⟨k, hk, rfl, ha⟩ := hrel
  by_cases hlt : k < s.size
  ·cases hw : ydu s[k]
   ·have H := Lib.hid (zeb s k hlt hw)
    go_wp2_with (go_at_call 61; refine (yjk _ _).mono ?_; rintro e w' ⟨rfl, rfl⟩)
    go_ret
    exact ⟨yae H.out.symm, rfl⟩
   ·have H := Lib.hid (zls s k hlt ha.out hw)
    go_wp2_with (go_at_call 61; refine (yjk _ _).mono ?_; rintro e w' ⟨rfl, rfl⟩)
    exact ⟨⟨k + 1, by omega, by go_num, H⟩, by simp [intOf]; omega⟩
  ·obtain rfl : k = s.size := by omega
   have H := Lib.hid (zea s h0' (by omega) hl ha.out)
   go_wp2_with (go_at_call 118; refine (rreserved_any _ _).mono ?_; rintro e w' ⟨rfl, rfl⟩)
   go_ret
   exact ⟨yae H.out.symm, rfl⟩
end
set_option maxHeartbeats 4000000
section
open Go.RowKit
def yce (t : Tok) : List AV := [i64 t.kind, i64 t.from_, i64 t.to, i64 t.num]
def ybh (l : List Bs) : AV := .sl 1 (l.map fun x => [ycj (ba x)])
def rdO (s : ByteArray) (ts : List Tok) (names : List Bs) (us : List Value) : LObj := .cells (ycj s :: .sl 4 (ts.map yce) :: ybh names :: us.map .v)
def rdH (s : ByteArray) (ts : List Tok) (names : List Bs) (us : List Value) : List (Nat × Option LObj) := [(1001, some (rdO s ts names us))]
theorem zja {s : ByteArray} {ts ts' : List Tok} {names : List Bs} {us : List Value} {N : Nat} (hN : Nat.ble N 1001 = true) : ∀ id o, yaf (rdH s ts' names us) id = some o → isC o = true → N ≤ id ∧ ∃ o', yaf (rdH s ts names us) id = some o' ∧ isC o' = true := by
 intro id o ho hc
 simp only [rdH, yaf] at ho ⊢
 cases h1 : Nat.beq id 1001 with
 | true => have := Nat.eq_of_beq_eq_true h1; exact ⟨by simp only [Nat.ble_eq] at hN; omega, _, rfl, rfl⟩
 | false => simp only [h1] at ho; cases ho
theorem zio (b : Nat) : Nat.beq b b = true := Nat.beq_refl b
theorem ztd (σ : Nat → Nat) (us : List Value) : ygc.renL σ (us.map .v) = us.map .v := yhf.rows (by induction us with | nil => rfl | cons u us ih => simp [ybc.pureL, ybc, ih])
theorem zlc (σ : Nat → Nat) (s : ByteArray) (ts : List Tok) (names : List Bs) (us : List Value) : yzf σ (rdO s ts names us) = rdO s ts names us := by
 simp only [rdO, yzf, ygc.renL, ztd]; rfl
theorem zlb (ids : List Nat) (us : List Value) : ygz.onlyL ids (us.map .v) = true := by induction us with | nil => rfl | cons u us ih => simp [ygz.onlyL, ygz, ih]
theorem zqm (d : Nat) (us : List Value) : ment.mentL d (us.map .v) = false := by induction us with | nil => rfl | cons u us ih => simp [ment.mentL, ment, ih]
theorem zmm {d : Nat} {s : ByteArray} {ts : List Tok} {names : List Bs} {us : List Value} {h : List (Nat × Option LObj)} (hd : Nat.beq d 1001 = false) (hf : yen d h = true) : yen d ((1001, some (rdO s ts names us)) :: h) = true := by
 simp [yen, hd, hf, ygr, rdO, ment.mentL, zqm, ment, ycj, ybh]
theorem yvw {d id : Nat} {xs : List AV} {h : List (Nat × Option LObj)} (h1 : Nat.beq d id = false) (h2 : ment.mentL d xs = false) (hf : yen d h = true) : yen d ((id, some (.cells xs)) :: h) = true := by
 simp [yen, h1, hf, ygr, h2]
def zaw (b : Nat) (y : AV) : Bool := match ment b y with
 | false => true
 | true => match y with
  | .lp _ _ => true
  | .fm _ [.lp _ _] => true
  | _ => false
def yjh (b : Nat) : List (Nat × AV) → Bool
 | [] => true
 | (_, y) :: t => match zaw b y with
  | true => yjh b t
  | false => false
theorem ynu {ids : List Nat} : ∀ {x : AV}, ybc x = true → ygz ids x = true
 | .v _, _ => rfl
 | .any, _ => rfl
 | .one, _ => rfl
 | .sl _ _, _ => rfl
 | .dp _ _, _ => rfl
 | .mv _, _ => rfl
 | .agg cs, h => rows (cs := cs) h
 | .tup cs, h => rows (cs := cs) h
 | .fn _ cs, h => rows (cs := cs) h
 | .fm _ cs, h => rows (cs := cs) h
 where rows : ∀ {cs : List AV}, ybc.pureL cs = true → ygz.onlyL ids cs = true
 | [], _ => rfl
 | c :: cs, h => by
  simp only [ybc.pureL, Bool.and_eq_true] at h
  simp only [ygz.onlyL, ynu h.1, rows h.2, Bool.and_self]
theorem zif {b : Nat} {y : AV} {hs' : List (Nat × Option LObj)} (hc : zfw (yaf hs' 1001) = true) (h : zaw b y = true) : zfx [(1001, b)] hs' y = true := by
 simp only [zaw] at h
 simp only [zfx, ysv, ycv]
 cases hm : ment b y with
 | false => rfl
 | true =>
  simp only [hm] at h
  cases y with
  | lp j off =>
   have e : j = b := Nat.eq_of_beq_eq_true hm
   subst e
   simp only [yxo]
   rw [Nat.beq_refl]
   exact hc
  | fm f l =>
   cases l with
   | nil => cases h
   | cons c l =>
    cases c with
    | lp j off =>
     cases l with
     | nil =>
      have e : j = b := Nat.eq_of_beq_eq_true (by simpa [ment, ment.mentL] using hm)
      subst e
      simp only [yxo]
      rw [Nat.beq_refl]
      exact hc
     | cons _ _ => cases h
    | _ => cases h
  | _ => cases h
section
variable {s : ByteArray} {ts ts' : List Tok} {names : List Bs} {us : List Value}
theorem zqg (b : Nat) : ∀ {t : List (Nat × AV)}, yjh b t = true → yhd [(1001, b)] (rdH s ts names us) t = t
 | [], _ => rfl
 | (x, y) :: t, h => by
  simp only [yjh] at h
  cases ho : zaw b y with
  | true =>
   rw [ho] at h
   simp only [yhd, zif (hs' := rdH s ts names us) rfl ho]
   rw [zqg b h]
  | false => rw [ho] at h; cases h
variable {P : Program} {N : Nat} {ops : Array Oper} {lf : Oper → Bool} {Q : SS → Prop} {t : List (Nat × AV)} {h : List (Nat × Option LObj)} {rest : List Oper} {d : Nat} {ty : TypeId} {pos : String} {af : Array Edge} {gd : Option (Nat × Bool)}
theorem L_rd (b : Nat) {g : Operand} {args : List Operand} {ats : Array TypeId} {f : FuncId} {args0 : List AV} {r : AV} {h' : List (Nat × Option LObj)} (hc : yhb P f (.lp 1001 0 :: args0) (yaf (rdH s ts names us)) r (yaf (rdH s ts' names us))) (hp : ybc.pureL args0 = true) (hpr : ybc r = true) (hg : evF (look t) g = some (.fn f [])) (hx : evL (evF (look t)) args = some (.lp b 0 :: args0))
  (hb : yaf h b = some (rdO s ts names us)) (hk : yjh b t = true) (hh : yim [b] (ynj [b] h) = some h') (hl : lf ⟨some d, .call { callee := .value g, args := args.toArray, argTypes := ats }, ty, pos, af, gd⟩ = true) (hw : yan ops (look t) ⟨some d, .call { callee := .value g, args := args.toArray, argTypes := ats }, ty, pos, af, gd⟩ = some true) (hd : Nat.blt d N = true)
  (k : Lex P N ops lf Q rest (S ((d, r) :: t) ((b, some (rdO s ts' names us)) :: h'))) : Lex P N ops lf Q (⟨some d, .call { callee := .value g, args := args.toArray, argTypes := ats }, ty, pos, af, gd⟩ :: rest) (S t h) := by
 refine yek [(1001, b)] hc hg hx ?_ rfl rfl rfl rfl (yab ?_ yai) (ynu hpr) ?_ hh hl hw hd ?_
 ·simp only [List.append_nil, List.map_cons, ygc, yey]
  congr 1
  rw [← ycu, yhf.rows hp]
 ·rw [zlc]; exact hb
 ·simp only [ymo, rdH, ywf, rdO, ygz.onlyL, zlb]; rfl
 ·rw [zqg b hk, yhf hpr]
  simp only [ylz, rdH, yaf, zlc]
  exact k
theorem qd {g : Operand} {args : List Operand} {ats : Array TypeId} {f : FuncId} {args0 : List AV} {r : AV} {h' : List (Nat × Option LObj)} (b : Nat) (hc : yhb P f (.lp 1001 0 :: args0) (yaf (rdH s ts names us)) r (yaf (rdH s ts' names us))) (k : Lex P N ops lf Q rest (S ((d, r) :: t) ((b, some (rdO s ts' names us)) :: h'))) (hp : ybc.pureL args0 = true := by rfl) (hpr : ybc r = true := by rfl) (hg : evF (look t) g = some (.fn f []) := by rfl) (hx : evL (evF (look t)) args = some (.lp b 0 :: args0) := by rfl) (hb : yaf h b = some (rdO s ts names us) := by rfl) (hk : yjh b t = true := by rfl) (hh : yim [b] (ynj [b] h) = some h' := by rfl) (hl : lf ⟨some d, .call { callee := .value g, args := args.toArray, argTypes := ats }, ty, pos, af, gd⟩ = true := by rfl) (hw : yan ops (look t) ⟨some d, .call { callee := .value g, args := args.toArray, argTypes := ats }, ty, pos, af, gd⟩ = some true := by rfl) (hd : Nat.blt d N = true := by rfl) : Lex P N ops lf Q (⟨some d, .call { callee := .value g, args := args.toArray, argTypes := ats }, ty, pos, af, gd⟩ :: rest) (S t h) :=
 L_rd b hc hp hpr hg hx hb hk hh hl hw hd k
theorem yyo (b : Nat) {dst : Option Tmp} {g : Operand} {args : List Operand} {ats : Array TypeId} {f : FuncId} {args0 : List AV} {ch : List PanicEntry} {D : List PanicEntry → SS → Prop} (hc : zrn P f (.lp 1001 0 :: args0) (yaf (rdH s ts names us)) ch) (hp : ybc.pureL args0 = true) (hg : evF (look t) g = some (.fn f [])) (hx : evL (evF (look t)) args = some (.lp b 0 :: args0))
  (hb : yaf h b = some (rdO s ts names us)) (hD : D ch ⟨fun _ => none, fun _ => none⟩) : zfc P N ⟨dst, .call { callee := .value g, args := args.toArray, argTypes := ats }, ty, pos, af, gd⟩ (S t h) D := by
 refine dieC [(1001, b)] hc hg hx ?_ rfl rfl (yab ?_ yai) hD
 ·simp only [List.append_nil, List.map_cons, ygc, yey]
  congr 1
  rw [← ycu, yhf.rows hp]
 ·rw [zlc]; exact hb
end
def ydd (s : ByteArray) (ts : List Tok) : Prop := ∀ t ∈ ts, t.from_ < t.to ∧ t.to ≤ s.size ∧ (nmW (pwT s t).w = true → t.kind = 1)
theorem ypq {s : ByteArray} {a b : Nat} (h : a ≤ b) (hb : b ≤ s.size) : s.extract a b = ba ((yad s a).take (b - a)) := by
 apply ByteArray.ext
 simp only [ba, yad, ByteArray.data_extract]
 apply Array.ext'
 simp [Array.toList_extract, List.extract]
theorem zfu {s : ByteArray} {t : Tok} {r : List Tok} (h : ydd s (t :: r)) : s.extract t.from_ t.to = ba (ybd ((t :: r).map (pwT s))) := by
 obtain ⟨h1, h2, _⟩ := h t (by simp)
 exact ypq (by omega) h2
def ygp (ts : List Tok) : Nat := match ts with
 | [] => 0
 | t :: _ => t.kind
def yum (s : ByteArray) (ts : List Tok) : Nat := match ts with
 | [] => s.size
 | t :: _ => t.from_
def failV (p e : Int) : Value := .iface 87 (.agg #[.int .i64 p, .int .i64 e])
def zfq (p e : Int) : List PanicEntry := [{ v := failV p e, recovered := false }]
section
variable {s : ByteArray} {ts : List Tok} {names : List Bs} {us : List Value}
theorem ydn (h : ydd s ts) : yhb Tryz.prog 86 [.lp 1001 0] (yaf (rdH s ts names us)) (ycj (ba (ybd (ts.map (pwT s))))) (yaf (rdH s ts names us)) := by
 refine ybb tok Tryz.func86 rfl rfl Tryz.ntmps86 Tryz.results86 rfl (zja rfl) ?_
 show A _ _ _ _ (S _ _)
 cases ts with
 | nil =>
  (try refine zy ?_)
  refine yal ?_
  exact ⟨_, rfl, yam _, yaj (yab rfl yai)⟩
 | cons t r =>
  obtain ⟨h1, h2, _⟩ := h t (by simp)
  (repeat (first | refine zy ?_ | refine yas tok rfl rfl rfl (by omega) rfl rfl rfl ?_ | refine ytm tok rfl rfl rfl rfl (by show (0 : Int) ≤ (t.from_ : Int); omega) (by show (t.from_ : Int) ≤ (t.to : Int); omega) (by show (t.to : Int) ≤ (s.size : Int); omega) rfl rfl ?_))
  refine yal ?_
  refine ⟨_, rfl, ?_, yaj (yab rfl yai)⟩
  rw [← zfu h]
  exact yam _
theorem yfc (h : ydd s ts) : yhb Tryz.prog 87 [.lp 1001 0] (yaf (rdH s ts names us)) (i64 (ygp ts)) (yaf (rdH s ts names us)) := by
 refine ybb tok Tryz.func87 rfl rfl Tryz.ntmps87 Tryz.results87 rfl (zja rfl) ?_
 show A _ _ _ _ (S _ _)
 cases ts with
 | nil =>
  (try refine zy ?_)
  refine yal ?_
  exact ⟨_, rfl, yam _, yaj (yab rfl yai)⟩
 | cons t r =>
  (repeat (first | refine zy ?_ | refine yas tok rfl rfl rfl (by omega) rfl rfl rfl ?_))
  refine yal ?_
  exact ⟨_, rfl, yam _, yaj (yab rfl yai)⟩
theorem yjt (t : Tok) (r : List Tok) : yhb Tryz.prog 89 [.lp 1001 0] (yaf (rdH s (t :: r) names us)) (.agg (yce t)) (yaf (rdH s r names us)) := by
 refine ybb tok Tryz.func89 rfl rfl Tryz.ntmps89 Tryz.results89 rfl (zja rfl) ?_
 show A _ _ _ _ (S _ _)
 (repeat (first | refine zy ?_ | refine zA (h2 := zmm rfl rfl) ?_ | refine zA (h2 := yvw rfl rfl (zmm rfl rfl)) ?_ | refine yas tok rfl rfl rfl (by omega) rfl rfl rfl ?_ | refine ytl tok rfl rfl rfl rfl (by show (0 : Int) ≤ 1; omega) (by show (1 : Int) ≤ ((List.map yce (t :: r)).length : Int); simp; omega) (Int.le_refl _) rfl rfl ?_))
 refine yal ?_
 refine ⟨_, rfl, yam _, yaj (yab ?_ yai)⟩
 have e : List.drop ((some (1 : Int)).getD 0).toNat (List.take ((none : Option Int).getD ((List.map yce (t :: r)).length : Int)).toNat (List.map yce (t :: r))) = r.map yce := by simp [List.take_of_length_le]
 rw [e]
 rfl
theorem ytz (e : Int) : zrn Tryz.prog 54 [.lp 1001 0, i64 e] (yaf (rdH s ts names us)) (zfq (yum s ts) e) := by
 refine zfj Tryz.func54 rfl rfl Tryz.ntmps54 rfl ?_
 show A _ _ _ _ (S _ _)
 cases ts with
 | nil =>
  refine zt ?_; refine yac (lf := lfT) rfl ?_
  (try refine zo ?_)
  refine zt ?_; refine yac (lf := lfT) rfl ?_
  (try refine zo ?_)
  refine zt ?_
  refine yag rfl (fun h => ?_) (fun h => ?_)
  ·simp at h
  refine zt ?_; refine yaz (lf := lfT) 4 rfl rfl rfl ?_
  (repeat (first | refine zo ?_ | refine ycf (zcu Tryz.underlying87 rfl rfl) rfl rfl ?_))
  exact ⟨rfl, zxh rfl rfl⟩
 | cons t r =>
  refine zt ?_; refine yac (lf := lfT) rfl ?_
  (try refine zo ?_)
  refine zt ?_; refine yac (lf := lfT) rfl ?_
  (try refine zo ?_)
  refine zt ?_
  refine yag rfl (fun h => ?_) (fun h => ?_)
  ·refine yac (lf := lfT) rfl ?_
   (repeat (first | refine zo ?_ | refine yas tok rfl rfl rfl (by omega) rfl rfl rfl ?_))
   refine zt ?_; refine yaz (lf := lfT) 4 rfl rfl rfl ?_
   (repeat (first | refine zo ?_ | refine ycf (zcu Tryz.underlying87 rfl rfl) rfl rfl ?_))
   exact ⟨rfl, zxh rfl rfl⟩
  ·simp at h
theorem ycy (h : ydd s ts) {w : Bs} (hw : ybd (ts.map (pwT s)) = w) (h0 : w ≠ []) : yhb Tryz.prog 85 [.lp 1001 0, ycj (ba w)] (yaf (rdH s ts names us)) (ygx true) (yaf (rdH s ts.tail names us)) := by
 refine ybb tok Tryz.func85 rfl rfl Tryz.ntmps85 Tryz.results85 rfl (zja rfl) ?_
 show A _ _ _ _ (S _ _)
 cases ts with
 | nil => exact absurd hw.symm h0
 | cons t r =>
  (repeat (first | refine zy ?_ | refine qd 1001 (ydn h) ?_))
  refine yag rfl (fun h2 => ?_) (fun h2 => ?_)
  ·rw [hw] at h2; simp at h2
  (repeat (first | refine zy ?_ | refine qd 1001 (yjt t r) ?_))
  refine yal ?_
  exact ⟨_, rfl, yam _, yaj (yab rfl yai)⟩
theorem ycc (h : ydd s ts) {w : Bs} (hw : ybd (ts.map (pwT s)) ≠ w) : yhb Tryz.prog 85 [.lp 1001 0, ycj (ba w)] (yaf (rdH s ts names us)) (ygx false) (yaf (rdH s ts names us)) := by
 refine ybb tok Tryz.func85 rfl rfl Tryz.ntmps85 Tryz.results85 rfl (zja rfl) ?_
 show A _ _ _ _ (S _ _)
 (repeat (first | refine zy ?_ | refine qd 1001 (ydn h) ?_))
 refine yag rfl (fun h2 => ?_) (fun h2 => ?_)
 ·(try refine zy ?_)
  refine yal ?_
  exact ⟨_, rfl, yam _, yaj (yab rfl yai)⟩
 ·simp [ydk, hw] at h2
theorem yjc (h : ydd s ts) {w : Bs} (hw : ybd (ts.map (pwT s)) = w) (h0 : w ≠ []) : yhb Tryz.prog 48 [.lp 1001 0, ycj (ba w)] (yaf (rdH s ts names us)) (.tup []) (yaf (rdH s ts.tail names us)) := by
 refine ybb tok Tryz.func48 rfl rfl Tryz.ntmps48 Tryz.results48 rfl (zja rfl) ?_
 show A _ _ _ _ (S _ _)
 (repeat (first | refine zy ?_ | refine qd 1001 (ycy h hw h0) ?_))
 exact ⟨_, rfl, yam _, yaj (yab rfl yai)⟩
theorem yty (h : ydd s ts) {w : Bs} (hw : ybd (ts.map (pwT s)) ≠ w) : zrn Tryz.prog 48 [.lp 1001 0, ycj (ba w)] (yaf (rdH s ts names us)) (zfq (yum s ts) 4) := by
 refine zfj Tryz.func48 rfl rfl Tryz.ntmps48 rfl ?_
 show A _ _ _ _ (S _ _)
 refine zt ?_; refine yac (lf := lfT) rfl ?_
 (repeat (first | refine zo ?_ | refine qd 1001 (ycc h hw) ?_))
 refine zt ?_
 refine yag rfl (fun h2 => ?_) (fun h2 => ?_)
 ·refine zt ?_; refine yaz (lf := lfT) 1 rfl rfl rfl ?_
  (try refine zo ?_)
  exact ⟨rfl, yyo 1001 (ytz 4) rfl rfl rfl rfl rfl⟩
 ·cases h2
end
end
section
open Go.RowKit
theorem yyl {α : Type} {l : List α} {k : Nat} (h : k < l.length) : ∃ x, l[k]? = some x := ⟨_, List.getElem?_eq_getElem h⟩
theorem zfm {α : Type} {l : List α} {k : Nat} {x : α} (h : l[k]? = some x) : l.drop k = x :: l.drop (k + 1) := by
 rw [List.drop_eq_getElem_cons (List.getElem?_eq_some_iff.1 h).1, (List.getElem?_eq_some_iff.1 h).2]
theorem zmr {l : List Bs} {w x : Bs} {k : Nat} (h : ypc l w = (ypc (l.drop k) w).map (· + k)) (hx : l[k]? = some x) (hn : x ≠ w) : ypc l w = (ypc (l.drop (k + 1)) w).map (· + (k + 1)) := by
 rw [h, zfm hx, ypc, if_neg hn, Option.map_map]
 congr 1
 funext j
 simp only [Function.comp]
 omega
theorem zmq {l : List Bs} {w x : Bs} {k : Nat} (h : ypc l w = (ypc (l.drop k) w).map (· + k)) (hx : l[k]? = some x) (hn : x = w) : ypc l w = some k := by
 rw [h, zfm hx, ypc, if_pos hn]
 simp
theorem zqe {l : List Bs} {w : Bs} {k : Nat} (h : ypc l w = (ypc (l.drop k) w).map (· + k)) (hk : l.length ≤ k) : ypc l w = none := by
 rw [h, List.drop_eq_nil_of_le hk]; rfl
theorem idx_not {l : List Bs} {w : Bs} : ypc l w = none → w ∉ l := by
 induction l with
 | nil => intro _ h; cases h
 | cons x l ih =>
  intro h hm
  rw [ypc] at h
  split at h
  ·cases h
  ·rename_i hne
   rcases List.mem_cons.1 hm with rfl | hm
   ·exact hne rfl
   ·exact ih (by cases hq : ypc l w with | none => rfl | some i => rw [hq] at h; cases h) hm
theorem yyv (first : Int) (l : List Bs) (w : Bs) (h0 : 0 ≤ first ∧ first ≤ 1000) (hl : l.length ≤ 1000) : Con Tryz.prog 155 [ycj (ba w), i64 first, ybh l] (i64 (yyk first l w)) := by
 refine ycs Tryz.func155 rfl rfl Tryz.ntmps155 Tryz.results155 rfl rfl ?_
 (try refine zy ?_)
 refine yag rfl (fun h => ?_) (fun h => ?_)
 ·have hw : w = [] := by
   simp only [ydk] at h
   simpa using h
  (try refine zy ?_)
  refine yal ?_; refine ⟨_, rfl, ?_⟩
  exact ypu (by rw [yyk, if_pos hw])
 have hw : w ≠ [] := by rintro rfl; simp [ydk] at h
 clear h
 (try refine zy ?_)
 refine yiv (α := Nat) (fun k => [(13, i64 (k : Int)), (12, i64 (l.length : Int)), (11, ybh l), (1, i64 first), (0, ycj (ba w))]) (fun k => []) (fun k => l.length - k) (fun k => k ≤ l.length ∧ ypc l w = (ypc (l.drop k) w).map (· + k)) 0 ⟨by omega, by simp⟩ (by exact zs) (yai) ?_
 ·rintro k ⟨hk, hinv⟩
  (try refine zy ?_)
  refine yag rfl (fun h2 => ?_) (fun h2 => ?_)
  ·have h2 : k < l.length := by simpa using h2
   obtain ⟨x, hx⟩ := yyl h2
   (try refine zy ?_)
   refine yag rfl (fun h3 => ?_) (fun h3 => ?_)
   ·have h3 : x = w := by simpa [ydk] using h3
    (try refine zy ?_)
    refine yal ?_; refine ⟨_, rfl, ?_⟩
    exact ypu (by rw [yyk, if_neg hw, zmq hinv hx h3])
   ·have h3 : x ≠ w := by simpa [ydk] using h3
    (try refine zy ?_)
    exact rnd (k + 1) ⟨by omega, zmr hinv hx h3⟩ (by omega) (by exact zs) yai
  ·have h2 : l.length ≤ k := by simpa using h2
   (try refine zy ?_)
   refine yal ?_; refine ⟨_, rfl, ?_⟩
   exact ypu (by rw [yyk, if_neg hw, zqe hinv h2])
theorem ygl : Con Tryz.prog 109 [] (ybh zkn) := by
 refine ycs Tryz.func109 rfl rfl Tryz.ntmps109 Tryz.results109 rfl rfl ?_
 (try refine zy ?_)
 refine yal ?_; refine ⟨_, rfl, ?_⟩
 exact Frz.pure
theorem ymc : Con Tryz.prog 135 [] (ybh zkd) := by
 refine ycs Tryz.func135 rfl rfl Tryz.ntmps135 Tryz.results135 rfl rfl ?_
 (try refine zy ?_)
 refine yal ?_; refine ⟨_, rfl, ?_⟩
 exact Frz.pure
theorem yni : Con Tryz.prog 137 [] (ybh ymh) := by
 refine ycs Tryz.func137 rfl rfl Tryz.ntmps137 Tryz.results137 rfl rfl ?_
 (try refine zy ?_)
 refine yal ?_; refine ⟨_, rfl, ?_⟩
 exact Frz.pure
theorem yru : Con Tryz.prog 136 [] (ybh ynn) := by
 refine ycs Tryz.func136 rfl rfl Tryz.ntmps136 Tryz.results136 rfl rfl ?_
 (try refine zy ?_)
 refine yal ?_; refine ⟨_, rfl, ?_⟩
 exact Frz.pure
theorem binaryOp_con (w : Bs) : Con Tryz.prog 142 [ycj (ba w)] (i64 (ymf w)) := by
 refine ycs Tryz.func142 rfl rfl Tryz.ntmps142 Tryz.results142 rfl rfl ?_
 (repeat (first | refine zy ?_ | refine yah rfl rfl ygl rfl rfl ?_ | refine yah rfl rfl (yyv 30 zkn w (by omega) (by decide)) rfl rfl ?_))
 refine yal ?_; refine ⟨_, rfl, ?_⟩
 exact Frz.pure
theorem yel (w : Bs) : Con Tryz.prog 161 [ycj (ba w)] (i64 (zkl w)) := by
 refine ycs Tryz.func161 rfl rfl Tryz.ntmps161 Tryz.results161 rfl rfl ?_
 (repeat (first | refine zy ?_ | refine yah rfl rfl ymc rfl rfl ?_ | refine yah rfl rfl (yyv 20 zkd w (by omega) (by decide)) rfl rfl ?_))
 refine yal ?_; refine ⟨_, rfl, ?_⟩
 exact Frz.pure
theorem yef (w : Bs) : Con Tryz.prog 160 [ycj (ba w)] (i64 (yiy w)) := by
 refine ycs Tryz.func160 rfl rfl Tryz.ntmps160 Tryz.results160 rfl rfl ?_
 (repeat (first | refine zy ?_ | refine yah rfl rfl yni rfl rfl ?_ | refine yah rfl rfl (yyv 2 ymh w (by omega) (by decide)) rfl rfl ?_))
 refine yal ?_; refine ⟨_, rfl, ?_⟩
 exact Frz.pure
theorem ysk (w : Bs) : Con Tryz.prog 162 [ycj (ba w)] (i64 (yko w)) := by
 refine ycs Tryz.func162 rfl rfl Tryz.ntmps162 Tryz.results162 rfl rfl ?_
 (repeat (first | refine zy ?_ | refine yah rfl rfl yru rfl rfl ?_ | refine yah rfl rfl (yyv 13 ynn w (by omega) (by decide)) rfl rfl ?_))
 refine yal ?_; refine ⟨_, rfl, ?_⟩
 exact Frz.pure
theorem yea (op : Int) : Con Tryz.prog 107 [i64 op] (i64 (yfg op)) := by
 by_cases h : op = 43 ∨ op = 42 ∨ op = 41 ∨ op = 35 ∨ op = 36 ∨ op = 37 ∨ op = 38 ∨ op = 39 ∨ op = 40 ∨ op = 33 ∨ op = 34 ∨ op = 30 ∨ op = 31 ∨ op = 32 ∨ op = 18 ∨ op = 19
 ·rcases h with rfl | rfl | rfl | rfl | rfl | rfl | rfl | rfl | rfl | rfl | rfl | rfl | rfl | rfl | rfl | rfl
  all_goals
   refine ycs Tryz.func107 rfl rfl Tryz.ntmps107 Tryz.results107 rfl rfl ?_
   (try refine zy ?_)
   refine yal ?_; refine ⟨_, rfl, ?_⟩
   exact Frz.pure
 simp only [not_or] at h
 refine ycs Tryz.func107 rfl rfl Tryz.ntmps107 Tryz.results107 rfl rfl ?_
 iterate 16 ((try refine zy ?_); refine yag rfl (fun h2 => absurd h2 (by simp; omega)) (fun _ => ?_))
 (try refine zy ?_)
 refine yal ?_; refine ⟨_, rfl, ?_⟩
 have e : yfg op = 7 := by
  unfold yfg
  simp only [h, if_false, or_false]
  rw [if_neg (by omega), if_neg (by omega)]
 rw [e]
 exact Frz.pure
theorem A_matVec {P : Program} {N : Nat} {c : Code} {Q : Exit → SS → Prop} {t : List (Nat × AV)} {h : List (Nat × Option LObj)} (id : Nat) {xs : List AV} (hx : yaf h id = some (.mcells xs)) (hp : ∀ y ∈ xs, ybc y = true) (k : A P N c Q (S t ((id, some (.vec xs)) :: h))) : A P N c Q (S t h) := by
 intro B ok0 lv a w hs
 refine k B ok0 lv a w ⟨⟨hs.inv.base, hs.inv.ok0lt, fun j hj => ?_, hs.inv.inj, fun j x hj => ?_⟩, hs.size, hs.frame, hs.defers, hs.big, fun j b ws hN hj hc hb => ?_⟩
 ·refine hs.inv.dom j ?_
  simp only [S, yaf] at hj ⊢
  split at hj
  ·cases hj
  ·exact hj
 ·simp only [S, yaf] at hj
  split at hj
  ·rename_i hb
   cases hj
   have e := Nat.eq_of_beq_eq_true hb
   subst e
   obtain ⟨b, n, h1, h2⟩ := hs.inv.obj j _ hx
   refine ⟨b, n, h1, ?_⟩
   cases b with
   | none => simp [yle] at h2
   | some b => exact ⟨h2.1, h2.2.1, h2.2.2, hp⟩
  ·exact hs.inv.obj j x hj
 ·simp only [S, yaf] at hj
  split at hj
  ·cases hj; cases hc
  ·exact hs.pin j b ws hN hj hc hb
theorem leaf_own (op a : Int) : yhb Tryz.prog 143 [i64 op, i64 a] (yaf []) (.ls 1002 2 1) (yaf [(1002, some (.vec [i64 op, i64 a]))]) := by
 refine ybb tok Tryz.func143 rfl rfl Tryz.ntmps143 Tryz.results143 rfl (fun id o ho hc => ?_) ?_
 ·simp only [yaf] at ho
  cases h1 : Nat.beq id 1002 with
  | true => simp only [h1, Option.some.injEq] at ho; subst ho; cases hc
  | false => simp only [h1] at ho; cases ho
 show A _ _ _ _ (S _ _)
 refine zt ?_; refine yac (lf := lfT) rfl ?_
 (try refine zo ?_)
 refine zt ?_; refine yac (lf := lfT) rfl ?_
 (repeat (first | refine zC ?_ | refine zU ?_))
 refine L_buildM tok 1002 rfl rfl rfl rfl rfl rfl ⟨rfl, fun x y h => ?_, fun j ob h => by cases h⟩ rfl rfl rfl rfl ?_
 ·exact (ysq (id := 1002) rfl) x y h
 (try refine zo ?_)
 refine zt ?_
 refine A_matVec 1002 rfl (by intro y hy; simp [ywy, yus] at hy; rcases hy with rfl | rfl <;> rfl) ?_
 refine yal ?_
 exact ⟨_, rfl, yam _, yaj (yab rfl yai)⟩
theorem yqv (op a : Int) : Con Tryz.prog 143 [i64 op, i64 a] (ybk [(op, a)]) := by
 refine ycs Tryz.func143 rfl rfl Tryz.ntmps143 Tryz.results143 rfl rfl ?_
 (try refine zy ?_)
 refine yal ?_; refine ⟨_, rfl, ?_⟩
 exact Frz.pure
theorem terms_flat (l : List Tm) : (l.map ymz).flatten.length = l.length * 2 := by
 induction l with
 | nil => rfl
 | cons t l ih => simp only [List.map_cons, List.flatten_cons, List.length_append, ih, List.length_cons, ymz, List.length_nil]; omega
theorem zev (l : List Tm) : ∀ c ∈ (l.map ymz).flatten, ybc c = true := by
 intro c hc
 simp only [List.mem_flatten, List.mem_map] at hc
 obtain ⟨r, ⟨t, _, rfl⟩, hc⟩ := hc
 simp only [ymz, List.mem_cons, List.not_mem_nil, or_false] at hc
 rcases hc with rfl | rfl <;> rfl
def zfn (es : List (List Tm)) : AV := .sl 1 (es.map fun e => [ybk e])
theorem yip (op : Int) (es : List (List Tm)) (hl : es.length ≤ 10) (h1 : es.flatten.length ≤ 1000000) : Con Tryz.prog 115 [i64 op, zfn es] (ybk ((op, 0) :: es.flatten)) := by
 refine ycs Tryz.func115 rfl rfl Tryz.ntmps115 Tryz.results115 rfl rfl ?_
 refine zt ?_; refine yac (lf := lfT) rfl ?_
 (try refine zo ?_)
 refine zt ?_; refine yac (lf := lfT) rfl ?_
 (try refine zo ?_)
 refine yek [(1002, 9)] (leaf_own op 0) rfl rfl rfl rfl rfl rfl rfl (yai) rfl rfl rfl rfl rfl rfl ?_
 (try refine zo ?_)
 (try refine zy ?_)
 refine yiv (α := Nat) (fun k => [(5, .ls 9 2 (1 + (es.take k).flatten.length)), (12, i64 (k : Int)), (11, i64 (es.length : Int)), (10, zfn es)]) (fun k => [(9, some (.vec ((((op, 0) :: (es.take k).flatten).map ymz).flatten)))]) (fun k => es.length - k) (fun k => k ≤ es.length) 0 (by omega) (by exact zs) (yab rfl yai) ?_
 intro k hk
 (try refine zy ?_)
 refine yag rfl (fun h2 => ?_) (fun h2 => ?_)
 ·have h2 : k < es.length := by simpa using h2
  obtain ⟨e, he⟩ := yyl h2
  have hfl : (es.take (k + 1)).flatten = (es.take k).flatten ++ e := by
   rw [List.take_add_one, he]; simp
  have hle : (es.take (k + 1)).flatten.length ≤ es.flatten.length := by
   conv => rhs; rw [← List.take_append_drop (k + 1) es, List.flatten_append, List.length_append]
   omega
  rw [hfl, List.length_append] at hle
  (try refine zy ?_)
  refine L_appendV tok (id := 9) (t' := [(12, i64 (k : Int)), (11, i64 (es.length : Int)), (10, zfn es)]) rfl rfl (by rw [terms_flat]; simp; omega) rfl (zev e) (by rw [List.length_map]; constructor <;> omega) (by (repeat (first | exact subTM_nil | refine subTM_cons rfl rfl ?_))) rfl rfl rfl rfl ?_
  (try refine zy ?_)
  have e1 : 1 + (es.take k).flatten.length + (e.map ymz).length = 1 + (es.take (k + 1)).flatten.length := by rw [hfl, List.length_append, List.length_map]; omega
  have e2 : (((op, 0) :: (es.take k).flatten).map ymz).flatten ++ (e.map ymz).flatten = (((op, 0) :: (es.take (k + 1)).flatten).map ymz).flatten := by rw [hfl]; simp
  rw [e1, e2]
  exact rnd (k + 1) (by omega) (by omega) (by exact zs) (yab rfl yai)
 ·have h2 : es.length ≤ k := by simpa using h2
  rw [List.take_of_length_le h2]
  (try refine zy ?_)
  refine yal ?_; refine ⟨_, rfl, ?_⟩
  refine Frz.ls rfl (by rw [List.length_map, List.length_cons]; omega) (fun row hr => by obtain ⟨t, _, rfl⟩ := List.mem_map.1 hr; rfl) rfl fun x hx i => ybc.ment (zev ((op, 0) :: es.flatten) x hx)
theorem zat (l : List Bs) (w : Bs) (hl : l.length ≤ 1000) : Con Tryz.prog 116 [ybh l, ycj (ba w)] (i64 (match ypc l w with | some i => (i : Int) | none => -1)) := by
 refine ycs Tryz.func116 rfl rfl Tryz.ntmps116 Tryz.results116 rfl rfl ?_
 (try refine zy ?_)
 refine yiv (α := Nat) (fun k => [(8, i64 (k : Int)), (7, i64 (l.length : Int)), (1, ycj (ba w)), (0, ybh l)]) (fun k => []) (fun k => l.length - k) (fun k => k ≤ l.length ∧ ypc l w = (ypc (l.drop k) w).map (· + k)) 0 ⟨by omega, by simp⟩ (by exact zs) (yai) ?_
 rintro k ⟨hk, hinv⟩
 (try refine zy ?_)
 refine yag rfl (fun h2 => ?_) (fun h2 => ?_)
 ·have h2 : k < l.length := by simpa using h2
  obtain ⟨x, hx⟩ := yyl h2
  (try refine zy ?_)
  refine yag rfl (fun h3 => ?_) (fun h3 => ?_)
  ·have h3 : w = x := by simpa [ydk] using h3
   (try refine zy ?_)
   refine yal ?_; refine ⟨_, rfl, ?_⟩
   exact ypu (by rw [zmq hinv hx h3.symm])
  ·have h3 : w ≠ x := by simpa [ydk] using h3
   (try refine zy ?_)
   exact rnd (k + 1) ⟨by omega, zmr hinv hx h3.symm⟩ (by omega) (by exact zs) yai
 ·have h2 : l.length ≤ k := by simpa using h2
  (try refine zy ?_)
  refine yal ?_; refine ⟨_, rfl, ?_⟩
  exact ypu (by rw [zqe hinv h2])
theorem contains_con (l : List Bs) (w : Bs) (hl : l.length ≤ 1000) : Con Tryz.prog 102 [ybh l, ycj (ba w)] (ygx (l.contains w)) := by
 refine ycs Tryz.func102 rfl rfl Tryz.ntmps102 Tryz.results102 rfl rfl ?_
 (repeat (first | refine zy ?_ | refine yah rfl rfl (zat l w hl) rfl rfl ?_))
 refine yal ?_; refine ⟨_, rfl, ?_⟩
 refine ybn ?_
 cases h : ypc l w with
 | none =>
  have : l.contains w = false := by simpa using idx_not h
  rw [this]; rfl
 | some i =>
  have : l.contains w = true := by simpa using zmp h
  rw [this]
  simp
theorem yqw (w : Bs) (hw : w.length ≤ 9223372036854775807) : Con Tryz.prog 88 [ycj (ba w)] (ygx (nmW w)) :=
 yee ⟨_, Tryz.func88, rfl, rfl⟩ fun w0 us ok hok hr => by
  obtain ⟨u, rfl, h1⟩ := ynb hr
  cases h1
  refine (yks (ba w) w0 (by rw [yar]; exact hw)).mono ?_
  rintro e w' ⟨rfl, rfl⟩
  exact ⟨rfl, Below.refl _ _⟩
theorem take_good {nm : Bs → Bool} {names : List Bs} {k : Nat} {x : Bs} (hx : names[k]? = some x) (ha : (names.take k).all nm = true) (hd : (names.take k).Nodup) (h1 : nm x = true) (h2 : (names.take k).contains x = false) : (names.take (k + 1)).all nm = true ∧ (names.take (k + 1)).Nodup := by
 rw [List.take_add_one, hx]
 simp only [Option.toList_some]
 refine ⟨by simp [ha, h1], ?_⟩
 rw [List.nodup_append]
 refine ⟨hd, by simp, fun a ha2 b hb => ?_⟩
 simp only [List.mem_singleton] at hb
 subst hb
 rintro rfl
 simp at h2
 exact h2 ha2
theorem good_false1 {nm : Bs → Bool} {names : List Bs} {k : Nat} {x : Bs} (hx : names[k]? = some x) (h1 : nm x = false) : yho nm names = false := by
 have : names.all nm = false := by
  rw [List.all_eq_false]
  exact ⟨x, List.mem_of_getElem? hx, by simp [h1]⟩
 simp [yho, this]
theorem good_false2 {nm : Bs → Bool} {names : List Bs} {k : Nat} {x : Bs} (hx : names[k]? = some x) (h1 : (names.take k).contains x = true) : yho nm names = false := by
 have : ¬ names.Nodup := by
  intro hn
  rw [← List.take_append_drop k names, List.nodup_append] at hn
  have h2 : x ∈ names.drop k := by rw [zfm hx]; simp
  exact hn.2.2 x (by simpa using h1) x h2 rfl
 simp [yho, this]
theorem good_con (names : List Bs) (hl : names.length ≤ 1000) (hn : ∀ x ∈ names, x.length ≤ 1000) : Con Tryz.prog 73 [ybh names] (ygx (yho nmW names)) := by
 refine ycs Tryz.func73 rfl rfl Tryz.ntmps73 Tryz.results73 rfl rfl ?_
 (try refine zy ?_)
 refine yag rfl (fun h1 => ?_) (fun h1 => ?_)
 ·have h1 : 6 < names.length := by simp at h1; omega
  (try refine zy ?_)
  refine yal ?_; refine ⟨_, rfl, ?_⟩
  exact ybn (by simp [yho, show ¬ names.length ≤ 6 by omega])
 have h1 : names.length ≤ 6 := by simp at h1; omega
 (try refine zy ?_)
 refine yiv (α := Nat) (fun k => [(10, i64 (k : Int)), (9, i64 (names.length : Int)), (8, ybh names), (0, ybh names)]) (fun k => []) (fun k => names.length - k) (fun k => k ≤ names.length ∧ (names.take k).all nmW = true ∧ (names.take k).Nodup) 0 ⟨by omega, by simp, by simp⟩ (by exact zs) (yai) ?_
 rintro k ⟨hk, ha, hd⟩
 (try refine zy ?_)
 refine yag rfl (fun h2 => ?_) (fun h2 => ?_)
 ·have h2 : k < names.length := by simpa using h2
  obtain ⟨x, hx⟩ := yyl h2
  have hxl := hn x (List.mem_of_getElem? hx)
  (repeat (first | refine zy ?_ | refine yah rfl rfl (yqw x (by omega)) rfl rfl ?_))
  refine ybu 18 rfl (fun h3 => ?_) (fun h3 => ?_)
  ·(try refine zy ?_)
   refine yal ?_; refine ⟨_, rfl, ?_⟩
   exact ybn (good_false1 hx (by simpa using h3)).symm
  ·(repeat (first | refine zy ?_ | refine ytl tok rfl rfl rfl rfl (by show (0 : Int) ≤ 0; omega) (by show (0 : Int) ≤ (k : Int); omega) (by show (k : Int) ≤ ((List.map _ names).length : Int); rw [List.length_map]; omega) rfl rfl ?_))
   rw [show List.drop (((none : Option Int)).getD 0).toNat (List.take ((some (k : Int)).getD ((names.map fun x => [ycj (ba x)]).length : Int)).toNat (names.map fun x => [ycj (ba x)])) = (names.take k).map (fun x => [ycj (ba x)]) by simp [List.map_take]]
   (repeat (first | refine zy ?_ | refine yah rfl rfl (contains_con (names.take k) x (by rw [List.length_take]; omega)) rfl rfl ?_))
   refine yag rfl (fun h4 => ?_) (fun h4 => ?_)
   ·(try refine zy ?_)
    refine yal ?_; refine ⟨_, rfl, ?_⟩
    exact ybn (good_false2 hx h4).symm
   ·(try refine zy ?_)
    have := take_good hx ha hd (by simpa using h3) h4
    exact rnd (k + 1) ⟨by omega, this.1, this.2⟩ (by omega) (by exact zs) yai
 ·have h2 : names.length ≤ k := by simpa using h2
  rw [List.take_of_length_le h2] at ha hd
  (try refine zy ?_)
  refine yal ?_; refine ⟨_, rfl, ?_⟩
  exact ybn (by simp only [yho, ha, decide_eq_true hd, decide_eq_true h1]; rfl)
end
section
open Go.RowKit
theorem indexByte_slite (s : ByteArray) (c : Int) (w : World) :
  Calls Tryz.prog 139 #[.string s, .int .u8 c] w fun e w' => e = .returned (.int .i64 (Lib.indexByte s.data.toList c.toNat.toUInt8)) ∧ w = w' := by
 go_enter Tryz.func139, Tryz.ntmps139
 go_wp2
 rw [run_callFunc_extern Tryz.func153 (by kernel_rfl) (by kernel_rfl) (by kernel_rfl) (e := Extern.BytealgIndexByte.indexByte) (by kernel_rfl), Lib.run_indexByteString]
 simp only [Result.andThen]
 rw [Oper.upon_value]
 go_wp2
 go_ret
 exact ⟨rfl, rfl⟩
theorem indexByte_any (s : ByteArray) (c : Int) (w : World) :
  Calls Tryz.prog 111 #[.string s, .int .u8 c] w fun e w' => e = .returned (.int .i64 (Lib.indexByte s.data.toList c.toNat.toUInt8)) ∧ w = w' := by
 go_enter Tryz.func111, Tryz.ntmps111
 go_wp2_with (go_at_call 139; refine (indexByte_slite _ _ _).mono ?_; rintro e w' ⟨rfl, rfl⟩)
 go_ret
 exact ⟨rfl, rfl⟩
def zbr (s p : ByteArray) : Bool := decide (p.size ≤ s.size) && ((s.extract 0 p.size).toList == p.toList)
theorem yed (s p : ByteArray) (_hs : s.size ≤ 9223372036854775807) (w : World) :
  Calls Tryz.prog 110 #[.string s, .string p] w fun e w' => e = .returned (.bool (zbr s p)) ∧ w = w' := by
 by_cases h : p.size ≤ s.size
 all_goals
  go_enter Tryz.func110, Tryz.ntmps110
  go_wp2
  go_ret
  refine ⟨yae ?_, rfl⟩
  simp [zbr, h]
def ztb (a b : UInt8) : List UInt8 → Bool
 | x :: y :: _ => x == a && y == b
 | _ => false
theorem znd (t : ByteArray) (a b : UInt8) : zbr t { data := #[a, b] } = ztb a b (yad t 0) := by
 unfold zbr
 rw [Lib.toList_data, Lib.toList_data, Lib.extract_data]
 obtain ⟨⟨l⟩⟩ := t
 show (decide (2 ≤ l.length) && (List.take 2 (List.drop 0 l) == [a, b])) = ztb a b (l.drop 0)
 match l with
 | [] => rfl
 | [x] => simp [ztb]
 | x :: y :: l => simp [ztb]
theorem ykt (t : ByteArray) (a b : UInt8) (h : zbr t { data := #[a, b] } = true) (hs : yhh a b = true) : yes (yad t 0) = 2 := by
 rw [znd] at h
 match hr : yad t 0 with
 | [] => simp [hr, ztb] at h
 | [x] => simp [hr, ztb] at h
 | x :: y :: l =>
  simp [hr, ztb] at h
  simp [yes, h, hs]
theorem sign_no (t : ByteArray) (h : 0 < t.size) (h0 : zbr t { data := #[46, 46] } = false) (h1 : zbr t { data := #[45, 62] } = false) (h2 : zbr t { data := #[58, 61] } = false) (h3 : zbr t { data := #[38, 38] } = false) (h4 : zbr t { data := #[124, 124] } = false) (h5 : zbr t { data := #[61, 61] } = false) (h6 : zbr t { data := #[33, 61] } = false) (h7 : zbr t { data := #[60, 61] } = false) (h8 : zbr t { data := #[62, 61] } = false) : yes (yad t 0) = if yoa t[0] then 1 else 0 := by
 rw [znd] at *
 have hb := ybm t 0 h
 match hr : yad t 0 with
 | [] => rw [hr] at hb; simp at hb
 | [x] => rw [hr] at hb; simp at hb; simp [yes, hb.1]
 | x :: y :: l =>
  rw [hr] at hb h0 h1 h2 h3 h4 h5 h6 h7 h8
  simp only [List.cons.injEq] at hb
  simp only [ztb] at *
  rw [yes, if_neg (by simp only [yhh, h0, h1, h2, h3, h4, h5, h6, h7, h8]; decide), hb.1]
theorem index_signs : ∀ c : UInt8, decide (0 ≤ Lib.indexByte [59, 58, 44, 40, 41, 46, 63, 60, 62, 43, 45, 42, 47, 37, 33] c) = yoa c := by
 have h : ∀ n : Fin 256, decide (0 ≤ Lib.indexByte [59, 58, 44, 40, 41, 46, 63, 60, 62, 43, 45, 42, 47, 37, 33] (UInt8.ofNat n.val)) = yoa (UInt8.ofNat n.val) := by decide +kernel
 intro c
 have := h ⟨c.toNat, c.toNat_lt⟩
 simpa using this
set_option maxHeartbeats 2000000 in
theorem sign_any (t : ByteArray) (w : World) (hs : t.size ≤ 20000) (h0 : 0 < t.size) :
  Calls Tryz.prog 82 #[.string t] w fun e w' => e = .returned (.int .i64 (yes (yad t 0))) ∧ Below w.heap.size w w' := by
 go_enter Tryz.func82, Tryz.ntmps82
 go_wp2
 refine wp_loop_rounds 10 ?_
 rw [rounds_succ]
 go_wp2_with (go_at_call 110; refine (yed _ _ (by omega) _).mono ?_; rintro e w' ⟨rfl, rfl⟩)
 ·go_ret
  have hp : zbr t { data := #[46, 46] } = true := by assumption
  exact ⟨yak (by rw [ykt t 46 46 hp (by decide)]; rfl), (Below.refl _ _).alloc (Nat.le_refl _) _⟩
 rw [rounds_succ]
 go_wp2_with (go_at_call 110; refine (yed _ _ (by omega) _).mono ?_; rintro e w' ⟨rfl, rfl⟩)
 ·go_ret
  have hp : zbr t { data := #[45, 62] } = true := by assumption
  exact ⟨yak (by rw [ykt t 45 62 hp (by decide)]; rfl), (Below.refl _ _).alloc (Nat.le_refl _) _⟩
 rw [rounds_succ]
 go_wp2_with (go_at_call 110; refine (yed _ _ (by omega) _).mono ?_; rintro e w' ⟨rfl, rfl⟩)
 ·go_ret
  have hp : zbr t { data := #[58, 61] } = true := by assumption
  exact ⟨yak (by rw [ykt t 58 61 hp (by decide)]; rfl), (Below.refl _ _).alloc (Nat.le_refl _) _⟩
 rw [rounds_succ]
 go_wp2_with (go_at_call 110; refine (yed _ _ (by omega) _).mono ?_; rintro e w' ⟨rfl, rfl⟩)
 ·go_ret
  have hp : zbr t { data := #[38, 38] } = true := by assumption
  exact ⟨yak (by rw [ykt t 38 38 hp (by decide)]; rfl), (Below.refl _ _).alloc (Nat.le_refl _) _⟩
 rw [rounds_succ]
 go_wp2_with (go_at_call 110; refine (yed _ _ (by omega) _).mono ?_; rintro e w' ⟨rfl, rfl⟩)
 ·go_ret
  have hp : zbr t { data := #[124, 124] } = true := by assumption
  exact ⟨yak (by rw [ykt t 124 124 hp (by decide)]; rfl), (Below.refl _ _).alloc (Nat.le_refl _) _⟩
 rw [rounds_succ]
 go_wp2_with (go_at_call 110; refine (yed _ _ (by omega) _).mono ?_; rintro e w' ⟨rfl, rfl⟩)
 ·go_ret
  have hp : zbr t { data := #[61, 61] } = true := by assumption
  exact ⟨yak (by rw [ykt t 61 61 hp (by decide)]; rfl), (Below.refl _ _).alloc (Nat.le_refl _) _⟩
 rw [rounds_succ]
 go_wp2_with (go_at_call 110; refine (yed _ _ (by omega) _).mono ?_; rintro e w' ⟨rfl, rfl⟩)
 ·go_ret
  have hp : zbr t { data := #[33, 61] } = true := by assumption
  exact ⟨yak (by rw [ykt t 33 61 hp (by decide)]; rfl), (Below.refl _ _).alloc (Nat.le_refl _) _⟩
 rw [rounds_succ]
 go_wp2_with (go_at_call 110; refine (yed _ _ (by omega) _).mono ?_; rintro e w' ⟨rfl, rfl⟩)
 ·go_ret
  have hp : zbr t { data := #[60, 61] } = true := by assumption
  exact ⟨yak (by rw [ykt t 60 61 hp (by decide)]; rfl), (Below.refl _ _).alloc (Nat.le_refl _) _⟩
 rw [rounds_succ]
 go_wp2_with (go_at_call 110; refine (yed _ _ (by omega) _).mono ?_; rintro e w' ⟨rfl, rfl⟩)
 ·go_ret
  have hp : zbr t { data := #[62, 61] } = true := by assumption
  exact ⟨yak (by rw [ykt t 62 61 hp (by decide)]; rfl), (Below.refl _ _).alloc (Nat.le_refl _) _⟩
 rw [rounds_succ]
 go_wp2_with (go_at_call 111; refine (indexByte_any _ _ _).mono ?_; rintro e w' ⟨rfl, rfl⟩)
 all_goals
  go_ret
  refine ⟨yak ?_, (Below.refl _ _).alloc (Nat.le_refl _) _⟩
  rw [sign_no t h0 (by assumption) (by assumption) (by assumption) (by assumption) (by assumption) (by assumption) (by assumption) (by assumption) (by assumption), ← index_signs]
 ·rw [if_pos (by simpa using by assumption)]; rfl
 ·rw [if_neg (by simpa using by assumption)]; rfl
theorem zai (s : ByteArray) (a : Nat) : (s.extract a (a + 2)).toList = (yad s a).take 2 := by
 rw [Lib.extract_toList, show a + 2 - a = 2 by omega]; rfl
theorem yir (s : ByteArray) (a : Nat) (x y : UInt8) (h : ((s.extract a (a + 2)).toList == [x, y]) = true) (hs : yhh x y = true) : yes (yad s a) = 2 := by
 rw [zai] at h
 match hr : yad s a with
 | [] => simp [hr] at h
 | [x] => simp [hr] at h
 | u :: v :: l =>
  simp [hr] at h
  simp [yes, h, hs]
theorem rsign_no (s : ByteArray) (a : Nat) (h : a < s.size) (x : List UInt8) (hx : x = (s.extract a (a + 2)).toList) (h0 : (x == [46, 46]) = false) (h1 : (x == [45, 62]) = false) (h2 : (x == [58, 61]) = false) (h3 : (x == [38, 38]) = false) (h4 : (x == [124, 124]) = false) (h5 : (x == [61, 61]) = false) (h6 : (x == [33, 61]) = false) (h7 : (x == [60, 61]) = false) (h8 : (x == [62, 61]) = false) : yes (yad s a) = if yoa s[a] then 1 else 0 := by
 rw [zai] at hx
 subst hx
 have hb := ybm s a h
 match hr : yad s a with
 | [] => rw [hr] at hb; simp at hb
 | [x] => rw [hr] at hb; simp at hb; simp [yes, hb.1]
 | x :: y :: l =>
  rw [hr] at hb h0 h1 h2 h3 h4 h5 h6 h7 h8
  simp only [List.cons.injEq] at hb
  simp only [List.take_succ_cons, List.take_zero, List.cons_beq_cons, List.nil_beq_eq, List.isEmpty_nil, Bool.and_true] at *
  rw [yes, if_neg (by simp only [yhh, h0, h1, h2, h3, h4, h5, h6, h7, h8]; decide), hb.1]
theorem rsign_one (s : ByteArray) (a : Nat) (h : a < s.size) (h2 : ¬ a + 2 ≤ s.size) : yes (yad s a) = if yoa s[a] then 1 else 0 := by
 rw [ybm s a h, ymg s (a + 1) (by omega)]; rfl
theorem ybs (c : UInt8) (n : Nat) (hn : yoa (UInt8.ofNat n) = true) (h256 : n < 256) (h : ((c.toNat : Int) == (n : Int)) = true) : yoa c = true := by
 have : c = UInt8.ofNat n := by
  simp only [beq_iff_eq] at h
  rw [← UInt8.toNat_inj, UInt8.toNat_ofNat_of_lt' h256]; omega
 rw [this]; exact hn
theorem znv (c : UInt8) (k0 : ((c.toNat : Int) == 59) = false) (k1 : ((c.toNat : Int) == 58) = false) (k2 : ((c.toNat : Int) == 44) = false) (k3 : ((c.toNat : Int) == 40) = false) (k4 : ((c.toNat : Int) == 41) = false) (k5 : ((c.toNat : Int) == 46) = false) (k6 : ((c.toNat : Int) == 63) = false) (k7 : ((c.toNat : Int) == 60) = false) (k8 : ((c.toNat : Int) == 62) = false) (k9 : ((c.toNat : Int) == 43) = false) (k10 : ((c.toNat : Int) == 45) = false) (k11 : ((c.toNat : Int) == 42) = false) (k12 : ((c.toNat : Int) == 47) = false) (k13 : ((c.toNat : Int) == 37) = false) (k14 : ((c.toNat : Int) == 33) = false) : yoa c = false := by
 simp only [beq_eq_false_iff_ne] at *
 unfold yoa
 rw [List.contains_eq_any_beq]
 simp only [List.any_cons, List.any_nil, Bool.or_false, Bool.or_eq_false_iff, beq_eq_false_iff_ne, ne_eq, ← UInt8.toNat_inj]
 refine ⟨?_, ?_, ?_, ?_, ?_, ?_, ?_, ?_, ?_, ?_, ?_, ?_, ?_, ?_, ?_⟩ <;> (intro hq; simp at hq; omega)
set_option maxHeartbeats 4000000 in
theorem zjh (s : ByteArray) (a : Nat) (w : World) (hs : s.size ≤ 20000) (h0 : a < s.size) :
  Calls Tryz.prog 64 #[.string s, .int .i64 a] w fun e w' => e = .returned (.int .i64 (yes (yad s a))) ∧ w = w' := by
 by_cases h2 : a + 2 ≤ s.size
 ·rcases Bool.eq_false_or_eq_true ((s.extract a (a + 2)).toList == [46, 46]) with q0 | q0
  ·go_enter Tryz.func64, Tryz.ntmps64
   go_wp2
   go_ret
   exact ⟨yak (by rw [yir s a 46 46 q0 (by decide)]; rfl), rfl⟩
  rcases Bool.eq_false_or_eq_true ((s.extract a (a + 2)).toList == [45, 62]) with q1 | q1
  ·go_enter Tryz.func64, Tryz.ntmps64
   go_wp2
   go_ret
   exact ⟨yak (by rw [yir s a 45 62 q1 (by decide)]; rfl), rfl⟩
  rcases Bool.eq_false_or_eq_true ((s.extract a (a + 2)).toList == [58, 61]) with q2 | q2
  ·go_enter Tryz.func64, Tryz.ntmps64
   go_wp2
   go_ret
   exact ⟨yak (by rw [yir s a 58 61 q2 (by decide)]; rfl), rfl⟩
  rcases Bool.eq_false_or_eq_true ((s.extract a (a + 2)).toList == [38, 38]) with q3 | q3
  ·go_enter Tryz.func64, Tryz.ntmps64
   go_wp2
   go_ret
   exact ⟨yak (by rw [yir s a 38 38 q3 (by decide)]; rfl), rfl⟩
  rcases Bool.eq_false_or_eq_true ((s.extract a (a + 2)).toList == [124, 124]) with q4 | q4
  ·go_enter Tryz.func64, Tryz.ntmps64
   go_wp2
   go_ret
   exact ⟨yak (by rw [yir s a 124 124 q4 (by decide)]; rfl), rfl⟩
  rcases Bool.eq_false_or_eq_true ((s.extract a (a + 2)).toList == [61, 61]) with q5 | q5
  ·go_enter Tryz.func64, Tryz.ntmps64
   go_wp2
   go_ret
   exact ⟨yak (by rw [yir s a 61 61 q5 (by decide)]; rfl), rfl⟩
  rcases Bool.eq_false_or_eq_true ((s.extract a (a + 2)).toList == [33, 61]) with q6 | q6
  ·go_enter Tryz.func64, Tryz.ntmps64
   go_wp2
   go_ret
   exact ⟨yak (by rw [yir s a 33 61 q6 (by decide)]; rfl), rfl⟩
  rcases Bool.eq_false_or_eq_true ((s.extract a (a + 2)).toList == [60, 61]) with q7 | q7
  ·go_enter Tryz.func64, Tryz.ntmps64
   go_wp2
   go_ret
   exact ⟨yak (by rw [yir s a 60 61 q7 (by decide)]; rfl), rfl⟩
  rcases Bool.eq_false_or_eq_true ((s.extract a (a + 2)).toList == [62, 61]) with q8 | q8
  ·go_enter Tryz.func64, Tryz.ntmps64
   go_wp2
   go_ret
   exact ⟨yak (by rw [yir s a 62 61 q8 (by decide)]; rfl), rfl⟩
  have HS := Lib.hid (rsign_no s a h0 _ rfl q0 q1 q2 q3 q4 q5 q6 q7 q8)
  rcases Bool.eq_false_or_eq_true ((s[a].toNat : Int) == 59) with k0 | k0
  ·go_enter Tryz.func64, Tryz.ntmps64
   go_wp2
   go_ret
   exact ⟨yak (by rw [HS.out, if_pos (ybs s[a] 59 (by decide) (by decide) k0)]; rfl), rfl⟩
  rcases Bool.eq_false_or_eq_true ((s[a].toNat : Int) == 58) with k1 | k1
  ·go_enter Tryz.func64, Tryz.ntmps64
   go_wp2
   go_ret
   exact ⟨yak (by rw [HS.out, if_pos (ybs s[a] 58 (by decide) (by decide) k1)]; rfl), rfl⟩
  rcases Bool.eq_false_or_eq_true ((s[a].toNat : Int) == 44) with k2 | k2
  ·go_enter Tryz.func64, Tryz.ntmps64
   go_wp2
   go_ret
   exact ⟨yak (by rw [HS.out, if_pos (ybs s[a] 44 (by decide) (by decide) k2)]; rfl), rfl⟩
  rcases Bool.eq_false_or_eq_true ((s[a].toNat : Int) == 40) with k3 | k3
  ·go_enter Tryz.func64, Tryz.ntmps64
   go_wp2
   go_ret
   exact ⟨yak (by rw [HS.out, if_pos (ybs s[a] 40 (by decide) (by decide) k3)]; rfl), rfl⟩
  rcases Bool.eq_false_or_eq_true ((s[a].toNat : Int) == 41) with k4 | k4
  ·go_enter Tryz.func64, Tryz.ntmps64
   go_wp2
   go_ret
   exact ⟨yak (by rw [HS.out, if_pos (ybs s[a] 41 (by decide) (by decide) k4)]; rfl), rfl⟩
  rcases Bool.eq_false_or_eq_true ((s[a].toNat : Int) == 46) with k5 | k5
  ·go_enter Tryz.func64, Tryz.ntmps64
   go_wp2
   go_ret
   exact ⟨yak (by rw [HS.out, if_pos (ybs s[a] 46 (by decide) (by decide) k5)]; rfl), rfl⟩
  rcases Bool.eq_false_or_eq_true ((s[a].toNat : Int) == 63) with k6 | k6
  ·go_enter Tryz.func64, Tryz.ntmps64
   go_wp2
   go_ret
   exact ⟨yak (by rw [HS.out, if_pos (ybs s[a] 63 (by decide) (by decide) k6)]; rfl), rfl⟩
  rcases Bool.eq_false_or_eq_true ((s[a].toNat : Int) == 60) with k7 | k7
  ·go_enter Tryz.func64, Tryz.ntmps64
   go_wp2
   go_ret
   exact ⟨yak (by rw [HS.out, if_pos (ybs s[a] 60 (by decide) (by decide) k7)]; rfl), rfl⟩
  rcases Bool.eq_false_or_eq_true ((s[a].toNat : Int) == 62) with k8 | k8
  ·go_enter Tryz.func64, Tryz.ntmps64
   go_wp2
   go_ret
   exact ⟨yak (by rw [HS.out, if_pos (ybs s[a] 62 (by decide) (by decide) k8)]; rfl), rfl⟩
  rcases Bool.eq_false_or_eq_true ((s[a].toNat : Int) == 43) with k9 | k9
  ·go_enter Tryz.func64, Tryz.ntmps64
   go_wp2
   go_ret
   exact ⟨yak (by rw [HS.out, if_pos (ybs s[a] 43 (by decide) (by decide) k9)]; rfl), rfl⟩
  rcases Bool.eq_false_or_eq_true ((s[a].toNat : Int) == 45) with k10 | k10
  ·go_enter Tryz.func64, Tryz.ntmps64
   go_wp2
   go_ret
   exact ⟨yak (by rw [HS.out, if_pos (ybs s[a] 45 (by decide) (by decide) k10)]; rfl), rfl⟩
  rcases Bool.eq_false_or_eq_true ((s[a].toNat : Int) == 42) with k11 | k11
  ·go_enter Tryz.func64, Tryz.ntmps64
   go_wp2
   go_ret
   exact ⟨yak (by rw [HS.out, if_pos (ybs s[a] 42 (by decide) (by decide) k11)]; rfl), rfl⟩
  rcases Bool.eq_false_or_eq_true ((s[a].toNat : Int) == 47) with k12 | k12
  ·go_enter Tryz.func64, Tryz.ntmps64
   go_wp2
   go_ret
   exact ⟨yak (by rw [HS.out, if_pos (ybs s[a] 47 (by decide) (by decide) k12)]; rfl), rfl⟩
  rcases Bool.eq_false_or_eq_true ((s[a].toNat : Int) == 37) with k13 | k13
  ·go_enter Tryz.func64, Tryz.ntmps64
   go_wp2
   go_ret
   exact ⟨yak (by rw [HS.out, if_pos (ybs s[a] 37 (by decide) (by decide) k13)]; rfl), rfl⟩
  rcases Bool.eq_false_or_eq_true ((s[a].toNat : Int) == 33) with k14 | k14
  ·go_enter Tryz.func64, Tryz.ntmps64
   go_wp2
   go_ret
   exact ⟨yak (by rw [HS.out, if_pos (ybs s[a] 33 (by decide) (by decide) k14)]; rfl), rfl⟩
  ·go_enter Tryz.func64, Tryz.ntmps64
   go_wp2
   go_ret
   exact ⟨yak (by rw [HS.out, if_neg (by rw [znv s[a] k0 k1 k2 k3 k4 k5 k6 k7 k8 k9 k10 k11 k12 k13 k14]; decide)]; rfl), rfl⟩
 ·have HS := Lib.hid (rsign_one s a h0 h2)
  rcases Bool.eq_false_or_eq_true ((s[a].toNat : Int) == 59) with k0 | k0
  ·go_enter Tryz.func64, Tryz.ntmps64
   go_wp2
   go_ret
   exact ⟨yak (by rw [HS.out, if_pos (ybs s[a] 59 (by decide) (by decide) k0)]; rfl), rfl⟩
  rcases Bool.eq_false_or_eq_true ((s[a].toNat : Int) == 58) with k1 | k1
  ·go_enter Tryz.func64, Tryz.ntmps64
   go_wp2
   go_ret
   exact ⟨yak (by rw [HS.out, if_pos (ybs s[a] 58 (by decide) (by decide) k1)]; rfl), rfl⟩
  rcases Bool.eq_false_or_eq_true ((s[a].toNat : Int) == 44) with k2 | k2
  ·go_enter Tryz.func64, Tryz.ntmps64
   go_wp2
   go_ret
   exact ⟨yak (by rw [HS.out, if_pos (ybs s[a] 44 (by decide) (by decide) k2)]; rfl), rfl⟩
  rcases Bool.eq_false_or_eq_true ((s[a].toNat : Int) == 40) with k3 | k3
  ·go_enter Tryz.func64, Tryz.ntmps64
   go_wp2
   go_ret
   exact ⟨yak (by rw [HS.out, if_pos (ybs s[a] 40 (by decide) (by decide) k3)]; rfl), rfl⟩
  rcases Bool.eq_false_or_eq_true ((s[a].toNat : Int) == 41) with k4 | k4
  ·go_enter Tryz.func64, Tryz.ntmps64
   go_wp2
   go_ret
   exact ⟨yak (by rw [HS.out, if_pos (ybs s[a] 41 (by decide) (by decide) k4)]; rfl), rfl⟩
  rcases Bool.eq_false_or_eq_true ((s[a].toNat : Int) == 46) with k5 | k5
  ·go_enter Tryz.func64, Tryz.ntmps64
   go_wp2
   go_ret
   exact ⟨yak (by rw [HS.out, if_pos (ybs s[a] 46 (by decide) (by decide) k5)]; rfl), rfl⟩
  rcases Bool.eq_false_or_eq_true ((s[a].toNat : Int) == 63) with k6 | k6
  ·go_enter Tryz.func64, Tryz.ntmps64
   go_wp2
   go_ret
   exact ⟨yak (by rw [HS.out, if_pos (ybs s[a] 63 (by decide) (by decide) k6)]; rfl), rfl⟩
  rcases Bool.eq_false_or_eq_true ((s[a].toNat : Int) == 60) with k7 | k7
  ·go_enter Tryz.func64, Tryz.ntmps64
   go_wp2
   go_ret
   exact ⟨yak (by rw [HS.out, if_pos (ybs s[a] 60 (by decide) (by decide) k7)]; rfl), rfl⟩
  rcases Bool.eq_false_or_eq_true ((s[a].toNat : Int) == 62) with k8 | k8
  ·go_enter Tryz.func64, Tryz.ntmps64
   go_wp2
   go_ret
   exact ⟨yak (by rw [HS.out, if_pos (ybs s[a] 62 (by decide) (by decide) k8)]; rfl), rfl⟩
  rcases Bool.eq_false_or_eq_true ((s[a].toNat : Int) == 43) with k9 | k9
  ·go_enter Tryz.func64, Tryz.ntmps64
   go_wp2
   go_ret
   exact ⟨yak (by rw [HS.out, if_pos (ybs s[a] 43 (by decide) (by decide) k9)]; rfl), rfl⟩
  rcases Bool.eq_false_or_eq_true ((s[a].toNat : Int) == 45) with k10 | k10
  ·go_enter Tryz.func64, Tryz.ntmps64
   go_wp2
   go_ret
   exact ⟨yak (by rw [HS.out, if_pos (ybs s[a] 45 (by decide) (by decide) k10)]; rfl), rfl⟩
  rcases Bool.eq_false_or_eq_true ((s[a].toNat : Int) == 42) with k11 | k11
  ·go_enter Tryz.func64, Tryz.ntmps64
   go_wp2
   go_ret
   exact ⟨yak (by rw [HS.out, if_pos (ybs s[a] 42 (by decide) (by decide) k11)]; rfl), rfl⟩
  rcases Bool.eq_false_or_eq_true ((s[a].toNat : Int) == 47) with k12 | k12
  ·go_enter Tryz.func64, Tryz.ntmps64
   go_wp2
   go_ret
   exact ⟨yak (by rw [HS.out, if_pos (ybs s[a] 47 (by decide) (by decide) k12)]; rfl), rfl⟩
  rcases Bool.eq_false_or_eq_true ((s[a].toNat : Int) == 37) with k13 | k13
  ·go_enter Tryz.func64, Tryz.ntmps64
   go_wp2
   go_ret
   exact ⟨yak (by rw [HS.out, if_pos (ybs s[a] 37 (by decide) (by decide) k13)]; rfl), rfl⟩
  rcases Bool.eq_false_or_eq_true ((s[a].toNat : Int) == 33) with k14 | k14
  ·go_enter Tryz.func64, Tryz.ntmps64
   go_wp2
   go_ret
   exact ⟨yak (by rw [HS.out, if_pos (ybs s[a] 33 (by decide) (by decide) k14)]; rfl), rfl⟩
  ·go_enter Tryz.func64, Tryz.ntmps64
   go_wp2
   go_ret
   exact ⟨yak (by rw [HS.out, if_neg (by rw [znv s[a] k0 k1 k2 k3 k4 k5 k6 k7 k8 k9 k10 k11 k12 k13 k14]; decide)]; rfl), rfl⟩
end
section
open Go.RowKit
set_option maxHeartbeats 1000000 in
theorem while_word (s : ByteArray) (a : Nat) (pa pt : Addr) (w : World) (hs : s.size ≤ 20000) (ha : a ≤ s.size) (hpa : w.cell? pa = some (.int .i64 a)) (hpt : w.cell? pt = some (.string s)) :
  Calls Tryz.prog 77 #[.func (.func 79) #[] #[], .pointer (some pa), .pointer (some pt)] w fun e w' => e = .returned (.int .i64 (yej ydu s a)) ∧ w = w' := by
 go_enter Tryz.func77, Tryz.ntmps77
 go_wp2
 go_loop [5] (fun i => ∃ k : Nat, k ≤ s.size ∧ i = .int .i64 k ∧ Hid (yej ydu s a = yej ydu s k)) (fun i => s.size - (intOf i).toNat)
 case atStart => exact ⟨a, ha, rfl, rfl⟩
 case round =>
  obtain ⟨k, hk, rfl, hk2⟩ := hrel
  by_cases hlt : k < s.size
  ·go_wp2_with (go_at_call 79; refine (yvz _ _).mono ?_; rintro e w' ⟨rfl, rfl⟩)
   ·exact ⟨⟨k + 1, by omega, by go_num, hk2.out.trans (ylr _ s k hlt (by assumption))⟩, by simp [intOf]; omega⟩
   ·go_ret
    rw [hk2.out, yzi _ s k hlt (by assumption)]
    exact ⟨rfl, rfl⟩
  ·go_wp2
   go_ret
   rw [hk2.out, yuw _ _ _ (by omega)]
   exact ⟨rfl, rfl⟩
set_option maxHeartbeats 1000000 in
theorem while_digit (s : ByteArray) (a : Nat) (pa pt : Addr) (w : World) (hs : s.size ≤ 20000) (ha : a ≤ s.size) (hpa : w.cell? pa = some (.int .i64 a)) (hpt : w.cell? pt = some (.string s)) :
  Calls Tryz.prog 77 #[.func (.func 80) #[] #[], .pointer (some pa), .pointer (some pt)] w fun e w' => e = .returned (.int .i64 (yej yba s a)) ∧ w = w' := by
 go_enter Tryz.func77, Tryz.ntmps77
 go_wp2
 go_loop [5] (fun i => ∃ k : Nat, k ≤ s.size ∧ i = .int .i64 k ∧ Hid (yej yba s a = yej yba s k)) (fun i => s.size - (intOf i).toNat)
 case atStart => exact ⟨a, ha, rfl, rfl⟩
 case round =>
  obtain ⟨k, hk, rfl, hk2⟩ := hrel
  by_cases hlt : k < s.size
  ·go_wp2_with (go_at_call 80; refine (ytu _ _).mono ?_; rintro e w' ⟨rfl, rfl⟩)
   ·exact ⟨⟨k + 1, by omega, by go_num, hk2.out.trans (ylr _ s k hlt (by assumption))⟩, by simp [intOf]; omega⟩
   ·go_ret
    rw [hk2.out, yzi _ s k hlt (by assumption)]
    exact ⟨rfl, rfl⟩
  ·go_wp2
   go_ret
   rw [hk2.out, yuw _ _ _ (by omega)]
   exact ⟨rfl, rfl⟩
def yzv (s : ByteArray) (a : Nat) (w : World) (e : Ending) (w' : World) : Prop :=
 Below w.heap.size w w' ∧
 ((∃ k n v : Nat, yms (yad s a) = .ok (k, n, v) ∧ e = .returned (.tuple #[.agg #[.int .i64 k, .int .i64 a, .int .i64 ((a + n : Nat) : Int), .int .i64 v], .int .i64 0])) ∨
  (∃ x : Nat, yms (yad s a) = .error x ∧ 1 ≤ x ∧ x ≤ 5 ∧ e = .returned (.tuple #[.agg #[.int .i64 0, .int .i64 0, .int .i64 0, .int .i64 0], .int .i64 x])))
theorem yqk (s : ByteArray) (a : Nat) (h : a < s.size) (hl : ycp s[a] = true) (h24 : 24 < yej ydu s a - a) : yms (yad s a) = .error 5 := by
 unfold yej at h24
 rw [ybm s a h] at *
 rw [yms, if_pos hl, if_pos (by omega)]
theorem zgx (s : ByteArray) (a : Nat) (h : a < s.size) (hl : ycp s[a] = true) (h24 : ¬ 24 < yej ydu s a - a) : yms (yad s a) = .ok (1, yej ydu s a - a, 0) := by
 unfold yej at *
 rw [ybm s a h] at *
 rw [yms, if_pos hl, if_neg (by omega), show a + ynx ydu (s[a] :: yad s (a + 1)) - a = ynx ydu (s[a] :: yad s (a + 1)) by omega]
theorem zno (p : UInt8 → Bool) (s : ByteArray) (a : Nat) : yej p s a - a = ynx p (yad s a) := by unfold yej; omega
theorem ytg (s : ByteArray) (a : Nat) (h : a < s.size) (hl : ycp s[a] = false) (hd : yba s[a] = true) (hn : yja (yad (s.extract a (yej yba s a)) 0) = none) : yms (yad s a) = .error 2 := by
 unfold yad at hn
 rw [List.drop_zero, Lib.extract_data, zno] at hn
 rw [show s.data.toList.drop a = yad s a from rfl] at hn
 rw [ybm s a h] at *
 simp only [yms]
 rw [if_neg (by simp [hl]), if_pos hd, hn]
theorem zlg (s : ByteArray) (a v : Nat) (h : a < s.size) (hl : ycp s[a] = false) (hd : yba s[a] = true) (hn : yja (yad (s.extract a (yej yba s a)) 0) = some v) : yms (yad s a) = .ok (2, yej yba s a - a, v) := by
 rw [zno]
 unfold yad at hn
 rw [List.drop_zero, Lib.extract_data, zno] at hn
 rw [show s.data.toList.drop a = yad s a from rfl] at hn
 rw [ybm s a h] at *
 simp only [yms]
 rw [if_neg (by simp [hl]), if_pos hd, hn]
theorem yyd (s : ByteArray) (a : Nat) (h : a < s.size) (hl : ycp s[a] = false) (hd : yba s[a] = false) (hn : yes (yad s a) = 0) : yms (yad s a) = .error 4 := by
 rw [ybm s a h] at *
 rw [yms, if_neg (by simp [hl]), if_neg (by simp [hd]), if_pos hn]
theorem zod (s : ByteArray) (a : Nat) (h : a < s.size) (hl : ycp s[a] = false) (hd : yba s[a] = false) (hn : ¬ yes (yad s a) = 0) : yms (yad s a) = .ok (3, yes (yad s a), 0) := by
 rw [ybm s a h] at *
 rw [yms, if_neg (by simp [hl]), if_neg (by simp [hd]), if_neg hn]
theorem zaf (s : ByteArray) (a : Nat) : ∀ c ∈ yad (s.extract a (yej yba s a)) 0, yba c = true := by
 unfold yad
 rw [List.drop_zero, Lib.extract_data, zno]
 exact run_all yba _
theorem size_extract (s : ByteArray) (a b : Nat) (h : b ≤ s.size) : (s.extract a b).size = b - a := by
 rw [ByteArray.size_extract]; omega
theorem bytes_tail (s : ByteArray) (a : Nat) : yad (s.extract a s.size) 0 = yad s a := by
 unfold yad
 rw [List.drop_zero, Lib.extract_data, List.take_of_length_le]
 rw [List.length_drop, ← Lib.size_eq]; exact Nat.le_refl _
theorem zhl (w : World) (o1 o2 o3 : Obj) : Below w.heap.size w (((w.alloc o1).alloc o2).alloc o3) :=
 (((Below.refl _ _).alloc (Nat.le_refl _) _).alloc (by simp) _).alloc (by simp; omega) _
set_option maxHeartbeats 1000000 in
theorem next_any (s : ByteArray) (a : Nat) (w : World) (hs : s.size ≤ 20000) (ha : a < s.size) :
  Calls Tryz.prog 39 #[.string s, .int .i64 a] w (yzv s a w) := by
 cases hl : ycp s[a]
 ·cases hd : yba s[a]
  ·have HB := Lib.hid (bytes_tail s a)
   have hz : 0 < (s.extract a s.size).size := by rw [size_extract _ _ _ (Nat.le_refl _)]; omega
   have hz2 : (s.extract a s.size).size ≤ 20000 := by rw [size_extract _ _ _ (Nat.le_refl _)]; omega
   have hsl := zgu (yad s a)
   rw [ycb] at hsl
   go_enter Tryz.func39, Tryz.ntmps39
   go_wp2_with (first | (go_at_call 78; refine (ykx _ _).mono ?_; rintro e w' ⟨rfl, rfl⟩) | (go_at_call 80; refine (ytu _ _).mono ?_; rintro e w' ⟨rfl, rfl⟩) | (go_at_call 82; refine (sign_any _ _ hz2 hz).mono ?_; rintro e w' ⟨rfl, hbl⟩; rw [HB.out]; obtain ⟨hcl, hfz⟩ := zkm hbl; have hsz := hbl.size; simp at hsz))
   all_goals have hB : Below w.heap.size w w' := (zhl _ _ _ _).trans (hbl.mono (by simp; omega))
   ·have h0 : yes (yad s a) = 0 := by
     have : ((yes (yad s a) : Int) == 0) = true := by assumption
     simp at this; exact this
    refine bodyPost_ret (v := .tuple #[.agg #[.int .i64 0, .int .i64 0, .int .i64 0, .int .i64 0], .int .i64 4]) (by simp [results, Tryz.results39, go_sem, hcl]) rfl ⟨?_, .inr ⟨4, yyd s a ha hl hd h0, by omega, by omega, rfl⟩⟩
    repeat (first | exact hB | refine Below.setCell ?_ (by simp; omega) _)
   ·have h0 : ¬ yes (yad s a) = 0 := by
     have : ((yes (yad s a) : Int) == 0) = false := by assumption
     simp at this; exact this
    refine bodyPost_ret (v := .tuple #[.agg #[.int .i64 3, .int .i64 a, .int .i64 ((a + yes (yad s a) : Nat) : Int), .int .i64 0], .int .i64 0]) (by simp [results, Tryz.results39, go_sem, hcl]) rfl ⟨?_, .inl ⟨3, _, 0, zod s a ha hl hd h0, rfl⟩⟩
    repeat (first | exact hB | refine Below.setCell ?_ (by simp; omega) _)
  ·have hb := zgq yba s a (by omega)
   have hb1 := hb.1
   have hb2 := hb.2
   clear hb
   have hp := runTo_pos yba s a ha hd
   have hz : 0 < (s.extract a (yej yba s a)).size := by rw [size_extract _ _ _ hb2]; omega
   have hz2 : (s.extract a (yej yba s a)).size ≤ 20000 := by rw [size_extract _ _ _ hb2]; omega
   have HD := Lib.hid (zaf s a)
   go_enter Tryz.func39, Tryz.ntmps39
   go_wp2_with (first | (go_at_call 78; refine (ykx _ _).mono ?_; rintro e w' ⟨rfl, rfl⟩) | (go_at_call 80; refine (ytu _ _).mono ?_; rintro e w' ⟨rfl, rfl⟩) | (go_at_call 77; refine (while_digit s a _ _ _ hs (by omega) (by go_simp) (by go_simp)).mono ?_; rintro e w' ⟨rfl, rfl⟩) | (go_at_call 81; refine (number_any _ _ hz2 hz HD).mono ?_; rintro e w' ⟨rfl, ⟨v, hv, rfl⟩ | ⟨v, hv, rfl⟩⟩ <;> have HV := Lib.hid hv <;> clear hv))
   ·refine bodyPost_ret (v := .tuple #[.agg #[.int .i64 2, .int .i64 a, .int .i64 (yej yba s a), .int .i64 v], .int .i64 0]) (by simp [results, Tryz.results39, go_sem]) rfl ⟨zhl _ _ _ _, .inl ⟨2, _, v, zlg s a v ha hl hd HV.out, ?_⟩⟩
    rw [show a + (yej yba s a - a) = yej yba s a by omega]; rfl
   ·refine bodyPost_ret (v := .tuple #[.agg #[.int .i64 0, .int .i64 0, .int .i64 0, .int .i64 0], .int .i64 2]) (by simp [results, Tryz.results39, go_sem]) rfl ⟨zhl _ _ _ _, .inr ⟨2, ytg s a ha hl hd HV.out, by omega, by omega, rfl⟩⟩
 ·have hb := zgq ydu s a (by omega)
  have hb1 := hb.1
  have hb2 := hb.2
  clear hb
  go_enter Tryz.func39, Tryz.ntmps39
  go_wp2_with (first | (go_at_call 78; refine (ykx _ _).mono ?_; rintro e w' ⟨rfl, rfl⟩) | (go_at_call 77; refine (while_word s a _ _ _ hs (by omega) (by go_simp) (by go_simp)).mono ?_; rintro e w' ⟨rfl, rfl⟩))
  ·refine bodyPost_ret (v := .tuple #[.agg #[.int .i64 0, .int .i64 0, .int .i64 0, .int .i64 0], .int .i64 5]) (by simp [results, Tryz.results39, go_sem]) rfl ⟨zhl _ _ _ _, .inr ⟨5, yqk s a ha hl (by omega), by omega, by omega, rfl⟩⟩
  ·refine bodyPost_ret (v := .tuple #[.agg #[.int .i64 1, .int .i64 a, .int .i64 (yej ydu s a), .int .i64 0], .int .i64 0]) (by simp [results, Tryz.results39, go_sem]) rfl ⟨zhl _ _ _ _, .inl ⟨1, _, 0, zgx s a ha hl (by omega), ?_⟩⟩
   rw [show a + (yej ydu s a - a) = yej ydu s a by omega]; rfl
end
end Go.Proofs.YtefiainojfeagaaGreatDoor
