/- Contracts of builders of strings: copyCheck, WriteString, String; numbers written by the library. -/
import Derived.Test.YtkjcjenkepejgaaDoorSymW
import Derived.Test.YtkjcjenkepejgaaDoorTab
import Derived.Test.YtkjcjenkepejgaaDoorSplitMath
import Derived.Test.YtkjcjenkepejgaaDoorEncG
import Derived.Test.YtkjcjenkepejgaaDoorShelf
set_option linter.unusedVariables false
set_option maxRecDepth 100000
set_option maxHeartbeats 4000000
namespace Go.Proofs.YtkjcjenkepejgaaDoor
open Go.RowKit
/-- What a builder's address field holds: nothing yet, or the builder's own address. -/
def bp (used : Bool) (id : Nat) : AV := match used with
  | true => .lp id 0
  | false => .v (.pointer none)
def bldH (used : Bool) (l : Bs) : List (Nat × Option LObj) := [(1001, some (.tcells 41 [bp used 1001, .ls 1003 1 l.length])), (1003, some (.tvec 5 (bytesA l)))]
theorem pt_builder : Tryd.prog.underlying 38 = some (.pointer 41) := Tryd.underlying38
theorem bld_cl {u v : Bool} {l m : Bs} {N : Nat} (hN : N ≤ 1001) : ∀ id o, hlook (bldH v m) id = some o → isC o = true → N ≤ id ∧ ∃ o', hlook (bldH u l) id = some o' ∧ isC o' = true := by
  intro id o ho hc
  simp only [bldH, hlook] at ho ⊢
  cases h1 : Nat.beq id 1001 with
  | true =>
    have := Nat.eq_of_beq_eq_true h1
    exact ⟨by omega, _, rfl, rfl⟩
  | false =>
    simp only [h1] at ho
    cases h2 : Nat.beq id 1003 with
    | true => simp only [h2, Option.some.injEq] at ho; subst ho; cases hc
    | false => simp only [h2] at ho; cases ho
theorem copyCheck_con (u : Bool) (l : Bs) : ConM Tryd.prog 29 [.lp 1001 0] (hlook (bldH u l)) (.tup []) (hlook (bldH true l)) := by
  refine conM_of tok Tryd.func29 rfl rfl Tryd.ntmps29 Tryd.results29 rfl (bld_cl (by decide)) ?_
  show A _ _ _ _ (S _ _)
  cases u
  · (repeat (first | refine L_int tok rfl (by constructor <;> omega) rfl rfl ?_ | refine L_lenMap tok rfl rfl rfl rfl ?_ | refine L_calm tok rfl rfl rfl ?_ | refine L_nil ?_ | refine A_seq ?_ | refine A_region (lf := lfT) ?_ | refine A_region_drawn (lf := lf0) mixed (by kernel_rfl) rfl ?_ | refine L_skip rfl rfl ?_ | refine L_box rfl rfl rfl rfl rfl rfl rfl rfl ?_ | refine L_alloc tok rfl rfl rfl rfl rfl rfl rfl ?_ | refine L_store tok rfl rfl rfl rfl rfl rfl rfl rfl rfl ?_ | refine L_build tok rfl rfl rfl rfl rfl rfl ?_ | refine L_buildSlice tok rfl rfl rfl rfl rfl rfl rfl rfl rfl ?_ | refine L_makeFunc rfl rfl rfl ?_ | with_reducible refine inblk_n ?_ | with_reducible refine then_n ?_ | refine A_block ?_ | refine A_skip ?_ | refine A_exit ?_ | refine A_cond (b := true) rfl (fun _ => ?_) (fun h => by cases h) | refine A_cond (b := false) rfl (fun h => by cases h) (fun _ => ?_) | refine L_index tok rfl rfl rfl (by omega) (row_map (by assumption)) rfl rfl ?_ | refine L_index tok rfl rfl rfl (by omega) (row_mapI (by assumption)) rfl rfl ?_ | refine L_nilCheck rfl rfl rfl rfl ?_ | refine L_yield (yield_eqlNil pt_builder rfl rfl) rfl rfl ?_))
    refine L_yield (yield_toUnsafe (te := 41) (xs := [bp false 1001, .ls 1003 1 l.length]) (t0 := 41) pt_builder Tryd.underlying68 (by kernel_rfl) rfl rfl (Nat.zero_lt_succ _)) rfl rfl ?_
    (repeat (first | refine L_int tok rfl (by constructor <;> omega) rfl rfl ?_ | refine L_lenMap tok rfl rfl rfl rfl ?_ | refine L_calm tok rfl rfl rfl ?_ | refine L_nil ?_ | refine A_seq ?_ | refine A_region (lf := lfT) ?_ | refine A_region_drawn (lf := lf0) mixed (by kernel_rfl) rfl ?_ | refine L_skip rfl rfl ?_ | refine L_box rfl rfl rfl rfl rfl rfl rfl rfl ?_ | refine L_alloc tok rfl rfl rfl rfl rfl rfl rfl ?_ | refine L_store tok rfl rfl rfl rfl rfl rfl rfl rfl rfl ?_ | refine L_build tok rfl rfl rfl rfl rfl rfl ?_ | refine L_buildSlice tok rfl rfl rfl rfl rfl rfl rfl rfl rfl ?_ | refine L_makeFunc rfl rfl rfl ?_ | with_reducible refine inblk_n ?_ | with_reducible refine then_n ?_ | refine A_block ?_ | refine A_skip ?_ | refine A_exit ?_ | refine A_cond (b := true) rfl (fun _ => ?_) (fun h => by cases h) | refine A_cond (b := false) rfl (fun h => by cases h) (fun _ => ?_) | refine L_index tok rfl rfl rfl (by omega) (row_map (by assumption)) rfl rfl ?_ | refine L_index tok rfl rfl rfl (by omega) (row_mapI (by assumption)) rfl rfl ?_ | refine L_nilCheck rfl rfl rfl rfl ?_ | refine L_yield (yield_eqlNil pt_builder rfl rfl) rfl rfl ?_ | refine L_yield (yield_toUnsafe (t0 := 41) pt_builder Tryd.underlying68 (by kernel_rfl) rfl rfl (Nat.zero_lt_succ _)) rfl rfl ?_ | refine L_yield (yield_fromUnsafe (t0 := 41) Tryd.underlying68 pt_builder (by kernel_rfl) rfl rfl (by simp) (by kernel_rfl)) rfl rfl ?_ | refine L_yield (yield_noEscape Tryd.func37 (by kernel_rfl) (by kernel_rfl) (by kernel_rfl) (by kernel_rfl) rfl) rfl rfl ?_ | refine L_storeT tok rfl rfl rfl rfl rfl rfl (by simp) rfl rfl rfl ?_))
    exact ⟨_, rfl, wk_refl _, subH_look (subH_cons rfl (subH_cons rfl subH_nil))⟩
  · (repeat (first | refine L_int tok rfl (by constructor <;> omega) rfl rfl ?_ | refine L_lenMap tok rfl rfl rfl rfl ?_ | refine L_calm tok rfl rfl rfl ?_ | refine L_nil ?_ | refine A_seq ?_ | refine A_region (lf := lfT) ?_ | refine A_region_drawn (lf := lf0) mixed (by kernel_rfl) rfl ?_ | refine L_skip rfl rfl ?_ | refine L_box rfl rfl rfl rfl rfl rfl rfl rfl ?_ | refine L_alloc tok rfl rfl rfl rfl rfl rfl rfl ?_ | refine L_store tok rfl rfl rfl rfl rfl rfl rfl rfl rfl ?_ | refine L_build tok rfl rfl rfl rfl rfl rfl ?_ | refine L_buildSlice tok rfl rfl rfl rfl rfl rfl rfl rfl rfl ?_ | refine L_makeFunc rfl rfl rfl ?_ | with_reducible refine inblk_n ?_ | with_reducible refine then_n ?_ | refine A_block ?_ | refine A_skip ?_ | refine A_exit ?_ | refine A_cond (b := true) rfl (fun _ => ?_) (fun h => by cases h) | refine A_cond (b := false) rfl (fun h => by cases h) (fun _ => ?_) | refine L_index tok rfl rfl rfl (by omega) (row_map (by assumption)) rfl rfl ?_ | refine L_index tok rfl rfl rfl (by omega) (row_mapI (by assumption)) rfl rfl ?_ | refine L_nilCheck rfl rfl rfl rfl ?_ | refine L_yield (yield_eqlLp pt_builder rfl rfl rfl) rfl rfl ?_ | refine L_yield (yield_neqLp pt_builder (by kernel_rfl) rfl rfl rfl) rfl rfl ?_))
    exact ⟨_, rfl, wk_refl _, subH_look (subH_cons rfl (subH_cons rfl subH_nil))⟩

def lfU (o : Oper) : Bool := loudOp o.op || match o.op with
  | .call ⟨.builtin .unsafeString, _, _⟩ => true
  | _ => false
/-- Where the order is drawn: writes into builders stand alone. -/
def lfB (o : Oper) : Bool := loudOp o.op || match o.op with
  | .call ⟨.value (.func 16), _, _⟩ => true
  | _ => false
theorem writeString_con (u : Bool) (l : Bs) (s : ByteArray) (hl : l.length + s.size ≤ 1000000) : ConM Tryd.prog 16 [.lp 1001 0, strA s] (hlook (bldH u l)) (.tup [i64 s.size, .v .nilIface]) (hlook (bldH true (l ++ bl s))) := by
  refine conM_of tok Tryd.func16 rfl rfl Tryd.ntmps16 Tryd.results16 rfl (bld_cl (by decide)) ?_
  show A _ _ _ _ (S _ _)
  (repeat (first | refine L_int tok rfl (by constructor <;> omega) rfl rfl ?_ | refine L_lenMap tok rfl rfl rfl rfl ?_ | refine L_calm tok rfl rfl rfl ?_ | refine L_nil ?_ | refine A_seq ?_ | refine A_region (lf := lfT) ?_ | refine A_region_drawn (lf := lf0) mixed (by kernel_rfl) rfl ?_ | refine L_skip rfl rfl ?_ | refine L_box rfl rfl rfl rfl rfl rfl rfl rfl ?_ | refine L_alloc tok rfl rfl rfl rfl rfl rfl rfl ?_ | refine L_store tok rfl rfl rfl rfl rfl rfl rfl rfl rfl ?_ | refine L_build tok rfl rfl rfl rfl rfl rfl ?_ | refine L_buildSlice tok rfl rfl rfl rfl rfl rfl rfl rfl rfl ?_ | refine L_makeFunc rfl rfl rfl ?_ | with_reducible refine inblk_n ?_ | with_reducible refine then_n ?_ | refine A_block ?_ | refine A_skip ?_ | refine A_exit ?_ | refine A_cond (b := true) rfl (fun _ => ?_) (fun h => by cases h) | refine A_cond (b := false) rfl (fun h => by cases h) (fun _ => ?_) | refine L_index tok rfl rfl rfl (by omega) (row_map (by assumption)) rfl rfl ?_ | refine L_index tok rfl rfl rfl (by omega) (row_mapI (by assumption)) rfl rfl ?_))
  cases u
  all_goals
    first | refine L_callM [(1001, 1001), (1003, 1003)] (copyCheck_con false l) rfl rfl rfl rfl rfl rfl rfl (subH_cons rfl (subH_cons rfl subH_nil)) rfl rfl rfl rfl rfl rfl ?_ | refine L_callM [(1001, 1001), (1003, 1003)] (copyCheck_con true l) rfl rfl rfl rfl rfl rfl rfl (subH_cons rfl (subH_cons rfl subH_nil)) rfl rfl rfl rfl rfl rfl ?_
    (repeat (first | refine L_int tok rfl (by constructor <;> omega) rfl rfl ?_ | refine L_lenMap tok rfl rfl rfl rfl ?_ | refine L_calm tok rfl rfl rfl ?_ | refine L_nil ?_ | refine A_seq ?_ | refine A_region (lf := lfT) ?_ | refine A_region_drawn (lf := lf0) mixed (by kernel_rfl) rfl ?_ | refine L_skip rfl rfl ?_ | refine L_box rfl rfl rfl rfl rfl rfl rfl rfl ?_ | refine L_alloc tok rfl rfl rfl rfl rfl rfl rfl ?_ | refine L_store tok rfl rfl rfl rfl rfl rfl rfl rfl rfl ?_ | refine L_build tok rfl rfl rfl rfl rfl rfl ?_ | refine L_buildSlice tok rfl rfl rfl rfl rfl rfl rfl rfl rfl ?_ | refine L_makeFunc rfl rfl rfl ?_ | with_reducible refine inblk_n ?_ | with_reducible refine then_n ?_ | refine A_block ?_ | refine A_skip ?_ | refine A_exit ?_ | refine A_cond (b := true) rfl (fun _ => ?_) (fun h => by cases h) | refine A_cond (b := false) rfl (fun h => by cases h) (fun _ => ?_) | refine L_index tok rfl rfl rfl (by omega) (row_map (by assumption)) rfl rfl ?_ | refine L_index tok rfl rfl rfl (by omega) (row_mapI (by assumption)) rfl rfl ?_ | refine L_nilCheck rfl rfl rfl rfl ?_))
    refine L_appendS tok rfl rfl rfl rfl rfl (by simp [bytesA_len]) rfl (by omega) rfl rfl rfl rfl rfl ?_
    (repeat (first | refine L_int tok rfl (by constructor <;> omega) rfl rfl ?_ | refine L_lenMap tok rfl rfl rfl rfl ?_ | refine L_calm tok rfl rfl rfl ?_ | refine L_nil ?_ | refine A_seq ?_ | refine A_region (lf := lfT) ?_ | refine A_region_drawn (lf := lf0) mixed (by kernel_rfl) rfl ?_ | refine L_skip rfl rfl ?_ | refine L_box rfl rfl rfl rfl rfl rfl rfl rfl ?_ | refine L_alloc tok rfl rfl rfl rfl rfl rfl rfl ?_ | refine L_store tok rfl rfl rfl rfl rfl rfl rfl rfl rfl ?_ | refine L_build tok rfl rfl rfl rfl rfl rfl ?_ | refine L_buildSlice tok rfl rfl rfl rfl rfl rfl rfl rfl rfl ?_ | refine L_makeFunc rfl rfl rfl ?_ | with_reducible refine inblk_n ?_ | with_reducible refine then_n ?_ | refine A_block ?_ | refine A_skip ?_ | refine A_exit ?_ | refine A_cond (b := true) rfl (fun _ => ?_) (fun h => by cases h) | refine A_cond (b := false) rfl (fun h => by cases h) (fun _ => ?_) | refine L_index tok rfl rfl rfl (by omega) (row_map (by assumption)) rfl rfl ?_ | refine L_index tok rfl rfl rfl (by omega) (row_mapI (by assumption)) rfl rfl ?_ | refine L_nilCheck rfl rfl rfl rfl ?_ | refine L_storeT tok rfl rfl rfl rfl rfl rfl (by simp) rfl rfl rfl ?_))
    refine A_ret ?_
    refine ⟨_, rfl, wk_refl _, subH_look (subH_cons ?_ (subH_cons ?_ subH_nil))⟩
    · have e : l.length + s.size = (l ++ bl s).length := by simp [bl, ← ByteArray.size_data]
      rw [← e]; rfl
    · have e : bytesA (l ++ bl s) = bytesA l ++ bytesA s.data.toList := by rw [bytesA_app]; rfl
      rw [e]; rfl
theorem string_con (u : Bool) (l : Bs) (h0 : l ≠ []) (hl : l.length ≤ 1000000) : ConM Tryd.prog 18 [.lp 1001 0] (hlook (bldH u l)) (strA (ba l)) (hlook []) := by
  refine conM_of tok Tryd.func18 rfl rfl Tryd.ntmps18 Tryd.results18 rfl (fun id o h => by simp [hlook] at h) ?_
  show A _ _ _ _ (S _ _)
  obtain ⟨x, r, rfl⟩ : ∃ x r, l = x :: r := by cases l with | nil => exact absurd rfl h0 | cons x r => exact ⟨x, r, rfl⟩
  (repeat (first | refine L_int tok rfl (by constructor <;> omega) rfl rfl ?_ | refine L_lenMap tok rfl rfl rfl rfl ?_ | refine L_calm tok rfl rfl rfl ?_ | refine L_nil ?_ | refine A_seq ?_ | refine A_region (lf := lfT) ?_ | refine L_skip rfl rfl ?_ | refine L_box rfl rfl rfl rfl rfl rfl rfl rfl ?_ | refine L_alloc tok rfl rfl rfl rfl rfl rfl rfl ?_ | refine L_store tok rfl rfl rfl rfl rfl rfl rfl rfl rfl ?_ | refine L_build tok rfl rfl rfl rfl rfl rfl ?_ | refine L_buildSlice tok rfl rfl rfl rfl rfl rfl rfl rfl rfl ?_ | refine L_makeFunc rfl rfl rfl ?_ | with_reducible refine inblk_n ?_ | with_reducible refine then_n ?_ | refine A_block ?_ | refine A_skip ?_ | refine A_exit ?_ | refine A_cond (b := true) rfl (fun _ => ?_) (fun h => by cases h) | refine A_cond (b := false) rfl (fun h => by cases h) (fun _ => ?_) | refine L_index tok rfl rfl rfl (by omega) (row_map (by assumption)) rfl rfl ?_ | refine L_index tok rfl rfl rfl (by omega) (row_mapI (by assumption)) rfl rfl ?_))
  refine A_region_drawn (lf := lfU) mixed (by kernel_rfl) rfl ?_
  (repeat (first | refine L_int tok rfl (by constructor <;> omega) rfl rfl ?_ | refine L_lenMap tok rfl rfl rfl rfl ?_ | refine L_calm tok rfl rfl rfl ?_ | refine L_nil ?_ | refine A_seq ?_ | refine A_region (lf := lfT) ?_ | refine L_skip rfl rfl ?_ | refine L_box rfl rfl rfl rfl rfl rfl rfl rfl ?_ | refine L_alloc tok rfl rfl rfl rfl rfl rfl rfl ?_ | refine L_store tok rfl rfl rfl rfl rfl rfl rfl rfl rfl ?_ | refine L_build tok rfl rfl rfl rfl rfl rfl ?_ | refine L_buildSlice tok rfl rfl rfl rfl rfl rfl rfl rfl rfl ?_ | refine L_makeFunc rfl rfl rfl ?_ | with_reducible refine inblk_n ?_ | with_reducible refine then_n ?_ | refine A_block ?_ | refine A_skip ?_ | refine A_exit ?_ | refine A_cond (b := true) rfl (fun _ => ?_) (fun h => by cases h) | refine A_cond (b := false) rfl (fun h => by cases h) (fun _ => ?_) | refine L_index tok rfl rfl rfl (by omega) (row_map (by assumption)) rfl rfl ?_ | refine L_index tok rfl rfl rfl (by omega) (row_mapI (by assumption)) rfl rfl ?_ | refine L_nilCheck rfl rfl rfl rfl ?_ | refine L_sliceData rfl rfl (by simp) rfl rfl ?_))
  refine L_unsafeString (l := x :: r) Tryd.underlying57 (by kernel_rfl) rfl rfl rfl (by simp) (by omega) rfl rfl rfl ?_
  (repeat (first | refine L_int tok rfl (by constructor <;> omega) rfl rfl ?_ | refine L_lenMap tok rfl rfl rfl rfl ?_ | refine L_calm tok rfl rfl rfl ?_ | refine L_nil ?_ | refine A_seq ?_ | refine A_region (lf := lfT) ?_ | refine L_skip rfl rfl ?_ | refine L_box rfl rfl rfl rfl rfl rfl rfl rfl ?_ | refine L_alloc tok rfl rfl rfl rfl rfl rfl rfl ?_ | refine L_store tok rfl rfl rfl rfl rfl rfl rfl rfl rfl ?_ | refine L_build tok rfl rfl rfl rfl rfl rfl ?_ | refine L_buildSlice tok rfl rfl rfl rfl rfl rfl rfl rfl rfl ?_ | refine L_makeFunc rfl rfl rfl ?_ | with_reducible refine inblk_n ?_ | with_reducible refine then_n ?_ | refine A_block ?_ | refine A_skip ?_ | refine A_exit ?_ | refine A_cond (b := true) rfl (fun _ => ?_) (fun h => by cases h) | refine A_cond (b := false) rfl (fun h => by cases h) (fun _ => ?_) | refine L_index tok rfl rfl rfl (by omega) (row_map (by assumption)) rfl rfl ?_ | refine L_index tok rfl rfl rfl (by omega) (row_mapI (by assumption)) rfl rfl ?_))
  refine A_ret ?_
  exact ⟨_, rfl, wk_refl _, fun id o h => by cases h⟩

variable {N : Nat} {ops : Array Oper} {lf : Oper → Bool} {Q : SS → Prop} {t : List (Nat × AV)} {h : List (Nat × Option LObj)} {rest : List Oper} {d : Nat} {ty : TypeId} {pos : String} {af : Array Edge} {gd : Option (Nat × Bool)}
/-- A builder in block b, its bytes in block i. -/
def bldO (u : Bool) (b i : Nat) (l : Bs) : LObj := .tcells 41 [bp u b, .ls i 1 l.length]
def bytesO (l : Bs) : LObj := .tvec 5 (bytesA l)
theorem renO_bld (u : Bool) (b i : Nat) (l : Bs) : renO (slook [(1001, b), (1003, i)]) (.tcells 41 [bp u 1001, .ls 1003 1 l.length]) = bldO u b i l := by cases u <;> rfl
/-- A write into a builder. -/
theorem L_write (u : Bool) (b i : Nat) (l : Bs) (s : ByteArray) (m : Bs) {g : Operand} {args : List Operand} {ats : Array TypeId} {h' : List (Nat × Option LObj)} (hm : m = bl s) (hl0 : l.length + s.size ≤ 1000000)
    (hg : evF (look t) g = some (.fn 16 [])) (hx : evL (evF (look t)) args = some [.lp b 0, strA s]) (hv : nodupN [b, i] = true) (hb : hlook h b = some (bldO u b i l)) (hi : hlook h i = some (bytesO l)) (hh : forgHs [b, i] (dropK [b, i] h) = some h')
    (hl : lf ⟨some d, .call { callee := .value g, args := args.toArray, argTypes := ats }, ty, pos, af, gd⟩ = true) (hw : wantedF ops (look t) ⟨some d, .call { callee := .value g, args := args.toArray, argTypes := ats }, ty, pos, af, gd⟩ = some true) (hd : Nat.blt d N = true)
    (k : Lex Tryd.prog N ops lf Q rest (S ((d, .tup [i64 s.size, .v .nilIface]) :: forgTM [(1001, b), (1003, i)] (bldH true (l ++ bl s)) t) ((b, some (bldO true b i (l ++ m))) :: (i, some (bytesO (l ++ m))) :: h'))) : Lex Tryd.prog N ops lf Q (⟨some d, .call { callee := .value g, args := args.toArray, argTypes := ats }, ty, pos, af, gd⟩ :: rest) (S t h) := by
  subst hm
  refine L_callM [(1001, b), (1003, i)] (writeString_con u l s hl0) hg hx rfl rfl hv rfl rfl (subH_cons ?_ (subH_cons ?_ subH_nil)) rfl (by cases u <;> rfl) hh hl hw hd ?_
  · rw [renO_bld]; exact hb
  · exact hi
  · exact k
/-- The string that a builder has; the builder is given up. -/
theorem L_built (u : Bool) (b i : Nat) (l : Bs) {g : Operand} {args : List Operand} {ats : Array TypeId} {h' : List (Nat × Option LObj)} (h0 : l ≠ []) (hl0 : l.length ≤ 1000000)
    (hg : evF (look t) g = some (.fn 18 [])) (hx : evL (evF (look t)) args = some [.lp b 0]) (hv : nodupN [b, i] = true) (hb : hlook h b = some (bldO u b i l)) (hi : hlook h i = some (bytesO l)) (hh : forgHs [b, i] (dropK [b, i] h) = some h')
    (hl : lf ⟨some d, .call { callee := .value g, args := args.toArray, argTypes := ats }, ty, pos, af, gd⟩ = true) (hw : wantedF ops (look t) ⟨some d, .call { callee := .value g, args := args.toArray, argTypes := ats }, ty, pos, af, gd⟩ = some true) (hd : Nat.blt d N = true)
    (k : Lex Tryd.prog N ops lf Q rest (S ((d, strA (ba l)) :: forgTM [(1001, b), (1003, i)] [] t) ((b, none) :: (i, none) :: h'))) : Lex Tryd.prog N ops lf Q (⟨some d, .call { callee := .value g, args := args.toArray, argTypes := ats }, ty, pos, af, gd⟩ :: rest) (S t h) := by
  refine L_callM [(1001, b), (1003, i)] (string_con u l h0 hl0) hg hx rfl rfl hv rfl rfl (subH_cons ?_ (subH_cons ?_ subH_nil)) rfl rfl hh hl hw hd ?_
  · rw [renO_bld]; exact hb
  · exact hi
  · exact k
/-- A new builder. -/
theorem A_builder {N : Nat} {Q : Exit → SS → Prop} (b i : Nat) {c : Code} (hj : hlook h b = some (.tcells 41 (vMap [.pointer none, .slice none 0 0]))) (h1 : freshT i t = true) (h2 : freshH i h = true) (hne : Nat.beq b i = false) (k : A Tryd.prog N c Q (S t ((b, some (bldO false b i [])) :: (i, some (bytesO [])) :: h))) : A Tryd.prog N c Q (S t h) :=
  A_ownCT b 1 i 1 5 hj rfl h1 h2 hne k
theorem itoa_con (n : Int) (h0 : -9223372036854775808 ≤ n) (h1 : n ≤ 9223372036854775807) : Con Tryd.prog 17 [i64 n] (strA (ba (Lib.itoa n))) := by
  refine ⟨⟨_, Tryd.func17, rfl, rfl⟩, rfl, fun ok0 w us hG hok h => ?_⟩
  obtain ⟨u, rfl, h2⟩ := relAll1 h
  cases h2
  refine (Tryd.strconv_Itoa n h0 h1 w hG.2).mono ?_
  rintro e w' ⟨rfl, k, os, rfl⟩
  refine ⟨_, rfl, .v _, ⟨rfl, rfl, rfl, ?_, fun j hj => ?_⟩⟩
  · show w.heap.size ≤ (w.heap ++ os).size
    rw [Array.size_append]; omega
  · show (w.heap ++ os)[j]? = w.heap[j]?
    rw [Array.getElem?_append_left hj]
theorem itoa_dec {n : Int} (h : 0 ≤ n) : Lib.itoa n = Lib.decDigits n.toNat := by
  unfold Lib.itoa
  rw [if_neg (by omega)]
end Go.Proofs.YtkjcjenkepejgaaDoor
