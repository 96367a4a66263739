/- Part 26 of the texts under MemoryRanks,MemoryChanges,MemoryCarries,MemoryCorruptsNamedNodes,MemoryCarriesToItself: joined, with what it needs alone. -/
import Derived.Test.YtenajilnjeafpaaGreatL5
import Derived.Test.YtenajilnjeafpaaGreatL20
set_option linter.unusedVariables false
namespace Go.Proofs.YtenajilnjeafpaaGreat
open Go.RowKit
def u32A (B : BitVec 32) : AV := .v (.int .u32 (B.toNat : Int))
theorem ofInt_u32 (B : BitVec 32) : BitVec.ofInt 32 (B.toNat : Int) = B := by
  apply BitVec.eq_of_toNat_eq
  simp
theorem wrap_u32 (B : BitVec 32) : IntKind.u32.wrap (B.toNat : Int) = (B.toNat : Int) := by
  have := B.isLt
  simp only [IntKind.wrap, IntKind.signed, IntKind.bits, Bool.false_and, if_false, Bool.false_eq_true]
  omega
variable {P : Program} {T : Nat → Option Ty} {N : Nat} {ops : Array Oper} {lf : Oper → Bool} {Q : SS → Prop} {t : List (Nat × AV)} {h : List (Nat × Option LObj)} {rest : List Oper} {d : Nat} {op : Op} {ty : TypeId} {pos : String} {af : Array Edge} {gd : Option (Nat × Bool)} {r : AV}
theorem orU_val (B C : BitVec 32) : Op.intBits .or .u32 (B.toNat : Int) (C.toNat : Int) = pure (.int .u32 ((B ||| C).toNat : Int)) := by
  have e1 : BitVec.ofInt IntKind.u32.bits (B.toNat : Int) = B := ofInt_u32 B
  have e2 : BitVec.ofInt IntKind.u32.bits (C.toNat : Int) = C := ofInt_u32 C
  unfold Op.intBits
  simp only [e1, e2]
  exact congrArg (fun z => pure (Value.int .u32 z)) (wrap_u32 (B ||| C))
theorem andNotU_val (B C : BitVec 32) : Op.intBits .andNot .u32 (B.toNat : Int) (C.toNat : Int) = pure (.int .u32 ((B &&& ~~~C).toNat : Int)) := by
  have e1 : BitVec.ofInt IntKind.u32.bits (B.toNat : Int) = B := ofInt_u32 B
  have e2 : BitVec.ofInt IntKind.u32.bits (C.toNat : Int) = C := ofInt_u32 C
  unfold Op.intBits
  simp only [e1, e2]
  exact congrArg (fun z => pure (Value.int .u32 z)) (wrap_u32 (B &&& ~~~C))
theorem yield_orU {ρ : Operand → Option AV} {hp : Nat → Option LObj} {x y : Operand} {B C : BitVec 32} {tx ty' : TypeId} (hx : ρ x = some (u32A B)) (hy : ρ y = some (u32A C)) : Yield P hp ρ (.binOp .or tx x y ty') ty (u32A (B ||| C)) :=
  yield_plain (fun _ _ => by simp) (by simp [plainL, Op.operands, hx, hy, toV, u32A]) fun w => by
    have e := orU_val B C
    simp [execOp, envV_v hx, envV_v hy, eqGuard, binOp, e]
theorem yield_andNotU {ρ : Operand → Option AV} {hp : Nat → Option LObj} {x y : Operand} {B C : BitVec 32} {tx ty' : TypeId} (hx : ρ x = some (u32A B)) (hy : ρ y = some (u32A C)) : Yield P hp ρ (.binOp .andNot tx x y ty') ty (u32A (B &&& ~~~C)) :=
  yield_plain (fun _ _ => by simp) (by simp [plainL, Op.operands, hx, hy, toV, u32A]) fun w => by
    have e := andNotU_val B C
    simp [execOp, envV_v hx, envV_v hy, eqGuard, binOp, e]
theorem shl_val (n : Nat) : IntKind.u32.wrap (1 * 2 ^ (min n 32)) = ((1#32 <<< n).toNat : Int) := by
  rw [BitVec.toNat_shiftLeft]
  simp only [IntKind.wrap, IntKind.signed, IntKind.bits, Bool.false_and, if_false, Bool.false_eq_true, Int.one_mul, Nat.shiftLeft_eq, BitVec.toNat_ofNat]
  rw [show (1 % 2 ^ 32 : Nat) = 1 by decide, Nat.one_mul]
  rcases Nat.lt_or_ge n 32 with h | h
  · rw [Nat.min_eq_left (by omega)]
    norm_cast
  · rw [Nat.min_eq_right h]
    have e : (2 ^ n) % 2 ^ 32 = 0 := Nat.mod_eq_zero_of_dvd (Nat.pow_dvd_pow 2 h)
    rw [e]; decide
theorem yield_shlU {ρ : Operand → Option AV} {hp : Nat → Option LObj} {x y : Operand} {i : Int} {k' : IntKind} {tx ty' : TypeId} (hx : ρ x = some (.v (.int .u32 1))) (hy : ρ y = some (.v (.int k' i))) (hb : 0 ≤ i) : Yield P hp ρ (.binOp .shl tx x y ty') ty (u32A (1#32 <<< i.toNat)) := by
  have := yield_shl (P := P) (hp := hp) (ty := ty) (tx := tx) (ty' := ty') hx hy hb
  rwa [show IntKind.u32.bits = 32 from rfl, shl_val] at this
theorem L_orU {x y : Operand} {B C : BitVec 32} {tx ty' : TypeId} (hx : evF (look t) x = some (u32A B)) (hy : evF (look t) y = some (u32A C))
    (hw : wantedF ops (look t) ⟨some d, .binOp .or tx x y ty', ty, pos, af, gd⟩ = some true) (hd : Nat.blt d N = true) (k : Lex P N ops lf Q rest (S ((d, u32A (B ||| C)) :: t) h)) : Lex P N ops lf Q (⟨some d, .binOp .or tx x y ty', ty, pos, af, gd⟩ :: rest) (S t h) :=
  L_yield (yield_orU hx hy) hw hd k
theorem L_andNotU {x y : Operand} {B C : BitVec 32} {tx ty' : TypeId} (hx : evF (look t) x = some (u32A B)) (hy : evF (look t) y = some (u32A C))
    (hw : wantedF ops (look t) ⟨some d, .binOp .andNot tx x y ty', ty, pos, af, gd⟩ = some true) (hd : Nat.blt d N = true) (k : Lex P N ops lf Q rest (S ((d, u32A (B &&& ~~~C)) :: t) h)) : Lex P N ops lf Q (⟨some d, .binOp .andNot tx x y ty', ty, pos, af, gd⟩ :: rest) (S t h) :=
  L_yield (yield_andNotU hx hy) hw hd k
theorem L_shlU {x y : Operand} {i : Int} {k' : IntKind} {tx ty' : TypeId} (hx : evF (look t) x = some (.v (.int .u32 1))) (hy : evF (look t) y = some (.v (.int k' i))) (hb : 0 ≤ i)
    (hw : wantedF ops (look t) ⟨some d, .binOp .shl tx x y ty', ty, pos, af, gd⟩ = some true) (hd : Nat.blt d N = true) (k : Lex P N ops lf Q rest (S ((d, u32A (1#32 <<< i.toNat)) :: t) h)) : Lex P N ops lf Q (⟨some d, .binOp .shl tx x y ty', ty, pos, af, gd⟩ :: rest) (S t h) :=
  L_yield (yield_shlU hx hy hb) hw hd k
/-- A number that fits uint64. -/
theorem L_u64 (hT : TOK P T) {z : Int} (hr : stepC T t h op ty = some (.v (.int .u64 (IntKind.u64.wrap z)))) (h0 : 0 ≤ z ∧ z ≤ 18446744073709551615)
    (hw : wantedF ops (look t) ⟨some d, op, ty, pos, af, gd⟩ = some true) (hd : Nat.blt d N = true) (k : Lex P N ops lf Q rest (S ((d, .v (.int .u64 z)) :: t) h)) : Lex P N ops lf Q (⟨some d, op, ty, pos, af, gd⟩ :: rest) (S t h) := by
  have e : IntKind.u64.wrap z = z := by
    simp only [IntKind.wrap, IntKind.signed, IntKind.bits, Bool.false_and, if_false, Bool.false_eq_true]
    omega
  rw [e] at hr
  exact L_calm hT hr hw hd k
/-- A set, from what is asked of each number. -/
def setU (f : Nat → Bool) : Nat → BitVec 32
  | 0 => 0#32
  | n + 1 => if f n = true then setU f n ||| (1#32 <<< n) else setU f n
theorem setU_bit (f : Nat → Bool) : ∀ n i : Nat, i < 32 → (setU f n).getLsbD i = (decide (i < n) && f i)
  | 0, i, h => by simp [setU]
  | n + 1, i, h => by
    have ih := setU_bit f n i h
    unfold setU
    have hb : (1#32 <<< n).getLsbD i = decide (i = n) := by
      rw [BitVec.getLsbD_shiftLeft]
      by_cases e : i = n
      · subst e; simp [h]
      · simp [e, BitVec.getLsbD_one]; omega
    split
    · rename_i hf
      rw [BitVec.getLsbD_or, ih, hb]
      by_cases e : i = n
      · subst e; simp [hf]
      · have : (i < n + 1) ↔ i < n := by omega
        simp [e, this]
    · rename_i hf
      rw [ih]
      by_cases e : i = n
      · subst e; simp [hf]
      · have : (i < n + 1) ↔ i < n := by omega
        simp [this]
end Go.Proofs.YtenajilnjeafpaaGreat
set_option linter.unusedVariables false
set_option maxRecDepth 100000
set_option maxHeartbeats 8000000
namespace Go.Proofs.YtenajilnjeafpaaGreat
open Go.RowKit
theorem equal_con (a b : List Int) (ha : a.length ≤ 1000000) : Con Tryz.prog 60 [encInts a, encInts b] (boolA (a == b)) := by
  refine con_of Tryz.func60 rfl rfl Tryz.ntmps60 Tryz.results60 rfl rfl ?_
  (repeat (first | refine zI ?_ | refine zL ?_ | refine zC ?_ | refine L_nil ?_ | refine A_seq ?_ | refine zR ?_ | refine zD ?_ | refine zK ?_ | refine zB ?_ | refine zA ?_ | refine zS ?_ | refine zU ?_ | refine zV ?_ | refine zF ?_ | with_reducible refine inblk_n ?_ | with_reducible refine then_n ?_ | refine A_block ?_ | refine A_skip ?_ | refine A_exit ?_ | refine zT ?_ | refine zE ?_ | refine zX ?_))
  refine A_cond rfl (fun h => ?_) (fun h => ?_)
  · (repeat (first | refine zI ?_ | refine zL ?_ | refine zC ?_ | refine L_nil ?_ | refine A_seq ?_ | refine zR ?_ | refine zD ?_ | refine zK ?_ | refine zB ?_ | refine zA ?_ | refine zS ?_ | refine zU ?_ | refine zV ?_ | refine zF ?_ | with_reducible refine inblk_n ?_ | with_reducible refine then_n ?_ | refine A_block ?_ | refine A_skip ?_ | refine A_exit ?_ | refine zT ?_ | refine zE ?_ | refine zX ?_))
    refine A_ret ?_; refine ⟨_, rfl, ?_⟩
    have : a ≠ b := by rintro rfl; simp at h
    exact frz_bool (by simp [this])
  have hl : a.length = b.length := by simp at h; omega
  (repeat (first | refine zI ?_ | refine zL ?_ | refine zC ?_ | refine L_nil ?_ | refine A_seq ?_ | refine zR ?_ | refine zD ?_ | refine zK ?_ | refine zB ?_ | refine zA ?_ | refine zS ?_ | refine zU ?_ | refine zV ?_ | refine zF ?_ | with_reducible refine inblk_n ?_ | with_reducible refine then_n ?_ | refine A_block ?_ | refine A_skip ?_ | refine A_exit ?_ | refine zT ?_ | refine zE ?_ | refine zX ?_))
  refine A_inv (α := Nat) (fun k => [(13, i64 k), (12, i64 a.length), (0, encInts a), (1, encInts b)]) (fun _ => []) (fun k => a.length - k) (fun k => k ≤ a.length ∧ a.take k = b.take k) 0 ⟨by omega, rfl⟩ (by (repeat (first | exact subT_nil | refine subT_cons rfl ?_))) (by first | exact subH_nil | exact subH_cons rfl subH_nil | exact subH_cons rfl (subH_cons rfl subH_nil) | exact subH_cons rfl (subH_cons rfl (subH_cons rfl subH_nil)) | exact subH_cons rfl (subH_cons rfl (subH_cons rfl (subH_cons rfl subH_nil)))) ?_
  rintro k ⟨hk, hok⟩
  (repeat (first | refine zI ?_ | refine zL ?_ | refine zC ?_ | refine L_nil ?_ | refine A_seq ?_ | refine zR ?_ | refine zD ?_ | refine zK ?_ | refine zB ?_ | refine zA ?_ | refine zS ?_ | refine zU ?_ | refine zV ?_ | refine zF ?_ | with_reducible refine inblk_n ?_ | with_reducible refine then_n ?_ | refine A_block ?_ | refine A_skip ?_ | refine A_exit ?_ | refine zT ?_ | refine zE ?_ | refine zX ?_))
  refine A_cond rfl (fun h1 => ?_) (fun h1 => ?_)
  · simp at h1
    obtain ⟨x, hx⟩ := getN (show k < a.length by omega)
    obtain ⟨y, hy⟩ := getN (show k < b.length by omega)
    (repeat (first | refine zI ?_ | refine zL ?_ | refine zC ?_ | refine L_nil ?_ | refine A_seq ?_ | refine zR ?_ | refine zD ?_ | refine zK ?_ | refine zB ?_ | refine zA ?_ | refine zS ?_ | refine zU ?_ | refine zV ?_ | refine zF ?_ | with_reducible refine inblk_n ?_ | with_reducible refine then_n ?_ | refine A_block ?_ | refine A_skip ?_ | refine A_exit ?_ | refine zT ?_ | refine zE ?_ | refine zX ?_))
    refine A_cond rfl (fun h2 => ?_) (fun h2 => ?_)
    · (repeat (first | refine zI ?_ | refine zL ?_ | refine zC ?_ | refine L_nil ?_ | refine A_seq ?_ | refine zR ?_ | refine zD ?_ | refine zK ?_ | refine zB ?_ | refine zA ?_ | refine zS ?_ | refine zU ?_ | refine zV ?_ | refine zF ?_ | with_reducible refine inblk_n ?_ | with_reducible refine then_n ?_ | refine A_block ?_ | refine A_skip ?_ | refine A_exit ?_ | refine zT ?_ | refine zE ?_ | refine zX ?_))
      refine A_ret ?_; refine ⟨_, rfl, ?_⟩
      simp at h2
      exact frz_bool (by simp [list_ne_at hx hy h2])
    · (repeat (first | refine zI ?_ | refine zL ?_ | refine zC ?_ | refine L_nil ?_ | refine A_seq ?_ | refine zR ?_ | refine zD ?_ | refine zK ?_ | refine zB ?_ | refine zA ?_ | refine zS ?_ | refine zU ?_ | refine zV ?_ | refine zF ?_ | with_reducible refine inblk_n ?_ | with_reducible refine then_n ?_ | refine A_block ?_ | refine A_skip ?_ | refine A_exit ?_ | refine zT ?_ | refine zE ?_ | refine zX ?_))
      simp at h2
      exact rnd (k + 1) ⟨by omega, by rw [take_snocM hx, take_snocM hy, hok, h2]⟩ (by omega) (by (repeat (first | exact subT_nil | refine subT_cons rfl ?_))) (by first | exact subH_nil | exact subH_cons rfl subH_nil | exact subH_cons rfl (subH_cons rfl subH_nil) | exact subH_cons rfl (subH_cons rfl (subH_cons rfl subH_nil)) | exact subH_cons rfl (subH_cons rfl (subH_cons rfl (subH_cons rfl subH_nil))))
  · simp at h1
    (repeat (first | refine zI ?_ | refine zL ?_ | refine zC ?_ | refine L_nil ?_ | refine A_seq ?_ | refine zR ?_ | refine zD ?_ | refine zK ?_ | refine zB ?_ | refine zA ?_ | refine zS ?_ | refine zU ?_ | refine zV ?_ | refine zF ?_ | with_reducible refine inblk_n ?_ | with_reducible refine then_n ?_ | refine A_block ?_ | refine A_skip ?_ | refine A_exit ?_ | refine zT ?_ | refine zE ?_ | refine zX ?_))
    refine A_ret ?_; refine ⟨_, rfl, ?_⟩
    exact frz_bool (by simp [list_eq_take hl (show k = a.length by omega) hok])
/-- Whether two configurations differ at a node. -/
def diffAt (c d : List (List Int)) (v : Nat) : Bool := !(c[v]? == d[v]?)
def differF (c d : List (List Int)) : BitVec 32 := setU (diffAt c d) 24
theorem mdiffer_con (c d : List (List Int)) (hc : CfgIn c) (hd : CfgIn d) : Con Tryz.prog 31 [encC c, encC d] (u32A (differF c d)) := by
  have hcl := hc.1
  have hdl := hd.1
  refine con_of Tryz.func31 rfl rfl Tryz.ntmps31 Tryz.results31 rfl rfl ?_
  (repeat (first | refine zI ?_ | refine zL ?_ | refine zC ?_ | refine L_nil ?_ | refine A_seq ?_ | refine zR ?_ | refine zD ?_ | refine zK ?_ | refine zB ?_ | refine zA ?_ | refine zS ?_ | refine zU ?_ | refine zV ?_ | refine zF ?_ | with_reducible refine inblk_n ?_ | with_reducible refine then_n ?_ | refine A_block ?_ | refine A_skip ?_ | refine A_exit ?_ | refine zT ?_ | refine zE ?_ | refine zX ?_))
  refine A_inv (α := Nat) (fun k => [(9, i64 k), (5, u32A (setU (diffAt c d) k)), (0, encC c), (1, encC d)]) (fun _ => []) (fun k => 24 - k) (fun k => k ≤ 24) 0 (by omega) (by (repeat (first | exact subT_nil | refine subT_cons rfl ?_))) (by first | exact subH_nil | exact subH_cons rfl subH_nil | exact subH_cons rfl (subH_cons rfl subH_nil) | exact subH_cons rfl (subH_cons rfl (subH_cons rfl subH_nil)) | exact subH_cons rfl (subH_cons rfl (subH_cons rfl (subH_cons rfl subH_nil)))) ?_
  intro k hk
  (repeat (first | refine zI ?_ | refine zL ?_ | refine zC ?_ | refine L_nil ?_ | refine A_seq ?_ | refine zR ?_ | refine zD ?_ | refine zK ?_ | refine zB ?_ | refine zA ?_ | refine zS ?_ | refine zU ?_ | refine zV ?_ | refine zF ?_ | with_reducible refine inblk_n ?_ | with_reducible refine then_n ?_ | refine A_block ?_ | refine A_skip ?_ | refine A_exit ?_ | refine zT ?_ | refine zE ?_ | refine zX ?_))
  refine A_cond rfl (fun h1 => ?_) (fun h1 => ?_)
  · simp at h1
    (repeat (first | refine zI ?_ | refine zL ?_ | refine zC ?_ | refine L_nil ?_ | refine A_seq ?_ | refine zR ?_ | refine zD ?_ | refine zK ?_ | refine zB ?_ | refine zA ?_ | refine zS ?_ | refine zU ?_ | refine zV ?_ | refine zF ?_ | with_reducible refine inblk_n ?_ | with_reducible refine then_n ?_ | refine A_block ?_ | refine A_skip ?_ | refine A_exit ?_ | refine zT ?_ | refine zE ?_ | refine zX ?_))
    have hnext : ∀ b, diffAt c d k = b → setU (diffAt c d) (k + 1) = if b = true then setU (diffAt c d) k ||| (1#32 <<< k) else setU (diffAt c d) k := fun b hb => by rw [setU, hb]
    refine L_split 20 rfl (fun e1 => ?_) (fun e1 => ?_)
    · simp at e1
      obtain ⟨a, ha⟩ := getN e1
      refine L_split 21 rfl (fun e2 => ?_) (fun e2 => ?_)
      · simp at e2
        obtain ⟨b, hb⟩ := getN e2
        (repeat (first | refine L_u64 tok rfl (by constructor <;> omega) rfl rfl ?_ | refine L_shlU rfl rfl (by omega) rfl rfl ?_ | refine L_orU rfl rfl rfl rfl ?_ | refine L_andNotU rfl rfl rfl rfl ?_ | refine zI ?_ | refine zL ?_ | refine zC ?_ | refine L_nil ?_ | refine A_seq ?_ | refine zR ?_ | refine zD ?_ | refine zK ?_ | refine zB ?_ | refine zA ?_ | refine zS ?_ | refine zU ?_ | refine zV ?_ | refine zF ?_ | with_reducible refine inblk_n ?_ | with_reducible refine then_n ?_ | refine A_block ?_ | refine A_skip ?_ | refine A_exit ?_ | refine zT ?_ | refine zE ?_ | refine zX ?_ | refine L_neqB tok rfl rfl rfl rfl rfl ?_))
        refine L_split 25 rfl (fun e3 => ?_) (fun e3 => ?_)
        · (repeat (first | refine zI ?_ | refine zL ?_ | refine zC ?_ | refine L_nil ?_ | refine A_seq ?_ | refine zR ?_ | refine zD ?_ | refine zK ?_ | refine zB ?_ | refine zA ?_ | refine zS ?_ | refine zU ?_ | refine zV ?_ | refine zF ?_ | with_reducible refine inblk_n ?_ | with_reducible refine then_n ?_ | refine A_block ?_ | refine A_skip ?_ | refine A_exit ?_ | refine zT ?_ | refine zE ?_ | refine zX ?_ | refine L_call rfl rfl (equal_con a b (hc.2 a (List.mem_of_getElem? ha))) rfl rfl ?_))
          refine A_cond rfl (fun h2 => ?_) (fun h2 => ?_)
          · (repeat (first | refine L_u64 tok rfl (by constructor <;> omega) rfl rfl ?_ | refine L_shlU rfl rfl (by omega) rfl rfl ?_ | refine L_orU rfl rfl rfl rfl ?_ | refine L_andNotU rfl rfl rfl rfl ?_ | refine zI ?_ | refine zL ?_ | refine zC ?_ | refine L_nil ?_ | refine A_seq ?_ | refine zR ?_ | refine zD ?_ | refine zK ?_ | refine zB ?_ | refine zA ?_ | refine zS ?_ | refine zU ?_ | refine zV ?_ | refine zF ?_ | with_reducible refine inblk_n ?_ | with_reducible refine then_n ?_ | refine A_block ?_ | refine A_skip ?_ | refine A_exit ?_ | refine zT ?_ | refine zE ?_ | refine zX ?_ | refine L_neqB tok rfl rfl rfl rfl rfl ?_))
            have e := hnext true (by simp [diffAt, ha, hb]; simpa using h2)
            rw [if_pos rfl] at e
            refine rnd (k + 1) (by omega) (by omega) ?_ (by first | exact subH_nil | exact subH_cons rfl subH_nil | exact subH_cons rfl (subH_cons rfl subH_nil) | exact subH_cons rfl (subH_cons rfl (subH_cons rfl subH_nil)) | exact subH_cons rfl (subH_cons rfl (subH_cons rfl (subH_cons rfl subH_nil))))
            rw [e]
            exact (by (repeat (first | exact subT_nil | refine subT_cons rfl ?_)))
          · (repeat (first | refine zI ?_ | refine zL ?_ | refine zC ?_ | refine L_nil ?_ | refine A_seq ?_ | refine zR ?_ | refine zD ?_ | refine zK ?_ | refine zB ?_ | refine zA ?_ | refine zS ?_ | refine zU ?_ | refine zV ?_ | refine zF ?_ | with_reducible refine inblk_n ?_ | with_reducible refine then_n ?_ | refine A_block ?_ | refine A_skip ?_ | refine A_exit ?_ | refine zT ?_ | refine zE ?_ | refine zX ?_))
            have e := hnext false (by simp [diffAt, ha, hb]; simpa using h2)
            rw [if_neg (by simp)] at e
            refine rnd (k + 1) (by omega) (by omega) ?_ (by first | exact subH_nil | exact subH_cons rfl subH_nil | exact subH_cons rfl (subH_cons rfl subH_nil) | exact subH_cons rfl (subH_cons rfl (subH_cons rfl subH_nil)) | exact subH_cons rfl (subH_cons rfl (subH_cons rfl (subH_cons rfl subH_nil))))
            rw [e]
            exact (by (repeat (first | exact subT_nil | refine subT_cons rfl ?_)))
        · exfalso; simp at e3; omega
      · simp at e2
        (repeat (first | refine L_u64 tok rfl (by constructor <;> omega) rfl rfl ?_ | refine L_shlU rfl rfl (by omega) rfl rfl ?_ | refine L_orU rfl rfl rfl rfl ?_ | refine L_andNotU rfl rfl rfl rfl ?_ | refine zI ?_ | refine zL ?_ | refine zC ?_ | refine L_nil ?_ | refine A_seq ?_ | refine zR ?_ | refine zD ?_ | refine zK ?_ | refine zB ?_ | refine zA ?_ | refine zS ?_ | refine zU ?_ | refine zV ?_ | refine zF ?_ | with_reducible refine inblk_n ?_ | with_reducible refine then_n ?_ | refine A_block ?_ | refine A_skip ?_ | refine A_exit ?_ | refine zT ?_ | refine zE ?_ | refine zX ?_ | refine L_neqB tok rfl rfl rfl rfl rfl ?_))
        have e := hnext true (by simp [diffAt, ha, List.getElem?_eq_none e2])
        rw [if_pos rfl] at e
        refine rnd (k + 1) (by omega) (by omega) ?_ (by first | exact subH_nil | exact subH_cons rfl subH_nil | exact subH_cons rfl (subH_cons rfl subH_nil) | exact subH_cons rfl (subH_cons rfl (subH_cons rfl subH_nil)) | exact subH_cons rfl (subH_cons rfl (subH_cons rfl (subH_cons rfl subH_nil))))
        rw [e]
        exact (by (repeat (first | exact subT_nil | refine subT_cons rfl ?_)))
    · simp at e1
      refine L_split 21 rfl (fun e2 => ?_) (fun e2 => ?_)
      · simp at e2
        obtain ⟨b, hb⟩ := getN e2
        (repeat (first | refine L_u64 tok rfl (by constructor <;> omega) rfl rfl ?_ | refine L_shlU rfl rfl (by omega) rfl rfl ?_ | refine L_orU rfl rfl rfl rfl ?_ | refine L_andNotU rfl rfl rfl rfl ?_ | refine zI ?_ | refine zL ?_ | refine zC ?_ | refine L_nil ?_ | refine A_seq ?_ | refine zR ?_ | refine zD ?_ | refine zK ?_ | refine zB ?_ | refine zA ?_ | refine zS ?_ | refine zU ?_ | refine zV ?_ | refine zF ?_ | with_reducible refine inblk_n ?_ | with_reducible refine then_n ?_ | refine A_block ?_ | refine A_skip ?_ | refine A_exit ?_ | refine zT ?_ | refine zE ?_ | refine zX ?_ | refine L_neqB tok rfl rfl rfl rfl rfl ?_))
        have e := hnext true (by simp [diffAt, hb, List.getElem?_eq_none e1])
        rw [if_pos rfl] at e
        refine rnd (k + 1) (by omega) (by omega) ?_ (by first | exact subH_nil | exact subH_cons rfl subH_nil | exact subH_cons rfl (subH_cons rfl subH_nil) | exact subH_cons rfl (subH_cons rfl (subH_cons rfl subH_nil)) | exact subH_cons rfl (subH_cons rfl (subH_cons rfl (subH_cons rfl subH_nil))))
        rw [e]
        exact (by (repeat (first | exact subT_nil | refine subT_cons rfl ?_)))
      · simp at e2
        (repeat (first | refine L_u64 tok rfl (by constructor <;> omega) rfl rfl ?_ | refine L_shlU rfl rfl (by omega) rfl rfl ?_ | refine L_orU rfl rfl rfl rfl ?_ | refine L_andNotU rfl rfl rfl rfl ?_ | refine zI ?_ | refine zL ?_ | refine zC ?_ | refine L_nil ?_ | refine A_seq ?_ | refine zR ?_ | refine zD ?_ | refine zK ?_ | refine zB ?_ | refine zA ?_ | refine zS ?_ | refine zU ?_ | refine zV ?_ | refine zF ?_ | with_reducible refine inblk_n ?_ | with_reducible refine then_n ?_ | refine A_block ?_ | refine A_skip ?_ | refine A_exit ?_ | refine zT ?_ | refine zE ?_ | refine zX ?_ | refine L_neqB tok rfl rfl rfl rfl rfl ?_))
        refine L_split 25 rfl (fun e3 => ?_) (fun e3 => ?_)
        · exfalso; simp at e3; omega
        · (repeat (first | refine zI ?_ | refine zL ?_ | refine zC ?_ | refine L_nil ?_ | refine A_seq ?_ | refine zR ?_ | refine zD ?_ | refine zK ?_ | refine zB ?_ | refine zA ?_ | refine zS ?_ | refine zU ?_ | refine zV ?_ | refine zF ?_ | with_reducible refine inblk_n ?_ | with_reducible refine then_n ?_ | refine A_block ?_ | refine A_skip ?_ | refine A_exit ?_ | refine zT ?_ | refine zE ?_ | refine zX ?_))
          have e := hnext false (by simp [diffAt, List.getElem?_eq_none e1, List.getElem?_eq_none e2])
          rw [if_neg (by simp)] at e
          refine rnd (k + 1) (by omega) (by omega) ?_ (by first | exact subH_nil | exact subH_cons rfl subH_nil | exact subH_cons rfl (subH_cons rfl subH_nil) | exact subH_cons rfl (subH_cons rfl (subH_cons rfl subH_nil)) | exact subH_cons rfl (subH_cons rfl (subH_cons rfl (subH_cons rfl subH_nil))))
          rw [e]
          exact (by (repeat (first | exact subT_nil | refine subT_cons rfl ?_)))
  · simp at h1
    obtain rfl : k = 24 := by omega
    (repeat (first | refine zI ?_ | refine zL ?_ | refine zC ?_ | refine L_nil ?_ | refine A_seq ?_ | refine zR ?_ | refine zD ?_ | refine zK ?_ | refine zB ?_ | refine zA ?_ | refine zS ?_ | refine zU ?_ | refine zV ?_ | refine zF ?_ | with_reducible refine inblk_n ?_ | with_reducible refine then_n ?_ | refine A_block ?_ | refine A_skip ?_ | refine A_exit ?_ | refine zT ?_ | refine zE ?_ | refine zX ?_))
    refine A_ret ?_; refine ⟨_, rfl, ?_⟩
    exact Frz.pure
end Go.Proofs.YtenajilnjeafpaaGreat
