/- Part 23 of the texts under ExprParses,ExprIsStable,ExprReadsBack,ExprIgnoresBrackets,ExprFormats,ExprBracketsEverything: joined, with what it needs alone. -/
import Derived.Laws.StructEq
import Derived.Test.YtcpgpiabeimefaaGreatDoorP12
import Derived.Test.YtcpgpiabeimefaaGreatDoorP20
import Derived.Test.YtcpgpiabeimefaaGreatDoorP22
set_option linter.unusedVariables false
set_option maxRecDepth 100000
set_option maxHeartbeats 4000000
namespace Go.Proofs.YtcpgpiabeimefaaGreatDoor
open Go.RowKit
theorem eqTm (a b c d : Int) (w : World) : (Op.equalIn 10000 38 (.agg #[.int .i64 a, .int .i64 b]) (.agg #[.int .i64 c, .int .i64 d])).run Tryz.prog w = .ok (a == c && b == d) w := by
  have u3 := Tryz.underlying3
  have a3 := Tryz.isAgg3
  have z3 := Tryz.sizeOf3
  rw [show (10000 : Nat) = 9999 + 1 from rfl, run_equalIn_agg w 9999 38 _ _ (by kernel_rfl) (by kernel_rfl)]
  simp only [Program.fieldsOf, Tryz.underlying38]
  go_simp
  by_cases h1 : a = c <;> by_cases h2 : b = d <;> simp [h1, h2]
def tmA (t : Tm) : AV := .agg [i64 t.1, i64 t.2]
theorem yield_neqT {ρ : Operand → Option AV} {hp : Nat → Option LObj} {x y : Operand} {a b : Tm} {ty' ty : TypeId} (hx : ρ x = some (tmA a)) (hy : ρ y = some (tmA b)) : ydj Tryz.prog hp ρ (.binOp .neq 38 x y ty') ty (boolA (!(a.1 == b.1 && a.2 == b.2))) := by
  have ex : envV ρ x = .agg #[.int .i64 a.1, .int .i64 a.2] := by simp only [envV, hx]; rfl
  have ey : envV ρ y = .agg #[.int .i64 b.1, .int .i64 b.2] := by simp only [envV, hy]; rfl
  refine yeg (fun _ _ => by simp) (by simp only [plainL, Op.operands, hx, hy]; rfl) fun w => ?_
  have hg := run_eqGuard_agg (P := Tryz.prog) w .neq 38 x y #[.int .i64 a.1, .int .i64 a.2] #[.int .i64 b.1, .int .i64 b.2] (by kernel_rfl)
  simp [execOp, ex, ey, hg, run_neq_struct, eqTm]
section
variable {N : Nat} {ops : Array Oper} {lf : Oper → Bool} {Q : SS → Prop} {t : List (Nat × AV)} {h : List (Nat × Option LObj)} {rest : List Oper} {d : Nat} {ty : TypeId} {pos : String} {af : Array Edge} {gd : Option (Nat × Bool)}
theorem L_neqT {x y : Operand} {a b : Tm} {ty' : TypeId} (hx : evF (ybk t) x = some (tmA a)) (hy : evF (ybk t) y = some (tmA b))
    (hw : ybh ops (ybk t) ⟨some d, .binOp .neq 38 x y ty', ty, pos, af, gd⟩ = some true) (hd : Nat.blt d N = true) (k : Lex Tryz.prog N ops lf Q rest (S ((d, boolA (!(a.1 == b.1 && a.2 == b.2))) :: t) h)) : Lex Tryz.prog N ops lf Q (⟨some d, .binOp .neq 38 x y ty', ty, pos, af, gd⟩ :: rest) (S t h) :=
  yaw (yield_neqT hx hy) hw hd k
theorem L_true {P : Program} {l : List Oper} (d : Nat) {b : Bool} (hb : ybk t d = some (.v (.bool b))) (he : b = true) (k : Lex P N ops lf Q l (S ((d, .v (.bool true)) :: t) h)) : Lex P N ops lf Q l (S t h) :=
  ych d hb (fun _ => k) (fun e => by rw [he] at e; cases e)
end
theorem same_con (a b : List Tm) (ha : a.length ≤ 1000000) : Con Tryz.prog 13 [yay a, yay b] (boolA (decide (a = b))) := by
  refine ybw Tryz.func13 rfl rfl Tryz.ntmps13 Tryz.results13 rfl rfl ?_
  (repeat (first | refine zI ?_ | refine zL ?_ | refine zC ?_ | refine yag ?_ | refine yaf ?_ | refine zR ?_ | refine zD ?_ | refine zK ?_ | refine zB ?_ | refine zA ?_ | refine zS ?_ | refine zU ?_ | refine zV ?_ | refine zF ?_ | with_reducible refine yab ?_ | with_reducible refine yad ?_ | refine yaa ?_ | refine yac ?_ | refine yae ?_ | refine zT ?_ | refine zE ?_ | refine zX ?_))
  refine yam rfl (fun h1 => ?_) (fun h1 => ?_)
  · have h1 : a.length ≠ b.length := by simp at h1; omega
    (repeat (first | refine zI ?_ | refine zL ?_ | refine zC ?_ | refine yag ?_ | refine yaf ?_ | refine zR ?_ | refine zD ?_ | refine zK ?_ | refine zB ?_ | refine zA ?_ | refine zS ?_ | refine zU ?_ | refine zV ?_ | refine zF ?_ | with_reducible refine yab ?_ | with_reducible refine yad ?_ | refine yaa ?_ | refine yac ?_ | refine yae ?_ | refine zT ?_ | refine zE ?_ | refine zX ?_))
    refine yar ?_; refine ⟨_, rfl, ?_⟩
    exact ybr (by rw [decide_eq_false]; intro e; rw [e] at h1; exact h1 rfl)
  have h1 : a.length = b.length := by simp at h1; omega
  (repeat (first | refine zI ?_ | refine zL ?_ | refine zC ?_ | refine yag ?_ | refine yaf ?_ | refine zR ?_ | refine zD ?_ | refine zK ?_ | refine zB ?_ | refine zA ?_ | refine zS ?_ | refine zU ?_ | refine zV ?_ | refine zF ?_ | with_reducible refine yab ?_ | with_reducible refine yad ?_ | refine yaa ?_ | refine yac ?_ | refine yae ?_ | refine zT ?_ | refine zE ?_ | refine zX ?_))
  refine A_inv (α := Nat) (fun k => [(5, i64 k), (1, yay b), (0, yay a)]) (fun k => []) (fun k => a.length - k) (fun k => k ≤ a.length ∧ a.take k = b.take k) 0 ⟨by omega, by simp⟩ (by (repeat (first | exact ycd | refine ybn rfl ?_))) yan ?_
  rintro k ⟨hk, he⟩
  (repeat (first | refine zI ?_ | refine zL ?_ | refine zC ?_ | refine yag ?_ | refine yaf ?_ | refine zR ?_ | refine zD ?_ | refine zK ?_ | refine zB ?_ | refine zA ?_ | refine zS ?_ | refine zU ?_ | refine zV ?_ | refine zF ?_ | with_reducible refine yab ?_ | with_reducible refine yad ?_ | refine yaa ?_ | refine yac ?_ | refine yae ?_ | refine zT ?_ | refine zE ?_ | refine zX ?_))
  refine yam rfl (fun h2 => ?_) (fun h2 => ?_)
  · have h2 : k < a.length := by simpa using h2
    obtain ⟨x, hx⟩ := getN h2
    obtain ⟨y, hy⟩ := getN (show k < b.length by omega)
    (repeat (first | refine zI ?_ | refine zL ?_ | refine zC ?_ | refine yag ?_ | refine yaf ?_ | refine zR ?_ | refine zD ?_ | refine zK ?_ | refine zB ?_ | refine zA ?_ | refine zS ?_ | refine zU ?_ | refine zV ?_ | refine zF ?_ | with_reducible refine yab ?_ | with_reducible refine yad ?_ | refine yaa ?_ | refine yac ?_ | refine yae ?_ | refine zT ?_ | refine zE ?_ | refine zX ?_ | refine ybm tok rfl rfl rfl (by omega) (ycn hx) rfl rfl ?_ | refine ybm tok rfl rfl rfl (by omega) (ycn hy) rfl rfl ?_ | refine L_neqT (a := x) (b := y) rfl rfl rfl rfl ?_))
    refine yam rfl (fun h3 => ?_) (fun h3 => ?_)
    · have h3 : ¬ x = y := by intro e; subst e; simp at h3
      (repeat (first | refine zI ?_ | refine zL ?_ | refine zC ?_ | refine yag ?_ | refine yaf ?_ | refine zR ?_ | refine zD ?_ | refine zK ?_ | refine zB ?_ | refine zA ?_ | refine zS ?_ | refine zU ?_ | refine zV ?_ | refine zF ?_ | with_reducible refine yab ?_ | with_reducible refine yad ?_ | refine yaa ?_ | refine yac ?_ | refine yae ?_ | refine zT ?_ | refine zE ?_ | refine zX ?_))
      refine yar ?_; refine ⟨_, rfl, ?_⟩
      exact ybr (by rw [decide_eq_false]; intro e; subst e; rw [hx] at hy; exact h3 (Option.some.inj hy))
    · have h3 : x = y := by have h3 := h3; simp at h3; exact Prod.ext h3.1 h3.2
      (repeat (first | refine zI ?_ | refine zL ?_ | refine zC ?_ | refine yag ?_ | refine yaf ?_ | refine zR ?_ | refine zD ?_ | refine zK ?_ | refine zB ?_ | refine zA ?_ | refine zS ?_ | refine zU ?_ | refine zV ?_ | refine zF ?_ | with_reducible refine yab ?_ | with_reducible refine yad ?_ | refine yaa ?_ | refine yac ?_ | refine yae ?_ | refine zT ?_ | refine zE ?_ | refine zX ?_))
      refine rnd (k + 1) ⟨by omega, ?_⟩ (by omega) (by (repeat (first | exact ycd | refine ybn rfl ?_))) yan
      subst h3
      rw [take_next hx, take_next hy, he]
  · have h2 : a.length ≤ k := by simpa using h2
    (repeat (first | refine zI ?_ | refine zL ?_ | refine zC ?_ | refine yag ?_ | refine yaf ?_ | refine zR ?_ | refine zD ?_ | refine zK ?_ | refine zB ?_ | refine zA ?_ | refine zS ?_ | refine zU ?_ | refine zV ?_ | refine zF ?_ | with_reducible refine yab ?_ | with_reducible refine yad ?_ | refine yaa ?_ | refine yac ?_ | refine yae ?_ | refine zT ?_ | refine zE ?_ | refine zX ?_))
    refine yar ?_; refine ⟨_, rfl, ?_⟩
    exact ybr (by rw [List.take_of_length_le h2, List.take_of_length_le (by omega)] at he; exact (decide_eq_true he).symm)
theorem lightE_con (e : List Tm) : Con Tryz.prog 14 [yay e] (boolA (decide (e.length ≤ 250))) := by
  refine ybw Tryz.func14 rfl rfl Tryz.ntmps14 Tryz.results14 rfl rfl ?_
  (repeat (first | refine zI ?_ | refine zL ?_ | refine zC ?_ | refine yag ?_ | refine yaf ?_ | refine zR ?_ | refine zD ?_ | refine zK ?_ | refine zB ?_ | refine zA ?_ | refine zS ?_ | refine zU ?_ | refine zV ?_ | refine zF ?_ | with_reducible refine yab ?_ | with_reducible refine yad ?_ | refine yaa ?_ | refine yac ?_ | refine yae ?_ | refine zT ?_ | refine zE ?_ | refine zX ?_))
  refine yar ?_; refine ⟨_, rfl, ?_⟩
  exact ybr (by simp; omega)
def lightN (names : List Bs) : Bool := decide (names.length ≤ 10) && names.all fun w => decide (w.length ≤ 40)
theorem lightN_spec {names : List Bs} (h : lightN names = true) : names.length ≤ 10 ∧ ∀ w ∈ names, w.length ≤ 40 := by
  simp only [lightN, Bool.and_eq_true, decide_eq_true_eq, List.all_eq_true] at h
  exact h
theorem light06_con (names : List Bs) : Con Tryz.prog 9 [ybj names] (boolA (lightN names)) := by
  refine ybw Tryz.func9 rfl rfl Tryz.ntmps9 Tryz.results9 rfl rfl ?_
  (repeat (first | refine zI ?_ | refine zL ?_ | refine zC ?_ | refine yag ?_ | refine yaf ?_ | refine zR ?_ | refine zD ?_ | refine zK ?_ | refine zB ?_ | refine zA ?_ | refine zS ?_ | refine zU ?_ | refine zV ?_ | refine zF ?_ | with_reducible refine yab ?_ | with_reducible refine yad ?_ | refine yaa ?_ | refine yac ?_ | refine yae ?_ | refine zT ?_ | refine zE ?_ | refine zX ?_))
  refine yam rfl (fun h1 => ?_) (fun h1 => ?_)
  · have h1 : ¬ names.length ≤ 10 := by simp at h1; omega
    (repeat (first | refine zI ?_ | refine zL ?_ | refine zC ?_ | refine yag ?_ | refine yaf ?_ | refine zR ?_ | refine zD ?_ | refine zK ?_ | refine zB ?_ | refine zA ?_ | refine zS ?_ | refine zU ?_ | refine zV ?_ | refine zF ?_ | with_reducible refine yab ?_ | with_reducible refine yad ?_ | refine yaa ?_ | refine yac ?_ | refine yae ?_ | refine zT ?_ | refine zE ?_ | refine zX ?_))
    refine yar ?_; refine ⟨_, rfl, ?_⟩
    exact ybr (by simp [lightN, h1])
  have h1 : names.length ≤ 10 := by simp at h1; omega
  (repeat (first | refine zI ?_ | refine zL ?_ | refine zC ?_ | refine yag ?_ | refine yaf ?_ | refine zR ?_ | refine zD ?_ | refine zK ?_ | refine zB ?_ | refine zA ?_ | refine zS ?_ | refine zU ?_ | refine zV ?_ | refine zF ?_ | with_reducible refine yab ?_ | with_reducible refine yad ?_ | refine yaa ?_ | refine yac ?_ | refine yae ?_ | refine zT ?_ | refine zE ?_ | refine zX ?_))
  refine A_inv (α := Nat) (fun k => [(3, i64 k), (0, ybj names)]) (fun k => []) (fun k => names.length - k) (fun k => k ≤ names.length ∧ (names.take k).all (fun w => decide (w.length ≤ 40)) = true) 0 ⟨by omega, by simp⟩ (by (repeat (first | exact ycd | refine ybn rfl ?_))) yan ?_
  rintro k ⟨hk, ha⟩
  (repeat (first | refine zI ?_ | refine zL ?_ | refine zC ?_ | refine yag ?_ | refine yaf ?_ | refine zR ?_ | refine zD ?_ | refine zK ?_ | refine zB ?_ | refine zA ?_ | refine zS ?_ | refine zU ?_ | refine zV ?_ | refine zF ?_ | with_reducible refine yab ?_ | with_reducible refine yad ?_ | refine yaa ?_ | refine yac ?_ | refine yae ?_ | refine zT ?_ | refine zE ?_ | refine zX ?_))
  refine yam rfl (fun h2 => ?_) (fun h2 => ?_)
  · have h2 : k < names.length := by simpa using h2
    obtain ⟨x, hx⟩ := getN h2
    (repeat (first | refine zI ?_ | refine zL ?_ | refine zC ?_ | refine yag ?_ | refine yaf ?_ | refine zR ?_ | refine zD ?_ | refine zK ?_ | refine zB ?_ | refine zA ?_ | refine zS ?_ | refine zU ?_ | refine zV ?_ | refine zF ?_ | with_reducible refine yab ?_ | with_reducible refine yad ?_ | refine yaa ?_ | refine yac ?_ | refine yae ?_ | refine zT ?_ | refine zE ?_ | refine zX ?_ | refine ybm tok rfl rfl rfl (by omega) (ycn hx) rfl rfl ?_))
    refine yam rfl (fun h3 => ?_) (fun h3 => ?_)
    · have h3 : 40 < x.length := by have h4 := h3; simp [ybb] at h4; omega
      (repeat (first | refine zI ?_ | refine zL ?_ | refine zC ?_ | refine yag ?_ | refine yaf ?_ | refine zR ?_ | refine zD ?_ | refine zK ?_ | refine zB ?_ | refine zA ?_ | refine zS ?_ | refine zU ?_ | refine zV ?_ | refine zF ?_ | with_reducible refine yab ?_ | with_reducible refine yad ?_ | refine yaa ?_ | refine yac ?_ | refine yae ?_ | refine zT ?_ | refine zE ?_ | refine zX ?_))
      refine yar ?_; refine ⟨_, rfl, ?_⟩
      refine ybr ?_
      have : names.all (fun w => decide (w.length ≤ 40)) = false := by
        rw [List.all_eq_false]
        exact ⟨x, List.mem_of_getElem? hx, by simp; omega⟩
      simp [lightN, this]
    · have h3 : x.length ≤ 40 := by have h4 := h3; simp [ybb] at h4; omega
      (repeat (first | refine zI ?_ | refine zL ?_ | refine zC ?_ | refine yag ?_ | refine yaf ?_ | refine zR ?_ | refine zD ?_ | refine zK ?_ | refine zB ?_ | refine zA ?_ | refine zS ?_ | refine zU ?_ | refine zV ?_ | refine zF ?_ | with_reducible refine yab ?_ | with_reducible refine yad ?_ | refine yaa ?_ | refine yac ?_ | refine yae ?_ | refine zT ?_ | refine zE ?_ | refine zX ?_))
      refine rnd (k + 1) ⟨by omega, ?_⟩ (by omega) (by (repeat (first | exact ycd | refine ybn rfl ?_))) yan
      rw [take_next hx, List.all_append, ha]
      simp [h3]
  · have h2 : names.length ≤ k := by simpa using h2
    (repeat (first | refine zI ?_ | refine zL ?_ | refine zC ?_ | refine yag ?_ | refine yaf ?_ | refine zR ?_ | refine zD ?_ | refine zK ?_ | refine zB ?_ | refine zA ?_ | refine zS ?_ | refine zU ?_ | refine zV ?_ | refine zF ?_ | with_reducible refine yab ?_ | with_reducible refine yad ?_ | refine yaa ?_ | refine yac ?_ | refine yae ?_ | refine zT ?_ | refine zE ?_ | refine zX ?_))
    refine yar ?_; refine ⟨_, rfl, ?_⟩
    exact ybr (by rw [List.take_of_length_le h2] at ha; simp [lightN, ha, h1])
def fairE (e : List Tm) (names : List Bs) : Bool := (decide (e.length ≤ 250) && lightN names) && yeo nmW names && yda e names.length
theorem fair06_con (e : List Tm) (names : List Bs) : Con Tryz.prog 17 [yay e, ybj names] (boolA (fairE e names)) := by
  refine ybw Tryz.func17 rfl rfl Tryz.ntmps17 Tryz.results17 rfl rfl ?_
  (repeat (first | refine zI ?_ | refine zL ?_ | refine zC ?_ | refine yag ?_ | refine yaf ?_ | refine zR ?_ | refine zD ?_ | refine zK ?_ | refine zB ?_ | refine zA ?_ | refine zS ?_ | refine zU ?_ | refine zV ?_ | refine zF ?_ | with_reducible refine yab ?_ | with_reducible refine yad ?_ | refine yaa ?_ | refine yac ?_ | refine yae ?_ | refine zT ?_ | refine zE ?_ | refine zX ?_ | refine yak rfl rfl (lightE_con e) rfl rfl ?_))
  refine ych 7 rfl (fun h1 => ?_) (fun h1 => ?_)
  · (repeat (first | refine zI ?_ | refine zL ?_ | refine zC ?_ | refine yag ?_ | refine yaf ?_ | refine zR ?_ | refine zD ?_ | refine zK ?_ | refine zB ?_ | refine zA ?_ | refine zS ?_ | refine zU ?_ | refine zV ?_ | refine zF ?_ | with_reducible refine yab ?_ | with_reducible refine yad ?_ | refine yaa ?_ | refine yac ?_ | refine yae ?_ | refine zT ?_ | refine zE ?_ | refine zX ?_ | refine yak rfl rfl (light06_con names) rfl rfl ?_))
    have h1' : e.length ≤ 250 := by simpa using h1
    refine ych 11 rfl (fun h2 => ?_) (fun h2 => ?_)
    · obtain ⟨l1, l2⟩ := lightN_spec h2
      (repeat (first | refine zI ?_ | refine zL ?_ | refine zC ?_ | refine yag ?_ | refine yaf ?_ | refine zR ?_ | refine zD ?_ | refine zK ?_ | refine zB ?_ | refine zA ?_ | refine zS ?_ | refine zU ?_ | refine zV ?_ | refine zF ?_ | with_reducible refine yab ?_ | with_reducible refine yad ?_ | refine yaa ?_ | refine yac ?_ | refine yae ?_ | refine zT ?_ | refine zE ?_ | refine zX ?_ | refine yak rfl rfl (rgood_con names (by omega) (fun w hw => by have := l2 w hw; omega)) rfl rfl ?_))
      refine ych 15 rfl (fun h3 => ?_) (fun h3 => ?_)
      · (repeat (first | refine zI ?_ | refine zL ?_ | refine zC ?_ | refine yag ?_ | refine yaf ?_ | refine zR ?_ | refine zD ?_ | refine zK ?_ | refine zB ?_ | refine zA ?_ | refine zS ?_ | refine zU ?_ | refine zV ?_ | refine zF ?_ | with_reducible refine yab ?_ | with_reducible refine yad ?_ | refine yaa ?_ | refine yac ?_ | refine yae ?_ | refine zT ?_ | refine zE ?_ | refine zX ?_ | refine yak rfl rfl (xrvalid_con e names.length (by omega)) rfl rfl ?_))
        refine yar ?_; refine ⟨_, rfl, ?_⟩
        exact ybr (by simp [fairE, h1', h2, h3])
      · (repeat (first | refine zI ?_ | refine zL ?_ | refine zC ?_ | refine yag ?_ | refine yaf ?_ | refine zR ?_ | refine zD ?_ | refine zK ?_ | refine zB ?_ | refine zA ?_ | refine zS ?_ | refine zU ?_ | refine zV ?_ | refine zF ?_ | with_reducible refine yab ?_ | with_reducible refine yad ?_ | refine yaa ?_ | refine yac ?_ | refine yae ?_ | refine zT ?_ | refine zE ?_ | refine zX ?_))
        refine yar ?_; refine ⟨_, rfl, ?_⟩
        exact ybr (by simp [fairE, h3])
    · (repeat (first | refine zI ?_ | refine zL ?_ | refine zC ?_ | refine yag ?_ | refine yaf ?_ | refine zR ?_ | refine zD ?_ | refine zK ?_ | refine zB ?_ | refine zA ?_ | refine zS ?_ | refine zU ?_ | refine zV ?_ | refine zF ?_ | with_reducible refine yab ?_ | with_reducible refine yad ?_ | refine yaa ?_ | refine yac ?_ | refine yae ?_ | refine zT ?_ | refine zE ?_ | refine zX ?_))
      refine yar ?_; refine ⟨_, rfl, ?_⟩
      exact ybr (by simp [fairE, h2])
  · (repeat (first | refine zI ?_ | refine zL ?_ | refine zC ?_ | refine yag ?_ | refine yaf ?_ | refine zR ?_ | refine zD ?_ | refine zK ?_ | refine zB ?_ | refine zA ?_ | refine zS ?_ | refine zU ?_ | refine zV ?_ | refine zF ?_ | with_reducible refine yab ?_ | with_reducible refine yad ?_ | refine yaa ?_ | refine yac ?_ | refine yae ?_ | refine zT ?_ | refine zE ?_ | refine zX ?_))
    refine yar ?_; refine ⟨_, rfl, ?_⟩
    exact ybr (by simp [fairE, h1])
def awT : Bs := [109, 105, 110, 40, 113, 46, 100, 41, 43, 49]
def awE : List Tm := [(33, 0), (24, 0), (12, 0), (1, 1)]
def awF : Bs := [109, 105, 110, 40, 113, 46, 100, 41, 32, 43, 32, 49]
theorem aw_f : formatX nmW [[100], [112]] awE = (awF, 0) := by kernel_rfl
theorem aw_p : parseX nmW [[100], [112]] (ba awT) = (awE, 0, 0) := by kernel_rfl
theorem aw_pcon : Con Tryz.prog 11 [yey (ba awT), ybj [[100], [112]]] (parseA (awE, 0, 0)) := by
  rw [← aw_p]
  exact parse_con _ _ (by decide) (by decide) (by decide)
theorem aw_fcon : Con Tryz.prog 15 [yay awE, ybj [[100], [112]]] (formatA (awF, 0)) := by
  rw [← aw_f]
  exact format_con _ _ (by decide) (by decide) (by decide)
theorem ycj : Con Tryz.prog 10 [] (boolA true) := by
  refine ybw Tryz.func10 rfl rfl Tryz.ntmps10 Tryz.results10 rfl rfl ?_
  (repeat (first | refine zI ?_ | refine zL ?_ | refine zC ?_ | refine yag ?_ | refine yaf ?_ | refine zR ?_ | refine zD ?_ | refine zK ?_ | refine zB ?_ | refine zA ?_ | refine zS ?_ | refine zU ?_ | refine zV ?_ | refine zF ?_ | with_reducible refine yab ?_ | with_reducible refine yad ?_ | refine yaa ?_ | refine yac ?_ | refine yae ?_ | refine zT ?_ | refine zE ?_ | refine zX ?_ | refine yak rfl rfl aw_pcon rfl rfl ?_ | refine yak rfl rfl aw_fcon rfl rfl ?_))
  refine L_true 20 rfl (by simp) ?_
  (repeat (first | refine zI ?_ | refine zL ?_ | refine zC ?_ | refine yag ?_ | refine yaf ?_ | refine zR ?_ | refine zD ?_ | refine zK ?_ | refine zB ?_ | refine zA ?_ | refine zS ?_ | refine zU ?_ | refine zV ?_ | refine zF ?_ | with_reducible refine yab ?_ | with_reducible refine yad ?_ | refine yaa ?_ | refine yac ?_ | refine yae ?_ | refine zT ?_ | refine zE ?_ | refine zX ?_))
  refine L_true 24 rfl (by simp) ?_
  (repeat (first | refine zI ?_ | refine zL ?_ | refine zC ?_ | refine yag ?_ | refine yaf ?_ | refine zR ?_ | refine zD ?_ | refine zK ?_ | refine zB ?_ | refine zA ?_ | refine zS ?_ | refine zU ?_ | refine zV ?_ | refine zF ?_ | with_reducible refine yab ?_ | with_reducible refine yad ?_ | refine yaa ?_ | refine yac ?_ | refine yae ?_ | refine zT ?_ | refine zE ?_ | refine zX ?_))
  refine L_true 29 rfl (by simp [awE]) ?_
  (repeat (first | refine zI ?_ | refine zL ?_ | refine zC ?_ | refine yag ?_ | refine yaf ?_ | refine zR ?_ | refine zD ?_ | refine zK ?_ | refine zB ?_ | refine zA ?_ | refine zS ?_ | refine zU ?_ | refine zV ?_ | refine zF ?_ | with_reducible refine yab ?_ | with_reducible refine yad ?_ | refine yaa ?_ | refine yac ?_ | refine yae ?_ | refine zT ?_ | refine zE ?_ | refine zX ?_))
  refine ybm tok rfl rfl rfl (by decide) (row := [i64 33, i64 0]) rfl rfl rfl ?_
  (repeat (first | refine zI ?_ | refine zL ?_ | refine zC ?_ | refine yag ?_ | refine yaf ?_ | refine zR ?_ | refine zD ?_ | refine zK ?_ | refine zB ?_ | refine zA ?_ | refine zS ?_ | refine zU ?_ | refine zV ?_ | refine zF ?_ | with_reducible refine yab ?_ | with_reducible refine yad ?_ | refine yaa ?_ | refine yac ?_ | refine yae ?_ | refine zT ?_ | refine zE ?_ | refine zX ?_))
  refine yar ?_; refine ⟨_, rfl, ?_⟩
  exact ybr (beq_self_eq_true (ba awF).toList)
end Go.Proofs.YtcpgpiabeimefaaGreatDoor
set_option linter.unusedVariables false
set_option maxRecDepth 100000
set_option maxHeartbeats 4000000
namespace Go.Proofs.YtcpgpiabeimefaaGreatDoor
open Go.ChangeShapes Go.WideShapes Go.RowKit
theorem parseX_nil {nm : Bs → Bool} {names : List Bs} {s : ByteArray} (h : (parseX nm names s).2.2 ≠ 0) : (parseX nm names s).1 = [] := by
  unfold parseX at h ⊢
  split
  · rfl
  · rename_i hg
    rw [if_neg hg] at h
    split
    · rfl
    · rename_i ts hts
      rw [hts] at h
      split
      · rename_i res hres
        simp only [hres] at h
        cases res with
        | bad c r => rfl
        | ok e r => cases r with
          | nil =>
            simp only [ansX] at h ⊢
            split at h
            · exact absurd rfl h
            · rename_i hv
              rw [if_neg hv]
          | cons t r => rfl
      · rfl
theorem parseX_len {nm : Bs → Bool} {names : List Bs} {s : ByteArray} : (parseX nm names s).1.length ≤ 200 := by
  by_cases h : (parseX nm names s).2.2 = 0
  · obtain ⟨_, _, _, _, h3, _⟩ := valid_spec (parseX_valid h).2
    exact h3
  · rw [parseX_nil h]; exact Nat.zero_le _
theorem exprParses_con (s : ByteArray) (names : List Bs) : Con Tryz.prog 3 [yey s, ybj names] (boolA true) := by
  refine ybw Tryz.func3 rfl rfl Tryz.ntmps3 Tryz.results3 rfl rfl ?_
  (repeat (first | refine zI ?_ | refine zL ?_ | refine zC ?_ | refine yag ?_ | refine yaf ?_ | refine zR ?_ | refine zD ?_ | refine zK ?_ | refine zB ?_ | refine zA ?_ | refine zS ?_ | refine zU ?_ | refine zV ?_ | refine zF ?_ | with_reducible refine yab ?_ | with_reducible refine yad ?_ | refine yaa ?_ | refine yac ?_ | refine yae ?_ | refine zT ?_ | refine zE ?_ | refine zX ?_))
  refine ych 14 rfl (fun h1 => ?_) (fun h1 => ?_)
  · (repeat (first | refine zI ?_ | refine zL ?_ | refine zC ?_ | refine yag ?_ | refine yaf ?_ | refine zR ?_ | refine zD ?_ | refine zK ?_ | refine zB ?_ | refine zA ?_ | refine zS ?_ | refine zU ?_ | refine zV ?_ | refine zF ?_ | with_reducible refine yab ?_ | with_reducible refine yad ?_ | refine yaa ?_ | refine yac ?_ | refine yae ?_ | refine zT ?_ | refine zE ?_ | refine zX ?_ | refine yak rfl rfl ycj rfl rfl ?_))
    refine yar ?_; refine ⟨_, rfl, ?_⟩
    exact ybr rfl
  have h1 : s.size ≤ 1000 := by simp at h1; omega
  (repeat (first | refine zI ?_ | refine zL ?_ | refine zC ?_ | refine yag ?_ | refine yaf ?_ | refine zR ?_ | refine zD ?_ | refine zK ?_ | refine zB ?_ | refine zA ?_ | refine zS ?_ | refine zU ?_ | refine zV ?_ | refine zF ?_ | with_reducible refine yab ?_ | with_reducible refine yad ?_ | refine yaa ?_ | refine yac ?_ | refine yae ?_ | refine zT ?_ | refine zE ?_ | refine zX ?_ | refine yak rfl rfl (light06_con names) rfl rfl ?_))
  refine yam rfl (fun h2 => ?_) (fun h2 => ?_)
  · (repeat (first | refine zI ?_ | refine zL ?_ | refine zC ?_ | refine yag ?_ | refine yaf ?_ | refine zR ?_ | refine zD ?_ | refine zK ?_ | refine zB ?_ | refine zA ?_ | refine zS ?_ | refine zU ?_ | refine zV ?_ | refine zF ?_ | with_reducible refine yab ?_ | with_reducible refine yad ?_ | refine yaa ?_ | refine yac ?_ | refine yae ?_ | refine zT ?_ | refine zE ?_ | refine zX ?_ | refine yak rfl rfl ycj rfl rfl ?_))
    refine yar ?_; refine ⟨_, rfl, ?_⟩
    exact ybr rfl
  have h2 : lightN names = true := by simpa using h2
  obtain ⟨l1, l2⟩ := lightN_spec h2
  have hp := parse_con s names (by omega) (by omega) (fun w hw => by have := l2 w hw; omega)
  have hr := rparse_con s names (by omega) (by omega) (fun w hw => by have := l2 w hw; omega)
  (repeat (first | refine zI ?_ | refine zL ?_ | refine zC ?_ | refine yag ?_ | refine yaf ?_ | refine zR ?_ | refine zD ?_ | refine zK ?_ | refine zB ?_ | refine zA ?_ | refine zS ?_ | refine zU ?_ | refine zV ?_ | refine zF ?_ | with_reducible refine yab ?_ | with_reducible refine yad ?_ | refine yaa ?_ | refine yac ?_ | refine yae ?_ | refine zT ?_ | refine zE ?_ | refine zX ?_ | refine yak rfl rfl hp rfl rfl ?_ | refine yak rfl rfl hr rfl rfl ?_ | refine yak rfl rfl ycj rfl rfl ?_ | refine yak rfl rfl (same_con _ _ (Nat.le_trans parseX_len (by omega))) rfl rfl ?_))
  refine L_true 40 rfl (by simp) ?_
  (repeat (first | refine zI ?_ | refine zL ?_ | refine zC ?_ | refine yag ?_ | refine yaf ?_ | refine zR ?_ | refine zD ?_ | refine zK ?_ | refine zB ?_ | refine zA ?_ | refine zS ?_ | refine zU ?_ | refine zV ?_ | refine zF ?_ | with_reducible refine yab ?_ | with_reducible refine yad ?_ | refine yaa ?_ | refine yac ?_ | refine yae ?_ | refine zT ?_ | refine zE ?_ | refine zX ?_))
  refine L_true 45 rfl (by simp) ?_
  (repeat (first | refine zI ?_ | refine zL ?_ | refine zC ?_ | refine yag ?_ | refine yaf ?_ | refine zR ?_ | refine zD ?_ | refine zK ?_ | refine zB ?_ | refine zA ?_ | refine zS ?_ | refine zU ?_ | refine zV ?_ | refine zF ?_ | with_reducible refine yab ?_ | with_reducible refine yad ?_ | refine yaa ?_ | refine yac ?_ | refine yae ?_ | refine zT ?_ | refine zE ?_ | refine zX ?_))
  refine yar ?_; refine ⟨_, rfl, ?_⟩
  exact ybr (by simp)
theorem fairE_spec {e : List Tm} {names : List Bs} (h : fairE e names = true) : e.length ≤ 250 ∧ (names.length ≤ 10 ∧ ∀ w ∈ names, w.length ≤ 40) ∧ yeo nmW names = true ∧ yda e names.length = true := by
  simp only [fairE, Bool.and_eq_true, decide_eq_true_eq] at h
  exact ⟨h.1.1.1, lightN_spec h.1.1.2, h.1.2, h.2⟩
theorem ft_len {e : List Tm} {names : List Bs} (hg : yeo nmW names = true) (hv : yda e names.length = true) (al : Bool) : (yec al names e).length ≤ 6798 := by
  have := formatT_len nmW_names hg hv al
  omega
theorem fmt_good {e : List Tm} {names : List Bs} (he : e.length ≤ 250) (h1 : names.length ≤ 10) (h2 : ∀ w ∈ names, w.length ≤ 40) (hg : yeo nmW names = true) (hv : yda e names.length = true) : Con Tryz.prog 15 [yay e, ybj names] (formatA (yec false names e, 0)) := by
  have := format_con e names (by omega) (by omega) (fun w hw => by have := h2 w hw; omega)
  rwa [formatX_good hg hv] at this
theorem parse_good {e : List Tm} {names : List Bs} (h1 : names.length ≤ 10) (h2 : ∀ w ∈ names, w.length ≤ 40) (hg : yeo nmW names = true) (hv : yda e names.length = true) (al : Bool) (n : Nat) (hn : n ≤ 100) : Con Tryz.prog 11 [yey (ba (brkN n (yec al names e))), ybj names] (parseA (e, 0, 0)) := by
  have hl := ft_len hg hv al
  have := parse_con (ba (brkN n (yec al names e))) names (by rw [ybb, brkN_len]; omega) (by omega) (fun w hw => by have := h2 w hw; omega)
  rwa [parseX_format nmW_names hg hv al n hn] at this
theorem exprReadsBack_con (e : List Tm) (names : List Bs) : Con Tryz.prog 5 [yay e, ybj names] (boolA true) := by
  refine ybw Tryz.func5 rfl rfl Tryz.ntmps5 Tryz.results5 rfl rfl ?_
  (repeat (first | refine zI ?_ | refine zL ?_ | refine zC ?_ | refine yag ?_ | refine yaf ?_ | refine zR ?_ | refine zD ?_ | refine zK ?_ | refine zB ?_ | refine zA ?_ | refine zS ?_ | refine zU ?_ | refine zV ?_ | refine zF ?_ | with_reducible refine yab ?_ | with_reducible refine yad ?_ | refine yaa ?_ | refine yac ?_ | refine yae ?_ | refine zT ?_ | refine zE ?_ | refine zX ?_ | refine yak rfl rfl (fair06_con e names) rfl rfl ?_))
  refine yam rfl (fun h1 => ?_) (fun h1 => ?_)
  · (repeat (first | refine zI ?_ | refine zL ?_ | refine zC ?_ | refine yag ?_ | refine yaf ?_ | refine zR ?_ | refine zD ?_ | refine zK ?_ | refine zB ?_ | refine zA ?_ | refine zS ?_ | refine zU ?_ | refine zV ?_ | refine zF ?_ | with_reducible refine yab ?_ | with_reducible refine yad ?_ | refine yaa ?_ | refine yac ?_ | refine yae ?_ | refine zT ?_ | refine zE ?_ | refine zX ?_ | refine yak rfl rfl ycj rfl rfl ?_))
    refine yar ?_; refine ⟨_, rfl, ?_⟩
    exact ybr rfl
  obtain ⟨he, ⟨l1, l2⟩, hg, hv⟩ := fairE_spec (by simpa using h1)
  have hf := fmt_good he l1 l2 hg hv
  have hp : Con Tryz.prog 11 [yey (ba (yec false names e)), ybj names] (parseA (e, 0, 0)) := parse_good l1 l2 hg hv false 0 (by omega)
  (repeat (first | refine zI ?_ | refine zL ?_ | refine zC ?_ | refine yag ?_ | refine yaf ?_ | refine zR ?_ | refine zD ?_ | refine zK ?_ | refine zB ?_ | refine zA ?_ | refine zS ?_ | refine zU ?_ | refine zV ?_ | refine zF ?_ | with_reducible refine yab ?_ | with_reducible refine yad ?_ | refine yaa ?_ | refine yac ?_ | refine yae ?_ | refine zT ?_ | refine zE ?_ | refine zX ?_ | refine yak rfl rfl hf rfl rfl ?_ | refine yak rfl rfl hp rfl rfl ?_ | refine yak rfl rfl ycj rfl rfl ?_ | refine yak rfl rfl (same_con _ _ (by show e.length ≤ 1000000; omega)) rfl rfl ?_))
  refine yar ?_; refine ⟨_, rfl, ?_⟩
  exact ybr (by simp)
theorem exprIsStable_con (s : ByteArray) (names : List Bs) : Con Tryz.prog 8 [yey s, ybj names] (boolA true) := by
  refine ybw Tryz.func8 rfl rfl Tryz.ntmps8 Tryz.results8 rfl rfl ?_
  (repeat (first | refine zI ?_ | refine zL ?_ | refine zC ?_ | refine yag ?_ | refine yaf ?_ | refine zR ?_ | refine zD ?_ | refine zK ?_ | refine zB ?_ | refine zA ?_ | refine zS ?_ | refine zU ?_ | refine zV ?_ | refine zF ?_ | with_reducible refine yab ?_ | with_reducible refine yad ?_ | refine yaa ?_ | refine yac ?_ | refine yae ?_ | refine zT ?_ | refine zE ?_ | refine zX ?_))
  refine ych 21 rfl (fun h1 => ?_) (fun h1 => ?_)
  · (repeat (first | refine zI ?_ | refine zL ?_ | refine zC ?_ | refine yag ?_ | refine yaf ?_ | refine zR ?_ | refine zD ?_ | refine zK ?_ | refine zB ?_ | refine zA ?_ | refine zS ?_ | refine zU ?_ | refine zV ?_ | refine zF ?_ | with_reducible refine yab ?_ | with_reducible refine yad ?_ | refine yaa ?_ | refine yac ?_ | refine yae ?_ | refine zT ?_ | refine zE ?_ | refine zX ?_ | refine yak rfl rfl ycj rfl rfl ?_))
    refine yar ?_; refine ⟨_, rfl, ?_⟩
    exact ybr rfl
  have h1 : s.size ≤ 1000 := by simp at h1; omega
  (repeat (first | refine zI ?_ | refine zL ?_ | refine zC ?_ | refine yag ?_ | refine yaf ?_ | refine zR ?_ | refine zD ?_ | refine zK ?_ | refine zB ?_ | refine zA ?_ | refine zS ?_ | refine zU ?_ | refine zV ?_ | refine zF ?_ | with_reducible refine yab ?_ | with_reducible refine yad ?_ | refine yaa ?_ | refine yac ?_ | refine yae ?_ | refine zT ?_ | refine zE ?_ | refine zX ?_ | refine yak rfl rfl (light06_con names) rfl rfl ?_))
  refine yam rfl (fun h2 => ?_) (fun h2 => ?_)
  · (repeat (first | refine zI ?_ | refine zL ?_ | refine zC ?_ | refine yag ?_ | refine yaf ?_ | refine zR ?_ | refine zD ?_ | refine zK ?_ | refine zB ?_ | refine zA ?_ | refine zS ?_ | refine zU ?_ | refine zV ?_ | refine zF ?_ | with_reducible refine yab ?_ | with_reducible refine yad ?_ | refine yaa ?_ | refine yac ?_ | refine yae ?_ | refine zT ?_ | refine zE ?_ | refine zX ?_ | refine yak rfl rfl ycj rfl rfl ?_))
    refine yar ?_; refine ⟨_, rfl, ?_⟩
    exact ybr rfl
  have h2 : lightN names = true := by simpa using h2
  obtain ⟨l1, l2⟩ := lightN_spec h2
  have hp := parse_con s names (by omega) (by omega) (fun w hw => by have := l2 w hw; omega)
  have hr := rparse_con s names (by omega) (by omega) (fun w hw => by have := l2 w hw; omega)
  (repeat (first | refine zI ?_ | refine zL ?_ | refine zC ?_ | refine yag ?_ | refine yaf ?_ | refine zR ?_ | refine zD ?_ | refine zK ?_ | refine zB ?_ | refine zA ?_ | refine zS ?_ | refine zU ?_ | refine zV ?_ | refine zF ?_ | with_reducible refine yab ?_ | with_reducible refine yad ?_ | refine yaa ?_ | refine yac ?_ | refine yae ?_ | refine zT ?_ | refine zE ?_ | refine zX ?_ | refine yak rfl rfl hp rfl rfl ?_))
  refine yam rfl (fun h3 => ?_) (fun h3 => ?_)
  · have h3 : (parseX nmW names s).2.2 ≠ 0 := by simpa using h3
    have hnil := parseX_nil h3
    (repeat (first | refine zI ?_ | refine zL ?_ | refine zC ?_ | refine yag ?_ | refine yaf ?_ | refine zR ?_ | refine zD ?_ | refine zK ?_ | refine zB ?_ | refine zA ?_ | refine zS ?_ | refine zU ?_ | refine zV ?_ | refine zF ?_ | with_reducible refine yab ?_ | with_reducible refine yad ?_ | refine yaa ?_ | refine yac ?_ | refine yae ?_ | refine zT ?_ | refine zE ?_ | refine zX ?_ | refine yak rfl rfl hr rfl rfl ?_ | refine yak rfl rfl ycj rfl rfl ?_))
    refine L_true 49 rfl (by simp) ?_
    (repeat (first | refine zI ?_ | refine zL ?_ | refine zC ?_ | refine yag ?_ | refine yaf ?_ | refine zR ?_ | refine zD ?_ | refine zK ?_ | refine zB ?_ | refine zA ?_ | refine zS ?_ | refine zU ?_ | refine zV ?_ | refine zF ?_ | with_reducible refine yab ?_ | with_reducible refine yad ?_ | refine yaa ?_ | refine yac ?_ | refine yae ?_ | refine zT ?_ | refine zE ?_ | refine zX ?_))
    refine yar ?_; refine ⟨_, rfl, ?_⟩
    exact ybr (by simp [hnil])
  have h3 : (parseX nmW names s).2.2 = 0 := by simpa using h3
  obtain ⟨hg, hv⟩ := parseX_valid h3
  have he := parseX_len (nm := nmW) (names := names) (s := s)
  have hf := fmt_good (by omega) l1 l2 hg hv
  have hq := parse_good l1 l2 hg hv false 0 (by omega)
  simp only [brkN] at hq
  (repeat (first | refine zI ?_ | refine zL ?_ | refine zC ?_ | refine yag ?_ | refine yaf ?_ | refine zR ?_ | refine zD ?_ | refine zK ?_ | refine zB ?_ | refine zA ?_ | refine zS ?_ | refine zU ?_ | refine zV ?_ | refine zF ?_ | with_reducible refine yab ?_ | with_reducible refine yad ?_ | refine yaa ?_ | refine yac ?_ | refine yae ?_ | refine zT ?_ | refine zE ?_ | refine zX ?_ | refine yak rfl rfl hf rfl rfl ?_ | refine yak rfl rfl hq rfl rfl ?_ | refine yak rfl rfl ycj rfl rfl ?_))
  refine L_true 78 rfl (by simp) ?_
  (repeat (first | refine zI ?_ | refine zL ?_ | refine zC ?_ | refine yag ?_ | refine yaf ?_ | refine zR ?_ | refine zD ?_ | refine zK ?_ | refine zB ?_ | refine zA ?_ | refine zS ?_ | refine zU ?_ | refine zV ?_ | refine zF ?_ | with_reducible refine yab ?_ | with_reducible refine yad ?_ | refine yaa ?_ | refine yac ?_ | refine yae ?_ | refine zT ?_ | refine zE ?_ | refine zX ?_))
  refine L_true 82 rfl (by simp) ?_
  (repeat (first | refine zI ?_ | refine zL ?_ | refine zC ?_ | refine yag ?_ | refine yaf ?_ | refine zR ?_ | refine zD ?_ | refine zK ?_ | refine zB ?_ | refine zA ?_ | refine zS ?_ | refine zU ?_ | refine zV ?_ | refine zF ?_ | with_reducible refine yab ?_ | with_reducible refine yad ?_ | refine yaa ?_ | refine yac ?_ | refine yae ?_ | refine zT ?_ | refine zE ?_ | refine zX ?_))
  refine L_true 86 rfl (by simp) ?_
  (repeat (first | refine zI ?_ | refine zL ?_ | refine zC ?_ | refine yag ?_ | refine yaf ?_ | refine zR ?_ | refine zD ?_ | refine zK ?_ | refine zB ?_ | refine zA ?_ | refine zS ?_ | refine zU ?_ | refine zV ?_ | refine zF ?_ | with_reducible refine yab ?_ | with_reducible refine yad ?_ | refine yaa ?_ | refine yac ?_ | refine yae ?_ | refine zT ?_ | refine zE ?_ | refine zX ?_ | refine yak rfl rfl (same_con _ _ (by omega)) rfl rfl ?_))
  refine L_true 91 rfl (by simp) ?_
  (repeat (first | refine zI ?_ | refine zL ?_ | refine zC ?_ | refine yag ?_ | refine yaf ?_ | refine zR ?_ | refine zD ?_ | refine zK ?_ | refine zB ?_ | refine zA ?_ | refine zS ?_ | refine zU ?_ | refine zV ?_ | refine zF ?_ | with_reducible refine yab ?_ | with_reducible refine yad ?_ | refine yaa ?_ | refine yac ?_ | refine yae ?_ | refine zT ?_ | refine zE ?_ | refine zX ?_))
  refine yar ?_; refine ⟨_, rfl, ?_⟩
  exact ybr (by simp)
theorem ba_appE (a b : Bs) : ba a ++ ba b = ba (a ++ b) := by
  rw [← ba_bl (ba a ++ ba b)]
  congr 1
theorem wf_u8 {n : Int} (h : (Lit.int .u8 n).wf = true) : 0 ≤ n ∧ n ≤ 255 := by
  simp only [Lit.wf, Bool.and_eq_true, decide_eq_true_eq] at h
  have e1 : IntKind.u8.min = 0 := by decide
  have e2 : IntKind.u8.max = 255 := by decide
  omega
theorem exprIgnoresBrackets_con (e : List Tm) (names : List Bs) (p : Int) (hp0 : 0 ≤ p ∧ p ≤ 255) : Con Tryz.prog 6 [yay e, ybj names, .v (.int .u8 p)] (boolA true) := by
  refine ybw Tryz.func6 rfl rfl Tryz.ntmps6 Tryz.results6 rfl rfl ?_
  (repeat (first | refine zI ?_ | refine zL ?_ | refine zC ?_ | refine yag ?_ | refine yaf ?_ | refine zR ?_ | refine zD ?_ | refine zK ?_ | refine zB ?_ | refine zA ?_ | refine zS ?_ | refine zU ?_ | refine zV ?_ | refine zF ?_ | with_reducible refine yab ?_ | with_reducible refine yad ?_ | refine yaa ?_ | refine yac ?_ | refine yae ?_ | refine zT ?_ | refine zE ?_ | refine zX ?_ | refine yak rfl rfl (fair06_con e names) rfl rfl ?_))
  refine yam rfl (fun h1 => ?_) (fun h1 => ?_)
  · (repeat (first | refine zI ?_ | refine zL ?_ | refine zC ?_ | refine yag ?_ | refine yaf ?_ | refine zR ?_ | refine zD ?_ | refine zK ?_ | refine zB ?_ | refine zA ?_ | refine zS ?_ | refine zU ?_ | refine zV ?_ | refine zF ?_ | with_reducible refine yab ?_ | with_reducible refine yad ?_ | refine yaa ?_ | refine yac ?_ | refine yae ?_ | refine zT ?_ | refine zE ?_ | refine zX ?_ | refine yak rfl rfl ycj rfl rfl ?_))
    refine yar ?_; refine ⟨_, rfl, ?_⟩
    exact ybr rfl
  obtain ⟨he, ⟨l1, l2⟩, hg, hv⟩ := fairE_spec (by simpa using h1)
  have hf := fmt_good he l1 l2 hg hv
  have hl := ft_len hg hv false
  have hpm : p.tmod 20 = ((p.toNat % 20 : Nat) : Int) := by
    obtain ⟨n, rfl⟩ := Int.eq_ofNat_of_zero_le hp0.1
    rfl
  (repeat (first | refine zI ?_ | refine zL ?_ | refine zC ?_ | refine yag ?_ | refine yaf ?_ | refine zR ?_ | refine zD ?_ | refine zK ?_ | refine zB ?_ | refine zA ?_ | refine zS ?_ | refine zU ?_ | refine zV ?_ | refine zF ?_ | with_reducible refine yab ?_ | with_reducible refine yad ?_ | refine yaa ?_ | refine yac ?_ | refine yae ?_ | refine zT ?_ | refine zE ?_ | refine zX ?_ | refine yak rfl rfl hf rfl rfl ?_))
  refine A_inv (α := Nat) (fun k => [(9, i64 k), (8, i64 0), (7, yey (ba (brkN k (yec false names e)))), (2, .v (.int .u8 p)), (1, ybj names), (0, yay e)]) (fun k => []) (fun k => 20 - k) (fun k => k ≤ p.toNat % 20) 0 (by omega) (by (repeat (first | exact ycd | refine ybn rfl ?_))) yan ?_
  intro k hk
  (repeat (first | refine zI ?_ | refine zL ?_ | refine zC ?_ | refine yag ?_ | refine yaf ?_ | refine zR ?_ | refine zD ?_ | refine zK ?_ | refine zB ?_ | refine zA ?_ | refine zS ?_ | refine zU ?_ | refine zV ?_ | refine zF ?_ | with_reducible refine yab ?_ | with_reducible refine yad ?_ | refine yaa ?_ | refine yac ?_ | refine yae ?_ | refine zT ?_ | refine zE ?_ | refine zX ?_))
  refine yam rfl (fun h2 => ?_) (fun h2 => ?_)
  · have h2 : k < p.toNat % 20 := by have h3 := of_decide_eq_true h2; rw [hpm] at h3; omega
    (repeat (first | refine zI ?_ | refine zL ?_ | refine zC ?_ | refine yag ?_ | refine yaf ?_ | refine zR ?_ | refine zD ?_ | refine zK ?_ | refine zB ?_ | refine zA ?_ | refine zS ?_ | refine zU ?_ | refine zV ?_ | refine zF ?_ | with_reducible refine yab ?_ | with_reducible refine yad ?_ | refine yaa ?_ | refine yac ?_ | refine yae ?_ | refine zT ?_ | refine zE ?_ | refine zX ?_))
    refine yeq (a := ba [40, 32]) rfl rfl (by rw [ybb, ybb, brkN_len]; simp; omega) rfl rfl ?_
    rw [ba_appE]
    (repeat (first | refine zI ?_ | refine zL ?_ | refine zC ?_ | refine yag ?_ | refine yaf ?_ | refine zR ?_ | refine zD ?_ | refine zK ?_ | refine zB ?_ | refine zA ?_ | refine zS ?_ | refine zU ?_ | refine zV ?_ | refine zF ?_ | with_reducible refine yab ?_ | with_reducible refine yad ?_ | refine yaa ?_ | refine yac ?_ | refine yae ?_ | refine zT ?_ | refine zE ?_ | refine zX ?_))
    refine yeq (b := ba [41, 35, 32, 120, 10]) rfl rfl (by rw [ybb, ybb, List.length_append, brkN_len]; simp; omega) rfl rfl ?_
    rw [ba_appE]
    (repeat (first | refine zI ?_ | refine zL ?_ | refine zC ?_ | refine yag ?_ | refine yaf ?_ | refine zR ?_ | refine zD ?_ | refine zK ?_ | refine zB ?_ | refine zA ?_ | refine zS ?_ | refine zU ?_ | refine zV ?_ | refine zF ?_ | with_reducible refine yab ?_ | with_reducible refine yad ?_ | refine yaa ?_ | refine yac ?_ | refine yae ?_ | refine zT ?_ | refine zE ?_ | refine zX ?_))
    exact rnd (k + 1) (by omega) (by omega) (by (repeat (first | exact ycd | refine ybn rfl ?_))) yan
  have h2 : p.toNat % 20 ≤ k := by have h3 := of_decide_eq_false h2; rw [hpm] at h3; omega
  have hp := parse_good l1 l2 hg hv false k (by omega)
  (repeat (first | refine zI ?_ | refine zL ?_ | refine zC ?_ | refine yag ?_ | refine yaf ?_ | refine zR ?_ | refine zD ?_ | refine zK ?_ | refine zB ?_ | refine zA ?_ | refine zS ?_ | refine zU ?_ | refine zV ?_ | refine zF ?_ | with_reducible refine yab ?_ | with_reducible refine yad ?_ | refine yaa ?_ | refine yac ?_ | refine yae ?_ | refine zT ?_ | refine zE ?_ | refine zX ?_ | refine yak rfl rfl hp rfl rfl ?_ | refine yak rfl rfl ycj rfl rfl ?_))
  refine L_true 46 rfl (by simp) ?_
  (repeat (first | refine zI ?_ | refine zL ?_ | refine zC ?_ | refine yag ?_ | refine yaf ?_ | refine zR ?_ | refine zD ?_ | refine zK ?_ | refine zB ?_ | refine zA ?_ | refine zS ?_ | refine zU ?_ | refine zV ?_ | refine zF ?_ | with_reducible refine yab ?_ | with_reducible refine yad ?_ | refine yaa ?_ | refine yac ?_ | refine yae ?_ | refine zT ?_ | refine zE ?_ | refine zX ?_))
  refine L_true 50 rfl (by simp) ?_
  (repeat (first | refine zI ?_ | refine zL ?_ | refine zC ?_ | refine yag ?_ | refine yaf ?_ | refine zR ?_ | refine zD ?_ | refine zK ?_ | refine zB ?_ | refine zA ?_ | refine zS ?_ | refine zU ?_ | refine zV ?_ | refine zF ?_ | with_reducible refine yab ?_ | with_reducible refine yad ?_ | refine yaa ?_ | refine yac ?_ | refine yae ?_ | refine zT ?_ | refine zE ?_ | refine zX ?_ | refine yak rfl rfl (same_con _ _ (by show e.length ≤ 1000000; omega)) rfl rfl ?_))
  refine yar ?_; refine ⟨_, rfl, ?_⟩
  exact ybr (by simp)
section
variable {H : Type} {enc : TypeId × Value → H} {w : World} {v : Value} {base : Nat} {d : DataW H} {ps : List MemPlace}
def NamesOk (w : World) (v : Value) (l : List Bs) : Prop := Seq (fun cs (x : Bs) => cs = [.string (ba x)]) 1 w v l
theorem open_names (hv : Value.okWide Tryz.prog w .any base 22 v) (h : DataW.Trod enc Tryz.prog w 0 (fun _ => true) true 22 v d ps) : ∃ l, NamesOk w v l := by
  refine open_seq_arg (R := fun cs (x : Bs) => cs = [.string (ba x)]) Tryz.underlying22 (by kernel_rfl) (Nat.succ_pos 0) (fun cs h => ?_) hv h
  obtain ⟨s, hs, _⟩ := rd_string Tryz.underlying9 h
  exact ⟨bl s, by rw [hs, ba_bl]⟩
theorem names_rel {lv : Live} {l : List Bs} (h : NamesOk w v l) : Rel (okW w) w lv (ybj l) v :=
  rel_of_seq h (fun _ => rfl) (fun x c hc => by simp at hc; subst hc; rfl) fun x _ cs hc => by
    subst hc
    exact ycv (.v _) relAll_nil
theorem terms_relE {lv : Live} {l : List Tm} (h : Terms w v l) : Rel (okW w) w lv (yay l) v :=
  rel_plain (g := fun t : Tm => [.int .i64 t.1, .int .i64 t.2]) (fun _ => rfl) (fun x u hu => by simp at hu; rcases hu with rfl | rfl <;> rfl) h
end
theorem walk_ExprParses (s : ByteArray) (v1 : Value) (z1 : List Bs) (w : World) (hs : s.size ≤ maxLen) (h1 : NamesOk w v1 z1) (hG : Glob w) :
    Calls Tryz.prog 3 #[.string s, v1] w fun e w' => e = .returned (.bool true) ∧ Below w.heap.size w w' :=
  calls_of_con (exprParses_con s z1) hG (okW_lt w) (ycv (.v _) (ycv (names_rel h1) relAll_nil))
theorem walk_ExprIsStable (s : ByteArray) (v1 : Value) (z1 : List Bs) (w : World) (hs : s.size ≤ maxLen) (h1 : NamesOk w v1 z1) (hG : Glob w) :
    Calls Tryz.prog 8 #[.string s, v1] w fun e w' => e = .returned (.bool true) ∧ Below w.heap.size w w' :=
  calls_of_con (exprIsStable_con s z1) hG (okW_lt w) (ycv (.v _) (ycv (names_rel h1) relAll_nil))
theorem walk_ExprReadsBack (v0 : Value) (z0 : List Tm) (v1 : Value) (z1 : List Bs) (w : World) (h0 : Terms w v0 z0 ∧ ∀ t ∈ z0, TermIn t) (h1 : NamesOk w v1 z1) (hG : Glob w) :
    Calls Tryz.prog 5 #[v0, v1] w fun e w' => e = .returned (.bool true) ∧ Below w.heap.size w w' :=
  calls_of_con (exprReadsBack_con z0 z1) hG (okW_lt w) (ycv (terms_relE h0.1) (ycv (names_rel h1) relAll_nil))
theorem walk_ExprIgnoresBrackets (v0 : Value) (z0 : List Tm) (v1 : Value) (z1 : List Bs) (p : Int) (w : World) (h0 : Terms w v0 z0 ∧ ∀ t ∈ z0, TermIn t) (h1 : NamesOk w v1 z1) (hp : (Lit.int .u8 p).wf = true) (hG : Glob w) :
    Calls Tryz.prog 6 #[v0, v1, .int .u8 p] w fun e w' => e = .returned (.bool true) ∧ Below w.heap.size w w' :=
  calls_of_con (exprIgnoresBrackets_con z0 z1 p (wf_u8 hp)) hG (okW_lt w) (ycv (terms_relE h0.1) (ycv (names_rel h1) (ycv (.v _) relAll_nil)))
end Go.Proofs.YtcpgpiabeimefaaGreatDoor
