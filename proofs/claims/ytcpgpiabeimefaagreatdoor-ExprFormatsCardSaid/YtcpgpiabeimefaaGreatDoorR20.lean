/- Part 20 of the texts under ExprFormats,ExprBracketsEverything: joined, with what it needs alone. -/
import Derived.Laws.StructEq
import Derived.Test.YtcpgpiabeimefaaGreatDoorR12
import Derived.Test.YtcpgpiabeimefaaGreatDoorR14
import Derived.Test.YtcpgpiabeimefaaGreatDoorR17
import Derived.Test.YtcpgpiabeimefaaGreatDoorR19
set_option linter.unusedVariables false
set_option maxRecDepth 100000
set_option maxHeartbeats 4000000
namespace Go.Proofs.YtcpgpiabeimefaaGreatDoor
open Go.RowKit
theorem eqTm (a b c d : Int) (w : World) : (Op.equalIn 10000 38 (.agg #[.int .i64 a, .int .i64 b]) (.agg #[.int .i64 c, .int .i64 d])).run Tryz.prog w = .ok (a == c && b == d) w := by
  have u3 := Tryz.underlying3
  have a3 := Tryz.isAgg3
  have z3 := Tryz.sizeOf3
  rw [show (10000 : Nat) = 9999 + 1 from rfl, run_equalIn_agg w 9999 38 _ _ (by kernel_rfl) (by kernel_rfl)]
  simp only [Program.fieldsOf, Tryz.underlying38]
  go_simp
  by_cases h1 : a = c <;> by_cases h2 : b = d <;> simp [h1, h2]
def tmA (t : Tm) : AV := .agg [i64 t.1, i64 t.2]
theorem yield_neqT {ρ : Operand → Option AV} {hp : Nat → Option LObj} {x y : Operand} {a b : Tm} {ty' ty : TypeId} (hx : ρ x = some (tmA a)) (hy : ρ y = some (tmA b)) : yct Tryz.prog hp ρ (.binOp .neq 38 x y ty') ty (yga (!(a.1 == b.1 && a.2 == b.2))) := by
  have ex : yjr ρ x = .agg #[.int .i64 a.1, .int .i64 a.2] := by simp only [yjr, hx]; rfl
  have ey : yjr ρ y = .agg #[.int .i64 b.1, .int .i64 b.2] := by simp only [yjr, hy]; rfl
  refine ydh (fun _ _ => by simp) (by simp only [yfu, Op.operands, hx, hy]; rfl) fun w => ?_
  have hg := run_eqGuard_agg (P := Tryz.prog) w .neq 38 x y #[.int .i64 a.1, .int .i64 a.2] #[.int .i64 b.1, .int .i64 b.2] (by kernel_rfl)
  simp [execOp, ex, ey, hg, run_neq_struct, eqTm]
section
variable {N : Nat} {ops : Array Oper} {lf : Oper → Bool} {Q : SS → Prop} {t : List (Nat × AV)} {h : List (Nat × Option LObj)} {rest : List Oper} {d : Nat} {ty : TypeId} {pos : String} {af : Array Edge} {gd : Option (Nat × Bool)}
theorem L_neqT {x y : Operand} {a b : Tm} {ty' : TypeId} (hx : evF (ybb t) x = some (tmA a)) (hy : evF (ybb t) y = some (tmA b))
    (hw : yaz ops (ybb t) ⟨some d, .binOp .neq 38 x y ty', ty, pos, af, gd⟩ = some true) (hd : Nat.blt d N = true) (k : Lex Tryz.prog N ops lf Q rest (S ((d, yga (!(a.1 == b.1 && a.2 == b.2))) :: t) h)) : Lex Tryz.prog N ops lf Q (⟨some d, .binOp .neq 38 x y ty', ty, pos, af, gd⟩ :: rest) (S t h) :=
  ycc (yield_neqT hx hy) hw hd k
theorem L_true {P : Program} {l : List Oper} (d : Nat) {b : Bool} (hb : ybb t d = some (.v (.bool b))) (he : b = true) (k : Lex P N ops lf Q l (S ((d, .v (.bool true)) :: t) h)) : Lex P N ops lf Q l (S t h) :=
  ych d hb (fun _ => k) (fun e => by rw [he] at e; cases e)
end
theorem same_con (a b : List Tm) (ha : a.length ≤ 1000000) : Con Tryz.prog 13 [ybc a, ybc b] (yga (decide (a = b))) := by
  refine ybt Tryz.func13 rfl rfl Tryz.ntmps13 Tryz.results13 rfl rfl ?_
  (repeat (first | refine zI ?_ | refine zL ?_ | refine zC ?_ | refine yaf ?_ | refine yae ?_ | refine zR ?_ | refine zD ?_ | refine zK ?_ | refine zB ?_ | refine zA ?_ | refine zS ?_ | refine zU ?_ | refine zV ?_ | refine zF ?_ | with_reducible refine yab ?_ | with_reducible refine yad ?_ | refine yaa ?_ | refine yac ?_ | refine yag ?_ | refine zT ?_ | refine zE ?_ | refine zX ?_))
  refine yaq rfl (fun h1 => ?_) (fun h1 => ?_)
  · have h1 : a.length ≠ b.length := by simp at h1; omega
    (repeat (first | refine zI ?_ | refine zL ?_ | refine zC ?_ | refine yaf ?_ | refine yae ?_ | refine zR ?_ | refine zD ?_ | refine zK ?_ | refine zB ?_ | refine zA ?_ | refine zS ?_ | refine zU ?_ | refine zV ?_ | refine zF ?_ | with_reducible refine yab ?_ | with_reducible refine yad ?_ | refine yaa ?_ | refine yac ?_ | refine yag ?_ | refine zT ?_ | refine zE ?_ | refine zX ?_))
    refine yau ?_; refine ⟨_, rfl, ?_⟩
    exact ybu (by rw [decide_eq_false]; intro e; rw [e] at h1; exact h1 rfl)
  have h1 : a.length = b.length := by simp at h1; omega
  (repeat (first | refine zI ?_ | refine zL ?_ | refine zC ?_ | refine yaf ?_ | refine yae ?_ | refine zR ?_ | refine zD ?_ | refine zK ?_ | refine zB ?_ | refine zA ?_ | refine zS ?_ | refine zU ?_ | refine zV ?_ | refine zF ?_ | with_reducible refine yab ?_ | with_reducible refine yad ?_ | refine yaa ?_ | refine yac ?_ | refine yag ?_ | refine zT ?_ | refine zE ?_ | refine zX ?_))
  refine yjj (α := Nat) (fun k => [(5, i64 k), (1, ybc b), (0, ybc a)]) (fun k => []) (fun k => a.length - k) (fun k => k ≤ a.length ∧ a.take k = b.take k) 0 ⟨by omega, by simp⟩ (by (repeat (first | exact yca | refine ybm rfl ?_))) yar ?_
  rintro k ⟨hk, he⟩
  (repeat (first | refine zI ?_ | refine zL ?_ | refine zC ?_ | refine yaf ?_ | refine yae ?_ | refine zR ?_ | refine zD ?_ | refine zK ?_ | refine zB ?_ | refine zA ?_ | refine zS ?_ | refine zU ?_ | refine zV ?_ | refine zF ?_ | with_reducible refine yab ?_ | with_reducible refine yad ?_ | refine yaa ?_ | refine yac ?_ | refine yag ?_ | refine zT ?_ | refine zE ?_ | refine zX ?_))
  refine yaq rfl (fun h2 => ?_) (fun h2 => ?_)
  · have h2 : k < a.length := by simpa using h2
    obtain ⟨x, hx⟩ := getN h2
    obtain ⟨y, hy⟩ := getN (show k < b.length by omega)
    (repeat (first | refine zI ?_ | refine zL ?_ | refine zC ?_ | refine yaf ?_ | refine yae ?_ | refine zR ?_ | refine zD ?_ | refine zK ?_ | refine zB ?_ | refine zA ?_ | refine zS ?_ | refine zU ?_ | refine zV ?_ | refine zF ?_ | with_reducible refine yab ?_ | with_reducible refine yad ?_ | refine yaa ?_ | refine yac ?_ | refine yag ?_ | refine zT ?_ | refine zE ?_ | refine zX ?_ | refine ybd tok rfl rfl rfl (by omega) (ycb hx) rfl rfl ?_ | refine ybd tok rfl rfl rfl (by omega) (ycb hy) rfl rfl ?_ | refine L_neqT (a := x) (b := y) rfl rfl rfl rfl ?_))
    refine yaq rfl (fun h3 => ?_) (fun h3 => ?_)
    · have h3 : ¬ x = y := by intro e; subst e; simp at h3
      (repeat (first | refine zI ?_ | refine zL ?_ | refine zC ?_ | refine yaf ?_ | refine yae ?_ | refine zR ?_ | refine zD ?_ | refine zK ?_ | refine zB ?_ | refine zA ?_ | refine zS ?_ | refine zU ?_ | refine zV ?_ | refine zF ?_ | with_reducible refine yab ?_ | with_reducible refine yad ?_ | refine yaa ?_ | refine yac ?_ | refine yag ?_ | refine zT ?_ | refine zE ?_ | refine zX ?_))
      refine yau ?_; refine ⟨_, rfl, ?_⟩
      exact ybu (by rw [decide_eq_false]; intro e; subst e; rw [hx] at hy; exact h3 (Option.some.inj hy))
    · have h3 : x = y := by have h3 := h3; simp at h3; exact Prod.ext h3.1 h3.2
      (repeat (first | refine zI ?_ | refine zL ?_ | refine zC ?_ | refine yaf ?_ | refine yae ?_ | refine zR ?_ | refine zD ?_ | refine zK ?_ | refine zB ?_ | refine zA ?_ | refine zS ?_ | refine zU ?_ | refine zV ?_ | refine zF ?_ | with_reducible refine yab ?_ | with_reducible refine yad ?_ | refine yaa ?_ | refine yac ?_ | refine yag ?_ | refine zT ?_ | refine zE ?_ | refine zX ?_))
      refine rnd (k + 1) ⟨by omega, ?_⟩ (by omega) (by (repeat (first | exact yca | refine ybm rfl ?_))) yar
      subst h3
      rw [take_next hx, take_next hy, he]
  · have h2 : a.length ≤ k := by simpa using h2
    (repeat (first | refine zI ?_ | refine zL ?_ | refine zC ?_ | refine yaf ?_ | refine yae ?_ | refine zR ?_ | refine zD ?_ | refine zK ?_ | refine zB ?_ | refine zA ?_ | refine zS ?_ | refine zU ?_ | refine zV ?_ | refine zF ?_ | with_reducible refine yab ?_ | with_reducible refine yad ?_ | refine yaa ?_ | refine yac ?_ | refine yag ?_ | refine zT ?_ | refine zE ?_ | refine zX ?_))
    refine yau ?_; refine ⟨_, rfl, ?_⟩
    exact ybu (by rw [List.take_of_length_le h2, List.take_of_length_le (by omega)] at he; exact (decide_eq_true he).symm)
theorem lightE_con (e : List Tm) : Con Tryz.prog 14 [ybc e] (yga (decide (e.length ≤ 250))) := by
  refine ybt Tryz.func14 rfl rfl Tryz.ntmps14 Tryz.results14 rfl rfl ?_
  (repeat (first | refine zI ?_ | refine zL ?_ | refine zC ?_ | refine yaf ?_ | refine yae ?_ | refine zR ?_ | refine zD ?_ | refine zK ?_ | refine zB ?_ | refine zA ?_ | refine zS ?_ | refine zU ?_ | refine zV ?_ | refine zF ?_ | with_reducible refine yab ?_ | with_reducible refine yad ?_ | refine yaa ?_ | refine yac ?_ | refine yag ?_ | refine zT ?_ | refine zE ?_ | refine zX ?_))
  refine yau ?_; refine ⟨_, rfl, ?_⟩
  exact ybu (by simp; omega)
def yjb (names : List Bs) : Bool := decide (names.length ≤ 10) && names.all fun w => decide (w.length ≤ 40)
theorem lightN_spec {names : List Bs} (h : yjb names = true) : names.length ≤ 10 ∧ ∀ w ∈ names, w.length ≤ 40 := by
  simp only [yjb, Bool.and_eq_true, decide_eq_true_eq, List.all_eq_true] at h
  exact h
theorem light06_con (names : List Bs) : Con Tryz.prog 9 [ybe names] (yga (yjb names)) := by
  refine ybt Tryz.func9 rfl rfl Tryz.ntmps9 Tryz.results9 rfl rfl ?_
  (repeat (first | refine zI ?_ | refine zL ?_ | refine zC ?_ | refine yaf ?_ | refine yae ?_ | refine zR ?_ | refine zD ?_ | refine zK ?_ | refine zB ?_ | refine zA ?_ | refine zS ?_ | refine zU ?_ | refine zV ?_ | refine zF ?_ | with_reducible refine yab ?_ | with_reducible refine yad ?_ | refine yaa ?_ | refine yac ?_ | refine yag ?_ | refine zT ?_ | refine zE ?_ | refine zX ?_))
  refine yaq rfl (fun h1 => ?_) (fun h1 => ?_)
  · have h1 : ¬ names.length ≤ 10 := by simp at h1; omega
    (repeat (first | refine zI ?_ | refine zL ?_ | refine zC ?_ | refine yaf ?_ | refine yae ?_ | refine zR ?_ | refine zD ?_ | refine zK ?_ | refine zB ?_ | refine zA ?_ | refine zS ?_ | refine zU ?_ | refine zV ?_ | refine zF ?_ | with_reducible refine yab ?_ | with_reducible refine yad ?_ | refine yaa ?_ | refine yac ?_ | refine yag ?_ | refine zT ?_ | refine zE ?_ | refine zX ?_))
    refine yau ?_; refine ⟨_, rfl, ?_⟩
    exact ybu (by simp [yjb, h1])
  have h1 : names.length ≤ 10 := by simp at h1; omega
  (repeat (first | refine zI ?_ | refine zL ?_ | refine zC ?_ | refine yaf ?_ | refine yae ?_ | refine zR ?_ | refine zD ?_ | refine zK ?_ | refine zB ?_ | refine zA ?_ | refine zS ?_ | refine zU ?_ | refine zV ?_ | refine zF ?_ | with_reducible refine yab ?_ | with_reducible refine yad ?_ | refine yaa ?_ | refine yac ?_ | refine yag ?_ | refine zT ?_ | refine zE ?_ | refine zX ?_))
  refine yjj (α := Nat) (fun k => [(3, i64 k), (0, ybe names)]) (fun k => []) (fun k => names.length - k) (fun k => k ≤ names.length ∧ (names.take k).all (fun w => decide (w.length ≤ 40)) = true) 0 ⟨by omega, by simp⟩ (by (repeat (first | exact yca | refine ybm rfl ?_))) yar ?_
  rintro k ⟨hk, ha⟩
  (repeat (first | refine zI ?_ | refine zL ?_ | refine zC ?_ | refine yaf ?_ | refine yae ?_ | refine zR ?_ | refine zD ?_ | refine zK ?_ | refine zB ?_ | refine zA ?_ | refine zS ?_ | refine zU ?_ | refine zV ?_ | refine zF ?_ | with_reducible refine yab ?_ | with_reducible refine yad ?_ | refine yaa ?_ | refine yac ?_ | refine yag ?_ | refine zT ?_ | refine zE ?_ | refine zX ?_))
  refine yaq rfl (fun h2 => ?_) (fun h2 => ?_)
  · have h2 : k < names.length := by simpa using h2
    obtain ⟨x, hx⟩ := getN h2
    (repeat (first | refine zI ?_ | refine zL ?_ | refine zC ?_ | refine yaf ?_ | refine yae ?_ | refine zR ?_ | refine zD ?_ | refine zK ?_ | refine zB ?_ | refine zA ?_ | refine zS ?_ | refine zU ?_ | refine zV ?_ | refine zF ?_ | with_reducible refine yab ?_ | with_reducible refine yad ?_ | refine yaa ?_ | refine yac ?_ | refine yag ?_ | refine zT ?_ | refine zE ?_ | refine zX ?_ | refine ybd tok rfl rfl rfl (by omega) (ycb hx) rfl rfl ?_))
    refine yaq rfl (fun h3 => ?_) (fun h3 => ?_)
    · have h3 : 40 < x.length := by have h4 := h3; simp [yaw] at h4; omega
      (repeat (first | refine zI ?_ | refine zL ?_ | refine zC ?_ | refine yaf ?_ | refine yae ?_ | refine zR ?_ | refine zD ?_ | refine zK ?_ | refine zB ?_ | refine zA ?_ | refine zS ?_ | refine zU ?_ | refine zV ?_ | refine zF ?_ | with_reducible refine yab ?_ | with_reducible refine yad ?_ | refine yaa ?_ | refine yac ?_ | refine yag ?_ | refine zT ?_ | refine zE ?_ | refine zX ?_))
      refine yau ?_; refine ⟨_, rfl, ?_⟩
      refine ybu ?_
      have : names.all (fun w => decide (w.length ≤ 40)) = false := by
        rw [List.all_eq_false]
        exact ⟨x, List.mem_of_getElem? hx, by simp; omega⟩
      simp [yjb, this]
    · have h3 : x.length ≤ 40 := by have h4 := h3; simp [yaw] at h4; omega
      (repeat (first | refine zI ?_ | refine zL ?_ | refine zC ?_ | refine yaf ?_ | refine yae ?_ | refine zR ?_ | refine zD ?_ | refine zK ?_ | refine zB ?_ | refine zA ?_ | refine zS ?_ | refine zU ?_ | refine zV ?_ | refine zF ?_ | with_reducible refine yab ?_ | with_reducible refine yad ?_ | refine yaa ?_ | refine yac ?_ | refine yag ?_ | refine zT ?_ | refine zE ?_ | refine zX ?_))
      refine rnd (k + 1) ⟨by omega, ?_⟩ (by omega) (by (repeat (first | exact yca | refine ybm rfl ?_))) yar
      rw [take_next hx, List.all_append, ha]
      simp [h3]
  · have h2 : names.length ≤ k := by simpa using h2
    (repeat (first | refine zI ?_ | refine zL ?_ | refine zC ?_ | refine yaf ?_ | refine yae ?_ | refine zR ?_ | refine zD ?_ | refine zK ?_ | refine zB ?_ | refine zA ?_ | refine zS ?_ | refine zU ?_ | refine zV ?_ | refine zF ?_ | with_reducible refine yab ?_ | with_reducible refine yad ?_ | refine yaa ?_ | refine yac ?_ | refine yag ?_ | refine zT ?_ | refine zE ?_ | refine zX ?_))
    refine yau ?_; refine ⟨_, rfl, ?_⟩
    exact ybu (by rw [List.take_of_length_le h2] at ha; simp [yjb, ha, h1])
def fairE (e : List Tm) (names : List Bs) : Bool := (decide (e.length ≤ 250) && yjb names) && ydw nmW names && ycp e names.length
theorem fair06_con (e : List Tm) (names : List Bs) : Con Tryz.prog 17 [ybc e, ybe names] (yga (fairE e names)) := by
  refine ybt Tryz.func17 rfl rfl Tryz.ntmps17 Tryz.results17 rfl rfl ?_
  (repeat (first | refine zI ?_ | refine zL ?_ | refine zC ?_ | refine yaf ?_ | refine yae ?_ | refine zR ?_ | refine zD ?_ | refine zK ?_ | refine zB ?_ | refine zA ?_ | refine zS ?_ | refine zU ?_ | refine zV ?_ | refine zF ?_ | with_reducible refine yab ?_ | with_reducible refine yad ?_ | refine yaa ?_ | refine yac ?_ | refine yag ?_ | refine zT ?_ | refine zE ?_ | refine zX ?_ | refine yal rfl rfl (lightE_con e) rfl rfl ?_))
  refine ych 7 rfl (fun h1 => ?_) (fun h1 => ?_)
  · (repeat (first | refine zI ?_ | refine zL ?_ | refine zC ?_ | refine yaf ?_ | refine yae ?_ | refine zR ?_ | refine zD ?_ | refine zK ?_ | refine zB ?_ | refine zA ?_ | refine zS ?_ | refine zU ?_ | refine zV ?_ | refine zF ?_ | with_reducible refine yab ?_ | with_reducible refine yad ?_ | refine yaa ?_ | refine yac ?_ | refine yag ?_ | refine zT ?_ | refine zE ?_ | refine zX ?_ | refine yal rfl rfl (light06_con names) rfl rfl ?_))
    have h1' : e.length ≤ 250 := by simpa using h1
    refine ych 11 rfl (fun h2 => ?_) (fun h2 => ?_)
    · obtain ⟨l1, l2⟩ := lightN_spec h2
      (repeat (first | refine zI ?_ | refine zL ?_ | refine zC ?_ | refine yaf ?_ | refine yae ?_ | refine zR ?_ | refine zD ?_ | refine zK ?_ | refine zB ?_ | refine zA ?_ | refine zS ?_ | refine zU ?_ | refine zV ?_ | refine zF ?_ | with_reducible refine yab ?_ | with_reducible refine yad ?_ | refine yaa ?_ | refine yac ?_ | refine yag ?_ | refine zT ?_ | refine zE ?_ | refine zX ?_ | refine yal rfl rfl (rgood_con names (by omega) (fun w hw => by have := l2 w hw; omega)) rfl rfl ?_))
      refine ych 15 rfl (fun h3 => ?_) (fun h3 => ?_)
      · (repeat (first | refine zI ?_ | refine zL ?_ | refine zC ?_ | refine yaf ?_ | refine yae ?_ | refine zR ?_ | refine zD ?_ | refine zK ?_ | refine zB ?_ | refine zA ?_ | refine zS ?_ | refine zU ?_ | refine zV ?_ | refine zF ?_ | with_reducible refine yab ?_ | with_reducible refine yad ?_ | refine yaa ?_ | refine yac ?_ | refine yag ?_ | refine zT ?_ | refine zE ?_ | refine zX ?_ | refine yal rfl rfl (xrvalid_con e names.length (by omega)) rfl rfl ?_))
        refine yau ?_; refine ⟨_, rfl, ?_⟩
        exact ybu (by simp [fairE, h1', h2, h3])
      · (repeat (first | refine zI ?_ | refine zL ?_ | refine zC ?_ | refine yaf ?_ | refine yae ?_ | refine zR ?_ | refine zD ?_ | refine zK ?_ | refine zB ?_ | refine zA ?_ | refine zS ?_ | refine zU ?_ | refine zV ?_ | refine zF ?_ | with_reducible refine yab ?_ | with_reducible refine yad ?_ | refine yaa ?_ | refine yac ?_ | refine yag ?_ | refine zT ?_ | refine zE ?_ | refine zX ?_))
        refine yau ?_; refine ⟨_, rfl, ?_⟩
        exact ybu (by simp [fairE, h3])
    · (repeat (first | refine zI ?_ | refine zL ?_ | refine zC ?_ | refine yaf ?_ | refine yae ?_ | refine zR ?_ | refine zD ?_ | refine zK ?_ | refine zB ?_ | refine zA ?_ | refine zS ?_ | refine zU ?_ | refine zV ?_ | refine zF ?_ | with_reducible refine yab ?_ | with_reducible refine yad ?_ | refine yaa ?_ | refine yac ?_ | refine yag ?_ | refine zT ?_ | refine zE ?_ | refine zX ?_))
      refine yau ?_; refine ⟨_, rfl, ?_⟩
      exact ybu (by simp [fairE, h2])
  · (repeat (first | refine zI ?_ | refine zL ?_ | refine zC ?_ | refine yaf ?_ | refine yae ?_ | refine zR ?_ | refine zD ?_ | refine zK ?_ | refine zB ?_ | refine zA ?_ | refine zS ?_ | refine zU ?_ | refine zV ?_ | refine zF ?_ | with_reducible refine yab ?_ | with_reducible refine yad ?_ | refine yaa ?_ | refine yac ?_ | refine yag ?_ | refine zT ?_ | refine zE ?_ | refine zX ?_))
    refine yau ?_; refine ⟨_, rfl, ?_⟩
    exact ybu (by simp [fairE, h1])
def awT : Bs := [109, 105, 110, 40, 113, 46, 100, 41, 43, 49]
def awE : List Tm := [(33, 0), (24, 0), (12, 0), (1, 1)]
def awF : Bs := [109, 105, 110, 40, 113, 46, 100, 41, 32, 43, 32, 49]
theorem aw_f : formatX nmW [[100], [112]] awE = (awF, 0) := by kernel_rfl
theorem aw_p : yie nmW [[100], [112]] (ba awT) = (awE, 0, 0) := by kernel_rfl
theorem aw_pcon : Con Tryz.prog 11 [yff (ba awT), ybe [[100], [112]]] (parseA (awE, 0, 0)) := by
  rw [← aw_p]
  exact parse_con _ _ (by decide) (by decide) (by decide)
theorem aw_fcon : Con Tryz.prog 15 [ybc awE, ybe [[100], [112]]] (formatA (awF, 0)) := by
  rw [← aw_f]
  exact format_con _ _ (by decide) (by decide) (by decide)
theorem awake06_con : Con Tryz.prog 10 [] (yga true) := by
  refine ybt Tryz.func10 rfl rfl Tryz.ntmps10 Tryz.results10 rfl rfl ?_
  (repeat (first | refine zI ?_ | refine zL ?_ | refine zC ?_ | refine yaf ?_ | refine yae ?_ | refine zR ?_ | refine zD ?_ | refine zK ?_ | refine zB ?_ | refine zA ?_ | refine zS ?_ | refine zU ?_ | refine zV ?_ | refine zF ?_ | with_reducible refine yab ?_ | with_reducible refine yad ?_ | refine yaa ?_ | refine yac ?_ | refine yag ?_ | refine zT ?_ | refine zE ?_ | refine zX ?_ | refine yal rfl rfl aw_pcon rfl rfl ?_ | refine yal rfl rfl aw_fcon rfl rfl ?_))
  refine L_true 20 rfl (by simp) ?_
  (repeat (first | refine zI ?_ | refine zL ?_ | refine zC ?_ | refine yaf ?_ | refine yae ?_ | refine zR ?_ | refine zD ?_ | refine zK ?_ | refine zB ?_ | refine zA ?_ | refine zS ?_ | refine zU ?_ | refine zV ?_ | refine zF ?_ | with_reducible refine yab ?_ | with_reducible refine yad ?_ | refine yaa ?_ | refine yac ?_ | refine yag ?_ | refine zT ?_ | refine zE ?_ | refine zX ?_))
  refine L_true 24 rfl (by simp) ?_
  (repeat (first | refine zI ?_ | refine zL ?_ | refine zC ?_ | refine yaf ?_ | refine yae ?_ | refine zR ?_ | refine zD ?_ | refine zK ?_ | refine zB ?_ | refine zA ?_ | refine zS ?_ | refine zU ?_ | refine zV ?_ | refine zF ?_ | with_reducible refine yab ?_ | with_reducible refine yad ?_ | refine yaa ?_ | refine yac ?_ | refine yag ?_ | refine zT ?_ | refine zE ?_ | refine zX ?_))
  refine L_true 29 rfl (by simp [awE]) ?_
  (repeat (first | refine zI ?_ | refine zL ?_ | refine zC ?_ | refine yaf ?_ | refine yae ?_ | refine zR ?_ | refine zD ?_ | refine zK ?_ | refine zB ?_ | refine zA ?_ | refine zS ?_ | refine zU ?_ | refine zV ?_ | refine zF ?_ | with_reducible refine yab ?_ | with_reducible refine yad ?_ | refine yaa ?_ | refine yac ?_ | refine yag ?_ | refine zT ?_ | refine zE ?_ | refine zX ?_))
  refine ybd tok rfl rfl rfl (by decide) (row := [i64 33, i64 0]) rfl rfl rfl ?_
  (repeat (first | refine zI ?_ | refine zL ?_ | refine zC ?_ | refine yaf ?_ | refine yae ?_ | refine zR ?_ | refine zD ?_ | refine zK ?_ | refine zB ?_ | refine zA ?_ | refine zS ?_ | refine zU ?_ | refine zV ?_ | refine zF ?_ | with_reducible refine yab ?_ | with_reducible refine yad ?_ | refine yaa ?_ | refine yac ?_ | refine yag ?_ | refine zT ?_ | refine zE ?_ | refine zX ?_))
  refine yau ?_; refine ⟨_, rfl, ?_⟩
  exact ybu (beq_self_eq_true (ba awF).toList)
end Go.Proofs.YtcpgpiabeimefaaGreatDoor
set_option linter.unusedVariables false
set_option maxRecDepth 100000
set_option maxHeartbeats 4000000
namespace Go.Proofs.YtcpgpiabeimefaaGreatDoor
open Go.ChangeShapes Go.WideShapes Go.RowKit
theorem fairE_spec {e : List Tm} {names : List Bs} (h : fairE e names = true) : e.length ≤ 250 ∧ (names.length ≤ 10 ∧ ∀ w ∈ names, w.length ≤ 40) ∧ ydw nmW names = true ∧ ycp e names.length = true := by
  simp only [fairE, Bool.and_eq_true, decide_eq_true_eq] at h
  exact ⟨h.1.1.1, lightN_spec h.1.1.2, h.1.2, h.2⟩
theorem ft_len {e : List Tm} {names : List Bs} (hg : ydw nmW names = true) (hv : ycp e names.length = true) (al : Bool) : (ydn al names e).length ≤ 6798 := by
  have := formatT_len nmW_names hg hv al
  omega
theorem fmt_good {e : List Tm} {names : List Bs} (he : e.length ≤ 250) (h1 : names.length ≤ 10) (h2 : ∀ w ∈ names, w.length ≤ 40) (hg : ydw nmW names = true) (hv : ycp e names.length = true) : Con Tryz.prog 15 [ybc e, ybe names] (formatA (ydn false names e, 0)) := by
  have := format_con e names (by omega) (by omega) (fun w hw => by have := h2 w hw; omega)
  rwa [formatX_good hg hv] at this
theorem parse_good {e : List Tm} {names : List Bs} (h1 : names.length ≤ 10) (h2 : ∀ w ∈ names, w.length ≤ 40) (hg : ydw nmW names = true) (hv : ycp e names.length = true) (al : Bool) (n : Nat) (hn : n ≤ 100) : Con Tryz.prog 11 [yff (ba (brkN n (ydn al names e))), ybe names] (parseA (e, 0, 0)) := by
  have hl := ft_len hg hv al
  have := parse_con (ba (brkN n (ydn al names e))) names (by rw [yaw, brkN_len]; omega) (by omega) (fun w hw => by have := h2 w hw; omega)
  rwa [parseX_format nmW_names hg hv al n hn] at this
theorem ba_appE (a b : Bs) : ba a ++ ba b = ba (a ++ b) := by
  rw [← ba_bl (ba a ++ ba b)]
  congr 1
section
variable {H : Type} {enc : TypeId × Value → H} {w : World} {v : Value} {base : Nat} {d : DataW H} {ps : List MemPlace}
def NamesOk (w : World) (v : Value) (l : List Bs) : Prop := Seq (fun cs (x : Bs) => cs = [.string (ba x)]) 1 w v l
theorem open_names (hv : Value.okWide Tryz.prog w .any base 22 v) (h : DataW.Trod enc Tryz.prog w 0 (fun _ => true) true 22 v d ps) : ∃ l, NamesOk w v l := by
  refine open_seq_arg (R := fun cs (x : Bs) => cs = [.string (ba x)]) Tryz.underlying22 (by kernel_rfl) (Nat.succ_pos 0) (fun cs h => ?_) hv h
  obtain ⟨s, hs, _⟩ := rd_string Tryz.underlying9 h
  exact ⟨bl s, by rw [hs, ba_bl]⟩
theorem names_rel {lv : Live} {l : List Bs} (h : NamesOk w v l) : Rel (okW w) w lv (ybe l) v :=
  rel_of_seq h (fun _ => rfl) (fun x c hc => by simp at hc; subst hc; rfl) fun x _ cs hc => by
    subst hc
    exact relAll_cons (.v _) relAll_nil
theorem terms_relE {lv : Live} {l : List Tm} (h : yfp w v l) : Rel (okW w) w lv (ybc l) v :=
  rel_plain (g := fun t : Tm => [.int .i64 t.1, .int .i64 t.2]) (fun _ => rfl) (fun x u hu => by simp at hu; rcases hu with rfl | rfl <;> rfl) h
end
end Go.Proofs.YtcpgpiabeimefaaGreatDoor
set_option linter.unusedVariables false
set_option maxRecDepth 100000
set_option maxHeartbeats 4000000
namespace Go.Proofs.YtcpgpiabeimefaaGreatDoor
open Go.RowKit
theorem str_numsE (n : Nat) : strOfNums [(48 : Int) + (n : Nat)] = ba [UInt8.ofNat (48 + n)] := by
  unfold strOfNums ba
  simp only [List.map_cons, List.map_nil]
  congr 4
theorem str_eqE {a b : ByteArray} (h : a = b) : AV.v (.string a) = yff b := by rw [h]; rfl
theorem yem {h : Nat → Option LObj} {x y : AV} (e : x = y) : Frz h x y := e ▸ Frz.pure
theorem decimal06_con (v : Nat) (hv : v ≤ 2000000000) : Con Tryz.prog 70 [i64 v] (yff (ba (dec v))) := by
  refine ybt Tryz.func70 rfl rfl Tryz.ntmps70 Tryz.results70 rfl rfl ?_
  have hlen := dec_len 10 v (by omega) (by omega)
  have hm : ((v : Nat) : Int).tmod 10 = ((v % 10 : Nat) : Int) := rfl
  (repeat (first | refine L_u8 tok rfl (by constructor <;> omega) rfl rfl ?_ | refine zI ?_ | refine zL ?_ | refine zC ?_ | refine yaf ?_ | refine yae ?_ | refine zR ?_ | refine zD ?_ | refine zK ?_ | refine zB ?_ | refine zA ?_ | refine zS ?_ | refine zU ?_ | refine zV ?_ | refine zF ?_ | with_reducible refine yab ?_ | with_reducible refine yad ?_ | refine yaa ?_ | refine yac ?_ | refine yag ?_ | refine zT ?_ | refine zE ?_ | refine zX ?_ | refine L_b2s tok rfl rfl rfl rfl rfl rfl ?_))
  refine yjj (α := Nat × Bs) (fun q => [(0, i64 q.1), (3, yff (ba q.2))]) (fun q => []) (fun q => q.1) (fun q => q.1 ≤ v ∧ dec v = (if q.1 < 10 then [] else dec (q.1 / 10)) ++ q.2) (v, [UInt8.ofNat (48 + v % 10)]) ⟨Nat.le_refl _, ?_⟩ ?_ (by first | exact yar | exact yak rfl yar | exact yak rfl (yak rfl yar) | exact yak rfl (yak rfl (yak rfl yar)) | exact yak rfl (yak rfl (yak rfl (yak rfl yar)))) ?_
  · simp only
    by_cases h : v < 10
    · rw [yfr h, if_pos h, Nat.mod_eq_of_lt h]; rfl
    · rw [dec_big h, if_neg h]
  · refine ybm rfl (ybm (some_av rfl ?_) yca)
    rw [hm, str_numsE]; rfl
  rintro ⟨n, s⟩ ⟨hn, hs⟩
  simp only at hn hs
  have hsl : s.length ≤ 10 := by
    have := congrArg List.length hs
    rw [List.length_append] at this
    omega
  (repeat (first | refine zI ?_ | refine zL ?_ | refine zC ?_ | refine yaf ?_ | refine yae ?_ | refine zR ?_ | refine zD ?_ | refine zK ?_ | refine zB ?_ | refine zA ?_ | refine zS ?_ | refine zU ?_ | refine zV ?_ | refine zF ?_ | with_reducible refine yab ?_ | with_reducible refine yad ?_ | refine yaa ?_ | refine yac ?_ | refine yag ?_ | refine zT ?_ | refine zE ?_ | refine zX ?_))
  refine yaq rfl (fun h => ?_) (fun h => ?_)
  · simp at h
    have hq : ((((n, s).1 : Nat) : Int).tdiv 10) = ((n / 10 : Nat) : Int) := rfl
    have hr : ((((n, s).1 : Nat) : Int).tdiv 10).tmod 10 = ((n / 10 % 10 : Nat) : Int) := rfl
    (repeat (first | refine L_u8 tok rfl (by constructor <;> omega) rfl rfl ?_ | refine zI ?_ | refine zL ?_ | refine zC ?_ | refine yaf ?_ | refine yae ?_ | refine zR ?_ | refine zD ?_ | refine zK ?_ | refine zB ?_ | refine zA ?_ | refine zS ?_ | refine zU ?_ | refine zV ?_ | refine zF ?_ | with_reducible refine yab ?_ | with_reducible refine yad ?_ | refine yaa ?_ | refine yac ?_ | refine yag ?_ | refine zT ?_ | refine zE ?_ | refine zX ?_ | refine L_b2s tok rfl rfl rfl rfl rfl rfl ?_))
    refine L_same 19 (y := yff (ba [UInt8.ofNat (48 + n / 10 % 10)])) rfl (by rw [hr, str_numsE]; rfl) ?_
    (repeat (first | refine zI ?_ | refine zL ?_ | refine zC ?_ | refine yaf ?_ | refine yae ?_ | refine zR ?_ | refine zD ?_ | refine zK ?_ | refine zB ?_ | refine zA ?_ | refine zS ?_ | refine zU ?_ | refine zV ?_ | refine zF ?_ | with_reducible refine yab ?_ | with_reducible refine yad ?_ | refine yaa ?_ | refine yac ?_ | refine yag ?_ | refine zT ?_ | refine zE ?_ | refine zX ?_ | refine yec rfl rfl (by rw [yaw, yaw]; simp; omega) rfl rfl ?_))
    refine rnd (n / 10, UInt8.ofNat (48 + n / 10 % 10) :: s) ⟨by simp only; omega, ?_⟩ (by simp only; omega) ?_ (by first | exact yar | exact yak rfl yar | exact yak rfl (yak rfl yar) | exact yak rfl (yak rfl (yak rfl yar)) | exact yak rfl (yak rfl (yak rfl (yak rfl yar))))
    · simp only
      rw [hs, if_neg (by omega)]
      by_cases h2 : n / 10 < 10
      · rw [yfr h2, if_pos h2, Nat.mod_eq_of_lt h2]; rfl
      · rw [dec_big h2, if_neg h2]; simp
    · refine ybm rfl (ybm (some_av rfl (str_eqE ?_)) yca)
      rw [ba_appE]; rfl
  · simp at h
    (repeat (first | refine zI ?_ | refine zL ?_ | refine zC ?_ | refine yaf ?_ | refine yae ?_ | refine zR ?_ | refine zD ?_ | refine zK ?_ | refine zB ?_ | refine zA ?_ | refine zS ?_ | refine zU ?_ | refine zV ?_ | refine zF ?_ | with_reducible refine yab ?_ | with_reducible refine yad ?_ | refine yaa ?_ | refine yac ?_ | refine yag ?_ | refine zT ?_ | refine zE ?_ | refine zX ?_))
    refine yau ?_; refine ⟨_, rfl, ?_⟩
    refine yem ?_
    rw [hs, if_pos (by omega)]
    rfl
theorem rlevel_con (op : Int) (hop : op ≤ 43) : Con Tryz.prog 69 [i64 op] (i64 ((ydo op : Nat) + 1 : Int)) := by
  by_cases h : op = 43 ∨ op = 42 ∨ op = 41 ∨ op = 35 ∨ op = 36 ∨ op = 37 ∨ op = 38 ∨ op = 39 ∨ op = 40 ∨ op = 33 ∨ op = 34 ∨ op = 30 ∨ op = 31 ∨ op = 32 ∨ op = 18 ∨ op = 19
  · rcases h with rfl | rfl | rfl | rfl | rfl | rfl | rfl | rfl | rfl | rfl | rfl | rfl | rfl | rfl | rfl | rfl
    all_goals
      refine ybt Tryz.func69 rfl rfl Tryz.ntmps69 Tryz.results69 rfl rfl ?_
      (repeat (first | refine zI ?_ | refine zL ?_ | refine zC ?_ | refine yaf ?_ | refine yae ?_ | refine zR ?_ | refine zD ?_ | refine zK ?_ | refine zB ?_ | refine zA ?_ | refine zS ?_ | refine zU ?_ | refine zV ?_ | refine zF ?_ | with_reducible refine yab ?_ | with_reducible refine yad ?_ | refine yaa ?_ | refine yac ?_ | refine yag ?_ | refine zT ?_ | refine zE ?_ | refine zX ?_))
      refine yau ?_; refine ⟨_, rfl, ?_⟩
      exact ygt (by decide)
  simp only [not_or] at h
  have e : ydo op = 7 := levO_7 (by omega)
  rw [e]
  refine ybt Tryz.func69 rfl rfl Tryz.ntmps69 Tryz.results69 rfl rfl ?_
  iterate 3 ((repeat (first | refine zI ?_ | refine zL ?_ | refine zC ?_ | refine yaf ?_ | refine yae ?_ | refine zR ?_ | refine zD ?_ | refine zK ?_ | refine zB ?_ | refine zA ?_ | refine zS ?_ | refine zU ?_ | refine zV ?_ | refine zF ?_ | with_reducible refine yab ?_ | with_reducible refine yad ?_ | refine yaa ?_ | refine yac ?_ | refine yag ?_ | refine zT ?_ | refine zE ?_ | refine zX ?_)); refine yaq rfl (fun h2 => absurd h2 (by simp; omega)) (fun _ => ?_))
  (repeat (first | refine zI ?_ | refine zL ?_ | refine zC ?_ | refine yaf ?_ | refine yae ?_ | refine zR ?_ | refine zD ?_ | refine zK ?_ | refine zB ?_ | refine zA ?_ | refine zS ?_ | refine zU ?_ | refine zV ?_ | refine zF ?_ | with_reducible refine yab ?_ | with_reducible refine yad ?_ | refine yaa ?_ | refine yac ?_ | refine yag ?_ | refine zT ?_ | refine zE ?_ | refine zX ?_))
  refine ych 15 rfl (fun h2 => absurd h2 (by simp; omega)) (fun _ => ?_)
  (repeat (first | refine zI ?_ | refine zL ?_ | refine zC ?_ | refine yaf ?_ | refine yae ?_ | refine zR ?_ | refine zD ?_ | refine zK ?_ | refine zB ?_ | refine zA ?_ | refine zS ?_ | refine zU ?_ | refine zV ?_ | refine zF ?_ | with_reducible refine yab ?_ | with_reducible refine yad ?_ | refine yaa ?_ | refine yac ?_ | refine yag ?_ | refine zT ?_ | refine zE ?_ | refine zX ?_))
  refine ych 22 rfl (fun h2 => absurd h2 (by simp; omega)) (fun _ => ?_)
  (repeat (first | refine zI ?_ | refine zL ?_ | refine zC ?_ | refine yaf ?_ | refine yae ?_ | refine zR ?_ | refine zD ?_ | refine zK ?_ | refine zB ?_ | refine zA ?_ | refine zS ?_ | refine zU ?_ | refine zV ?_ | refine zF ?_ | with_reducible refine yab ?_ | with_reducible refine yad ?_ | refine yaa ?_ | refine yac ?_ | refine yag ?_ | refine zT ?_ | refine zE ?_ | refine zX ?_))
  refine yaq rfl (fun h2 => absurd h2 (by simp; omega)) (fun _ => ?_)
  (repeat (first | refine zI ?_ | refine zL ?_ | refine zC ?_ | refine yaf ?_ | refine yae ?_ | refine zR ?_ | refine zD ?_ | refine zK ?_ | refine zB ?_ | refine zA ?_ | refine zS ?_ | refine zU ?_ | refine zV ?_ | refine zF ?_ | with_reducible refine yab ?_ | with_reducible refine yad ?_ | refine yaa ?_ | refine yac ?_ | refine yag ?_ | refine zT ?_ | refine zE ?_ | refine zX ?_))
  refine ych 29 rfl (fun h2 => absurd h2 (by simp; omega)) (fun _ => ?_)
  (repeat (first | refine zI ?_ | refine zL ?_ | refine zC ?_ | refine yaf ?_ | refine yae ?_ | refine zR ?_ | refine zD ?_ | refine zK ?_ | refine zB ?_ | refine zA ?_ | refine zS ?_ | refine zU ?_ | refine zV ?_ | refine zF ?_ | with_reducible refine yab ?_ | with_reducible refine yad ?_ | refine yaa ?_ | refine yac ?_ | refine yag ?_ | refine zT ?_ | refine zE ?_ | refine zX ?_))
  refine ych 36 rfl (fun h2 => absurd h2 (by simp; omega)) (fun _ => ?_)
  (repeat (first | refine zI ?_ | refine zL ?_ | refine zC ?_ | refine yaf ?_ | refine yae ?_ | refine zR ?_ | refine zD ?_ | refine zK ?_ | refine zB ?_ | refine zA ?_ | refine zS ?_ | refine zU ?_ | refine zV ?_ | refine zF ?_ | with_reducible refine yab ?_ | with_reducible refine yad ?_ | refine yaa ?_ | refine yac ?_ | refine yag ?_ | refine zT ?_ | refine zE ?_ | refine zX ?_))
  refine yaq rfl (fun h2 => absurd h2 (by simp; omega)) (fun _ => ?_)
  (repeat (first | refine zI ?_ | refine zL ?_ | refine zC ?_ | refine yaf ?_ | refine yae ?_ | refine zR ?_ | refine zD ?_ | refine zK ?_ | refine zB ?_ | refine zA ?_ | refine zS ?_ | refine zU ?_ | refine zV ?_ | refine zF ?_ | with_reducible refine yab ?_ | with_reducible refine yad ?_ | refine yaa ?_ | refine yac ?_ | refine yag ?_ | refine zT ?_ | refine zE ?_ | refine zX ?_))
  refine yau ?_; refine ⟨_, rfl, ?_⟩
  exact ygt rfl
def wordL : List Bs := [[], [], [116, 114, 117, 101], [102, 97, 108, 115, 101], [110, 111, 110, 101], [], [110], [105, 100, 115], [105, 100], [100, 101, 103], [114, 111, 111, 116], [113], [], [113, 46, 105, 100], [113, 46, 100, 101, 103], [113, 46, 114, 111, 111, 116], [113, 46, 119, 101, 105, 103, 104, 116], [113, 46, 98, 97, 99, 107], [45], [33]] ++ ykc ++ ykk ++ [[]]
theorem word_con (op : Int) (h0 : 0 ≤ op) (w : Bs) (hw : wordL[op.toNat]? = some w) : Con Tryz.prog 71 [i64 op] (yff (ba w)) := by
  refine ybt Tryz.func71 rfl rfl Tryz.ntmps71 Tryz.results71 rfl rfl ?_
  (repeat (first | refine zI ?_ | refine zL ?_ | refine zC ?_ | refine yaf ?_ | refine yae ?_ | refine zR ?_ | refine zD ?_ | refine zK ?_ | refine zB ?_ | refine zA ?_ | refine zS ?_ | refine zU ?_ | refine zV ?_ | refine zF ?_ | with_reducible refine yab ?_ | with_reducible refine yad ?_ | refine yaa ?_ | refine yac ?_ | refine yag ?_ | refine zT ?_ | refine zE ?_ | refine zX ?_))
  refine ybd tok rfl rfl rfl h0 (rows := wordL.map fun w => [yff (ba w)]) (yds hw) rfl rfl ?_
  (repeat (first | refine zI ?_ | refine zL ?_ | refine zC ?_ | refine yaf ?_ | refine yae ?_ | refine zR ?_ | refine zD ?_ | refine zK ?_ | refine zB ?_ | refine zA ?_ | refine zS ?_ | refine zU ?_ | refine zV ?_ | refine zF ?_ | with_reducible refine yab ?_ | with_reducible refine yad ?_ | refine yaa ?_ | refine yac ?_ | refine yag ?_ | refine zT ?_ | refine zE ?_ | refine zX ?_))
  refine yau ?_; refine ⟨_, rfl, ?_⟩
  exact Frz.pure
end Go.Proofs.YtcpgpiabeimefaaGreatDoor
set_option linter.unusedVariables false
set_option maxRecDepth 100000
set_option maxHeartbeats 4000000
namespace Go.Proofs.YtcpgpiabeimefaaGreatDoor
open Go.RowKit
section
variable {P : Program} {N : Nat} {ops : Array Oper} {lf : Oper → Bool} {Q : SS → Prop} {t : List (Nat × AV)} {h : List (Nat × Option LObj)} {rest : List Oper} {d : Nat} {ty : TypeId} {pos : String} {af : Array Edge} {gd : Option (Nat × Bool)}
theorem ydi {x y : Operand} {a b : Bs} {tx ty' : TypeId} (hx : evF (ybb t) x = some (yff (ba a))) (hy : evF (ybb t) y = some (yff (ba b))) (hb : a.length + b.length ≤ 1000000000)
    (hw : yaz ops (ybb t) ⟨some d, .binOp .add tx x y ty', ty, pos, af, gd⟩ = some true) (hd : Nat.blt d N = true) (k : Lex P N ops lf Q rest (S ((d, yff (ba (a ++ b))) :: t) h)) : Lex P N ops lf Q (⟨some d, .binOp .add tx x y ty', ty, pos, af, gd⟩ :: rest) (S t h) := by
  refine yec hx hy (by rw [yaw, yaw]; omega) hw hd ?_
  rw [ba_appE]
  exact k
end
theorem raggr_con (op : Int) : Con Tryz.prog 73 [i64 op] (yga (yhk op)) :=
  ydq ⟨_, Tryz.func73, rfl, rfl⟩ fun w us ok hok hr => by
    obtain ⟨u, rfl, h1⟩ := relAll1 hr
    cases h1
    exact (raggregate_any op w).mono fun e w' ⟨h1, h2⟩ => ⟨h1, h2 ▸ Below.refl _ _⟩
theorem yfb (op : Int) : Con Tryz.prog 37 [i64 op] (i64 (ar op)) :=
  ydq ⟨_, Tryz.func37, rfl, rfl⟩ fun w us ok hok hr => by
    obtain ⟨u, rfl, h1⟩ := relAll1 hr
    cases h1
    exact (rarity_any op w).mono fun e w' ⟨h1, h2⟩ => ⟨h1, h2 ▸ Below.refl _ _⟩
theorem rend_con (l : List Tm) (k : Nat) (E : Ex) (r : List Tm) (hl : l.length ≤ 1000) (hk : k ≤ 1000) (hE : l.drop k = E.fl ++ r) (ho : E.ok) : Con Tryz.prog 36 [ybc l, i64 k] (i64 ((k + E.fl.length : Nat) : Int)) :=
  ydq ⟨_, Tryz.func36, rfl, rfl⟩ fun w us ok hok hr => by
    obtain ⟨u, v, rfl, h1, h2⟩ := relAll2 hr
    cases h2
    have e : yim 1 k l = ((k + E.fl.length : Nat) : Int) := by
      unfold yim
      rw [hE, endN_fl E ho 0 r, endN_zero]
      simp
    rw [← e]
    exact (rend_at u l k w hl (Lib.hid (terms_of_rel h1 hok)) hk).mono fun e w' ⟨h1, h2⟩ => ⟨h1, h2 ▸ Below.refl _ _⟩
def flX (Xs : List Ex) : List Tm := Xs.flatMap Ex.fl
theorem flX_next {Xs : List Ex} {i : Nat} {X : Ex} (h : Xs[i]? = some X) : flX (Xs.take (i + 1)) = flX (Xs.take i) ++ X.fl := by
  unfold flX; rw [take_next h]; simp
theorem flX_split {Xs : List Ex} {i : Nat} {X : Ex} (h : Xs[i]? = some X) : flX Xs = flX (Xs.take i) ++ (X.fl ++ flX (Xs.drop (i + 1))) := by
  have hi := (List.getElem?_eq_some_iff.1 h).1
  have e : Xs = Xs.take i ++ X :: Xs.drop (i + 1) := by
    rw [← (List.getElem?_eq_some_iff.1 h).2, List.getElem_cons_drop, List.take_append_drop]
  unfold flX
  conv => lhs; rw [e]
  simp
theorem roperand_con (l : List Tm) (p : Nat) (E : Ex) (Xs : List Ex) (t : Tm) (r r1 : List Tm) (hl : l.length ≤ 1000) (hE : l.drop p = E.fl ++ r) (ho : E.ok) (hA : l.drop p = t :: (flX Xs ++ r1)) (hX : ∀ X ∈ Xs, X.ok) (har : Xs.length < ar t.1) : Con Tryz.prog 38 [ybc l, i64 p, i64 (Xs.length : Nat)] (i64 ((p + 1 + (flX Xs).length : Nat) : Int)) := by
  have hlen := congrArg List.length hA
  rw [List.length_drop] at hlen
  simp only [List.length_cons, List.length_append] at hlen
  have hpt : l[p]? = some t := by
    have := congrArg (fun l => l[0]?) hA
    simpa using this
  have hd : l.drop (p + 1) = flX Xs ++ r1 := by rw [← List.tail_drop, hA]; rfl
  have h1 := rend_con l p E r hl (by omega) hE ho
  have hxl : Xs.length ≤ 3 := by have := ar_bd t.1; omega
  refine ybt Tryz.func38 rfl rfl Tryz.ntmps38 Tryz.results38 rfl rfl ?_
  (repeat (first | refine zI ?_ | refine zL ?_ | refine zC ?_ | refine yaf ?_ | refine yae ?_ | refine zR ?_ | refine zD ?_ | refine zK ?_ | refine zB ?_ | refine zA ?_ | refine zS ?_ | refine zU ?_ | refine zV ?_ | refine zF ?_ | with_reducible refine yab ?_ | with_reducible refine yad ?_ | refine yaa ?_ | refine yac ?_ | refine yag ?_ | refine zT ?_ | refine zE ?_ | refine zX ?_ | refine yal rfl rfl h1 rfl rfl ?_))
  refine ych 13 rfl (fun h9 => absurd h9 (by simp; omega)) (fun _ => ?_)
  (repeat (first | refine zI ?_ | refine zL ?_ | refine zC ?_ | refine yaf ?_ | refine yae ?_ | refine zR ?_ | refine zD ?_ | refine zK ?_ | refine zB ?_ | refine zA ?_ | refine zS ?_ | refine zU ?_ | refine zV ?_ | refine zF ?_ | with_reducible refine yab ?_ | with_reducible refine yad ?_ | refine yaa ?_ | refine yac ?_ | refine yag ?_ | refine zT ?_ | refine zE ?_ | refine zX ?_))
  refine ych 17 rfl (fun h9 => absurd h9 (by simp)) (fun _ => ?_)
  (repeat (first | refine zI ?_ | refine zL ?_ | refine zC ?_ | refine yaf ?_ | refine yae ?_ | refine zR ?_ | refine zD ?_ | refine zK ?_ | refine zB ?_ | refine zA ?_ | refine zS ?_ | refine zU ?_ | refine zV ?_ | refine zF ?_ | with_reducible refine yab ?_ | with_reducible refine yad ?_ | refine yaa ?_ | refine yac ?_ | refine yag ?_ | refine zT ?_ | refine zE ?_ | refine zX ?_ | refine ybd tok rfl rfl rfl (by omega) (ycb hpt) rfl rfl ?_ | refine yal rfl rfl (yfb t.1) rfl rfl ?_))
  refine yaq rfl (fun h9 => absurd h9 (by simp; omega)) (fun _ => ?_)
  (repeat (first | refine zI ?_ | refine zL ?_ | refine zC ?_ | refine yaf ?_ | refine yae ?_ | refine zR ?_ | refine zD ?_ | refine zK ?_ | refine zB ?_ | refine zA ?_ | refine zS ?_ | refine zU ?_ | refine zV ?_ | refine zF ?_ | with_reducible refine yab ?_ | with_reducible refine yad ?_ | refine yaa ?_ | refine yac ?_ | refine yag ?_ | refine zT ?_ | refine zE ?_ | refine zX ?_))
  refine yjj (α := Nat) (fun i => [(8, i64 i), (7, i64 ((p + 1 + (flX (Xs.take i)).length : Nat) : Int)), (2, i64 (Xs.length : Nat)), (0, ybc l)]) (fun i => []) (fun i => Xs.length - i) (fun i => i ≤ Xs.length) 0 (by omega) (by (repeat (first | exact yca | refine ybm rfl ?_))) yar ?_
  intro i hi
  (repeat (first | refine zI ?_ | refine zL ?_ | refine zC ?_ | refine yaf ?_ | refine yae ?_ | refine zR ?_ | refine zD ?_ | refine zK ?_ | refine zB ?_ | refine zA ?_ | refine zS ?_ | refine zU ?_ | refine zV ?_ | refine zF ?_ | with_reducible refine yab ?_ | with_reducible refine yad ?_ | refine yaa ?_ | refine yac ?_ | refine yag ?_ | refine zT ?_ | refine zE ?_ | refine zX ?_))
  refine yaq rfl (fun h2 => ?_) (fun h2 => ?_)
  · have h2 : i < Xs.length := by simpa using h2
    obtain ⟨X, hXi⟩ := getN h2
    have hs := flX_split hXi
    have hlx := congrArg List.length hs
    simp only [List.length_append] at hlx
    have hq : l.drop (p + 1 + (flX (Xs.take i)).length) = X.fl ++ (flX (Xs.drop (i + 1)) ++ r1) := by
      rw [← List.drop_drop, hd, hs]
      simp
    have h3 := rend_con l _ X _ hl (by omega) hq (hX X (List.mem_of_getElem? hXi))
    (repeat (first | refine zI ?_ | refine zL ?_ | refine zC ?_ | refine yaf ?_ | refine yae ?_ | refine zR ?_ | refine zD ?_ | refine zK ?_ | refine zB ?_ | refine zA ?_ | refine zS ?_ | refine zU ?_ | refine zV ?_ | refine zF ?_ | with_reducible refine yab ?_ | with_reducible refine yad ?_ | refine yaa ?_ | refine yac ?_ | refine yag ?_ | refine zT ?_ | refine zE ?_ | refine zX ?_ | refine yal rfl rfl h3 rfl rfl ?_))
    refine rnd (i + 1) (by omega) (by omega) ?_ yar
    refine ybm rfl (ybm (some_av rfl (i64_eq ?_)) (by (repeat (first | exact yca | refine ybm rfl ?_))))
    rw [flX_next hXi, List.length_append]
    omega
  · have h2 : Xs.length ≤ i := by simpa using h2
    (repeat (first | refine zI ?_ | refine zL ?_ | refine zC ?_ | refine yaf ?_ | refine yae ?_ | refine zR ?_ | refine zD ?_ | refine zK ?_ | refine zB ?_ | refine zA ?_ | refine zS ?_ | refine zU ?_ | refine zV ?_ | refine zF ?_ | with_reducible refine yab ?_ | with_reducible refine yad ?_ | refine yaa ?_ | refine yac ?_ | refine yag ?_ | refine zT ?_ | refine zE ?_ | refine zX ?_))
    refine yau ?_; refine ⟨_, rfl, ?_⟩
    exact ygt (by rw [List.take_of_length_le h2])
def yjc (es : List Tm) (names : List Bs) (E : Ex) : Prop := ∀ (k : Nat), AtE es k E → Con Tryz.prog 35 [ybc es, i64 k, ybe names] (yff (ba (yax false names E)))
theorem ar_le {op : Int} (h : 0 ≤ ar op) : op ≤ 43 := by unfold ar at h; (repeat' split at h) <;> omega
theorem opE_le {E : Ex} (h : E.ok) : E.op ≤ 43 := by
  refine ar_le ?_
  cases E with
  | lf t => have h : ar t.1 = 0 := h; show 0 ≤ ar t.1; omega
  | un t a => have := h.1; show 0 ≤ ar t.1; omega
  | bi t a b => have := h.1; show 0 ≤ ar t.1; omega
  | tr t a b c => have := h.1; show 0 ≤ ar t.1; omega
section
variable {es : List Tm} {names : List Bs}
theorem fl_head (E : Ex) : ∃ r v, E.fl = (E.op, v) :: r := by cases E <;> exact ⟨_, _, rfl⟩
theorem bracketed_con {E : Ex} (hn : ∀ w ∈ names, w.length ≤ 24) (hes : es.length ≤ 1000) (hE : E.ok) (ha : ∀ x ∈ E.fl, yep names.length x = true) (hT : yjc es names E) (k : Nat) (hat : AtE es k E) (l : Nat) (lev : Int) (hlev : lev = l + 1) : Con Tryz.prog 72 [ybc es, i64 k, i64 lev, ybe names] (yff (ba (brT (ybf l E) (yax false names E)))) := by
  obtain ⟨r, v, hfl⟩ := fl_head E
  have hk := hat.head hfl
  have hbd := hat.bound
  have hbl := ykp hn hE ha false
  simp only [brT] at hbl
  refine ybt Tryz.func72 rfl rfl Tryz.ntmps72 Tryz.results72 rfl rfl ?_
  (repeat (first | refine zI ?_ | refine zL ?_ | refine zC ?_ | refine yaf ?_ | refine yae ?_ | refine zR ?_ | refine zD ?_ | refine zK ?_ | refine zB ?_ | refine zA ?_ | refine zS ?_ | refine zU ?_ | refine zV ?_ | refine zF ?_ | with_reducible refine yab ?_ | with_reducible refine yad ?_ | refine yaa ?_ | refine yac ?_ | refine yag ?_ | refine zT ?_ | refine zE ?_ | refine zX ?_ | refine yal rfl rfl (hT k hat) rfl rfl ?_ | refine ybd tok rfl rfl rfl (by omega) (ycb hk) rfl rfl ?_ | refine yal rfl rfl (rlevel_con E.op (opE_le hE)) rfl rfl ?_))
  refine yaq rfl (fun h1 => ?_) (fun h1 => ?_)
  · have h1 : ybf l E = true := by simp at h1; simp [ybf]; omega
    rw [h1]
    (repeat (first | refine zI ?_ | refine zL ?_ | refine zC ?_ | refine yaf ?_ | refine yae ?_ | refine zR ?_ | refine zD ?_ | refine zK ?_ | refine zB ?_ | refine zA ?_ | refine zS ?_ | refine zU ?_ | refine zV ?_ | refine zF ?_ | with_reducible refine yab ?_ | with_reducible refine yad ?_ | refine yaa ?_ | refine yac ?_ | refine yag ?_ | refine zT ?_ | refine zE ?_ | refine zX ?_))
    refine ydi (a := [40]) rfl rfl (by simp; omega) rfl rfl ?_
    (repeat (first | refine zI ?_ | refine zL ?_ | refine zC ?_ | refine yaf ?_ | refine yae ?_ | refine zR ?_ | refine zD ?_ | refine zK ?_ | refine zB ?_ | refine zA ?_ | refine zS ?_ | refine zU ?_ | refine zV ?_ | refine zF ?_ | with_reducible refine yab ?_ | with_reducible refine yad ?_ | refine yaa ?_ | refine yac ?_ | refine yag ?_ | refine zT ?_ | refine zE ?_ | refine zX ?_))
    refine ydi (b := [41]) rfl rfl (by simp; omega) rfl rfl ?_
    (repeat (first | refine zI ?_ | refine zL ?_ | refine zC ?_ | refine yaf ?_ | refine yae ?_ | refine zR ?_ | refine zD ?_ | refine zK ?_ | refine zB ?_ | refine zA ?_ | refine zS ?_ | refine zU ?_ | refine zV ?_ | refine zF ?_ | with_reducible refine yab ?_ | with_reducible refine yad ?_ | refine yaa ?_ | refine yac ?_ | refine yag ?_ | refine zT ?_ | refine zE ?_ | refine zX ?_))
    refine yau ?_; refine ⟨_, rfl, ?_⟩
    exact yem rfl
  · have h1 : ybf l E = false := by simp at h1; simp [ybf]; omega
    rw [h1]
    (repeat (first | refine zI ?_ | refine zL ?_ | refine zC ?_ | refine yaf ?_ | refine yae ?_ | refine zR ?_ | refine zD ?_ | refine zK ?_ | refine zB ?_ | refine zA ?_ | refine zS ?_ | refine zU ?_ | refine zV ?_ | refine zF ?_ | with_reducible refine yab ?_ | with_reducible refine yad ?_ | refine yaa ?_ | refine yac ?_ | refine yag ?_ | refine zT ?_ | refine zE ?_ | refine zX ?_))
    refine yau ?_; refine ⟨_, rfl, ?_⟩
    exact Frz.pure
theorem word_leaf {t : Tm} (hE : ar t.1 = 0) (h1 : t.1 ≠ 1) (h5 : t.1 ≠ 5) (h12 : t.1 ≠ 12) : wordL[t.1.toNat]? = some (ygb names t) := by
  obtain ⟨op, v⟩ := t
  have hb : op = 2 ∨ op = 3 ∨ op = 4 ∨ op = 6 ∨ op = 7 ∨ op = 8 ∨ op = 9 ∨ op = 10 ∨ op = 11 ∨ op = 13 ∨ op = 14 ∨ op = 15 ∨ op = 16 ∨ op = 17 := by
    simp only at hE h1 h5 h12
    unfold ar at hE; (repeat' split at hE) <;> omega
  rcases hb with rfl | rfl | rfl | rfl | rfl | rfl | rfl | rfl | rfl | rfl | rfl | rfl | rfl | rfl <;> rfl
theorem text_lf {t : Tm} (hes : es.length ≤ 1000) (hn : ∀ w ∈ names, w.length ≤ 24) (hE : ar t.1 = 0) (ha : yep names.length t = true) : yjc es names (.lf t) := by
  intro k hat
  have hk := hat.head rfl
  have hlt : k < es.length := (List.getElem?_eq_some_iff.1 hk).1
  have hb : 1 ≤ t.1 ∧ t.1 ≤ 17 := by unfold ar at hE; (repeat' split at hE) <;> omega
  have h7 : ydo t.1 = 7 := levO_7 (by omega)
  have hagg : yhk t.1 = false := by simp only [yhk, decide_eq_false (show ¬ 20 ≤ t.1 by omega), Bool.false_and]
  show Con _ _ _ (yff (ba (ygb names t)))
  refine ybt Tryz.func35 rfl rfl Tryz.ntmps35 Tryz.results35 rfl rfl ?_
  (repeat (first | refine zI ?_ | refine zL ?_ | refine zC ?_ | refine yaf ?_ | refine yae ?_ | refine zR ?_ | refine zD ?_ | refine zK ?_ | refine zB ?_ | refine zA ?_ | refine zS ?_ | refine zU ?_ | refine zV ?_ | refine zF ?_ | with_reducible refine yab ?_ | with_reducible refine yad ?_ | refine yaa ?_ | refine yac ?_ | refine yag ?_ | refine zT ?_ | refine zE ?_ | refine zX ?_ | refine ybd tok rfl rfl rfl (by omega) (ycb hk) rfl rfl ?_ | refine yal rfl rfl (rlevel_con t.1 (by omega)) rfl rfl ?_))
  refine yaq rfl (fun h1 => ?_) (fun h1 => ?_)
  · have h1 : t.1 = 1 := by simpa using h1
    have hv : 0 ≤ t.2 ∧ t.2 ≤ 1073741824 := by simpa [yep, h1] using ha
    have hd := decimal06_con t.2.toNat (by omega)
    rw [Int.toNat_of_nonneg hv.1] at hd
    (repeat (first | refine zI ?_ | refine zL ?_ | refine zC ?_ | refine yaf ?_ | refine yae ?_ | refine zR ?_ | refine zD ?_ | refine zK ?_ | refine zB ?_ | refine zA ?_ | refine zS ?_ | refine zU ?_ | refine zV ?_ | refine zF ?_ | with_reducible refine yab ?_ | with_reducible refine yad ?_ | refine yaa ?_ | refine yac ?_ | refine yag ?_ | refine zT ?_ | refine zE ?_ | refine zX ?_ | refine ybd tok rfl rfl rfl (by omega) (ycb hk) rfl rfl ?_ | refine yal rfl rfl hd rfl rfl ?_))
    refine yau ?_; refine ⟨_, rfl, ?_⟩
    exact yem (by rw [ygb, if_pos h1])
  have h1 : t.1 ≠ 1 := by simpa using h1
  (repeat (first | refine zI ?_ | refine zL ?_ | refine zC ?_ | refine yaf ?_ | refine yae ?_ | refine zR ?_ | refine zD ?_ | refine zK ?_ | refine zB ?_ | refine zA ?_ | refine zS ?_ | refine zU ?_ | refine zV ?_ | refine zF ?_ | with_reducible refine yab ?_ | with_reducible refine yad ?_ | refine yaa ?_ | refine yac ?_ | refine yag ?_ | refine zT ?_ | refine zE ?_ | refine zX ?_))
  refine yaq rfl (fun h5 => ?_) (fun h5 => ?_)
  · have h5 : t.1 = 5 := by simpa using h5
    have hv : 0 ≤ t.2 ∧ t.2 < names.length := by simpa [yep, h5] using ha
    obtain ⟨w, hw⟩ := yin (show t.2.toNat < names.length by omega)
    (repeat (first | refine zI ?_ | refine zL ?_ | refine zC ?_ | refine yaf ?_ | refine yae ?_ | refine zR ?_ | refine zD ?_ | refine zK ?_ | refine zB ?_ | refine zA ?_ | refine zS ?_ | refine zU ?_ | refine zV ?_ | refine zF ?_ | with_reducible refine yab ?_ | with_reducible refine yad ?_ | refine yaa ?_ | refine yac ?_ | refine yag ?_ | refine zT ?_ | refine zE ?_ | refine zX ?_ | refine ybd tok rfl rfl rfl (by omega) (ycb hk) rfl rfl ?_ | refine ybd tok rfl rfl rfl (by omega) (yds hw) rfl rfl ?_))
    refine yau ?_; refine ⟨_, rfl, ?_⟩
    exact yem (by rw [ygb, if_neg h1, if_pos h5, yje, hw]; rfl)
  have h5 : t.1 ≠ 5 := by simpa using h5
  (repeat (first | refine zI ?_ | refine zL ?_ | refine zC ?_ | refine yaf ?_ | refine yae ?_ | refine zR ?_ | refine zD ?_ | refine zK ?_ | refine zB ?_ | refine zA ?_ | refine zS ?_ | refine zU ?_ | refine zV ?_ | refine zF ?_ | with_reducible refine yab ?_ | with_reducible refine yad ?_ | refine yaa ?_ | refine yac ?_ | refine yag ?_ | refine zT ?_ | refine zE ?_ | refine zX ?_))
  refine yaq rfl (fun h12 => ?_) (fun h12 => ?_)
  · have h12 : t.1 = 12 := by simpa using h12
    have hv : 0 ≤ t.2 ∧ t.2 < names.length := by simpa [yep, h12] using ha
    obtain ⟨w, hw⟩ := yin (show t.2.toNat < names.length by omega)
    have hwl := hn w (List.mem_of_getElem? hw)
    (repeat (first | refine zI ?_ | refine zL ?_ | refine zC ?_ | refine yaf ?_ | refine yae ?_ | refine zR ?_ | refine zD ?_ | refine zK ?_ | refine zB ?_ | refine zA ?_ | refine zS ?_ | refine zU ?_ | refine zV ?_ | refine zF ?_ | with_reducible refine yab ?_ | with_reducible refine yad ?_ | refine yaa ?_ | refine yac ?_ | refine yag ?_ | refine zT ?_ | refine zE ?_ | refine zX ?_ | refine ybd tok rfl rfl rfl (by omega) (ycb hk) rfl rfl ?_ | refine ybd tok rfl rfl rfl (by omega) (yds hw) rfl rfl ?_))
    refine ydi (a := [113, 46]) (b := w) rfl rfl (by simp; omega) rfl rfl ?_
    (repeat (first | refine zI ?_ | refine zL ?_ | refine zC ?_ | refine yaf ?_ | refine yae ?_ | refine zR ?_ | refine zD ?_ | refine zK ?_ | refine zB ?_ | refine zA ?_ | refine zS ?_ | refine zU ?_ | refine zV ?_ | refine zF ?_ | with_reducible refine yab ?_ | with_reducible refine yad ?_ | refine yaa ?_ | refine yac ?_ | refine yag ?_ | refine zT ?_ | refine zE ?_ | refine zX ?_))
    refine yau ?_; refine ⟨_, rfl, ?_⟩
    exact yem (by rw [ygb, if_neg h1, if_neg h5, if_neg (by omega), if_pos h12, yje, hw]; rfl)
  have h12 : t.1 ≠ 12 := by simpa using h12
  have hwd := word_con t.1 (by omega) _ (word_leaf (names := names) hE h1 h5 h12)
  (repeat (first | refine zI ?_ | refine zL ?_ | refine zC ?_ | refine yaf ?_ | refine yae ?_ | refine zR ?_ | refine zD ?_ | refine zK ?_ | refine zB ?_ | refine zA ?_ | refine zS ?_ | refine zU ?_ | refine zV ?_ | refine zF ?_ | with_reducible refine yab ?_ | with_reducible refine yad ?_ | refine yaa ?_ | refine yac ?_ | refine yag ?_ | refine zT ?_ | refine zE ?_ | refine zX ?_))
  refine ych 51 rfl (fun h9 => absurd h9 (by simp; omega)) (fun _ => ?_)
  (repeat (first | refine zI ?_ | refine zL ?_ | refine zC ?_ | refine yaf ?_ | refine yae ?_ | refine zR ?_ | refine zD ?_ | refine zK ?_ | refine zB ?_ | refine zA ?_ | refine zS ?_ | refine zU ?_ | refine zV ?_ | refine zF ?_ | with_reducible refine yab ?_ | with_reducible refine yad ?_ | refine yaa ?_ | refine yac ?_ | refine yag ?_ | refine zT ?_ | refine zE ?_ | refine zX ?_))
  refine yaq rfl (fun h9 => absurd h9 (by simp; omega)) (fun _ => ?_)
  (repeat (first | refine zI ?_ | refine zL ?_ | refine zC ?_ | refine yaf ?_ | refine yae ?_ | refine zR ?_ | refine zD ?_ | refine zK ?_ | refine zB ?_ | refine zA ?_ | refine zS ?_ | refine zU ?_ | refine zV ?_ | refine zF ?_ | with_reducible refine yab ?_ | with_reducible refine yad ?_ | refine yaa ?_ | refine yac ?_ | refine yag ?_ | refine zT ?_ | refine zE ?_ | refine zX ?_ | refine yal rfl rfl (raggr_con t.1) rfl rfl ?_))
  refine yaq rfl (fun h9 => absurd h9 (by simp [hagg])) (fun _ => ?_)
  (repeat (first | refine zI ?_ | refine zL ?_ | refine zC ?_ | refine yaf ?_ | refine yae ?_ | refine zR ?_ | refine zD ?_ | refine zK ?_ | refine zB ?_ | refine zA ?_ | refine zS ?_ | refine zU ?_ | refine zV ?_ | refine zF ?_ | with_reducible refine yab ?_ | with_reducible refine yad ?_ | refine yaa ?_ | refine yac ?_ | refine yag ?_ | refine zT ?_ | refine zE ?_ | refine zX ?_))
  refine yaq rfl (fun h9 => absurd h9 (by simp; omega)) (fun _ => ?_)
  (repeat (first | refine zI ?_ | refine zL ?_ | refine zC ?_ | refine yaf ?_ | refine yae ?_ | refine zR ?_ | refine zD ?_ | refine zK ?_ | refine zB ?_ | refine zA ?_ | refine zS ?_ | refine zU ?_ | refine zV ?_ | refine zF ?_ | with_reducible refine yab ?_ | with_reducible refine yad ?_ | refine yaa ?_ | refine yac ?_ | refine yag ?_ | refine zT ?_ | refine zE ?_ | refine zX ?_))
  refine yaq rfl (fun h9 => absurd h9 (by simp; omega)) (fun _ => ?_)
  (repeat (first | refine zI ?_ | refine zL ?_ | refine zC ?_ | refine yaf ?_ | refine yae ?_ | refine zR ?_ | refine zD ?_ | refine zK ?_ | refine zB ?_ | refine zA ?_ | refine zS ?_ | refine zU ?_ | refine zV ?_ | refine zF ?_ | with_reducible refine yab ?_ | with_reducible refine yad ?_ | refine yaa ?_ | refine yac ?_ | refine yag ?_ | refine zT ?_ | refine zE ?_ | refine zX ?_))
  refine yaq rfl (fun h9 => absurd h9 (by simp; omega)) (fun _ => ?_)
  (repeat (first | refine zI ?_ | refine zL ?_ | refine zC ?_ | refine yaf ?_ | refine yae ?_ | refine zR ?_ | refine zD ?_ | refine zK ?_ | refine zB ?_ | refine zA ?_ | refine zS ?_ | refine zU ?_ | refine zV ?_ | refine zF ?_ | with_reducible refine yab ?_ | with_reducible refine yad ?_ | refine yaa ?_ | refine yac ?_ | refine yag ?_ | refine zT ?_ | refine zE ?_ | refine zX ?_ | refine yal rfl rfl hwd rfl rfl ?_))
  refine yau ?_; refine ⟨_, rfl, ?_⟩
  exact Frz.pure
end
end Go.Proofs.YtcpgpiabeimefaaGreatDoor
