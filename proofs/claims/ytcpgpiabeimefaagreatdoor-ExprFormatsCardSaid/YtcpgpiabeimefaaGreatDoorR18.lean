/- Part 18 of the texts under ExprFormats,ExprBracketsEverything: joined, with what it needs alone. -/
import Derived.Shelf.Strings.Builder1
import Derived.Shelf.Small.Strs
import Derived.Shelf.Strconv.Itoa0
import Derived.Shelf.Strconv.Itoa1
import Derived.Shelf.LaysM
import Derived.Shelf.Strconv.Itoa2
import Derived.Shelf.Strconv.Itoa3
import Derived.Shelf.Strings.Search1
import Derived.Shelf.Strings.Prefix
import Derived.Test.YtcpgpiabeimefaaGreatDoorProg
import Derived.Test.YtcpgpiabeimefaaGreatDoorR7
import Derived.Test.YtcpgpiabeimefaaGreatDoorR9
import Derived.Test.YtcpgpiabeimefaaGreatDoorR11
import Derived.Test.YtcpgpiabeimefaaGreatDoorR13
namespace Go.Proofs.YtcpgpiabeimefaaGreatDoor
set_option maxRecDepth 100000
open Go.Shelf
def Tryz.laysM171_ren : Go.Shelf.Ren := ⟨fun | 171 => 104 | 243 => 113 | 246 => 126 | 283 => 129 | 284 => 130 | 285 => 131 | 286 => 132 | 129 => 134 | 317 => 133 | 318 => 135 | 319 => 136 | 320 => 137 | 337 => 138 | 338 => 139 | n => n, fun | 3 => 3 | 9 => 9 | 2 => 2 | 4 => 4 | 171 => 112 | 0 => 0 | 53 => 113 | 37 => 53 | 5 => 5 | 173 => 116 | 212 => 119 | 51 => 120 | 20 => 20 | 213 => 121 | 46 => 122 | 232 => 125 | 233 => 126 | n => n, fun | 17 => 1 | 18 => 2 | 19 => 3 | n => n⟩
theorem Tryz.laysM171 : Go.Proofs.LaysM.n171 Tryz.prog Tryz.laysM171_ren := {
  mixed := by kernel_rfl
  f129 := Tryz.func134.trans (congrArg some (by kernel_rfl))
  f171 := Tryz.func104.trans (congrArg some (by kernel_rfl))
  f243 := Tryz.func113.trans (congrArg some (by kernel_rfl))
  f246 := Tryz.func126.trans (congrArg some (by kernel_rfl))
  f283 := Tryz.func129.trans (congrArg some (by kernel_rfl))
  f284 := Tryz.func130.trans (congrArg some (by kernel_rfl))
  f285 := Tryz.func131.trans (congrArg some (by kernel_rfl))
  f286 := Tryz.func132.trans (congrArg some (by kernel_rfl))
  f317 := Tryz.func133.trans (congrArg some (by kernel_rfl))
  f318 := Tryz.func135.trans (congrArg some (by kernel_rfl))
  f319 := Tryz.func136.trans (congrArg some (by kernel_rfl))
  f320 := Tryz.func137.trans (congrArg some (by kernel_rfl))
  f337 := Tryz.func138.trans (congrArg some (by kernel_rfl))
  f338 := Tryz.func139.trans (congrArg some (by kernel_rfl))
  t0 := Tryz.underlying0
  a0 := Tryz.isAgg0
  z0 := Tryz.sizeOf0
  v0 := Tryz.zeroValue0
  t2 := Tryz.underlying2
  a2 := Tryz.isAgg2
  z2 := Tryz.sizeOf2
  v2 := Tryz.zeroValue2
  t3 := Tryz.underlying3
  a3 := Tryz.isAgg3
  z3 := Tryz.sizeOf3
  v3 := Tryz.zeroValue3
  t4 := Tryz.underlying4
  a4 := Tryz.isAgg4
  z4 := Tryz.sizeOf4
  v4 := Tryz.zeroValue4
  t5 := Tryz.underlying5
  a5 := Tryz.isAgg5
  z5 := Tryz.sizeOf5
  v5 := Tryz.zeroValue5
  t9 := Tryz.underlying9
  a9 := Tryz.isAgg9
  z9 := Tryz.sizeOf9
  v9 := Tryz.zeroValue9
  t20 := Tryz.underlying20
  a20 := Tryz.isAgg20
  z20 := Tryz.sizeOf20
  v20 := Tryz.zeroValue20
  t37 := Tryz.underlying53
  a37 := Tryz.isAgg53
  z37 := Tryz.sizeOf53
  v37 := Tryz.zeroValue53
  t46 := Tryz.underlying122
  a46 := Tryz.isAgg122
  z46 := Tryz.sizeOf122
  v46 := Tryz.zeroValue122
  t51 := Tryz.underlying120
  a51 := Tryz.isAgg120
  z51 := Tryz.sizeOf120
  v51 := Tryz.zeroValue120
  t53 := Tryz.underlying113
  a53 := Tryz.isAgg113
  z53 := Tryz.sizeOf113
  v53 := Tryz.zeroValue113
  t171 := Tryz.underlying112
  a171 := Tryz.isAgg112
  z171 := Tryz.sizeOf112
  v171 := Tryz.zeroValue112
  t173 := Tryz.underlying116
  a173 := Tryz.isAgg116
  z173 := Tryz.sizeOf116
  v173 := Tryz.zeroValue116
  t212 := Tryz.underlying119
  a212 := Tryz.isAgg119
  z212 := Tryz.sizeOf119
  v212 := Tryz.zeroValue119
  t213 := Tryz.underlying121
  a213 := Tryz.isAgg121
  z213 := Tryz.sizeOf121
  t232 := Tryz.underlying125
  a232 := Tryz.isAgg125
  z232 := Tryz.sizeOf125
  v232 := Tryz.zeroValue125
  t233 := Tryz.underlying126
  a233 := Tryz.isAgg126
  z233 := Tryz.sizeOf126
  v233 := Tryz.zeroValue126
  g17 := by kernel_rfl
  g18 := by kernel_rfl
  g19 := by kernel_rfl
  i0 := by kernel_rfl
  i2 := by kernel_rfl
  i3 := by kernel_rfl
  i4 := by kernel_rfl
  i5 := by kernel_rfl
  i9 := by kernel_rfl
  i20 := by kernel_rfl
  i37 := by kernel_rfl
  i46 := by kernel_rfl
  i51 := by kernel_rfl
  i53 := by kernel_rfl
  i171 := by kernel_rfl
  i173 := by kernel_rfl
  i212 := by kernel_rfl
  i232 := by kernel_rfl
  i233 := by kernel_rfl
  m17 := by kernel_rfl
  m18 := by kernel_rfl
  m19 := by kernel_rfl }
open Go.RowKit Go.Sort Go.Lib in
theorem Tryz.strconv_Itoa (n : Int) (h0 : -9223372036854775808 ≤ n) (h1 : n ≤ 9223372036854775807) (w : World) (htab : Lib.TabIs Tryz.prog w "internal/strconv.uint64pow10" .u64 Lib.pow10Tab) :
    Calls Tryz.prog 104 #[.int .i64 n] w fun e w' => e = .returned (.string ⟨(Lib.itoa n).toArray⟩) ∧ ∃ k os, w' = grow (w.drewN k) os := Any.strconv_Itoa Tryz.laysM171 n h0 h1 w htab
end Go.Proofs.YtcpgpiabeimefaaGreatDoor
set_option linter.unusedVariables false
set_option maxRecDepth 100000
set_option maxHeartbeats 4000000
namespace Go.Proofs.YtcpgpiabeimefaaGreatDoor
open Go.RowKit
def bp (used : Bool) (id : Nat) : AV := match used with
  | true => .lp id 0
  | false => .v (.pointer none)
def wrH (used : Bool) (es : List Tm) (names : List Bs) (l : Bs) : List (Nat × Option LObj) := [(1001, some (.tcells 57 [bp used 1001, .ls 1003 1 l.length, ybc es, ybe names])), (1003, some (.tvec 5 (ydc l)))]
theorem pt_builder : Tryz.prog.underlying 52 = some (.pointer 55) := Tryz.underlying52
theorem yhz {u v : Bool} {es : List Tm} {names : List Bs} {l m : Bs} {N : Nat} (hN : Nat.ble N 1001 = true) : ∀ id o, yao (wrH v es names m) id = some o → isC o = true → N ≤ id ∧ ∃ o', yao (wrH u es names l) id = some o' ∧ isC o' = true := by
  intro id o ho hc
  simp only [Nat.ble_eq] at hN
  simp only [wrH, yao] at ho ⊢
  cases h1 : Nat.beq id 1001 with
  | true =>
    have := Nat.eq_of_beq_eq_true h1
    exact ⟨by omega, _, rfl, rfl⟩
  | false =>
    simp only [h1] at ho
    cases h2 : Nat.beq id 1003 with
    | true => simp only [h2, Option.some.injEq] at ho; subst ho; cases hc
    | false => simp only [h2] at ho; cases ho
theorem w_copyCheck_con (u : Bool) (es : List Tm) (names : List Bs) (l : Bs) : yia Tryz.prog 102 [.lp 1001 0] (yao (wrH u es names l)) (.tup []) (yao (wrH true es names l)) := by
  refine ycw tok Tryz.func102 rfl rfl Tryz.ntmps102 Tryz.results102 rfl (yhz rfl) ?_
  show A _ _ _ _ (S _ _)
  cases u
  · (repeat (first | refine zI ?_ | refine zL ?_ | refine zC ?_ | refine yaf ?_ | refine yae ?_ | refine zR ?_ | refine zD ?_ | refine zK ?_ | refine zB ?_ | refine zA ?_ | refine zS ?_ | refine zU ?_ | refine zV ?_ | refine zF ?_ | with_reducible refine yab ?_ | with_reducible refine yad ?_ | refine yaa ?_ | refine yac ?_ | refine yag ?_ | refine zT ?_ | refine zE ?_ | refine zX ?_ | refine yam rfl rfl rfl rfl ?_ | refine ycc (yield_eqlNil pt_builder rfl rfl) rfl rfl ?_))
    refine ycc (yield_toUnsafe (te := 57) (xs := [bp false 1001, .ls 1003 1 l.length, ybc es, ybe names]) (t0 := 55) pt_builder Tryz.underlying109 (by kernel_rfl) rfl rfl (Nat.zero_lt_succ _)) rfl rfl ?_
    (repeat (first | refine zI ?_ | refine zL ?_ | refine zC ?_ | refine yaf ?_ | refine yae ?_ | refine zR ?_ | refine zD ?_ | refine zK ?_ | refine zB ?_ | refine zA ?_ | refine zS ?_ | refine zU ?_ | refine zV ?_ | refine zF ?_ | with_reducible refine yab ?_ | with_reducible refine yad ?_ | refine yaa ?_ | refine yac ?_ | refine yag ?_ | refine zT ?_ | refine zE ?_ | refine zX ?_ | refine yam rfl rfl rfl rfl ?_ | refine ycc (yield_eqlNil pt_builder rfl rfl) rfl rfl ?_ | refine ycc (yield_toUnsafe (t0 := 55) pt_builder Tryz.underlying109 (by kernel_rfl) rfl rfl (Nat.zero_lt_succ _)) rfl rfl ?_ | refine ycc (yield_fromUnsafe (t0 := 55) Tryz.underlying109 pt_builder (by kernel_rfl) rfl rfl (by simp) (by kernel_rfl)) rfl rfl ?_ | refine ycc (yield_noEscape Tryz.func112 (by kernel_rfl) (by kernel_rfl) (by kernel_rfl) (by kernel_rfl) rfl) rfl rfl ?_ | refine L_storeT tok rfl rfl rfl rfl rfl rfl (by simp) rfl rfl rfl ?_))
    exact ⟨_, rfl, ybk _, yba (yak rfl (yak rfl yar))⟩
  · (repeat (first | refine zI ?_ | refine zL ?_ | refine zC ?_ | refine yaf ?_ | refine yae ?_ | refine zR ?_ | refine zD ?_ | refine zK ?_ | refine zB ?_ | refine zA ?_ | refine zS ?_ | refine zU ?_ | refine zV ?_ | refine zF ?_ | with_reducible refine yab ?_ | with_reducible refine yad ?_ | refine yaa ?_ | refine yac ?_ | refine yag ?_ | refine zT ?_ | refine zE ?_ | refine zX ?_ | refine yam rfl rfl rfl rfl ?_ | refine ycc (yield_eqlLp pt_builder rfl rfl rfl) rfl rfl ?_ | refine ycc (yield_neqLp pt_builder (by kernel_rfl) rfl rfl rfl) rfl rfl ?_))
    exact ⟨_, rfl, ybk _, yba (yak rfl (yak rfl yar))⟩

def lfU (o : Oper) : Bool := loudOp o.op || match o.op with
  | .call ⟨.builtin .unsafeString, _, _⟩ => true
  | _ => false
def lfB (o : Oper) : Bool := loudOp o.op || match o.op with
  | .call ⟨.value (.func 66), _, _⟩ => true
  | _ => false
theorem yas (u : Bool) (es : List Tm) (names : List Bs) (l : Bs) (s : ByteArray) (hl : l.length + s.size ≤ 1000000) : yia Tryz.prog 66 [.lp 1001 0, yff s] (yao (wrH u es names l)) (.tup [i64 s.size, .v .nilIface]) (yao (wrH true es names (l ++ bl s))) := by
  refine ycw tok Tryz.func66 rfl rfl Tryz.ntmps66 Tryz.results66 rfl (yhz rfl) ?_
  show A _ _ _ _ (S _ _)
  (repeat (first | refine zI ?_ | refine zL ?_ | refine zC ?_ | refine yaf ?_ | refine yae ?_ | refine zR ?_ | refine zD ?_ | refine zK ?_ | refine zB ?_ | refine zA ?_ | refine zS ?_ | refine zU ?_ | refine zV ?_ | refine zF ?_ | with_reducible refine yab ?_ | with_reducible refine yad ?_ | refine yaa ?_ | refine yac ?_ | refine yag ?_ | refine zT ?_ | refine zE ?_ | refine zX ?_))
  cases u
  all_goals
    first | refine yfl [(1001, 1001), (1003, 1003)] (w_copyCheck_con false es names l) rfl rfl rfl rfl rfl rfl rfl (yak rfl (yak rfl yar)) rfl rfl rfl rfl rfl rfl ?_ | refine yfl [(1001, 1001), (1003, 1003)] (w_copyCheck_con true es names l) rfl rfl rfl rfl rfl rfl rfl (yak rfl (yak rfl yar)) rfl rfl rfl rfl rfl rfl ?_
    (repeat (first | refine zI ?_ | refine zL ?_ | refine zC ?_ | refine yaf ?_ | refine yae ?_ | refine zR ?_ | refine zD ?_ | refine zK ?_ | refine zB ?_ | refine zA ?_ | refine zS ?_ | refine zU ?_ | refine zV ?_ | refine zF ?_ | with_reducible refine yab ?_ | with_reducible refine yad ?_ | refine yaa ?_ | refine yac ?_ | refine yag ?_ | refine zT ?_ | refine zE ?_ | refine zX ?_ | refine yam rfl rfl rfl rfl ?_))
    refine L_appendS tok rfl rfl rfl rfl rfl (by simp [bytesA_len]) rfl (by omega) rfl rfl rfl rfl rfl ?_
    (repeat (first | refine zI ?_ | refine zL ?_ | refine zC ?_ | refine yaf ?_ | refine yae ?_ | refine zR ?_ | refine zD ?_ | refine zK ?_ | refine zB ?_ | refine zA ?_ | refine zS ?_ | refine zU ?_ | refine zV ?_ | refine zF ?_ | with_reducible refine yab ?_ | with_reducible refine yad ?_ | refine yaa ?_ | refine yac ?_ | refine yag ?_ | refine zT ?_ | refine zE ?_ | refine zX ?_ | refine yam rfl rfl rfl rfl ?_ | refine L_storeT tok rfl rfl rfl rfl rfl rfl (by simp) rfl rfl rfl ?_))
    refine yau ?_
    refine ⟨_, rfl, ybk _, yba (yak ?_ (yak ?_ yar))⟩
    · have e : l.length + s.size = (l ++ bl s).length := by simp [bl, ← ByteArray.size_data]
      rw [← e]; rfl
    · have e : ydc (l ++ bl s) = ydc l ++ ydc s.data.toList := by rw [bytesA_app]; rfl
      rw [e]; rfl
theorem w_writeString_K (u : Bool) (es : List Tm) (names : List Bs) (l : Bs) (s : ByteArray) (hl : l.length + s.size ≤ 1000000) : ylj (KD Tryz.prog 66 .returning .returning) [.lp 1001 0, yff s] (yao (wrH u es names l)) (.tup [i64 s.size, .v .nilIface]) (yao (wrH true es names (l ++ bl s))) := by
  refine conKD_of tok .returning Tryz.func66 rfl Tryz.ntmps66 Tryz.results66 rfl (yhz rfl) ?_
  show A _ _ _ _ (S _ _)
  (repeat (first | refine zI ?_ | refine zL ?_ | refine zC ?_ | refine yaf ?_ | refine yae ?_ | refine zR ?_ | refine zD ?_ | refine zK ?_ | refine zB ?_ | refine zA ?_ | refine zS ?_ | refine zU ?_ | refine zV ?_ | refine zF ?_ | with_reducible refine yab ?_ | with_reducible refine yad ?_ | refine yaa ?_ | refine yac ?_ | refine yag ?_ | refine zT ?_ | refine zE ?_ | refine zX ?_))
  cases u
  all_goals
    first | refine yfl [(1001, 1001), (1003, 1003)] (w_copyCheck_con false es names l) rfl rfl rfl rfl rfl rfl rfl (yak rfl (yak rfl yar)) rfl rfl rfl rfl rfl rfl ?_ | refine yfl [(1001, 1001), (1003, 1003)] (w_copyCheck_con true es names l) rfl rfl rfl rfl rfl rfl rfl (yak rfl (yak rfl yar)) rfl rfl rfl rfl rfl rfl ?_
    (repeat (first | refine zI ?_ | refine zL ?_ | refine zC ?_ | refine yaf ?_ | refine yae ?_ | refine zR ?_ | refine zD ?_ | refine zK ?_ | refine zB ?_ | refine zA ?_ | refine zS ?_ | refine zU ?_ | refine zV ?_ | refine zF ?_ | with_reducible refine yab ?_ | with_reducible refine yad ?_ | refine yaa ?_ | refine yac ?_ | refine yag ?_ | refine zT ?_ | refine zE ?_ | refine zX ?_ | refine yam rfl rfl rfl rfl ?_))
    refine L_appendS tok rfl rfl rfl rfl rfl (by simp [bytesA_len]) rfl (by omega) rfl rfl rfl rfl rfl ?_
    (repeat (first | refine zI ?_ | refine zL ?_ | refine zC ?_ | refine yaf ?_ | refine yae ?_ | refine zR ?_ | refine zD ?_ | refine zK ?_ | refine zB ?_ | refine zA ?_ | refine zS ?_ | refine zU ?_ | refine zV ?_ | refine zF ?_ | with_reducible refine yab ?_ | with_reducible refine yad ?_ | refine yaa ?_ | refine yac ?_ | refine yag ?_ | refine zT ?_ | refine zE ?_ | refine zX ?_ | refine yam rfl rfl rfl rfl ?_ | refine L_storeT tok rfl rfl rfl rfl rfl rfl (by simp) rfl rfl rfl ?_))
    refine yau ?_
    refine ⟨_, rfl, ybk _, yba (yak ?_ (yak ?_ yar))⟩
    · have e : l.length + s.size = (l ++ bl s).length := by simp [bl, ← ByteArray.size_data]
      rw [← e]; rfl
    · have e : ydc (l ++ bl s) = ydc l ++ ydc s.data.toList := by rw [bytesA_app]; rfl
      rw [e]; rfl
theorem w_string_con (u : Bool) (es : List Tm) (names : List Bs) (l : Bs) (h0 : l ≠ []) (hl : l.length ≤ 1000000) : yia Tryz.prog 34 [.lp 1001 0] (yao (wrH u es names l)) (yff (ba l)) (yao []) := by
  refine ycw tok Tryz.func34 rfl rfl Tryz.ntmps34 Tryz.results34 rfl (fun id o h => by simp [yao] at h) ?_
  show A _ _ _ _ (S _ _)
  obtain ⟨x, r, rfl⟩ : ∃ x r, l = x :: r := by cases l with | nil => exact absurd rfl h0 | cons x r => exact ⟨x, r, rfl⟩
  (repeat (first | refine zI ?_ | refine zL ?_ | refine zC ?_ | refine yaf ?_ | refine yae ?_ | refine zR ?_ | refine zK ?_ | refine zB ?_ | refine zA ?_ | refine zS ?_ | refine zU ?_ | refine zV ?_ | refine zF ?_ | with_reducible refine yab ?_ | with_reducible refine yad ?_ | refine yaa ?_ | refine yac ?_ | refine yag ?_ | refine zT ?_ | refine zE ?_ | refine zX ?_))
  refine ybs (lf := lfU) mixed (by kernel_rfl) rfl ?_
  (repeat (first | refine zI ?_ | refine zL ?_ | refine zC ?_ | refine yaf ?_ | refine yae ?_ | refine zR ?_ | refine zK ?_ | refine zB ?_ | refine zA ?_ | refine zS ?_ | refine zU ?_ | refine zV ?_ | refine zF ?_ | with_reducible refine yab ?_ | with_reducible refine yad ?_ | refine yaa ?_ | refine yac ?_ | refine yag ?_ | refine zT ?_ | refine zE ?_ | refine zX ?_ | refine yam rfl rfl rfl rfl ?_ | refine L_sliceData rfl rfl (by simp) rfl rfl ?_))
  refine L_unsafeString (l := x :: r) Tryz.underlying88 (by kernel_rfl) rfl rfl rfl (by simp) (by omega) rfl rfl rfl ?_
  (repeat (first | refine zI ?_ | refine zL ?_ | refine zC ?_ | refine yaf ?_ | refine yae ?_ | refine zR ?_ | refine zK ?_ | refine zB ?_ | refine zA ?_ | refine zS ?_ | refine zU ?_ | refine zV ?_ | refine zF ?_ | with_reducible refine yab ?_ | with_reducible refine yad ?_ | refine yaa ?_ | refine yac ?_ | refine yag ?_ | refine zT ?_ | refine zE ?_ | refine zX ?_))
  refine yau ?_
  exact ⟨_, rfl, ybk _, fun id o h => by cases h⟩


theorem w_len_con (u : Bool) (es : List Tm) (names : List Bs) (l : Bs) (hl : l.length ≤ 1000000) : yia Tryz.prog 33 [.lp 1001 0] (yao (wrH u es names l)) (i64 l.length) (yao (wrH u es names l)) := by
  refine ycw tok Tryz.func33 rfl rfl Tryz.ntmps33 Tryz.results33 rfl (yhz rfl) ?_
  show A _ _ _ _ (S _ _)
  (repeat (first | refine zI ?_ | refine zL ?_ | refine zC ?_ | refine yaf ?_ | refine yae ?_ | refine zR ?_ | refine zD ?_ | refine zK ?_ | refine zB ?_ | refine zA ?_ | refine zS ?_ | refine zU ?_ | refine zV ?_ | refine zF ?_ | with_reducible refine yab ?_ | with_reducible refine yad ?_ | refine yaa ?_ | refine yac ?_ | refine yag ?_ | refine zT ?_ | refine zE ?_ | refine zX ?_ | refine yam rfl rfl rfl rfl ?_ | refine L_lenI tok rfl rfl rfl rfl rfl ?_))
  refine yau ?_
  exact ⟨_, rfl, ybk _, yba (yak rfl (yak rfl yar))⟩
theorem itoa_con (n : Int) (h0 : -9223372036854775808 ≤ n) (h1 : n ≤ 9223372036854775807) : Con Tryz.prog 104 [i64 n] (yff (ba (Lib.itoa n))) := by
  refine ⟨⟨_, Tryz.func104, rfl, rfl⟩, rfl, fun ok0 w us hG hok h => ?_⟩
  obtain ⟨u, rfl, h2⟩ := relAll1 h
  cases h2
  refine (Tryz.strconv_Itoa n h0 h1 w hG).mono ?_
  rintro e w' ⟨rfl, k, os, rfl⟩
  refine ⟨_, rfl, .v _, ⟨rfl, rfl, rfl, ?_, fun j hj => ?_⟩⟩
  · show w.heap.size ≤ (w.heap ++ os).size
    rw [Array.size_append]; omega
  · show (w.heap ++ os)[j]? = w.heap[j]?
    rw [Array.getElem?_append_left hj]
end Go.Proofs.YtcpgpiabeimefaaGreatDoor
set_option linter.unusedVariables false
set_option maxRecDepth 100000
set_option maxHeartbeats 4000000
namespace Go.Proofs.YtcpgpiabeimefaaGreatDoor
open Go.RowKit
def keepW1 (y : AV) : Bool := match ment 1003 y with
  | true => false
  | false => match ment 1001 y with
    | false => true
    | true => match y with
      | .lp _ _ => true
      | _ => false
def keepW : List (Nat × AV) → Bool
  | [] => true
  | (_, y) :: t => match keepW1 y with
    | true => keepW t
    | false => false
theorem keep_wr {u : Bool} {es : List Tm} {names : List Bs} {l : Bs} : ∀ {t : List (Nat × AV)}, keepW t = true → ygq [(1001, 1001), (1003, 1003)] (wrH u es names l) t = t
  | [], _ => rfl
  | (x, y) :: t, h => by
    simp only [keepW] at h
    have hk : keepW1 y = true → yjx [(1001, 1001), (1003, 1003)] (wrH u es names l) y = true := by
      intro hy
      simp only [keepW1] at hy
      simp only [yjx, mentAny, yda]
      cases h3 : ment 1003 y with
      | true => rw [h3] at hy; cases hy
      | false =>
        rw [h3] at hy
        cases h1 : ment 1001 y with
        | false => rfl
        | true =>
          simp only [h1] at hy
          cases y with
          | lp j off =>
            have e : j = 1001 := Nat.eq_of_beq_eq_true h1
            subst e
            rfl
          | _ => cases hy
    cases ho : keepW1 y with
    | false => rw [ho] at h; cases h
    | true =>
      rw [ho] at h
      simp only [ygq, hk ho]
      rw [keep_wr h]
theorem renO_wr (u : Bool) (es : List Tm) (names : List Bs) (l : Bs) : yld [(1001, 1001), (1003, 1003)] (wrH u es names l) = wrH u es names l := by cases u <;> rfl
section
variable {N : Nat} {ops : Array Oper} {lf : Oper → Bool} {Q : SS → Prop} {t : List (Nat × AV)} {h : List (Nat × Option LObj)} {rest : List Oper} {d : Nat} {ty : TypeId} {pos : String} {af : Array Edge} {gd : Option (Nat × Bool)}
theorem yhg {u u' : Bool} {es : List Tm} {names : List Bs} {l l' : Bs} {g : Operand} {args : List Operand} {ats : Array TypeId} {f : FuncId} {args0 : List AV} {r : AV} {h' : List (Nat × Option LObj)} (hc : yia Tryz.prog f (.lp 1001 0 :: args0) (yao (wrH u es names l)) r (yao (wrH u' es names l'))) (hp : ybp.pureL args0 = true) (hpr : ybp r = true) (hg : evF (ybb t) g = some (.fn f [])) (hx : evL (evF (ybb t)) args = some (.lp 1001 0 :: args0))
    (hb : ykm h (wrH u es names l)) (hk : keepW t = true) (hh : forgHs [1001, 1003] (dropK [1001, 1003] h) = some h') (hl : lf ⟨some d, .call { callee := .value g, args := args.toArray, argTypes := ats }, ty, pos, af, gd⟩ = true) (hw : yaz ops (ybb t) ⟨some d, .call { callee := .value g, args := args.toArray, argTypes := ats }, ty, pos, af, gd⟩ = some true) (hd : Nat.blt d N = true)
    (k : Lex Tryz.prog N ops lf Q rest (S ((d, r) :: t) (wrH u' es names l' ++ h'))) : Lex Tryz.prog N ops lf Q (⟨some d, .call { callee := .value g, args := args.toArray, argTypes := ats }, ty, pos, af, gd⟩ :: rest) (S t h) := by
  refine yfl [(1001, 1001), (1003, 1003)] hc hg hx ?_ rfl rfl rfl (by cases u' <;> rfl) (by rw [renO_wr]; exact hb) (pureA_onlyX hpr) (by cases u' <;> rfl) hh hl hw hd ?_
  · simp only [List.append_nil, List.map_cons, yey, yei]
    congr 1
    rw [← ycj, renA_pureX.rows hp]
  · rw [keep_wr hk, renA_pureX hpr]
    have e : yik [(1001, 1001), (1003, 1003)] (wrH u' es names l') [(1001, 1001), (1003, 1003)] = wrH u' es names l' := by cases u' <;> rfl
    rw [e]
    exact k
end
theorem fresh_wr {u : Bool} {es : List Tm} {names : List Bs} {l : Bs} {d : Nat} (h : Nat.blt d 1000 = true) : ydt d (wrH u es names l) = true := by
  simp only [Nat.blt_eq] at h
  have h1 : Nat.beq d 1001 = false := yeq (by omega)
  have h2 : Nat.beq d 1003 = false := yeq (by omega)
  have h3 : Nat.beq 1001 d = false := yeq (by omega)
  have h4 : Nat.beq 1003 d = false := yeq (by omega)
  have h5 : ment d (bp u 1001) = false := by cases u; rfl; exact h3
  simp [ydt, wrH, h1, h2, h4, yfe, ment.mentL, h5, ybc, ybe, ment]
theorem ybn {u : Bool} {es : List Tm} {names : List Bs} {l : Bs} {h : List (Nat × Option LObj)} (h1 : yao h 1001 = yao (wrH u es names l) 1001) (h2 : yao h 1003 = yao (wrH u es names l) 1003) : ykm h (wrH u es names l) := yak (h1.trans rfl) (yak (h2.trans rfl) yar)
theorem xagg_con (op : Int) : Con Tryz.prog 91 [i64 op] (yga (yhk op)) :=
  ydq ⟨_, Tryz.func91, rfl, rfl⟩ fun w us ok hok hr => by
    obtain ⟨u, rfl, h1⟩ := relAll1 hr
    cases h1
    exact (aggregate_any op w).mono fun e w' ⟨h1, h2⟩ => ⟨h1, h2 ▸ Below.refl _ _⟩
theorem yhs (a b : ByteArray) : bl (a ++ b) = bl a ++ bl b := by simp [bl, ByteArray.data_append]
section
variable {u : Bool} {es : List Tm} {names : List Bs} {l : Bs}
theorem field_len : ∀ w ∈ yha, w.length ≤ 24 := by decide
theorem const_len : ∀ w ∈ ygp, w.length ≤ 24 := by decide
theorem primary_lf {t : Tm} {k : Nat} (hk : es[k]? = some t) (hes : es.length ≤ 1000) (ht : ar t.1 = 0) (ha : yep names.length t = true) (hn : ∀ w ∈ names, w.length ≤ 24) (hl : l.length ≤ 900000) : yia Tryz.prog 67 [.lp 1001 0, i64 k] (yao (wrH u es names l)) (i64 (k + 1 : Nat)) (yao (wrH true es names (l ++ ygb names t))) := by
  have hlt : k < es.length := (List.getElem?_eq_some_iff.1 hk).1
  refine ycw tok Tryz.func67 rfl rfl Tryz.ntmps67 Tryz.results67 rfl (yhz rfl) ?_
  show A _ _ _ _ (S _ _)
  have har : 1 ≤ t.1 ∧ t.1 ≤ 17 := by unfold ar at ht; (repeat' split at ht) <;> omega
  have hagg : yhk t.1 = false := by simp only [yhk, decide_eq_false (show ¬ 20 ≤ t.1 by omega), Bool.false_and]
  (repeat (first | refine zI ?_ | refine zL ?_ | refine zC ?_ | refine yaf ?_ | refine yae ?_ | refine zR ?_ | refine zD ?_ | refine zK ?_ | refine zB ?_ | refine zA ?_ | refine zS ?_ | refine zU ?_ | refine zV ?_ | refine zF ?_ | with_reducible refine yab ?_ | with_reducible refine yad ?_ | refine yaa ?_ | refine yac ?_ | refine yag ?_ | refine zT ?_ | refine zE ?_ | refine zX ?_ | refine yam rfl rfl rfl rfl ?_ | refine zA (h2 := fresh_wr rfl) ?_ | refine yal rfl rfl (xagg_con t.1) rfl rfl ?_))
  rw [hagg]
  (repeat (first | refine zI ?_ | refine zL ?_ | refine zC ?_ | refine yaf ?_ | refine yae ?_ | refine zR ?_ | refine zD ?_ | refine zK ?_ | refine zB ?_ | refine zA ?_ | refine zS ?_ | refine zU ?_ | refine zV ?_ | refine zF ?_ | with_reducible refine yab ?_ | with_reducible refine yad ?_ | refine yaa ?_ | refine yac ?_ | refine yag ?_ | refine zT ?_ | refine zE ?_ | refine zX ?_))
  refine yaq rfl (fun h1 => ?_) (fun h1 => ?_)
  · have h1 : t.1 = 1 := by simpa using h1
    have hv : 0 ≤ t.2 ∧ t.2 ≤ 1073741824 := by simpa [yep, h1] using ha
    have e1 : Lib.itoa t.2 = dec t.2.toNat := by unfold Lib.itoa; rw [if_neg (by omega)]
    have hdl : (dec t.2.toNat).length ≤ 26 := by have := (leaf_len hn ht ha).1; rwa [ygb, if_pos h1] at this
    have e2 : bl (ba (Lib.itoa t.2)) = ygb names t := by rw [ycu, e1, ygb, if_pos h1]
    (repeat (first | with_reducible refine yad ?_ | with_reducible refine yab ?_ | refine yac ?_ | refine yae ?_ | refine yaa ?_))
    refine ybs (lf := lfB) mixed (by kernel_rfl) rfl ?_
    (repeat (first | refine zI ?_ | refine zL ?_ | refine zC ?_ | refine zK ?_ | refine zB ?_ | refine zA ?_ | refine zS ?_ | refine zU ?_ | refine zV ?_ | refine zF ?_ | refine zX ?_ | refine yaf ?_ | refine yam rfl rfl rfl rfl ?_ | refine yal rfl rfl (itoa_con t.2 (by omega) (by omega)) rfl rfl ?_))
    refine yhg (yas u es names l (ba (Lib.itoa t.2)) (by rw [yaw, e1]; omega)) rfl rfl rfl rfl (ybn rfl rfl) rfl rfl rfl rfl rfl ?_
    (repeat (first | refine zI ?_ | refine zL ?_ | refine zC ?_ | refine yaf ?_ | refine yae ?_ | refine zR ?_ | refine zD ?_ | refine zK ?_ | refine zB ?_ | refine zA ?_ | refine zS ?_ | refine zU ?_ | refine zV ?_ | refine zF ?_ | with_reducible refine yab ?_ | with_reducible refine yad ?_ | refine yaa ?_ | refine yac ?_ | refine yag ?_ | refine zT ?_ | refine zE ?_ | refine zX ?_))
    rw [e2]
    refine yau ?_
    exact ⟨_, rfl, ybk _, yba (ybn rfl rfl)⟩
  have h1 : t.1 ≠ 1 := by simpa using h1
  (repeat (first | refine zI ?_ | refine zL ?_ | refine zC ?_ | refine yaf ?_ | refine yae ?_ | refine zR ?_ | refine zD ?_ | refine zK ?_ | refine zB ?_ | refine zA ?_ | refine zS ?_ | refine zU ?_ | refine zV ?_ | refine zF ?_ | with_reducible refine yab ?_ | with_reducible refine yad ?_ | refine yaa ?_ | refine yac ?_ | refine yag ?_ | refine zT ?_ | refine zE ?_ | refine zX ?_))
  refine yaq rfl (fun h2 => ?_) (fun h2 => ?_)
  · have h2 : t.1 = 5 := by simpa using h2
    have hv : 0 ≤ t.2 ∧ t.2 < names.length := by simpa [yep, h2] using ha
    obtain ⟨w, hw⟩ := yin (show t.2.toNat < names.length by omega)
    have hwl := hn w (List.mem_of_getElem? hw)
    have e2 : bl (ba w) = ygb names t := by rw [ycu, ygb, if_neg h1, if_pos h2, yje, hw]; rfl
    (repeat (first | with_reducible refine yad ?_ | with_reducible refine yab ?_ | refine yac ?_ | refine yae ?_ | refine yaa ?_))
    refine ybs (lf := lfB) mixed (by kernel_rfl) rfl ?_
    (repeat (first | refine zI ?_ | refine zL ?_ | refine zC ?_ | refine zK ?_ | refine zB ?_ | refine zA ?_ | refine zS ?_ | refine zU ?_ | refine zV ?_ | refine zF ?_ | refine zX ?_ | refine yaf ?_ | refine yam rfl rfl rfl rfl ?_ | refine ybd tok rfl rfl rfl (by omega) (yds hw) rfl rfl ?_))
    refine yhg (yas u es names l (ba w) (by rw [yaw]; omega)) rfl rfl rfl rfl (ybn rfl rfl) rfl rfl rfl rfl rfl ?_
    (repeat (first | refine zI ?_ | refine zL ?_ | refine zC ?_ | refine yaf ?_ | refine yae ?_ | refine zR ?_ | refine zD ?_ | refine zK ?_ | refine zB ?_ | refine zA ?_ | refine zS ?_ | refine zU ?_ | refine zV ?_ | refine zF ?_ | with_reducible refine yab ?_ | with_reducible refine yad ?_ | refine yaa ?_ | refine yac ?_ | refine yag ?_ | refine zT ?_ | refine zE ?_ | refine zX ?_))
    rw [e2]
    refine yau ?_
    exact ⟨_, rfl, ybk _, yba (ybn rfl rfl)⟩
  have h2 : t.1 ≠ 5 := by simpa using h2
  (repeat (first | refine zI ?_ | refine zL ?_ | refine zC ?_ | refine yaf ?_ | refine yae ?_ | refine zR ?_ | refine zD ?_ | refine zK ?_ | refine zB ?_ | refine zA ?_ | refine zS ?_ | refine zU ?_ | refine zV ?_ | refine zF ?_ | with_reducible refine yab ?_ | with_reducible refine yad ?_ | refine yaa ?_ | refine yac ?_ | refine yag ?_ | refine zT ?_ | refine zE ?_ | refine zX ?_))
  refine yaq rfl (fun h3 => ?_) (fun h3 => ?_)
  · have h3 : t.1 = 11 := by simpa using h3
    have e2 : bl (ba [113]) = ygb names t := by rw [ycu, ygb, if_neg h1, if_neg h2, if_pos h3]
    (repeat (first | refine zI ?_ | refine zL ?_ | refine zC ?_ | refine yaf ?_ | refine yae ?_ | refine zR ?_ | refine zD ?_ | refine zK ?_ | refine zB ?_ | refine zA ?_ | refine zS ?_ | refine zU ?_ | refine zV ?_ | refine zF ?_ | with_reducible refine yab ?_ | with_reducible refine yad ?_ | refine yaa ?_ | refine yac ?_ | refine yag ?_ | refine zT ?_ | refine zE ?_ | refine zX ?_ | refine yam rfl rfl rfl rfl ?_ | refine yhg (yas u es names l (ba [113]) (by rw [yaw]; simp; omega)) rfl rfl rfl rfl (ybn rfl rfl) rfl rfl rfl rfl rfl ?_))
    rw [e2]
    refine yau ?_
    exact ⟨_, rfl, ybk _, yba (ybn rfl rfl)⟩
  have h3 : t.1 ≠ 11 := by simpa using h3
  (repeat (first | refine zI ?_ | refine zL ?_ | refine zC ?_ | refine yaf ?_ | refine yae ?_ | refine zR ?_ | refine zD ?_ | refine zK ?_ | refine zB ?_ | refine zA ?_ | refine zS ?_ | refine zU ?_ | refine zV ?_ | refine zF ?_ | with_reducible refine yab ?_ | with_reducible refine yad ?_ | refine yaa ?_ | refine yac ?_ | refine yag ?_ | refine zT ?_ | refine zE ?_ | refine zX ?_))
  refine yaq rfl (fun h4 => ?_) (fun h4 => ?_)
  · have h4 : t.1 = 12 := by simpa using h4
    have hv : 0 ≤ t.2 ∧ t.2 < names.length := by simpa [yep, h4] using ha
    obtain ⟨w, hw⟩ := yin (show t.2.toNat < names.length by omega)
    have hwl := hn w (List.mem_of_getElem? hw)
    have e2 : bl (ba [113, 46] ++ ba w) = ygb names t := by rw [yhs, ycu, ycu, ygb, if_neg h1, if_neg h2, if_neg h3, if_pos h4, yje, hw]; rfl
    (repeat (first | with_reducible refine yad ?_ | with_reducible refine yab ?_ | refine yac ?_ | refine yae ?_ | refine yaa ?_))
    refine ybs (lf := lfB) mixed (by kernel_rfl) rfl ?_
    (repeat (first | refine zI ?_ | refine zL ?_ | refine zC ?_ | refine zK ?_ | refine zB ?_ | refine zA ?_ | refine zS ?_ | refine zU ?_ | refine zV ?_ | refine zF ?_ | refine zX ?_ | refine yaf ?_ | refine yam rfl rfl rfl rfl ?_ | refine ybd tok rfl rfl rfl (by omega) (yds hw) rfl rfl ?_))
    refine yec (a := ba [113, 46]) (b := ba w) rfl rfl (by rw [yaw, yaw]; simp; omega) rfl rfl ?_
    refine yhg (yas u es names l (ba [113, 46] ++ ba w) (by rw [ByteArray.size_append, yaw, yaw]; simp; omega)) rfl rfl rfl rfl (ybn rfl rfl) rfl rfl rfl rfl rfl ?_
    (repeat (first | refine zI ?_ | refine zL ?_ | refine zC ?_ | refine yaf ?_ | refine yae ?_ | refine zR ?_ | refine zD ?_ | refine zK ?_ | refine zB ?_ | refine zA ?_ | refine zS ?_ | refine zU ?_ | refine zV ?_ | refine zF ?_ | with_reducible refine yab ?_ | with_reducible refine yad ?_ | refine yaa ?_ | refine yac ?_ | refine yag ?_ | refine zT ?_ | refine zE ?_ | refine zX ?_))
    rw [e2]
    refine yau ?_
    exact ⟨_, rfl, ybk _, yba (ybn rfl rfl)⟩
  have h4 : t.1 ≠ 12 := by simpa using h4
  (repeat (first | refine zI ?_ | refine zL ?_ | refine zC ?_ | refine yaf ?_ | refine yae ?_ | refine zR ?_ | refine zD ?_ | refine zK ?_ | refine zB ?_ | refine zA ?_ | refine zS ?_ | refine zU ?_ | refine zV ?_ | refine zF ?_ | with_reducible refine yab ?_ | with_reducible refine yad ?_ | refine yaa ?_ | refine yac ?_ | refine yag ?_ | refine zT ?_ | refine zE ?_ | refine zX ?_))
  refine yaq rfl (fun h5 => ?_) (fun h5 => ?_)
  · have h5 : 13 ≤ t.1 := by simpa using h5
    obtain ⟨w, hw⟩ := yin (l := yha) (k := (t.1 - 13).toNat) (by show _ < 5; omega)
    have hwl : w.length ≤ 24 := field_len w (List.mem_of_getElem? hw)
    have e2 : bl (ba [113, 46] ++ ba w) = ygb names t := by rw [yhs, ycu, ycu, ygb, if_neg h1, if_neg h2, if_neg h3, if_neg h4, if_pos h5, fieldW, hw]; rfl
    (repeat (first | with_reducible refine yad ?_ | with_reducible refine yab ?_ | refine yac ?_ | refine yae ?_ | refine yaa ?_))
    refine ybs (lf := lfB) mixed (by kernel_rfl) rfl ?_
    (repeat (first | refine zI ?_ | refine zL ?_ | refine zC ?_ | refine zK ?_ | refine zB ?_ | refine zA ?_ | refine zS ?_ | refine zU ?_ | refine zV ?_ | refine zF ?_ | refine zX ?_ | refine yaf ?_ | refine yam rfl rfl rfl rfl ?_ | refine yal rfl rfl fieldWords_con rfl rfl ?_ | refine ybd tok rfl rfl rfl (by omega) (yds hw) rfl rfl ?_))
    refine yec (a := ba [113, 46]) (b := ba w) rfl rfl (by rw [yaw, yaw]; simp; omega) rfl rfl ?_
    refine yhg (yas u es names l (ba [113, 46] ++ ba w) (by rw [ByteArray.size_append, yaw, yaw]; simp; omega)) rfl rfl rfl rfl (ybn rfl rfl) rfl rfl rfl rfl rfl ?_
    (repeat (first | refine zI ?_ | refine zL ?_ | refine zC ?_ | refine yaf ?_ | refine yae ?_ | refine zR ?_ | refine zD ?_ | refine zK ?_ | refine zB ?_ | refine zA ?_ | refine zS ?_ | refine zU ?_ | refine zV ?_ | refine zF ?_ | with_reducible refine yab ?_ | with_reducible refine yad ?_ | refine yaa ?_ | refine yac ?_ | refine yag ?_ | refine zT ?_ | refine zE ?_ | refine zX ?_))
    rw [e2]
    refine yau ?_
    exact ⟨_, rfl, ybk _, yba (ybn rfl rfl)⟩
  have h5 : ¬ 13 ≤ t.1 := by simpa using h5
  obtain ⟨w, hw⟩ := yin (l := ygp) (k := (t.1 - 2).toNat) (by show _ < 9; omega)
  have hwl : w.length ≤ 24 := const_len w (List.mem_of_getElem? hw)
  have e2 : bl (ba w) = ygb names t := by rw [ycu, ygb, if_neg h1, if_neg h2, if_neg h3, if_neg h4, if_neg h5, constW, hw]; rfl
  (repeat (first | with_reducible refine yad ?_ | with_reducible refine yab ?_ | refine yac ?_ | refine yae ?_ | refine yaa ?_))
  refine ybs (lf := lfB) mixed (by kernel_rfl) rfl ?_
  (repeat (first | refine zI ?_ | refine zL ?_ | refine zC ?_ | refine zK ?_ | refine zB ?_ | refine zA ?_ | refine zS ?_ | refine zU ?_ | refine zV ?_ | refine zF ?_ | refine zX ?_ | refine yaf ?_ | refine yam rfl rfl rfl rfl ?_ | refine yal rfl rfl constantWords_con rfl rfl ?_ | refine ybd tok rfl rfl rfl (by omega) (yds hw) rfl rfl ?_))
  refine yhg (yas u es names l (ba w) (by rw [yaw]; omega)) rfl rfl rfl rfl (ybn rfl rfl) rfl rfl rfl rfl rfl ?_
  (repeat (first | refine zI ?_ | refine zL ?_ | refine zC ?_ | refine yaf ?_ | refine yae ?_ | refine zR ?_ | refine zD ?_ | refine zK ?_ | refine zB ?_ | refine zA ?_ | refine zS ?_ | refine zU ?_ | refine zV ?_ | refine zF ?_ | with_reducible refine yab ?_ | with_reducible refine yad ?_ | refine yaa ?_ | refine yac ?_ | refine yag ?_ | refine zT ?_ | refine zE ?_ | refine zX ?_))
  rw [e2]
  refine yau ?_
  exact ⟨_, rfl, ybk _, yba (ybn rfl rfl)⟩
end
end Go.Proofs.YtcpgpiabeimefaaGreatDoor
