/- Part 16 of the texts under ExprStopsAtTheError: joined, with what it needs alone. -/
import Derived.Shelf.Strings.Builder1
import Derived.Shelf.Small.Strs
import Derived.Shelf.Strings.BuilderF
import Derived.Shelf.Strings.BuilderK
import Derived.Shelf.Strconv.Itoa0
import Derived.Shelf.Strconv.Itoa1
import Derived.Shelf.LaysM
import Derived.Shelf.Strconv.Itoa2
import Derived.Shelf.Strconv.Itoa3
import Derived.Shelf.Strings.Search1
import Derived.Shelf.Strings.Prefix
import Derived.Shelf.Slices.Turned
import Derived.Test.YtcpgpiabeimefaaDoorProg
import Derived.Test.YtcpgpiabeimefaaDoorQ6
import Derived.Test.YtcpgpiabeimefaaDoorQ7
import Derived.Test.YtcpgpiabeimefaaDoorQ8
import Derived.Test.YtcpgpiabeimefaaDoorQ10
import Derived.Test.YtcpgpiabeimefaaDoorQ12
namespace Go.Proofs.YtcpgpiabeimefaaDoor
set_option maxRecDepth 100000
open Go.Shelf
def Tryd.laysM171_ren : Go.Shelf.Ren := ⟨fun | 171 => 65 | 243 => 73 | 246 => 81 | 283 => 84 | 284 => 85 | 285 => 86 | 286 => 87 | 129 => 89 | 317 => 88 | 318 => 90 | 319 => 91 | 320 => 92 | 337 => 93 | 338 => 94 | n => n, fun | 3 => 3 | 9 => 9 | 2 => 2 | 4 => 4 | 171 => 98 | 0 => 0 | 53 => 99 | 37 => 50 | 5 => 5 | 173 => 102 | 212 => 105 | 51 => 106 | 20 => 20 | 213 => 107 | 46 => 108 | 232 => 111 | 233 => 112 | n => n, fun | 17 => 1 | 18 => 2 | 19 => 3 | n => n⟩
theorem Tryd.laysM171 : Go.Proofs.LaysM.n171 Tryd.prog Tryd.laysM171_ren := {
  mixed := by kernel_rfl
  f129 := Tryd.func89.trans (congrArg some (by kernel_rfl))
  f171 := Tryd.func65.trans (congrArg some (by kernel_rfl))
  f243 := Tryd.func73.trans (congrArg some (by kernel_rfl))
  f246 := Tryd.func81.trans (congrArg some (by kernel_rfl))
  f283 := Tryd.func84.trans (congrArg some (by kernel_rfl))
  f284 := Tryd.func85.trans (congrArg some (by kernel_rfl))
  f285 := Tryd.func86.trans (congrArg some (by kernel_rfl))
  f286 := Tryd.func87.trans (congrArg some (by kernel_rfl))
  f317 := Tryd.func88.trans (congrArg some (by kernel_rfl))
  f318 := Tryd.func90.trans (congrArg some (by kernel_rfl))
  f319 := Tryd.func91.trans (congrArg some (by kernel_rfl))
  f320 := Tryd.func92.trans (congrArg some (by kernel_rfl))
  f337 := Tryd.func93.trans (congrArg some (by kernel_rfl))
  f338 := Tryd.func94.trans (congrArg some (by kernel_rfl))
  t0 := Tryd.underlying0
  a0 := Tryd.isAgg0
  z0 := Tryd.sizeOf0
  v0 := Tryd.zeroValue0
  t2 := Tryd.underlying2
  a2 := Tryd.isAgg2
  z2 := Tryd.sizeOf2
  v2 := Tryd.zeroValue2
  t3 := Tryd.underlying3
  a3 := Tryd.isAgg3
  z3 := Tryd.sizeOf3
  v3 := Tryd.zeroValue3
  t4 := Tryd.underlying4
  a4 := Tryd.isAgg4
  z4 := Tryd.sizeOf4
  v4 := Tryd.zeroValue4
  t5 := Tryd.underlying5
  a5 := Tryd.isAgg5
  z5 := Tryd.sizeOf5
  v5 := Tryd.zeroValue5
  t9 := Tryd.underlying9
  a9 := Tryd.isAgg9
  z9 := Tryd.sizeOf9
  v9 := Tryd.zeroValue9
  t20 := Tryd.underlying20
  a20 := Tryd.isAgg20
  z20 := Tryd.sizeOf20
  v20 := Tryd.zeroValue20
  t37 := Tryd.underlying50
  a37 := Tryd.isAgg50
  z37 := Tryd.sizeOf50
  v37 := Tryd.zeroValue50
  t46 := Tryd.underlying108
  a46 := Tryd.isAgg108
  z46 := Tryd.sizeOf108
  v46 := Tryd.zeroValue108
  t51 := Tryd.underlying106
  a51 := Tryd.isAgg106
  z51 := Tryd.sizeOf106
  v51 := Tryd.zeroValue106
  t53 := Tryd.underlying99
  a53 := Tryd.isAgg99
  z53 := Tryd.sizeOf99
  v53 := Tryd.zeroValue99
  t171 := Tryd.underlying98
  a171 := Tryd.isAgg98
  z171 := Tryd.sizeOf98
  v171 := Tryd.zeroValue98
  t173 := Tryd.underlying102
  a173 := Tryd.isAgg102
  z173 := Tryd.sizeOf102
  v173 := Tryd.zeroValue102
  t212 := Tryd.underlying105
  a212 := Tryd.isAgg105
  z212 := Tryd.sizeOf105
  v212 := Tryd.zeroValue105
  t213 := Tryd.underlying107
  a213 := Tryd.isAgg107
  z213 := Tryd.sizeOf107
  t232 := Tryd.underlying111
  a232 := Tryd.isAgg111
  z232 := Tryd.sizeOf111
  v232 := Tryd.zeroValue111
  t233 := Tryd.underlying112
  a233 := Tryd.isAgg112
  z233 := Tryd.sizeOf112
  v233 := Tryd.zeroValue112
  g17 := by kernel_rfl
  g18 := by kernel_rfl
  g19 := by kernel_rfl
  i0 := by kernel_rfl
  i2 := by kernel_rfl
  i3 := by kernel_rfl
  i4 := by kernel_rfl
  i5 := by kernel_rfl
  i9 := by kernel_rfl
  i20 := by kernel_rfl
  i37 := by kernel_rfl
  i46 := by kernel_rfl
  i51 := by kernel_rfl
  i53 := by kernel_rfl
  i171 := by kernel_rfl
  i173 := by kernel_rfl
  i212 := by kernel_rfl
  i232 := by kernel_rfl
  i233 := by kernel_rfl
  m17 := by kernel_rfl
  m18 := by kernel_rfl
  m19 := by kernel_rfl }
open Go.RowKit Go.Sort Go.Lib in
theorem Tryd.strconv_Itoa (n : Int) (h0 : -9223372036854775808 ≤ n) (h1 : n ≤ 9223372036854775807) (w : World) (htab : Lib.TabIs Tryd.prog w "internal/strconv.uint64pow10" .u64 Lib.pow10Tab) :
    Calls Tryd.prog 65 #[.int .i64 n] w fun e w' => e = .returned (.string ⟨(Lib.itoa n).toArray⟩) ∧ ∃ k os, w' = grow (w.drewN k) os := Any.strconv_Itoa Tryd.laysM171 n h0 h1 w htab
end Go.Proofs.YtcpgpiabeimefaaDoor
set_option linter.unusedVariables false
set_option maxRecDepth 100000
set_option maxHeartbeats 4000000
namespace Go.Proofs.YtcpgpiabeimefaaDoor
open Go.RowKit
def bp (used : Bool) (id : Nat) : AV := match used with
  | true => .lp id 0
  | false => .v (.pointer none)
def wrH (used : Bool) (es : List Tm) (names : List Bs) (l : Bs) : List (Nat × Option LObj) := [(1001, some (.tcells 54 [bp used 1001, .ls 1003 1 l.length, ybz es, ybu names])), (1003, some (.tvec 5 (ycx l)))]
theorem pt_builder : Tryd.prog.underlying 49 = some (.pointer 52) := Tryd.underlying49
theorem wr_cl {u v : Bool} {es : List Tm} {names : List Bs} {l m : Bs} {N : Nat} (hN : Nat.ble N 1001 = true) : ∀ id o, yal (wrH v es names m) id = some o → isC o = true → N ≤ id ∧ ∃ o', yal (wrH u es names l) id = some o' ∧ isC o' = true := by
  intro id o ho hc
  simp only [Nat.ble_eq] at hN
  simp only [wrH, yal] at ho ⊢
  cases h1 : Nat.beq id 1001 with
  | true =>
    have := Nat.eq_of_beq_eq_true h1
    exact ⟨by omega, _, rfl, rfl⟩
  | false =>
    simp only [h1] at ho
    cases h2 : Nat.beq id 1003 with
    | true => simp only [h2, Option.some.injEq] at ho; subst ho; cases hc
    | false => simp only [h2] at ho; cases ho
theorem w_copyCheck_con (u : Bool) (es : List Tm) (names : List Bs) (l : Bs) : ConM Tryd.prog 63 [.lp 1001 0] (yal (wrH u es names l)) (.tup []) (yal (wrH true es names l)) := by
  refine yco tok Tryd.func63 rfl rfl Tryd.ntmps63 Tryd.results63 rfl (wr_cl rfl) ?_
  show A _ _ _ _ (S _ _)
  cases u
  · (repeat (first | refine zI ?_ | refine zL ?_ | refine zC ?_ | refine yaf ?_ | refine yae ?_ | refine zR ?_ | refine zD ?_ | refine zK ?_ | refine zB ?_ | refine zA ?_ | refine zS ?_ | refine zU ?_ | refine zV ?_ | refine zF ?_ | with_reducible refine yab ?_ | with_reducible refine yad ?_ | refine yaa ?_ | refine yac ?_ | refine yaj ?_ | refine zT ?_ | refine zE ?_ | refine zX ?_ | refine yak rfl rfl rfl rfl ?_ | refine ych (yield_eqlNil pt_builder rfl rfl) rfl rfl ?_))
    refine ych (yield_toUnsafe (te := 54) (xs := [bp false 1001, .ls 1003 1 l.length, ybz es, ybu names]) (t0 := 52) pt_builder Tryd.underlying95 (by kernel_rfl) rfl rfl (Nat.zero_lt_succ _)) rfl rfl ?_
    (repeat (first | refine zI ?_ | refine zL ?_ | refine zC ?_ | refine yaf ?_ | refine yae ?_ | refine zR ?_ | refine zD ?_ | refine zK ?_ | refine zB ?_ | refine zA ?_ | refine zS ?_ | refine zU ?_ | refine zV ?_ | refine zF ?_ | with_reducible refine yab ?_ | with_reducible refine yad ?_ | refine yaa ?_ | refine yac ?_ | refine yaj ?_ | refine zT ?_ | refine zE ?_ | refine zX ?_ | refine yak rfl rfl rfl rfl ?_ | refine ych (yield_eqlNil pt_builder rfl rfl) rfl rfl ?_ | refine ych (yield_toUnsafe (t0 := 52) pt_builder Tryd.underlying95 (by kernel_rfl) rfl rfl (Nat.zero_lt_succ _)) rfl rfl ?_ | refine ych (yield_fromUnsafe (t0 := 52) Tryd.underlying95 pt_builder (by kernel_rfl) rfl rfl (by simp) (by kernel_rfl)) rfl rfl ?_ | refine ych (yield_noEscape Tryd.func72 (by kernel_rfl) (by kernel_rfl) (by kernel_rfl) (by kernel_rfl) rfl) rfl rfl ?_ | refine L_storeT tok rfl rfl rfl rfl rfl rfl (by simp) rfl rfl rfl ?_))
    exact ⟨_, rfl, ybi _, yax (yam rfl (yam rfl yat))⟩
  · (repeat (first | refine zI ?_ | refine zL ?_ | refine zC ?_ | refine yaf ?_ | refine yae ?_ | refine zR ?_ | refine zD ?_ | refine zK ?_ | refine zB ?_ | refine zA ?_ | refine zS ?_ | refine zU ?_ | refine zV ?_ | refine zF ?_ | with_reducible refine yab ?_ | with_reducible refine yad ?_ | refine yaa ?_ | refine yac ?_ | refine yaj ?_ | refine zT ?_ | refine zE ?_ | refine zX ?_ | refine yak rfl rfl rfl rfl ?_ | refine ych (yield_eqlLp pt_builder rfl rfl rfl) rfl rfl ?_ | refine ych (yield_neqLp pt_builder (by kernel_rfl) rfl rfl rfl) rfl rfl ?_))
    exact ⟨_, rfl, ybi _, yax (yam rfl (yam rfl yat))⟩

def lfU (o : Oper) : Bool := loudOp o.op || match o.op with
  | .call ⟨.builtin .unsafeString, _, _⟩ => true
  | _ => false
def lfB (o : Oper) : Bool := loudOp o.op || match o.op with
  | .call ⟨.value (.func 42), _, _⟩ => true
  | _ => false
theorem yao (u : Bool) (es : List Tm) (names : List Bs) (l : Bs) (s : ByteArray) (hl : l.length + s.size ≤ 1000000) : ConM Tryd.prog 42 [.lp 1001 0, strA s] (yal (wrH u es names l)) (.tup [i64 s.size, .v .nilIface]) (yal (wrH true es names (l ++ bl s))) := by
  refine yco tok Tryd.func42 rfl rfl Tryd.ntmps42 Tryd.results42 rfl (wr_cl rfl) ?_
  show A _ _ _ _ (S _ _)
  (repeat (first | refine zI ?_ | refine zL ?_ | refine zC ?_ | refine yaf ?_ | refine yae ?_ | refine zR ?_ | refine zD ?_ | refine zK ?_ | refine zB ?_ | refine zA ?_ | refine zS ?_ | refine zU ?_ | refine zV ?_ | refine zF ?_ | with_reducible refine yab ?_ | with_reducible refine yad ?_ | refine yaa ?_ | refine yac ?_ | refine yaj ?_ | refine zT ?_ | refine zE ?_ | refine zX ?_))
  cases u
  all_goals
    first | refine yex [(1001, 1001), (1003, 1003)] (w_copyCheck_con false es names l) rfl rfl rfl rfl rfl rfl rfl (yam rfl (yam rfl yat)) rfl rfl rfl rfl rfl rfl ?_ | refine yex [(1001, 1001), (1003, 1003)] (w_copyCheck_con true es names l) rfl rfl rfl rfl rfl rfl rfl (yam rfl (yam rfl yat)) rfl rfl rfl rfl rfl rfl ?_
    (repeat (first | refine zI ?_ | refine zL ?_ | refine zC ?_ | refine yaf ?_ | refine yae ?_ | refine zR ?_ | refine zD ?_ | refine zK ?_ | refine zB ?_ | refine zA ?_ | refine zS ?_ | refine zU ?_ | refine zV ?_ | refine zF ?_ | with_reducible refine yab ?_ | with_reducible refine yad ?_ | refine yaa ?_ | refine yac ?_ | refine yaj ?_ | refine zT ?_ | refine zE ?_ | refine zX ?_ | refine yak rfl rfl rfl rfl ?_))
    refine L_appendS tok rfl rfl rfl rfl rfl (by simp [bytesA_len]) rfl (by omega) rfl rfl rfl rfl rfl ?_
    (repeat (first | refine zI ?_ | refine zL ?_ | refine zC ?_ | refine yaf ?_ | refine yae ?_ | refine zR ?_ | refine zD ?_ | refine zK ?_ | refine zB ?_ | refine zA ?_ | refine zS ?_ | refine zU ?_ | refine zV ?_ | refine zF ?_ | with_reducible refine yab ?_ | with_reducible refine yad ?_ | refine yaa ?_ | refine yac ?_ | refine yaj ?_ | refine zT ?_ | refine zE ?_ | refine zX ?_ | refine yak rfl rfl rfl rfl ?_ | refine L_storeT tok rfl rfl rfl rfl rfl rfl (by simp) rfl rfl rfl ?_))
    refine ybc ?_
    refine ⟨_, rfl, ybi _, yax (yam ?_ (yam ?_ yat))⟩
    · have e : l.length + s.size = (l ++ bl s).length := by simp [bl, ← ByteArray.size_data]
      rw [← e]; rfl
    · have e : ycx (l ++ bl s) = ycx l ++ ycx s.data.toList := by rw [bytesA_app]; rfl
      rw [e]; rfl
theorem w_writeString_K (u : Bool) (es : List Tm) (names : List Bs) (l : Bs) (s : ByteArray) (hl : l.length + s.size ≤ 1000000) : ConK (KD Tryd.prog 42 .returning .returning) [.lp 1001 0, strA s] (yal (wrH u es names l)) (.tup [i64 s.size, .v .nilIface]) (yal (wrH true es names (l ++ bl s))) := by
  refine conKD_of tok .returning Tryd.func42 rfl Tryd.ntmps42 Tryd.results42 rfl (wr_cl rfl) ?_
  show A _ _ _ _ (S _ _)
  (repeat (first | refine zI ?_ | refine zL ?_ | refine zC ?_ | refine yaf ?_ | refine yae ?_ | refine zR ?_ | refine zD ?_ | refine zK ?_ | refine zB ?_ | refine zA ?_ | refine zS ?_ | refine zU ?_ | refine zV ?_ | refine zF ?_ | with_reducible refine yab ?_ | with_reducible refine yad ?_ | refine yaa ?_ | refine yac ?_ | refine yaj ?_ | refine zT ?_ | refine zE ?_ | refine zX ?_))
  cases u
  all_goals
    first | refine yex [(1001, 1001), (1003, 1003)] (w_copyCheck_con false es names l) rfl rfl rfl rfl rfl rfl rfl (yam rfl (yam rfl yat)) rfl rfl rfl rfl rfl rfl ?_ | refine yex [(1001, 1001), (1003, 1003)] (w_copyCheck_con true es names l) rfl rfl rfl rfl rfl rfl rfl (yam rfl (yam rfl yat)) rfl rfl rfl rfl rfl rfl ?_
    (repeat (first | refine zI ?_ | refine zL ?_ | refine zC ?_ | refine yaf ?_ | refine yae ?_ | refine zR ?_ | refine zD ?_ | refine zK ?_ | refine zB ?_ | refine zA ?_ | refine zS ?_ | refine zU ?_ | refine zV ?_ | refine zF ?_ | with_reducible refine yab ?_ | with_reducible refine yad ?_ | refine yaa ?_ | refine yac ?_ | refine yaj ?_ | refine zT ?_ | refine zE ?_ | refine zX ?_ | refine yak rfl rfl rfl rfl ?_))
    refine L_appendS tok rfl rfl rfl rfl rfl (by simp [bytesA_len]) rfl (by omega) rfl rfl rfl rfl rfl ?_
    (repeat (first | refine zI ?_ | refine zL ?_ | refine zC ?_ | refine yaf ?_ | refine yae ?_ | refine zR ?_ | refine zD ?_ | refine zK ?_ | refine zB ?_ | refine zA ?_ | refine zS ?_ | refine zU ?_ | refine zV ?_ | refine zF ?_ | with_reducible refine yab ?_ | with_reducible refine yad ?_ | refine yaa ?_ | refine yac ?_ | refine yaj ?_ | refine zT ?_ | refine zE ?_ | refine zX ?_ | refine yak rfl rfl rfl rfl ?_ | refine L_storeT tok rfl rfl rfl rfl rfl rfl (by simp) rfl rfl rfl ?_))
    refine ybc ?_
    refine ⟨_, rfl, ybi _, yax (yam ?_ (yam ?_ yat))⟩
    · have e : l.length + s.size = (l ++ bl s).length := by simp [bl, ← ByteArray.size_data]
      rw [← e]; rfl
    · have e : ycx (l ++ bl s) = ycx l ++ ycx s.data.toList := by rw [bytesA_app]; rfl
      rw [e]; rfl
theorem w_string_con (u : Bool) (es : List Tm) (names : List Bs) (l : Bs) (h0 : l ≠ []) (hl : l.length ≤ 1000000) : ConM Tryd.prog 21 [.lp 1001 0] (yal (wrH u es names l)) (strA (ba l)) (yal []) := by
  refine yco tok Tryd.func21 rfl rfl Tryd.ntmps21 Tryd.results21 rfl (fun id o h => by simp [yal] at h) ?_
  show A _ _ _ _ (S _ _)
  obtain ⟨x, r, rfl⟩ : ∃ x r, l = x :: r := by cases l with | nil => exact absurd rfl h0 | cons x r => exact ⟨x, r, rfl⟩
  (repeat (first | refine zI ?_ | refine zL ?_ | refine zC ?_ | refine yaf ?_ | refine yae ?_ | refine zR ?_ | refine zK ?_ | refine zB ?_ | refine zA ?_ | refine zS ?_ | refine zU ?_ | refine zV ?_ | refine zF ?_ | with_reducible refine yab ?_ | with_reducible refine yad ?_ | refine yaa ?_ | refine yac ?_ | refine yaj ?_ | refine zT ?_ | refine zE ?_ | refine zX ?_))
  refine ybr (lf := lfU) mixed (by kernel_rfl) rfl ?_
  (repeat (first | refine zI ?_ | refine zL ?_ | refine zC ?_ | refine yaf ?_ | refine yae ?_ | refine zR ?_ | refine zK ?_ | refine zB ?_ | refine zA ?_ | refine zS ?_ | refine zU ?_ | refine zV ?_ | refine zF ?_ | with_reducible refine yab ?_ | with_reducible refine yad ?_ | refine yaa ?_ | refine yac ?_ | refine yaj ?_ | refine zT ?_ | refine zE ?_ | refine zX ?_ | refine yak rfl rfl rfl rfl ?_ | refine L_sliceData rfl rfl (by simp) rfl rfl ?_))
  refine L_unsafeString (l := x :: r) Tryd.underlying81 (by kernel_rfl) rfl rfl rfl (by simp) (by omega) rfl rfl rfl ?_
  (repeat (first | refine zI ?_ | refine zL ?_ | refine zC ?_ | refine yaf ?_ | refine yae ?_ | refine zR ?_ | refine zK ?_ | refine zB ?_ | refine zA ?_ | refine zS ?_ | refine zU ?_ | refine zV ?_ | refine zF ?_ | with_reducible refine yab ?_ | with_reducible refine yad ?_ | refine yaa ?_ | refine yac ?_ | refine yaj ?_ | refine zT ?_ | refine zE ?_ | refine zX ?_))
  refine ybc ?_
  exact ⟨_, rfl, ybi _, fun id o h => by cases h⟩


theorem w_len_con (u : Bool) (es : List Tm) (names : List Bs) (l : Bs) (hl : l.length ≤ 1000000) : ConM Tryd.prog 20 [.lp 1001 0] (yal (wrH u es names l)) (i64 l.length) (yal (wrH u es names l)) := by
  refine yco tok Tryd.func20 rfl rfl Tryd.ntmps20 Tryd.results20 rfl (wr_cl rfl) ?_
  show A _ _ _ _ (S _ _)
  (repeat (first | refine zI ?_ | refine zL ?_ | refine zC ?_ | refine yaf ?_ | refine yae ?_ | refine zR ?_ | refine zD ?_ | refine zK ?_ | refine zB ?_ | refine zA ?_ | refine zS ?_ | refine zU ?_ | refine zV ?_ | refine zF ?_ | with_reducible refine yab ?_ | with_reducible refine yad ?_ | refine yaa ?_ | refine yac ?_ | refine yaj ?_ | refine zT ?_ | refine zE ?_ | refine zX ?_ | refine yak rfl rfl rfl rfl ?_ | refine L_lenI tok rfl rfl rfl rfl rfl ?_))
  refine ybc ?_
  exact ⟨_, rfl, ybi _, yax (yam rfl (yam rfl yat))⟩
theorem itoa_con (n : Int) (h0 : -9223372036854775808 ≤ n) (h1 : n ≤ 9223372036854775807) : Con Tryd.prog 65 [i64 n] (strA (ba (Lib.itoa n))) := by
  refine ⟨⟨_, Tryd.func65, rfl, rfl⟩, rfl, fun ok0 w us hG hok h => ?_⟩
  obtain ⟨u, rfl, h2⟩ := relAll1 h
  cases h2
  refine (Tryd.strconv_Itoa n h0 h1 w hG).mono ?_
  rintro e w' ⟨rfl, k, os, rfl⟩
  refine ⟨_, rfl, .v _, ⟨rfl, rfl, rfl, ?_, fun j hj => ?_⟩⟩
  · show w.heap.size ≤ (w.heap ++ os).size
    rw [Array.size_append]; omega
  · show (w.heap ++ os)[j]? = w.heap[j]?
    rw [Array.getElem?_append_left hj]
end Go.Proofs.YtcpgpiabeimefaaDoor
set_option linter.unusedVariables false
set_option maxRecDepth 100000
set_option maxHeartbeats 4000000
namespace Go.Proofs.YtcpgpiabeimefaaDoor
open Go.RowKit
def keepW1 (y : AV) : Bool := match ment 1003 y with
  | true => false
  | false => match ment 1001 y with
    | false => true
    | true => match y with
      | .lp _ _ => true
      | _ => false
def keepW : List (Nat × AV) → Bool
  | [] => true
  | (_, y) :: t => match keepW1 y with
    | true => keepW t
    | false => false
theorem keep_wr {u : Bool} {es : List Tm} {names : List Bs} {l : Bs} : ∀ {t : List (Nat × AV)}, keepW t = true → forgTM [(1001, 1001), (1003, 1003)] (wrH u es names l) t = t
  | [], _ => rfl
  | (x, y) :: t, h => by
    simp only [keepW] at h
    have hk : keepW1 y = true → keepB [(1001, 1001), (1003, 1003)] (wrH u es names l) y = true := by
      intro hy
      simp only [keepW1] at hy
      simp only [keepB, mentAny, ycu]
      cases h3 : ment 1003 y with
      | true => rw [h3] at hy; cases hy
      | false =>
        rw [h3] at hy
        cases h1 : ment 1001 y with
        | false => rfl
        | true =>
          simp only [h1] at hy
          cases y with
          | lp j off =>
            have e : j = 1001 := Nat.eq_of_beq_eq_true h1
            subst e
            rfl
          | _ => cases hy
    cases ho : keepW1 y with
    | false => rw [ho] at h; cases h
    | true =>
      rw [ho] at h
      simp only [forgTM, hk ho]
      rw [keep_wr h]
theorem renO_wr (u : Bool) (es : List Tm) (names : List Bs) (l : Bs) : renH [(1001, 1001), (1003, 1003)] (wrH u es names l) = wrH u es names l := by cases u <;> rfl
section
variable {N : Nat} {ops : Array Oper} {lf : Oper → Bool} {Q : SS → Prop} {t : List (Nat × AV)} {h : List (Nat × Option LObj)} {rest : List Oper} {d : Nat} {ty : TypeId} {pos : String} {af : Array Edge} {gd : Option (Nat × Bool)}
theorem L_wr {u u' : Bool} {es : List Tm} {names : List Bs} {l l' : Bs} {g : Operand} {args : List Operand} {ats : Array TypeId} {f : FuncId} {args0 : List AV} {r : AV} {h' : List (Nat × Option LObj)} (hc : ConM Tryd.prog f (.lp 1001 0 :: args0) (yal (wrH u es names l)) r (yal (wrH u' es names l'))) (hp : ybn.pureL args0 = true) (hpr : ybn r = true) (hg : evF (ybb t) g = some (.fn f [])) (hx : evL (evF (ybb t)) args = some (.lp 1001 0 :: args0))
    (hb : subH h (wrH u es names l)) (hk : keepW t = true) (hh : forgHs [1001, 1003] (dropK [1001, 1003] h) = some h') (hl : lf ⟨some d, .call { callee := .value g, args := args.toArray, argTypes := ats }, ty, pos, af, gd⟩ = true) (hw : yaz ops (ybb t) ⟨some d, .call { callee := .value g, args := args.toArray, argTypes := ats }, ty, pos, af, gd⟩ = some true) (hd : Nat.blt d N = true)
    (k : Lex Tryd.prog N ops lf Q rest (S ((d, r) :: t) (wrH u' es names l' ++ h'))) : Lex Tryd.prog N ops lf Q (⟨some d, .call { callee := .value g, args := args.toArray, argTypes := ats }, ty, pos, af, gd⟩ :: rest) (S t h) := by
  refine yex [(1001, 1001), (1003, 1003)] hc hg hx ?_ rfl rfl rfl (by cases u' <;> rfl) (by rw [renO_wr]; exact hb) (pureA_onlyX hpr) (by cases u' <;> rfl) hh hl hw hd ?_
  · simp only [List.append_nil, List.map_cons, yen, ydz]
    congr 1
    rw [← yce, renA_pureX.rows hp]
  · rw [keep_wr hk, renA_pureX hpr]
    have e : backH [(1001, 1001), (1003, 1003)] (wrH u' es names l') [(1001, 1001), (1003, 1003)] = wrH u' es names l' := by cases u' <;> rfl
    rw [e]
    exact k
end
theorem fresh_wr {u : Bool} {es : List Tm} {names : List Bs} {l : Bs} {d : Nat} (h : Nat.blt d 1000 = true) : ydr d (wrH u es names l) = true := by
  simp only [Nat.blt_eq] at h
  have h1 : Nat.beq d 1001 = false := yeb (by omega)
  have h2 : Nat.beq d 1003 = false := yeb (by omega)
  have h3 : Nat.beq 1001 d = false := yeb (by omega)
  have h4 : Nat.beq 1003 d = false := yeb (by omega)
  have h5 : ment d (bp u 1001) = false := by cases u; rfl; exact h3
  simp [ydr, wrH, h1, h2, h4, yel, ment.mentL, h5, ybz, ybu, ment]
theorem ybl {u : Bool} {es : List Tm} {names : List Bs} {l : Bs} {h : List (Nat × Option LObj)} (h1 : yal h 1001 = yal (wrH u es names l) 1001) (h2 : yal h 1003 = yal (wrH u es names l) 1003) : subH h (wrH u es names l) := yam (h1.trans rfl) (yam (h2.trans rfl) yat)
theorem xagg_con (op : Int) : Con Tryd.prog 62 [i64 op] (boolA (aggB op)) :=
  con_of_calls ⟨_, Tryd.func62, rfl, rfl⟩ fun w us ok hok hr => by
    obtain ⟨u, rfl, h1⟩ := relAll1 hr
    cases h1
    exact (aggregate_any op w).mono fun e w' ⟨h1, h2⟩ => ⟨h1, h2 ▸ Below.refl _ _⟩
theorem bl_app (a b : ByteArray) : bl (a ++ b) = bl a ++ bl b := by simp [bl, ByteArray.data_append]
section
variable {u : Bool} {es : List Tm} {names : List Bs} {l : Bs}
theorem field_len : ∀ w ∈ fieldL, w.length ≤ 24 := by decide
theorem const_len : ∀ w ∈ constL, w.length ≤ 24 := by decide
theorem primary_lf {t : Tm} {k : Nat} (hk : es[k]? = some t) (hes : es.length ≤ 1000) (ht : ar t.1 = 0) (ha : argB names.length t = true) (hn : ∀ w ∈ names, w.length ≤ 24) (hl : l.length ≤ 900000) : ConM Tryd.prog 43 [.lp 1001 0, i64 k] (yal (wrH u es names l)) (i64 (k + 1 : Nat)) (yal (wrH true es names (l ++ leafT names t))) := by
  have hlt : k < es.length := (List.getElem?_eq_some_iff.1 hk).1
  refine yco tok Tryd.func43 rfl rfl Tryd.ntmps43 Tryd.results43 rfl (wr_cl rfl) ?_
  show A _ _ _ _ (S _ _)
  have har : 1 ≤ t.1 ∧ t.1 ≤ 17 := by unfold ar at ht; (repeat' split at ht) <;> omega
  have hagg : aggB t.1 = false := by simp only [aggB, decide_eq_false (show ¬ 20 ≤ t.1 by omega), Bool.false_and]
  (repeat (first | refine zI ?_ | refine zL ?_ | refine zC ?_ | refine yaf ?_ | refine yae ?_ | refine zR ?_ | refine zD ?_ | refine zK ?_ | refine zB ?_ | refine zA ?_ | refine zS ?_ | refine zU ?_ | refine zV ?_ | refine zF ?_ | with_reducible refine yab ?_ | with_reducible refine yad ?_ | refine yaa ?_ | refine yac ?_ | refine yaj ?_ | refine zT ?_ | refine zE ?_ | refine zX ?_ | refine yak rfl rfl rfl rfl ?_ | refine zA (h2 := fresh_wr rfl) ?_ | refine yap rfl rfl (xagg_con t.1) rfl rfl ?_))
  rw [hagg]
  (repeat (first | refine zI ?_ | refine zL ?_ | refine zC ?_ | refine yaf ?_ | refine yae ?_ | refine zR ?_ | refine zD ?_ | refine zK ?_ | refine zB ?_ | refine zA ?_ | refine zS ?_ | refine zU ?_ | refine zV ?_ | refine zF ?_ | with_reducible refine yab ?_ | with_reducible refine yad ?_ | refine yaa ?_ | refine yac ?_ | refine yaj ?_ | refine zT ?_ | refine zE ?_ | refine zX ?_))
  refine yas rfl (fun h1 => ?_) (fun h1 => ?_)
  · have h1 : t.1 = 1 := by simpa using h1
    have hv : 0 ≤ t.2 ∧ t.2 ≤ 1073741824 := by simpa [argB, h1] using ha
    have e1 : Lib.itoa t.2 = dec t.2.toNat := by unfold Lib.itoa; rw [if_neg (by omega)]
    have hdl : (dec t.2.toNat).length ≤ 26 := by have := (leaf_len hn ht ha).1; rwa [leafT, if_pos h1] at this
    have e2 : bl (ba (Lib.itoa t.2)) = leafT names t := by rw [ycn, e1, leafT, if_pos h1]
    (repeat (first | with_reducible refine yad ?_ | with_reducible refine yab ?_ | refine yac ?_ | refine yae ?_ | refine yaa ?_))
    refine ybr (lf := lfB) mixed (by kernel_rfl) rfl ?_
    (repeat (first | refine zI ?_ | refine zL ?_ | refine zC ?_ | refine zK ?_ | refine zB ?_ | refine zA ?_ | refine zS ?_ | refine zU ?_ | refine zV ?_ | refine zF ?_ | refine zX ?_ | refine yaf ?_ | refine yak rfl rfl rfl rfl ?_ | refine yap rfl rfl (itoa_con t.2 (by omega) (by omega)) rfl rfl ?_))
    refine L_wr (yao u es names l (ba (Lib.itoa t.2)) (by rw [yau, e1]; omega)) rfl rfl rfl rfl (ybl rfl rfl) rfl rfl rfl rfl rfl ?_
    (repeat (first | refine zI ?_ | refine zL ?_ | refine zC ?_ | refine yaf ?_ | refine yae ?_ | refine zR ?_ | refine zD ?_ | refine zK ?_ | refine zB ?_ | refine zA ?_ | refine zS ?_ | refine zU ?_ | refine zV ?_ | refine zF ?_ | with_reducible refine yab ?_ | with_reducible refine yad ?_ | refine yaa ?_ | refine yac ?_ | refine yaj ?_ | refine zT ?_ | refine zE ?_ | refine zX ?_))
    rw [e2]
    refine ybc ?_
    exact ⟨_, rfl, ybi _, yax (ybl rfl rfl)⟩
  have h1 : t.1 ≠ 1 := by simpa using h1
  (repeat (first | refine zI ?_ | refine zL ?_ | refine zC ?_ | refine yaf ?_ | refine yae ?_ | refine zR ?_ | refine zD ?_ | refine zK ?_ | refine zB ?_ | refine zA ?_ | refine zS ?_ | refine zU ?_ | refine zV ?_ | refine zF ?_ | with_reducible refine yab ?_ | with_reducible refine yad ?_ | refine yaa ?_ | refine yac ?_ | refine yaj ?_ | refine zT ?_ | refine zE ?_ | refine zX ?_))
  refine yas rfl (fun h2 => ?_) (fun h2 => ?_)
  · have h2 : t.1 = 5 := by simpa using h2
    have hv : 0 ≤ t.2 ∧ t.2 < names.length := by simpa [argB, h2] using ha
    obtain ⟨w, hw⟩ := getN' (show t.2.toNat < names.length by omega)
    have hwl := hn w (List.mem_of_getElem? hw)
    have e2 : bl (ba w) = leafT names t := by rw [ycn, leafT, if_neg h1, if_pos h2, nameW, hw]; rfl
    (repeat (first | with_reducible refine yad ?_ | with_reducible refine yab ?_ | refine yac ?_ | refine yae ?_ | refine yaa ?_))
    refine ybr (lf := lfB) mixed (by kernel_rfl) rfl ?_
    (repeat (first | refine zI ?_ | refine zL ?_ | refine zC ?_ | refine zK ?_ | refine zB ?_ | refine zA ?_ | refine zS ?_ | refine zU ?_ | refine zV ?_ | refine zF ?_ | refine zX ?_ | refine yaf ?_ | refine yak rfl rfl rfl rfl ?_ | refine ycg tok rfl rfl rfl (by omega) (yfa hw) rfl rfl ?_))
    refine L_wr (yao u es names l (ba w) (by rw [yau]; omega)) rfl rfl rfl rfl (ybl rfl rfl) rfl rfl rfl rfl rfl ?_
    (repeat (first | refine zI ?_ | refine zL ?_ | refine zC ?_ | refine yaf ?_ | refine yae ?_ | refine zR ?_ | refine zD ?_ | refine zK ?_ | refine zB ?_ | refine zA ?_ | refine zS ?_ | refine zU ?_ | refine zV ?_ | refine zF ?_ | with_reducible refine yab ?_ | with_reducible refine yad ?_ | refine yaa ?_ | refine yac ?_ | refine yaj ?_ | refine zT ?_ | refine zE ?_ | refine zX ?_))
    rw [e2]
    refine ybc ?_
    exact ⟨_, rfl, ybi _, yax (ybl rfl rfl)⟩
  have h2 : t.1 ≠ 5 := by simpa using h2
  (repeat (first | refine zI ?_ | refine zL ?_ | refine zC ?_ | refine yaf ?_ | refine yae ?_ | refine zR ?_ | refine zD ?_ | refine zK ?_ | refine zB ?_ | refine zA ?_ | refine zS ?_ | refine zU ?_ | refine zV ?_ | refine zF ?_ | with_reducible refine yab ?_ | with_reducible refine yad ?_ | refine yaa ?_ | refine yac ?_ | refine yaj ?_ | refine zT ?_ | refine zE ?_ | refine zX ?_))
  refine yas rfl (fun h3 => ?_) (fun h3 => ?_)
  · have h3 : t.1 = 11 := by simpa using h3
    have e2 : bl (ba [113]) = leafT names t := by rw [ycn, leafT, if_neg h1, if_neg h2, if_pos h3]
    (repeat (first | refine zI ?_ | refine zL ?_ | refine zC ?_ | refine yaf ?_ | refine yae ?_ | refine zR ?_ | refine zD ?_ | refine zK ?_ | refine zB ?_ | refine zA ?_ | refine zS ?_ | refine zU ?_ | refine zV ?_ | refine zF ?_ | with_reducible refine yab ?_ | with_reducible refine yad ?_ | refine yaa ?_ | refine yac ?_ | refine yaj ?_ | refine zT ?_ | refine zE ?_ | refine zX ?_ | refine yak rfl rfl rfl rfl ?_ | refine L_wr (yao u es names l (ba [113]) (by rw [yau]; simp; omega)) rfl rfl rfl rfl (ybl rfl rfl) rfl rfl rfl rfl rfl ?_))
    rw [e2]
    refine ybc ?_
    exact ⟨_, rfl, ybi _, yax (ybl rfl rfl)⟩
  have h3 : t.1 ≠ 11 := by simpa using h3
  (repeat (first | refine zI ?_ | refine zL ?_ | refine zC ?_ | refine yaf ?_ | refine yae ?_ | refine zR ?_ | refine zD ?_ | refine zK ?_ | refine zB ?_ | refine zA ?_ | refine zS ?_ | refine zU ?_ | refine zV ?_ | refine zF ?_ | with_reducible refine yab ?_ | with_reducible refine yad ?_ | refine yaa ?_ | refine yac ?_ | refine yaj ?_ | refine zT ?_ | refine zE ?_ | refine zX ?_))
  refine yas rfl (fun h4 => ?_) (fun h4 => ?_)
  · have h4 : t.1 = 12 := by simpa using h4
    have hv : 0 ≤ t.2 ∧ t.2 < names.length := by simpa [argB, h4] using ha
    obtain ⟨w, hw⟩ := getN' (show t.2.toNat < names.length by omega)
    have hwl := hn w (List.mem_of_getElem? hw)
    have e2 : bl (ba [113, 46] ++ ba w) = leafT names t := by rw [bl_app, ycn, ycn, leafT, if_neg h1, if_neg h2, if_neg h3, if_pos h4, nameW, hw]; rfl
    (repeat (first | with_reducible refine yad ?_ | with_reducible refine yab ?_ | refine yac ?_ | refine yae ?_ | refine yaa ?_))
    refine ybr (lf := lfB) mixed (by kernel_rfl) rfl ?_
    (repeat (first | refine zI ?_ | refine zL ?_ | refine zC ?_ | refine zK ?_ | refine zB ?_ | refine zA ?_ | refine zS ?_ | refine zU ?_ | refine zV ?_ | refine zF ?_ | refine zX ?_ | refine yaf ?_ | refine yak rfl rfl rfl rfl ?_ | refine ycg tok rfl rfl rfl (by omega) (yfa hw) rfl rfl ?_))
    refine ydj (a := ba [113, 46]) (b := ba w) rfl rfl (by rw [yau, yau]; simp; omega) rfl rfl ?_
    refine L_wr (yao u es names l (ba [113, 46] ++ ba w) (by rw [ByteArray.size_append, yau, yau]; simp; omega)) rfl rfl rfl rfl (ybl rfl rfl) rfl rfl rfl rfl rfl ?_
    (repeat (first | refine zI ?_ | refine zL ?_ | refine zC ?_ | refine yaf ?_ | refine yae ?_ | refine zR ?_ | refine zD ?_ | refine zK ?_ | refine zB ?_ | refine zA ?_ | refine zS ?_ | refine zU ?_ | refine zV ?_ | refine zF ?_ | with_reducible refine yab ?_ | with_reducible refine yad ?_ | refine yaa ?_ | refine yac ?_ | refine yaj ?_ | refine zT ?_ | refine zE ?_ | refine zX ?_))
    rw [e2]
    refine ybc ?_
    exact ⟨_, rfl, ybi _, yax (ybl rfl rfl)⟩
  have h4 : t.1 ≠ 12 := by simpa using h4
  (repeat (first | refine zI ?_ | refine zL ?_ | refine zC ?_ | refine yaf ?_ | refine yae ?_ | refine zR ?_ | refine zD ?_ | refine zK ?_ | refine zB ?_ | refine zA ?_ | refine zS ?_ | refine zU ?_ | refine zV ?_ | refine zF ?_ | with_reducible refine yab ?_ | with_reducible refine yad ?_ | refine yaa ?_ | refine yac ?_ | refine yaj ?_ | refine zT ?_ | refine zE ?_ | refine zX ?_))
  refine yas rfl (fun h5 => ?_) (fun h5 => ?_)
  · have h5 : 13 ≤ t.1 := by simpa using h5
    obtain ⟨w, hw⟩ := getN' (l := fieldL) (k := (t.1 - 13).toNat) (by show _ < 5; omega)
    have hwl : w.length ≤ 24 := field_len w (List.mem_of_getElem? hw)
    have e2 : bl (ba [113, 46] ++ ba w) = leafT names t := by rw [bl_app, ycn, ycn, leafT, if_neg h1, if_neg h2, if_neg h3, if_neg h4, if_pos h5, fieldW, hw]; rfl
    (repeat (first | with_reducible refine yad ?_ | with_reducible refine yab ?_ | refine yac ?_ | refine yae ?_ | refine yaa ?_))
    refine ybr (lf := lfB) mixed (by kernel_rfl) rfl ?_
    (repeat (first | refine zI ?_ | refine zL ?_ | refine zC ?_ | refine zK ?_ | refine zB ?_ | refine zA ?_ | refine zS ?_ | refine zU ?_ | refine zV ?_ | refine zF ?_ | refine zX ?_ | refine yaf ?_ | refine yak rfl rfl rfl rfl ?_ | refine yap rfl rfl fieldWords_con rfl rfl ?_ | refine ycg tok rfl rfl rfl (by omega) (yfa hw) rfl rfl ?_))
    refine ydj (a := ba [113, 46]) (b := ba w) rfl rfl (by rw [yau, yau]; simp; omega) rfl rfl ?_
    refine L_wr (yao u es names l (ba [113, 46] ++ ba w) (by rw [ByteArray.size_append, yau, yau]; simp; omega)) rfl rfl rfl rfl (ybl rfl rfl) rfl rfl rfl rfl rfl ?_
    (repeat (first | refine zI ?_ | refine zL ?_ | refine zC ?_ | refine yaf ?_ | refine yae ?_ | refine zR ?_ | refine zD ?_ | refine zK ?_ | refine zB ?_ | refine zA ?_ | refine zS ?_ | refine zU ?_ | refine zV ?_ | refine zF ?_ | with_reducible refine yab ?_ | with_reducible refine yad ?_ | refine yaa ?_ | refine yac ?_ | refine yaj ?_ | refine zT ?_ | refine zE ?_ | refine zX ?_))
    rw [e2]
    refine ybc ?_
    exact ⟨_, rfl, ybi _, yax (ybl rfl rfl)⟩
  have h5 : ¬ 13 ≤ t.1 := by simpa using h5
  obtain ⟨w, hw⟩ := getN' (l := constL) (k := (t.1 - 2).toNat) (by show _ < 9; omega)
  have hwl : w.length ≤ 24 := const_len w (List.mem_of_getElem? hw)
  have e2 : bl (ba w) = leafT names t := by rw [ycn, leafT, if_neg h1, if_neg h2, if_neg h3, if_neg h4, if_neg h5, constW, hw]; rfl
  (repeat (first | with_reducible refine yad ?_ | with_reducible refine yab ?_ | refine yac ?_ | refine yae ?_ | refine yaa ?_))
  refine ybr (lf := lfB) mixed (by kernel_rfl) rfl ?_
  (repeat (first | refine zI ?_ | refine zL ?_ | refine zC ?_ | refine zK ?_ | refine zB ?_ | refine zA ?_ | refine zS ?_ | refine zU ?_ | refine zV ?_ | refine zF ?_ | refine zX ?_ | refine yaf ?_ | refine yak rfl rfl rfl rfl ?_ | refine yap rfl rfl constantWords_con rfl rfl ?_ | refine ycg tok rfl rfl rfl (by omega) (yfa hw) rfl rfl ?_))
  refine L_wr (yao u es names l (ba w) (by rw [yau]; omega)) rfl rfl rfl rfl (ybl rfl rfl) rfl rfl rfl rfl rfl ?_
  (repeat (first | refine zI ?_ | refine zL ?_ | refine zC ?_ | refine yaf ?_ | refine yae ?_ | refine zR ?_ | refine zD ?_ | refine zK ?_ | refine zB ?_ | refine zA ?_ | refine zS ?_ | refine zU ?_ | refine zV ?_ | refine zF ?_ | with_reducible refine yab ?_ | with_reducible refine yad ?_ | refine yaa ?_ | refine yac ?_ | refine yaj ?_ | refine zT ?_ | refine zE ?_ | refine zX ?_))
  rw [e2]
  refine ybc ?_
  exact ⟨_, rfl, ybi _, yax (ybl rfl rfl)⟩
end
end Go.Proofs.YtcpgpiabeimefaaDoor
