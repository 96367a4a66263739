/- Part 14 of the texts under ProgramFormats,ProgramReadsBack,ProgramTellsProgramsApart,ProgramGrowsByLines,ProgramIgnoresBlanks: joined, with what it needs alone. -/
import Derived.Shelf.Small.Strs
import Derived.Shelf.Strconv.Itoa0
import Derived.Shelf.Strconv.Itoa1
import Derived.Shelf.LaysM
import Derived.Shelf.Strconv.Itoa2
import Derived.Shelf.Strconv.Itoa3
import Derived.Shelf.Strings.Search1
import Derived.Test.YtefiainojfeagaaGreatDoorProg
import Derived.Laws.StructEq
import Derived.Test.YtefiainojfeagaaGreatDoorPa5
import Derived.Test.YtefiainojfeagaaGreatDoorPa6
import Derived.Test.YtefiainojfeagaaGreatDoorPa7
import Derived.Test.YtefiainojfeagaaGreatDoorPa8
import Derived.Test.YtefiainojfeagaaGreatDoorPa9
import Derived.Test.YtefiainojfeagaaGreatDoorPa11
import Derived.Test.YtefiainojfeagaaGreatDoorPa12
namespace Go.Proofs.YtefiainojfeagaaGreatDoor
set_option maxRecDepth 100000
set_option linter.unusedVariables false
set_option maxHeartbeats 4000000
section
set_option maxRecDepth 100000
open Go.Shelf
def Tryz.laysM171_ren : Go.Shelf.Ren := ⟨fun | 171 => 35 | 243 => 72 | 246 => 101 | 283 => 126 | 284 => 127 | 285 => 128 | 286 => 129 | 129 => 149 | 317 => 148 | 318 => 150 | 319 => 151 | 320 => 152 | 337 => 157 | 338 => 158 | n => n, fun | 3 => 3 | 9 => 9 | 2 => 2 | 4 => 4 | 171 => 141 | 0 => 0 | 53 => 142 | 37 => 34 | 5 => 5 | 173 => 145 | 212 => 155 | 51 => 156 | 20 => 20 | 213 => 157 | 46 => 158 | 232 => 164 | 233 => 165 | n => n, fun | 17 => 0 | 18 => 2 | 19 => 3 | n => n⟩
theorem Tryz.laysM171 : Go.Proofs.LaysM.n171 Tryz.prog Tryz.laysM171_ren := {
 mixed := by kernel_rfl
 f129 := Tryz.func149.trans (congrArg some (by kernel_rfl))
 f171 := Tryz.func35.trans (congrArg some (by kernel_rfl))
 f243 := Tryz.func72.trans (congrArg some (by kernel_rfl))
 f246 := Tryz.func101.trans (congrArg some (by kernel_rfl))
 f283 := Tryz.func126.trans (congrArg some (by kernel_rfl))
 f284 := Tryz.func127.trans (congrArg some (by kernel_rfl))
 f285 := Tryz.func128.trans (congrArg some (by kernel_rfl))
 f286 := Tryz.func129.trans (congrArg some (by kernel_rfl))
 f317 := Tryz.func148.trans (congrArg some (by kernel_rfl))
 f318 := Tryz.func150.trans (congrArg some (by kernel_rfl))
 f319 := Tryz.func151.trans (congrArg some (by kernel_rfl))
 f320 := Tryz.func152.trans (congrArg some (by kernel_rfl))
 f337 := Tryz.func157.trans (congrArg some (by kernel_rfl))
 f338 := Tryz.func158.trans (congrArg some (by kernel_rfl))
 t0 := Tryz.underlying0
 a0 := Tryz.isAgg0
 z0 := Tryz.sizeOf0
 v0 := Tryz.zeroValue0
 t2 := Tryz.underlying2
 a2 := Tryz.isAgg2
 z2 := Tryz.sizeOf2
 v2 := Tryz.zeroValue2
 t3 := Tryz.underlying3
 a3 := Tryz.isAgg3
 z3 := Tryz.sizeOf3
 v3 := Tryz.zeroValue3
 t4 := Tryz.underlying4
 a4 := Tryz.isAgg4
 z4 := Tryz.sizeOf4
 v4 := Tryz.zeroValue4
 t5 := Tryz.underlying5
 a5 := Tryz.isAgg5
 z5 := Tryz.sizeOf5
 v5 := Tryz.zeroValue5
 t9 := Tryz.underlying9
 a9 := Tryz.isAgg9
 z9 := Tryz.sizeOf9
 v9 := Tryz.zeroValue9
 t20 := Tryz.underlying20
 a20 := Tryz.isAgg20
 z20 := Tryz.sizeOf20
 v20 := Tryz.zeroValue20
 t37 := Tryz.underlying34
 a37 := Tryz.isAgg34
 z37 := Tryz.sizeOf34
 v37 := Tryz.zeroValue34
 t46 := Tryz.underlying158
 a46 := Tryz.isAgg158
 z46 := Tryz.sizeOf158
 v46 := Tryz.zeroValue158
 t51 := Tryz.underlying156
 a51 := Tryz.isAgg156
 z51 := Tryz.sizeOf156
 v51 := Tryz.zeroValue156
 t53 := Tryz.underlying142
 a53 := Tryz.isAgg142
 z53 := Tryz.sizeOf142
 v53 := Tryz.zeroValue142
 t171 := Tryz.underlying141
 a171 := Tryz.isAgg141
 z171 := Tryz.sizeOf141
 v171 := Tryz.zeroValue141
 t173 := Tryz.underlying145
 a173 := Tryz.isAgg145
 z173 := Tryz.sizeOf145
 v173 := Tryz.zeroValue145
 t212 := Tryz.underlying155
 a212 := Tryz.isAgg155
 z212 := Tryz.sizeOf155
 v212 := Tryz.zeroValue155
 t213 := Tryz.underlying157
 a213 := Tryz.isAgg157
 z213 := Tryz.sizeOf157
 t232 := Tryz.underlying164
 a232 := Tryz.isAgg164
 z232 := Tryz.sizeOf164
 v232 := Tryz.zeroValue164
 t233 := Tryz.underlying165
 a233 := Tryz.isAgg165
 z233 := Tryz.sizeOf165
 v233 := Tryz.zeroValue165
 g17 := by kernel_rfl
 g18 := by kernel_rfl
 g19 := by kernel_rfl
 i0 := by kernel_rfl
 i2 := by kernel_rfl
 i3 := by kernel_rfl
 i4 := by kernel_rfl
 i5 := by kernel_rfl
 i9 := by kernel_rfl
 i20 := by kernel_rfl
 i37 := by kernel_rfl
 i46 := by kernel_rfl
 i51 := by kernel_rfl
 i53 := by kernel_rfl
 i171 := by kernel_rfl
 i173 := by kernel_rfl
 i212 := by kernel_rfl
 i232 := by kernel_rfl
 i233 := by kernel_rfl
 m17 := by kernel_rfl
 m18 := by kernel_rfl
 m19 := by kernel_rfl }
open Go.RowKit Go.Sort Go.Lib in
theorem Tryz.strconv_Itoa (n : Int) (h0 : -9223372036854775808 ≤ n) (h1 : n ≤ 9223372036854775807) (w : World) (htab : Lib.TabIs Tryz.prog w "internal/strconv.uint64pow10" .u64 Lib.pow10Tab) :
  Calls Tryz.prog 35 #[.int .i64 n] w fun e w' => e = .returned (.string ⟨(Lib.itoa n).toArray⟩) ∧ ∃ k os, w' = grow (w.drewN k) os := Any.strconv_Itoa Tryz.laysM171 n h0 h1 w htab
end
set_option linter.unusedVariables false
set_option maxHeartbeats 4000000
section
open Go.RowKit
def bp (used : Bool) (id : Nat) : AV := match used with
 | true => .lp id 0
 | false => .v (.pointer none)
def wrH (used : Bool) (es : List Tm) (names : List Bs) (l : Bs) : List (Nat × Option LObj) := [(1001, some (.tcells 108 [bp used 1001, .ls 1003 1 l.length, ybk es, ybh names])), (1003, some (.tvec 5 (yds l)))]
theorem ydx : Tryz.prog.underlying 52 = some (.pointer 54) := Tryz.underlying52
theorem yrn {u v : Bool} {es : List Tm} {names : List Bs} {l m : Bs} {N : Nat} (hN : Nat.ble N 1001 = true) : ∀ id o, yaf (wrH v es names m) id = some o → isC o = true → N ≤ id ∧ ∃ o', yaf (wrH u es names l) id = some o' ∧ isC o' = true := by
 intro id o ho hc
 simp only [Nat.ble_eq] at hN
 simp only [wrH, yaf] at ho ⊢
 cases h1 : Nat.beq id 1001 with
 | true =>
  have := Nat.eq_of_beq_eq_true h1
  exact ⟨by omega, _, rfl, rfl⟩
 | false =>
  simp only [h1] at ho
  cases h2 : Nat.beq id 1003 with
  | true => simp only [h2, Option.some.injEq] at ho; subst ho; cases hc
  | false => simp only [h2] at ho; cases ho
theorem yiu (u : Bool) (es : List Tm) (names : List Bs) (l : Bs) : yhb Tryz.prog 34 [.lp 1001 0] (yaf (wrH u es names l)) (.tup []) (yaf (wrH true es names l)) := by
 refine ybb tok Tryz.func34 rfl rfl Tryz.ntmps34 Tryz.results34 rfl (yrn rfl) ?_
 show A _ _ _ _ (S _ _)
 cases u
 ·(repeat (first | refine zy ?_ | refine ycf (ymu ydx rfl rfl) rfl rfl ?_))
  refine ycf (yju (te := 108) (xs := [bp false 1001, .ls 1003 1 l.length, ybk es, ybh names]) (t0 := 54) ydx Tryz.underlying103 (by kernel_rfl) rfl rfl (Nat.zero_lt_succ _)) rfl rfl ?_
  (repeat (first | refine zy ?_ | refine ycf (ymu ydx rfl rfl) rfl rfl ?_ | refine ycf (yju (t0 := 54) ydx Tryz.underlying103 (by kernel_rfl) rfl rfl (Nat.zero_lt_succ _)) rfl rfl ?_ | refine ycf (ypb (t0 := 54) Tryz.underlying103 ydx (by kernel_rfl) rfl rfl (by simp) (by kernel_rfl)) rfl rfl ?_ | refine ycf (yrz Tryz.func71 (by kernel_rfl) (by kernel_rfl) (by kernel_rfl) (by kernel_rfl) rfl) rfl rfl ?_ | refine yqp tok rfl rfl rfl rfl rfl rfl (by simp) rfl rfl rfl ?_))
  exact ⟨_, rfl, yam _, yaj (yab rfl (yab rfl yai))⟩
 ·(repeat (first | refine zy ?_ | refine ycf (zct ydx rfl rfl rfl) rfl rfl ?_ | refine ycf (zcv ydx (by kernel_rfl) rfl rfl rfl) rfl rfl ?_))
  exact ⟨_, rfl, yam _, yaj (yab rfl (yab rfl yai))⟩
def lfU (o : Oper) : Bool := zql o.op || match o.op with
 | .call ⟨.builtin .unsafeString, _, _⟩ => true
 | _ => false
def lfB (o : Oper) : Bool := zql o.op || match o.op with
 | .call ⟨.value (.func 19), _, _⟩ => true
 | _ => false
theorem yaq (u : Bool) (es : List Tm) (names : List Bs) (l : Bs) (s : ByteArray) (hl : l.length + s.size ≤ 1000000) : yhb Tryz.prog 19 [.lp 1001 0, ycj s] (yaf (wrH u es names l)) (.tup [i64 s.size, .v .nilIface]) (yaf (wrH true es names (l ++ bl s))) := by
 refine ybb tok Tryz.func19 rfl rfl Tryz.ntmps19 Tryz.results19 rfl (yrn rfl) ?_
 show A _ _ _ _ (S _ _)
 (try refine zy ?_)
 cases u
 all_goals
  first | refine yek [(1001, 1001), (1003, 1003)] (yiu false es names l) rfl rfl rfl rfl rfl rfl rfl (yab rfl (yab rfl yai)) rfl rfl rfl rfl rfl rfl ?_ | refine yek [(1001, 1001), (1003, 1003)] (yiu true es names l) rfl rfl rfl rfl rfl rfl rfl (yab rfl (yab rfl yai)) rfl rfl rfl rfl rfl rfl ?_
  (try refine zy ?_)
  refine yzt tok rfl rfl rfl rfl rfl (by simp [yqs]) rfl (by omega) rfl rfl rfl rfl rfl ?_
  (repeat (first | refine zy ?_ | refine yqp tok rfl rfl rfl rfl rfl rfl (by simp) rfl rfl rfl ?_))
  refine yal ?_
  refine ⟨_, rfl, yam _, yaj (yab ?_ (yab ?_ yai))⟩
  ·have e : l.length + s.size = (l ++ bl s).length := by simp [bl, ← ByteArray.size_data]
   rw [← e]; rfl
  ·have e : yds (l ++ bl s) = yds l ++ yds s.data.toList := by rw [yvs]; rfl
   rw [e]; rfl
theorem ylu (u : Bool) (es : List Tm) (names : List Bs) (l : Bs) (s : ByteArray) (hl : l.length + s.size ≤ 1000000) : ztq (KD Tryz.prog 19 .returning .returning) [.lp 1001 0, ycj s] (yaf (wrH u es names l)) (.tup [i64 s.size, .v .nilIface]) (yaf (wrH true es names (l ++ bl s))) := by
 refine conKD_of tok .returning Tryz.func19 rfl Tryz.ntmps19 Tryz.results19 rfl (yrn rfl) ?_
 show A _ _ _ _ (S _ _)
 (try refine zy ?_)
 cases u
 all_goals
  first | refine yek [(1001, 1001), (1003, 1003)] (yiu false es names l) rfl rfl rfl rfl rfl rfl rfl (yab rfl (yab rfl yai)) rfl rfl rfl rfl rfl rfl ?_ | refine yek [(1001, 1001), (1003, 1003)] (yiu true es names l) rfl rfl rfl rfl rfl rfl rfl (yab rfl (yab rfl yai)) rfl rfl rfl rfl rfl rfl ?_
  (try refine zy ?_)
  refine yzt tok rfl rfl rfl rfl rfl (by simp [yqs]) rfl (by omega) rfl rfl rfl rfl rfl ?_
  (repeat (first | refine zy ?_ | refine yqp tok rfl rfl rfl rfl rfl rfl (by simp) rfl rfl rfl ?_))
  refine yal ?_
  refine ⟨_, rfl, yam _, yaj (yab ?_ (yab ?_ yai))⟩
  ·have e : l.length + s.size = (l ++ bl s).length := by simp [bl, ← ByteArray.size_data]
   rw [← e]; rfl
  ·have e : yds (l ++ bl s) = yds l ++ yds s.data.toList := by rw [yvs]; rfl
   rw [e]; rfl
theorem w_string_con (u : Bool) (es : List Tm) (names : List Bs) (l : Bs) (h0 : l ≠ []) (hl : l.length ≤ 1000000) : yhb Tryz.prog 22 [.lp 1001 0] (yaf (wrH u es names l)) (ycj (ba l)) (yaf []) := by
 refine ybb tok Tryz.func22 rfl rfl Tryz.ntmps22 Tryz.results22 rfl (fun id o h => by simp [yaf] at h) ?_
 show A _ _ _ _ (S _ _)
 obtain ⟨x, r, rfl⟩ : ∃ x r, l = x :: r := by cases l with | nil => exact absurd rfl h0 | cons x r => exact ⟨x, r, rfl⟩
 (try refine zw ?_)
 refine ybp (lf := lfU) mixed (by kernel_rfl) rfl ?_
 (repeat (first | refine zw ?_ | refine yzu rfl rfl (by simp) rfl rfl ?_))
 refine yrr (l := x :: r) Tryz.underlying79 (by kernel_rfl) rfl rfl rfl (by simp) (by omega) rfl rfl rfl ?_
 (try refine zw ?_)
 refine yal ?_
 exact ⟨_, rfl, yam _, fun id o h => by cases h⟩
theorem w_len_con (u : Bool) (es : List Tm) (names : List Bs) (l : Bs) (hl : l.length ≤ 1000000) : yhb Tryz.prog 76 [.lp 1001 0] (yaf (wrH u es names l)) (i64 l.length) (yaf (wrH u es names l)) := by
 refine ybb tok Tryz.func76 rfl rfl Tryz.ntmps76 Tryz.results76 rfl (yrn rfl) ?_
 show A _ _ _ _ (S _ _)
 (repeat (first | refine zy ?_ | refine L_lenI tok rfl rfl rfl rfl rfl ?_))
 refine yal ?_
 exact ⟨_, rfl, yam _, yaj (yab rfl (yab rfl yai))⟩
theorem zms (n : Int) (h0 : -9223372036854775808 ≤ n) (h1 : n ≤ 9223372036854775807) : Con Tryz.prog 35 [i64 n] (ycj (ba (Lib.itoa n))) := by
 refine ⟨⟨_, Tryz.func35, rfl, rfl⟩, rfl, fun ok0 w us hG hok h => ?_⟩
 obtain ⟨u, rfl, h2⟩ := ynb h
 cases h2
 refine (Tryz.strconv_Itoa n h0 h1 w hG).mono ?_
 rintro e w' ⟨rfl, k, os, rfl⟩
 refine ⟨_, rfl, .v _, ⟨rfl, rfl, rfl, ?_, fun j hj => ?_⟩⟩
 ·show w.heap.size ≤ (w.heap ++ os).size
  rw [Array.size_append]; omega
 ·show (w.heap ++ os)[j]? = w.heap[j]?
  rw [Array.getElem?_append_left hj]
end
section
open Go.RowKit
def zmt (y : AV) : Bool := match ment 1003 y with
 | true => false
 | false => match ment 1001 y with
  | false => true
  | true => match y with
   | .lp _ _ => true
   | _ => false
def zsa : List (Nat × AV) → Bool
 | [] => true
 | (_, y) :: t => match zmt y with
  | true => zsa t
  | false => false
theorem zqh {u : Bool} {es : List Tm} {names : List Bs} {l : Bs} : ∀ {t : List (Nat × AV)}, zsa t = true → yhd [(1001, 1001), (1003, 1003)] (wrH u es names l) t = t
 | [], _ => rfl
 | (x, y) :: t, h => by
  simp only [zsa] at h
  have hk : zmt y = true → zfx [(1001, 1001), (1003, 1003)] (wrH u es names l) y = true := by
   intro hy
   simp only [zmt] at hy
   simp only [zfx, ysv, ycv]
   cases h3 : ment 1003 y with
   | true => rw [h3] at hy; cases hy
   | false =>
    rw [h3] at hy
    cases h1 : ment 1001 y with
    | false => rfl
    | true =>
     simp only [h1] at hy
     cases y with
     | lp j off =>
      have e : j = 1001 := Nat.eq_of_beq_eq_true h1
      subst e
      rfl
     | _ => cases hy
  cases ho : zmt y with
  | false => rw [ho] at h; cases h
  | true =>
   rw [ho] at h
   simp only [yhd, hk ho]
   rw [zqh h]
theorem zgl (u : Bool) (es : List Tm) (names : List Bs) (l : Bs) : zot [(1001, 1001), (1003, 1003)] (wrH u es names l) = wrH u es names l := by cases u <;> rfl
section
variable {N : Nat} {ops : Array Oper} {lf : Oper → Bool} {Q : SS → Prop} {t : List (Nat × AV)} {h : List (Nat × Option LObj)} {rest : List Oper} {d : Nat} {ty : TypeId} {pos : String} {af : Array Edge} {gd : Option (Nat × Bool)}
theorem yof {u u' : Bool} {es : List Tm} {names : List Bs} {l l' : Bs} {g : Operand} {args : List Operand} {ats : Array TypeId} {f : FuncId} {args0 : List AV} {r : AV} {h' : List (Nat × Option LObj)} (hc : yhb Tryz.prog f (.lp 1001 0 :: args0) (yaf (wrH u es names l)) r (yaf (wrH u' es names l'))) (hp : ybc.pureL args0 = true) (hpr : ybc r = true) (hg : evF (look t) g = some (.fn f [])) (hx : evL (evF (look t)) args = some (.lp 1001 0 :: args0))
  (hb : zdd h (wrH u es names l)) (hk : zsa t = true) (hh : yim [1001, 1003] (ynj [1001, 1003] h) = some h') (hl : lf ⟨some d, .call { callee := .value g, args := args.toArray, argTypes := ats }, ty, pos, af, gd⟩ = true) (hw : yan ops (look t) ⟨some d, .call { callee := .value g, args := args.toArray, argTypes := ats }, ty, pos, af, gd⟩ = some true) (hd : Nat.blt d N = true)
  (k : Lex Tryz.prog N ops lf Q rest (S ((d, r) :: t) (wrH u' es names l' ++ h'))) : Lex Tryz.prog N ops lf Q (⟨some d, .call { callee := .value g, args := args.toArray, argTypes := ats }, ty, pos, af, gd⟩ :: rest) (S t h) := by
 refine yek [(1001, 1001), (1003, 1003)] hc hg hx ?_ rfl rfl rfl (by cases u' <;> rfl) (by rw [zgl]; exact hb) (ytc hpr) (by cases u' <;> rfl) hh hl hw hd ?_
 ·simp only [List.append_nil, List.map_cons, ygc, yey]
  congr 1
  rw [← ycu, ywm.rows hp]
 ·rw [zqh hk, ywm hpr]
  have e : ylz [(1001, 1001), (1003, 1003)] (wrH u' es names l') [(1001, 1001), (1003, 1003)] = wrH u' es names l' := by cases u' <;> rfl
  rw [e]
  exact k
end
theorem zmn {u : Bool} {es : List Tm} {names : List Bs} {l : Bs} {d : Nat} (h : Nat.blt d 1000 = true) : yen d (wrH u es names l) = true := by
 simp only [Nat.blt_eq] at h
 have h1 : Nat.beq d 1001 = false := ygk (by omega)
 have h2 : Nat.beq d 1003 = false := ygk (by omega)
 have h3 : Nat.beq 1001 d = false := ygk (by omega)
 have h4 : Nat.beq 1003 d = false := ygk (by omega)
 have h5 : ment d (bp u 1001) = false := by cases u; rfl; exact h3
 simp [yen, wrH, h1, h2, h4, ygr, ment.mentL, h5, ybk, ybh, ment]
theorem ybz {u : Bool} {es : List Tm} {names : List Bs} {l : Bs} {h : List (Nat × Option LObj)} (h1 : yaf h 1001 = yaf (wrH u es names l) 1001) (h2 : yaf h 1003 = yaf (wrH u es names l) 1003) : zdd h (wrH u es names l) := yab (h1.trans rfl) (yab (h2.trans rfl) yai)
theorem zok (op : Int) : Con Tryz.prog 134 [i64 op] (ygx (ymb op)) :=
 yee ⟨_, Tryz.func134, rfl, rfl⟩ fun w us ok hok hr => by
  obtain ⟨u, rfl, h1⟩ := ynb hr
  cases h1
  exact (yig op w).mono fun e w' ⟨h1, h2⟩ => ⟨h1, h2 ▸ Below.refl _ _⟩
theorem ypk (a b : ByteArray) : bl (a ++ b) = bl a ++ bl b := by simp [bl, ByteArray.data_append]
section
variable {u : Bool} {es : List Tm} {names : List Bs} {l : Bs}
theorem field_len : ∀ w ∈ ynn, w.length ≤ 24 := by decide
theorem const_len : ∀ w ∈ ymh, w.length ≤ 24 := by decide
theorem primary_lf {t : Tm} {k : Nat} (hk : es[k]? = some t) (hes : es.length ≤ 1000) (ht : ar t.1 = 0) (ha : yhl names.length t = true) (hn : ∀ w ∈ names, w.length ≤ 24) (hl : l.length ≤ 900000) : yhb Tryz.prog 108 [.lp 1001 0, i64 k] (yaf (wrH u es names l)) (i64 (k + 1 : Nat)) (yaf (wrH true es names (l ++ ykr names t))) := by
 have hlt : k < es.length := (List.getElem?_eq_some_iff.1 hk).1
 refine ybb tok Tryz.func108 rfl rfl Tryz.ntmps108 Tryz.results108 rfl (yrn rfl) ?_
 show A _ _ _ _ (S _ _)
 have har : 1 ≤ t.1 ∧ t.1 ≤ 17 := by unfold ar at ht; (repeat' split at ht) <;> omega
 have hagg : ymb t.1 = false := by simp only [ymb, decide_eq_false (show ¬ 20 ≤ t.1 by omega), Bool.false_and]
 (repeat (first | refine zy ?_ | refine zA (h2 := zmn rfl) ?_ | refine yah rfl rfl (zok t.1) rfl rfl ?_))
 rw [hagg]
 (try refine zy ?_)
 refine yag rfl (fun h1 => ?_) (fun h1 => ?_)
 ·have h1 : t.1 = 1 := by simpa using h1
  have hv : 0 ≤ t.2 ∧ t.2 ≤ 1073741824 := by simpa [yhl, h1] using ha
  have e1 : Lib.itoa t.2 = dec t.2.toNat := by unfold Lib.itoa; rw [if_neg (by omega)]
  have hdl : (dec t.2.toNat).length ≤ 26 := by have := (zmv hn ht ha).1; rwa [ykr, if_pos h1] at this
  have e2 : bl (ba (Lib.itoa t.2)) = ykr names t := by rw [yde, e1, ykr, if_pos h1]
  refine zt ?_
  refine ybp (lf := lfB) mixed (by kernel_rfl) rfl ?_
  (repeat (first | refine zo ?_ | refine yah rfl rfl (zms t.2 (by omega) (by omega)) rfl rfl ?_))
  refine yof (yaq u es names l (ba (Lib.itoa t.2)) (by rw [yar, e1]; omega)) rfl rfl rfl rfl (ybz rfl rfl) rfl rfl rfl rfl rfl ?_
  (try refine zy ?_)
  rw [e2]
  refine yal ?_
  exact ⟨_, rfl, yam _, yaj (ybz rfl rfl)⟩
 have h1 : t.1 ≠ 1 := by simpa using h1
 (try refine zy ?_)
 refine yag rfl (fun h2 => ?_) (fun h2 => ?_)
 ·have h2 : t.1 = 5 := by simpa using h2
  have hv : 0 ≤ t.2 ∧ t.2 < names.length := by simpa [yhl, h2] using ha
  obtain ⟨w, hw⟩ := yyl (show t.2.toNat < names.length by omega)
  have hwl := hn w (List.mem_of_getElem? hw)
  have e2 : bl (ba w) = ykr names t := by rw [yde, ykr, if_neg h1, if_pos h2, yfn, hw]; rfl
  refine zt ?_
  refine ybp (lf := lfB) mixed (by kernel_rfl) rfl ?_
  (repeat (first | refine zo ?_ | refine yas tok rfl rfl rfl (by omega) (ygt hw) rfl rfl ?_))
  refine yof (yaq u es names l (ba w) (by rw [yar]; omega)) rfl rfl rfl rfl (ybz rfl rfl) rfl rfl rfl rfl rfl ?_
  (try refine zy ?_)
  rw [e2]
  refine yal ?_
  exact ⟨_, rfl, yam _, yaj (ybz rfl rfl)⟩
 have h2 : t.1 ≠ 5 := by simpa using h2
 (try refine zy ?_)
 refine yag rfl (fun h3 => ?_) (fun h3 => ?_)
 ·have h3 : t.1 = 11 := by simpa using h3
  have e2 : bl (ba [113]) = ykr names t := by rw [yde, ykr, if_neg h1, if_neg h2, if_pos h3]
  (repeat (first | refine zy ?_ | refine yof (yaq u es names l (ba [113]) (by rw [yar]; simp; omega)) rfl rfl rfl rfl (ybz rfl rfl) rfl rfl rfl rfl rfl ?_))
  rw [e2]
  refine yal ?_
  exact ⟨_, rfl, yam _, yaj (ybz rfl rfl)⟩
 have h3 : t.1 ≠ 11 := by simpa using h3
 (try refine zy ?_)
 refine yag rfl (fun h4 => ?_) (fun h4 => ?_)
 ·have h4 : t.1 = 12 := by simpa using h4
  have hv : 0 ≤ t.2 ∧ t.2 < names.length := by simpa [yhl, h4] using ha
  obtain ⟨w, hw⟩ := yyl (show t.2.toNat < names.length by omega)
  have hwl := hn w (List.mem_of_getElem? hw)
  have e2 : bl (ba [113, 46] ++ ba w) = ykr names t := by rw [ypk, yde, yde, ykr, if_neg h1, if_neg h2, if_neg h3, if_pos h4, yfn, hw]; rfl
  refine zt ?_
  refine ybp (lf := lfB) mixed (by kernel_rfl) rfl ?_
  (repeat (first | refine zo ?_ | refine yas tok rfl rfl rfl (by omega) (ygt hw) rfl rfl ?_))
  refine ygo (a := ba [113, 46]) (b := ba w) rfl rfl (by rw [yar, yar]; simp; omega) rfl rfl ?_
  refine yof (yaq u es names l (ba [113, 46] ++ ba w) (by rw [ByteArray.size_append, yar, yar]; simp; omega)) rfl rfl rfl rfl (ybz rfl rfl) rfl rfl rfl rfl rfl ?_
  (try refine zy ?_)
  rw [e2]
  refine yal ?_
  exact ⟨_, rfl, yam _, yaj (ybz rfl rfl)⟩
 have h4 : t.1 ≠ 12 := by simpa using h4
 (try refine zy ?_)
 refine yag rfl (fun h5 => ?_) (fun h5 => ?_)
 ·have h5 : 13 ≤ t.1 := by simpa using h5
  obtain ⟨w, hw⟩ := yyl (l := ynn) (k := (t.1 - 13).toNat) (by show _ < 5; omega)
  have hwl : w.length ≤ 24 := field_len w (List.mem_of_getElem? hw)
  have e2 : bl (ba [113, 46] ++ ba w) = ykr names t := by rw [ypk, yde, yde, ykr, if_neg h1, if_neg h2, if_neg h3, if_neg h4, if_pos h5, zdr, hw]; rfl
  refine zt ?_
  refine ybp (lf := lfB) mixed (by kernel_rfl) rfl ?_
  (repeat (first | refine zo ?_ | refine yah rfl rfl yru rfl rfl ?_ | refine yas tok rfl rfl rfl (by omega) (ygt hw) rfl rfl ?_))
  refine ygo (a := ba [113, 46]) (b := ba w) rfl rfl (by rw [yar, yar]; simp; omega) rfl rfl ?_
  refine yof (yaq u es names l (ba [113, 46] ++ ba w) (by rw [ByteArray.size_append, yar, yar]; simp; omega)) rfl rfl rfl rfl (ybz rfl rfl) rfl rfl rfl rfl rfl ?_
  (try refine zy ?_)
  rw [e2]
  refine yal ?_
  exact ⟨_, rfl, yam _, yaj (ybz rfl rfl)⟩
 have h5 : ¬ 13 ≤ t.1 := by simpa using h5
 obtain ⟨w, hw⟩ := yyl (l := ymh) (k := (t.1 - 2).toNat) (by show _ < 9; omega)
 have hwl : w.length ≤ 24 := const_len w (List.mem_of_getElem? hw)
 have e2 : bl (ba w) = ykr names t := by rw [yde, ykr, if_neg h1, if_neg h2, if_neg h3, if_neg h4, if_neg h5, zae, hw]; rfl
 refine zt ?_
 refine ybp (lf := lfB) mixed (by kernel_rfl) rfl ?_
 (repeat (first | refine zo ?_ | refine yah rfl rfl yni rfl rfl ?_ | refine yas tok rfl rfl rfl (by omega) (ygt hw) rfl rfl ?_))
 refine yof (yaq u es names l (ba w) (by rw [yar]; omega)) rfl rfl rfl rfl (ybz rfl rfl) rfl rfl rfl rfl rfl ?_
 (try refine zy ?_)
 rw [e2]
 refine yal ?_
 exact ⟨_, rfl, yam _, yaj (ybz rfl rfl)⟩
end
end
section
open Go.RowKit
def AtE (es : List Tm) (k : Nat) (E : Ex) : Prop := E.fl <+: es.drop k
theorem fl_pos (E : Ex) : 1 ≤ E.fl.length := by cases E <;> simp [Ex.fl] <;> omega
theorem AtE.bound {es : List Tm} {k : Nat} {E : Ex} (h : AtE es k E) : k + E.fl.length ≤ es.length := by
 have h1 := h.length_le
 have h2 := fl_pos E
 rw [List.length_drop] at h1
 omega
theorem AtE.head {es : List Tm} {k : Nat} {E : Ex} {t : Tm} {r : List Tm} (h : AtE es k E) (hE : E.fl = t :: r) : es[k]? = some t := by
 obtain ⟨p, hp⟩ := h
 rw [hE] at hp
 have := congrArg (fun l => l[0]?) hp
 simpa using this.symm
theorem AtE.tail {es : List Tm} {k : Nat} {t : Tm} {x y : List Tm} (h : (t :: (x ++ y)) <+: es.drop k) : x <+: es.drop (k + 1) ∧ y <+: es.drop (k + 1 + x.length) := by
 obtain ⟨p, hp⟩ := h
 have h1 : es.drop (k + 1) = x ++ (y ++ p) := by
  rw [← List.tail_drop, ← hp]; simp
 refine ⟨⟨y ++ p, h1.symm⟩, ⟨p, ?_⟩⟩
 rw [← List.drop_drop, h1]
 simp
def yox (es : List Tm) (names : List Bs) (E : Ex) : Prop := ∀ (k level : Nat) (u : Bool) (l : Bs), level ≤ 6 → AtE es k E → l.length + 40 * E.fl.length ≤ 900000 → yhb Tryz.prog 75 [.lp 1001 0, i64 k, i64 level] (yaf (wrH u es names l)) (i64 (k + E.fl.length : Nat)) (yaf (wrH true es names (l ++ brT (ybr level E) (ybi false names E))))
section
variable {es : List Tm} {names : List Bs}
theorem zko (hn : ∀ w ∈ names, w.length ≤ 24) {E : Ex} (hE : E.ok) (ha : ∀ t ∈ E.fl, yhl names.length t = true) (b : Bool) : (brT b (ybi false names E)).length ≤ 34 * E.fl.length := by
 have h1 := (yfb hn false E hE ha).1
 have h2 := ysf b (ybi false names E)
 omega
theorem lev_un {op : Int} (h : op = 18 ∨ op = 19) : yfg op = 6 := by rcases h with rfl | rfl <;> decide
theorem zsu {op : Int} (h : 30 ≤ op ∧ op ≤ 42) : 1 ≤ yfg op ∧ yfg op ≤ 5 := by
 obtain ⟨k, hk⟩ := ypr (n := 13) h.1 (by omega)
 have := zpk k
 rw [hk]
 exact ⟨this.2.2.1, this.2.2.2.1⟩
theorem zuw {op : Int} (h : ar op = 1) : 18 ≤ op ∧ op ≤ 29 := by unfold ar at h; (repeat' split at h) <;> omega
theorem zuu {op : Int} (h : ar op = 2) : 30 ≤ op ∧ op ≤ 42 := by unfold ar at h; (repeat' split at h) <;> omega
theorem zuv {op : Int} (h : ar op = 3) : op = 43 := by unfold ar at h; (repeat' split at h) <;> omega
theorem bin_len : ∀ w ∈ zkn, w.length ≤ 2 := by decide
theorem agg_len : ∀ w ∈ zkd, w.length ≤ 6 := by decide
theorem primary_agg {t : Tm} {a : Ex} {u : Bool} {l : Bs} {k : Nat} (ht : 20 ≤ t.1 ∧ t.1 ≤ 29) (hes : es.length ≤ 1000) (hn : ∀ w ∈ names, w.length ≤ 24) (hE : a.ok) (ha : ∀ x ∈ a.fl, yhl names.length x = true) (hat : AtE es k (.un t a)) (iha : yox es names a) (hl : l.length + 40 * (Ex.un t a).fl.length ≤ 900000) : yhb Tryz.prog 108 [.lp 1001 0, i64 k] (yaf (wrH u es names l)) (i64 (k + (Ex.un t a).fl.length : Nat)) (yaf (wrH true es names (l ++ ybi false names (.un t a)))) := by
 have hk := hat.head rfl
 have hbd := hat.bound
 have hlt : k < es.length := (List.getElem?_eq_some_iff.1 hk).1
 have hata : AtE es (k + 1) a := (AtE.tail (y := []) (by have h : (t :: a.fl) <+: es.drop k := hat; simpa using h)).1
 simp only [Ex.fl, List.length_cons] at hl hbd
 have hagg : ymb t.1 = true := by simp [ymb, ht.1, ht.2]
 obtain ⟨w, hw⟩ := yyl (l := zkd) (k := (t.1 - 20).toNat) (by show _ < 10; omega)
 have hwl := agg_len w (List.mem_of_getElem? hw)
 have hwE : zrv t.1 = w := by rw [zrv, hw]; rfl
 have ca := iha (k + 1) 0 true (l ++ (w ++ [40])) (by omega) hata (by simp only [List.length_append, List.length_cons, List.length_nil]; omega)
 have hlo : ybr 0 a = false := by simp [ybr]
 rw [hlo] at ca
 have hbl := zko hn hE ha false
 simp only [brT] at hbl ca
 have ee : l ++ (w ++ [40]) ++ ybi false names a ++ bl (ba [41]) = l ++ ybi false names (.un t a) := by
  rw [yde]
  simp only [ybi, hwE]
  rw [if_neg (by omega), if_neg (by omega)]
  simp
 have e1 : l ++ bl (ba w ++ ba [40]) = l ++ (w ++ [40]) := by rw [ypk, yde, yde]
 have er : k + 1 + a.fl.length = k + (Ex.un t a).fl.length := by simp only [Ex.fl, List.length_cons]; omega
 refine ybb tok Tryz.func108 rfl rfl Tryz.ntmps108 Tryz.results108 rfl (yrn rfl) ?_
 show A _ _ _ _ (S _ _)
 (repeat (first | refine zy ?_ | refine zA (h2 := zmn rfl) ?_ | refine yas tok rfl rfl rfl (by omega) (ybo hk) rfl rfl ?_ | refine yah rfl rfl (zok t.1) rfl rfl ?_))
 rw [hagg]
 (try refine zo ?_)
 refine zt ?_
 refine zT ?_
 refine zt ?_
 refine ybp (lf := lfB) mixed (by kernel_rfl) rfl ?_
 (repeat (first | refine zo ?_ | refine yah rfl rfl (ymc) rfl rfl ?_ | refine yas tok rfl rfl rfl (by omega) (ygt hw) rfl rfl ?_))
 refine ygo (a := ba w) (b := ba [40]) rfl rfl (by rw [yar, yar]; simp; omega) rfl rfl ?_
 refine yof (yaq u es names l (ba w ++ ba [40]) (by rw [ByteArray.size_append, yar, yar]; simp; omega)) rfl rfl rfl rfl (ybz rfl rfl) rfl rfl rfl rfl rfl ?_
 rw [e1]
 (repeat (first | refine zy ?_ | refine yof (ca) rfl rfl rfl rfl (ybz rfl rfl) rfl rfl rfl rfl rfl ?_ | refine yof (yaq true es names (l ++ (w ++ [40]) ++ ybi false names a) (ba [41]) (by rw [yar]; simp only [List.length_append, List.length_cons, List.length_nil]; omega)) rfl rfl rfl rfl (ybz rfl rfl) rfl rfl rfl rfl rfl ?_))
 rw [ee, er]
 refine yal ?_
 exact ⟨_, rfl, yam _, yaj (ybz rfl rfl)⟩
theorem write_lf {t : Tm} (hes : es.length ≤ 1000) (hn : ∀ w ∈ names, w.length ≤ 24) (hE : ar t.1 = 0) (ha : yhl names.length t = true) : yox es names (.lf t) := by
 intro k level u l hlev hat hl
 have hk := hat.head rfl
 have hlt : k < es.length := (List.getElem?_eq_some_iff.1 hk).1
 have h7 : yfg t.1 = 7 := zih (by unfold ar at hE; (repeat' split at hE) <;> omega)
 have hlo : ybr level (.lf t) = false := by simp [ybr, Ex.op, h7]; omega
 rw [hlo]
 have cp := primary_lf (u := u) (l := l) hk hes hE ha hn (by omega)
 refine ybb tok Tryz.func75 rfl rfl Tryz.ntmps75 Tryz.results75 rfl (yrn rfl) ?_
 show A _ _ _ _ (S _ _)
 (repeat (first | refine zy ?_ | refine yas tok rfl rfl rfl (by omega) (ybo hk) rfl rfl ?_ | refine yah rfl rfl (yea t.1) rfl rfl ?_))
 rw [h7]
 (try refine zy ?_)
 refine yag rfl (fun h9 => absurd h9 (by simp; omega)) (fun _ => ?_)
 (repeat (first | refine zy ?_ | refine yof (cp) rfl rfl rfl rfl (ybz rfl rfl) rfl rfl rfl rfl rfl ?_))
 refine yal ?_
 exact ⟨_, rfl, yam _, yaj (ybz rfl rfl)⟩
theorem write_un {t : Tm} {a : Ex} (hes : es.length ≤ 1000) (hn : ∀ w ∈ names, w.length ≤ 24) (ht : ar t.1 = 1) (hE : a.ok) (ha : ∀ x ∈ a.fl, yhl names.length x = true) (iha : yox es names a) : yox es names (.un t a) := by
 intro k level u l hlev hat hl
 have hk := hat.head rfl
 have hbd := hat.bound
 have hlt : k < es.length := (List.getElem?_eq_some_iff.1 hk).1
 have hata : AtE es (k + 1) a := (AtE.tail (y := []) (by have h : (t :: a.fl) <+: es.drop k := hat; simpa using h)).1
 have hop := zuw ht
 have er : k + 1 + a.fl.length = k + (Ex.un t a).fl.length := by simp only [Ex.fl, List.length_cons]; omega
 by_cases hagg : 20 ≤ t.1
 ·have h7 : yfg t.1 = 7 := zih (.inr ⟨hagg, hop.2⟩)
  have hlo : ybr level (.un t a) = false := by simp [ybr, Ex.op, h7]; omega
  rw [hlo]
  have cp := primary_agg (u := u) (l := l) ⟨hagg, hop.2⟩ hes hn hE ha hat iha hl
  refine ybb tok Tryz.func75 rfl rfl Tryz.ntmps75 Tryz.results75 rfl (yrn rfl) ?_
  show A _ _ _ _ (S _ _)
  (repeat (first | refine zy ?_ | refine yas tok rfl rfl rfl (by omega) (ybo hk) rfl rfl ?_ | refine yah rfl rfl (yea t.1) rfl rfl ?_))
  rw [h7]
  (try refine zy ?_)
  refine yag rfl (fun h9 => absurd h9 (by simp; omega)) (fun _ => ?_)
  (repeat (first | refine zy ?_ | refine yof (cp) rfl rfl rfl rfl (ybz rfl rfl) rfl rfl rfl rfl rfl ?_))
  refine yal ?_
  exact ⟨_, rfl, yam _, yaj (ybz rfl rfl)⟩
 simp only [Ex.fl, List.length_cons] at hl hbd
 have h6 : yfg t.1 = 6 := lev_un (by omega)
 have hlo : ybr level (.un t a) = false := by simp [ybr, Ex.op, h6]; omega
 rw [hlo]
 by_cases h18 : t.1 = 18
 ·have ca := iha (k + 1) 6 true (l ++ bl (ba [45])) (by omega) hata (by rw [yde]; simp only [List.length_append, List.length_cons, List.length_nil]; omega)
  have ee : l ++ bl (ba [45]) ++ brT (ybr 6 a) (ybi false names a) = l ++ brT false (ybi false names (.un t a)) := by rw [yde]; simp [ybi, h18, brT]
  refine ybb tok Tryz.func75 rfl rfl Tryz.ntmps75 Tryz.results75 rfl (yrn rfl) ?_
  show A _ _ _ _ (S _ _)
  (repeat (first | refine zy ?_ | refine yas tok rfl rfl rfl (by omega) (ybo hk) rfl rfl ?_ | refine yah rfl rfl (yea t.1) rfl rfl ?_))
  rw [h6]
  (try refine zy ?_)
  refine yag rfl (fun h9 => absurd h9 (by simp; omega)) (fun _ => ?_)
  (try refine zy ?_)
  refine yag rfl (fun _ => ?_) (fun h9 => absurd h9 (by simp [h18]))
  (repeat (first | refine zy ?_ | refine yof (yaq u es names l (ba [45]) (by rw [yar]; simp; omega)) rfl rfl rfl rfl (ybz rfl rfl) rfl rfl rfl rfl rfl ?_ | refine yof (ca) rfl rfl rfl rfl (ybz rfl rfl) rfl rfl rfl rfl rfl ?_))
  rw [ee, er]
  refine yal ?_
  exact ⟨_, rfl, yam _, yaj (ybz rfl rfl)⟩
 ·have h19 : t.1 = 19 := by omega
  have ca := iha (k + 1) 6 true (l ++ bl (ba [33])) (by omega) hata (by rw [yde]; simp only [List.length_append, List.length_cons, List.length_nil]; omega)
  have ee : l ++ bl (ba [33]) ++ brT (ybr 6 a) (ybi false names a) = l ++ brT false (ybi false names (.un t a)) := by rw [yde]; simp [ybi, h19, brT]
  refine ybb tok Tryz.func75 rfl rfl Tryz.ntmps75 Tryz.results75 rfl (yrn rfl) ?_
  show A _ _ _ _ (S _ _)
  (repeat (first | refine zy ?_ | refine yas tok rfl rfl rfl (by omega) (ybo hk) rfl rfl ?_ | refine yah rfl rfl (yea t.1) rfl rfl ?_))
  rw [h6]
  (try refine zy ?_)
  refine yag rfl (fun h9 => absurd h9 (by simp; omega)) (fun _ => ?_)
  (try refine zy ?_)
  refine yag rfl (fun h9 => absurd h9 (by simp [h19])) (fun _ => ?_)
  (repeat (first | refine zy ?_ | refine yof (yaq u es names l (ba [33]) (by rw [yar]; simp; omega)) rfl rfl rfl rfl (ybz rfl rfl) rfl rfl rfl rfl rfl ?_ | refine yof (ca) rfl rfl rfl rfl (ybz rfl rfl) rfl rfl rfl rfl rfl ?_))
  rw [ee, er]
  refine yal ?_
  exact ⟨_, rfl, yam _, yaj (ybz rfl rfl)⟩
theorem zge {t : List (Nat × AV)} {x : Nat} (h : yto 1000000 t = true) (hx : 1000000 ≤ x) : look t x = none := by
 cases hq : look t x with
 | none => rfl
 | some y => have := ynf h x y hq; omega
theorem write_bi {t : Tm} {a b : Ex} (hes : es.length ≤ 1000) (hn : ∀ w ∈ names, w.length ≤ 24) (ht : ar t.1 = 2) (hEa : a.ok) (hEb : b.ok) (hab0 : ∀ x ∈ (Ex.bi t a b).fl, yhl names.length x = true) (iha : yox es names a) (ihb : yox es names b) : yox es names (.bi t a b) := by
 intro k level u l hlev hat hl
 have haa : ∀ x ∈ a.fl, yhl names.length x = true := fun x hx => hab0 x (by simp [Ex.fl, hx])
 have hab : ∀ x ∈ b.fl, yhl names.length x = true := fun x hx => hab0 x (by simp [Ex.fl, hx])
 have hk := hat.head rfl
 have hbd := hat.bound
 have hlt : k < es.length := (List.getElem?_eq_some_iff.1 hk).1
 obtain ⟨hata, hatb⟩ := AtE.tail (show (t :: (a.fl ++ b.fl)) <+: es.drop k from hat)
 have hop := zuu ht
 have hv := zsu hop
 have er : k + 1 + a.fl.length + b.fl.length = k + (Ex.bi t a b).fl.length := by simp only [Ex.fl, List.length_cons, List.length_append]; omega
 have hll : l.length + 40 * (Ex.bi t a b).fl.length ≤ 900000 := hl
 simp only [Ex.fl, List.length_cons, List.length_append] at hl hbd hll
 obtain ⟨w, hw⟩ := yyl (l := zkn) (k := (t.1 - 30).toNat) (by show _ < 13; omega)
 have hwl := bin_len w (List.mem_of_getElem? hw)
 have hwE : zrx t.1 = w := by rw [zrx, hw]; rfl
 have hbla : ∀ c, (brT c (ybi false names a)).length ≤ 34 * a.fl.length := zko hn hEa haa
 by_cases hlo : yfg t.1 < level
 ·have hlo2 : ybr level (.bi t a b) = true := decide_eq_true hlo
  rw [hlo2]
  by_cases h3 : yfg t.1 = 3
  ·have ca := iha (k + 1) 4 true (l ++ bl (ba [40])) (by omega) hata (by rw [yde]; simp only [List.length_append, List.length_cons, List.length_nil]; omega)
   have cb := ihb (k + 1 + a.fl.length) (3 + 1) true ((l ++ bl (ba [40])) ++ brT (ybr 4 a) (ybi false names a) ++ bl (ba [32] ++ ba w ++ ba [32])) (by omega) hatb (by simp only [ypk, yde]; have := hbla (ybr 4 a); simp only [List.length_append, List.length_cons, List.length_nil]; omega)
   have ee : (l ++ bl (ba [40])) ++ brT (ybr 4 a) (ybi false names a) ++ bl (ba [32] ++ ba w ++ ba [32]) ++ brT (ybr (3 + 1) b) (ybi false names b) = (l ++ bl (ba [40])) ++ ybi false names (.bi t a b) := by
    simp only [ypk, yde]
    simp only [ybi, Bool.false_or, yuf, h3, if_true, hwE]
    simp
   have hblb := zko hn hEb hab false
   have hbl2 := yfb hn false (.bi t a b) ⟨ht, hEa, hEb⟩ hab0
   refine ytr tok Tryz.func75 rfl rfl Tryz.ntmps75 Tryz.results75 rfl (yrn rfl) ?_
   show AF _ _ _ _ (S _ _)
   refine ygu (ygf ?_)
   refine yac (lf := lfT) rfl ?_
   (try refine zo ?_)
   show AF _ _ _ _ (S _ _)
   refine ygu (ygf ?_)
   refine yac (lf := lfT) rfl ?_
   (repeat (first | refine zo ?_ | refine yas tok rfl rfl rfl (by omega) (ybo hk) rfl rfl ?_))
   show AF _ _ _ _ (S _ _)
   refine ygu (ygf ?_)
   refine yac (lf := lfT) rfl ?_
   (repeat (first | refine zo ?_ | refine yah rfl rfl (yea t.1) rfl rfl ?_))
   rw [h3]
   show AF _ _ _ _ (S _ _)
   refine ygu ?_
   refine ygu (ygf ?_)
   refine yac (lf := lfT) rfl ?_
   (try refine zo ?_)
   show AF _ _ _ _ (S _ _)
   refine zkh rfl (fun _ => ?_) (fun h9 => absurd h9 (by simp; omega))
   refine ygu (ygf ?_)
   refine yac (lf := lfT) rfl ?_
   (repeat (first | refine zo ?_ | refine yof (yaq u es names l (ba [40]) (by rw [yar]; simp; omega)) rfl rfl rfl rfl (ybz rfl rfl) rfl rfl rfl rfl rfl ?_))
   show AF _ _ _ _ (S _ _)
   refine ygg (lf := lfT) 3 rfl rfl rfl rfl rfl rfl (fun d h => by cases h) ?_
   (try refine zo ?_)
   refine ⟨rfl, _, _, _, ⟨_, Tryz.func19, rfl, rfl⟩, rfl, rfl, fun x hx => zge rfl hx, ?_⟩
   show Lex _ _ _ _ _ [] _
   refine .nil ?_
   show A _ _ _ _ _
   refine yzr (s' := S [(0, .lp 1001 0), (1, i64 k), (7, i64 t.1), (8, i64 (3 : Nat)), (1000000, .lp 1001 0), (1000001, ycj (ba [41]))] (wrH true es names (l ++ bl (ba [40])))) ?_ ⟨yoc ⟨rfl, rfl, rfl, rfl, rfl, rfl, trivial⟩, fun id x h => h⟩
   (try refine zy ?_)
   (repeat (first | refine zw ?_ | refine yof (ca) rfl rfl rfl rfl (ybz rfl rfl) rfl rfl rfl rfl rfl ?_))
   refine zt ?_
   refine ybp (lf := lfB) mixed (by kernel_rfl) rfl ?_
   (repeat (first | refine zo ?_ | refine yah rfl rfl (ygl) rfl rfl ?_ | refine yas tok rfl rfl rfl (by omega) (ygt hw) rfl rfl ?_))
   refine ygo (a := ba [32]) (b := ba w) rfl rfl (by rw [yar, yar]; simp; omega) rfl rfl ?_
   refine ygo (a := ba [32] ++ ba w) (b := ba [32]) rfl rfl (by rw [ByteArray.size_append, yar, yar]; simp; omega) rfl rfl ?_
   refine yof (yaq true es names _ (ba [32] ++ ba w ++ ba [32]) (by rw [ByteArray.size_append, ByteArray.size_append, yar, yar]; have := hbla (ybr 4 a); rw [yde]; simp only [List.length_append, List.length_cons, List.length_nil]; omega)) rfl rfl rfl rfl (ybz rfl rfl) rfl rfl rfl rfl rfl ?_
   (repeat (first | refine zy ?_ | refine yof (cb) rfl rfl rfl rfl (ybz rfl rfl) rfl rfl rfl rfl rfl ?_))
   rw [ee, er]
   refine yal ?_
   refine ynl (h' := []) (args0 := [.lp 1001 0, ycj (ba [41])]) (hm := wrH true es names (l ++ bl (ba [40]) ++ ybi false names (Ex.bi t a b))) (hm' := wrH true es names (l ++ bl (ba [40]) ++ ybi false names (Ex.bi t a b) ++ bl (ba [41]))) [(1001, 1001), (1003, 1003)] rfl rfl rfl ⟨rfl, rfl, trivial⟩ (ylu true es names _ (ba [41]) (by rw [yar, yde]; simp only [List.length_append, List.length_cons, List.length_nil]; omega)) rfl rfl rfl rfl (by rw [zgl]; exact ybz rfl rfl) rfl (fun j ob hj hob => by cases hob) rfl (yam _) (fun id o ho => ?_)
   rw [show l ++ brT true (ybi false names (Ex.bi t a b)) = l ++ bl (ba [40]) ++ ybi false names (Ex.bi t a b) ++ bl (ba [41]) by rw [yde, yde]; simp [brT]] at ho
   exact ho
  ·have ca := iha (k + 1) (yfg t.1) true (l ++ bl (ba [40])) (by omega) hata (by rw [yde]; simp only [List.length_append, List.length_cons, List.length_nil]; omega)
   have cb := ihb (k + 1 + a.fl.length) ((yfg t.1) + 1) true ((l ++ bl (ba [40])) ++ brT (ybr (yfg t.1) a) (ybi false names a) ++ bl (ba [32] ++ ba w ++ ba [32])) (by omega) hatb (by simp only [ypk, yde]; have := hbla (ybr (yfg t.1) a); simp only [List.length_append, List.length_cons, List.length_nil]; omega)
   have ee : (l ++ bl (ba [40])) ++ brT (ybr (yfg t.1) a) (ybi false names a) ++ bl (ba [32] ++ ba w ++ ba [32]) ++ brT (ybr ((yfg t.1) + 1) b) (ybi false names b) = (l ++ bl (ba [40])) ++ ybi false names (.bi t a b) := by
    simp only [ypk, yde]
    simp only [ybi, Bool.false_or, yuf, h3, if_false, hwE]
    simp
   have hblb := zko hn hEb hab false
   have hbl2 := yfb hn false (.bi t a b) ⟨ht, hEa, hEb⟩ hab0
   refine ytr tok Tryz.func75 rfl rfl Tryz.ntmps75 Tryz.results75 rfl (yrn rfl) ?_
   show AF _ _ _ _ (S _ _)
   refine ygu (ygf ?_)
   refine yac (lf := lfT) rfl ?_
   (try refine zo ?_)
   show AF _ _ _ _ (S _ _)
   refine ygu (ygf ?_)
   refine yac (lf := lfT) rfl ?_
   (repeat (first | refine zo ?_ | refine yas tok rfl rfl rfl (by omega) (ybo hk) rfl rfl ?_))
   show AF _ _ _ _ (S _ _)
   refine ygu (ygf ?_)
   refine yac (lf := lfT) rfl ?_
   (repeat (first | refine zo ?_ | refine yah rfl rfl (yea t.1) rfl rfl ?_))
   skip
   show AF _ _ _ _ (S _ _)
   refine ygu ?_
   refine ygu (ygf ?_)
   refine yac (lf := lfT) rfl ?_
   (try refine zo ?_)
   show AF _ _ _ _ (S _ _)
   refine zkh rfl (fun _ => ?_) (fun h9 => absurd h9 (by simp; omega))
   refine ygu (ygf ?_)
   refine yac (lf := lfT) rfl ?_
   (repeat (first | refine zo ?_ | refine yof (yaq u es names l (ba [40]) (by rw [yar]; simp; omega)) rfl rfl rfl rfl (ybz rfl rfl) rfl rfl rfl rfl rfl ?_))
   show AF _ _ _ _ (S _ _)
   refine ygg (lf := lfT) 3 rfl rfl rfl rfl rfl rfl (fun d h => by cases h) ?_
   (try refine zo ?_)
   refine ⟨rfl, _, _, _, ⟨_, Tryz.func19, rfl, rfl⟩, rfl, rfl, fun x hx => zge rfl hx, ?_⟩
   show Lex _ _ _ _ _ [] _
   refine .nil ?_
   show A _ _ _ _ _
   refine yzr (s' := S [(0, .lp 1001 0), (1, i64 k), (7, i64 t.1), (8, i64 (yfg t.1 : Nat)), (1000000, .lp 1001 0), (1000001, ycj (ba [41]))] (wrH true es names (l ++ bl (ba [40])))) ?_ ⟨yoc ⟨rfl, rfl, rfl, rfl, rfl, rfl, trivial⟩, fun id x h => h⟩
   (try refine zy ?_)
   refine yag rfl (fun h9 => absurd h9 (by simp; omega)) (fun _ => ?_)
   (try refine zy ?_)
   refine yag rfl (fun h9 => absurd h9 (by simp; omega)) (fun _ => ?_)
   (try refine zy ?_)
   refine yag rfl (fun h9 => absurd h9 (by simp; omega)) (fun _ => ?_)
   (try refine zy ?_)
   refine yag rfl (fun h9 => absurd h9 (by simp; omega)) (fun _ => ?_)
   (repeat (first | refine zw ?_ | refine yof (ca) rfl rfl rfl rfl (ybz rfl rfl) rfl rfl rfl rfl rfl ?_))
   refine zt ?_
   refine ybp (lf := lfB) mixed (by kernel_rfl) rfl ?_
   (repeat (first | refine zo ?_ | refine yah rfl rfl (ygl) rfl rfl ?_ | refine yas tok rfl rfl rfl (by omega) (ygt hw) rfl rfl ?_))
   refine ygo (a := ba [32]) (b := ba w) rfl rfl (by rw [yar, yar]; simp; omega) rfl rfl ?_
   refine ygo (a := ba [32] ++ ba w) (b := ba [32]) rfl rfl (by rw [ByteArray.size_append, yar, yar]; simp; omega) rfl rfl ?_
   refine yof (yaq true es names _ (ba [32] ++ ba w ++ ba [32]) (by rw [ByteArray.size_append, ByteArray.size_append, yar, yar]; have := hbla (ybr (yfg t.1) a); rw [yde]; simp only [List.length_append, List.length_cons, List.length_nil]; omega)) rfl rfl rfl rfl (ybz rfl rfl) rfl rfl rfl rfl rfl ?_
   (repeat (first | refine zy ?_ | refine yof (cb) rfl rfl rfl rfl (ybz rfl rfl) rfl rfl rfl rfl rfl ?_))
   rw [ee, er]
   refine yal ?_
   refine ynl (h' := []) (args0 := [.lp 1001 0, ycj (ba [41])]) (hm := wrH true es names (l ++ bl (ba [40]) ++ ybi false names (Ex.bi t a b))) (hm' := wrH true es names (l ++ bl (ba [40]) ++ ybi false names (Ex.bi t a b) ++ bl (ba [41]))) [(1001, 1001), (1003, 1003)] rfl rfl rfl ⟨rfl, rfl, trivial⟩ (ylu true es names _ (ba [41]) (by rw [yar, yde]; simp only [List.length_append, List.length_cons, List.length_nil]; omega)) rfl rfl rfl rfl (by rw [zgl]; exact ybz rfl rfl) rfl (fun j ob hj hob => by cases hob) rfl (yam _) (fun id o ho => ?_)
   rw [show l ++ brT true (ybi false names (Ex.bi t a b)) = l ++ bl (ba [40]) ++ ybi false names (Ex.bi t a b) ++ bl (ba [41]) by rw [yde, yde]; simp [brT]] at ho
   exact ho
 ·have hlo2 : ybr level (.bi t a b) = false := decide_eq_false hlo
  rw [hlo2]
  by_cases h3 : yfg t.1 = 3
  ·have ca := iha (k + 1) 4 u l (by omega) hata (by omega)
   have cb := ihb (k + 1 + a.fl.length) (3 + 1) true (l ++ brT (ybr 4 a) (ybi false names a) ++ bl (ba [32] ++ ba w ++ ba [32])) (by omega) hatb (by simp only [ypk, yde]; have := hbla (ybr 4 a); simp only [List.length_append, List.length_cons, List.length_nil]; omega)
   have ee : l ++ brT (ybr 4 a) (ybi false names a) ++ bl (ba [32] ++ ba w ++ ba [32]) ++ brT (ybr (3 + 1) b) (ybi false names b) = l ++ ybi false names (.bi t a b) := by
    simp only [ypk, yde]
    simp only [ybi, Bool.false_or, yuf, h3, if_true, hwE]
    simp
   have hblb := zko hn hEb hab false
   have hbl2 := yfb hn false (.bi t a b) ⟨ht, hEa, hEb⟩ hab0
   refine ybb tok Tryz.func75 rfl rfl Tryz.ntmps75 Tryz.results75 rfl (yrn rfl) ?_
   show A _ _ _ _ (S _ _)
   (repeat (first | refine zy ?_ | refine yas tok rfl rfl rfl (by omega) (ybo hk) rfl rfl ?_ | refine yah rfl rfl (yea t.1) rfl rfl ?_))
   rw [h3]
   (try refine zy ?_)
   refine yag rfl (fun h9 => absurd h9 (by simp; omega)) (fun _ => ?_)
   (try refine zy ?_)
   (repeat (first | refine zw ?_ | refine yof (ca) rfl rfl rfl rfl (ybz rfl rfl) rfl rfl rfl rfl rfl ?_))
   refine zt ?_
   refine ybp (lf := lfB) mixed (by kernel_rfl) rfl ?_
   (repeat (first | refine zo ?_ | refine yah rfl rfl (ygl) rfl rfl ?_ | refine yas tok rfl rfl rfl (by omega) (ygt hw) rfl rfl ?_))
   refine ygo (a := ba [32]) (b := ba w) rfl rfl (by rw [yar, yar]; simp; omega) rfl rfl ?_
   refine ygo (a := ba [32] ++ ba w) (b := ba [32]) rfl rfl (by rw [ByteArray.size_append, yar, yar]; simp; omega) rfl rfl ?_
   refine yof (yaq true es names _ (ba [32] ++ ba w ++ ba [32]) (by rw [ByteArray.size_append, ByteArray.size_append, yar, yar]; have := hbla (ybr 4 a); simp only [List.length_append, List.length_cons, List.length_nil]; omega)) rfl rfl rfl rfl (ybz rfl rfl) rfl rfl rfl rfl rfl ?_
   (repeat (first | refine zy ?_ | refine yof (cb) rfl rfl rfl rfl (ybz rfl rfl) rfl rfl rfl rfl rfl ?_))
   rw [ee, er]
   refine yal ?_
   exact ⟨_, rfl, yam _, yaj (ybz rfl rfl)⟩
  ·have ca := iha (k + 1) (yfg t.1) u l (by omega) hata (by omega)
   have cb := ihb (k + 1 + a.fl.length) ((yfg t.1) + 1) true (l ++ brT (ybr (yfg t.1) a) (ybi false names a) ++ bl (ba [32] ++ ba w ++ ba [32])) (by omega) hatb (by simp only [ypk, yde]; have := hbla (ybr (yfg t.1) a); simp only [List.length_append, List.length_cons, List.length_nil]; omega)
   have ee : l ++ brT (ybr (yfg t.1) a) (ybi false names a) ++ bl (ba [32] ++ ba w ++ ba [32]) ++ brT (ybr ((yfg t.1) + 1) b) (ybi false names b) = l ++ ybi false names (.bi t a b) := by
    simp only [ypk, yde]
    simp only [ybi, Bool.false_or, yuf, h3, if_false, hwE]
    simp
   have hblb := zko hn hEb hab false
   have hbl2 := yfb hn false (.bi t a b) ⟨ht, hEa, hEb⟩ hab0
   refine ybb tok Tryz.func75 rfl rfl Tryz.ntmps75 Tryz.results75 rfl (yrn rfl) ?_
   show A _ _ _ _ (S _ _)
   (repeat (first | refine zy ?_ | refine yas tok rfl rfl rfl (by omega) (ybo hk) rfl rfl ?_ | refine yah rfl rfl (yea t.1) rfl rfl ?_))
   skip
   (try refine zy ?_)
   refine yag rfl (fun h9 => absurd h9 (by simp; omega)) (fun _ => ?_)
   (try refine zy ?_)
   refine yag rfl (fun h9 => absurd h9 (by simp; omega)) (fun _ => ?_)
   (try refine zy ?_)
   refine yag rfl (fun h9 => absurd h9 (by simp; omega)) (fun _ => ?_)
   (try refine zy ?_)
   refine yag rfl (fun h9 => absurd h9 (by simp; omega)) (fun _ => ?_)
   (try refine zy ?_)
   refine yag rfl (fun h9 => absurd h9 (by simp; omega)) (fun _ => ?_)
   (repeat (first | refine zw ?_ | refine yof (ca) rfl rfl rfl rfl (ybz rfl rfl) rfl rfl rfl rfl rfl ?_))
   refine zt ?_
   refine ybp (lf := lfB) mixed (by kernel_rfl) rfl ?_
   (repeat (first | refine zo ?_ | refine yah rfl rfl (ygl) rfl rfl ?_ | refine yas tok rfl rfl rfl (by omega) (ygt hw) rfl rfl ?_))
   refine ygo (a := ba [32]) (b := ba w) rfl rfl (by rw [yar, yar]; simp; omega) rfl rfl ?_
   refine ygo (a := ba [32] ++ ba w) (b := ba [32]) rfl rfl (by rw [ByteArray.size_append, yar, yar]; simp; omega) rfl rfl ?_
   refine yof (yaq true es names _ (ba [32] ++ ba w ++ ba [32]) (by rw [ByteArray.size_append, ByteArray.size_append, yar, yar]; have := hbla (ybr (yfg t.1) a); simp only [List.length_append, List.length_cons, List.length_nil]; omega)) rfl rfl rfl rfl (ybz rfl rfl) rfl rfl rfl rfl rfl ?_
   (repeat (first | refine zy ?_ | refine yof (cb) rfl rfl rfl rfl (ybz rfl rfl) rfl rfl rfl rfl rfl ?_))
   rw [ee, er]
   refine yal ?_
   exact ⟨_, rfl, yam _, yaj (ybz rfl rfl)⟩
theorem zwt (x : Bs) : brT false x = x := rfl
theorem write_tr {t : Tm} {a b c : Ex} (hes : es.length ≤ 1000) (hn : ∀ w ∈ names, w.length ≤ 24) (ht : ar t.1 = 3) (hEa : a.ok) (hEb : b.ok) (hEc : c.ok) (hab0 : ∀ x ∈ (Ex.tr t a b c).fl, yhl names.length x = true) (iha : yox es names a) (ihb : yox es names b) (ihc : yox es names c) : yox es names (.tr t a b c) := by
 intro k level u l hlev hat hl
 have haa : ∀ x ∈ a.fl, yhl names.length x = true := fun x hx => hab0 x (by simp [Ex.fl, hx])
 have hab : ∀ x ∈ b.fl, yhl names.length x = true := fun x hx => hab0 x (by simp [Ex.fl, hx])
 have hk := hat.head rfl
 have hbd := hat.bound
 have hlt : k < es.length := (List.getElem?_eq_some_iff.1 hk).1
 obtain ⟨hata, hat2⟩ := AtE.tail (show (t :: (a.fl ++ (b.fl ++ c.fl))) <+: es.drop k from hat)
 have hat3 : (b.fl ++ c.fl) <+: es.drop (k + 1 + a.fl.length) := hat2
 have hatb : AtE es (k + 1 + a.fl.length) b := (List.prefix_append _ _).trans hat3
 have hatc : AtE es (k + 1 + a.fl.length + b.fl.length) c := by
  obtain ⟨p, hp⟩ := hat3
  refine ⟨p, ?_⟩
  rw [← List.drop_drop (i := b.fl.length), ← hp]
  simp
 have h0 : yfg t.1 = 0 := by rw [zuv ht]; decide
 have hlb : ybr 0 b = false := by simp [ybr]
 have hlc : ybr 0 c = false := by simp [ybr]
 have er : k + 1 + a.fl.length + b.fl.length + c.fl.length = k + (Ex.tr t a b c).fl.length := by simp only [Ex.fl, List.length_cons, List.length_append]; omega
 have hll : l.length + 40 * (Ex.tr t a b c).fl.length ≤ 900000 := hl
 simp only [Ex.fl, List.length_cons, List.length_append] at hl hbd hll
 have hbla : ∀ c, (brT c (ybi false names a)).length ≤ 34 * a.fl.length := zko hn hEa haa
 have hblb := (yfb hn false b hEb hab).1
 by_cases hlo : yfg t.1 < level
 ·have hlo2 : ybr level (.tr t a b c) = true := decide_eq_true hlo
  rw [hlo2]
  have ca := iha (k + 1) 1 true (l ++ bl (ba [40])) (by omega) hata (by simp only [yde]; simp only [List.length_append, List.length_cons, List.length_nil]; omega)
  have cb := ihb (k + 1 + a.fl.length) 0 true ((l ++ bl (ba [40])) ++ brT (ybr 1 a) (ybi false names a) ++ bl (ba [32, 63, 32])) (by omega) hatb (by simp only [yde]; have := hbla (ybr 1 a); simp only [List.length_append, List.length_cons, List.length_nil]; omega)
  have cc := ihc (k + 1 + a.fl.length + b.fl.length) 0 true ((l ++ bl (ba [40])) ++ brT (ybr 1 a) (ybi false names a) ++ bl (ba [32, 63, 32]) ++ ybi false names b ++ bl (ba [32, 58, 32])) (by omega) hatc (by simp only [yde]; have := hbla (ybr 1 a); have := hblb; simp only [List.length_append, List.length_cons, List.length_nil]; omega)
  rw [hlb] at cb
  rw [hlc] at cc
  simp only [zwt] at cb cc
  have ee : (l ++ bl (ba [40])) ++ brT (ybr 1 a) (ybi false names a) ++ bl (ba [32, 63, 32]) ++ ybi false names b ++ bl (ba [32, 58, 32]) ++ ybi false names c = (l ++ bl (ba [40])) ++ ybi false names (.tr t a b c) := by
   simp only [yde]
   simp only [ybi, Bool.false_or, zwt]
   simp
  have hbl2 := yfb hn false (.tr t a b c) ⟨ht, hEa, hEb, hEc⟩ hab0
  refine ytr tok Tryz.func75 rfl rfl Tryz.ntmps75 Tryz.results75 rfl (yrn rfl) ?_
  show AF _ _ _ _ (S _ _)
  refine ygu (ygf ?_)
  refine yac (lf := lfT) rfl ?_
  (try refine zo ?_)
  show AF _ _ _ _ (S _ _)
  refine ygu (ygf ?_)
  refine yac (lf := lfT) rfl ?_
  (repeat (first | refine zo ?_ | refine yas tok rfl rfl rfl (by omega) (ybo hk) rfl rfl ?_))
  show AF _ _ _ _ (S _ _)
  refine ygu (ygf ?_)
  refine yac (lf := lfT) rfl ?_
  (repeat (first | refine zo ?_ | refine yah rfl rfl (yea t.1) rfl rfl ?_))
  rw [h0]
  show AF _ _ _ _ (S _ _)
  refine ygu ?_
  refine ygu (ygf ?_)
  refine yac (lf := lfT) rfl ?_
  (try refine zo ?_)
  show AF _ _ _ _ (S _ _)
  refine zkh rfl (fun _ => ?_) (fun h9 => absurd h9 (by simp; omega))
  refine ygu (ygf ?_)
  refine yac (lf := lfT) rfl ?_
  (repeat (first | refine zo ?_ | refine yof (yaq u es names l (ba [40]) (by rw [yar]; simp; omega)) rfl rfl rfl rfl (ybz rfl rfl) rfl rfl rfl rfl rfl ?_))
  show AF _ _ _ _ (S _ _)
  refine ygg (lf := lfT) 3 rfl rfl rfl rfl rfl rfl (fun d h => by cases h) ?_
  (try refine zo ?_)
  refine ⟨rfl, _, _, _, ⟨_, Tryz.func19, rfl, rfl⟩, rfl, rfl, fun x hx => zge rfl hx, ?_⟩
  show Lex _ _ _ _ _ [] _
  refine .nil ?_
  show A _ _ _ _ _
  refine yzr (s' := S [(0, .lp 1001 0), (1, i64 k), (7, i64 t.1), (8, i64 (0 : Nat)), (1000000, .lp 1001 0), (1000001, ycj (ba [41]))] (wrH true es names (l ++ bl (ba [40])))) ?_ ⟨yoc ⟨rfl, rfl, rfl, rfl, rfl, rfl, trivial⟩, fun id x h => h⟩
  (try refine zy ?_)
  (repeat (first | refine zy ?_ | refine yof (ca) rfl rfl rfl rfl (ybz rfl rfl) rfl rfl rfl rfl rfl ?_ | refine yof (yaq true es names ((l ++ bl (ba [40])) ++ brT (ybr 1 a) (ybi false names a)) (ba [32, 63, 32]) (by rw [yar]; (try simp only [yde]); have := hbla (ybr 1 a); have := hblb; simp only [List.length_append, List.length_cons, List.length_nil]; omega)) rfl rfl rfl rfl (ybz rfl rfl) rfl rfl rfl rfl rfl ?_ | refine yof (cb) rfl rfl rfl rfl (ybz rfl rfl) rfl rfl rfl rfl rfl ?_ | refine yof (yaq true es names ((l ++ bl (ba [40])) ++ brT (ybr 1 a) (ybi false names a) ++ bl (ba [32, 63, 32]) ++ ybi false names b) (ba [32, 58, 32]) (by rw [yar]; (try simp only [yde]); have := hbla (ybr 1 a); have := hblb; simp only [List.length_append, List.length_cons, List.length_nil]; omega)) rfl rfl rfl rfl (ybz rfl rfl) rfl rfl rfl rfl rfl ?_ | refine yof (cc) rfl rfl rfl rfl (ybz rfl rfl) rfl rfl rfl rfl rfl ?_))
  rw [ee, er]
  refine yal ?_
  refine ynl (h' := []) (args0 := [.lp 1001 0, ycj (ba [41])]) (hm := wrH true es names (l ++ bl (ba [40]) ++ ybi false names (Ex.tr t a b c))) (hm' := wrH true es names (l ++ bl (ba [40]) ++ ybi false names (Ex.tr t a b c) ++ bl (ba [41]))) [(1001, 1001), (1003, 1003)] rfl rfl rfl ⟨rfl, rfl, trivial⟩ (ylu true es names _ (ba [41]) (by rw [yar, yde]; simp only [List.length_append, List.length_cons, List.length_nil]; omega)) rfl rfl rfl rfl (by rw [zgl]; exact ybz rfl rfl) rfl (fun j ob hj hob => by cases hob) rfl (yam _) (fun id o ho => ?_)
  rw [show l ++ brT true (ybi false names (Ex.tr t a b c)) = l ++ bl (ba [40]) ++ ybi false names (Ex.tr t a b c) ++ bl (ba [41]) by rw [yde, yde]; simp [brT]] at ho
  exact ho
 ·have hlo2 : ybr level (.tr t a b c) = false := decide_eq_false hlo
  rw [hlo2]
  have ca := iha (k + 1) 1 u l (by omega) hata (by omega)
  have cb := ihb (k + 1 + a.fl.length) 0 true (l ++ brT (ybr 1 a) (ybi false names a) ++ bl (ba [32, 63, 32])) (by omega) hatb (by simp only [yde]; have := hbla (ybr 1 a); simp only [List.length_append, List.length_cons, List.length_nil]; omega)
  have cc := ihc (k + 1 + a.fl.length + b.fl.length) 0 true (l ++ brT (ybr 1 a) (ybi false names a) ++ bl (ba [32, 63, 32]) ++ ybi false names b ++ bl (ba [32, 58, 32])) (by omega) hatc (by simp only [yde]; have := hbla (ybr 1 a); have := hblb; simp only [List.length_append, List.length_cons, List.length_nil]; omega)
  rw [hlb] at cb
  rw [hlc] at cc
  simp only [zwt] at cb cc
  have ee : l ++ brT (ybr 1 a) (ybi false names a) ++ bl (ba [32, 63, 32]) ++ ybi false names b ++ bl (ba [32, 58, 32]) ++ ybi false names c = l ++ ybi false names (.tr t a b c) := by
   simp only [yde]
   simp only [ybi, Bool.false_or, zwt]
   simp
  have hbl2 := yfb hn false (.tr t a b c) ⟨ht, hEa, hEb, hEc⟩ hab0
  refine ybb tok Tryz.func75 rfl rfl Tryz.ntmps75 Tryz.results75 rfl (yrn rfl) ?_
  show A _ _ _ _ (S _ _)
  (repeat (first | refine zy ?_ | refine yas tok rfl rfl rfl (by omega) (ybo hk) rfl rfl ?_ | refine yah rfl rfl (yea t.1) rfl rfl ?_))
  rw [h0]
  (try refine zy ?_)
  refine yag rfl (fun h9 => absurd h9 (by simp; omega)) (fun _ => ?_)
  (try refine zy ?_)
  (repeat (first | refine zy ?_ | refine yof (ca) rfl rfl rfl rfl (ybz rfl rfl) rfl rfl rfl rfl rfl ?_ | refine yof (yaq true es names (l ++ brT (ybr 1 a) (ybi false names a)) (ba [32, 63, 32]) (by rw [yar]; (try simp only [yde]); have := hbla (ybr 1 a); have := hblb; simp only [List.length_append, List.length_cons, List.length_nil]; omega)) rfl rfl rfl rfl (ybz rfl rfl) rfl rfl rfl rfl rfl ?_ | refine yof (cb) rfl rfl rfl rfl (ybz rfl rfl) rfl rfl rfl rfl rfl ?_ | refine yof (yaq true es names (l ++ brT (ybr 1 a) (ybi false names a) ++ bl (ba [32, 63, 32]) ++ ybi false names b) (ba [32, 58, 32]) (by rw [yar]; (try simp only [yde]); have := hbla (ybr 1 a); have := hblb; simp only [List.length_append, List.length_cons, List.length_nil]; omega)) rfl rfl rfl rfl (ybz rfl rfl) rfl rfl rfl rfl rfl ?_ | refine yof (cc) rfl rfl rfl rfl (ybz rfl rfl) rfl rfl rfl rfl rfl ?_))
  rw [ee, er]
  refine yal ?_
  exact ⟨_, rfl, yam _, yaj (ybz rfl rfl)⟩
theorem ylw (hes : es.length ≤ 1000) (hn : ∀ w ∈ names, w.length ≤ 24) : ∀ (E : Ex), E.ok → (∀ x ∈ E.fl, yhl names.length x = true) → yox es names E
 | .lf t, hE, ha => write_lf hes hn hE (ha t (by simp [Ex.fl]))
 | .un t a, hE, ha => write_un hes hn hE.1 hE.2 (fun x hx => ha x (by simp [Ex.fl, hx])) (ylw hes hn a hE.2 fun x hx => ha x (by simp [Ex.fl, hx]))
 | .bi t a b, hE, ha => write_bi hes hn hE.1 hE.2.1 hE.2.2 ha (ylw hes hn a hE.2.1 fun x hx => ha x (by simp [Ex.fl, hx])) (ylw hes hn b hE.2.2 fun x hx => ha x (by simp [Ex.fl, hx]))
 | .tr t a b c, hE, ha => write_tr hes hn hE.1 hE.2.1 hE.2.2.1 hE.2.2.2 ha (ylw hes hn a hE.2.1 fun x hx => ha x (by simp [Ex.fl, hx])) (ylw hes hn b hE.2.2.1 fun x hx => ha x (by simp [Ex.fl, hx])) (ylw hes hn c hE.2.2.2 fun x hx => ha x (by simp [Ex.fl, hx]))
end
end
section
open Go.RowKit
def formatA (q : Bs × Int) : AV := .tup [ycj (ba q.1), i64 q.2]
theorem zaq {nm : Bs → Bool} {names : List Bs} {e : List Tm} (h : ¬ (yho nm names = true ∧ yco e names.length = true)) : zap nm names e = ([], 7) := by rw [zap, if_neg h]
theorem yxp {nm : Bs → Bool} {names : List Bs} {e : List Tm} (h1 : yho nm names = true) (h2 : yco e names.length = true) : zap nm names e = (yem false names e, 0) := by rw [zap, if_pos ⟨h1, h2⟩]
theorem good_len {names : List Bs} (h : yho nmW names = true) : ∀ w ∈ names, w.length ≤ 24 := fun w hw => (ydw ((yjg h).2.1 w hw)).1.1
theorem body_ne {names : List Bs} (h : yho nmW names = true) {E : Ex} (hE : E.ok) (ha : ∀ t ∈ E.fl, yhl names.length t = true) (al : Bool) : ybi al names E ≠ [] := by
 obtain ⟨c, y, h1, _⟩ := zlh (zbk.words h) (ymy al E hE ha)
 rw [h1]
 simp
theorem format_con (e : List Tm) (names : List Bs) (he : e.length ≤ 1000000) (hl : names.length ≤ 1000) (hn : ∀ x ∈ names, x.length ≤ 1000) : Con Tryz.prog 37 [ybk e, ybh names] (formatA (zap nmW names e)) := by
 refine ycs Tryz.func37 rfl rfl Tryz.ntmps37 Tryz.results37 rfl rfl ?_
 (repeat (first | refine zy ?_ | refine yah rfl rfl (good_con names hl hn) rfl rfl ?_))
 refine ybu 10 rfl (fun h1 => ?_) (fun h1 => ?_)
 ·have h1 : ¬ yho nmW names = true := by simpa using h1
  (try refine zy ?_)
  refine yal ?_; refine ⟨_, rfl, ?_⟩
  rw [zaq (fun h => h1 h.1)]
  exact Frz.pure
 have h1 : yho nmW names = true := by simpa using h1
 (repeat (first | refine zy ?_ | refine yah rfl rfl (xvalid_con e names.length he) rfl rfl ?_))
 refine yag rfl (fun h2 => ?_) (fun h2 => ?_)
 ·have h2 : ¬ yco e names.length = true := by simpa using h2
  (try refine zy ?_)
  refine yal ?_; refine ⟨_, rfl, ?_⟩
  rw [zaq (fun h => h2 h.2)]
  exact Frz.pure
 have h2 : yco e names.length = true := by simpa using h2
 obtain ⟨E, hp, hE, hfl, hlen, hargs⟩ := yla h2
 have hnl := good_len h1
 have hw := ylw (es := e) (names := names) (by omega) hnl E hE (hfl ▸ hargs) 0 0 false [] (by omega) (by rw [AtE, hfl]; exact List.prefix_refl _) (by rw [hfl]; simp; omega)
 have hlo : ybr 0 E = false := by simp [ybr]
 rw [hlo, Nat.zero_add, hfl] at hw
 have hft : yem false names e = ybi false names E := by rw [yem, hp]
 have hbl := (yfb hnl false E hE (hfl ▸ hargs)).1
 rw [hfl] at hbl
 have hne2 := body_ne h1 hE (hfl ▸ hargs) false
 refine zt ?_
 refine yac (lf := lfT) rfl ?_
 (repeat (first | refine zC ?_ | refine zU ?_))
 refine zll tok rfl rfl rfl rfl rfl rfl rfl ?_
 refine yqp tok rfl rfl rfl rfl rfl rfl (List.cons_ne_nil _ _) rfl rfl rfl ?_
 refine yoh ?_
 refine zt ?_
 refine zpb 6 1 1003 1 5 rfl rfl rfl rfl rfl ?_
 refine yac (lf := lfT) rfl ?_
 refine yek [(1001, 6), (1003, 1003)] hw rfl rfl rfl rfl rfl rfl rfl (yab rfl (yab rfl yai)) rfl rfl rfl rfl rfl rfl ?_
 refine yoh ?_
 refine zt ?_; refine yac (lf := lfT) rfl ?_
 refine zC ?_
 refine yek [(1001, 6), (1003, 1003)] (w_len_con true e names _ (by simp only [brT, List.nil_append]; omega)) rfl rfl rfl rfl rfl rfl rfl (yab rfl (yab rfl yai)) rfl rfl rfl rfl rfl rfl ?_
 (try refine zo ?_)
 refine zt ?_
 refine yag rfl (fun h9 => absurd h9 (by simp [brT]; omega)) (fun _ => ?_)
 refine zt ?_; refine yac (lf := lfT) rfl ?_
 refine zC ?_
 refine yek [(1001, 6), (1003, 1003)] (w_string_con true e names _ (by simpa [brT] using hne2) (by simp only [brT, List.nil_append]; omega)) rfl rfl rfl rfl rfl rfl rfl (yab rfl (yab rfl yai)) rfl rfl rfl rfl rfl rfl ?_
 (try refine zo ?_)
 refine zt ?_
 refine yal ?_; refine ⟨_, rfl, ?_⟩
 rw [yxp h1 h2, hft]
 exact Frz.pure
end
section
open Go.RowKit
def zry (used : Bool) (l : Bs) : List (Nat × Option LObj) := [(1001, some (.tcells 54 [bp used 1001, .ls 1003 1 l.length])), (1003, some (.tvec 5 (yds l)))]
theorem zsp {u v : Bool} {l m : Bs} {N : Nat} (hN : N ≤ 1001) : ∀ id o, yaf (zry v m) id = some o → isC o = true → N ≤ id ∧ ∃ o', yaf (zry u l) id = some o' ∧ isC o' = true := by
 intro id o ho hc
 simp only [zry, yaf] at ho ⊢
 cases h1 : Nat.beq id 1001 with
 | true =>
  have := Nat.eq_of_beq_eq_true h1
  exact ⟨by omega, _, rfl, rfl⟩
 | false =>
  simp only [h1] at ho
  cases h2 : Nat.beq id 1003 with
  | true => simp only [h2, Option.some.injEq] at ho; subst ho; cases hc
  | false => simp only [h2] at ho; cases ho
theorem yts (u : Bool) (l : Bs) : yhb Tryz.prog 34 [.lp 1001 0] (yaf (zry u l)) (.tup []) (yaf (zry true l)) := by
 refine ybb tok Tryz.func34 rfl rfl Tryz.ntmps34 Tryz.results34 rfl (zsp (by decide)) ?_
 show A _ _ _ _ (S _ _)
 cases u
 ·(repeat (first | refine zy ?_ | refine ycf (ymu ydx rfl rfl) rfl rfl ?_))
  refine ycf (yju (te := 54) (xs := [bp false 1001, .ls 1003 1 l.length]) (t0 := 54) ydx Tryz.underlying103 (by kernel_rfl) rfl rfl (Nat.zero_lt_succ _)) rfl rfl ?_
  (repeat (first | refine zy ?_ | refine ycf (ymu ydx rfl rfl) rfl rfl ?_ | refine ycf (yju (t0 := 54) ydx Tryz.underlying103 (by kernel_rfl) rfl rfl (Nat.zero_lt_succ _)) rfl rfl ?_ | refine ycf (ypb (t0 := 54) Tryz.underlying103 ydx (by kernel_rfl) rfl rfl (by simp) (by kernel_rfl)) rfl rfl ?_ | refine ycf (yrz Tryz.func71 (by kernel_rfl) (by kernel_rfl) (by kernel_rfl) (by kernel_rfl) rfl) rfl rfl ?_ | refine yqp tok rfl rfl rfl rfl rfl rfl (by simp) rfl rfl rfl ?_))
  exact ⟨_, rfl, yam _, yaj (yab rfl (yab rfl yai))⟩
 ·(repeat (first | refine zy ?_ | refine ycf (zct ydx rfl rfl rfl) rfl rfl ?_ | refine ycf (zcv ydx (by kernel_rfl) rfl rfl rfl) rfl rfl ?_))
  exact ⟨_, rfl, yam _, yaj (yab rfl (yab rfl yai))⟩
theorem writeString_con (u : Bool) (l : Bs) (s : ByteArray) (hl : l.length + s.size ≤ 1000000) : yhb Tryz.prog 19 [.lp 1001 0, ycj s] (yaf (zry u l)) (.tup [i64 s.size, .v .nilIface]) (yaf (zry true (l ++ bl s))) := by
 refine ybb tok Tryz.func19 rfl rfl Tryz.ntmps19 Tryz.results19 rfl (zsp (by decide)) ?_
 show A _ _ _ _ (S _ _)
 (try refine zy ?_)
 cases u
 all_goals
  first | refine yek [(1001, 1001), (1003, 1003)] (yts false l) rfl rfl rfl rfl rfl rfl rfl (yab rfl (yab rfl yai)) rfl rfl rfl rfl rfl rfl ?_ | refine yek [(1001, 1001), (1003, 1003)] (yts true l) rfl rfl rfl rfl rfl rfl rfl (yab rfl (yab rfl yai)) rfl rfl rfl rfl rfl rfl ?_
  (try refine zy ?_)
  refine yzt tok rfl rfl rfl rfl rfl (by simp [yqs]) rfl (by omega) rfl rfl rfl rfl rfl ?_
  (repeat (first | refine zy ?_ | refine yqp tok rfl rfl rfl rfl rfl rfl (by simp) rfl rfl rfl ?_))
  refine yal ?_
  refine ⟨_, rfl, yam _, yaj (yab ?_ (yab ?_ yai))⟩
  ·have e : l.length + s.size = (l ++ bl s).length := by simp [bl, ← ByteArray.size_data]
   rw [← e]; rfl
  ·have e : yds (l ++ bl s) = yds l ++ yds s.data.toList := by rw [yvs]; rfl
   rw [e]; rfl
theorem string_con (u : Bool) (l : Bs) (h0 : l ≠ []) (hl : l.length ≤ 1000000) : yhb Tryz.prog 22 [.lp 1001 0] (yaf (zry u l)) (ycj (ba l)) (yaf []) := by
 refine ybb tok Tryz.func22 rfl rfl Tryz.ntmps22 Tryz.results22 rfl (fun id o h => by simp [yaf] at h) ?_
 show A _ _ _ _ (S _ _)
 obtain ⟨x, r, rfl⟩ : ∃ x r, l = x :: r := by cases l with | nil => exact absurd rfl h0 | cons x r => exact ⟨x, r, rfl⟩
 (try refine zw ?_)
 refine ybp (lf := lfU) mixed (by kernel_rfl) rfl ?_
 (repeat (first | refine zw ?_ | refine yzu rfl rfl (by simp) rfl rfl ?_))
 refine yrr (l := x :: r) Tryz.underlying79 (by kernel_rfl) rfl rfl rfl (by simp) (by omega) rfl rfl rfl ?_
 (try refine zw ?_)
 refine yal ?_
 exact ⟨_, rfl, yam _, fun id o h => by cases h⟩
variable {N : Nat} {ops : Array Oper} {lf : Oper → Bool} {Q : SS → Prop} {t : List (Nat × AV)} {h : List (Nat × Option LObj)} {rest : List Oper} {d : Nat} {ty : TypeId} {pos : String} {af : Array Edge} {gd : Option (Nat × Bool)}
def zso (u : Bool) (b i : Nat) (l : Bs) : LObj := .tcells 54 [bp u b, .ls i 1 l.length]
def zaa (l : Bs) : LObj := .tvec 5 (yds l)
theorem zni (u : Bool) (b i : Nat) (l : Bs) : yzf (yey [(1001, b), (1003, i)]) (.tcells 54 [bp u 1001, .ls 1003 1 l.length]) = zso u b i l := by cases u <;> rfl
theorem ysa (u : Bool) (b i : Nat) (l : Bs) (s : ByteArray) (m : Bs) {g : Operand} {args : List Operand} {ats : Array TypeId} {h' : List (Nat × Option LObj)} (hm : m = bl s) (hl0 : l.length + s.size ≤ 1000000)
  (hg : evF (look t) g = some (.fn 19 [])) (hx : evL (evF (look t)) args = some [.lp b 0, ycj s]) (hv : yfv [b, i] = true) (hb : yaf h b = some (zso u b i l)) (hi : yaf h i = some (zaa l)) (hh : yim [b, i] (ynj [b, i] h) = some h')
  (hl : lf ⟨some d, .call { callee := .value g, args := args.toArray, argTypes := ats }, ty, pos, af, gd⟩ = true) (hw : yan ops (look t) ⟨some d, .call { callee := .value g, args := args.toArray, argTypes := ats }, ty, pos, af, gd⟩ = some true) (hd : Nat.blt d N = true)
  (k : Lex Tryz.prog N ops lf Q rest (S ((d, .tup [i64 s.size, .v .nilIface]) :: yhd [(1001, b), (1003, i)] (zry true (l ++ bl s)) t) ((b, some (zso true b i (l ++ m))) :: (i, some (zaa (l ++ m))) :: h'))) : Lex Tryz.prog N ops lf Q (⟨some d, .call { callee := .value g, args := args.toArray, argTypes := ats }, ty, pos, af, gd⟩ :: rest) (S t h) := by
 subst hm
 refine yek [(1001, b), (1003, i)] (writeString_con u l s hl0) hg hx rfl rfl hv rfl rfl (yab ?_ (yab ?_ yai)) rfl (by cases u <;> rfl) hh hl hw hd ?_
 ·rw [zni]; exact hb
 ·exact hi
 ·exact k
theorem L_built (u : Bool) (b i : Nat) (l : Bs) {g : Operand} {args : List Operand} {ats : Array TypeId} {h' : List (Nat × Option LObj)} (h0 : l ≠ []) (hl0 : l.length ≤ 1000000)
  (hg : evF (look t) g = some (.fn 22 [])) (hx : evL (evF (look t)) args = some [.lp b 0]) (hv : yfv [b, i] = true) (hb : yaf h b = some (zso u b i l)) (hi : yaf h i = some (zaa l)) (hh : yim [b, i] (ynj [b, i] h) = some h')
  (hl : lf ⟨some d, .call { callee := .value g, args := args.toArray, argTypes := ats }, ty, pos, af, gd⟩ = true) (hw : yan ops (look t) ⟨some d, .call { callee := .value g, args := args.toArray, argTypes := ats }, ty, pos, af, gd⟩ = some true) (hd : Nat.blt d N = true)
  (k : Lex Tryz.prog N ops lf Q rest (S ((d, ycj (ba l)) :: yhd [(1001, b), (1003, i)] [] t) ((b, none) :: (i, none) :: h'))) : Lex Tryz.prog N ops lf Q (⟨some d, .call { callee := .value g, args := args.toArray, argTypes := ats }, ty, pos, af, gd⟩ :: rest) (S t h) := by
 refine yek [(1001, b), (1003, i)] (string_con u l h0 hl0) hg hx rfl rfl hv rfl rfl (yab ?_ (yab ?_ yai)) rfl rfl hh hl hw hd ?_
 ·rw [zni]; exact hb
 ·exact hi
 ·exact k
theorem A_builder {N : Nat} {Q : Exit → SS → Prop} (b i : Nat) {c : Code} (hj : yaf h b = some (.tcells 54 (ywy [.pointer none, .slice none 0 0]))) (h1 : yfe i t = true) (h2 : yen i h = true) (hne : Nat.beq b i = false) (k : A Tryz.prog N c Q (S t ((b, some (zso false b i [])) :: (i, some (zaa [])) :: h))) : A Tryz.prog N c Q (S t h) :=
 zpb b 1 i 1 5 hj rfl h1 h2 hne k
end
section
open Go.RowKit
theorem eqTm (a b c d : Int) (w : World) : (Op.equalIn 10000 81 (.agg #[.int .i64 a, .int .i64 b]) (.agg #[.int .i64 c, .int .i64 d])).run Tryz.prog w = .ok (a == c && b == d) w := by
 have u3 := Tryz.underlying3
 have a3 := Tryz.isAgg3
 have z3 := Tryz.sizeOf3
 rw [show (10000 : Nat) = 9999 + 1 from rfl, run_equalIn_agg w 9999 81 _ _ (by kernel_rfl) (by kernel_rfl)]
 simp only [Program.fieldsOf, Tryz.underlying81]
 go_simp
 by_cases h1 : a = c <;> by_cases h2 : b = d <;> simp [h1, h2]
def tmA (t : Tm) : AV := .agg [i64 t.1, i64 t.2]
theorem yield_neqT {ρ : Operand → Option AV} {hp : Nat → Option LObj} {x y : Operand} {a b : Tm} {ty' ty : TypeId} (hx : ρ x = some (tmA a)) (hy : ρ y = some (tmA b)) : ydl Tryz.prog hp ρ (.binOp .neq 81 x y ty') ty (ygx (!(a.1 == b.1 && a.2 == b.2))) := by
 have ex : yxn ρ x = .agg #[.int .i64 a.1, .int .i64 a.2] := by simp only [yxn, hx]; rfl
 have ey : yxn ρ y = .agg #[.int .i64 b.1, .int .i64 b.2] := by simp only [yxn, hy]; rfl
 refine yec (fun _ _ => by simp) (by simp only [yiq, Op.operands, hx, hy]; rfl) fun w => ?_
 have hg := run_eqGuard_agg (P := Tryz.prog) w .neq 81 x y #[.int .i64 a.1, .int .i64 a.2] #[.int .i64 b.1, .int .i64 b.2] (by kernel_rfl)
 simp [execOp, ex, ey, hg, run_neq_struct, eqTm]
section
variable {N : Nat} {ops : Array Oper} {lf : Oper → Bool} {Q : SS → Prop} {t : List (Nat × AV)} {h : List (Nat × Option LObj)} {rest : List Oper} {d : Nat} {ty : TypeId} {pos : String} {af : Array Edge} {gd : Option (Nat × Bool)}
theorem L_neqT {x y : Operand} {a b : Tm} {ty' : TypeId} (hx : evF (look t) x = some (tmA a)) (hy : evF (look t) y = some (tmA b))
  (hw : yan ops (look t) ⟨some d, .binOp .neq 81 x y ty', ty, pos, af, gd⟩ = some true) (hd : Nat.blt d N = true) (k : Lex Tryz.prog N ops lf Q rest (S ((d, ygx (!(a.1 == b.1 && a.2 == b.2))) :: t) h)) : Lex Tryz.prog N ops lf Q (⟨some d, .binOp .neq 81 x y ty', ty, pos, af, gd⟩ :: rest) (S t h) :=
 ycf (yield_neqT hx hy) hw hd k
theorem zlp {P : Program} {l : List Oper} (d : Nat) {b : Bool} (hb : look t d = some (.v (.bool b))) (he : b = true) (k : Lex P N ops lf Q l (S ((d, .v (.bool true)) :: t) h)) : Lex P N ops lf Q l (S t h) :=
 ybu d hb (fun _ => k) (fun e => by rw [he] at e; cases e)
end
theorem znq (a b : List Tm) (ha : a.length ≤ 1000000) : Con Tryz.prog 30 [ybk a, ybk b] (ygx (decide (a = b))) := by
 refine ycs Tryz.func30 rfl rfl Tryz.ntmps30 Tryz.results30 rfl rfl ?_
 (try refine zy ?_)
 refine yag rfl (fun h1 => ?_) (fun h1 => ?_)
 ·have h1 : a.length ≠ b.length := by simp at h1; omega
  (try refine zy ?_)
  refine yal ?_; refine ⟨_, rfl, ?_⟩
  exact ybn (by rw [decide_eq_false]; intro e; rw [e] at h1; exact h1 rfl)
 have h1 : a.length = b.length := by simp at h1; omega
 (try refine zy ?_)
 refine yiv (α := Nat) (fun k => [(5, i64 k), (1, ybk b), (0, ybk a)]) (fun k => []) (fun k => a.length - k) (fun k => k ≤ a.length ∧ a.take k = b.take k) 0 ⟨by omega, by simp⟩ (by exact zs) yai ?_
 rintro k ⟨hk, he⟩
 (try refine zy ?_)
 refine yag rfl (fun h2 => ?_) (fun h2 => ?_)
 ·have h2 : k < a.length := by simpa using h2
  obtain ⟨x, hx⟩ := yxq h2
  obtain ⟨y, hy⟩ := yxq (show k < b.length by omega)
  (repeat (first | refine zy ?_ | refine yas tok rfl rfl rfl (by omega) (ybo hx) rfl rfl ?_ | refine yas tok rfl rfl rfl (by omega) (ybo hy) rfl rfl ?_ | refine L_neqT (a := x) (b := y) rfl rfl rfl rfl ?_))
  refine yag rfl (fun h3 => ?_) (fun h3 => ?_)
  ·have h3 : ¬ x = y := by intro e; subst e; simp at h3
   (try refine zy ?_)
   refine yal ?_; refine ⟨_, rfl, ?_⟩
   exact ybn (by rw [decide_eq_false]; intro e; subst e; rw [hx] at hy; exact h3 (Option.some.inj hy))
  ·have h3 : x = y := by have h3 := h3; simp at h3; exact Prod.ext h3.1 h3.2
   (try refine zy ?_)
   refine rnd (k + 1) ⟨by omega, ?_⟩ (by omega) (by exact zs) yai
   subst h3
   rw [zco hx, zco hy, he]
 ·have h2 : a.length ≤ k := by simpa using h2
  (try refine zy ?_)
  refine yal ?_; refine ⟨_, rfl, ?_⟩
  exact ybn (by rw [List.take_of_length_le h2, List.take_of_length_le (by omega)] at he; exact (decide_eq_true he).symm)
end
section
open Go.ChangeShapes Go.WideShapes Go.RowKit
theorem zpj (a b : Bs) : ba a ++ ba b = ba (a ++ b) := by
 rw [← ymx (ba a ++ ba b)]
 congr 1
theorem wf_u8 {n : Int} (h : (Lit.int .u8 n).wf = true) : 0 ≤ n ∧ n ≤ 255 := by
 simp only [Lit.wf, Bool.and_eq_true, decide_eq_true_eq] at h
 have e1 : IntKind.u8.min = 0 := by decide
 have e2 : IntKind.u8.max = 255 := by decide
 omega
section
variable {H : Type} {enc : TypeId × Value → H} {w : World} {v : Value} {base : Nat} {d : DataW H} {ps : List MemPlace}
end
end
section
open Go.RowKit
theorem zjw (n : Nat) : strOfNums [(48 : Int) + (n : Nat)] = ba [UInt8.ofNat (48 + n)] := by
 unfold strOfNums ba
 simp only [List.map_cons, List.map_nil]
 congr 4
theorem str_eqE {a b : ByteArray} (h : a = b) : AV.v (.string a) = ycj b := by rw [h]; rfl
theorem yca {h : Nat → Option LObj} {x y : AV} (e : x = y) : Frz h x y := e ▸ Frz.pure
theorem ytt (v : Nat) (hv : v ≤ 2000000000) : Con Tryz.prog 40 [i64 v] (ycj (ba (dec v))) := by
 refine ycs Tryz.func40 rfl rfl Tryz.ntmps40 Tryz.results40 rfl rfl ?_
 have hlen := zfk 10 v (by omega) (by omega)
 have hm : ((v : Nat) : Int).tmod 10 = ((v % 10 : Nat) : Int) := rfl
 (repeat (first | refine zxb tok rfl (by constructor <;> omega) rfl rfl ?_ | refine zI ?_ | refine zL ?_ | refine zC ?_ | refine yoh ?_ | refine yvj ?_ | refine zR ?_ | refine zD ?_ | refine zK ?_ | refine zB ?_ | refine zA ?_ | refine zS ?_ | refine zU ?_ | refine zV ?_ | refine zF ?_ | with_reducible refine ylk ?_ | with_reducible refine yqj ?_ | refine ylb ?_ | refine ynd ?_ | refine yov ?_ | refine zT ?_ | refine zE ?_ | refine zX ?_ | refine zuq tok rfl rfl rfl rfl rfl rfl ?_))
 refine yiv (α := Nat × Bs) (fun q => [(0, i64 q.1), (3, ycj (ba q.2))]) (fun q => []) (fun q => q.1) (fun q => q.1 ≤ v ∧ dec v = (if q.1 < 10 then [] else dec (q.1 / 10)) ++ q.2) (v, [UInt8.ofNat (48 + v % 10)]) ⟨Nat.le_refl _, ?_⟩ ?_ (by exact zh) ?_
 ·simp only
  by_cases h : v < 10
  ·rw [yjx h, if_pos h, Nat.mod_eq_of_lt h]; rfl
  ·rw [ysh h, if_neg h]
 ·refine yke rfl (yke (zgv rfl ?_) zgw)
  rw [hm, zjw]; rfl
 rintro ⟨n, s⟩ ⟨hn, hs⟩
 simp only at hn hs
 have hsl : s.length ≤ 10 := by
  have := congrArg List.length hs
  rw [List.length_append] at this
  omega
 (try refine zy ?_)
 refine yag rfl (fun h => ?_) (fun h => ?_)
 ·simp at h
  have hq : ((((n, s).1 : Nat) : Int).tdiv 10) = ((n / 10 : Nat) : Int) := rfl
  have hr : ((((n, s).1 : Nat) : Int).tdiv 10).tmod 10 = ((n / 10 % 10 : Nat) : Int) := rfl
  (repeat (first | refine zxb tok rfl (by constructor <;> omega) rfl rfl ?_ | refine zI ?_ | refine zL ?_ | refine zC ?_ | refine yoh ?_ | refine yvj ?_ | refine zR ?_ | refine zD ?_ | refine zK ?_ | refine zB ?_ | refine zA ?_ | refine zS ?_ | refine zU ?_ | refine zV ?_ | refine zF ?_ | with_reducible refine ylk ?_ | with_reducible refine yqj ?_ | refine ylb ?_ | refine ynd ?_ | refine yov ?_ | refine zT ?_ | refine zE ?_ | refine zX ?_ | refine zuq tok rfl rfl rfl rfl rfl rfl ?_))
  refine yrq 19 (y := ycj (ba [UInt8.ofNat (48 + n / 10 % 10)])) rfl (by rw [hr, zjw]; rfl) ?_
  (repeat (first | refine zy ?_ | refine ygo rfl rfl (by rw [yar, yar]; simp; omega) rfl rfl ?_))
  refine rnd (n / 10, UInt8.ofNat (48 + n / 10 % 10) :: s) ⟨by simp only; omega, ?_⟩ (by simp only; omega) ?_ (by exact zh)
  ·simp only
   rw [hs, if_neg (by omega)]
   by_cases h2 : n / 10 < 10
   ·rw [yjx h2, if_pos h2, Nat.mod_eq_of_lt h2]; rfl
   ·rw [ysh h2, if_neg h2]; simp
  ·refine yke rfl (yke (zgv rfl (str_eqE ?_)) zgw)
   rw [zpj]; rfl
 ·simp at h
  (try refine zy ?_)
  refine yal ?_; refine ⟨_, rfl, ?_⟩
  refine yca ?_
  rw [hs, if_pos (by omega)]
  rfl
theorem yjl (op : Int) (hop : op ≤ 43) : Con Tryz.prog 41 [i64 op] (i64 ((yfg op : Nat) + 1 : Int)) := by
 by_cases h : op = 43 ∨ op = 42 ∨ op = 41 ∨ op = 35 ∨ op = 36 ∨ op = 37 ∨ op = 38 ∨ op = 39 ∨ op = 40 ∨ op = 33 ∨ op = 34 ∨ op = 30 ∨ op = 31 ∨ op = 32 ∨ op = 18 ∨ op = 19
 ·rcases h with rfl | rfl | rfl | rfl | rfl | rfl | rfl | rfl | rfl | rfl | rfl | rfl | rfl | rfl | rfl | rfl
  all_goals
   refine ycs Tryz.func41 rfl rfl Tryz.ntmps41 Tryz.results41 rfl rfl ?_
   (try refine zy ?_)
   refine yal ?_; refine ⟨_, rfl, ?_⟩
   exact ypu (by decide)
 simp only [not_or] at h
 have e : yfg op = 7 := zih (by omega)
 rw [e]
 refine ycs Tryz.func41 rfl rfl Tryz.ntmps41 Tryz.results41 rfl rfl ?_
 iterate 3 ((try refine zy ?_); refine yag rfl (fun h2 => absurd h2 (by simp; omega)) (fun _ => ?_))
 (try refine zy ?_)
 refine ybu 15 rfl (fun h2 => absurd h2 (by simp; omega)) (fun _ => ?_)
 (try refine zy ?_)
 refine ybu 22 rfl (fun h2 => absurd h2 (by simp; omega)) (fun _ => ?_)
 (try refine zy ?_)
 refine yag rfl (fun h2 => absurd h2 (by simp; omega)) (fun _ => ?_)
 (try refine zy ?_)
 refine ybu 29 rfl (fun h2 => absurd h2 (by simp; omega)) (fun _ => ?_)
 (try refine zy ?_)
 refine ybu 36 rfl (fun h2 => absurd h2 (by simp; omega)) (fun _ => ?_)
 (try refine zy ?_)
 refine yag rfl (fun h2 => absurd h2 (by simp; omega)) (fun _ => ?_)
 (try refine zy ?_)
 refine yal ?_; refine ⟨_, rfl, ?_⟩
 exact ypu rfl
def zrm : List Bs := [[], [], [116, 114, 117, 101], [102, 97, 108, 115, 101], [110, 111, 110, 101], [], [110], [105, 100, 115], [105, 100], [100, 101, 103], [114, 111, 111, 116], [113], [], [113, 46, 105, 100], [113, 46, 100, 101, 103], [113, 46, 114, 111, 111, 116], [113, 46, 119, 101, 105, 103, 104, 116], [113, 46, 98, 97, 99, 107], [45], [33]] ++ zkd ++ zkn ++ [[]]
theorem yvg (op : Int) (h0 : 0 ≤ op) (w : Bs) (hw : zrm[op.toNat]? = some w) : Con Tryz.prog 42 [i64 op] (ycj (ba w)) := by
 refine ycs Tryz.func42 rfl rfl Tryz.ntmps42 Tryz.results42 rfl rfl ?_
 (try refine zy ?_)
 refine yas tok rfl rfl rfl h0 (rows := zrm.map fun w => [ycj (ba w)]) (ygt hw) rfl rfl ?_
 (try refine zy ?_)
 refine yal ?_; refine ⟨_, rfl, ?_⟩
 exact Frz.pure
end
section
open Go.RowKit
section
variable {P : Program} {N : Nat} {ops : Array Oper} {lf : Oper → Bool} {Q : SS → Prop} {t : List (Nat × AV)} {h : List (Nat × Option LObj)} {rest : List Oper} {d : Nat} {ty : TypeId} {pos : String} {af : Array Edge} {gd : Option (Nat × Bool)}
theorem ybq {x y : Operand} {a b : Bs} {tx ty' : TypeId} (hx : evF (look t) x = some (ycj (ba a))) (hy : evF (look t) y = some (ycj (ba b))) (hb : a.length + b.length ≤ 1000000000)
  (hw : yan ops (look t) ⟨some d, .binOp .add tx x y ty', ty, pos, af, gd⟩ = some true) (hd : Nat.blt d N = true) (k : Lex P N ops lf Q rest (S ((d, ycj (ba (a ++ b))) :: t) h)) : Lex P N ops lf Q (⟨some d, .binOp .add tx x y ty', ty, pos, af, gd⟩ :: rest) (S t h) := by
 refine ygo hx hy (by rw [yar, yar]; omega) hw hd ?_
 rw [zpj]
 exact k
end
theorem yuq (op : Int) : Con Tryz.prog 44 [i64 op] (ygx (ymb op)) :=
 yee ⟨_, Tryz.func44, rfl, rfl⟩ fun w us ok hok hr => by
  obtain ⟨u, rfl, h1⟩ := ynb hr
  cases h1
  exact (yna op w).mono fun e w' ⟨h1, h2⟩ => ⟨h1, h2 ▸ Below.refl _ _⟩
theorem rarity_con (op : Int) : Con Tryz.prog 84 [i64 op] (i64 (ar op)) :=
 yee ⟨_, Tryz.func84, rfl, rfl⟩ fun w us ok hok hr => by
  obtain ⟨u, rfl, h1⟩ := ynb hr
  cases h1
  exact (yff op w).mono fun e w' ⟨h1, h2⟩ => ⟨h1, h2 ▸ Below.refl _ _⟩
theorem znk (l : List Tm) (k : Nat) (E : Ex) (r : List Tm) (hl : l.length ≤ 1000) (hk : k ≤ 1000) (hE : l.drop k = E.fl ++ r) (ho : E.ok) : Con Tryz.prog 83 [ybk l, i64 k] (i64 ((k + E.fl.length : Nat) : Int)) :=
 yee ⟨_, Tryz.func83, rfl, rfl⟩ fun w us ok hok hr => by
  obtain ⟨u, v, rfl, h1, h2⟩ := zgj hr
  cases h2
  have e : ysi 1 k l = ((k + E.fl.length : Nat) : Int) := by
   unfold ysi
   rw [hE, zkt E ho 0 r, ypp]
   simp
  rw [← e]
  exact (yqe u l k w hl (Lib.hid (ymr h1 hok)) hk).mono fun e w' ⟨h1, h2⟩ => ⟨h1, h2 ▸ Below.refl _ _⟩
def flX (Xs : List Ex) : List Tm := Xs.flatMap Ex.fl
theorem flX_next {Xs : List Ex} {i : Nat} {X : Ex} (h : Xs[i]? = some X) : flX (Xs.take (i + 1)) = flX (Xs.take i) ++ X.fl := by
 unfold flX; rw [zco h]; simp
theorem flX_split {Xs : List Ex} {i : Nat} {X : Ex} (h : Xs[i]? = some X) : flX Xs = flX (Xs.take i) ++ (X.fl ++ flX (Xs.drop (i + 1))) := by
 have hi := (List.getElem?_eq_some_iff.1 h).1
 have e : Xs = Xs.take i ++ X :: Xs.drop (i + 1) := by
  rw [← (List.getElem?_eq_some_iff.1 h).2, List.getElem_cons_drop, List.take_append_drop]
 unfold flX
 conv => lhs; rw [e]
 simp
theorem yqf (l : List Tm) (p : Nat) (E : Ex) (Xs : List Ex) (t : Tm) (r r1 : List Tm) (hl : l.length ≤ 1000) (hE : l.drop p = E.fl ++ r) (ho : E.ok) (hA : l.drop p = t :: (flX Xs ++ r1)) (hX : ∀ X ∈ Xs, X.ok) (har : Xs.length < ar t.1) : Con Tryz.prog 45 [ybk l, i64 p, i64 (Xs.length : Nat)] (i64 ((p + 1 + (flX Xs).length : Nat) : Int)) := by
 have hlen := congrArg List.length hA
 rw [List.length_drop] at hlen
 simp only [List.length_cons, List.length_append] at hlen
 have hpt : l[p]? = some t := by
  have := congrArg (fun l => l[0]?) hA
  simpa using this
 have hd : l.drop (p + 1) = flX Xs ++ r1 := by rw [← List.tail_drop, hA]; rfl
 have h1 := znk l p E r hl (by omega) hE ho
 have hxl : Xs.length ≤ 3 := by have := zhh t.1; omega
 refine ycs Tryz.func45 rfl rfl Tryz.ntmps45 Tryz.results45 rfl rfl ?_
 (repeat (first | refine zy ?_ | refine yah rfl rfl h1 rfl rfl ?_))
 refine ybu 13 rfl (fun h9 => absurd h9 (by simp; omega)) (fun _ => ?_)
 (try refine zy ?_)
 refine ybu 17 rfl (fun h9 => absurd h9 (by simp)) (fun _ => ?_)
 (repeat (first | refine zy ?_ | refine yas tok rfl rfl rfl (by omega) (ybo hpt) rfl rfl ?_ | refine yah rfl rfl (rarity_con t.1) rfl rfl ?_))
 refine yag rfl (fun h9 => absurd h9 (by simp; omega)) (fun _ => ?_)
 (try refine zy ?_)
 refine yiv (α := Nat) (fun i => [(8, i64 i), (7, i64 ((p + 1 + (flX (Xs.take i)).length : Nat) : Int)), (2, i64 (Xs.length : Nat)), (0, ybk l)]) (fun i => []) (fun i => Xs.length - i) (fun i => i ≤ Xs.length) 0 (by omega) (by exact zs) yai ?_
 intro i hi
 (try refine zy ?_)
 refine yag rfl (fun h2 => ?_) (fun h2 => ?_)
 ·have h2 : i < Xs.length := by simpa using h2
  obtain ⟨X, hXi⟩ := yxq h2
  have hs := flX_split hXi
  have hlx := congrArg List.length hs
  simp only [List.length_append] at hlx
  have hq : l.drop (p + 1 + (flX (Xs.take i)).length) = X.fl ++ (flX (Xs.drop (i + 1)) ++ r1) := by
   rw [← List.drop_drop, hd, hs]
   simp
  have h3 := znk l _ X _ hl (by omega) hq (hX X (List.mem_of_getElem? hXi))
  (repeat (first | refine zy ?_ | refine yah rfl rfl h3 rfl rfl ?_))
  refine rnd (i + 1) (by omega) (by omega) ?_ yai
  refine yke rfl (yke (zgv rfl (i64_eq ?_)) (by exact zs))
  rw [flX_next hXi, List.length_append]
  omega
 ·have h2 : Xs.length ≤ i := by simpa using h2
  (try refine zy ?_)
  refine yal ?_; refine ⟨_, rfl, ?_⟩
  exact ypu (by rw [List.take_of_length_le h2])
def yyj (es : List Tm) (names : List Bs) (E : Ex) : Prop := ∀ (k : Nat), AtE es k E → Con Tryz.prog 26 [ybk es, i64 k, ybh names] (ycj (ba (ybi false names E)))
theorem ar_le {op : Int} (h : 0 ≤ ar op) : op ≤ 43 := by unfold ar at h; (repeat' split at h) <;> omega
theorem opE_le {E : Ex} (h : E.ok) : E.op ≤ 43 := by
 refine ar_le ?_
 cases E with
 | lf t => have h : ar t.1 = 0 := h; show 0 ≤ ar t.1; omega
 | un t a => have := h.1; show 0 ≤ ar t.1; omega
 | bi t a b => have := h.1; show 0 ≤ ar t.1; omega
 | tr t a b c => have := h.1; show 0 ≤ ar t.1; omega
section
variable {es : List Tm} {names : List Bs}
theorem fl_head (E : Ex) : ∃ r v, E.fl = (E.op, v) :: r := by cases E <;> exact ⟨_, _, rfl⟩
theorem ykq {E : Ex} (hn : ∀ w ∈ names, w.length ≤ 24) (hes : es.length ≤ 1000) (hE : E.ok) (ha : ∀ x ∈ E.fl, yhl names.length x = true) (hT : yyj es names E) (k : Nat) (hat : AtE es k E) (l : Nat) (lev : Int) (hlev : lev = l + 1) : Con Tryz.prog 43 [ybk es, i64 k, i64 lev, ybh names] (ycj (ba (brT (ybr l E) (ybi false names E)))) := by
 obtain ⟨r, v, hfl⟩ := fl_head E
 have hk := hat.head hfl
 have hbd := hat.bound
 have hbl := zko hn hE ha false
 simp only [brT] at hbl
 refine ycs Tryz.func43 rfl rfl Tryz.ntmps43 Tryz.results43 rfl rfl ?_
 (repeat (first | refine zy ?_ | refine yah rfl rfl (hT k hat) rfl rfl ?_ | refine yas tok rfl rfl rfl (by omega) (ybo hk) rfl rfl ?_ | refine yah rfl rfl (yjl E.op (opE_le hE)) rfl rfl ?_))
 refine yag rfl (fun h1 => ?_) (fun h1 => ?_)
 ·have h1 : ybr l E = true := by simp at h1; simp [ybr]; omega
  rw [h1]
  (try refine zy ?_)
  refine ybq (a := [40]) rfl rfl (by simp; omega) rfl rfl ?_
  (try refine zy ?_)
  refine ybq (b := [41]) rfl rfl (by simp; omega) rfl rfl ?_
  (try refine zy ?_)
  refine yal ?_; refine ⟨_, rfl, ?_⟩
  exact yca rfl
 ·have h1 : ybr l E = false := by simp at h1; simp [ybr]; omega
  rw [h1]
  (try refine zy ?_)
  refine yal ?_; refine ⟨_, rfl, ?_⟩
  exact Frz.pure
theorem word_leaf {t : Tm} (hE : ar t.1 = 0) (h1 : t.1 ≠ 1) (h5 : t.1 ≠ 5) (h12 : t.1 ≠ 12) : zrm[t.1.toNat]? = some (ykr names t) := by
 obtain ⟨op, v⟩ := t
 have hb : op = 2 ∨ op = 3 ∨ op = 4 ∨ op = 6 ∨ op = 7 ∨ op = 8 ∨ op = 9 ∨ op = 10 ∨ op = 11 ∨ op = 13 ∨ op = 14 ∨ op = 15 ∨ op = 16 ∨ op = 17 := by
  simp only at hE h1 h5 h12
  unfold ar at hE; (repeat' split at hE) <;> omega
 rcases hb with rfl | rfl | rfl | rfl | rfl | rfl | rfl | rfl | rfl | rfl | rfl | rfl | rfl | rfl <;> rfl
theorem text_lf {t : Tm} (hes : es.length ≤ 1000) (hn : ∀ w ∈ names, w.length ≤ 24) (hE : ar t.1 = 0) (ha : yhl names.length t = true) : yyj es names (.lf t) := by
 intro k hat
 have hk := hat.head rfl
 have hlt : k < es.length := (List.getElem?_eq_some_iff.1 hk).1
 have hb : 1 ≤ t.1 ∧ t.1 ≤ 17 := by unfold ar at hE; (repeat' split at hE) <;> omega
 have h7 : yfg t.1 = 7 := zih (by omega)
 have hagg : ymb t.1 = false := by simp only [ymb, decide_eq_false (show ¬ 20 ≤ t.1 by omega), Bool.false_and]
 show Con _ _ _ (ycj (ba (ykr names t)))
 refine ycs Tryz.func26 rfl rfl Tryz.ntmps26 Tryz.results26 rfl rfl ?_
 (repeat (first | refine zy ?_ | refine yas tok rfl rfl rfl (by omega) (ybo hk) rfl rfl ?_ | refine yah rfl rfl (yjl t.1 (by omega)) rfl rfl ?_))
 refine yag rfl (fun h1 => ?_) (fun h1 => ?_)
 ·have h1 : t.1 = 1 := by simpa using h1
  have hv : 0 ≤ t.2 ∧ t.2 ≤ 1073741824 := by simpa [yhl, h1] using ha
  have hd := ytt t.2.toNat (by omega)
  rw [Int.toNat_of_nonneg hv.1] at hd
  (repeat (first | refine zy ?_ | refine yas tok rfl rfl rfl (by omega) (ybo hk) rfl rfl ?_ | refine yah rfl rfl hd rfl rfl ?_))
  refine yal ?_; refine ⟨_, rfl, ?_⟩
  exact yca (by rw [ykr, if_pos h1])
 have h1 : t.1 ≠ 1 := by simpa using h1
 (try refine zy ?_)
 refine yag rfl (fun h5 => ?_) (fun h5 => ?_)
 ·have h5 : t.1 = 5 := by simpa using h5
  have hv : 0 ≤ t.2 ∧ t.2 < names.length := by simpa [yhl, h5] using ha
  obtain ⟨w, hw⟩ := yyl (show t.2.toNat < names.length by omega)
  (repeat (first | refine zy ?_ | refine yas tok rfl rfl rfl (by omega) (ybo hk) rfl rfl ?_ | refine yas tok rfl rfl rfl (by omega) (ygt hw) rfl rfl ?_))
  refine yal ?_; refine ⟨_, rfl, ?_⟩
  exact yca (by rw [ykr, if_neg h1, if_pos h5, yfn, hw]; rfl)
 have h5 : t.1 ≠ 5 := by simpa using h5
 (try refine zy ?_)
 refine yag rfl (fun h12 => ?_) (fun h12 => ?_)
 ·have h12 : t.1 = 12 := by simpa using h12
  have hv : 0 ≤ t.2 ∧ t.2 < names.length := by simpa [yhl, h12] using ha
  obtain ⟨w, hw⟩ := yyl (show t.2.toNat < names.length by omega)
  have hwl := hn w (List.mem_of_getElem? hw)
  (repeat (first | refine zy ?_ | refine yas tok rfl rfl rfl (by omega) (ybo hk) rfl rfl ?_ | refine yas tok rfl rfl rfl (by omega) (ygt hw) rfl rfl ?_))
  refine ybq (a := [113, 46]) (b := w) rfl rfl (by simp; omega) rfl rfl ?_
  (try refine zy ?_)
  refine yal ?_; refine ⟨_, rfl, ?_⟩
  exact yca (by rw [ykr, if_neg h1, if_neg h5, if_neg (by omega), if_pos h12, yfn, hw]; rfl)
 have h12 : t.1 ≠ 12 := by simpa using h12
 have hwd := yvg t.1 (by omega) _ (word_leaf (names := names) hE h1 h5 h12)
 (try refine zy ?_)
 refine ybu 51 rfl (fun h9 => absurd h9 (by simp; omega)) (fun _ => ?_)
 (try refine zy ?_)
 refine yag rfl (fun h9 => absurd h9 (by simp; omega)) (fun _ => ?_)
 (repeat (first | refine zy ?_ | refine yah rfl rfl (yuq t.1) rfl rfl ?_))
 refine yag rfl (fun h9 => absurd h9 (by simp [hagg])) (fun _ => ?_)
 (try refine zy ?_)
 refine yag rfl (fun h9 => absurd h9 (by simp; omega)) (fun _ => ?_)
 (try refine zy ?_)
 refine yag rfl (fun h9 => absurd h9 (by simp; omega)) (fun _ => ?_)
 (try refine zy ?_)
 refine yag rfl (fun h9 => absurd h9 (by simp; omega)) (fun _ => ?_)
 (repeat (first | refine zy ?_ | refine yah rfl rfl hwd rfl rfl ?_))
 refine yal ?_; refine ⟨_, rfl, ?_⟩
 exact Frz.pure
end
end
section
open Go.RowKit
theorem itoaP {n : Int} (h : 0 ≤ n) : Lib.itoa n = dec n.toNat := by
 unfold Lib.itoa; rw [if_neg (by omega)]
theorem yll (n : Int) (h0 : 0 ≤ n) (h1 : n ≤ 1000000) : Con Tryz.prog 35 [i64 n] (ycj (ba (dec n.toNat))) := by
 rw [← itoaP h0]; exact zms n (by omega) (by omega)
theorem zbs (c : Int) (w : Bs) (h0 : 0 ≤ c ∧ c ≤ 255) (hw : w.length ≤ 3) : Con Tryz.prog 36 [i64 c, ycj (ba w)] (ycj (ba (ytb c w))) := by
 have hd := ydb (n := c.toNat) (by omega)
 refine ycs Tryz.func36 rfl rfl Tryz.ntmps36 Tryz.results36 rfl rfl ?_
 (try refine zy ?_)
 refine yag rfl (fun h => ?_) (fun h => ?_)
 ·have h : c = 1 := by simpa using h
  (try refine zy ?_)
  refine yal ?_; refine ⟨_, rfl, ?_⟩
  refine yca ?_
  rw [ytb, if_pos h]
 ·have h : ¬ c = 1 := by simpa using h
  (repeat (first | refine zy ?_ | refine yah rfl rfl (yll c (by omega) (by omega)) rfl rfl ?_))
  refine ybq (b := [32, 42, 32]) rfl rfl (by simp; omega) rfl rfl ?_
  (try refine zy ?_)
  refine ybq rfl rfl (by simp; omega) rfl rfl ?_
  (try refine zy ?_)
  refine yal ?_; refine ⟨_, rfl, ?_⟩
  refine yca ?_
  rw [ytb, if_neg h]
  simp
theorem kind_conP (x : VarD) (h : NumOk x) : Con Tryz.prog 20 [.agg (yil x)] (ycj (ba (ypw x))) := by
 have l1 := ydb (n := x.lo.toNat) (by have := h.lo; omega)
 have l2 := yun h.node (w := [110]) (by simp)
 have l3 := yun h.id (w := yvi) (by simp [yvi])
 refine ycs Tryz.func20 rfl rfl Tryz.ntmps20 Tryz.results20 rfl rfl ?_
 (try refine zy ?_)
 refine yag rfl (fun h2 => ?_) (fun h2 => ?_)
 ·have h2 : x.kind = 2 := by simpa using h2
  (try refine zy ?_)
  refine yal ?_; refine ⟨_, rfl, ?_⟩
  refine yca ?_
  rw [ypw, if_pos h2]; rfl
 have h2 : ¬ x.kind = 2 := by simpa using h2
 (try refine zy ?_)
 refine yag rfl (fun h3 => ?_) (fun h3 => ?_)
 ·have h3 : x.kind = 3 := by simpa using h3
  (try refine zy ?_)
  refine yal ?_; refine ⟨_, rfl, ?_⟩
  refine yca ?_
  rw [ypw, if_neg h2, if_pos h3]; rfl
 have h3 : ¬ x.kind = 3 := by simpa using h3
 have hk : ypw x = dec x.lo.toNat ++ (32 :: 46 :: 46 :: 32 :: yfs x) := by rw [ypw, if_neg h2, if_neg h3]
 have hlo := h.lo
 have hhi := h.hi
 (repeat (first | refine zy ?_ | refine yah rfl rfl (yll x.lo (by omega) (by omega)) rfl rfl ?_))
 refine ybq (b := [32, 46, 46, 32]) rfl rfl (by simp; omega) rfl rfl ?_
 (try refine zy ?_)
 refine yag rfl (fun h4 => ?_) (fun h4 => ?_)
 ·have h4 : 0 < x.perNode := by simpa using h4
  have hb : yfs x = ytb x.perNode [110] ++ ysz x.hi := by rw [yfs, if_pos h4]
  (repeat (first | refine zy ?_ | refine yah rfl rfl (zbs x.perNode [110] h.node (by simp)) rfl rfl ?_))
  refine ybq rfl rfl (by simp; omega) rfl rfl ?_
  (try refine zy ?_)
  refine yag rfl (fun h5 => ?_) (fun h5 => ?_)
  ·have h5 : 0 < x.hi := by simpa using h5
   have lh := ydb (n := x.hi.toNat) (by omega)
   (repeat (first | refine zy ?_ | refine yah rfl rfl (yll x.hi (by omega) (by omega)) rfl rfl ?_))
   refine ybq (a := [32, 43, 32]) rfl rfl (by simp; omega) rfl rfl ?_
   refine ybq rfl rfl (by simp; omega) rfl rfl ?_
   (try refine zy ?_)
   refine yal ?_; refine ⟨_, rfl, ?_⟩
   refine yca ?_
   rw [hk, hb, ysz, if_pos h5]
   simp
  have h5 : ¬ 0 < x.hi := by simpa using h5
  (try refine zy ?_)
  refine yag rfl (fun h6 => ?_) (fun h6 => ?_)
  ·have h6 : x.hi < 0 := by simpa using h6
   have lh := ydb (n := (-x.hi).toNat) (by omega)
   (repeat (first | refine zy ?_ | refine yah rfl rfl (yll (0 - x.hi) (by omega) (by omega)) rfl rfl ?_))
   refine ybq (a := [32, 45, 32]) rfl rfl (by simp; omega) rfl rfl ?_
   refine ybq rfl rfl (by simp; omega) rfl rfl ?_
   (try refine zy ?_)
   refine yal ?_; refine ⟨_, rfl, ?_⟩
   refine yca ?_
   rw [hk, hb, ysz, if_neg h5, if_pos h6]
   simp
  ·have h6 : ¬ x.hi < 0 := by simpa using h6
   (try refine zy ?_)
   refine yal ?_; refine ⟨_, rfl, ?_⟩
   refine yca ?_
   rw [hk, hb, ysz, if_neg h5, if_neg h6]
   simp
 have h4 : ¬ 0 < x.perNode := by simpa using h4
 (try refine zy ?_)
 refine yag rfl (fun h7 => ?_) (fun h7 => ?_)
 ·have h7 : 0 < x.perID := by simpa using h7
  have hb : yfs x = ytb x.perID yvi ++ ysz x.hi := by rw [yfs, if_neg h4, if_pos h7]
  (repeat (first | refine zy ?_ | refine yah rfl rfl (zbs x.perID yvi h.id (by simp [yvi])) rfl rfl ?_))
  refine ybq rfl rfl (by simp; omega) rfl rfl ?_
  (try refine zy ?_)
  refine yag rfl (fun h5 => ?_) (fun h5 => ?_)
  ·have h5 : 0 < x.hi := by simpa using h5
   have lh := ydb (n := x.hi.toNat) (by omega)
   (repeat (first | refine zy ?_ | refine yah rfl rfl (yll x.hi (by omega) (by omega)) rfl rfl ?_))
   refine ybq (a := [32, 43, 32]) rfl rfl (by simp; omega) rfl rfl ?_
   refine ybq rfl rfl (by simp; omega) rfl rfl ?_
   (try refine zy ?_)
   refine yal ?_; refine ⟨_, rfl, ?_⟩
   refine yca ?_
   rw [hk, hb, ysz, if_pos h5]
   simp
  have h5 : ¬ 0 < x.hi := by simpa using h5
  (try refine zy ?_)
  refine yag rfl (fun h6 => ?_) (fun h6 => ?_)
  ·have h6 : x.hi < 0 := by simpa using h6
   have lh := ydb (n := (-x.hi).toNat) (by omega)
   (repeat (first | refine zy ?_ | refine yah rfl rfl (yll (0 - x.hi) (by omega) (by omega)) rfl rfl ?_))
   refine ybq (a := [32, 45, 32]) rfl rfl (by simp; omega) rfl rfl ?_
   refine ybq rfl rfl (by simp; omega) rfl rfl ?_
   (try refine zy ?_)
   refine yal ?_; refine ⟨_, rfl, ?_⟩
   refine yca ?_
   rw [hk, hb, ysz, if_neg h5, if_pos h6]
   simp
  ·have h6 : ¬ x.hi < 0 := by simpa using h6
   (try refine zy ?_)
   refine yal ?_; refine ⟨_, rfl, ?_⟩
   refine yca ?_
   rw [hk, hb, ysz, if_neg h5, if_neg h6]
   simp
 have h7 : ¬ 0 < x.perID := by simpa using h7
 have hb : yfs x = dec x.hi.toNat := by rw [yfs, if_neg h4, if_neg h7]
 have hp : 0 ≤ x.hi := h.pos (by have := h.node; omega) (by have := h.id; omega)
 have lh := ydb (n := x.hi.toNat) (by omega)
 (repeat (first | refine zy ?_ | refine yah rfl rfl (yll x.hi (by omega) (by omega)) rfl rfl ?_))
 refine ybq rfl rfl (by simp; omega) rfl rfl ?_
 (try refine zy ?_)
 refine yal ?_; refine ⟨_, rfl, ?_⟩
 refine yca ?_
 rw [hk, hb]
 simp
theorem zcp (e : List Tm) (names : List Bs) (hs : ShortP names) (hl : names.length ≤ 6) (hv : yco e names.length = true) : Con Tryz.prog 21 [ybk e, ybh names] (ycj (ba (yem false names e))) := by
 have hf := format_con e names (by have := (ysr hs hv).2; omega) (by omega) (fun w hw => by have := hs.len w hw; omega)
 rw [yxp hs.good hv] at hf
 refine ycs Tryz.func21 rfl rfl Tryz.ntmps21 Tryz.results21 rfl rfl ?_
 (repeat (first | refine zy ?_ | refine yah rfl rfl hf rfl rfl ?_))
 refine yal ?_; refine ⟨_, rfl, ?_⟩
 exact Frz.pure
end
section
open Go.RowKit
section
variable {es : List Tm} {names : List Bs}
theorem word_agg {op : Int} (h : 20 ≤ op ∧ op ≤ 29) : zrm[op.toNat]? = some (zrv op) ∧ (zrv op).length ≤ 6 := by
 obtain ⟨k, rfl⟩ := ypr (lo := 20) (n := 10) h.1 (by omega)
 revert k
 decide
theorem word_bin {op : Int} (h : 30 ≤ op ∧ op ≤ 42) : zrm[op.toNat]? = some (zrx op) ∧ (zrx op).length ≤ 2 := by
 obtain ⟨k, rfl⟩ := ypr (lo := 30) (n := 13) h.1 (by omega)
 revert k
 decide
theorem text_un {t : Tm} {a : Ex} (hes : es.length ≤ 1000) (hn : ∀ w ∈ names, w.length ≤ 24) (ht : ar t.1 = 1) (hE : a.ok) (ha : ∀ x ∈ a.fl, yhl names.length x = true) (iha : yyj es names a) : yyj es names (.un t a) := by
 intro k hat
 have hk := hat.head rfl
 have hbd := hat.bound
 simp only [Ex.fl, List.length_cons] at hbd
 have hlt : k < es.length := (List.getElem?_eq_some_iff.1 hk).1
 have hata : AtE es (k + 1) a := (AtE.tail (y := []) (by have h : (t :: a.fl) <+: es.drop k := hat; simpa using h)).1
 have hop := zuw ht
 have hbl := zko hn hE ha (ybr 6 a)
 have hbl0 := zko hn hE ha false
 simp only [brT] at hbl0
 have cb := ykq hn hes hE ha iha (k + 1) hata 6 7 rfl
 have ct := iha (k + 1) hata
 by_cases h18 : t.1 = 18
 ·have hw := yvg t.1 (by omega) [45] (by rw [h18]; rfl)
  refine ycs Tryz.func26 rfl rfl Tryz.ntmps26 Tryz.results26 rfl rfl ?_
  (repeat (first | refine zy ?_ | refine yas tok rfl rfl rfl (by omega) (ybo hk) rfl rfl ?_ | refine yah rfl rfl (yjl t.1 (by omega)) rfl rfl ?_))
  iterate 3 (refine yag rfl (fun h9 => absurd h9 (by simp; omega)) (fun _ => ?_); (try refine zy ?_))
  refine ybu 51 rfl (fun _ => ?_) (fun h9 => absurd h9 (by simp; omega))
  (repeat (first | refine zy ?_ | refine yah rfl rfl hw rfl rfl ?_ | refine yah rfl rfl cb rfl rfl ?_ | refine ybq rfl rfl (by simp only [List.length_cons, List.length_nil]; omega) rfl rfl ?_))
  refine yal ?_; refine ⟨_, rfl, ?_⟩
  exact yca (by simp [ybi, h18])
 by_cases h19 : t.1 = 19
 ·have hw := yvg t.1 (by omega) [33] (by rw [h19]; rfl)
  refine ycs Tryz.func26 rfl rfl Tryz.ntmps26 Tryz.results26 rfl rfl ?_
  (repeat (first | refine zy ?_ | refine yas tok rfl rfl rfl (by omega) (ybo hk) rfl rfl ?_ | refine yah rfl rfl (yjl t.1 (by omega)) rfl rfl ?_))
  iterate 3 (refine yag rfl (fun h9 => absurd h9 (by simp; omega)) (fun _ => ?_); (try refine zy ?_))
  refine ybu 51 rfl (fun h9 => absurd h9 (by simp; omega)) (fun _ => ?_)
  (try refine zy ?_)
  refine yag rfl (fun _ => ?_) (fun h9 => absurd h9 (by simp; omega))
  (repeat (first | refine zy ?_ | refine yah rfl rfl hw rfl rfl ?_ | refine yah rfl rfl cb rfl rfl ?_ | refine ybq rfl rfl (by simp only [List.length_cons, List.length_nil]; omega) rfl rfl ?_))
  refine yal ?_; refine ⟨_, rfl, ?_⟩
  exact yca (by simp [ybi, h19])
 obtain ⟨hw1, hw2⟩ := word_agg (op := t.1) (by omega)
 have hw := yvg t.1 (by omega) _ hw1
 have hagg : ymb t.1 = true := by simp [ymb]; omega
 refine ycs Tryz.func26 rfl rfl Tryz.ntmps26 Tryz.results26 rfl rfl ?_
 (repeat (first | refine zy ?_ | refine yas tok rfl rfl rfl (by omega) (ybo hk) rfl rfl ?_ | refine yah rfl rfl (yjl t.1 (by omega)) rfl rfl ?_))
 iterate 3 (refine yag rfl (fun h9 => absurd h9 (by simp; omega)) (fun _ => ?_); (try refine zy ?_))
 refine ybu 51 rfl (fun h9 => absurd h9 (by simp; omega)) (fun _ => ?_)
 (try refine zy ?_)
 refine yag rfl (fun h9 => absurd h9 (by simp; omega)) (fun _ => ?_)
 (repeat (first | refine zy ?_ | refine yah rfl rfl (yuq t.1) rfl rfl ?_))
 refine yag rfl (fun _ => ?_) (fun h9 => absurd h9 (by simp [hagg]))
 (repeat (first | refine zy ?_ | refine yah rfl rfl hw rfl rfl ?_))
 refine ybq (b := [40]) rfl rfl (by simp only [List.length_cons, List.length_nil]; omega) rfl rfl ?_
 (repeat (first | refine zy ?_ | refine yah rfl rfl ct rfl rfl ?_ | refine ybq (b := ybi false names a) rfl rfl (by simp only [List.length_cons, List.length_nil, List.length_append]; omega) rfl rfl ?_ | refine ybq (b := [41]) rfl rfl (by simp only [List.length_cons, List.length_nil, List.length_append]; omega) rfl rfl ?_))
 refine yal ?_; refine ⟨_, rfl, ?_⟩
 exact yca (by simp [ybi, h18, h19])
theorem text_bi {t : Tm} {a b : Ex} (hes : es.length ≤ 1000) (hn : ∀ w ∈ names, w.length ≤ 24) (ht : ar t.1 = 2) (hEa : a.ok) (hEb : b.ok) (hab : ∀ x ∈ (Ex.bi t a b).fl, yhl names.length x = true) (iha : yyj es names a) (ihb : yyj es names b) : yyj es names (.bi t a b) := by
 intro k hat
 have hk := hat.head rfl
 have hbd := hat.bound
 simp only [Ex.fl, List.length_cons, List.length_append] at hbd
 have hlt : k < es.length := (List.getElem?_eq_some_iff.1 hk).1
 obtain ⟨hata, hatb⟩ := AtE.tail (x := a.fl) (y := b.fl) (show (t :: (a.fl ++ b.fl)) <+: es.drop k from hat)
 have ha : ∀ x ∈ a.fl, yhl names.length x = true := fun x hx => hab x (by simp [Ex.fl, hx])
 have hb : ∀ x ∈ b.fl, yhl names.length x = true := fun x hx => hab x (by simp [Ex.fl, hx])
 have hop := zuu ht
 have hlev := zsu hop
 obtain ⟨r, hr⟩ := hat
 obtain ⟨hw1, hw2⟩ := word_bin (op := t.1) hop
 have hw := yvg t.1 (by omega) _ hw1
 have hbla := fun l => zko hn hEa ha (ybr l a)
 have hblb := fun l => zko hn hEb hb (ybr l b)
 have hagg : ymb t.1 = false := by simp [ymb]; omega
 have co := yqf es k (.bi t a b) [a] t r (b.fl ++ r) hes hr.symm ⟨ht, hEa, hEb⟩ (by rw [← hr]; simp [flX, Ex.fl]) (fun X hX => by simp at hX; rw [hX]; exact hEa) (by rw [ht]; simp)
 rw [show (flX [a]).length = a.fl.length by simp [flX]] at co
 have cb := fun l lev e => ykq hn hes hEb hb ihb (k + 1 + a.fl.length) hatb l lev e
 have ca := fun l lev e => ykq hn hes hEa ha iha (k + 1) hata l lev e
 have h4a := hbla 4
 have h4b := hblb 4
 have hla := hbla (yfg t.1)
 have hlb := hblb (yfg t.1 + 1)
 refine ycs Tryz.func26 rfl rfl Tryz.ntmps26 Tryz.results26 rfl rfl ?_
 (repeat (first | refine zy ?_ | refine yas tok rfl rfl rfl (by omega) (ybo hk) rfl rfl ?_ | refine yah rfl rfl (yjl t.1 (by omega)) rfl rfl ?_))
 iterate 3 (refine yag rfl (fun h9 => absurd h9 (by simp; omega)) (fun _ => ?_); (try refine zy ?_))
 refine ybu 51 rfl (fun h9 => absurd h9 (by simp; omega)) (fun _ => ?_)
 (try refine zy ?_)
 refine yag rfl (fun h9 => absurd h9 (by simp; omega)) (fun _ => ?_)
 (repeat (first | refine zy ?_ | refine yah rfl rfl (yuq t.1) rfl rfl ?_))
 refine yag rfl (fun h9 => absurd h9 (by simp [hagg])) (fun _ => ?_)
 (try refine zy ?_)
 refine yag rfl (fun h9 => absurd h9 (by simp; omega)) (fun _ => ?_)
 (try refine zy ?_)
 refine yag rfl (fun h3 => ?_) (fun h3 => ?_)
 ·have h3 : yfg t.1 = 3 := by simp at h3; omega
  (repeat (first | refine zy ?_ | refine yah rfl rfl (ca 4 5 rfl) rfl rfl ?_))
  refine ybq (b := [32]) rfl rfl (by simp only [List.length_cons, List.length_nil]; omega) rfl rfl ?_
  (repeat (first | refine zy ?_ | refine yah rfl rfl hw rfl rfl ?_))
  refine ybq rfl rfl (by simp only [List.length_cons, List.length_nil, List.length_append]; omega) rfl rfl ?_
  refine ybq (b := [32]) rfl rfl (by simp only [List.length_cons, List.length_nil, List.length_append]; omega) rfl rfl ?_
  (repeat (first | refine zy ?_ | refine yah rfl rfl co rfl rfl ?_ | refine yah rfl rfl (cb 4 5 rfl) rfl rfl ?_ | refine ybq rfl rfl (by simp only [List.length_cons, List.length_nil, List.length_append]; omega) rfl rfl ?_))
  refine yal ?_; refine ⟨_, rfl, ?_⟩
  exact yca (by simp [ybi, yuf, h3])
 have h3 : yfg t.1 ≠ 3 := by simp at h3; omega
 (try refine zy ?_)
 refine yag rfl (fun _ => ?_) (fun h9 => absurd h9 (by simp; omega))
 (repeat (first | refine zy ?_ | refine yah rfl rfl (ca (yfg t.1) ((yfg t.1 : Nat) + 1) rfl) rfl rfl ?_))
 refine ybq (b := [32]) rfl rfl (by simp only [List.length_cons, List.length_nil]; omega) rfl rfl ?_
 (repeat (first | refine zy ?_ | refine yah rfl rfl hw rfl rfl ?_))
 refine ybq rfl rfl (by simp only [List.length_cons, List.length_nil, List.length_append]; omega) rfl rfl ?_
 refine ybq (b := [32]) rfl rfl (by simp only [List.length_cons, List.length_nil, List.length_append]; omega) rfl rfl ?_
 (repeat (first | refine zy ?_ | refine yah rfl rfl co rfl rfl ?_ | refine yah rfl rfl (cb (yfg t.1 + 1) ((yfg t.1 : Nat) + 1 + 1) (by omega)) rfl rfl ?_ | refine ybq rfl rfl (by simp only [List.length_cons, List.length_nil, List.length_append]; omega) rfl rfl ?_))
 refine yal ?_; refine ⟨_, rfl, ?_⟩
 exact yca (by simp [ybi, yuf, h3])
theorem text_tr {t : Tm} {a b c : Ex} (hes : es.length ≤ 1000) (hn : ∀ w ∈ names, w.length ≤ 24) (ht : ar t.1 = 3) (hEa : a.ok) (hEb : b.ok) (hEc : c.ok) (hab : ∀ x ∈ (Ex.tr t a b c).fl, yhl names.length x = true) (iha : yyj es names a) (ihb : yyj es names b) (ihc : yyj es names c) : yyj es names (.tr t a b c) := by
 intro k hat
 have hk := hat.head rfl
 have hbd := hat.bound
 simp only [Ex.fl, List.length_cons, List.length_append] at hbd
 have hlt : k < es.length := (List.getElem?_eq_some_iff.1 hk).1
 obtain ⟨hata, hatbc⟩ := AtE.tail (x := a.fl) (y := b.fl ++ c.fl) (show (t :: (a.fl ++ (b.fl ++ c.fl))) <+: es.drop k from hat)
 have hatb : AtE es (k + 1 + a.fl.length) b := (List.prefix_append b.fl c.fl).trans hatbc
 have hatc : AtE es (k + 1 + a.fl.length + b.fl.length) c := by
  obtain ⟨q, hq⟩ := hatbc
  refine ⟨q, ?_⟩
  rw [← List.drop_drop, ← hq]
  simp
 have ha : ∀ x ∈ a.fl, yhl names.length x = true := fun x hx => hab x (by simp [Ex.fl, hx])
 have hb : ∀ x ∈ b.fl, yhl names.length x = true := fun x hx => hab x (by simp [Ex.fl, hx])
 have hc : ∀ x ∈ c.fl, yhl names.length x = true := fun x hx => hab x (by simp [Ex.fl, hx])
 have hop := zuv ht
 obtain ⟨r, hr⟩ := hat
 have hbla := zko hn hEa ha (ybr 1 a)
 have hblb := zko hn hEb hb false
 have hblc := zko hn hEc hc false
 simp only [brT] at hblb hblc
 have hagg : ymb t.1 = false := by simp [ymb]; omega
 have co := yqf es k (.tr t a b c) [a] t r (b.fl ++ (c.fl ++ r)) hes hr.symm ⟨ht, hEa, hEb, hEc⟩ (by rw [← hr]; simp [flX, Ex.fl]) (fun X hX => by simp at hX; rw [hX]; exact hEa) (by rw [ht]; simp)
 rw [show (flX [a]).length = a.fl.length by simp [flX]] at co
 have co2 := yqf es k (.tr t a b c) [a, b] t r (c.fl ++ r) hes hr.symm ⟨ht, hEa, hEb, hEc⟩ (by rw [← hr]; simp [flX, Ex.fl]) (fun X hX => by simp at hX; rcases hX with rfl | rfl <;> assumption) (by rw [ht]; simp)
 rw [show k + 1 + (flX [a, b]).length = k + 1 + a.fl.length + b.fl.length by simp [flX]; omega] at co2
 have ca := ykq hn hes hEa ha iha (k + 1) hata 1 2 rfl
 have cb := ihb (k + 1 + a.fl.length) hatb
 have cc := ihc (k + 1 + a.fl.length + b.fl.length) hatc
 refine ycs Tryz.func26 rfl rfl Tryz.ntmps26 Tryz.results26 rfl rfl ?_
 (repeat (first | refine zy ?_ | refine yas tok rfl rfl rfl (by omega) (ybo hk) rfl rfl ?_ | refine yah rfl rfl (yjl t.1 (by omega)) rfl rfl ?_))
 iterate 3 (refine yag rfl (fun h9 => absurd h9 (by simp; omega)) (fun _ => ?_); (try refine zy ?_))
 refine ybu 51 rfl (fun h9 => absurd h9 (by simp; omega)) (fun _ => ?_)
 (try refine zy ?_)
 refine yag rfl (fun h9 => absurd h9 (by simp; omega)) (fun _ => ?_)
 (repeat (first | refine zy ?_ | refine yah rfl rfl (yuq t.1) rfl rfl ?_))
 refine yag rfl (fun h9 => absurd h9 (by simp [hagg])) (fun _ => ?_)
 (try refine zy ?_)
 refine yag rfl (fun _ => ?_) (fun h9 => absurd h9 (by simp; omega))
 (repeat (first | refine zy ?_ | refine yah rfl rfl ca rfl rfl ?_))
 refine ybq (b := [32, 63, 32]) rfl rfl (by simp only [List.length_cons, List.length_nil]; omega) rfl rfl ?_
 (repeat (first | refine zy ?_ | refine yah rfl rfl co rfl rfl ?_ | refine yah rfl rfl cb rfl rfl ?_))
 refine ybq rfl rfl (by simp only [List.length_cons, List.length_nil, List.length_append]; omega) rfl rfl ?_
 refine ybq (b := [32, 58, 32]) rfl rfl (by simp only [List.length_cons, List.length_nil, List.length_append]; omega) rfl rfl ?_
 (repeat (first | refine zy ?_ | refine yah rfl rfl co2 rfl rfl ?_ | refine yah rfl rfl cc rfl rfl ?_ | refine ybq rfl rfl (by simp only [List.length_cons, List.length_nil, List.length_append]; omega) rfl rfl ?_))
 refine yal ?_; refine ⟨_, rfl, ?_⟩
 exact yca (by simp [ybi, brT])
theorem yor (hes : es.length ≤ 1000) (hn : ∀ w ∈ names, w.length ≤ 24) : ∀ (E : Ex), E.ok → (∀ x ∈ E.fl, yhl names.length x = true) → yyj es names E
 | .lf t, hE, ha => text_lf hes hn hE (ha t (by simp [Ex.fl]))
 | .un t a, hE, ha => text_un hes hn hE.1 hE.2 (fun x hx => ha x (by simp [Ex.fl, hx])) (yor hes hn a hE.2 fun x hx => ha x (by simp [Ex.fl, hx]))
 | .bi t a b, hE, ha => text_bi hes hn hE.1 hE.2.1 hE.2.2 ha (yor hes hn a hE.2.1 fun x hx => ha x (by simp [Ex.fl, hx])) (yor hes hn b hE.2.2 fun x hx => ha x (by simp [Ex.fl, hx]))
 | .tr t a b c, hE, ha => text_tr hes hn hE.1 hE.2.1 hE.2.2.1 hE.2.2.2 ha (yor hes hn a hE.2.1 fun x hx => ha x (by simp [Ex.fl, hx])) (yor hes hn b hE.2.2.1 fun x hx => ha x (by simp [Ex.fl, hx])) (yor hes hn c hE.2.2.2 fun x hx => ha x (by simp [Ex.fl, hx]))
end
end
end Go.Proofs.YtefiainojfeagaaGreatDoor
