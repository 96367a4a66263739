/- Part 15 of the texts under TopRenumberingCommutes: joined, with what it needs alone. -/
import Derived.KernelRfl
import Derived.Test.YtgpbgfpjlhoicaaGreatDoorRows
import Derived.Lib.LaidTab
import Derived.Deep.DeepHandedRow
import Derived.LaidSub
import Derived.Test.YtgpbgfpjlhoicaaGreatDoorRN1
import Derived.Test.YtgpbgfpjlhoicaaGreatDoorRN3
import Derived.Test.YtgpbgfpjlhoicaaGreatDoorRN4
import Derived.Test.YtgpbgfpjlhoicaaGreatDoorRN9
import Derived.Test.YtgpbgfpjlhoicaaGreatDoorRN10
import Derived.Test.YtgpbgfpjlhoicaaGreatDoorRN12
import Derived.Test.YtgpbgfpjlhoicaaGreatDoorRN13
import Derived.Test.YtgpbgfpjlhoicaaGreatDoorRN14
set_option linter.unusedVariables false
set_option maxRecDepth 100000
set_option maxHeartbeats 4000000
namespace Go.Proofs.YtgpbgfpjlhoicaaGreatDoor
section
open Go.RowKit
theorem recovered_nil:Con Tryz.prog 151 [.v .nilIface] (.tup [.agg [i64 0,i64 0],ybq false]):=by
 refine yfy tok Tryz.func151 rfl rfl Tryz.ntmps151 Tryz.results151 rfl rfl ?_
 (repeat (first|refine zy ?_|refine ycc (yield_eqNilYes (by kernel_rfl) rfl rfl) rfl rfl ?_))
 refine yae ?_;refine ⟨_,rfl,?_⟩
 exact Frz.pure
def zya (p e:Int):List (Nat × Option LObj):=[(1002,some (.cells [i64 p])),(1003,some (.cells [i64 e]))]
theorem cat_cl {p e p' e':Int}:∀ id o,hlook (zya p' e') id=some o→isC o=true→14≤id∧∃ o',hlook (zya p e) id=some o'∧isC o'=true:=by
 intro id o ho hc
 simp only [zya,hlook] at ho ⊢
 cases h1:Nat.beq id 1002 with
 | true=>have:=Nat.eq_of_beq_eq_true h1;exact ⟨by omega,_,rfl,rfl⟩
 | false=>
  simp only [h1] at ho
  cases h2:Nat.beq id 1003 with
  | true=>have:=Nat.eq_of_beq_eq_true h2;exact ⟨by omega,_,rfl,rfl⟩
  | false=>simp only [h2] at ho;cases ho
theorem yvk (p e:Int):zxi (KD Tryz.prog 150 .returning .returning) [.lp 1002 0,.lp 1003 0] (hlook (zya p e)) (.tup []) (hlook (zya p e)):=by
 refine conKD_recover (lf:=lfT) tok Tryz.func150 rfl Tryz.ntmps150 Tryz.results150 rfl cat_cl rfl rfl rfl (by decide) rfl .idle ?_
 show Lex _ _ _ _ _ _ (S _ _)
 (repeat (first|refine zy ?_|refine yaf rfl rfl recovered_nil rfl rfl ?_))
 exact ⟨_,rfl,yng _,yaq (yad rfl (yad rfl yak))⟩
section
variable {g:FuncId} {caps:List AV} {hs hs':List (Nat × Option LObj)}
structure CatMem (g:FuncId) (caps:List AV) (hs hs':List (Nat × Option LObj)):Prop where
 keys:∀ i∈ydz (hs++hs'),1000≤i
 caps:∀ i,i < 1000→ment.mentL i caps=false
 fresh:∀ i,i < 1000→ybp i hs=true
 fresh2:∀ i,i < 1000→ybp i hs'=true
 only:∀ id o,hlook hs' id=some o→yro (ydz (hs++hs')) o=true
theorem zgq {p e:Int} (h:∀ i∈ydz hs,1000≤i):Ahead [(3,some (.cells [i64 e])),(2,some (.cells [i64 p]))] hs:=by
 refine ⟨fun i hi hm=>?_,fun j ob hj i hi=>?_⟩
 ·have:=h i hi
  simp [ydz] at hm
  omega
 ·have:ob=.cells [i64 e]∨ob=.cells [i64 p]:=by
   simp only [hlook] at hj
   split at hj
   ·cases hj;exact .inl rfl
   ·split at hj
    ·cases hj;exact .inr rfl
    ·cases hj
  rcases this with rfl|rfl <;> rfl
theorem zva {i:Nat} (h:i∈yce [(1002,2),(1003,3)]):i < 1000:=by simp [yce] at h;omega
theorem catch_ok (hc:ywc Tryz.prog g caps (hlook hs) (.tup []) (hlook hs')) (hm:CatMem g caps hs hs'):ywc Tryz.prog 93 [.fn g caps] (hlook hs) (.tup [i64 0,i64 0]) (hlook hs'):=by
 refine zmi tok Tryz.func93 rfl rfl Tryz.ntmps93 Tryz.results93 rfl (fun id o ho hi=>⟨?_,hc.2.1 id o ho hi⟩) ?_
 ·have:=hm.keys id (by simp only [ydz,List.map_append,List.mem_append];exact .inr (ygf (by rw [ho];rfl)))
  omega
 show AF _ _ _ _ (S _ _)
 have f1:ydg 2 (yfz 0 [AV.fn g caps])=true:=by
  show ydg 2 [(0,.fn g caps)]=true
  simp [ydg,ment,hm.caps 2 (by omega)]
 have f2:ydg 3 ((2,.lp 2 0)::yfz 0 [AV.fn g caps])=true:=by
  show ydg 3 [(2,.lp 2 0),(0,.fn g caps)]=true
  simp [ydg,ment,hm.caps 3 (by omega)]
 refine zlr (zqh ?_)
 refine yci (lf:=lfT) rfl ?_
 refine zA (h1:=f1) (h2:=hm.fresh 2 (by omega)) ?_
 refine zA (h1:=f2) (h2:=zrq rfl rfl (hm.fresh 3 (by omega))) ?_
 refine yes ?_
 show AF _ _ _ _ (S _ _)
 refine zlr ?_
 refine ynw (lf:=lfT) 1 rfl rfl rfl rfl rfl rfl (fun d h=>by cases h) ?_
 refine zF ?_
 refine yes ⟨rfl,_,_,_,⟨_,Tryz.func150,rfl,rfl⟩,rfl,rfl,fun x hx=>?_,?_⟩
 ·have:∀ y,look ((4,.fn 150 [.lp 2 0,.lp 3 0])::(3,.lp 3 0)::(2,.lp 2 0)::yfz 0 [AV.fn g caps]) x≠some y:=fun y hy=>by
   simp only [look,yfz] at hy
   (repeat' split at hy)
   all_goals first|(rename_i hb;have:=Nat.eq_of_beq_eq_true hb;omega)|cases hy
  cases hq:look ((4,.fn 150 [.lp 2 0,.lp 3 0])::(3,.lp 3 0)::(2,.lp 2 0)::yfz 0 [AV.fn g caps]) x with
  | none=>exact hq
  | some y=>exact absurd hq (this y)
 show Lex _ _ _ _ _ [] _
 refine .nil ?_
 show A _ _ _ _ _
 refine yrw (s':=S [(0,.fn g caps),(2,.lp 2 0),(3,.lp 3 0),(1000000,.lp 2 0),(1000001,.lp 3 0)] _) ?_ ⟨zan ⟨rfl,rfl,rfl,rfl,rfl,trivial⟩,fun id x h=>h⟩
 have hk0:=hm.keys
 have hbig:∀ i,i < 1000→∀ j∈ydz (hs++hs'),Nat.beq i j=false:=fun i hi j hj=>yct (by have:=hk0 j hj;omega)
 refine ydt ?_
 refine yci (lf:=lfT) rfl ?_
 refine zC ?_
 refine L_callI (pre:=[_,_]) (xs:=[]) (t':=[(2,.lp 2 0),(3,.lp 3 0),(1000000,.lp 2 0),(1000001,.lp 3 0)]) hc rfl rfl rfl (zgq hk0) hm.only (fun x y hy=>⟨yco (by exact zs) x y hy,fun i hi=>?_⟩) rfl rfl rfl ?_
 ·simp only [look] at hy
  (repeat' split at hy)
  all_goals first|(cases hy;exact hbig _ (by omega) i hi)|cases hy
 (try refine zy ?_)
 refine yae ?_
 refine zca (h':=hs') (args0:=[.lp 1002 0,.lp 1003 0]) [(1002,2),(1003,3)] rfl rfl rfl ⟨rfl,rfl,trivial⟩ (yvk 0 0) rfl rfl rfl rfl (yad rfl (yad rfl yak)) rfl (fun j ob hj hob=>⟨fun i hi=>(yei (hm.fresh2 i (zva hi))).2 j ob hob,ob,?_,.inl rfl⟩) rfl (yng _) (fun id o ho=>?_)
 ·refine (ylq (f:=[(3,_),(2,_),(3,_),(2,_)]) ?_).trans hob
  simp [ydz,yce] at hj ⊢
  omega
 ·refine (ylq (f:=yob _ _ _) ?_).trans ho
  have:=hk0 id (by simp only [ydz,List.map_append,List.mem_append];exact .inr (ygf (by rw [ho];rfl)))
  simp [ydz,yob]
  omega
theorem catchm_ok (hc:ywc Tryz.prog g caps (hlook hs) (.tup []) (hlook hs')) (hm:CatMem g caps hs hs'):ywc Tryz.prog 93 [.fm g caps] (hlook hs) (.tup [i64 0,i64 0]) (hlook hs'):=by
 refine zmi tok Tryz.func93 rfl rfl Tryz.ntmps93 Tryz.results93 rfl (fun id o ho hi=>⟨?_,hc.2.1 id o ho hi⟩) ?_
 ·have:=hm.keys id (by simp only [ydz,List.map_append,List.mem_append];exact .inr (ygf (by rw [ho];rfl)))
  omega
 show AF _ _ _ _ (S _ _)
 have f1:ydg 2 (yfz 0 [AV.fm g caps])=true:=by
  show ydg 2 [(0,.fm g caps)]=true
  simp [ydg,ment,hm.caps 2 (by omega)]
 have f2:ydg 3 ((2,.lp 2 0)::yfz 0 [AV.fm g caps])=true:=by
  show ydg 3 [(2,.lp 2 0),(0,.fm g caps)]=true
  simp [ydg,ment,hm.caps 3 (by omega)]
 refine zlr (zqh ?_)
 refine yci (lf:=lfT) rfl ?_
 refine zA (h1:=f1) (h2:=hm.fresh 2 (by omega)) ?_
 refine zA (h1:=f2) (h2:=zrq rfl rfl (hm.fresh 3 (by omega))) ?_
 refine yes ?_
 show AF _ _ _ _ (S _ _)
 refine zlr ?_
 refine ynw (lf:=lfT) 1 rfl rfl rfl rfl rfl rfl (fun d h=>by cases h) ?_
 refine zF ?_
 refine yes ⟨rfl,_,_,_,⟨_,Tryz.func150,rfl,rfl⟩,rfl,rfl,fun x hx=>?_,?_⟩
 ·have:∀ y,look ((4,.fn 150 [.lp 2 0,.lp 3 0])::(3,.lp 3 0)::(2,.lp 2 0)::yfz 0 [AV.fm g caps]) x≠some y:=fun y hy=>by
   simp only [look,yfz] at hy
   (repeat' split at hy)
   all_goals first|(rename_i hb;have:=Nat.eq_of_beq_eq_true hb;omega)|cases hy
  cases hq:look ((4,.fn 150 [.lp 2 0,.lp 3 0])::(3,.lp 3 0)::(2,.lp 2 0)::yfz 0 [AV.fm g caps]) x with
  | none=>exact hq
  | some y=>exact absurd hq (this y)
 show Lex _ _ _ _ _ [] _
 refine .nil ?_
 show A _ _ _ _ _
 refine yrw (s':=S [(0,.fm g caps),(2,.lp 2 0),(3,.lp 3 0),(1000000,.lp 2 0),(1000001,.lp 3 0)] _) ?_ ⟨zan ⟨rfl,rfl,rfl,rfl,rfl,trivial⟩,fun id x h=>h⟩
 have hk0:=hm.keys
 have hbig:∀ i,i < 1000→∀ j∈ydz (hs++hs'),Nat.beq i j=false:=fun i hi j hj=>yct (by have:=hk0 j hj;omega)
 refine ydt ?_
 refine yci (lf:=lfT) rfl ?_
 refine zC ?_
 refine L_callIm (pre:=[_,_]) (t':=[(2,.lp 2 0),(3,.lp 3 0),(1000000,.lp 2 0),(1000001,.lp 3 0)]) hc rfl rfl (zgq hk0) hm.only (fun x y hy=>⟨yco (by exact zs) x y hy,fun i hi=>?_⟩) rfl rfl rfl ?_
 ·simp only [look] at hy
  (repeat' split at hy)
  all_goals first|(cases hy;exact hbig _ (by omega) i hi)|cases hy
 (try refine zy ?_)
 refine yae ?_
 refine zca (h':=hs') (args0:=[.lp 1002 0,.lp 1003 0]) [(1002,2),(1003,3)] rfl rfl rfl ⟨rfl,rfl,trivial⟩ (yvk 0 0) rfl rfl rfl rfl (yad rfl (yad rfl yak)) rfl (fun j ob hj hob=>⟨fun i hi=>(yei (hm.fresh2 i (zva hi))).2 j ob hob,ob,?_,.inl rfl⟩) rfl (yng _) (fun id o ho=>?_)
 ·refine (ylq (f:=[(3,_),(2,_),(3,_),(2,_)]) ?_).trans hob
  simp [ydz,yce] at hj ⊢
  omega
 ·refine (ylq (f:=yob _ _ _) ?_).trans ho
  have:=hk0 id (by simp only [ydz,List.map_append,List.mem_append];exact .inr (ygf (by rw [ho];rfl)))
  simp [ydz,yob]
  omega
end
end
section
open Go.RowKit
theorem zfj {i:Nat}:∀ (x:AV),ment i x=true→i∈zhz x
 | .v _,h=>by simp [ment] at h
 | .any,h=>by simp [ment] at h
 | .one,h=>by simp [ment] at h
 | .sl _ _,h=>by simp [ment] at h
 | .dp _ _,h=>by simp [ment] at h
 | .mv _,h=>by simp [ment] at h
 | .lp j o,h=>by simp only [zhz,List.mem_singleton];exact (Nat.eq_of_beq_eq_true h).symm
 | .ls j _ _,h=>by simp only [zhz,List.mem_singleton];exact (Nat.eq_of_beq_eq_true h).symm
 | .mp j,h=>by simp only [zhz,List.mem_singleton];exact (Nat.eq_of_beq_eq_true h).symm
 | .agg cs,h=>by simpa [zhz] using rows cs (by simpa [ment] using h)
 | .tup cs,h=>by simpa [zhz] using rows cs (by simpa [ment] using h)
 | .fn _ cs,h=>by simpa [zhz] using rows cs (by simpa [ment] using h)
 | .fm _ cs,h=>by simpa [zhz] using rows cs (by simpa [ment] using h)
 where rows:∀ (cs:List AV),ment.mentL i cs=true→i∈zhz.idsL cs
 | [],h=>by simp [ment.mentL] at h
 | c::cs,h=>by
  simp only [ment.mentL,Bool.or_eq_true] at h
  simp only [zhz.idsL,List.mem_append]
  exact h.imp (zfj c) (rows cs)
def zzk (l:List Nat):Bool:=l.all fun i=>Nat.ble 1000 i
def zwo:HL→Bool
 | []=>true
 | (i,o)::l=>Nat.ble 1000 i && ((match o with
  | some o=>zzk (zza o)
  | none=>true) && zwo l)
theorem zmd {l:List Nat} {i:Nat} (h:zzk l=true) (hi:i < 1000):i ∉ l:=fun hm=>by
 have:=List.all_eq_true.1 h i hm
 simp only [Nat.ble_eq] at this
 omega
theorem mentO_ids {i:Nat} {o:LObj} (h:yfr i o=true):i∈zza o:=by
 cases o <;> simp only [yfr,zza] at h ⊢ <;> first|exact zfj.rows _ h|cases h
theorem ytt {i:Nat} (hi:i < 1000):∀ {l:HL},zwo l=true→ybp i l=true
 | [],_=>rfl
 | (k,o)::l,h=>by
  simp only [zwo,Bool.and_eq_true,Nat.ble_eq] at h
  have ih:=ytt hi h.2.2
  have hk:Nat.beq i k=false:=yct (by omega)
  simp only [ybp,hk]
  cases o with
  | none=>exact ih
  | some o=>
   cases hm:yfr i o with
   | true=>exact absurd (mentO_ids hm) (zmd h.2.1 hi)
   | false=>simp only [hm];exact ih
def znv (ks:List Nat):HL→Bool
 | []=>true
 | (_,o)::l=>(match o with
  | some o=>yro ks o
  | none=>true) && znv ks l
theorem ziu {ks:List Nat}:∀ {l:HL},znv ks l=true→∀ id o,hlook l id=some o→yro ks o=true
 | [],_,id,o,h=>by simp [hlook] at h
 | (k,x)::l,hb,id,o,h=>by
  simp only [znv,Bool.and_eq_true] at hb
  simp only [hlook] at h
  cases he:Nat.beq id k with
  | true=>rw [he] at h;simp only at h;subst h;exact hb.1
  | false=>rw [he] at h;exact ziu hb.2 id o h
def zyv (caps:List AV) (hs hs':HL):Bool:=zwo hs && (zwo hs' && (zzk (zhz.idsL caps) && znv (ydz (hs++hs')) hs'))
theorem zqz {g:FuncId} {caps:List AV} {hs hs':HL} (h:zyv caps hs hs'=true):CatMem g caps hs hs':=by
 simp only [zyv,Bool.and_eq_true] at h
 obtain ⟨h1,h2,h3,h4⟩:=h
 have key:∀ {l:HL},zwo l=true→∀ i∈ydz l,1000≤i:=by
  intro l
  induction l with
  | nil=>intro _ i hi;simp [ydz] at hi
  | cons a l ih=>
   obtain ⟨k,o⟩:=a
   intro hb i hi
   simp only [zwo,Bool.and_eq_true,Nat.ble_eq] at hb
   simp only [ydz,List.map_cons,List.mem_cons] at hi
   rcases hi with rfl|hi
   ·exact hb.1
   ·exact ih hb.2.2 i hi
 refine ⟨fun i hi=>?_,fun i hi=>?_,fun i hi=>ytt hi h1,fun i hi=>ytt hi h2,ziu h4⟩
 ·rw [ydz,List.map_append,List.mem_append] at hi
  exact hi.elim (key h1 i) (key h2 i)
 ·cases hm:ment.mentL i caps with
  | false=>rfl
  | true=>exact absurd (zfj.rows _ hm) (zmd h3 hi)
def klC (K:Calls0) (f:FuncId) (xs:List AV) (hs:HL):Option (AV × HL):=
 match Nat.beq f 93 with
 | true=>match xs with
  | [.fn g caps]=>match K.lent g caps hs with
   | some (.tup [],hs')=>match zyv caps hs hs' with
    | true=>some (.tup [i64 0,i64 0],hs')
    | false=>none
   | _=>none
  | [.fm g caps]=>match K.lent g caps hs with
   | some (.tup [],hs')=>match zyv caps hs hs' with
    | true=>some (.tup [i64 0,i64 0],hs')
    | false=>none
   | _=>none
  | _=>none
 | false=>none
theorem klC_ok (K:Calls0) (hK:CallsOk Tryz.prog K) (f:FuncId) (xs:List AV) (hs:HL) (r:AV) (hs':HL) (h:klC K f xs hs=some (r,hs')):ywc Tryz.prog f xs (hlook hs) r (hlook hs'):=by
 unfold klC at h
 split at h
 ·rename_i hf
  rw [Nat.eq_of_beq_eq_true hf]
  split at h
  ·split at h
   ·rename_i q hc
    split at h
    ·rename_i hb
     simp only [Option.some.injEq,Prod.mk.injEq] at h
     obtain ⟨rfl,rfl⟩:=h
     exact catch_ok (hK.lent _ _ _ _ _ hc) (zqz hb)
    ·cases h
   ·cases h
  ·split at h
   ·rename_i q hc
    split at h
    ·rename_i hb
     simp only [Option.some.injEq,Prod.mk.injEq] at h
     obtain ⟨rfl,rfl⟩:=h
     exact catchm_ok (hK.lent _ _ _ _ _ hc) (zqz hb)
    ·cases h
   ·cases h
  ·cases h
 ·cases h
end
section
open Go.RowKit
theorem getN' {α:Type} {l:List α} {k:Nat} (h:k < l.length):∃ x,l[k]?=some x:=⟨_,List.getElem?_eq_getElem h⟩
theorem A_matVec {P:Program} {N:Nat} {c:Code} {Q:Exit→SS→Prop} {t:List (Nat × AV)} {h:List (Nat × Option LObj)} (id:Nat) {xs:List AV} (hx:hlook h id=some (.mcells xs)) (hp:∀ y∈xs,yav y=true) (k:A P N c Q (S t ((id,some (.vec xs))::h))):A P N c Q (S t h):=by
 intro B ok0 lv a w hs
 refine k B ok0 lv a w ⟨⟨hs.inv.base,hs.inv.ok0lt,fun j hj=>?_,hs.inv.inj,fun j x hj=>?_⟩,hs.size,hs.frame,hs.defers,hs.big,fun j b ws hN hj hc hb=>?_⟩
 ·refine hs.inv.dom j ?_
  simp only [S,hlook] at hj ⊢
  split at hj
  ·cases hj
  ·exact hj
 ·simp only [S,hlook] at hj
  split at hj
  ·rename_i hb
   cases hj
   have e:=Nat.eq_of_beq_eq_true hb
   subst e
   obtain ⟨b,n,h1,h2⟩:=hs.inv.obj j _ hx
   refine ⟨b,n,h1,?_⟩
   cases b with
   | none=>simp [ygo] at h2
   | some b=>exact ⟨h2.1,h2.2.1,h2.2.2,hp⟩
  ·exact hs.inv.obj j x hj
 ·simp only [S,hlook] at hj
  split at hj
  ·cases hj;cases hc
  ·exact hs.pin j b ws hN hj hc hb
theorem leaf_own (op a:Int):ywc Tryz.prog 283 [i64 op,i64 a] (hlook []) (.ls 1002 2 1) (hlook [(1002,some (.vec [i64 op,i64 a]))]):=by
 refine yyc tok Tryz.func283 rfl rfl Tryz.ntmps283 Tryz.results283 rfl (fun id o ho hc=>?_) ?_
 ·simp only [hlook] at ho
  cases h1:Nat.beq id 1002 with
  | true=>simp only [h1,Option.some.injEq] at ho;subst ho;cases hc
  | false=>simp only [h1] at ho;cases ho
 show A _ _ _ _ (S _ _)
 refine zt ?_;refine yci (lf:=lfT) rfl ?_
 (try refine zo ?_)
 refine zt ?_;refine yci (lf:=lfT) rfl ?_
 (repeat (first|refine zC ?_|refine zU ?_))
 refine L_buildM tok 1002 rfl rfl rfl rfl rfl rfl ⟨rfl,fun x y h=>?_,fun j ob h=>by cases h⟩ rfl rfl rfl rfl ?_
 ·exact (yms (id:=1002) rfl) x y h
 (try refine zo ?_)
 refine zt ?_
 refine A_matVec 1002 rfl (by intro y hy;simp [ykq,yna] at hy;rcases hy with rfl|rfl <;> rfl) ?_
 refine yae ?_
 exact ⟨_,rfl,yng _,yaq (yad rfl yak)⟩
theorem terms_flat (l:List Tm):(l.map yjo).flatten.length=l.length * 2:=by
 induction l with
 | nil=>rfl
 | cons t l ih=>simp only [List.map_cons,List.flatten_cons,List.length_append,ih,List.length_cons,yjo,List.length_nil];omega
theorem zdr (l:List Tm):∀ c∈(l.map yjo).flatten,yav c=true:=by
 intro c hc
 simp only [List.mem_flatten,List.mem_map] at hc
 obtain ⟨r,⟨t,_,rfl⟩,hc⟩:=hc
 simp only [yjo,List.mem_cons,List.not_mem_nil,or_false] at hc
 rcases hc with rfl|rfl <;> rfl
def zei (es:List (List Tm)):AV:=.sl 1 (es.map fun e=>[yeq e])
theorem operation_con (op:Int) (es:List (List Tm)) (hl:es.length≤10) (h1:es.flatten.length≤1000000):Con Tryz.prog 254 [i64 op,zei es] (yeq ((op,0)::es.flatten)):=by
 refine yao Tryz.func254 rfl rfl Tryz.ntmps254 Tryz.results254 rfl rfl ?_
 refine zt ?_;refine yci (lf:=lfT) rfl ?_
 (try refine zo ?_)
 refine zt ?_;refine yci (lf:=lfT) rfl ?_
 (try refine zo ?_)
 refine yxm [(1002,9)] (leaf_own op 0) rfl rfl rfl rfl rfl rfl rfl (yak) rfl rfl rfl rfl rfl rfl ?_
 (try refine zo ?_)
 (try refine zy ?_)
 refine ydi (α:=Nat) (fun k=>[(5,.ls 9 2 (1+(es.take k).flatten.length)),(12,i64 (k:Int)),(11,i64 (es.length:Int)),(10,zei es)]) (fun k=>[(9,some (.vec ((((op,0)::(es.take k).flatten).map yjo).flatten)))]) (fun k=>es.length - k) (fun k=>k≤es.length) 0 (by omega) (by exact zs) (yad rfl yak) ?_
 intro k hk
 (try refine zy ?_)
 refine yac rfl (fun h2=>?_) (fun h2=>?_)
 ·have h2:k < es.length:=by simpa using h2
  obtain ⟨e,he⟩:=getN' h2
  have hfl:(es.take (k+1)).flatten=(es.take k).flatten++e:=by
   rw [List.take_add_one,he];simp
  have hle:(es.take (k+1)).flatten.length≤es.flatten.length:=by
   conv=>rhs;rw [← List.take_append_drop (k+1) es,List.flatten_append,List.length_append]
   omega
  rw [hfl,List.length_append] at hle
  (try refine zy ?_)
  refine L_appendV tok (id:=9) (t':=[(12,i64 (k:Int)),(11,i64 (es.length:Int)),(10,zei es)]) rfl rfl (by rw [terms_flat];simp;omega) rfl (zdr e) (by rw [List.length_map];constructor <;> omega) (by (repeat (first|exact subTM_nil|refine subTM_cons rfl rfl ?_))) rfl rfl rfl rfl ?_
  (try refine zy ?_)
  have e1:1+(es.take k).flatten.length+(e.map yjo).length=1+(es.take (k+1)).flatten.length:=by rw [hfl,List.length_append,List.length_map];omega
  have e2:(((op,0)::(es.take k).flatten).map yjo).flatten++(e.map yjo).flatten=(((op,0)::(es.take (k+1)).flatten).map yjo).flatten:=by rw [hfl];simp
  rw [e1,e2]
  exact rnd (k+1) (by omega) (by omega) (by exact zs) (yad rfl yak)
 ·have h2:es.length≤k:=by simpa using h2
  rw [List.take_of_length_le h2]
  (try refine zy ?_)
  refine yae ?_;refine ⟨_,rfl,?_⟩
  refine Frz.ls rfl (by rw [List.length_map,List.length_cons];omega) (fun row hr=>by obtain ⟨t,_,rfl⟩:=List.mem_map.1 hr;rfl) rfl fun x hx i=>yav.ment (zdr ((op,0)::es.flatten) x hx)
end
section
open Go.RowKit
def zxt:List (List AV)→Option (List Tm)
 | []=>some []
 | [.v (.int .i64 a),.v (.int .i64 b)]::l=>match zxt l with
  | some r=>some ((a,b)::r)
  | none=>none
 | _=>none
theorem zlp:∀ {l:List (List AV)} {r:List Tm},zxt l=some r→l=r.map yjo
 | [],r,h=>by simp only [zxt,Option.some.injEq] at h;subst h;rfl
 | x::l,r,h=>by
  unfold zxt at h
  split at h
  ·rename_i e;cases e
  ·rename_i a b l' e
   cases e
   split at h
   ·rename_i r' hr
    simp only [Option.some.injEq] at h
    subst h
    rw [zlp hr];rfl
   ·cases h
  ·cases h
def zye:List (List AV)→Option (List (List Tm))
 | []=>some []
 | [.sl 2 rows]::l=>match zxt rows,zye l with
  | some e,some r=>some (e::r)
  | _,_=>none
 | _=>none
theorem zrk:∀ {l:List (List AV)} {r:List (List Tm)},zye l=some r→l=r.map fun e=>[yeq e]
 | [],r,h=>by simp only [zye,Option.some.injEq] at h;subst h;rfl
 | x::l,r,h=>by
  unfold zye at h
  split at h
  ·rename_i e;cases e
  ·rename_i rows l' e
   cases e
   split at h
   ·rename_i e r' h1 h2
    simp only [Option.some.injEq] at h
    subst h
    rw [zrk h2,zlp h1];rfl
   ·cases h
  ·cases h
def knO (f:FuncId) (xs:List AV):Option AV:=
 match Nat.beq f 254 with
 | true=>match xs with
  | [.v (.int .i64 op),.sl 1 rows]=>match zye rows with
   | some es=>match Nat.ble es.length 10 && Nat.ble es.flatten.length 1000000 with
    | true=>some (yeq ((op,0)::es.flatten))
    | false=>none
   | none=>none
  | _=>none
 | false=>knI f xs
theorem knO_ok (f:FuncId) (xs:List AV) (r:AV) (h:knO f xs=some r):Con Tryz.prog f xs r:=by
 unfold knO at h
 split at h
 ·rename_i hf
  split at h
  ·rename_i op rows
   split at h
   ·rename_i es he
    split at h
    ·rename_i hb
     simp only [Bool.and_eq_true,Nat.ble_eq] at hb
     simp only [Option.some.injEq] at h
     subst h
     rw [Nat.eq_of_beq_eq_true hf,zrk he]
     exact operation_con op es hb.1 hb.2
    ·cases h
   ·cases h
  ·cases h
 ·exact knI_ok _ _ _ h
end
section
open Go.RowKit
def colT:Bs:=[112,114,111,103,114,97,109,32,99,111,108,111,117,114,115,59,32,118,97,114,32,99,32,58,32,48,32,46,46,32,110,59,32,114,117,108,101,32,102,105,120,58,32,115,111,109,101,40,113,46,99,32,61,61,32,99,41,32,45,62,32,99,32,58,61,32,109,101,120,40,113,46,99,41,59]
def zkq:ProgD:={ name:=ba [99,111,108,111,117,114,115],vars:=[{ name:=ba [99],kind:=1,lo:=0,hi:=0,perNode:=1,perID:=0 }],rules:=[{ name:=ba [102,105,120],guard:=[(21,0),(35,0),(12,0),(5,0)],sets:=[{ var:=0,val:=[(27,0),(12,0)] }] }] }
theorem col_light:yds zkq=true:=by kernel_rfl
theorem zrc:yhi zkq:=by
 refine ⟨by (try unfold yqg);decide,fun x hx=>?_,fun r hr=>?_⟩
 ·simp only [zkq,List.mem_cons,List.not_mem_nil,or_false] at hx
  subst hx
  exact ⟨by (try unfold yqg);decide,by (try unfold yqg);decide,by (try unfold yqg);decide,by (try unfold yqg);decide,by (try unfold yqg);decide,by (try unfold yqg);decide⟩
 ·simp only [zkq,List.mem_cons,List.not_mem_nil,or_false] at hr
  subst hr
  refine ⟨by (try unfold yqg);decide,fun t ht=>?_,fun s hs=>?_⟩
  ·simp only [List.mem_cons,List.not_mem_nil,or_false] at ht
   rcases ht with rfl|rfl|rfl|rfl <;> exact ⟨by (try unfold yqg);decide,by (try unfold yqg);decide⟩
  ·simp only [List.mem_cons,List.not_mem_nil,or_false] at hs
   subst hs
   refine ⟨by (try unfold yqg);decide,fun t ht=>?_⟩
   simp only [List.mem_cons,List.not_mem_nil,or_false] at ht
   rcases ht with rfl|rfl <;> exact ⟨by (try unfold yqg);decide,by (try unfold yqg);decide⟩
def zxl:RuleD:={ name:=ba [102,105,120],guard:=[(21,0),(35,0),(12,0),(5,0)],sets:=[{ var:=0,val:=[(27,0),(12,0)] }] }
theorem colnamed_con:Con Tryz.prog 159 [ytn zkq] (ybq true):=by
 have:=yee (P:=Tryz.prog) (f:=159) (args:=[ytn zkq]) (x:=.bool (yck zkq)) ⟨_,Tryz.func159,rfl,rfl⟩ fun w us ok hok hr=>by
  obtain ⟨u,rfl,h1⟩:=zfp hr
  exact yzk u zkq w (ymy h1 hok) zrc (by decide) (by decide)
 rwa [show yck zkq=true by kernel_rfl] at this
theorem colformed_con:Con Tryz.prog 161 [.agg (ydo zxl),i64 1] (ybq true):=by
 have:=yee (P:=Tryz.prog) (f:=161) (args:=[.agg (ydo zxl),i64 1]) (x:=.bool (ybl zxl (1:Nat))) ⟨_,Tryz.func161,rfl,rfl⟩ fun w us ok hok hr=>by
  obtain ⟨u,v,rfl,h1,h2⟩:=yrq hr
  cases h2
  cases h1 with
  | agg vs hl hc hr'=>
   obtain ⟨u,gv,sv,rfl,q1,q2,q3⟩:=zli ⟨hl,hr'⟩
   rw [yey q1]
   exact yud gv sv zxl 1 w (ygm q2 hok) (ylz q3 hok fun y _ cs hr=>by
    obtain ⟨u,tv,rfl,r1,r2⟩:=yrq hr
    rw [yey r1]
    exact ⟨tv,rfl,ygm r2 hok⟩) (zrc.2.2 _ (List.mem_singleton.2 rfl)) ⟨by decide,by decide,fun s hs=>by
     obtain rfl:=List.mem_singleton.1 hs
     decide⟩ (by decide)
 rwa [show ybl zxl (1:Nat)=true by kernel_rfl] at this
theorem colvalid_con (l:List Tm) (n:Int) (hl:l.length≤1000):Con Tryz.prog 143 [yeq l,i64 n] (ybq (ycr l n)):=
 yee ⟨_,Tryz.func143,rfl,rfl⟩ fun w us ok hok hr=>by
  obtain ⟨u,v,rfl,h1,h2⟩:=yrq hr
  cases h2
  exact yim u l n w hl (Lib.hid (ygm h1 hok))
def isChk (f:FuncId):Bool:=Nat.beq f 95
def isMap (f:FuncId):Bool:=Nat.beq f 159 || Nat.beq f 161
def knC (f:FuncId) (xs:List AV):Option AV:=
 match isMap f with
 | true=>match (Nat.beq f 159 && eqA.eqL xs [ytn zkq]) || (Nat.beq f 161 && eqA.eqL xs [.agg (ydo zxl),i64 1]) with
  | true=>some (ybq true)
  | false=>none
 | false=>match Nat.beq f 143 with
  | true=>match xs with
   | [.sl 2 rows,.v (.int .i64 n)]=>match zxt rows with
    | some l=>match Nat.ble l.length 1000 with
     | true=>some (ybq (ycr l n))
     | false=>none
    | none=>none
   | _=>none
  | false=>knO f xs
theorem knC_ok (f:FuncId) (xs:List AV) (r:AV) (h:knC f xs=some r):Con Tryz.prog f xs r:=by
 unfold knC at h
 split at h
 ·split at h
  ·rename_i he
   simp only [Option.some.injEq] at h
   subst h
   simp only [Bool.or_eq_true,Bool.and_eq_true] at he
   rcases he with ⟨h1,h2⟩|⟨h1,h2⟩
   ·rw [Nat.eq_of_beq_eq_true h1,zcb.row _ _ h2]
    exact colnamed_con
   ·rw [Nat.eq_of_beq_eq_true h1,zcb.row _ _ h2]
    exact colformed_con
  ·cases h
 ·split at h
  ·rename_i hf
   split at h
   ·rename_i rows n
    split at h
    ·rename_i l he
     split at h
     ·rename_i hb
      simp only [Option.some.injEq] at h
      subst h
      rw [Nat.eq_of_beq_eq_true hf,zlp he]
      exact colvalid_con l n (Nat.le_of_ble_eq_true hb)
     ·cases h
    ·cases h
   ·cases h
  ·exact knO_ok _ _ _ h
theorem colparse_con:Con Tryz.prog 41 [zdp (ba colT)] (.tup [ytn zkq,i64 0,i64 0]):=
 con_run yzi tok knC_ok klC_ok (F:=1000) (fz:=isChk) 40 (by kernel_rfl)
end
set_option maxHeartbeats 16000000
section
open Go.RowKit
theorem two_fair:Fair zkq (zpo 2):=⟨zrc,zfe col_light,by kernel_rfl⟩
theorem two_ok:CfgOk zkq (zpo 2) [[0],[0]]:=⟨two_fair,by kernel_rfl⟩
theorem two_run:zpf zkq (zpo 2) 1 [[0],[0]] [3#32,3#32]=some ⟨[[1],[0]],0#32,⟨1,1,1,1,0#32⟩,[1#32],[3#32,0#32]⟩:=by kernel_rfl
theorem tawake_con:Con Tryz.prog 11 [] (ybq true):=by
 have hf:=yzw two_ok (zhc zkq (zpo 2) 1 (.inl rfl)) [3#32,3#32] (by simp)
 rw [two_run] at hf
 refine yao Tryz.func11 rfl rfl Tryz.ntmps11 Tryz.results11 rfl rfl ?_
 (repeat (first|refine zy ?_|refine yaf rfl rfl colparse_con rfl rfl ?_|refine yaf rfl rfl (path_con 2 (by omega)) rfl rfl ?_|refine yaf rfl rfl hf rfl rfl ?_))
 refine yny tok rfl rfl rfl (by omega) (rfl) rfl rfl ?_
 (try refine zy ?_)
 refine yny tok rfl rfl rfl (by omega) (rfl) rfl rfl ?_
 (try refine zy ?_)
 refine yny tok rfl rfl rfl (by omega) (rfl) rfl rfl ?_
 (try refine zy ?_)
 refine yae ?_;refine ⟨_,rfl,?_⟩
 exact Frz.pure
end
section
open Go.ChangeShapes Go.WideShapes Go.RowKit
def zxw (w:World) (v:Value) (l:List Lk):Prop:=Row w v 2 l.length (l.flatMap fun t=>[.int .i64 t.1,.int .i64 t.2])
def zki (w:World) (cs:List Value) (l:List Lk):Prop:=∃ v,cs=[v]∧zxw w v l
def zqq (w:World) (v:Value) (ports:List (List Lk)):Prop:=Seq (zki w) 1 w v ports
def zkf (w:World) (v:Value) (g:GraphD):Prop:=∃ iv pv,v=.agg #[iv,pv]∧ymc .i64 w iv g.ids∧zqq w pv g.ports
def zbn (t:Lk):Prop:=yqg t.1∧yqg t.2
def zqn (g:GraphD):Prop:=(∀ x∈g.ids,yqg x)∧∀ l∈g.ports,∀ t∈l,zbn t
theorem zhv:Tryz.prog.cellsOf 3=1:=by kernel_rfl
theorem zgy:Tryz.prog.cellsOf 105=2:=by kernel_rfl
theorem zgx:Tryz.prog.cellsOf 26=1:=by kernel_rfl
theorem cellsLinks:Tryz.prog.cellsOf 103=1:=by kernel_rfl
theorem cellsPorts:Tryz.prog.cellsOf 27=1:=by kernel_rfl
theorem cellsGraph:Tryz.prog.cellsOf 29=2:=by kernel_rfl
section
variable {H:Type} {enc:TypeId × Value→H} {w:World} {cs:List Value} {v:Value} {base:Nat} {d:DataW H} {ps:List MemPlace}
theorem rd_link (h:Rd enc Tryz.prog w 105 cs):∃ t:Lk,cs=[.int .i64 t.1,.int .i64 t.2]∧zbn t:=by
 obtain ⟨h1,h2⟩:=yjy Tryz.underlying105 h
 rw [zgy] at h1
 match cs,h1 with
 | [a,b],_=>
  have g0:=h2 0 _ rfl
  have g1:=h2 1 _ rfl
  simp [zhv] at g0 g1
  obtain ⟨x,hx,hx'⟩:=yfv Tryz.underlying3 g0
  obtain ⟨y,hy,hy'⟩:=yfv Tryz.underlying3 g1
  simp at hx hy
  exact ⟨(x,y),by simp [hx,hy],hx',hy'⟩
theorem rd_links (h:Rd enc Tryz.prog w 103 cs):∃ l,zki w cs l∧∀ t∈l,zbn t:=by
 obtain ⟨v,l,h1,h2⟩:=ykn (R:=fun cs (t:Lk)=>cs=[.int .i64 t.1,.int .i64 t.2]∧zbn t) Tryz.underlying103 zgy (Nat.succ_pos 1) (fun cs h=>rd_link h) h
 refine ⟨l,⟨v,h1,ynb (fun t:Lk=>[.int .i64 t.1,.int .i64 t.2]) (fun _=>rfl) (by omega) h2 (fun cs x h=>h.1)⟩,fun x hx=>?_⟩
 obtain ⟨xs,_,h3⟩:=h2
 obtain ⟨i,hi⟩:=List.getElem?_of_mem hx
 exact (h3 i x hi).2
theorem zsx (h:Rd enc Tryz.prog w 26 cs):∃ v l,cs=[v]∧ymc .i64 w v l∧∀ x∈l,yqg x:=by
 obtain ⟨v,l,h1,hl⟩:=ykn (R:=fun cs x=>cs=[.int .i64 x]∧yqg x) Tryz.underlying26 zhv Nat.one_pos (fun cs h=>by obtain ⟨n,h1,h2⟩:=yfv Tryz.underlying3 h;exact ⟨n,h1,h2⟩) h
 refine ⟨v,l,h1,?_,fun x hx=>?_⟩
 ·have:=ynb (fun x=>[.int .i64 x]) (fun _=>rfl) Nat.one_pos hl (fun cs x h=>h.1)
  unfold ymc
  rwa [zeo l] at this
 ·obtain ⟨xs,_,h2⟩:=hl
  obtain ⟨i,hi⟩:=List.getElem?_of_mem hx
  exact (h2 i x hi).2
theorem rd_ports (h:Rd enc Tryz.prog w 27 cs):∃ v l,cs=[v]∧zqq w v l∧∀ x∈l,∀ t∈x,zbn t:=by
 obtain ⟨v,l,h1,h2⟩:=ykn (R:=fun cs l=>zki w cs l∧∀ t∈l,zbn t) Tryz.underlying27 cellsLinks Nat.one_pos (fun cs h=>rd_links h) h
 refine ⟨v,l,h1,h2.imp fun _ _ _ h=>h.1,fun x hx=>?_⟩
 obtain ⟨xs,_,h3⟩:=h2
 obtain ⟨i,hi⟩:=List.getElem?_of_mem hx
 exact (h3 i x hi).2
theorem open_graph (hv:Value.okWide Tryz.prog w .any base 29 v) (h:DataW.Trod enc Tryz.prog w 0 (fun _=>true) true 29 v d ps):∃ g,zkf w v g∧zqn g:=by
 obtain ⟨cs,rfl,hcs⟩:∃ cs,v=.agg cs∧cs.size=Tryz.prog.cellsOf 29:=by
  unfold Value.okWide at hv
  rw [Tryz.underlying29] at hv
  obtain ⟨cs,h1,h2,_⟩:=hv
  exact ⟨cs,h1,h2⟩
 have hr:=zxb h
 simp only [Value.cells] at hr
 obtain ⟨h1,h2⟩:=yjy Tryz.underlying29 hr
 rw [cellsGraph] at h1
 obtain ⟨cs⟩:=cs
 simp only at h1 h2
 match cs,h1 with
 | [a,b],_=>
  have g0:=h2 0 _ rfl
  have g1:=h2 1 _ rfl
  simp [zgx,cellsPorts] at g0 g1
  obtain ⟨iv,l,e2,q2,q3⟩:=zsx g0
  obtain ⟨pv,rr,e3,q4,q5⟩:=rd_ports g1
  simp at e2 e3
  exact ⟨⟨l,rr⟩,⟨iv,pv,by simp [e2,e3],q2,q4⟩,q3,q5⟩
end
end
section
open Go.RowKit
theorem links_rel {w:World} {lv:Live} {v:Value} {l:List Lk} (h:zxw w v l):Rel (okW w) w lv (ygx l) v:=
 yot (g:=fun t:Lk=>[.int .i64 t.1,.int .i64 t.2]) (fun _=>rfl) (fun x u hu=>by simp at hu;rcases hu with rfl|rfl <;> rfl) h
theorem graph_rel {w:World} {lv:Live} {v:Value} {g:GraphD} (h:zkf w v g):Rel (okW w) w lv (ynl g) v:=by
 obtain ⟨iv,pv,rfl,h1,h2⟩:=h
 have h3:ybm (okW w) w lv [yah g.ids,yau g.ports] [iv,pv]:=by
  refine ybi (zey h1) (ybi ?_ yff)
  refine ylx h2 (fun _=>rfl) (fun x c hc=>by simp at hc;subst hc;rfl) fun x _ cs hc=>?_
  obtain ⟨lv',rfl,r1⟩:=hc
  exact ybi (links_rel r1) yff
 exact .agg _ h3.1 (fun c hc=>by simp at hc;rcases hc with rfl|rfl <;> rfl) h3.2
end
section
open Go.ChangeShapes Go.WideShapes Go.RowKit
def zxy (w:World) (cs:List Value) (l:List Int):Prop:=∃ u,cs=[u]∧ymc .i64 w u l
def zwi (w:World) (v:Value) (c:List (List Int)):Prop:=Seq (zxy w) 1 w v c
theorem cfg_rel {w:World} {lv:Live} {v:Value} {c:List (List Int)} (h:zwi w v c):Rel (okW w) w lv (yhm c) v:=by
 refine ylx h (fun _=>rfl) (fun x c hc=>by simp at hc;subst hc;rfl) fun x _ cs hc=>?_
 obtain ⟨u,rfl,r1⟩:=hc
 exact ybi (zey r1) yff
section
variable {H:Type} {enc:TypeId × Value→H} {w:World} {cs:List Value} {v:Value} {base:Nat} {d:DataW H} {ps:List MemPlace}
theorem open_config (hv:Value.okWide Tryz.prog w .any base 30 v) (h:DataW.Trod enc Tryz.prog w 0 (fun _=>true) true 30 v d ps):∃ c,zwi w v c:=by
 obtain ⟨l,hl⟩:=yon (R:=zxy w) Tryz.underlying30 zgx Nat.one_pos (fun cs h=>by obtain ⟨u,l,h1,h2,_⟩:=zsx h;exact ⟨l,u,h1,h2⟩) hv h
 exact ⟨l,hl⟩
end
end
section
open Go.ChangeShapes Go.WideShapes Go.RowKit
def zzg (w:World) (v:Value) (l:List (BitVec 32)):Prop:=Row w v 1 l.length (l.flatMap fun B=>[.int .u32 (B.toNat:Int)])
theorem u32s_rel {w:World} {lv:Live} {v:Value} {l:List (BitVec 32)} (h:zzg w v l):Rel (okW w) w lv (ytp l) v:=
 yot (g:=fun B:BitVec 32=>[.int .u32 (B.toNat:Int)]) (fun _=>rfl) (fun x u hu=>by simp at hu;subst hu;rfl) h
theorem cellsU32:Tryz.prog.cellsOf 40=1:=by kernel_rfl
theorem open_u32s {H:Type} {enc:TypeId × Value→H} {w:World} {v:Value} {base:Nat} {d:DataW H} {ps:List MemPlace} (hv:Value.okWide Tryz.prog w .any base 31 v) (h:DataW.Trod enc Tryz.prog w 0 (fun _=>true) true 31 v d ps):∃ l,zzg w v l:=by
 obtain ⟨l,hl⟩:=yon (R:=fun cs (B:BitVec 32)=>cs=[.int .u32 (B.toNat:Int)]) Tryz.underlying31 cellsU32 Nat.one_pos (fun cs h=>by
  obtain ⟨n,h1,h2⟩:=zvt Tryz.underlying40 h
  simp only [Lit.wf,Bool.and_eq_true,decide_eq_true_eq] at h2
  have e1:IntKind.u32.min=0:=by decide
  have e2:IntKind.u32.max=4294967295:=by decide
  exact ⟨BitVec.ofNat 32 n.toNat,by rw [h1,BitVec.toNat_ofNat,Nat.mod_eq_of_lt (by omega),Int.toNat_of_nonneg (by omega)]⟩) hv h
 exact ⟨l,ynb (fun B:BitVec 32=>[.int .u32 (B.toNat:Int)]) (fun _=>rfl) (by omega) hl (fun cs x h=>h)⟩
theorem yfa (v0:Value) (z0:ProgD) (v1:Value) (z1:GraphD) (a2:Int) (v3:Value) (z3:List (List Int)) (v4:Value) (z4:List Int) (v5:Value) (z5:List (BitVec 32)) (w:World) (h0:yhj w v0 z0∧yhi z0) (h1:zkf w v1 z1∧zqn z1) (h2:(Lit.int .i64 a2).wf=true) (h3:zwi w v3 z3) (h4:ymc .i64 w v4 z4∧∀ x∈z4,yqg x) (h5:zzg w v5 z5) (hG:ywh w) :
  Calls Tryz.prog 3 #[v0,v1,.int .i64 a2,v3,v4,v5] w fun e w'=>e=.returned (.bool true)∧Below w.heap.size w w':=
 yvj (renum_con tawake_con z0 z1 a2 z3 z4 z5 h0.2) hG (okW_lt w) (ybi (prog_rel h0.1) (ybi (graph_rel h1.1) (ybi (.v _) (ybi (cfg_rel h3) (ybi (zey h4.1) (ybi (u32s_rel h5) yff))))))
end
section
open Go.RowKit
def lits1 (l:List (DataW Unit)):List Value:=l.flatMap fun|.lit (.int k z)=>[.int k z]|_=>[]
def lits2:DataW Unit→List Value
 | .agg l=>l.flatMap fun|.lit (.int k z)=>[.int k z]|.agg m=>lits1 m|_=>[]
 | _=>[]
def layIn (vs:List Value):Obj→Obj
 | .cells _ t frozen=>.cells vs.toArray t frozen
 | o=>o
noncomputable def yyx (os:Os):World:=
 { World.holding Tryz.prog os ⟨#[],#[],[]⟩ with heap:=(World.holding Tryz.prog os ⟨#[],#[],[]⟩).heap.modify 0 (layIn (lits2 Rows.laid_math_bits_deBruijn32tab)) }
theorem glob_of {laid : List (String × DataW Unit)} {W : World} (hl : (laid.filter fun x => x.1 == "math/bits.deBruijn32tab") = [("math/bits.deBruijn32tab", Rows.laid_math_bits_deBruijn32tab)]) (hs : W.ShapedOpen Tryz.prog) (h : laidMetH Tryz.prog laid W) : ywh W := by
 have h2 := laidMetH.filter (fun x => x.1 == "math/bits.deBruijn32tab") h
 rw [hl] at h2
 have h3 : laidMet Tryz.prog [("math/bits.deBruijn32tab", Lib.tabData .u8 zuq)] W := h2
 exact Lib.tabIs_of_head (t:=319) (e:=5) (n:=32) zmz (by kernel_rfl) Tryz.underlying319 Tryz.underlying5 (by kernel_rfl) (by kernel_rfl) h3
end
end Go.Proofs.YtgpbgfpjlhoicaaGreatDoor
