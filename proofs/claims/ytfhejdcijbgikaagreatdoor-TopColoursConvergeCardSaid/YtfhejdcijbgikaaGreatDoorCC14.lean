/- Part 14 of the texts under TopColoursConverge: joined, with what it needs alone. -/
import Derived.Lib.Bytealg
import Derived.Lib.Split
import Derived.Lib.SplitLaws
import GoSem.Core.Utf8
import Derived.Lib.ItoaNum
import Derived.Lib.Strings
import Derived.KernelRfl
import Derived.Test.YtfhejdcijbgikaaGreatDoorRows
import Derived.Lib.LaidTab
import Derived.Deep.DeepHandedRow
import Derived.LaidSub
import Derived.Test.YtfhejdcijbgikaaGreatDoorCC1
import Derived.Test.YtfhejdcijbgikaaGreatDoorCC2
import Derived.Test.YtfhejdcijbgikaaGreatDoorCC5
import Derived.Test.YtfhejdcijbgikaaGreatDoorCC8
import Derived.Test.YtfhejdcijbgikaaGreatDoorCC9
import Derived.Test.YtfhejdcijbgikaaGreatDoorCC10
import Derived.Test.YtfhejdcijbgikaaGreatDoorCC11
import Derived.Test.YtfhejdcijbgikaaGreatDoorCC12
import Derived.Test.YtfhejdcijbgikaaGreatDoorCC13
set_option linter.unusedVariables false
namespace Go.Proofs.YtfhejdcijbgikaaGreatDoor
section
open Go.RowKit
section
variable {P:Program} {N:Nat} {Q:Exit→SS→Prop} {c:Code}
def xbb (jb k:Nat) (t:TL) (h:HL):TL × HL:=
 match hlook h jb with
 | some (.cells ys)=>match ys[k]? with
  | some (.ls id size len)=>match hlook h id with
   | some (.vec xs)=>match ynt size len xs with
    | some rows=>match ysd id t with
     | some t1=>match ypv id h with
      | some h1=>match hlook ((id,none)::h1) jb with
       | some (.cells ys')=>match Nat.beq ys'.length ys.length with
        | true=>(t1,(jb,some (.cells (ys'.set k (.sl size rows))))::(id,none)::h1)
        | false=>(t,h)
       | _=>(t,h)
      | none=>(t,h)
     | none=>(t,h)
    | none=>(t,h)
   | _=>(t,h)
  | _=>(t,h)
 | _=>(t,h)
theorem frz1_ok {jb k:Nat} {t:TL} {h:HL} (q:A P N c Q (S (xbb jb k t h).1 (xbb jb k t h).2)):A P N c Q (S t h):=by
 unfold xbb at q
 split at q
 ·rename_i ys hj
  split at q
  ·rename_i id size len hk
   split at q
   ·rename_i xs hx
    split at q
    ·rename_i rows hc
     obtain ⟨q1,q2,q3⟩:=ymm hc
     split at q
     ·rename_i t1 ht
      split at q
      ·rename_i h1 hh
       split at q
       ·rename_i ys' hj'
        split at q
        ·rename_i hl
         exact ygs jb k rows hj hk hx q1 q2 q3 ht hh hj' hl q
        ·exact q
       ·exact q
      ·exact q
     ·exact q
    ·exact q
   ·exact q
  ·exact q
 ·exact q
def xbc (jb:Nat):Nat→TL→HL→TL × HL
 | 0,t,h=>(t,h)
 | k+1,t,h=>match xbb jb k t h with
  | (t1,h1)=>xbc jb k t1 h1
theorem zsm {jb:Nat}:∀ {k:Nat} {t:TL} {h:HL},A P N c Q (S (xbc jb k t h).1 (xbc jb k t h).2)→A P N c Q (S t h)
 | 0,t,h,q=>q
 | k+1,t,h,q=>frz1_ok (jb:=jb) (k:=k) (zsm (k:=k) q)
def zzd:HL→TL→HL→TL × HL
 | [],t,h=>(t,h)
 | (jb,some (.cells ys))::l,t,h=>match xbc jb ys.length t h with
  | (t1,h1)=>zzd l t1 h1
 | _::l,t,h=>zzd l t h
theorem yjo:∀ {l:HL} {t:TL} {h:HL},A P N c Q (S (zzd l t h).1 (zzd l t h).2)→A P N c Q (S t h)
 | [],t,h,q=>q
 | (jb,some (.cells ys))::l,t,h,q=>zsm (jb:=jb) (k:=ys.length) (yjo (l:=l) q)
 | (jb,none)::l,t,h,q=>yjo (l:=l) q
 | (jb,some (.vec _))::l,t,h,q=>yjo (l:=l) q
 | (jb,some (.map _))::l,t,h,q=>yjo (l:=l) q
 | (jb,some (.iter _ _ _))::l,t,h,q=>yjo (l:=l) q
 | (jb,some (.siter _ _))::l,t,h,q=>yjo (l:=l) q
 | (jb,some (.tcells _ _))::l,t,h,q=>yjo (l:=l) q
 | (jb,some (.tvec _ _))::l,t,h,q=>yjo (l:=l) q
 | (jb,some (.mcells _))::l,t,h,q=>yjo (l:=l) q
end
end
section
open Go.RowKit
section
variable {P:Program} {T:Nat→Option Ty} {N:Nat} {Q:Exit→SS→Prop} {t t':TL} {h h':HL} {K:Calls0}
def zsi:List ResultVar→TL→HL→TL × HL
 | [],t,h=>(t,h)
 | .tmp d::rs,t,h=>match look t d with
  | some (.ls id size len)=>match hlook h id with
   | some (.vec xs)=>match ynt size len xs with
    | some rows=>match ysd id t with
     | some t1=>match ypv id h with
      | some h1=>zsi rs ((d,.sl size rows)::t1) ((id,none)::h1)
      | none=>zsi rs t h
     | none=>zsi rs t h
    | none=>zsi rs t h
   | _=>zsi rs t h
  | _=>zsi rs t h
 | .cell _ _::rs,t,h=>zsi rs t h
theorem yny {c:Code}:∀ {rs:List ResultVar} {t:TL} {h:HL},A P N c Q (S (zsi rs t h).1 (zsi rs t h).2)→A P N c Q (S t h)
 | [],t,h,k=>k
 | .cell _ _::rs,t,h,k=>yny (rs:=rs) k
 | .tmp d::rs,t,h,k=>by
  simp only [zsi] at k
  split at k
  ·rename_i id size len hd
   split at k
   ·rename_i xs hx
    split at k
    ·rename_i rows hc
     obtain ⟨q1,q2,q3⟩:=ymm hc
     split at k
     ·rename_i t1 ht
      split at k
      ·rename_i h1 hh
       exact zlx d rows hd hx q1 q2 q3 ht hh (yny (rs:=rs) k)
      ·exact yny (rs:=rs) k
     ·exact yny (rs:=rs) k
    ·exact yny (rs:=rs) k
   ·exact yny (rs:=rs) k
  ·exact yny (rs:=rs) k
def wantsF (K:Calls0) (l:List Oper):Bool:=l.any fun o=>match o.op with
 | .call ⟨.value (.func f),_,_⟩=>K.fz f
 | _=>false
def xaj (K:Calls0) (l:List Oper) (t:TL) (h:HL):TL × HL:=match wantsF K l with
 | true=>zzd h t h
 | false=>(t,h)
theorem preX_ok {c:Code} {l:List Oper} (q:A P N c Q (S (xaj K l t h).1 (xaj K l t h).2)):A P N c Q (S t h):=by
 unfold xaj at q
 split at q
 ·exact yjo q
 ·exact q
def ownH (h:HL):HL:=h.filter fun x=>Nat.blt x.1 1000
def zyl (l:List Oper) (t:TL) (h:HL):TL × HL:=match l.any fun o=>(match o.op with
 | .call ⟨.builtin .append,_,_⟩=>true
 | _=>false) with
 | true=>zzd (ownH h) t h
 | false=>(t,h)
theorem ztq {c:Code} {l:List Oper} (q:A P N c Q (S (zyl l t h).1 (zyl l t h).2)):A P N c Q (S t h):=by
 unfold zyl at q
 split at q
 ·exact yjo q
 ·exact q
def exC (T:Nat→Option Ty) (K:Calls0) (N:Nat) (rs:List ResultVar):Nat→Code→TL→HL→Option (Exit × TL × HL)
 | 0,_,_,_=>none
 | n+1,c,t,h=>match c with
  | .skip=>some (.normal,t,h)
  | .exit id=>some (.exit id,t,h)
  | .label _=>some (.normal,t,h)
  | .ret=>match zsi rs t h with
   | (t1,h1)=>some (.ret,t1,h1)
  | .seq x y=>match exC T K N rs n x t h with
   | some (.normal,t1,h1)=>exC T K N rs n y t1 h1
   | some (.exit id,t1,h1)=>some (.exit id,t1,h1)
   | some (.ret,t1,h1)=>some (.ret,t1,h1)
   | _=>none
  | .cond c x y=>match evF (look t) c with
   | some (.v (.bool true))=>exC T K N rs n x t h
   | some (.v (.bool false))=>exC T K N rs n y t h
   | _=>none
  | .block id x=>match exC T K N rs n x t h with
   | some (.normal,t1,h1)=>some (.normal,t1,h1)
   | some (.exit id',t1,h1)=>match Nat.beq id' id with
    | true=>some (.normal,t1,h1)
    | false=>some (.exit id',t1,h1)
   | some (.ret,t1,h1)=>some (.ret,t1,h1)
   | _=>none
  | .loop x=>match exC T K N rs n x (ylr (fun _=>true) [] t) (yjk (fun _ _=>true) [] h) with
   | some (.normal,t1,h1)=>exC T K N rs n (.loop x) t1 h1
   | some (.exit id,t1,h1)=>some (.exit id,t1,h1)
   | some (.ret,t1,h1)=>some (.ret,t1,h1)
   | _=>none
  | .region _ ⟨l⟩ false=>match ygg l with
   | true=>match exL T K N true l.toArray l (xaj K l t h).1 (xaj K l t h).2 with
    | some (t1,h1)=>some (.normal,t1,h1)
    | none=>none
   | false=>none
  | .region _ ⟨l⟩ true=>match zmo lf0 l && yqg N l with
   | true=>match exL T K N false l.toArray l (zyl l t h).1 (zyl l t h).2 with
    | some (t1,h1)=>some (.normal,t1,h1)
    | none=>none
   | false=>match yqg N l with
    | true=>match zpz T K N l.toArray l.length (Array.replicate l.length false) (zyl l t h).1 (zyl l t h).2 with
     | some (t1,h1)=>some (.normal,t1,h1)
     | none=>none
    | false=>none
  | _=>none
theorem zmz (hm:P.follows .mixedOrders=true) (hT:TOK P T) (hK:CallsOk P K) {rs:List ResultVar}:∀ (n:Nat) (c:Code) (t:TL) (h:HL) (e:Exit) (t':TL) (h':HL),exC T K N rs n c t h=some (e,t',h')→(∀ Q:Exit→SS→Prop,Q e (S t' h')→A P N c Q (S t h))∧(∀ x,c=.loop x→∀ Q:Exit→SS→Prop,Q e (S t' h')→zjz P N x Q (S t h))
 | 0,c,t,h,e,t',h',hr=>by simp [exC] at hr
 | n+1,c,t,h,e,t',h',hr=>by
  have ih:=fun c t h e t' h' hr=>(zmz hm hT hK (rs:=rs) n c t h e t' h' hr).1
  have ihl:=fun x t h e t' h' hr=>(zmz hm hT hK (rs:=rs) n (.loop x) t h e t' h' hr).2 x rfl
  by_cases hl:∃ x,c=.loop x
  ·obtain ⟨x,rfl⟩:=hl
   have key:∀ Q:Exit→SS→Prop,Q e (S t' h')→zjz P N x Q (S t h):=by
    intro Q hq
    refine yxr ?_ (zbl (fun _=>true) t) (zbk (fun _ _=>true) h)
    refine yoq ?_
    simp only [exC] at hr
    split at hr
    ·rename_i t1 h1 hb
     exact ih _ _ _ _ _ _ hb _ (ihl _ _ _ _ _ _ hr Q hq)
    ·rename_i id t1 h1 hb
     simp only [Option.some.injEq,Prod.mk.injEq] at hr
     obtain ⟨rfl,rfl,rfl⟩:=hr
     exact ih _ _ _ _ _ _ hb _ hq
    ·rename_i t1 h1 hb
     simp only [Option.some.injEq,Prod.mk.injEq] at hr
     obtain ⟨rfl,rfl,rfl⟩:=hr
     exact ih _ _ _ _ _ _ hb _ hq
    ·cases hr
   exact ⟨fun Q hq=>zqx (key Q hq),fun y e Q hq=>by cases e;exact key Q hq⟩
  ·refine ⟨fun Q hq=>?_,fun x e=>absurd ⟨x,e⟩ hl⟩
   unfold exC at hr
   split at hr
   ·simp only [Option.some.injEq,Prod.mk.injEq] at hr
    obtain ⟨rfl,rfl,rfl⟩:=hr
    exact ybf hq
   ·simp only [Option.some.injEq,Prod.mk.injEq] at hr
    obtain ⟨rfl,rfl,rfl⟩:=hr
    exact ybp hq
   ·simp only [Option.some.injEq,Prod.mk.injEq] at hr
    obtain ⟨rfl,rfl,rfl⟩:=hr
    exact A_label hq
   ·simp only [Option.some.injEq,Prod.mk.injEq] at hr
    obtain ⟨rfl,h1,h2⟩:=hr
    refine yny (rs:=rs) (yaf ?_)
    rw [h1,h2]
    exact hq
   ·rename_i x y
    refine yco ?_
    split at hr
    ·rename_i t1 h1 hb
     exact ih _ _ _ _ _ _ hb _ (ih _ _ _ _ _ _ hr Q hq)
    ·rename_i id t1 h1 hb
     simp only [Option.some.injEq,Prod.mk.injEq] at hr
     obtain ⟨rfl,rfl,rfl⟩:=hr
     exact ih _ _ _ _ _ _ hb _ hq
    ·rename_i t1 h1 hb
     simp only [Option.some.injEq,Prod.mk.injEq] at hr
     obtain ⟨rfl,rfl,rfl⟩:=hr
     exact ih _ _ _ _ _ _ hb _ hq
    ·cases hr
   ·rename_i cc x y
    split at hr
    ·rename_i hc
     exact yac hc (fun _=>ih _ _ _ _ _ _ hr Q hq) (fun e=>by cases e)
    ·rename_i hc
     exact yac hc (fun e=>by cases e) (fun _=>ih _ _ _ _ _ _ hr Q hq)
    ·cases hr
   ·rename_i id x
    refine ybh ?_
    split at hr
    ·rename_i t1 h1 hb
     simp only [Option.some.injEq,Prod.mk.injEq] at hr
     obtain ⟨rfl,rfl,rfl⟩:=hr
     exact ih _ _ _ _ _ _ hb _ hq
    ·rename_i id' t1 h1 hb
     split at hr
     ·rename_i he
      simp only [Option.some.injEq,Prod.mk.injEq] at hr
      obtain ⟨rfl,rfl,rfl⟩:=hr
      refine ih _ _ _ _ _ _ hb _ ?_
      simp only [zrb,he,if_true]
      exact hq
     ·rename_i he
      simp only [Option.some.injEq,Prod.mk.injEq] at hr
      obtain ⟨rfl,rfl,rfl⟩:=hr
      refine ih _ _ _ _ _ _ hb _ ?_
      simp only [zrb,he]
      exact hq
    ·rename_i t1 h1 hb
     simp only [Option.some.injEq,Prod.mk.injEq] at hr
     obtain ⟨rfl,rfl,rfl⟩:=hr
     exact ih _ _ _ _ _ _ hb _ hq
    ·cases hr
   ·exact absurd ⟨_,rfl⟩ hl
   ·rename_i id l
    split at hr
    ·rename_i hn
     split at hr
     ·rename_i t1 h1 hb
      simp only [Option.some.injEq,Prod.mk.injEq] at hr
      obtain ⟨rfl,rfl,rfl⟩:=hr
      exact preX_ok (l:=l) (ycs (lf:=lfT) hn (zbq hT hK (fun _ _=>rfl) (fun _ _=>rfl) hb hq))
     ·cases hr
    ·cases hr
   ·rename_i id l
    split at hr
    ·rename_i hn
     simp only [Bool.and_eq_true] at hn
     split at hr
     ·rename_i t1 h1 hb
      simp only [Option.some.injEq,Prod.mk.injEq] at hr
      obtain ⟨rfl,rfl,rfl⟩:=hr
      exact ztq (l:=l) (ypy (lf:=lf0) hm hn.1 hn.2 (zbq hT hK (fun _ ho=>ho) (fun e=>by cases e) hb hq))
     ·cases hr
    ·split at hr
     ·rename_i hd
      split at hr
      ·rename_i t1 h1 hb
       simp only [Option.some.injEq,Prod.mk.injEq] at hr
       obtain ⟨rfl,rfl,rfl⟩:=hr
       exact ztq (l:=l) (ycb (lf:=lf0) hm hd (zdw hT hK _ _ _ _ _ _ hb hq))
      ·cases hr
     ·cases hr
   ·cases hr
end
end
section
open Go.RowKit
section
variable {P:Program} {T:Nat→Option Ty} {K:Calls0}
def zvr:Exit→Bool
 | .normal=>true
 | .ret=>true
 | _=>false
def xbf (P:Program) (T:Nat→Option Ty) (K:Calls0) (F:Nat) (f:FuncId) (args:List AV) (hs:HL):Option (AV × HL):=
 match P.funcs[f]? with
 | none=>none
 | some fn => match fn.name == "runtime.NumGoroutine" with
  | true=>none
  | false=>match fn.body with
   | none=>none
   | some c=>match Nat.ble args.length fn.ntmps && Nat.ble fn.ntmps 1000 with
    | false=>none
    | true=>match exC T K fn.ntmps fn.results.toList F c (yel 0 args) hs with
     | none=>none
     | some (e,t1,h1)=>match zvr e with
      | false=>none
      | true=>match yoe T (S t1 h1) fn.results.toList with
       | none=>none
       | some x=>some (x,h1)
theorem zuf {F:Nat} {f:FuncId} {args:List AV} {hs h1:HL} {x:AV} (hr:xbf P T K F f args hs=some (x,h1)) :
  ∃ fn c e t1, P.funcs[f]? = some fn ∧ (fn.name == "runtime.NumGoroutine") = false ∧ fn.body = some c ∧ (Nat.ble args.length fn.ntmps = true ∧ Nat.ble fn.ntmps 1000 = true) ∧ exC T K fn.ntmps fn.results.toList F c (yel 0 args) hs = some (e, t1, h1) ∧ zvr e = true ∧ yoe T (S t1 h1) fn.results.toList = some x := by
 unfold xbf at hr
 split at hr
 ·cases hr
 ·rename_i fn hf
  split at hr
  ·cases hr
  ·rename_i hn
   split at hr
   ·cases hr
   ·rename_i c hb
    split at hr
    ·cases hr
    ·rename_i hl
     split at hr
     ·cases hr
     ·rename_i e t1 h2 hc
      split at hr
      ·cases hr
      ·rename_i he
       split at hr
       ·cases hr
       ·rename_i x' hx
        simp only [Option.some.injEq,Prod.mk.injEq] at hr
        obtain ⟨rfl,rfl⟩:=hr
        simp only [Bool.and_eq_true] at hl
        exact ⟨fn,c,e,t1,hf,hn,hb,hl,hc,he,hx⟩
def zlc (P:Program) (T:Nat→Option Ty) (K:Calls0) (F:Nat) (f:FuncId) (args:List AV):Option AV:=
 match xbf P T K F f args [] with
 | some (x,_)=>match yap x with
  | true=>some x
  | false=>none
 | none=>none
theorem pureRun_ok (hm:P.follows .mixedOrders=true) (hT:TOK P T) (hK:CallsOk P K) {F:Nat} {f:FuncId} {args:List AV} {r:AV} (hr:zlc P T K F f args=some r):Con P f args r:=by
 unfold zlc at hr
 split at hr
 ·rename_i x h1 hx
  split at hr
  ·rename_i hp
   simp only [Option.some.injEq] at hr
   subst hr
   obtain ⟨fn,c,e,t1,hf,hn,hb,hl,hc,he,hres⟩:=zuf hx
   have hl2:Nat.ble fn.ntmps 1000000=true:=by have:=hl.2;simp only [Nat.ble_eq] at this ⊢;omega
   refine yge hT hf hn hb rfl (rs:=fn.results.toList) (by simp) (by rw [hl.1,hl2];rfl) hp ?_
   refine (zmz hm hT hK _ _ _ _ _ _ _ hc).1 _ ?_
   cases e with
   | normal=>exact ⟨_,hres,Frz.pure⟩
   | ret=>exact ⟨_,hres,Frz.pure⟩
   | _=>simp [zvr] at he
  ·cases hr
 ·cases hr
def zkr (P:Program) (T:Nat→Option Ty) (K:Calls0) (F:Nat) (f:FuncId) (args:List AV) (hs:HL):Option (AV × HL):=
 match xbf P T K F f args hs with
 | some (x,h1)=>
  let live:=ztv h1 1000 (zhh x++zyg hs) []
  some (x,yjk (fun i o=>yll i live && (!isC o || (Nat.ble 1000 i && (match hlook hs i with
   | some o'=>isC o'
   | none=>false)))) [] h1)
 | none=>none
theorem ysi:∀ {l:HL} {i:Nat} {o:LObj},hlook l i=some o→(i,some o)∈l
 | [],i,o,h=>by simp [hlook] at h
 | (k,x)::l,i,o,h=>by
  simp only [hlook] at h
  cases hb:Nat.beq i k with
  | true=>rw [hb] at h;simp only at h;rw [Nat.eq_of_beq_eq_true hb,h];exact List.mem_cons_self
  | false=>rw [hb] at h;exact List.mem_cons_of_mem _ (ysi h)
theorem lentRun_ok (hm:P.follows .mixedOrders=true) (hT:TOK P T) (hK:CallsOk P K) {F:Nat} {f:FuncId} {args:List AV} {hs hs':HL} {r:AV} (hr:zkr P T K F f args hs=some (r,hs')):ypt P f args (hlook hs) r (hlook hs'):=by
 unfold zkr at hr
 split at hr
 ·rename_i x h1 hx
  simp only [Option.some.injEq,Prod.mk.injEq] at hr
  obtain ⟨rfl,rfl⟩:=hr
  obtain ⟨fn,c,e,t1,hf,hn,hb,hl,hc,he,hres⟩:=zuf hx
  have hl2:Nat.ble fn.ntmps 1000000=true:=by have:=hl.2;simp only [Nat.ble_eq] at this ⊢;omega
  refine yud hT hf hn hb rfl (rs:=fn.results.toList) (by simp) (by rw [hl.1,hl2];rfl) (fun id o ho hc'=>?_) ?_
  ·obtain ⟨o',e',hp⟩:=yoz (ysi ho)
   cases e'
   rw [hc'] at hp
   simp only [Bool.and_eq_true,Bool.or_eq_true,Bool.not_true,Bool.false_eq_true,false_or] at hp
   obtain ⟨_,h2,h3⟩:=hp
   have h4:=hl.2
   simp only [Nat.ble_eq] at h2 h4
   refine ⟨by omega,?_⟩
   split at h3
   ·rename_i o' ho';exact ⟨o',ho',h3⟩
   ·cases h3
  ·show A P fn.ntmps c _ (S (yel 0 args) hs)
   refine (zmz hm hT hK _ _ _ _ _ _ _ hc).1 _ ?_
   cases e with
   | normal=>exact ⟨_,hres,yfu _,fun id o ho=>(ynu (ysi ho)).2⟩
   | ret=>exact ⟨_,hres,yfu _,fun id o ho=>(ynu (ysi ho)).2⟩
   | _=>simp [zvr] at he
 ·cases hr
def yns (P:Program) (T:Nat→Option Ty) (F:Nat) (kn:FuncId→List AV→Option AV) (kl:Calls0→FuncId→List AV→HL→Option (AV × HL)) (fz:FuncId→Bool):Nat→Calls0
 | 0=>⟨fun _ _=>none,fun _ _ _=>none,fz⟩
 | n+1=>⟨fun f xs=>match kn f xs with
   | some r=>some r
   | none=>zlc P T (yns P T F kn kl fz n) F f xs,fun f xs hs=>match kl (yns P T F kn kl fz n) f xs hs with
   | some r=>some r
   | none=>zkr P T (yns P T F kn kl fz n) F f xs hs,fz⟩
theorem zbi (hm:P.follows .mixedOrders=true) (hT:TOK P T) {F:Nat} {kn:FuncId→List AV→Option AV} {kl:Calls0→FuncId→List AV→HL→Option (AV × HL)} {fz:FuncId→Bool} (hkn:∀ f xs r,kn f xs=some r→Con P f xs r) (hkl:∀ K,CallsOk P K→∀ f xs hs r hs',kl K f xs hs=some (r,hs')→ypt P f xs (hlook hs) r (hlook hs')):∀ n,CallsOk P (yns P T F kn kl fz n)
 | 0=>⟨fun f xs r h=>by simp [yns] at h,fun f xs hs r hs' h=>by simp [yns] at h⟩
 | n+1=>by
  have ih:=zbi hm hT hkn hkl (F:=F) (fz:=fz) n
  refine ⟨fun f xs r h=>?_,fun f xs hs r hs' h=>?_⟩ <;> simp only [yns] at h <;> split at h
  ·rename_i r' hk
   simp only [Option.some.injEq] at h
   subst h
   exact hkn _ _ _ hk
  ·exact pureRun_ok hm hT ih h
  ·rename_i q hk
   simp only [Option.some.injEq] at h
   subst h
   exact hkl _ ih _ _ _ _ _ hk
  ·exact lentRun_ok hm hT ih h
theorem con_run (hm:P.follows .mixedOrders=true) (hT:TOK P T) {F:Nat} {kn:FuncId→List AV→Option AV} {kl:Calls0→FuncId→List AV→HL→Option (AV × HL)} {fz:FuncId→Bool} (hkn:∀ f xs r,kn f xs=some r→Con P f xs r) (hkl:∀ K,CallsOk P K→∀ f xs hs r hs',kl K f xs hs=some (r,hs')→ypt P f xs (hlook hs) r (hlook hs')) (n:Nat) {f:FuncId} {args:List AV} {r:AV} (h:(yns P T F kn kl fz n).pure f args=some r):Con P f args r:=(zbi hm hT hkn hkl n).pure _ _ _ h
end
end
set_option maxRecDepth 100000
section
open Go.RowKit
theorem indexByte_slite (s:ByteArray) (c:Int) (w:World) :
  Calls Tryz.prog 258 #[.string s,.int .u8 c] w fun e w'=>e=.returned (.int .i64 (Lib.indexByte s.data.toList c.toNat.toUInt8))∧w=w':=by
 go_enter Tryz.func258,Tryz.ntmps258
 go_wp2
 rw [run_callFunc_extern Tryz.func280 (by kernel_rfl) (by kernel_rfl) (by kernel_rfl) (e:=Extern.BytealgIndexByte.indexByte) (by kernel_rfl),Lib.run_indexByteString]
 simp only [Result.andThen]
 rw [Oper.upon_value]
 go_wp2
 go_ret
 exact ⟨rfl,rfl⟩
theorem indexByte_any (s:ByteArray) (c:Int) (w:World) :
  Calls Tryz.prog 230 #[.string s,.int .u8 c] w fun e w'=>e=.returned (.int .i64 (Lib.indexByte s.data.toList c.toNat.toUInt8))∧w=w':=by
 go_enter Tryz.func230,Tryz.ntmps230
 go_wp2_with (go_at_call 258;refine (indexByte_slite _ _ _).mono ?_;rintro e w' ⟨rfl,rfl⟩)
 go_ret
 exact ⟨rfl,rfl⟩
end
section
open Go.RowKit
theorem idx_con (s:ByteArray) (c:Int):Con Tryz.prog 230 [.v (.string s),.v (.int .u8 c)] (i64 (Lib.indexByte s.data.toList c.toNat.toUInt8)):=
 ygj ⟨_,Tryz.func230,rfl,rfl⟩ fun w us ok hok hr=>by
  obtain ⟨u,v,rfl,h1,h2⟩:=yrb hr
  cases h1;cases h2
  exact (indexByte_any s c w).mono fun e w' ⟨he,hw⟩=>⟨he,hw ▸ Below.refl _ _⟩
def knI (f:FuncId) (xs:List AV):Option AV:=
 match Nat.beq f 230 with
 | true=>match xs with
  | [.v (.string s),.v (.int .u8 c)]=>some (i64 (Lib.indexByte s.data.toList c.toNat.toUInt8))
  | _=>none
 | false=>none
theorem knI_ok (f:FuncId) (xs:List AV) (r:AV) (h:knI f xs=some r):Con Tryz.prog f xs r:=by
 unfold knI at h
 split at h
 ·rename_i hf
  split at h
  ·simp only [Option.some.injEq] at h
   subst h
   rw [Nat.eq_of_beq_eq_true hf]
   exact idx_con _ _
  ·cases h
 ·cases h
end
section
abbrev Bs:=List UInt8
def ba (l:Bs):ByteArray:=⟨l.toArray⟩
def bl (s:ByteArray):Bs:=s.data.toList
end
section
structure PW where
 w:Bs
 k:Nat
 v:Nat
def xcj:List Bs→Bs→Option Nat
 | [],_=>none
 | x::l,w=>if x=w then some 0 else (xcj l w).map (·+1)
def zvi (first:Int) (l:List Bs) (w:Bs):Int:=
 if w=[] then 0 else match xcj l w with
  | some i=>first+i
  | none=>0
def xbo:List Bs:=[[42],[47],[37],[43],[45],[61,61],[33,61],[60],[60,61],[62],[62,61],[38,38],[124,124]]
def aggL:List Bs:=[[97,108,108],[115,111,109,101],[99,111,117,110,116],[102,105,114,115,116],[109,105,110],[109,97,120],[115,117,109],[109,101,120],[115,101,99,111,110,100],[104,101,97,100]]
def zwi:List Bs:=[[116,114,117,101],[102,97,108,115,101],[110,111,110,101],[],[110],[105,100,115],[105,100],[100,101,103],[114,111,111,116]]
def zwk:List Bs:=[[105,100],[100,101,103],[114,111,111,116],[119,101,105,103,104,116],[98,97,99,107]]
def zyb (w:Bs):Int:=zvi 30 xbo w
def xbk (w:Bs):Int:=zvi 20 aggL w
def zsb (w:Bs):Int:=zvi 2 zwi w
def zsh (w:Bs):Int:=zvi 13 zwk w
def xad (op:Int):Nat:=
 if op=43 then 0 else if op=42 then 1 else if op=41 then 2 else if 35≤op∧op≤40 then 3 else if op=33∨op=34 then 4 else if 30≤op∧op≤32 then 5 else if op=18∨op=19 then 6 else 7
def zhf:List PW→Bs
 | []=>[]
 | t::_=>t.w
inductive Res where
 | ok (e:List Tm) (rest:List PW)
 | bad (err:Int) (rest:List PW)
inductive NT where
 | choice
 | bin (l:Nat)
 | tail (l:Nat) (left:List Tm)
 | unary
 | prim
variable {nm:Bs→Bool} {names:List Bs}
end
section
abbrev dec (v:Nat):Bs:=Lib.decDigits v
end
section
variable {nm:Bs→Bool} {names:List Bs}
def pwS (w:Bs):PW:=⟨w,3,0⟩
def pwN (w:Bs):PW:=⟨w,1,0⟩
def pwV (n:Nat):PW:=⟨dec n,2,n⟩
inductive Wr (names:List Bs):Nat→Ex→Bs→List PW→Prop
 | down {l:Nat} {E:Ex} {x:Bs} {ws:List PW} (hl:l < 7) (h:Wr names (l+1) E x ws):Wr names l E x ws
 | paren {E:Ex} {x:Bs} {ws:List PW} (h:Wr names 0 E x ws):Wr names 7 E (40::(x++[41])) (pwS [40]::(ws++[pwS [41]]))
 | choice {a b c:Ex} {xa xb xc:Bs} {wa wb wc:List PW} (ha:Wr names 1 a xa wa) (hb:Wr names 0 b xb wb) (hc:Wr names 0 c xc wc):Wr names 0 (.tr (43,0) a b c) (xa++(32::63::32::(xb++(32::58::32::xc)))) (wa++(pwS [63]::(wb++(pwS [58]::wc))))
 | bin {op:Int} {l:Nat} {w:Bs} {a b:Ex} {xa xb:Bs} {wa wb:List PW} (h0:zyb w=op) (hw:w∈xbo) (hl:xad op=l) (h3:l≠3) (ha:Wr names l a xa wa) (hb:Wr names (l+1) b xb wb):Wr names l (.bi (op,0) a b) (xa++(32::(w++(32::xb)))) (wa++(pwS w::wb))
 | cmp {op:Int} {w:Bs} {a b:Ex} {xa xb:Bs} {wa wb:List PW} (h0:zyb w=op) (hw:w∈xbo) (hl:xad op=3) (ha:Wr names 4 a xa wa) (hb:Wr names 4 b xb wb):Wr names 3 (.bi (op,0) a b) (xa++(32::(w++(32::xb)))) (wa++(pwS w::wb))
 | neg {a:Ex} {xa:Bs} {wa:List PW} (ha:Wr names 6 a xa wa):Wr names 6 (.un (18,0) a) (45::xa) (pwS [45]::wa)
 | not {a:Ex} {xa:Bs} {wa:List PW} (ha:Wr names 6 a xa wa):Wr names 6 (.un (19,0) a) (33::xa) (pwS [33]::wa)
 | agg {op:Int} {w:Bs} {a:Ex} {xa:Bs} {wa:List PW} (h0:xbk w=op) (hw:w∈aggL) (ha:Wr names 0 a xa wa):Wr names 7 (.un (op,0) a) (w++(40::(xa++[41]))) (pwN w::pwS [40]::(wa++[pwS [41]]))
 | num {n:Nat} (hn:n≤1073741824):Wr names 7 (.lf (1,n)) (dec n) [pwV n]
 | own {i:Nat} {w:Bs} (h:names[i]?=some w):Wr names 7 (.lf (5,i)) w [pwN w]
 | near {i:Nat} {w:Bs} (h:names[i]?=some w):Wr names 7 (.lf (12,i)) (113::46::w) [pwN [113],pwS [46],pwN w]
 | here:Wr names 7 (.lf (11,0)) [113] [pwN [113]]
 | const {op:Int} {w:Bs} (h0:zsb w=op) (hw:w∈zwi) (hne:w≠[]):Wr names 7 (.lf (op,0)) w [pwN w]
 | field {op:Int} {w:Bs} (h0:zsh w=op) (hw:w∈zwk):Wr names 7 (.lf (op,0)) (113::46::w) [pwN [113],pwS [46],pwN w]
structure NmOk (nm:Bs→Bool) (names:List Bs):Prop where
 good:∀ w∈names,nm w=true
 nodup:names.Nodup
 res:∀ w,nm w=true→zsb w=0∧xbk w=0∧zsh w=0∧w≠[113]∧w≠[40]∧w≠[45]∧w≠[33]
def Fol (l:Nat) (r:List PW):Prop:=(l=0→zhf r≠[63])∧zhf r≠[46]∧(zyb (zhf r)=0∨xad (zyb (zhf r)) < l)
def FolW (l:Nat) (r:List PW):Prop:=zhf r≠[46]∧(zyb (zhf r)=0∨xad (zyb (zhf r)) < l∨(xad (zyb (zhf r))=l∧l≠3))
theorem Fol.weak {l:Nat} {r:List PW} (h:Fol l r):FolW l r:=⟨h.2.1,h.2.2.imp id .inl⟩
end
section
open Go.RowKit
theorem skip_drop (r:List UInt8):∀ b:Bool,r.drop (yni b r)≠[]→yni false (r.drop (yni b r))=0:=by
 induction r with
 | nil=>intro b h;simp at h
 | cons c r ih=>
  intro b h
  cases b
  ·simp only [yni] at *
   split at h
   ·rename_i hc;rw [if_pos hc,Nat.add_comm,List.drop_succ_cons] at *;exact ih false h
   ·rename_i hc
    rw [if_neg hc]
    split at h
    ·rename_i h35;rw [if_pos h35,Nat.add_comm,List.drop_succ_cons] at *;exact ih true h
    ·rename_i h35;rw [if_neg h35,List.drop_zero];simp [yni,hc,h35]
  ·simp only [yni] at *
   split at h
   ·rename_i hc;rw [if_pos hc,Nat.add_comm,List.drop_succ_cons] at *;exact ih false h
   ·rename_i hc;rw [if_neg hc,Nat.add_comm,List.drop_succ_cons] at *;exact ih true h
def zvy (s:ByteArray):Nat→List Tok→Prop
 | p,[]=>p≤s.size∧zcy s false p=s.size
 | p,t::ts=>p≤s.size∧t.from_=zcy s false p∧t.from_ < s.size∧xcb (ybd s t.from_)=.ok (t.kind,t.to - t.from_,t.num)∧t.from_ < t.to∧t.to≤s.size∧zvy s t.to ts
theorem zvy.tail {s:ByteArray} {p:Nat} {t:Tok} {ts:List Tok} (h:zvy s p (t::ts)):zvy s t.to ts:=h.2.2.2.2.2.2
theorem zvy.len {s:ByteArray}:∀ {ts:List Tok} {p:Nat},zvy s p ts→ts.length+p≤s.size:=by
 intro ts
 induction ts with
 | nil=>intro p h;have:=h.1;simp;omega
 | cons t ts ih=>
  intro p h
  have h1:=ih h.tail
  obtain ⟨h2,h3,h4,_,h5,h6,_⟩:=h
  have:=(skipTo_bd s false p h2).1
  simp;omega
theorem zvy.mem {s:ByteArray}:∀ {ts:List Tok} {p:Nat},zvy s p ts→∀ t∈ts,t.from_ < s.size∧xcb (ybd s t.from_)=.ok (t.kind,t.to - t.from_,t.num)∧t.from_ < t.to∧t.to≤s.size∧yni false (ybd s t.from_)=0:=by
 intro ts
 induction ts with
 | nil=>intro p _ t ht;cases ht
 | cons u ts ih=>
  intro p h t ht
  cases ht with
  | head=>
   obtain ⟨h2,h3,h4,h7,h5,h6,_⟩:=h
   refine ⟨h4,h7,h5,h6,?_⟩
   rw [h3,← zgq]
   refine skip_drop _ false ?_
   rw [zgq,← h3]
   intro h8
   rw [bytesFrom_nil_iff] at h8;omega
  | tail _ ht=>exact ih h.tail t ht
end
section
open Go.RowKit
variable {nm:Bs→Bool} {names:List Bs}
inductive Scans:Bs→List PW→Prop
 | nil {l:Bs} (h:l.drop (yni false l)=[]):Scans l []
 | cons {l y r:Bs} {k v:Nat} {ws:List PW} (h:l.drop (yni false l)=y++r) (hy:y≠[]) (ht:xcb (y++r)=.ok (k,y.length,v)) (hr:Scans r ws):Scans l (⟨y,k,v⟩::ws)
def WordOk (w:Bs):Prop:=w.length≤24∧(∀ c∈w,ytq c=true)∧∃ c x,w=c::x∧ylg c=true
end
section
open Go.RowKit
namespace Ex
def op:Ex→Int
 | lf t=>t.1
 | un t _=>t.1
 | bi t _ _=>t.1
 | tr t _ _ _=>t.1
end Ex
variable {names:List Bs}
end
section
variable {nm:Bs→Bool} {names:List Bs}
def Like (r r':List PW):Prop:=r'.head?=r.head?∨r'=[]
def EndR (y:Option Res):Prop:=y=none∨(∃ x,y=some (.ok x []))∨y=some (.bad 4 [])
def Res.rest:Res→List PW
 | .ok _ r=>r
 | .bad _ r=>r
def Cut (F:List PW→Option Res) (ts:List PW):Res→Prop
 | .ok e r=>∀ p,ts=p++r→∀ r',Like r r'→F (p++r')=some (.ok e r')
 | .bad c r=>r≠[]→∀ p,ts=p++r→(∀ r',r'.head?=r.head?→F (p++r')=some (.bad c r'))∧EndR (F p)
def xce (F:List PW→Option Res):Prop:=∀ ts res,F ts=some res→res.rest <:+ ts∧Cut F ts res
inductive Looks (F:List PW→Option Res) (t:PW):Prop
 | takes (A:List PW→Option Res) (hA:xce A) (h:∀ r,F (t::r)=A r):Looks F t
 | fails (c:Int) (h:∀ r,F (t::r)=some (.bad c (t::r))):Looks F t
 | leaves (B:List PW→Option Res) (hB:xce B) (h0:F []=B []) (h:∀ r,F (t::r)=B (t::r)):Looks F t
end
section
open Go.RowKit
variable {nm:Bs→Bool} {names:List Bs}
def zyf (nm:Bs→Bool) (names:List Bs):Bool:=decide (names.length≤6) && (names.all nm && decide names.Nodup)
structure NmW (nm:Bs→Bool):Prop where
 word:∀ w,nm w=true→WordOk w
 res:∀ w,nm w=true→zsb w=0∧xbk w=0∧zsh w=0∧w≠[113]∧w≠[40]∧w≠[45]∧w≠[33]
theorem zby (h:zyf nm names=true):names.length≤6∧(∀ w∈names,nm w=true)∧names.Nodup:=by
 simp only [zyf,Bool.and_eq_true,decide_eq_true_eq,List.all_eq_true] at h
 exact h
theorem NmW.ok (hN:NmW nm) (h:zyf nm names=true):NmOk nm names:=⟨(zby h).2.1,(zby h).2.2,hN.res⟩
end
set_option maxHeartbeats 4000000
section
open Go.RowKit
theorem zsl {d id:Nat} {xs:List AV} {h:List (Nat × Option LObj)} (h1:Nat.beq d id=false) (h2:ment.mentL d xs=false) (hf:ybr d h=true):ybr d ((id,some (.cells xs))::h)=true:=by
 simp [ybr,h1,hf,yez,h2]
theorem pureA_only {ids:List Nat}:∀ {x:AV},yap x=true→ydm ids x=true
 | .v _,_=>rfl
 | .any,_=>rfl
 | .one,_=>rfl
 | .sl _ _,_=>rfl
 | .dp _ _,_=>rfl
 | .mv _,_=>rfl
 | .agg cs,h=>rows (cs:=cs) h
 | .tup cs,h=>rows (cs:=cs) h
 | .fn _ cs,h=>rows (cs:=cs) h
 | .fm _ cs,h=>rows (cs:=cs) h
 where rows:∀ {cs:List AV},yap.pureL cs=true→ydm.onlyL ids cs=true
 | [],_=>rfl
 | c::cs,h=>by
  simp only [yap.pureL,Bool.and_eq_true] at h
  simp only [ydm.onlyL,pureA_only h.1,rows h.2,Bool.and_self]
section
variable {s:ByteArray} {ts ts':List Tok} {names:List Bs} {us:List Value}
variable {P:Program} {N:Nat} {ops:Array Oper} {lf:Oper→Bool} {Q:SS→Prop} {t:List (Nat × AV)} {h:List (Nat × Option LObj)} {rest:List Oper} {d:Nat} {ty:TypeId} {pos:String} {af:Array Edge} {gd:Option (Nat × Bool)}
end
section
variable {s:ByteArray} {ts:List Tok} {names:List Bs} {us:List Value}
end
end
section
open Go.RowKit
theorem recovered_nil:Con Tryz.prog 120 [.v .nilIface] (.tup [.agg [i64 0,i64 0],ybq false]):=by
 refine yge tok Tryz.func120 rfl rfl Tryz.ntmps120 Tryz.results120 rfl rfl ?_
 (repeat (first|refine zy ?_|refine yby (yield_eqNilYes (by kernel_rfl) rfl rfl) rfl rfl ?_))
 refine yaf ?_;refine ⟨_,rfl,?_⟩
 exact Frz.pure
def zzw (p e:Int):List (Nat × Option LObj):=[(1002,some (.cells [i64 p])),(1003,some (.cells [i64 e]))]
theorem cat_cl {p e p' e':Int}:∀ id o,hlook (zzw p' e') id=some o→isC o=true→14≤id∧∃ o',hlook (zzw p e) id=some o'∧isC o'=true:=by
 intro id o ho hc
 simp only [zzw,hlook] at ho ⊢
 cases h1:Nat.beq id 1002 with
 | true=>have:=Nat.eq_of_beq_eq_true h1;exact ⟨by omega,_,rfl,rfl⟩
 | false=>
  simp only [h1] at ho
  cases h2:Nat.beq id 1003 with
  | true=>have:=Nat.eq_of_beq_eq_true h2;exact ⟨by omega,_,rfl,rfl⟩
  | false=>simp only [h2] at ho;cases ho
theorem yvj (p e:Int):zza (KD Tryz.prog 119 .returning .returning) [.lp 1002 0,.lp 1003 0] (hlook (zzw p e)) (.tup []) (hlook (zzw p e)):=by
 refine conKD_recover (lf:=lfT) tok Tryz.func119 rfl Tryz.ntmps119 Tryz.results119 rfl cat_cl rfl rfl rfl (by decide) rfl .idle ?_
 show Lex _ _ _ _ _ _ (S _ _)
 (repeat (first|refine zy ?_|refine yad rfl rfl recovered_nil rfl rfl ?_))
 exact ⟨_,rfl,yfu _,yag (yab rfl (yab rfl yae))⟩
section
variable {g:FuncId} {caps:List AV} {hs hs':List (Nat × Option LObj)}
structure CatMem (g:FuncId) (caps:List AV) (hs hs':List (Nat × Option LObj)):Prop where
 keys:∀ i∈ych (hs++hs'),1000≤i
 caps:∀ i,i < 1000→ment.mentL i caps=false
 fresh:∀ i,i < 1000→ybr i hs=true
 fresh2:∀ i,i < 1000→ybr i hs'=true
 only:∀ id o,hlook hs' id=some o→ynf (ych (hs++hs')) o=true
theorem zgd {p e:Int} (h:∀ i∈ych hs,1000≤i):Ahead [(3,some (.cells [i64 e])),(2,some (.cells [i64 p]))] hs:=by
 refine ⟨fun i hi hm=>?_,fun j ob hj i hi=>?_⟩
 ·have:=h i hi
  simp [ych] at hm
  omega
 ·have:ob=.cells [i64 e]∨ob=.cells [i64 p]:=by
   simp only [hlook] at hj
   split at hj
   ·cases hj;exact .inl rfl
   ·split at hj
    ·cases hj;exact .inr rfl
    ·cases hj
  rcases this with rfl|rfl <;> rfl
theorem zwf {i:Nat} (h:i∈ybm [(1002,2),(1003,3)]):i < 1000:=by simp [ybm] at h;omega
theorem catch_ok (hc:ypt Tryz.prog g caps (hlook hs) (.tup []) (hlook hs')) (hm:CatMem g caps hs hs'):ypt Tryz.prog 67 [.fn g caps] (hlook hs) (.tup [i64 0,i64 0]) (hlook hs'):=by
 refine zmr tok Tryz.func67 rfl rfl Tryz.ntmps67 Tryz.results67 rfl (fun id o ho hi=>⟨?_,hc.2.1 id o ho hi⟩) ?_
 ·have:=hm.keys id (by simp only [ych,List.map_append,List.mem_append];exact .inr (ydx (by rw [ho];rfl)))
  omega
 show AF _ _ _ _ (S _ _)
 have f1:ydd 2 (yel 0 [AV.fn g caps])=true:=by
  show ydd 2 [(0,.fn g caps)]=true
  simp [ydd,ment,hm.caps 2 (by omega)]
 have f2:ydd 3 ((2,.lp 2 0)::yel 0 [AV.fn g caps])=true:=by
  show ydd 3 [(2,.lp 2 0),(0,.fn g caps)]=true
  simp [ydd,ment,hm.caps 3 (by omega)]
 refine zlw (zqw ?_)
 refine ycs (lf:=lfT) rfl ?_
 refine zA (h1:=f1) (h2:=hm.fresh 2 (by omega)) ?_
 refine zA (h1:=f2) (h2:=zsl rfl rfl (hm.fresh 3 (by omega))) ?_
 refine ycu ?_
 show AF _ _ _ _ (S _ _)
 refine zlw ?_
 refine ynk (lf:=lfT) 1 rfl rfl rfl rfl rfl rfl (fun d h=>by cases h) ?_
 refine zF ?_
 refine ycu ⟨rfl,_,_,_,⟨_,Tryz.func119,rfl,rfl⟩,rfl,rfl,fun x hx=>?_,?_⟩
 ·have:∀ y,look ((4,.fn 119 [.lp 2 0,.lp 3 0])::(3,.lp 3 0)::(2,.lp 2 0)::yel 0 [AV.fn g caps]) x≠some y:=fun y hy=>by
   simp only [look,yel] at hy
   (repeat' split at hy)
   all_goals first|(rename_i hb;have:=Nat.eq_of_beq_eq_true hb;omega)|cases hy
  cases hq:look ((4,.fn 119 [.lp 2 0,.lp 3 0])::(3,.lp 3 0)::(2,.lp 2 0)::yel 0 [AV.fn g caps]) x with
  | none=>exact hq
  | some y=>exact absurd hq (this y)
 show Lex _ _ _ _ _ [] _
 refine .nil ?_
 show A _ _ _ _ _
 refine ynm (s':=S [(0,.fn g caps),(2,.lp 2 0),(3,.lp 3 0),(1000000,.lp 2 0),(1000001,.lp 3 0)] _) ?_ ⟨zab ⟨rfl,rfl,rfl,rfl,rfl,trivial⟩,fun id x h=>h⟩
 have hk0:=hm.keys
 have hbig:∀ i,i < 1000→∀ j∈ych (hs++hs'),Nat.beq i j=false:=fun i hi j hj=>yck (by have:=hk0 j hj;omega)
 refine yco ?_
 refine ycs (lf:=lfT) rfl ?_
 refine zC ?_
 refine L_callI (pre:=[_,_]) (xs:=[]) (t':=[(2,.lp 2 0),(3,.lp 3 0),(1000000,.lp 2 0),(1000001,.lp 3 0)]) hc rfl rfl rfl (zgd hk0) hm.only (fun x y hy=>⟨ybv (by exact zs) x y hy,fun i hi=>?_⟩) rfl rfl rfl ?_
 ·simp only [look] at hy
  (repeat' split at hy)
  all_goals first|(cases hy;exact hbig _ (by omega) i hi)|cases hy
 (try refine zy ?_)
 refine yaf ?_
 refine zbo (h':=hs') (args0:=[.lp 1002 0,.lp 1003 0]) [(1002,2),(1003,3)] rfl rfl rfl ⟨rfl,rfl,trivial⟩ (yvj 0 0) rfl rfl rfl rfl (yab rfl (yab rfl yae)) rfl (fun j ob hj hob=>⟨fun i hi=>(yef (hm.fresh2 i (zwf hi))).2 j ob hob,ob,?_,.inl rfl⟩) rfl (yfu _) (fun id o ho=>?_)
 ·refine (yib (f:=[(3,_),(2,_),(3,_),(2,_)]) ?_).trans hob
  simp [ych,ybm] at hj ⊢
  omega
 ·refine (yib (f:=ylp _ _ _) ?_).trans ho
  have:=hk0 id (by simp only [ych,List.map_append,List.mem_append];exact .inr (ydx (by rw [ho];rfl)))
  simp [ych,ylp]
  omega
theorem catchm_ok (hc:ypt Tryz.prog g caps (hlook hs) (.tup []) (hlook hs')) (hm:CatMem g caps hs hs'):ypt Tryz.prog 67 [.fm g caps] (hlook hs) (.tup [i64 0,i64 0]) (hlook hs'):=by
 refine zmr tok Tryz.func67 rfl rfl Tryz.ntmps67 Tryz.results67 rfl (fun id o ho hi=>⟨?_,hc.2.1 id o ho hi⟩) ?_
 ·have:=hm.keys id (by simp only [ych,List.map_append,List.mem_append];exact .inr (ydx (by rw [ho];rfl)))
  omega
 show AF _ _ _ _ (S _ _)
 have f1:ydd 2 (yel 0 [AV.fm g caps])=true:=by
  show ydd 2 [(0,.fm g caps)]=true
  simp [ydd,ment,hm.caps 2 (by omega)]
 have f2:ydd 3 ((2,.lp 2 0)::yel 0 [AV.fm g caps])=true:=by
  show ydd 3 [(2,.lp 2 0),(0,.fm g caps)]=true
  simp [ydd,ment,hm.caps 3 (by omega)]
 refine zlw (zqw ?_)
 refine ycs (lf:=lfT) rfl ?_
 refine zA (h1:=f1) (h2:=hm.fresh 2 (by omega)) ?_
 refine zA (h1:=f2) (h2:=zsl rfl rfl (hm.fresh 3 (by omega))) ?_
 refine ycu ?_
 show AF _ _ _ _ (S _ _)
 refine zlw ?_
 refine ynk (lf:=lfT) 1 rfl rfl rfl rfl rfl rfl (fun d h=>by cases h) ?_
 refine zF ?_
 refine ycu ⟨rfl,_,_,_,⟨_,Tryz.func119,rfl,rfl⟩,rfl,rfl,fun x hx=>?_,?_⟩
 ·have:∀ y,look ((4,.fn 119 [.lp 2 0,.lp 3 0])::(3,.lp 3 0)::(2,.lp 2 0)::yel 0 [AV.fm g caps]) x≠some y:=fun y hy=>by
   simp only [look,yel] at hy
   (repeat' split at hy)
   all_goals first|(rename_i hb;have:=Nat.eq_of_beq_eq_true hb;omega)|cases hy
  cases hq:look ((4,.fn 119 [.lp 2 0,.lp 3 0])::(3,.lp 3 0)::(2,.lp 2 0)::yel 0 [AV.fm g caps]) x with
  | none=>exact hq
  | some y=>exact absurd hq (this y)
 show Lex _ _ _ _ _ [] _
 refine .nil ?_
 show A _ _ _ _ _
 refine ynm (s':=S [(0,.fm g caps),(2,.lp 2 0),(3,.lp 3 0),(1000000,.lp 2 0),(1000001,.lp 3 0)] _) ?_ ⟨zab ⟨rfl,rfl,rfl,rfl,rfl,trivial⟩,fun id x h=>h⟩
 have hk0:=hm.keys
 have hbig:∀ i,i < 1000→∀ j∈ych (hs++hs'),Nat.beq i j=false:=fun i hi j hj=>yck (by have:=hk0 j hj;omega)
 refine yco ?_
 refine ycs (lf:=lfT) rfl ?_
 refine zC ?_
 refine L_callIm (pre:=[_,_]) (t':=[(2,.lp 2 0),(3,.lp 3 0),(1000000,.lp 2 0),(1000001,.lp 3 0)]) hc rfl rfl (zgd hk0) hm.only (fun x y hy=>⟨ybv (by exact zs) x y hy,fun i hi=>?_⟩) rfl rfl rfl ?_
 ·simp only [look] at hy
  (repeat' split at hy)
  all_goals first|(cases hy;exact hbig _ (by omega) i hi)|cases hy
 (try refine zy ?_)
 refine yaf ?_
 refine zbo (h':=hs') (args0:=[.lp 1002 0,.lp 1003 0]) [(1002,2),(1003,3)] rfl rfl rfl ⟨rfl,rfl,trivial⟩ (yvj 0 0) rfl rfl rfl rfl (yab rfl (yab rfl yae)) rfl (fun j ob hj hob=>⟨fun i hi=>(yef (hm.fresh2 i (zwf hi))).2 j ob hob,ob,?_,.inl rfl⟩) rfl (yfu _) (fun id o ho=>?_)
 ·refine (yib (f:=[(3,_),(2,_),(3,_),(2,_)]) ?_).trans hob
  simp [ych,ybm] at hj ⊢
  omega
 ·refine (yib (f:=ylp _ _ _) ?_).trans ho
  have:=hk0 id (by simp only [ych,List.map_append,List.mem_append];exact .inr (ydx (by rw [ho];rfl)))
  simp [ych,ylp]
  omega
end
end
section
open Go.RowKit
theorem zeq {i:Nat}:∀ (x:AV),ment i x=true→i∈zhh x
 | .v _,h=>by simp [ment] at h
 | .any,h=>by simp [ment] at h
 | .one,h=>by simp [ment] at h
 | .sl _ _,h=>by simp [ment] at h
 | .dp _ _,h=>by simp [ment] at h
 | .mv _,h=>by simp [ment] at h
 | .lp j o,h=>by simp only [zhh,List.mem_singleton];exact (Nat.eq_of_beq_eq_true h).symm
 | .ls j _ _,h=>by simp only [zhh,List.mem_singleton];exact (Nat.eq_of_beq_eq_true h).symm
 | .mp j,h=>by simp only [zhh,List.mem_singleton];exact (Nat.eq_of_beq_eq_true h).symm
 | .agg cs,h=>by simpa [zhh] using rows cs (by simpa [ment] using h)
 | .tup cs,h=>by simpa [zhh] using rows cs (by simpa [ment] using h)
 | .fn _ cs,h=>by simpa [zhh] using rows cs (by simpa [ment] using h)
 | .fm _ cs,h=>by simpa [zhh] using rows cs (by simpa [ment] using h)
 where rows:∀ (cs:List AV),ment.mentL i cs=true→i∈zhh.idsL cs
 | [],h=>by simp [ment.mentL] at h
 | c::cs,h=>by
  simp only [ment.mentL,Bool.or_eq_true] at h
  simp only [zhh.idsL,List.mem_append]
  exact h.imp (zeq c) (rows cs)
def xbn (l:List Nat):Bool:=l.all fun i=>Nat.ble 1000 i
def zya:HL→Bool
 | []=>true
 | (i,o)::l=>Nat.ble 1000 i && ((match o with
  | some o=>xbn (xbd o)
  | none=>true) && zya l)
theorem zml {l:List Nat} {i:Nat} (h:xbn l=true) (hi:i < 1000):i ∉ l:=fun hm=>by
 have:=List.all_eq_true.1 h i hm
 simp only [Nat.ble_eq] at this
 omega
theorem mentO_ids {i:Nat} {o:LObj} (h:yez i o=true):i∈xbd o:=by
 cases o <;> simp only [yez,xbd] at h ⊢ <;> first|exact zeq.rows _ h|cases h
theorem yty {i:Nat} (hi:i < 1000):∀ {l:HL},zya l=true→ybr i l=true
 | [],_=>rfl
 | (k,o)::l,h=>by
  simp only [zya,Bool.and_eq_true,Nat.ble_eq] at h
  have ih:=yty hi h.2.2
  have hk:Nat.beq i k=false:=yck (by omega)
  simp only [ybr,hk]
  cases o with
  | none=>exact ih
  | some o=>
   cases hm:yez i o with
   | true=>exact absurd (mentO_ids hm) (zml h.2.1 hi)
   | false=>simp only [hm];exact ih
def zob (ks:List Nat):HL→Bool
 | []=>true
 | (_,o)::l=>(match o with
  | some o=>ynf ks o
  | none=>true) && zob ks l
theorem zif {ks:List Nat}:∀ {l:HL},zob ks l=true→∀ id o,hlook l id=some o→ynf ks o=true
 | [],_,id,o,h=>by simp [hlook] at h
 | (k,x)::l,hb,id,o,h=>by
  simp only [zob,Bool.and_eq_true] at hb
  simp only [hlook] at h
  cases he:Nat.beq id k with
  | true=>rw [he] at h;simp only at h;subst h;exact hb.1
  | false=>rw [he] at h;exact zif hb.2 id o h
def xaw (caps:List AV) (hs hs':HL):Bool:=zya hs && (zya hs' && (xbn (zhh.idsL caps) && zob (ych (hs++hs')) hs'))
theorem zrx {g:FuncId} {caps:List AV} {hs hs':HL} (h:xaw caps hs hs'=true):CatMem g caps hs hs':=by
 simp only [xaw,Bool.and_eq_true] at h
 obtain ⟨h1,h2,h3,h4⟩:=h
 have key:∀ {l:HL},zya l=true→∀ i∈ych l,1000≤i:=by
  intro l
  induction l with
  | nil=>intro _ i hi;simp [ych] at hi
  | cons a l ih=>
   obtain ⟨k,o⟩:=a
   intro hb i hi
   simp only [zya,Bool.and_eq_true,Nat.ble_eq] at hb
   simp only [ych,List.map_cons,List.mem_cons] at hi
   rcases hi with rfl|hi
   ·exact hb.1
   ·exact ih hb.2.2 i hi
 refine ⟨fun i hi=>?_,fun i hi=>?_,fun i hi=>yty hi h1,fun i hi=>yty hi h2,zif h4⟩
 ·rw [ych,List.map_append,List.mem_append] at hi
  exact hi.elim (key h1 i) (key h2 i)
 ·cases hm:ment.mentL i caps with
  | false=>rfl
  | true=>exact absurd (zeq.rows _ hm) (zml h3 hi)
def klC (K:Calls0) (f:FuncId) (xs:List AV) (hs:HL):Option (AV × HL):=
 match Nat.beq f 67 with
 | true=>match xs with
  | [.fn g caps]=>match K.lent g caps hs with
   | some (.tup [],hs')=>match xaw caps hs hs' with
    | true=>some (.tup [i64 0,i64 0],hs')
    | false=>none
   | _=>none
  | [.fm g caps]=>match K.lent g caps hs with
   | some (.tup [],hs')=>match xaw caps hs hs' with
    | true=>some (.tup [i64 0,i64 0],hs')
    | false=>none
   | _=>none
  | _=>none
 | false=>none
theorem klC_ok (K:Calls0) (hK:CallsOk Tryz.prog K) (f:FuncId) (xs:List AV) (hs:HL) (r:AV) (hs':HL) (h:klC K f xs hs=some (r,hs')):ypt Tryz.prog f xs (hlook hs) r (hlook hs'):=by
 unfold klC at h
 split at h
 ·rename_i hf
  rw [Nat.eq_of_beq_eq_true hf]
  split at h
  ·split at h
   ·rename_i q hc
    split at h
    ·rename_i hb
     simp only [Option.some.injEq,Prod.mk.injEq] at h
     obtain ⟨rfl,rfl⟩:=h
     exact catch_ok (hK.lent _ _ _ _ _ hc) (zrx hb)
    ·cases h
   ·cases h
  ·split at h
   ·rename_i q hc
    split at h
    ·rename_i hb
     simp only [Option.some.injEq,Prod.mk.injEq] at h
     obtain ⟨rfl,rfl⟩:=h
     exact catchm_ok (hK.lent _ _ _ _ _ hc) (zrx hb)
    ·cases h
   ·cases h
  ·cases h
 ·cases h
end
section
open Go.RowKit
theorem getN' {α:Type} {l:List α} {k:Nat} (h:k < l.length):∃ x,l[k]?=some x:=⟨_,List.getElem?_eq_getElem h⟩
theorem A_matVec {P:Program} {N:Nat} {c:Code} {Q:Exit→SS→Prop} {t:List (Nat × AV)} {h:List (Nat × Option LObj)} (id:Nat) {xs:List AV} (hx:hlook h id=some (.mcells xs)) (hp:∀ y∈xs,yap y=true) (k:A P N c Q (S t ((id,some (.vec xs))::h))):A P N c Q (S t h):=by
 intro B ok0 lv a w hs
 refine k B ok0 lv a w ⟨⟨hs.inv.base,hs.inv.ok0lt,fun j hj=>?_,hs.inv.inj,fun j x hj=>?_⟩,hs.size,hs.frame,hs.defers,hs.big,fun j b ws hN hj hc hb=>?_⟩
 ·refine hs.inv.dom j ?_
  simp only [S,hlook] at hj ⊢
  split at hj
  ·cases hj
  ·exact hj
 ·simp only [S,hlook] at hj
  split at hj
  ·rename_i hb
   cases hj
   have e:=Nat.eq_of_beq_eq_true hb
   subst e
   obtain ⟨b,n,h1,h2⟩:=hs.inv.obj j _ hx
   refine ⟨b,n,h1,?_⟩
   cases b with
   | none=>simp [yfb] at h2
   | some b=>exact ⟨h2.1,h2.2.1,h2.2.2,hp⟩
  ·exact hs.inv.obj j x hj
 ·simp only [S,hlook] at hj
  split at hj
  ·cases hj;cases hc
  ·exact hs.pin j b ws hN hj hc hb
theorem leaf_own (op a:Int):ypt Tryz.prog 263 [i64 op,i64 a] (hlook []) (.ls 1002 2 1) (hlook [(1002,some (.vec [i64 op,i64 a]))]):=by
 refine yud tok Tryz.func263 rfl rfl Tryz.ntmps263 Tryz.results263 rfl (fun id o ho hc=>?_) ?_
 ·simp only [hlook] at ho
  cases h1:Nat.beq id 1002 with
  | true=>simp only [h1,Option.some.injEq] at ho;subst ho;cases hc
  | false=>simp only [h1] at ho;cases ho
 show A _ _ _ _ (S _ _)
 refine zt ?_;refine ycs (lf:=lfT) rfl ?_
 (try refine zo ?_)
 refine zt ?_;refine ycs (lf:=lfT) rfl ?_
 (repeat (first|refine zC ?_|refine zU ?_))
 refine L_buildM tok 1002 rfl rfl rfl rfl rfl rfl ⟨rfl,fun x y h=>?_,fun j ob h=>by cases h⟩ rfl rfl rfl rfl ?_
 ·exact (ymp (id:=1002) rfl) x y h
 (try refine zo ?_)
 refine zt ?_
 refine A_matVec 1002 rfl (by intro y hy;simp [ygr,yke] at hy;rcases hy with rfl|rfl <;> rfl) ?_
 refine yaf ?_
 exact ⟨_,rfl,yfu _,yag (yab rfl yae)⟩
theorem terms_flat (l:List Tm):(l.map yjl).flatten.length=l.length * 2:=by
 induction l with
 | nil=>rfl
 | cons t l ih=>simp only [List.map_cons,List.flatten_cons,List.length_append,ih,List.length_cons,yjl,List.length_nil];omega
theorem zdd (l:List Tm):∀ c∈(l.map yjl).flatten,yap c=true:=by
 intro c hc
 simp only [List.mem_flatten,List.mem_map] at hc
 obtain ⟨r,⟨t,_,rfl⟩,hc⟩:=hc
 simp only [yjl,List.mem_cons,List.not_mem_nil,or_false] at hc
 rcases hc with rfl|rfl <;> rfl
def zdu (es:List (List Tm)):AV:=.sl 1 (es.map fun e=>[ygw e])
theorem operation_con (op:Int) (es:List (List Tm)) (hl:es.length≤10) (h1:es.flatten.length≤1000000):Con Tryz.prog 234 [i64 op,zdu es] (ygw ((op,0)::es.flatten)):=by
 refine yao Tryz.func234 rfl rfl Tryz.ntmps234 Tryz.results234 rfl rfl ?_
 refine zt ?_;refine ycs (lf:=lfT) rfl ?_
 (try refine zo ?_)
 refine zt ?_;refine ycs (lf:=lfT) rfl ?_
 (try refine zo ?_)
 refine yxp [(1002,9)] (leaf_own op 0) rfl rfl rfl rfl rfl rfl rfl (yae) rfl rfl rfl rfl rfl rfl ?_
 (try refine zo ?_)
 (try refine zy ?_)
 refine yeu (α:=Nat) (fun k=>[(5,.ls 9 2 (1+(es.take k).flatten.length)),(12,i64 (k:Int)),(11,i64 (es.length:Int)),(10,zdu es)]) (fun k=>[(9,some (.vec ((((op,0)::(es.take k).flatten).map yjl).flatten)))]) (fun k=>es.length - k) (fun k=>k≤es.length) 0 (by omega) (by exact zs) (yab rfl yae) ?_
 intro k hk
 (try refine zy ?_)
 refine yac rfl (fun h2=>?_) (fun h2=>?_)
 ·have h2:k < es.length:=by simpa using h2
  obtain ⟨e,he⟩:=getN' h2
  have hfl:(es.take (k+1)).flatten=(es.take k).flatten++e:=by
   rw [List.take_add_one,he];simp
  have hle:(es.take (k+1)).flatten.length≤es.flatten.length:=by
   conv=>rhs;rw [← List.take_append_drop (k+1) es,List.flatten_append,List.length_append]
   omega
  rw [hfl,List.length_append] at hle
  (try refine zy ?_)
  refine L_appendV tok (id:=9) (t':=[(12,i64 (k:Int)),(11,i64 (es.length:Int)),(10,zdu es)]) rfl rfl (by rw [terms_flat];simp;omega) rfl (zdd e) (by rw [List.length_map];constructor <;> omega) (by (repeat (first|exact subTM_nil|refine subTM_cons rfl rfl ?_))) rfl rfl rfl rfl ?_
  (try refine zy ?_)
  have e1:1+(es.take k).flatten.length+(e.map yjl).length=1+(es.take (k+1)).flatten.length:=by rw [hfl,List.length_append,List.length_map];omega
  have e2:(((op,0)::(es.take k).flatten).map yjl).flatten++(e.map yjl).flatten=(((op,0)::(es.take (k+1)).flatten).map yjl).flatten:=by rw [hfl];simp
  rw [e1,e2]
  exact rnd (k+1) (by omega) (by omega) (by exact zs) (yab rfl yae)
 ·have h2:es.length≤k:=by simpa using h2
  rw [List.take_of_length_le h2]
  (try refine zy ?_)
  refine yaf ?_;refine ⟨_,rfl,?_⟩
  refine Frz.ls rfl (by rw [List.length_map,List.length_cons];omega) (fun row hr=>by obtain ⟨t,_,rfl⟩:=List.mem_map.1 hr;rfl) rfl fun x hx i=>yap.ment (zdd ((op,0)::es.flatten) x hx)
end
section
open Go.RowKit
def zzl:List (List AV)→Option (List Tm)
 | []=>some []
 | [.v (.int .i64 a),.v (.int .i64 b)]::l=>match zzl l with
  | some r=>some ((a,b)::r)
  | none=>none
 | _=>none
theorem zlr:∀ {l:List (List AV)} {r:List Tm},zzl l=some r→l=r.map yjl
 | [],r,h=>by simp only [zzl,Option.some.injEq] at h;subst h;rfl
 | x::l,r,h=>by
  unfold zzl at h
  split at h
  ·rename_i e;cases e
  ·rename_i a b l' e
   cases e
   split at h
   ·rename_i r' hr
    simp only [Option.some.injEq] at h
    subst h
    rw [zlr hr];rfl
   ·cases h
  ·cases h
def zzz:List (List AV)→Option (List (List Tm))
 | []=>some []
 | [.sl 2 rows]::l=>match zzl rows,zzz l with
  | some e,some r=>some (e::r)
  | _,_=>none
 | _=>none
theorem zsg:∀ {l:List (List AV)} {r:List (List Tm)},zzz l=some r→l=r.map fun e=>[ygw e]
 | [],r,h=>by simp only [zzz,Option.some.injEq] at h;subst h;rfl
 | x::l,r,h=>by
  unfold zzz at h
  split at h
  ·rename_i e;cases e
  ·rename_i rows l' e
   cases e
   split at h
   ·rename_i e r' h1 h2
    simp only [Option.some.injEq] at h
    subst h
    rw [zsg h2,zlr h1];rfl
   ·cases h
  ·cases h
def knO (f:FuncId) (xs:List AV):Option AV:=
 match Nat.beq f 234 with
 | true=>match xs with
  | [.v (.int .i64 op),.sl 1 rows]=>match zzz rows with
   | some es=>match Nat.ble es.length 10 && Nat.ble es.flatten.length 1000000 with
    | true=>some (ygw ((op,0)::es.flatten))
    | false=>none
   | none=>none
  | _=>none
 | false=>knI f xs
theorem knO_ok (f:FuncId) (xs:List AV) (r:AV) (h:knO f xs=some r):Con Tryz.prog f xs r:=by
 unfold knO at h
 split at h
 ·rename_i hf
  split at h
  ·rename_i op rows
   split at h
   ·rename_i es he
    split at h
    ·rename_i hb
     simp only [Bool.and_eq_true,Nat.ble_eq] at hb
     simp only [Option.some.injEq] at h
     subst h
     rw [Nat.eq_of_beq_eq_true hf,zsg he]
     exact operation_con op es hb.1 hb.2
    ·cases h
   ·cases h
  ·cases h
 ·exact knI_ok _ _ _ h
end
section
open Go.RowKit
def colT:Bs:=[112,114,111,103,114,97,109,32,99,111,108,111,117,114,115,59,32,118,97,114,32,99,32,58,32,48,32,46,46,32,110,59,32,114,117,108,101,32,102,105,120,58,32,115,111,109,101,40,113,46,99,32,61,61,32,99,41,32,45,62,32,99,32,58,61,32,109,101,120,40,113,46,99,41,59]
def ynv:ProgD:={ name:=ba [99,111,108,111,117,114,115],vars:=[{ name:=ba [99],kind:=1,lo:=0,hi:=0,perNode:=1,perID:=0 }],rules:=[{ name:=ba [102,105,120],guard:=[(21,0),(35,0),(12,0),(5,0)],sets:=[{ var:=0,val:=[(27,0),(12,0)] }] }] }
theorem zgp:zsy ynv=true:=by kernel_rfl
theorem zmq:zbc ynv:=by
 refine ⟨by (try unfold ytr);decide,fun x hx=>?_,fun r hr=>?_⟩
 ·simp only [ynv,List.mem_cons,List.not_mem_nil,or_false] at hx
  subst hx
  exact ⟨by (try unfold ytr);decide,by (try unfold ytr);decide,by (try unfold ytr);decide,by (try unfold ytr);decide,by (try unfold ytr);decide,by (try unfold ytr);decide⟩
 ·simp only [ynv,List.mem_cons,List.not_mem_nil,or_false] at hr
  subst hr
  refine ⟨by (try unfold ytr);decide,fun t ht=>?_,fun s hs=>?_⟩
  ·simp only [List.mem_cons,List.not_mem_nil,or_false] at ht
   rcases ht with rfl|rfl|rfl|rfl <;> exact ⟨by (try unfold ytr);decide,by (try unfold ytr);decide⟩
  ·simp only [List.mem_cons,List.not_mem_nil,or_false] at hs
   subst hs
   refine ⟨by (try unfold ytr);decide,fun t ht=>?_⟩
   simp only [List.mem_cons,List.not_mem_nil,or_false] at ht
   rcases ht with rfl|rfl <;> exact ⟨by (try unfold ytr);decide,by (try unfold ytr);decide⟩
def zzc:RuleD:={ name:=ba [102,105,120],guard:=[(21,0),(35,0),(12,0),(5,0)],sets:=[{ var:=0,val:=[(27,0),(12,0)] }] }
theorem colnamed_con:Con Tryz.prog 128 [zau ynv] (ybq true):=by
 have:=ygj (P:=Tryz.prog) (f:=128) (args:=[zau ynv]) (x:=.bool (yeq ynv)) ⟨_,Tryz.func128,rfl,rfl⟩ fun w us ok hok hr=>by
  obtain ⟨u,rfl,h1⟩:=ztw hr
  exact yzc u ynv w (yzs h1 hok) zmq (by decide) (by decide)
 rwa [show yeq ynv=true by kernel_rfl] at this
theorem colformed_con:Con Tryz.prog 130 [.agg (yhk zzc),i64 1] (ybq true):=by
 have:=ygj (P:=Tryz.prog) (f:=130) (args:=[.agg (yhk zzc),i64 1]) (x:=.bool (ydc zzc (1:Nat))) ⟨_,Tryz.func130,rfl,rfl⟩ fun w us ok hok hr=>by
  obtain ⟨u,v,rfl,h1,h2⟩:=yrb hr
  cases h2
  cases h1 with
  | agg vs hl hc hr'=>
   obtain ⟨u,gv,sv,rfl,q1,q2,q3⟩:=zlf ⟨hl,hr'⟩
   rw [yfg q1]
   exact yug gv sv zzc 1 w (ygo q2 hok) (ymd q3 hok fun y _ cs hr=>by
    obtain ⟨u,tv,rfl,r1,r2⟩:=yrb hr
    rw [yfg r1]
    exact ⟨tv,rfl,ygo r2 hok⟩) (zmq.2.2 _ (List.mem_singleton.2 rfl)) ⟨by decide,by decide,fun s hs=>by
     obtain rfl:=List.mem_singleton.1 hs
     decide⟩ (by decide)
 rwa [show ydc zzc (1:Nat)=true by kernel_rfl] at this
theorem colvalid_con (l:List Tm) (n:Int) (hl:l.length≤1000):Con Tryz.prog 112 [ygw l,i64 n] (ybq (yed l n)):=
 ygj ⟨_,Tryz.func112,rfl,rfl⟩ fun w us ok hok hr=>by
  obtain ⟨u,v,rfl,h1,h2⟩:=yrb hr
  cases h2
  exact yif u l n w hl (Lib.hid (ygo h1 hok))
def isChk (f:FuncId):Bool:=Nat.beq f 69
def isMap (f:FuncId):Bool:=Nat.beq f 128 || Nat.beq f 130
def knC (f:FuncId) (xs:List AV):Option AV:=
 match isMap f with
 | true=>match (Nat.beq f 128 && eqA.eqL xs [zau ynv]) || (Nat.beq f 130 && eqA.eqL xs [.agg (yhk zzc),i64 1]) with
  | true=>some (ybq true)
  | false=>none
 | false=>match Nat.beq f 112 with
  | true=>match xs with
   | [.sl 2 rows,.v (.int .i64 n)]=>match zzl rows with
    | some l=>match Nat.ble l.length 1000 with
     | true=>some (ybq (yed l n))
     | false=>none
    | none=>none
   | _=>none
  | false=>knO f xs
theorem knC_ok (f:FuncId) (xs:List AV) (r:AV) (h:knC f xs=some r):Con Tryz.prog f xs r:=by
 unfold knC at h
 split at h
 ·split at h
  ·rename_i he
   simp only [Option.some.injEq] at h
   subst h
   simp only [Bool.or_eq_true,Bool.and_eq_true] at he
   rcases he with ⟨h1,h2⟩|⟨h1,h2⟩
   ·rw [Nat.eq_of_beq_eq_true h1,zbp.row _ _ h2]
    exact colnamed_con
   ·rw [Nat.eq_of_beq_eq_true h1,zbp.row _ _ h2]
    exact colformed_con
  ·cases h
 ·split at h
  ·rename_i hf
   split at h
   ·rename_i rows n
    split at h
    ·rename_i l he
     split at h
     ·rename_i hb
      simp only [Option.some.injEq] at h
      subst h
      rw [Nat.eq_of_beq_eq_true hf,zlr he]
      exact colvalid_con l n (Nat.le_of_ble_eq_true hb)
     ·cases h
    ·cases h
   ·cases h
  ·exact knO_ok _ _ _ h
theorem yvk:Con Tryz.prog 27 [zqn (ba colT)] (.tup [zau ynv,i64 0,i64 0]):=
 con_run ysu tok knC_ok klC_ok (F:=1000) (fz:=isChk) 40 (by kernel_rfl)
end
section
open Go.RowKit
def rowX (tbl:List (List (Int × Int))) (p:ProgD) (g:GraphD) (c:List (List Int)) (v:Nat):List Int:=zyj p tbl ⟨g,c,v⟩ (zud p ⟨g,c,v⟩).toNat
def growX (tbl:List (List (Int × Int))) (p:ProgD) (g:GraphD) (c:List (List Int)) (v:Nat):Int:=if zds p g c v=true then ymq (c.getD v []) (rowX tbl p g c v) ((zay tbl 1).1.getD v []) p.vars.length else 0
def arcX (tbl:List (List (Int × Int))) (p:ProgD) (g:GraphD) (c:List (List Int)) (k:Nat) (B:BitVec 32):ArcD:=(B,k+zfu (growX tbl p g c) (ycg B))
def zxh (tbl:List (List (Int × Int))) (p:ProgD) (g:GraphD) (kind:Int) (c:List (List Int)) (k:Nat):Option (BitVec 32 × List ArcD):=(zqr g kind (ykl p g c)).map fun l=>(ykl p g c,l.map (arcX tbl p g c k))
def zzu (tbl:List (List (Int × Int))) (p:ProgD) (g:GraphD) (kind:Int):Nat→List (List Int)→Nat→Nat→Option SpcD
 | 0,_,_,_=>some []
 | m+1,c,k,T=>match zxh tbl p g kind c k with
  | none=>none
  | some x=>if 262144 < T+x.2.length then none else (zzu tbl p g kind m (yqe tbl c).2 (k+1) (T+x.2.length)).map (x::·)
theorem zru (p:ProgD) (g:GraphD) (kind:Int):∀ m k T,zgi p g kind m k T=zzu (yaj p g) p g kind m (yld (yaj p g) k) k T
 | 0,_,_=>rfl
 | m+1,k,T=>by
  have ih:=zru p g kind m (k+1)
  unfold zgi zzu
  rw [show zxh (yaj p g) p g kind (yld (yaj p g) k) k=ywa p g kind (yld (yaj p g) k) k from rfl]
  cases ywa p g kind (yld (yaj p g) k) k with
  | none=>rfl
  | some x=>simp only;rw [ih];rfl
def xbq (n N:Nat):Option SpcD→Bool
 | none=>false
 | some s=>okS n N s
theorem zry {n N:Nat} {o:Option SpcD} (h:xbq n N o=true):∃ s,o=some s∧OkS n N s:=by
 cases o with
 | none=>cases h
 | some s=>exact ⟨s,rfl,okS_ok h⟩
theorem yog {n v:Nat} {r:List Lk} (a b:Int) (h:ydz n v r=true) (hab:∀ x:Int,0≤x→x < n→x≠v→x=a∨x=b):r=[]∨(∃ w,r=[(a,w)])∨(∃ w,r=[(b,w)])∨(∃ w x,r=[(a,w),(b,x)])∨∃ w x,r=[(b,w),(a,x)]:=by
 obtain ⟨h1,h2⟩:=(ybo _ _ _).1 h
 have hv:∀ l∈r,l.1=a∨l.1=b:=fun l hl=>by
  have:=(ybs _ _ _).1 (h1 l hl)
  exact hab l.1 this.1 this.2.1 this.2.2.1
 match r,h2,hv with
 | [],_,_=>exact .inl rfl
 | [(x,w)],_,hv=>
  rcases hv (x,w) (by simp) with e|e <;> simp only at e <;> subst e
  ·exact .inr (.inl ⟨w,rfl⟩)
  ·exact .inr (.inr (.inl ⟨w,rfl⟩))
 | [(x,w),(y,z)],h2,hv=>
  have hne:x≠y:=by simpa using h2
  rcases hv (x,w) (by simp) with e|e <;> rcases hv (y,z) (by simp) with e'|e' <;> simp only at e e'
  ·exact absurd (e.trans e'.symm) hne
  ·subst e e';exact .inr (.inr (.inr (.inl ⟨w,z,rfl⟩)))
  ·subst e e';exact .inr (.inr (.inr (.inr ⟨w,z,rfl⟩)))
  ·exact absurd (e.trans e'.symm) hne
 | (x,w)::(y,z)::(u,q)::r,h2,hv=>
  simp only [List.map_cons,List.nodup_cons,List.mem_cons,not_or] at h2
  rcases hv (x,w) (by simp) with e|e <;> rcases hv (y,z) (by simp) with e'|e' <;> rcases hv (u,q) (by simp) with e''|e'' <;> simp only at e e' e'' <;> omega
def zkl (r:List Lk) (u:Int):Bool:=r.any fun l=>l.1 == u
theorem zuq {ports:List (List Lk)} (hs:zyu ports=true) (hp:∀ (v:Nat) ls,ports[v]?=some ls→ydz ports.length v ls=true) {u v:Nat} {r q:List Lk} (hu:ports[u]?=some r) (hv:ports[v]?=some q):zkl r v=true→zkl q u=true:=by
 intro h
 unfold zkl at h
 obtain ⟨l,hl,he⟩:=List.any_eq_true.1 h
 have he:l.1=v:=by simpa using he
 have hw:=(ybs _ _ _).1 (((ybo _ _ _).1 (hp u r hu)).1 l hl)
 have:=(ytm _).1 hs u r hu l hl
 rw [he,Int.toNat_natCast,List.getD_eq_getElem?_getD,hv,Option.getD_some] at this
 unfold yey at this
 split at this
 ·rename_i x hx
  have h1:=List.find?_some hx
  have h2:=List.mem_of_find?_eq_some hx
  exact List.any_eq_true.2 ⟨x,h2,h1⟩
 ·omega
theorem zpg {ports:List (List Lk)} (hs:zyu ports=true) (hp:∀ (v:Nat) ls,ports[v]?=some ls→ydz ports.length v ls=true) {u v:Nat} {r q:List Lk} (hu:ports[u]?=some r) (hv:ports[v]?=some q):zkl r v=zkl q u:=by
 have h1:=zuq hs hp hu hv
 have h2:=zuq hs hp hv hu
 cases h:zkl r v
 ·cases h':zkl q u
  ·rfl
  ·rw [h2 h'] at h;cases h
 ·rw [h1 h]
def yws (n N:Nat) (tbl:List (List (Int × Int))) (c:List (List Int)) (g:GraphD):Bool:=xbq n N (zzu tbl ynv g 1 N c 0 0) && xbq n N (zzu tbl ynv g 2 N c 0 0)
theorem zkf {n N:Nat} {g:GraphD} (h:yws n N (yaj ynv g) (zvm (yaj ynv g)) g=true) (kind:Int) (hk:kind=1∨kind=2):∃ s,zgi ynv g kind N 0 0=some s∧OkS n N s:=by
 unfold yws at h
 rw [Bool.and_eq_true] at h
 rcases hk with rfl|rfl
 ·obtain ⟨s,h1,h2⟩:=zry h.1
  exact ⟨s,by rw [zru];exact h1,h2⟩
 ·obtain ⟨s,h1,h2⟩:=zry h.2
  exact ⟨s,by rw [zru];exact h1,h2⟩
theorem yya (g:GraphD):yaj ynv g=g.ports.map fun _=>[(0,(g.ports.length:Int))]:=by
 unfold yaj
 refine List.map_congr_left fun ls _=>?_
 simp [ynv,yba]
theorem col_one (ids:List Int):yws 1 2 [[(0,1)]] [[0]] ⟨ids,[[]]⟩=true:=by kernel_rfl
theorem col_two {ids:List Int} {r q:List Lk} (h1:ydz 2 0 r=true) (h2:ydz 2 1 q=true) (e:zkl r 1=zkl q 0):yws 2 9 [[(0,2)],[(0,2)]] [[0],[0]] ⟨ids,[r,q]⟩=true:=by
 have c1:r=[]∨∃ w,r=[(1,w)]:=by
  rcases yog 1 1 h1 (fun x _ _ _=>by omega) with h|h|h|⟨w,x,rfl⟩|⟨w,x,rfl⟩
  ·exact .inl h
  ·exact .inr h
  ·exact .inr h
  ·have:=((ybo _ _ _).1 h1).2;simp at this
  ·have:=((ybo _ _ _).1 h1).2;simp at this
 have c2:q=[]∨∃ w,q=[(0,w)]:=by
  rcases yog 0 0 h2 (fun x _ _ _=>by omega) with h|h|h|⟨w,x,rfl⟩|⟨w,x,rfl⟩
  ·exact .inl h
  ·exact .inr h
  ·exact .inr h
  ·have:=((ybo _ _ _).1 h2).2;simp at this
  ·have:=((ybo _ _ _).1 h2).2;simp at this
 clear h1 h2
 rcases c1 with rfl|⟨a,rfl⟩ <;> rcases c2 with rfl|⟨b,rfl⟩ <;> first
  | exact absurd (show true=false from e) (by decide)
  | exact absurd (show false=true from e) (by decide)
  | (show yws _ _ _ _ _=true;kernel_rfl)
theorem c3_1 (ids:List Int):yws 3 64 [[(0,3)],[(0,3)],[(0,3)]] [[0],[0],[0]] ⟨ids,[[],[],[]]⟩=true:=by kernel_rfl
theorem c3_2 (ids:List Int) (a b:Int):yws 3 64 [[(0,3)],[(0,3)],[(0,3)]] [[0],[0],[0]] ⟨ids,[[],[(2,a)],[(1,b)]]⟩=true:=by kernel_rfl
theorem c3_3 (ids:List Int) (a b:Int):yws 3 64 [[(0,3)],[(0,3)],[(0,3)]] [[0],[0],[0]] ⟨ids,[[(1,a)],[(0,b)],[]]⟩=true:=by kernel_rfl
theorem c3_4 (ids:List Int) (a b c d:Int):yws 3 64 [[(0,3)],[(0,3)],[(0,3)]] [[0],[0],[0]] ⟨ids,[[(1,a)],[(0,b),(2,c)],[(1,d)]]⟩=true:=by kernel_rfl
theorem c3_5 (ids:List Int) (a b c d:Int):yws 3 64 [[(0,3)],[(0,3)],[(0,3)]] [[0],[0],[0]] ⟨ids,[[(1,a)],[(2,b),(0,c)],[(1,d)]]⟩=true:=by kernel_rfl
theorem c3_6 (ids:List Int) (a b:Int):yws 3 64 [[(0,3)],[(0,3)],[(0,3)]] [[0],[0],[0]] ⟨ids,[[(2,a)],[],[(0,b)]]⟩=true:=by kernel_rfl
theorem c3_7 (ids:List Int) (a b c d:Int):yws 3 64 [[(0,3)],[(0,3)],[(0,3)]] [[0],[0],[0]] ⟨ids,[[(2,a)],[(2,b)],[(0,c),(1,d)]]⟩=true:=by kernel_rfl
theorem c3_8 (ids:List Int) (a b c d:Int):yws 3 64 [[(0,3)],[(0,3)],[(0,3)]] [[0],[0],[0]] ⟨ids,[[(2,a)],[(2,b)],[(1,c),(0,d)]]⟩=true:=by kernel_rfl
theorem c3_9 (ids:List Int) (a b c d:Int):yws 3 64 [[(0,3)],[(0,3)],[(0,3)]] [[0],[0],[0]] ⟨ids,[[(1,a),(2,b)],[(0,c)],[(0,d)]]⟩=true:=by kernel_rfl
theorem c3_10 (ids:List Int) (a b c d e f:Int):yws 3 64 [[(0,3)],[(0,3)],[(0,3)]] [[0],[0],[0]] ⟨ids,[[(1,a),(2,b)],[(0,c),(2,d)],[(0,e),(1,f)]]⟩=true:=by kernel_rfl
theorem c3_11 (ids:List Int) (a b c d e f:Int):yws 3 64 [[(0,3)],[(0,3)],[(0,3)]] [[0],[0],[0]] ⟨ids,[[(1,a),(2,b)],[(0,c),(2,d)],[(1,e),(0,f)]]⟩=true:=by kernel_rfl
theorem c3_12 (ids:List Int) (a b c d e f:Int):yws 3 64 [[(0,3)],[(0,3)],[(0,3)]] [[0],[0],[0]] ⟨ids,[[(1,a),(2,b)],[(2,c),(0,d)],[(0,e),(1,f)]]⟩=true:=by kernel_rfl
theorem c3_13 (ids:List Int) (a b c d e f:Int):yws 3 64 [[(0,3)],[(0,3)],[(0,3)]] [[0],[0],[0]] ⟨ids,[[(1,a),(2,b)],[(2,c),(0,d)],[(1,e),(0,f)]]⟩=true:=by kernel_rfl
theorem c3_14 (ids:List Int) (a b c d:Int):yws 3 64 [[(0,3)],[(0,3)],[(0,3)]] [[0],[0],[0]] ⟨ids,[[(2,a),(1,b)],[(0,c)],[(0,d)]]⟩=true:=by kernel_rfl
theorem c3_15 (ids:List Int) (a b c d e f:Int):yws 3 64 [[(0,3)],[(0,3)],[(0,3)]] [[0],[0],[0]] ⟨ids,[[(2,a),(1,b)],[(0,c),(2,d)],[(0,e),(1,f)]]⟩=true:=by kernel_rfl
theorem c3_16 (ids:List Int) (a b c d e f:Int):yws 3 64 [[(0,3)],[(0,3)],[(0,3)]] [[0],[0],[0]] ⟨ids,[[(2,a),(1,b)],[(0,c),(2,d)],[(1,e),(0,f)]]⟩=true:=by kernel_rfl
theorem c3_17 (ids:List Int) (a b c d e f:Int):yws 3 64 [[(0,3)],[(0,3)],[(0,3)]] [[0],[0],[0]] ⟨ids,[[(2,a),(1,b)],[(2,c),(0,d)],[(0,e),(1,f)]]⟩=true:=by kernel_rfl
theorem c3_18 (ids:List Int) (a b c d e f:Int):yws 3 64 [[(0,3)],[(0,3)],[(0,3)]] [[0],[0],[0]] ⟨ids,[[(2,a),(1,b)],[(2,c),(0,d)],[(1,e),(0,f)]]⟩=true:=by kernel_rfl
theorem col_three {ids:List Int} {r q p:List Lk} (h1:ydz 3 0 r=true) (h2:ydz 3 1 q=true) (h3:ydz 3 2 p=true) (e1:zkl r 1=zkl q 0) (e2:zkl r 2=zkl p 0) (e3:zkl q 2=zkl p 1):yws 3 64 [[(0,3)],[(0,3)],[(0,3)]] [[0],[0],[0]] ⟨ids,[r,q,p]⟩=true:=by
 have c1:=yog 1 2 h1 (fun x _ _ _=>by omega)
 have c2:=yog 0 2 h2 (fun x _ _ _=>by omega)
 have c3:=yog 0 1 h3 (fun x _ _ _=>by omega)
 clear h1 h2 h3
 rcases c1 with rfl|⟨a,rfl⟩|⟨a,rfl⟩|⟨a,b,rfl⟩|⟨a,b,rfl⟩ <;> rcases c2 with rfl|⟨c,rfl⟩|⟨c,rfl⟩|⟨c,d,rfl⟩|⟨c,d,rfl⟩ <;> first
  | exact absurd (show true=false from e1) (by decide)
  | exact absurd (show false=true from e1) (by decide)
  | (rcases c3 with rfl|⟨u,rfl⟩|⟨u,rfl⟩|⟨u,w,rfl⟩|⟨u,w,rfl⟩ <;> first
   | exact absurd (show true=false from e2) (by decide)
   | exact absurd (show false=true from e2) (by decide)
   | exact absurd (show true=false from e3) (by decide)
   | exact absurd (show false=true from e3) (by decide)
   | (with_reducible exact c3_1 ..)
   | (with_reducible exact c3_2 ..)
   | (with_reducible exact c3_3 ..)
   | (with_reducible exact c3_4 ..)
   | (with_reducible exact c3_5 ..)
   | (with_reducible exact c3_6 ..)
   | (with_reducible exact c3_7 ..)
   | (with_reducible exact c3_8 ..)
   | (with_reducible exact c3_9 ..)
   | (with_reducible exact c3_10 ..)
   | (with_reducible exact c3_11 ..)
   | (with_reducible exact c3_12 ..)
   | (with_reducible exact c3_13 ..)
   | (with_reducible exact c3_14 ..)
   | (with_reducible exact c3_15 ..)
   | (with_reducible exact c3_16 ..)
   | (with_reducible exact c3_17 ..)
   | (with_reducible exact c3_18 ..))
theorem col_sys {g:GraphD} (hv:ycy g=true) (h3:g.ports.length≤3) (kind:Int) (hk:kind=1∨kind=2):∃ (N:Nat) (s:SpcD),ykk (yaj ynv g)=((N:Int),0)∧zgi ynv g kind N 0 0=some s∧OkS g.ports.length N s:=by
 obtain ⟨v1,v2,v3,v4,v5,v6⟩:=(yhs g).1 hv
 obtain ⟨ids,ports⟩:=g
 have hp:=(ygm _).1 v5
 match ports,v1,h3,hp,v6 with
 | [r],_,_,hp,hs=>
  have hr:=hp 0 r rfl
  have:r=[]:=by
   cases r with
   | nil=>rfl
   | cons l r=>
    have:=(ybs _ _ _).1 (((ybo _ _ _).1 hr).1 l (by simp))
    simp at this
    omega
  subst this
  have ht:=yya ⟨ids,[[]]⟩
  have e:yaj ynv ⟨ids,[[]]⟩=[[(0,1)]]:=ht
  refine ⟨2,?_⟩
  obtain ⟨s,q1,q2⟩:=zkf (n:=1) (N:=2) (g:=⟨ids,[[]]⟩) (by rw [e];exact col_one ids) kind hk
  exact ⟨s,by rw [e];rfl,q1,q2⟩
 | [r,q],_,_,hp,hs=>
  have ht:=yya ⟨ids,[r,q]⟩
  have e:yaj ynv ⟨ids,[r,q]⟩=[[(0,2)],[(0,2)]]:=ht
  refine ⟨9,?_⟩
  obtain ⟨s,q1,q2⟩:=zkf (n:=2) (N:=9) (g:=⟨ids,[r,q]⟩) (by rw [e];exact col_two (hp 0 r rfl) (hp 1 q rfl) (zpg hs hp (u:=0) (v:=1) rfl rfl)) kind hk
  exact ⟨s,by rw [e];rfl,q1,q2⟩
 | [r,q,p],_,_,hp,hs=>
  have ht:=yya ⟨ids,[r,q,p]⟩
  have e:yaj ynv ⟨ids,[r,q,p]⟩=[[(0,3)],[(0,3)],[(0,3)]]:=ht
  refine ⟨64,?_⟩
  obtain ⟨s,q1,q2⟩:=zkf (n:=3) (N:=64) (g:=⟨ids,[r,q,p]⟩) (by rw [e];exact col_three (hp 0 r rfl) (hp 1 q rfl) (hp 2 p rfl) (zpg hs hp (u:=0) (v:=1) rfl rfl) (zpg hs hp (u:=0) (v:=2) rfl rfl) (zpg hs hp (u:=1) (v:=2) rfl rfl)) kind hk
  exact ⟨s,by rw [e];rfl,q1,q2⟩
end
set_option maxHeartbeats 16000000
section
open Go.RowKit
theorem two_fair:Fair ynv (zqi 2):=⟨zmq,znr zgp,by kernel_rfl⟩
theorem two_ok:CfgOk ynv (zqi 2) [[0],[0]]:=⟨two_fair,by kernel_rfl⟩
theorem two_run:zsk ynv (zqi 2) 1 [[0],[0]] [3#32,3#32]=some ⟨[[1],[0]],0#32,⟨1,1,1,1,0#32⟩,[1#32],[3#32,0#32]⟩:=by kernel_rfl
theorem tawake_con:Con Tryz.prog 7 [] (ybq true):=by
 have hf:=rFollow_con two_ok (dmn_plain ynv (zqi 2) 1 (.inl rfl)) [3#32,3#32] (by simp)
 rw [two_run] at hf
 refine yao Tryz.func7 rfl rfl Tryz.ntmps7 Tryz.results7 rfl rfl ?_
 (repeat (first|refine zy ?_|refine yad rfl rfl yvk rfl rfl ?_|refine yad rfl rfl (path_con 2 (by omega)) rfl rfl ?_|refine yad rfl rfl hf rfl rfl ?_))
 refine ynn tok rfl rfl rfl (by omega) (rfl) rfl rfl ?_
 (try refine zy ?_)
 refine ynn tok rfl rfl rfl (by omega) (rfl) rfl rfl ?_
 (try refine zy ?_)
 refine ynn tok rfl rfl rfl (by omega) (rfl) rfl rfl ?_
 (try refine zy ?_)
 refine yaf ?_;refine ⟨_,rfl,?_⟩
 exact Frz.pure
end
section
open Go.ChangeShapes Go.WideShapes Go.RowKit
def zri (w:World) (v:Value) (l:List Lk):Prop:=Row w v 2 l.length (l.flatMap fun t=>[.int .i64 t.1,.int .i64 t.2])
theorem zri.open {w:World} {v:Value} {l:List Lk} (h:zri w v l):∃ a cap,v=.slice a l.length cap∧l.length≤cap∧cap≤9223372036854775807 ∧
  (0 < l.length→∃ g o,a=some ⟨g,o,none⟩∧g < w.heap.size∧∀ i t,l[i]?=some t→w.cell? ⟨g,o+i * 2,none⟩=some (.int .i64 t.1)∧w.cell? ⟨g,o+i * 2+1,none⟩=some (.int .i64 t.2)):=by
 obtain ⟨a,cap,hv,h1,h2,h3,h4⟩:=Row.open h
 refine ⟨a,cap,hv,h1,h2,fun hn=>?_⟩
 obtain ⟨g,o,ha,hg,hc⟩:=h4 hn
 exact ⟨g,o,ha,hg,fun i t ht=>⟨hc _ _ (yio _ 2 (fun _=>rfl) l i 0 t _ ht rfl),hc _ _ (yio _ 2 (fun _=>rfl) l i 1 t _ ht rfl)⟩⟩
def zjy (w:World) (cs:List Value) (l:List Lk):Prop:=∃ v,cs=[v]∧zri w v l
def zdm (w:World) (v:Value) (ports:List (List Lk)):Prop:=Seq (zjy w) 1 w v ports
def zjv (w:World) (v:Value) (g:GraphD):Prop:=∃ iv pv,v=.agg #[iv,pv]∧yvd .i64 w iv g.ids∧zdm w pv g.ports
def zbb (t:Lk):Prop:=ytr t.1∧ytr t.2
def zra (g:GraphD):Prop:=(∀ x∈g.ids,ytr x)∧∀ l∈g.ports,∀ t∈l,zbb t
theorem seqOpen {α:Type} {R:List Value→α→Prop} {size:Nat} {w:World} {v:Value} {l:List α} (h:Seq R size w v l):∃ a cap,v=.slice a l.length cap∧l.length≤cap∧cap≤9223372036854775807 ∧
  (0 < l.length→∃ g o,a=some ⟨g,o,none⟩∧g < w.heap.size∧∀ i x,l[i]?=some x→∃ cs,cs.length=size∧R cs x∧∀ j u,cs[j]?=some u→w.cell? ⟨g,o+i * size+j,none⟩=some u):=by
 obtain ⟨xs,h1,h2⟩:=h
 have hlen:xs.length=l.length * size:=by obtain ⟨_,_,_,_,_,h,_⟩:=h1;exact h
 obtain ⟨a,cap,hv,h3,h4,_,h5⟩:=Row.open h1
 refine ⟨a,cap,hv,h3,h4,fun hn=>?_⟩
 obtain ⟨g,o,ha,hg,hc⟩:=h5 hn
 refine ⟨g,o,ha,hg,fun i x hx=>⟨_,?_,h2 i x hx,fun j u hu=>?_⟩⟩
 ·have hi:=(List.getElem?_eq_some_iff.1 hx).1
  rw [List.length_take,List.length_drop,hlen]
  have:i * size+size≤l.length * size:=by rw [← Nat.succ_mul];exact Nat.mul_le_mul_right _ hi
  omega
 ·rw [List.getElem?_take] at hu
  split at hu
  ·rw [List.getElem?_drop] at hu
   have:=hc _ u hu
   rw [← Nat.add_assoc] at this
   exact this
  ·cases hu
theorem zdm.open {w:World} {v:Value} {l:List (List Lk)} (h:zdm w v l):∃ a cap,v=.slice a l.length cap∧l.length≤cap∧cap≤9223372036854775807 ∧
  (0 < l.length→∃ g o,a=some ⟨g,o,none⟩∧g < w.heap.size∧∀ i x,l[i]?=some x→∃ pv,zri w pv x∧w.cell? ⟨g,o+i,none⟩=some pv):=by
 obtain ⟨a,cap,hv,h3,h4,h5⟩:=seqOpen h
 refine ⟨a,cap,hv,h3,h4,fun hn=>?_⟩
 obtain ⟨g,o,ha,hg,hc⟩:=h5 hn
 refine ⟨g,o,ha,hg,fun i x hx=>?_⟩
 obtain ⟨cs,_,⟨pv,rfl,q1⟩,q2⟩:=hc i x hx
 have:=q2 0 _ rfl
 rw [Nat.mul_one,Nat.add_zero] at this
 exact ⟨pv,q1,this⟩
theorem zhe:Tryz.prog.cellsOf 3=1:=by kernel_rfl
theorem zgm:Tryz.prog.cellsOf 126=2:=by kernel_rfl
theorem cellsInts:Tryz.prog.cellsOf 26=1:=by kernel_rfl
theorem cellsLinks:Tryz.prog.cellsOf 123=1:=by kernel_rfl
theorem cellsPorts:Tryz.prog.cellsOf 27=1:=by kernel_rfl
theorem cellsGraph:Tryz.prog.cellsOf 29=2:=by kernel_rfl
section
variable {H:Type} {enc:TypeId × Value→H} {w:World} {cs:List Value} {v:Value} {base:Nat} {d:DataW H} {ps:List MemPlace}
theorem rd_link (h:Rd enc Tryz.prog w 126 cs):∃ t:Lk,cs=[.int .i64 t.1,.int .i64 t.2]∧zbb t:=by
 obtain ⟨h1,h2⟩:=zis Tryz.underlying126 h
 rw [zgm] at h1
 match cs,h1 with
 | [a,b],_=>
  have g0:=h2 0 _ rfl
  have g1:=h2 1 _ rfl
  simp [zhe] at g0 g1
  obtain ⟨x,hx,hx'⟩:=zfb Tryz.underlying3 g0
  obtain ⟨y,hy,hy'⟩:=zfb Tryz.underlying3 g1
  simp at hx hy
  exact ⟨(x,y),by simp [hx,hy],hx',hy'⟩
theorem rd_links (h:Rd enc Tryz.prog w 123 cs):∃ l,zjy w cs l∧∀ t∈l,zbb t:=by
 obtain ⟨v,l,h1,h2⟩:=zex (R:=fun cs (t:Lk)=>cs=[.int .i64 t.1,.int .i64 t.2]∧zbb t) Tryz.underlying123 zgm (Nat.succ_pos 1) (fun cs h=>rd_link h) h
 refine ⟨l,⟨v,h1,zfh (fun t:Lk=>[.int .i64 t.1,.int .i64 t.2]) (fun _=>rfl) (by omega) h2 (fun cs x h=>h.1)⟩,fun x hx=>?_⟩
 obtain ⟨xs,_,h3⟩:=h2
 obtain ⟨i,hi⟩:=List.getElem?_of_mem hx
 exact (h3 i x hi).2
theorem rd_ints (h:Rd enc Tryz.prog w 26 cs):∃ v l,cs=[v]∧yvd .i64 w v l∧∀ x∈l,ytr x:=by
 obtain ⟨v,l,h1,hl⟩:=zex (R:=fun cs x=>cs=[.int .i64 x]∧ytr x) Tryz.underlying26 zhe Nat.one_pos (fun cs h=>by obtain ⟨n,h1,h2⟩:=zfb Tryz.underlying3 h;exact ⟨n,h1,h2⟩) h
 refine ⟨v,l,h1,?_,fun x hx=>?_⟩
 ·have:=zfh (fun x=>[.int .i64 x]) (fun _=>rfl) Nat.one_pos hl (fun cs x h=>h.1)
  unfold yvd
  rwa [zne l] at this
 ·obtain ⟨xs,_,h2⟩:=hl
  obtain ⟨i,hi⟩:=List.getElem?_of_mem hx
  exact (h2 i x hi).2
theorem rd_ports (h:Rd enc Tryz.prog w 27 cs):∃ v l,cs=[v]∧zdm w v l∧∀ x∈l,∀ t∈x,zbb t:=by
 obtain ⟨v,l,h1,h2⟩:=zex (R:=fun cs l=>zjy w cs l∧∀ t∈l,zbb t) Tryz.underlying27 cellsLinks Nat.one_pos (fun cs h=>rd_links h) h
 refine ⟨v,l,h1,h2.imp fun _ _ _ h=>h.1,fun x hx=>?_⟩
 obtain ⟨xs,_,h3⟩:=h2
 obtain ⟨i,hi⟩:=List.getElem?_of_mem hx
 exact (h3 i x hi).2
theorem open_graph (hv:Value.okWide Tryz.prog w .any base 29 v) (h:DataW.Trod enc Tryz.prog w 0 (fun _=>true) true 29 v d ps):∃ g,zjv w v g∧zra g:=by
 obtain ⟨cs,rfl,hcs⟩:∃ cs,v=.agg cs∧cs.size=Tryz.prog.cellsOf 29:=by
  unfold Value.okWide at hv
  rw [Tryz.underlying29] at hv
  obtain ⟨cs,h1,h2,_⟩:=hv
  exact ⟨cs,h1,h2⟩
 have hr:=rd_of h
 simp only [Value.cells] at hr
 obtain ⟨h1,h2⟩:=zis Tryz.underlying29 hr
 rw [cellsGraph] at h1
 obtain ⟨cs⟩:=cs
 simp only at h1 h2
 match cs,h1 with
 | [a,b],_=>
  have g0:=h2 0 _ rfl
  have g1:=h2 1 _ rfl
  simp [cellsInts,cellsPorts] at g0 g1
  obtain ⟨iv,l,e2,q2,q3⟩:=rd_ints g0
  obtain ⟨pv,rr,e3,q4,q5⟩:=rd_ports g1
  simp at e2 e3
  exact ⟨⟨l,rr⟩,⟨iv,pv,by simp [e2,e3],q2,q4⟩,q3,q5⟩
end
end
section
open Go.RowKit
theorem links_rel {w:World} {lv:Live} {v:Value} {l:List Lk} (h:zri w v l):Rel (okW w) w lv (yin l) v:=
 zit (g:=fun t:Lk=>[.int .i64 t.1,.int .i64 t.2]) (fun _=>rfl) (fun x u hu=>by simp at hu;rcases hu with rfl|rfl <;> rfl) h
theorem graph_rel {w:World} {lv:Live} {v:Value} {g:GraphD} (h:zjv w v g):Rel (okW w) w lv (ypu g) v:=by
 obtain ⟨iv,pv,rfl,h1,h2⟩:=h
 have h3:ybk (okW w) w lv [yam g.ids,ybj g.ports] [iv,pv]:=by
  refine ygh (ints_rel h1) (ygh ?_ ymc)
  refine zcu h2 (fun _=>rfl) (fun x c hc=>by simp at hc;subst hc;rfl) fun x _ cs hc=>?_
  obtain ⟨lv',rfl,r1⟩:=hc
  exact ygh (links_rel r1) ymc
 exact .agg _ h3.1 (fun c hc=>by simp at hc;rcases hc with rfl|rfl <;> rfl) h3.2
end
set_option maxHeartbeats 8000000
section
open Go.RowKit
theorem rall24_con:Con Tryz.prog 132 [i64 24] (ybi zrn):=by
 refine yao Tryz.func132 rfl rfl Tryz.ntmps132 Tryz.results132 rfl rfl ?_
 (try refine zy ?_)
 refine yeu (α:=Nat) (fun v=>[(4,i64 v),(3,ybi (ywj (fun _=>true) v)),(0,i64 24)]) (fun _=>[]) (fun v=>24 - v) (fun v=>v≤24) 0 (by omega) (by exact zs) yae ?_
 intro v hv
 (try refine zy ?_)
 refine yax 8 rfl (fun q1=>?_) (fun q1=>?_)
 ·simp at q1
  (repeat (first|refine yfr tok rfl (by constructor <;> omega) rfl rfl ?_|refine ycv rfl rfl (by omega) rfl rfl ?_|refine yfq rfl rfl rfl rfl ?_|refine yaz rfl rfl rfl rfl ?_|refine zI ?_|refine zL ?_|refine zC ?_|refine ycu ?_|refine yco ?_|refine zR ?_|refine zD ?_|refine zK ?_|refine zB ?_|refine zA ?_|refine zS ?_|refine zU ?_|refine zV ?_|refine zF ?_|with_reducible refine yat ?_|with_reducible refine ybg ?_|refine ybh ?_|refine ybf ?_|refine ybp ?_|refine zT ?_|refine zE ?_|refine zX ?_))
  refine yac rfl (fun _=>?_) (fun q2=>?_)
  ·(repeat (first|refine yfr tok rfl (by constructor <;> omega) rfl rfl ?_|refine ycv rfl rfl (by omega) rfl rfl ?_|refine yfq rfl rfl rfl rfl ?_|refine yaz rfl rfl rfl rfl ?_|refine zI ?_|refine zL ?_|refine zC ?_|refine ycu ?_|refine yco ?_|refine zR ?_|refine zD ?_|refine zK ?_|refine zB ?_|refine zA ?_|refine zS ?_|refine zU ?_|refine zV ?_|refine zF ?_|with_reducible refine yat ?_|with_reducible refine ybg ?_|refine ybh ?_|refine ybf ?_|refine ybp ?_|refine zT ?_|refine zE ?_|refine zX ?_))
   refine rnd (v+1) (by omega) (by omega) ?_ yae
   rw [show ywj (fun _=>true) (v+1)=ywj (fun _=>true) v ||| (1#32 <<< v) by simp [ywj]]
   exact (by exact zs)
  ·simp at q2;omega
 ·simp at q1
  obtain rfl:v=24:=by omega
  (try refine zy ?_)
  refine yaf ?_;refine ⟨_,rfl,?_⟩
  exact Frz.pure
theorem rspvalid_con {s:SpcD} (h:SpcOk s):Con Tryz.prog 70 [ynx s] (ybq true):=by
 obtain ⟨h1,h2,h3,h4⟩:=h
 have hin:Con Tryz.prog 40 [i64 s.length,i64 1,i64 32768] (ybq true):=by
  have:=zcc s.length 1 32768
  rwa [show inB s.length 1 32768=true by simp [inB];omega] at this
 have e1:(s.map (·.1)).length=s.length:=List.length_map ..
 rw [← e1] at hin
 have e2:(s.map fun x=>[ybl x.2]).length=s.length:=List.length_map ..
 refine yao Tryz.func70 rfl rfl Tryz.ntmps70 Tryz.results70 rfl rfl ?_
 (repeat (first|refine zy ?_|refine yad rfl rfl hin rfl rfl ?_))
 refine yac rfl (fun q1=>?_) (fun q1=>?_)
 ·simp at q1
 (try refine zy ?_)
 refine yeu (α:=Nat) (fun k=>[(5,i64 k),(4,i64 (ymx (s.take k))),(3,i64 s.length),(1,.lp 1 0)]) (fun k=>[(1,some (zvt s))]) (fun k=>s.length - k) (fun k=>k≤s.length) 0 (by omega) (by rw [← e1];exact zs) (by exact zh) ?_
 intro k hk
 (try refine zy ?_)
 refine yac rfl (fun q4=>?_) (fun q4=>?_)
 ·simp at q4
  obtain ⟨x,hx⟩:=ycd q4
  have hxm:=List.mem_of_getElem? hx
  have hax:=h4 x hxm
  have ht:=ymf hx
  have htl:=yuz s (k+1)
  have hx1:(s.map (·.1))[k]?=some x.1:=by rw [List.getElem?_map,hx];rfl
  have hcall:=rarcs_con hax (by omega:x.2.length≤262144) (by omega:s.length≤32768)
  have hxin:InM x.1:=zhj fun i hi=>by
   have:=hax.inM
   have h2:(x.1 >>> 24).getLsbD (i - 24)=false:=by rw [this];simp
   rw [BitVec.getLsbD_ushiftRight,show 24+(i - 24)=i by omega] at h2
   exact h2
  (try refine zy ?_)
  refine yax 34 rfl (fun q5=>?_) (fun q5=>?_)
  ·simp at q5;omega
  (repeat (first|refine ynq tok rfl rfl rfl rfl rfl ?_|refine ynp tok rfl rfl rfl rfl rfl ?_|refine yno tok rfl rfl rfl rfl ?_|refine yfr tok rfl (by constructor <;> omega) rfl rfl ?_|refine ycv rfl rfl (by omega) rfl rfl ?_|refine ydj rfl rfl (by omega) rfl rfl ?_|refine yfq rfl rfl rfl rfl ?_|refine ycw rfl rfl rfl rfl ?_|refine ydp rfl rfl rfl rfl ?_|refine yaz rfl rfl rfl rfl ?_|refine zI ?_|refine zL ?_|refine zC ?_|refine ycu ?_|refine yco ?_|refine zR ?_|refine zD ?_|refine zK ?_|refine zB ?_|refine zA ?_|refine zS ?_|refine zU ?_|refine zV ?_|refine zF ?_|refine zN ?_|with_reducible refine yat ?_|with_reducible refine ybg ?_|refine ybh ?_|refine ybf ?_|refine ybp ?_|refine zT ?_|refine zE ?_|refine zX ?_|refine yad rfl rfl rall24_con rfl rfl ?_))
  refine yax 44 rfl (fun q6=>?_) (fun q6=>?_)
  ·rw [yex] at q6
   have:x.1 &&& ~~~zrn=0#32:=hxin
   rw [this] at q6;simp at q6
  (repeat (first|refine ynq tok rfl rfl rfl rfl rfl ?_|refine ynp tok rfl rfl rfl rfl rfl ?_|refine yno tok rfl rfl rfl rfl ?_|refine yfr tok rfl (by constructor <;> omega) rfl rfl ?_|refine ycv rfl rfl (by omega) rfl rfl ?_|refine ydj rfl rfl (by omega) rfl rfl ?_|refine yfq rfl rfl rfl rfl ?_|refine ycw rfl rfl rfl rfl ?_|refine ydp rfl rfl rfl rfl ?_|refine yaz rfl rfl rfl rfl ?_|refine zI ?_|refine zL ?_|refine zC ?_|refine ycu ?_|refine yco ?_|refine zR ?_|refine zD ?_|refine zK ?_|refine zB ?_|refine zA ?_|refine zS ?_|refine zU ?_|refine zV ?_|refine zF ?_|refine zN ?_|with_reducible refine yat ?_|with_reducible refine ybg ?_|refine ybh ?_|refine ybf ?_|refine ybp ?_|refine zT ?_|refine zE ?_|refine zX ?_|refine yad rfl rfl hcall rfl rfl ?_))
  refine rnd (k+1) (by omega) (by omega) ?_ (by exact zh)
  rw [ht,show ((ymx (s.take k)+x.2.length:Nat):Int)=(ymx (s.take k):Int)+(x.2.length:Int) by omega]
  exact (by exact zs)
 ·simp at q4
  obtain rfl:k=s.length:=by omega
  (try refine zy ?_)
  refine yaf ?_;refine ⟨_,rfl,?_⟩
  exact Frz.pure
theorem knownCol_con {g:GraphD} {kind:Int} {n N:Nat} {s:SpcD} (hb:Con Tryz.prog 31 [zau ynv,ypu g,i64 kind] (zjc (some s))) (h:OkS n N s):Con Tryz.prog 28 [zau ynv,ypu g,i64 kind,i64 n,i64 1] (ybq true):=by
 have hv:=rspvalid_con h.ok
 obtain ⟨m,hm,hml,hmn⟩:=moves_low h
 obtain ⟨r,hr,hrl,hrn⟩:=rounds_low h
 have hmo:=moves_con h.ok (L:=yqi s) yso
 have hro:=rounds_con h.ok (L:=yqi s) yso
 rw [hm] at hmo
 rw [hr] at hro
 have h2:=h.ok.len
 have hll:=yso (s:=s)
 have e3:((yqi s).map fun b=>[ybq b]).length=s.length:=by simp [yqi]
 have e4:((yfi m).map fun z=>[i64 z]).length=s.length:=by simp [yfi,hml]
 have e5:((yfi r).map fun z=>[i64 z]).length=s.length:=by simp [yfi,hrl]
 have e6:((s.map (·.1)).map fun B=>[ybi B]).length=s.length:=by simp
 refine yao Tryz.func28 rfl rfl Tryz.ntmps28 Tryz.results28 rfl rfl ?_
 (repeat (first|refine zy ?_|refine yad rfl rfl hb rfl rfl ?_|refine yad rfl rfl hv rfl rfl ?_))
 refine zzm 13 60 1 rfl rfl rfl ?_
 refine ycn (α:=Nat) (fun k=>[(14,i64 k),(13,.ls 60 1 k),(11,.lp 11 0),(3,i64 n),(4,i64 1)]) (fun k=>[(60,some (.vec (((yqi s).take k).map ybq))),(11,some (zvt s))]) (fun k=>s.length - k) (fun k=>k≤s.length) 0 (by omega) (by exact zs) (yag (yab rfl (yab rfl yae))) ?_
 intro k hk
 (try refine zy ?_)
 refine yac rfl (fun q1=>?_) (fun q1=>?_)
 ·simp at q1
  obtain ⟨x,hx⟩:=ycd q1
  have hx1:(s.map (·.1))[k]?=some x.1:=by rw [List.getElem?_map,hx];rfl
  have hlx:(yqi s)[k]?=some (x.1 == 0#32):=by rw [yqi,List.getElem?_map,hx];rfl
  (repeat (first|refine zy ?_|refine ykh tok rfl rfl rfl (by simp;omega) rfl (by simp [yap]) (by simp;omega) rfl rfl rfl rfl rfl ?_))
  refine yir (k+1) (by omega) (by omega) (by exact zs) (yag (yab ?_ (yab rfl yae)))
  show some _=some _
  rw [ybc hlx,yfo];simp;rfl
 simp at q1
 obtain rfl:k=s.length:=by omega
 (repeat (first|with_reducible refine ybg ?_|with_reducible refine yat ?_|refine ybf ?_|refine ybp ?_))
 rw [show (yqi s).take s.length=yqi s by rw [← hll,List.take_length]]
 refine A_freezeV (f:=ybq) (l:=yqi s) 13 rfl hll.symm rfl rfl ?_
 (repeat (first|refine zy ?_|refine yad rfl rfl hmo rfl rfl ?_|refine yad rfl rfl hro rfl rfl ?_))
 refine yax 75 rfl (fun q2=>?_) (fun q2=>?_)
 ·simp [yiq,hml,hll] at q2
 (try refine zy ?_)
 refine yac rfl (fun q3=>?_) (fun q3=>?_)
 ·simp [yiq,hrl,hll] at q3
 (try refine zy ?_)
 refine yeu (α:=Nat) (fun k=>[(19,i64 k),(17,yam (yfi r)),(15,yam (yfi m)),(13,ykf (yqi s)),(3,i64 n),(4,i64 1)]) (fun k=>[]) (fun k=>s.length - k) (fun k=>k≤s.length) 0 (by omega) (by exact zs) yae ?_
 intro k hk
 (try refine zy ?_)
 refine yac rfl (fun q4=>?_) (fun q4=>?_)
 ·have q4:k < s.length:=by simp [hll] at q4;omega
  obtain ⟨x,hx⟩:=ycd (show k < m.length by omega)
  obtain ⟨y,hy⟩:=ycd (show k < r.length by omega)
  have hxg:=yze hx
  have hyg:=yze hy
  have hx2:=hmn x (List.mem_of_getElem? hx)
  have hy2:=hrn y (List.mem_of_getElem? hy)
  (try refine zy ?_)
  refine yax 90 rfl (fun q5=>?_) (fun q5=>?_)
  ·(try refine zy ?_)
   refine yax 98 rfl (fun q6=>?_) (fun q6=>?_)
   ·simp at q6;omega
   (try refine zy ?_)
   refine yac rfl (fun q7=>?_) (fun q7=>?_)
   ·simp at q7;omega
   (try refine zy ?_)
   exact rnd (k+1) (by omega) (by omega) (by exact zs) yae
  ·simp at q5
 ·have q4:k=s.length:=by simp [hll] at q4;omega
  (try refine zy ?_)
  refine yaf ?_;refine ⟨_,rfl,?_⟩
  exact Frz.pure
theorem col_fits {g:GraphD} (h:ycy g=true):ygf ynv g=0:=by
 have hv:=yca h
 unfold ygf
 rw [if_pos (by kernel_rfl),if_pos h,if_pos]
 simp [ynv,zki,yba]
 omega
theorem colours_con (hA:Con Tryz.prog 7 [] (ybq true)) (g:GraphD) (local':Bool):Con Tryz.prog 5 [ypu g,ybq local'] (ybq true):=by
 have hlg:=lightGraph_con g
 cases h1:yvr g with
 | false=>
  rw [h1] at hlg
  refine yao Tryz.func5 rfl rfl Tryz.ntmps5 Tryz.results5 rfl rfl ?_
  (repeat (first|refine zy ?_|refine yad rfl rfl hlg rfl rfl ?_|refine yad rfl rfl hA rfl rfl ?_))
  refine yaf ?_;refine ⟨_,rfl,?_⟩
  exact Frz.pure
 | true=>
 have hrv:=rvalid_con g h1
 rw [h1] at hlg
 cases h2:ycy g with
 | false=>
  rw [h2] at hrv
  refine yao Tryz.func5 rfl rfl Tryz.ntmps5 Tryz.results5 rfl rfl ?_
  (repeat (first|refine zy ?_|refine yad rfl rfl hlg rfl rfl ?_|refine yad rfl rfl hrv rfl rfl ?_|refine yad rfl rfl hA rfl rfl ?_))
  refine yaf ?_;refine ⟨_,rfl,?_⟩
  exact Frz.pure
 | true=>
 rw [h2] at hrv
 have hf:Fair ynv g:=⟨zmq,znr zgp,h1⟩
 have h0:ygf ynv g=0:=col_fits h2
 refine yao Tryz.func5 rfl rfl Tryz.ntmps5 Tryz.results5 rfl rfl ?_
 (repeat (first|refine zy ?_|refine yad rfl rfl hlg rfl rfl ?_|refine yad rfl rfl hrv rfl rfl ?_))
 refine yac rfl (fun q1=>?_) (fun q1=>?_)
 ·(repeat (first|refine zy ?_|refine yad rfl rfl hA rfl rfl ?_))
  refine yaf ?_;refine ⟨_,rfl,?_⟩
  exact Frz.pure
 have h3:g.ports.length≤3:=by simp at q1;omega
 have hkn:∀ kind:Int,kind=1∨kind=2→Con Tryz.prog 28 [zau ynv,ypu g,i64 kind,i64 g.ports.length,i64 1] (ybq true):=fun kind hk=>by
  obtain ⟨N,s,g1,g2,g3⟩:=col_sys h2 h3 kind hk
  have:=spbuild_con ynv g hf h0 (kind:=kind) (by omega) g1
  rw [g2] at this
  exact knownCol_con this g3
 have hk1:=hkn 1 (.inl rfl)
 have hk2:=hkn 2 (.inr rfl)
 (repeat (first|refine zy ?_|refine yad rfl rfl yvk rfl rfl ?_))
 refine yac rfl (fun q2=>?_) (fun q2=>?_)
 ·(repeat (first|refine zy ?_|refine yad rfl rfl hA rfl rfl ?_|refine yad rfl rfl hk2 rfl rfl ?_))
  refine yaf ?_;refine ⟨_,rfl,?_⟩
  exact Frz.pure
 ·(repeat (first|refine zy ?_|refine yad rfl rfl hA rfl rfl ?_|refine yad rfl rfl hk1 rfl rfl ?_))
  refine yaf ?_;refine ⟨_,rfl,?_⟩
  exact Frz.pure
theorem yhb (v0:Value) (z0:GraphD) (b1:Bool) (w:World) (h0:zjv w v0 z0∧zra z0) (hG:ywf w) :
  Calls Tryz.prog 5 #[v0,.bool b1] w fun e w'=>e=.returned (.bool true)∧Below w.heap.size w w':=
 yvi (colours_con tawake_con z0 b1) hG (okW_lt w) (ygh (graph_rel h0.1) (ygh (.v _) ymc))
end
section
open Go.RowKit
def lits1 (l:List (DataW Unit)):List Value:=l.flatMap fun|.lit (.int k z)=>[.int k z]|_=>[]
def lits2:DataW Unit→List Value
 | .agg l=>l.flatMap fun|.lit (.int k z)=>[.int k z]|.agg m=>lits1 m|_=>[]
 | _=>[]
def layIn (vs:List Value):Obj→Obj
 | .cells _ t frozen=>.cells vs.toArray t frozen
 | o=>o
noncomputable def yyr (os:Os):World:=
 { World.holding Tryz.prog os ⟨#[],#[],[]⟩ with heap:=(World.holding Tryz.prog os ⟨#[],#[],[]⟩).heap.modify 0 (layIn (lits2 Rows.laid_math_bits_deBruijn32tab)) }
theorem glob_of {laid : List (String × DataW Unit)} {W : World} (hl : (laid.filter fun x => x.1 == "math/bits.deBruijn32tab") = [("math/bits.deBruijn32tab", Rows.laid_math_bits_deBruijn32tab)]) (hs : W.ShapedOpen Tryz.prog) (h : laidMetH Tryz.prog laid W) : ywf W := by
 have h2 := laidMetH.filter (fun x => x.1 == "math/bits.deBruijn32tab") h
 rw [hl] at h2
 have h3 : laidMet Tryz.prog [("math/bits.deBruijn32tab", Lib.tabData .u8 zvu)] W := h2
 exact Lib.tabIs_of_head (t:=312) (e:=5) (n:=32) zni (by kernel_rfl) Tryz.underlying312 Tryz.underlying5 (by kernel_rfl) (by kernel_rfl) h3
end
end Go.Proofs.YtfhejdcijbgikaaGreatDoor
