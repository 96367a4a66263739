/- Part 11 of the texts under TopColoursConverge: joined, with what it needs alone. -/
import Derived.RecoverIn
import Derived.WideLaws
import Derived.Test.YtfhejdcijbgikaaGreatDoorCC6
import Derived.Test.YtfhejdcijbgikaaGreatDoorCC7
import Derived.Test.YtfhejdcijbgikaaGreatDoorCC10
set_option linter.unusedVariables false
set_option maxRecDepth 100000
set_option maxHeartbeats 8000000
namespace Go.Proofs.YtfhejdcijbgikaaGreatDoor
section
open Go.RowKit
def zwg (g:GraphD) (kind:Int) (e:BitVec 32):List (BitVec 32):=if kind=1 then (ycg e).map fun v=>1#32 <<< v else if kind=4 then [e] else (xat e).filter (zla g kind e)
def zqr (g:GraphD) (kind:Int) (e:BitVec 32):Option (List (BitVec 32)):=if e=0#32 then some [] else if kind≠1∧kind≠4∧10 < yrj e then none else some (zwg g kind e)
def xch:Option (List (BitVec 32))→AV
 | some l=>.tup [yrk l,i64 0]
 | none=>.tup [yrk [],i64 3]
theorem choA_pure:∀ o,yap (xch o)=true
 | some l=>rfl
 | none=>rfl
theorem zac (e:BitVec 32):∀ n x,(ytl e n x).length≤n
 | 0,x=>by simp [ytl]
 | n+1,x=>by
  unfold ytl
  split
  ·simp
  ·have:=zac e n (yob e x)
   simp;omega
theorem zsn {h:Nat→Option LObj} {id n:Nat} {l:List (BitVec 32)} (hx:h id=some (.vec (l.map ybi))) (hn:n=l.length):Frz h (.ls id 1 n) (yrk l):=
 Frz.ls (xs:=l.map ybi) (by rw [hx];rfl) (by rw [hn,List.length_map]) (by intro r hr;obtain ⟨z,_,rfl⟩:=List.mem_map.1 hr;rfl) (yen _) (by intro x hx i;obtain ⟨z,_,rfl⟩:=List.mem_map.1 hx;rfl)
theorem choices_con (g:GraphD) (h24:g.ports.length≤24) (kind:Int) (hk:1≤kind∧kind≤4) (e:BitVec 32) (he:InN g.ports.length e):Con Tryz.prog 148 [yxd g,i64 kind,ybi e] (xch (zqr g kind e)):=by
 refine yge tok Tryz.func148 rfl rfl Tryz.ntmps148 Tryz.results148 rfl (choA_pure _) ?_
 (try refine zy ?_)
 refine yac rfl (fun h1=>?_) (fun h1=>?_)
 ·rw [yfo] at h1
  have h1:e=0#32:=by simpa using h1
  (try refine zy ?_)
  refine yaf ?_;refine ⟨_,rfl,?_⟩
  rw [zqr,if_pos h1]
  exact Frz.tup2 Frz.nil Frz.pure
 rw [yfo] at h1
 have h1:¬ e=0#32:=by simpa using h1
 have hcho:zqr g kind e=if kind≠1∧kind≠4∧10 < yrj e then none else some (zwg g kind e):=by rw [zqr,if_neg h1]
 rw [hcho]
 (try refine zy ?_)
 refine zly 8 0 902 1 rfl rfl rfl rfl rfl ?_
 refine yac rfl (fun q1=>?_) (fun q1=>?_)
 ·have k1:kind=1:=by simpa using q1
  subst k1
  rw [if_neg (by simp),zwg,if_pos rfl]
  (repeat (first|refine zy ?_|refine yxp [(1,901)] (yzh e) rfl rfl rfl rfl rfl rfl rfl yae rfl rfl rfl rfl rfl rfl ?_))
  refine zdi 901 rfl (yuq e) (fun _=>rfl) rfl (yzg e 18) rfl [(8,.lp 8 0)] (by exact zs) rfl (fun k=>[(8,some (.cells [.ls 902 1 k])),(902,some (.vec (((ycg e).take k).map fun v=>ybi (1#32 <<< v))))]) rfl (yag (by exact zh)) rfl ?_ ?_
  ·intro k el hel
   obtain ⟨v,hv,rfl⟩:=yuo hel
   have hin:=ymb.1 (List.mem_of_getElem? hv)
   have hkl:=(List.getElem?_eq_some_iff.1 hv).1
   have hl32:=yzi e
   (try refine zy ?_)
   refine ⟨rfl,?_⟩
   (repeat (first|refine yfr tok rfl (by constructor <;> omega) rfl rfl ?_|refine ycv rfl rfl (by omega) rfl rfl ?_|refine yfq rfl rfl rfl rfl ?_|refine yaz rfl rfl rfl rfl ?_|refine zI ?_|refine zL ?_|refine zC ?_|refine ycu ?_|refine yco ?_|refine zR ?_|refine zD ?_|refine zK ?_|refine zB ?_|refine zA ?_|refine zS ?_|refine zU ?_|refine zV ?_|refine zF ?_|with_reducible refine yat ?_|with_reducible refine ybg ?_|refine ybh ?_|refine ybf ?_|refine ybp ?_|refine zT ?_|refine zE ?_|refine zX ?_|refine ykh tok rfl rfl rfl (by simp;omega) rfl (by simp [yap]) (by simp;omega) rfl rfl rfl rfl rfl ?_))
   refine zzg (by exact zs) (yag (yab rfl (yab rfl (yab ?_ yae))))
   show some _=some _
   rw [ybc hv];simp;rfl
  ·rw [yup]
   (try refine zy ?_)
   refine yaf ?_;refine ⟨_,rfl,?_⟩
   refine Frz.tup2 (zsn ?_ (by simp)) Frz.pure
   show some _=some _
   rw [List.take_length,List.map_map];rfl
 have k1:¬ kind=1:=by simpa using q1
 (try refine zy ?_)
 refine yac rfl (fun q4=>?_) (fun q4=>?_)
 ·have k4:kind=4:=by simpa using q4
  subst k4
  rw [if_neg (by simp),zwg,if_neg (by omega),if_pos rfl]
  (try refine zy ?_)
  refine yaf ?_;refine ⟨_,rfl,?_⟩
  exact Frz.pure
 have k4:¬ kind=4:=by simpa using q4
 (repeat (first|refine zy ?_|refine yad rfl rfl (zew e) rfl rfl ?_))
 refine yac rfl (fun q5=>?_) (fun q5=>?_)
 ·(try refine zy ?_)
  refine yaf ?_;refine ⟨_,rfl,?_⟩
  rw [if_pos ⟨k1,k4,by simp at q5;omega⟩]
  exact Frz.tup2 Frz.nil Frz.pure
 rw [if_neg (fun h=>by have:=h.2.2;simp at q5;omega),zwg,if_neg k1,if_neg k4]
 (repeat (first|refine ynq tok rfl rfl rfl rfl rfl ?_|refine ynp tok rfl rfl rfl rfl rfl ?_|refine yno tok rfl rfl rfl rfl ?_|refine yfr tok rfl (by constructor <;> omega) rfl rfl ?_|refine ycv rfl rfl (by omega) rfl rfl ?_|refine ydj rfl rfl (by omega) rfl rfl ?_|refine yfq rfl rfl rfl rfl ?_|refine ycw rfl rfl rfl rfl ?_|refine ydp rfl rfl rfl rfl ?_|refine yaz rfl rfl rfl rfl ?_|refine zI ?_|refine zL ?_|refine zC ?_|refine ycu ?_|refine yco ?_|refine zR ?_|refine zD ?_|refine zK ?_|refine zB ?_|refine zA ?_|refine zS ?_|refine zU ?_|refine zV ?_|refine zF ?_|refine zN ?_|with_reducible refine yat ?_|with_reducible refine ybg ?_|refine ybh ?_|refine ybf ?_|refine ybp ?_|refine zT ?_|refine zE ?_|refine zX ?_))
 have hper:∀ x:BitVec 32,Con Tryz.prog 160 [yxd g,i64 kind,ybi e,ybi x] (ybq (zla g kind e x)):=fun x=>yzn g kind hk e x fun _ hs=>indep_con g h24 x (in_sub hs he)
 refine ycn (α:=BitVec 32 × List (BitVec 32)) (fun a=>[(10,ybi a.1),(8,.lp 8 0),(0,yxd g),(1,i64 kind),(2,ybi e)]) (fun a=>[(8,some (.cells [.ls 902 1 a.2.length])),(902,some (.vec (a.2.map ybi)))]) (fun a=>xba a.1) (fun a=>zpu a.1 e∧a.2++(zlq e a.1).filter (zla g kind e)=(xat e).filter (zla g kind e)) (-e &&& e,[]) ⟨zgv e,rfl⟩ (by exact zs) (yag (by exact zh)) ?_
 rintro ⟨x,acc⟩ ⟨hx,hacc⟩
 simp only at hx hacc ⊢
 (repeat (first|refine ynq tok rfl rfl rfl rfl rfl ?_|refine ynp tok rfl rfl rfl rfl rfl ?_|refine yno tok rfl rfl rfl rfl ?_|refine yfr tok rfl (by constructor <;> omega) rfl rfl ?_|refine ycv rfl rfl (by omega) rfl rfl ?_|refine ydj rfl rfl (by omega) rfl rfl ?_|refine yfq rfl rfl rfl rfl ?_|refine ycw rfl rfl rfl rfl ?_|refine ydp rfl rfl rfl rfl ?_|refine yaz rfl rfl rfl rfl ?_|refine zI ?_|refine zL ?_|refine zC ?_|refine ycu ?_|refine yco ?_|refine zR ?_|refine zD ?_|refine zK ?_|refine zB ?_|refine zA ?_|refine zS ?_|refine zU ?_|refine zV ?_|refine zF ?_|refine zN ?_|with_reducible refine yat ?_|with_reducible refine ybg ?_|refine ybh ?_|refine ybf ?_|refine ybp ?_|refine zT ?_|refine zE ?_|refine zX ?_))
 refine yac rfl (fun q6=>?_) (fun q6=>?_)
 ·rw [yex] at q6
  have q6:x≠0#32:=by simpa [bne] using q6
  have hfar:=far_next hx q6
  rw [subsX_cons hx q6] at hacc
  have hbd:acc.length+((x::zlq e (yob e x)).filter (zla g kind e)).length≤4294967296:=by
   have:=congrArg List.length hacc
   rw [List.length_append] at this
   rw [this]
   refine Nat.le_trans (List.length_filter_le _ _) (Nat.le_trans (zac e _ _) ?_)
   omega
  (repeat (first|refine zy ?_|refine yad rfl rfl (hper x) rfl rfl ?_))
  refine yac rfl (fun q7=>?_) (fun q7=>?_)
  ·rw [List.filter_cons_of_pos q7] at hacc hbd
   simp only [List.length_cons] at hbd
   (repeat (first|refine ynq tok rfl rfl rfl rfl rfl ?_|refine ynp tok rfl rfl rfl rfl rfl ?_|refine yno tok rfl rfl rfl rfl ?_|refine yfr tok rfl (by constructor <;> omega) rfl rfl ?_|refine ycv rfl rfl (by omega) rfl rfl ?_|refine ydj rfl rfl (by omega) rfl rfl ?_|refine yfq rfl rfl rfl rfl ?_|refine ycw rfl rfl rfl rfl ?_|refine ydp rfl rfl rfl rfl ?_|refine yaz rfl rfl rfl rfl ?_|refine zI ?_|refine zL ?_|refine zC ?_|refine ycu ?_|refine yco ?_|refine zR ?_|refine zD ?_|refine zK ?_|refine zB ?_|refine zA ?_|refine zS ?_|refine zU ?_|refine zV ?_|refine zF ?_|refine zN ?_|with_reducible refine yat ?_|with_reducible refine ybg ?_|refine ybh ?_|refine ybf ?_|refine ybp ?_|refine zT ?_|refine zE ?_|refine zX ?_|refine ykh tok rfl rfl rfl (by simp) rfl (by simp [yap]) (by simp;omega) rfl rfl rfl rfl rfl ?_))
   refine yir (yob e x,acc++[x]) ⟨ysz e x,by rw [List.append_assoc];exact hacc⟩ hfar (by exact zs) (yag (yab ?_ (yab ?_ yae)))
   ·show some _=some _
    simp
   ·show some _=some _
    simp;rfl
  ·rw [List.filter_cons_of_neg (by rw [q7];simp)] at hacc
   (repeat (first|refine ynq tok rfl rfl rfl rfl rfl ?_|refine ynp tok rfl rfl rfl rfl rfl ?_|refine yno tok rfl rfl rfl rfl ?_|refine yfr tok rfl (by constructor <;> omega) rfl rfl ?_|refine ycv rfl rfl (by omega) rfl rfl ?_|refine ydj rfl rfl (by omega) rfl rfl ?_|refine yfq rfl rfl rfl rfl ?_|refine ycw rfl rfl rfl rfl ?_|refine ydp rfl rfl rfl rfl ?_|refine yaz rfl rfl rfl rfl ?_|refine zI ?_|refine zL ?_|refine zC ?_|refine ycu ?_|refine yco ?_|refine zR ?_|refine zD ?_|refine zK ?_|refine zB ?_|refine zA ?_|refine zS ?_|refine zU ?_|refine zV ?_|refine zF ?_|refine zN ?_|with_reducible refine yat ?_|with_reducible refine ybg ?_|refine ybh ?_|refine ybf ?_|refine ybp ?_|refine zT ?_|refine zE ?_|refine zX ?_))
   exact yir (yob e x,acc) ⟨ysz e x,hacc⟩ hfar (by exact zs) (yag (by exact zh))
 ·rw [yex] at q6
  have q6:x=0#32:=by simpa [bne] using q6
  rw [q6,subsX_zero] at hacc
  (try refine zy ?_)
  refine yaf ?_;refine ⟨_,rfl,?_⟩
  refine Frz.tup2 (zsn ?_ (by rw [← hacc];simp)) Frz.pure
  rw [← hacc];simp;rfl
end
section
open Go.RowKit
theorem zou:∀ {l:List (Int × Int)} {P:Int} {x:Nat},x < l.length→(zax l P).1[x]?=some (zax (l.drop (x+1)) P).2
 | [],P,x,h=>by simp at h
 | r::rs,P,0,h=>by simp [zax]
 | r::rs,P,x+1,h=>by
  simp only [zax,List.getElem?_cons_succ,List.drop_succ_cons]
  exact zou (by simpa using h)
theorem zph:∀ {t:List (List (Int × Int))} {P:Int} {k:Nat} {r:List (Int × Int)},t[k]?=some r→(zay t P).1[k]?=some (zax r (zay (t.drop (k+1)) P).2).1
 | [],P,k,r,h=>by simp at h
 | r'::rs,P,0,r,h=>by
  simp only [List.getElem?_cons_zero,Option.some.injEq] at h
  subst h
  simp [zay]
 | r'::rs,P,k+1,r,h=>by
  simp only [zay,List.getElem?_cons_succ,List.drop_succ_cons]
  exact zph (by simpa using h)
theorem zcq {p:ProgD} {g:GraphD} (ht:zrk (yaj p g)) {n:Int} (hn:ykk (yaj p g)=(n,0)) {v:Nat} {b:List (Int × Int)} (hb:(yaj p g)[v]?=some b):∃ pl,(yjv p g)[v]?=some pl∧pl.length=b.length∧∀ (x:Nat) (q:Int),pl[x]?=some q→1≤q∧q≤32768:=by
 refine ⟨_,zph hb,yti _ _,fun x q hq=>?_⟩
 have hx:x < b.length:=by
  have:=(List.getElem?_eq_some_iff.1 hq).1
  rwa [yti] at this
 rw [zou hx] at hq
 cases hq
 exact zez ht hn hb (x+1)
def ymq (st mv pl:List Int):Nat→Int
 | 0=>0
 | x+1=>ymq st mv pl x+(mv.getD x 0 - st.getD x 0) * pl.getD x 0
def yhm (p:ProgD) (g:GraphD) (c:List (List Int)) (v:Nat):Int:=if zds p g c v=true then ymq (c.getD v []) (zqm p g c v) ((yjv p g).getD v []) p.vars.length else 0
def zfu (f:Nat→Int):List Nat→Int
 | []=>0
 | v::l=>f v+zfu f l
theorem zjg (f:Nat→Int):∀ (l:List Nat) (v:Nat),zfu f (l++[v])=zfu f l+f v
 | [],v=>by simp [zfu]
 | u::l,v=>by simp only [List.cons_append,zfu,zjg f l v];omega
theorem sumN_take {f:Nat→Int} {l:List Nat} {j v:Nat} (h:l[j]?=some v):zfu f (l.take (j+1))=zfu f (l.take j)+f v:=by rw [ybc h,zjg]
theorem zup {f:Nat→Int} {M:Int} (hM:0≤M) (hf:∀ v,-M≤f v∧f v≤M):∀ l:List Nat,-(l.length * M)≤zfu f l∧zfu f l≤l.length * M
 | []=>by simp [zfu]
 | v::l=>by
  obtain ⟨h1,h2⟩:=zup hM hf l
  obtain ⟨h3,h4⟩:=hf v
  have e:((v::l).length:Int) * M=l.length * M+M:=by rw [List.length_cons];rw [show ((l.length+1:Nat):Int)=(l.length:Int)+1 by omega,Int.add_mul,Int.one_mul]
  rw [e]
  simp only [zfu]
  omega
theorem zti {a b A B:Int} (h1:-A≤a) (h2:a≤A) (h3:1≤b) (h4:b≤B) (hA:0≤A):-(A * B)≤a * b∧a * b≤A * B:=by
 have g1:A * b≤A * B:=Int.mul_le_mul_of_nonneg_left h4 hA
 have g2:a * b≤A * b:=Int.mul_le_mul_of_nonneg_right h2 (by omega)
 have g3:-A * b≤a * b:=Int.mul_le_mul_of_nonneg_right h1 (by omega)
 rw [Int.neg_mul] at g3
 omega
theorem zth {p:ProgD} {g:GraphD} {c:List (List Int)} (h:CfgOk p g c) {v:Nat} (hv:v < c.length):(zqm p g c v).length=p.vars.length∧∀ a∈zqm p g c v,-1≤a∧a≤1000000:=by
 obtain ⟨r,hr⟩:=ycd hv
 have hs:=zlp (p:=p) (g:=g) (set:=1#32 <<< v) hr
 have h24:=h.n24
 have hl:=h.len
 have hb:(1#32 <<< v).getLsbD v=true:=by rw [BitVec.getLsbD_shiftLeft];simp;omega
 rw [if_pos hb] at hs
 have h':=h.step (1#32 <<< v)
 exact ⟨h'.rowlen _ (List.mem_of_getElem? hs),h'.bd _ (List.mem_of_getElem? hs)⟩
theorem yuh {l:List Int} {x:Nat} {a:Int} (h:l[x]?=some a):l.getD x 0=a:=by rw [List.getD_eq_getElem?_getD,h];rfl
theorem zee {st mv pl:List Int} {n:Nat} (hs:st.length=n) (hm:mv.length=n) (hp:pl.length=n) (h1:∀ a∈st,-1≤a∧a≤1000000) (h2:∀ a∈mv,-1≤a∧a≤1000000) (h3:∀ (x:Nat) (q:Int),pl[x]?=some q→1≤q∧q≤32768):∀ x:Nat,x≤n→-(x * 40000000000:Int)≤ymq st mv pl x∧ymq st mv pl x≤(x * 40000000000:Int)
 | 0,_=>by simp [ymq]
 | x+1,h=>by
  obtain ⟨i1,i2⟩:=zee hs hm hp h1 h2 h3 x (by omega)
  obtain ⟨a,ha⟩:=ycd (show x < st.length by omega)
  obtain ⟨b,hb⟩:=ycd (show x < mv.length by omega)
  obtain ⟨q,hq⟩:=ycd (show x < pl.length by omega)
  have a1:=h1 a (List.mem_of_getElem? ha)
  have b1:=h2 b (List.mem_of_getElem? hb)
  have q1:=h3 x q hq
  have:=zti (a:=b - a) (b:=q) (A:=1000001) (B:=32768) (by omega) (by omega) q1.1 q1.2 (by omega)
  simp only [ymq,yuh ha,yuh hb,yuh hq]
  omega
theorem znl {p:ProgD} {g:GraphD} {c:List (List Int)} (h:CfgOk p g c) {n:Int} (hn:ykk (yaj p g)=(n,0)) (v:Nat):-240000000000≤yhm p g c v∧yhm p g c v≤240000000000:=by
 unfold yhm
 split
 ·by_cases hv:v < c.length
  ·obtain ⟨st,hst⟩:=ycd hv
   obtain ⟨b,hb,hsb⟩:=h.row hst
   obtain ⟨pl,hpl,hl,hq⟩:=zcq (yis h.fair h.fit) hn hb
   obtain ⟨m1,m2⟩:=zth h hv
   have h6:=h.vars6
   have:=zee (st:=st) (mv:=zqm p g c v) (pl:=pl) (n:=p.vars.length) (h.rowlen _ (List.mem_of_getElem? hst)) m1 (by rw [hl,ytn hb]) (h.bd _ (List.mem_of_getElem? hst)) m2 hq p.vars.length (Nat.le_refl _)
   have e1:c.getD v []=st:=by rw [List.getD_eq_getElem?_getD,hst];rfl
   have e2:(yjv p g).getD v []=pl:=by rw [List.getD_eq_getElem?_getD,hpl];rfl
   rw [e1,e2]
   omega
  ·have e:(yjv p g)[v]?=none:=by
    rw [List.getElem?_eq_none_iff]
    have:=h.len
    simp only [yjv,yxn,yaj,List.length_map]
    omega
   have e2:(yjv p g).getD v []=[]:=by rw [List.getD_eq_getElem?_getD,e];rfl
   rw [e2]
   have:∀ x,ymq (c.getD v []) (zqm p g c v) [] x=0:=by
    intro x
    induction x with
    | zero=>rfl
    | succ x ih=>
     show ymq _ _ _ x+_ * ([]:List Int).getD x 0=0
     rw [ih];simp
   rw [this]
   omega
 ·omega
abbrev ArcD:=BitVec 32 × Int
def ynw (a:ArcD):List AV:=[ybi a.1,i64 a.2]
def ybl (l:List ArcD):AV:=.sl 2 (l.map ynw)
def xcf (p:ProgD) (g:GraphD) (c:List (List Int)) (k:Nat) (B:BitVec 32):ArcD:=(B,k+zfu (yhm p g c) (ycg B))
def ywa (p:ProgD) (g:GraphD) (kind:Int) (c:List (List Int)) (k:Nat):Option (BitVec 32 × List ArcD):=(zqr g kind (ykl p g c)).map fun l=>(ykl p g c,l.map (xcf p g c k))
def zum:Option (BitVec 32 × List ArcD)→AV
 | some (e,l)=>.tup [ybi e,ybl l,i64 0]
 | none=>.tup [ybi 0#32,ybl [],i64 3]
theorem stateA_pure:∀ o,yap (zum o)=true
 | some (e,l)=>rfl
 | none=>rfl
def yfw (l:List ArcD):List AV:=(l.map ynw).flatten
theorem zgw (l:List ArcD):(yfw l).length=2 * l.length:=by
 unfold yfw
 rw [yxl (k:=2) (fun x=>rfl)]
 omega
theorem zbu:∀ {l:List ArcD} {i:Nat},(yfw l).take (i * 2)=yfw (l.take i)
 | [],i=>by simp [yfw]
 | a::l,0=>by simp [yfw]
 | a::l,i+1=>by
  have ih:=zbu (l:=l) (i:=i)
  rw [show (i+1) * 2=i * 2+1+1 by omega]
  show ybi a.1::i64 a.2::(yfw l).take (i * 2)=_
  rw [ih];rfl
theorem zbs:∀ {l:List ArcD} {i:Nat},(yfw l).drop (i * 2)=yfw (l.drop i)
 | [],i=>by simp [yfw]
 | a::l,0=>by simp
 | a::l,i+1=>by
  have ih:=zbs (l:=l) (i:=i)
  rw [show (i+1) * 2=i * 2+1+1 by omega]
  show (yfw l).drop (i * 2)=_
  rw [ih];rfl
theorem flatA_app (a b:List ArcD):yfw (a++b)=yfw a++yfw b:=by simp [yfw]
theorem flatA_put {l:List ArcD} {i:Nat} {y:ArcD} (h:i < l.length):(yfw l).take (i * 2)++ynw y++(yfw l).drop (i * 2+2)=yfw (l.set i y):=by
 rw [List.set_eq_take_append_cons_drop,if_pos h,zbu,show i * 2+2=(i+1) * 2 by omega,zbs,flatA_app,List.append_assoc]
 rfl
theorem znd:∀ {l:List ArcD} {i:Nat} {y:ArcD},l[i]?=some y→(yfw l)[i * 2+1]?=some (i64 y.2)
 | [],i,y,h=>by simp at h
 | a::l,0,y,h=>by simp at h;subst h;rfl
 | a::l,i+1,y,h=>by
  rw [show (i+1) * 2+1=i * 2+1+1+1 by omega]
  show (yfw l)[i * 2+1]?=_
  exact znd (by simpa using h)
theorem zbt:∀ {l:List ArcD} {i:Nat} {B:BitVec 32} {x z:Int},l[i]?=some (B,x)→(yfw l).set (i * 2+1) (i64 z)=yfw (l.set i (B,z))
 | [],i,B,x,z,h=>by simp at h
 | a::l,0,B,x,z,h=>by simp at h;subst h;rfl
 | a::l,i+1,B,x,z,h=>by
  have ih:=zbt (l:=l) (i:=i) (B:=B) (x:=x) (z:=z) (by simpa using h)
  rw [show (i+1) * 2+1=i * 2+1+1+1 by omega]
  show ybi a.1::i64 a.2::(yfw l).set (i * 2+1) (i64 z)=_
  rw [ih];rfl
theorem zjf {e:BitVec 32}:∀ (n:Nat) (x:BitVec 32),zpu x e→∀ y∈ytl e n x,zpu y e
 | 0,x,_,y,h=>by simp [ytl] at h
 | n+1,x,hx,y,h=>by
  unfold ytl at h
  split at h
  ·simp at h
  ·rcases List.mem_cons.1 h with rfl|h
   ·exact hx
   ·exact zjf n _ (ysz e x) y h
theorem choV_sub {g:GraphD} {kind:Int} {e:BitVec 32} {l:List (BitVec 32)} (h:zqr g kind e=some l):∀ B∈l,∀ v,B.getLsbD v=true→e.getLsbD v=true:=by
 intro B hB v hv
 unfold zqr at h
 split at h
 ·cases h;simp at hB
 ·split at h
  ·cases h
  ·cases h
   unfold zwg at hB
   split at hB
   ·obtain ⟨u,hu,rfl⟩:=List.mem_map.1 hB
    have hu':=ymb.1 hu
    rw [BitVec.getLsbD_shiftLeft] at hv
    simp only [Bool.and_eq_true,Bool.not_eq_true',decide_eq_false_iff_not,decide_eq_true_eq,BitVec.getLsbD_one] at hv
    obtain rfl:v=u:=by omega
    exact hu'.2
   ·split at hB
    ·obtain rfl:=List.mem_singleton.1 hB;exact hv
    ·exact (zjf _ _ (zgv e) B (List.mem_filter.1 hB).1).bit hv
theorem zgx:∀ n:Nat,yke n [ybi 0#32,i64 0]=yfw (List.replicate n (0#32,0))
 | 0=>rfl
 | n+1=>by simp [yke,zgx n,List.replicate_succ,yfw,ynw]
def zfr (F:BitVec 32→ArcD) (l:List (BitVec 32)) (i:Nat):List ArcD:=(l.take i).map F++List.replicate (l.length - i) (0#32,0)
theorem arcK_len {F:BitVec 32→ArcD} {l:List (BitVec 32)} {i:Nat} (h:i≤l.length):(zfr F l i).length=l.length:=by simp [zfr];omega
theorem arcK_set {F:BitVec 32→ArcD} {l:List (BitVec 32)} {i:Nat} {B:BitVec 32} (h:l[i]?=some B):(zfr F l i).set i (F B)=zfr F l (i+1):=by
 have hi:=(List.getElem?_eq_some_iff.1 h).1
 unfold zfr
 rw [ybc h,List.set_append_right _ _ (by simp;omega)]
 obtain ⟨m,hm⟩:∃ m,l.length - i=m+1:=⟨l.length - i - 1,by omega⟩
 rw [show l.length - (i+1)=m by omega,hm]
 simp [List.replicate_succ,Nat.min_eq_left (Nat.le_of_lt hi)]
theorem arcK_end {F:BitVec 32→ArcD} {l:List (BitVec 32)}:zfr F l l.length=l.map F:=by simp [zfr]
theorem arcK_zero {F:BitVec 32→ArcD} {l:List (BitVec 32)}:zfr F l 0=List.replicate l.length (0#32,0):=by simp [zfr]
theorem setA_same {l:List AV} {k:Nat} {x:AV} (h:l[k]?=some x):l.set k x=l:=by
 apply List.ext_getElem?
 intro j
 rw [List.getElem?_set]
 split
 ·rename_i e
  subst e
  rw [h,if_pos (List.getElem?_eq_some_iff.1 h).1]
 ·rfl
theorem choL_len (g:GraphD) (kind:Int) (e:BitVec 32):(zwg g kind e).length≤4294967296:=by
 unfold zwg
 split
 ·rw [List.length_map];have:=yzi e;omega
 ·split
  ·simp
  ·refine Nat.le_trans (List.length_filter_le _ _) (Nat.le_trans (zac e _ _) ?_)
   omega
theorem zmp {g:GraphD} {kind:Int} {e:BitVec 32} {l:List (BitVec 32)} (h:zqr g kind e=some l):l.length≤4294967296:=by
 unfold zqr at h
 split at h
 ·cases h;simp
 ·split at h
  ·cases h
  ·cases h;exact choL_len g kind e
theorem arr_skip {f:Nat→Int} {n k:Nat} (h:k < n) (h0:f k=0):yro f n (k+1)=yro f n k:=by
 unfold yro
 rw [List.range_succ,List.map_append,List.append_assoc]
 congr 1
 obtain ⟨m,hm⟩:∃ m,n - k=m+1:=⟨n - k - 1,by omega⟩
 rw [show n - (k+1)=m by omega,hm]
 simp [List.replicate_succ,h0]
theorem arr_at {f:Nat→Int} {n k:Nat} (h:k < n):(yro f n k)[k]?=some 0:=by
 unfold yro
 rw [List.getElem?_append_right (by simp)]
 simp only [List.length_map,List.length_range,Nat.sub_self]
 rw [List.getElem?_replicate,if_pos (by omega)]
theorem arr_get {f:Nat→Int} {n k v:Nat} (h:k≤n) (hv:v < k):(yro f n k)[v]?=some (f v):=by
 unfold yro
 rw [List.getElem?_append_left (by simpa using hv)]
 simp [hv]
end
set_option maxHeartbeats 4000000
section
open Go.RowKit
def zzp (P:Program) (f:FuncId) (args:List AV) (r:AV):Prop:=
 yjf P f∧yap r=true∧∀ (ok0:Nat→Prop) (w:World) (us:List Value),ywf w→(∀ g,ok0 g→g < w.heap.size)→ybk ok0 w (fun _=>none) args us →
  Calls P f us.toArray w fun e w'=>∃ u,e=.returned u∧Rel (fun g=>w.heap.size≤g∧g < w'.heap.size) w' (fun _=>none) r u∧Below w.heap.size w w'
def zju (h:Nat→Option LObj) (x y:AV):Prop:=
 ∀ (B:Bse) (ok0:Nat→Prop) (lv:Live) (w:World) (u:Value),Inv B ok0 h lv w→Rel (yaw B ok0 lv w) w lv x u→Rel (fun g=>B.mine g∧g < w.heap.size) w (fun _=>none) y u
theorem zju.v {h:Nat→Option LObj} {x:Value}:zju h (.v x) (.v x):=fun B ok0 lv w u hi hr=>by cases hr;exact .v x
theorem Rel.flat {ok ok':Nat→Prop} {w:World} {lv:Live} {size:Nat} {rows:List (List AV)} {u:Value} (h:Rel ok w lv (.sl size rows) u) (hv:∀ row∈rows,∀ c∈row,∃ v,c=.v v) (hb:∀ g o len cap,u=.slice (some ⟨g,o,none⟩) len cap→ok' g):Rel ok' w lv (.sl size rows) u:=by
 cases h with
 | sl a cap uu g o hn hc ha hr hg hcell hrel=>
  refine .sl a cap uu g o hn hc ha hr (fun hne=>⟨(hg hne).1,hb g o _ _ (by rw [(hg hne).1])⟩) hcell fun i j row c h1 h2=>?_
  obtain ⟨v,rfl⟩:=hv row (List.mem_of_getElem? h1) c (List.mem_of_getElem? h2)
  have:=hrel i j row _ h1 h2
  generalize uu i j=q at this ⊢
  cases this
  exact .v v
theorem zju.ls {h:Nat→Option LObj} {id size len:Nat} {xs:List AV} {rows:List (List AV)} (hx:h id=some (.vec xs)) (hlen:rows.length=len) (hsize:∀ row∈rows,row.length=size) (hfl:rows.flatten=xs) (hv:∀ row∈rows,∀ c∈row,∃ v,c=.v v):zju h (.ls id size len) (.sl size rows):=by
 intro B ok0 lv w u hi hr
 have hp:∀ x∈xs,∀ i,ment i x=false:=fun x hm i=>by
  rw [← hfl] at hm
  obtain ⟨row,h1,h2⟩:=List.mem_flatten.1 hm
  obtain ⟨v,rfl⟩:=hv row h1 x h2
  rfl
 refine Rel.flat (Frz.ls (show ycl (h id)=some xs by rw [hx];rfl) hlen hsize hfl hp B ok0 lv w u hi hr) hv fun g o ln cap e=>?_
 subst e
 cases hr with
 | ls _ h1 hls=>
  obtain ⟨bo,n,g1,g2⟩:=hi.obj id _ hx
  have:=hls bo n g1
  cases bo with
  | none=>simp [xcd] at this
  | some b=>
   obtain ⟨cap',e,_⟩:=this
   cases e
   exact ⟨g2.1,g2.2.1⟩
theorem zju.tup3 {h:Nat→Option LObj} {a b c a' b' c':AV} (h1:zju h a a') (h2:zju h b b') (h3:zju h c c'):zju h (.tup [a,b,c]) (.tup [a',b',c']):=by
 intro B ok0 lv w u hi hr
 cases hr with
 | tup vs hl hrr=>
  refine .tup vs (by rw [hl];rfl) fun i x v hx hv=>?_
  match i with
  | 0=>cases hx;exact h1 B ok0 lv w v hi (hrr 0 _ _ rfl hv)
  | 1=>cases hx;exact h2 B ok0 lv w v hi (hrr 1 _ _ rfl hv)
  | 2=>cases hx;exact h3 B ok0 lv w v hi (hrr 2 _ _ rfl hv)
  | i+3=>simp at hx
def EndsN (T:Nat→Option Ty) (rs:List ResultVar) (y:AV):Exit→SS→Prop
 | .normal,s=>∃ x,yoe T s rs=some x∧zju s.h x y
 | .ret,s=>∃ x,yoe T s rs=some x∧zju s.h x y
 | _,_=>False
theorem con_ofN {P : Program} {T : Nat → Option Ty} (hT : TOK P T) {f : FuncId} {fn : Func} {c : Code} {N : Nat} {rs : List ResultVar} {args : List AV} {r : AV} (hf : P.funcs[f]? = some fn) (hn : (fn.name == "runtime.NumGoroutine") = false) (hb : fn.body = some c) (hN : fn.ntmps = N) (hrs : fn.results = rs.toArray) (hlen : (Nat.ble args.length N && Nat.ble N 1000000) = true) (hp : yap r = true)
  (h:A P N c (EndsN T rs r) (S (yel 0 args) [])):zzp P f args r:=by
 refine ⟨⟨fn,hf,hn,by simp [hb]⟩,hp,fun ok0 w us hG hok hus=>?_⟩
 simp only [Bool.and_eq_true,Nat.ble_eq] at hlen
 obtain ⟨hlen',hbig⟩:=hlen
 refine (callsIn_wide (n:=0)).1 (callsIn_of_wp_marks hf hb trivial ?_)
 have hst:S (yel 0 args) []=⟨zkc args,fun _=>none⟩:=by unfold S;rw [yix];rfl
 have hs:Sim (zwe w) ok0 N (S (yel 0 args) []) (fun _=>none) { tmps:=us.toArray++Array.replicate (fn.ntmps - us.toArray.size) undef,defers:=[] } w:=by
  rw [hst]
  refine ⟨⟨Based.start hG,hok,fun _ _=>rfl,(fun i j b n m h=>by cases h),(fun id x hx=>by cases hx)⟩,?_,fun x y hy=>?_,⟨[],rfl,List.nodup_nil,fun d hd=>by cases hd⟩,hbig,fun id b xs _ hx=>by cases hx⟩
  ·simp [hN,hus.1];omega
  ·have hlt:=(List.getElem?_eq_some_iff.1 hy).1
   refine ⟨.inl (by omega),?_⟩
   obtain ⟨u,hu⟩:∃ u,us[x]?=some u:=⟨_,List.getElem?_eq_getElem (by rw [hus.1];exact hlt)⟩
   rw [yct,if_pos (by omega)]
   simp only [yeo us _ x u hu]
   exact (hus.2 x y u hy hu).keep fun g hg=>⟨⟨.inl hg,hok g hg,fun id b n hb=>by cases hb⟩,rfl⟩
 refine wpIn_mono (h _ ok0 _ _ w hs) fun e a' w' ⟨s',lv',hq,hs'⟩=>?_
 have fin:∀ x,yoe T s' rs=some x→zju s'.h x r→∀ (a':Act) (w':World),Sim (zwe w) ok0 N s' lv' a' w'→∃ v,(results fn a'.tmps).run P w'=.ok v w'∧∃ u,Ending.returned v=.returned u∧Rel (fun g=>w.heap.size≤g∧g < w'.heap.size) w' (fun _=>none) r u∧Below w.heap.size w w':=by
  intro x hx hfz a' w' hs'
  obtain ⟨u,hu,hrun⟩:=yof hT hs' hrs hx
  exact ⟨u,hrun,u,rfl,(hfz _ _ _ _ _ hs'.inv hu).keep (fun g hg=>⟨⟨hg.1.elim (fun h=>h.elim) (fun h=>h),hg.2⟩,rfl⟩),hs'.inv.base.below⟩
 cases e with
 | normal=>obtain ⟨x,hx,hfz⟩:=hq;exact ybw rfl rfl (fin x hx hfz) _ a' w' rfl hs'
 | ret=>obtain ⟨x,hx,hfz⟩:=hq;exact ybw rfl rfl (fin x hx hfz) _ a' w' rfl hs'
 | _=>exact hq.elim
def zqq (h:Nat→Option LObj) (xs ys:List AV):Prop:=xs.length=ys.length∧∀ (i:Nat) (x y:AV),xs[i]?=some x→ys[i]?=some y→Frz h x y
theorem zqq.nil {h:Nat→Option LObj}:zqq h [] []:=⟨rfl,fun i x y hx=>by simp at hx⟩
theorem zqq.cons {h:Nat→Option LObj} {x y:AV} {xs ys:List AV} (h1:Frz h x y) (h2:zqq h xs ys):zqq h (x::xs) (y::ys):=by
 refine ⟨by simp [h2.1],fun i a b ha hb=>?_⟩
 cases i with
 | zero=>cases ha;cases hb;exact h1
 | succ i=>exact h2.2 i a b (by simpa using ha) (by simpa using hb)
theorem yield_callV {P:Program} {h:Nat→Option LObj} {ρ:Operand→Option AV} {g:Operand} {args:List Operand} {ats:Array TypeId} {ty:TypeId} {f:FuncId} {xs ys:List AV} {r:AV} (hf:ρ g=some (.fn f [])) (hx:evL ρ args=some xs) (hfz:zqq h xs ys) (hc:zzp P f ys r) :
  ybu P h ρ (.call { callee:=.value g,args:=args.toArray,argTypes:=ats }) ty r:=by
 intro B ok0 lv w a o ho hty hi hops K Q hK
 have hfr:=hops g _ (by simp [Op.operands,Call.operands]) hf
 have har:=yqu (a:=a) args xs (fun x y hm=>hops x y (by simp [Op.operands,Call.operands,hm])) hx
 generalize hv:a.eval g=v at hfr
 cases hfr with
 | fn vs hl hr=>
  have hvs:vs=[]:=List.eq_nil_of_length_eq_zero (by simpa using hl)
  subst hvs
  have hall:ybk (fun g=>(ok0 g∨B.mine g)∧g < w.heap.size) w (fun _=>none) ys (args.map a.eval):=by
   refine ⟨by rw [har.1,hfz.1],fun i y u hy hu=>?_⟩
   obtain ⟨x,hxi⟩:∃ x,xs[i]?=some x:=⟨_,List.getElem?_eq_getElem (by rw [hfz.1];exact (List.getElem?_eq_some_iff.1 hy).1)⟩
   exact hfz.2 i x y hxi hy B ok0 lv w u hi (har.2 i x u hxi hu)
  have hcall:=hc.2.2 _ w _ hi.base.glob (fun g hg=>hg.2) hall
  have hrun:(execOp a.eval o).run P w=.ok (.enter f (args.map a.eval).toArray) w:=by
   simp [execOp,ho,resolve,Deferred.ofValue,hv,invoke,yfh hc.1]
  unfold Oper.wp
  rw [hrun]
  refine hcall.mono fun e w' ⟨u,he,hrel,hb⟩=>?_
  subst he
  have hsz:B.w.heap.size≤w.heap.size:=hi.base.size
  refine hK u w' ((hrel.relive fun id b n _ hm=>by rw [yap.ment hc.2.1] at hm;cases hm).keep fun g hg=>⟨⟨.inr (.inr (by omega)),hg.2,fun id b n hb e=>?_⟩,rfl⟩) (hi.grow hb) hb
  subst e
  have:=(hi.mineOf ⟨id,n,hb⟩).2
  omega
section
variable {P:Program} {N:Nat} {ops:Array Oper} {lf:Oper→Bool} {Q:SS→Prop} {t:List (Nat × AV)} {h:List (Nat × Option LObj)} {rest:List Oper} {d:Nat} {ty:TypeId} {pos:String} {af:Array Edge} {gd:Option (Nat × Bool)} {r:AV}
theorem zrc {g:Operand} {args:List Operand} {ats:Array TypeId} {f:FuncId} {xs:List AV} (ys:List AV) (hc:zzp P f ys r) (hf:evF (look t) g=some (.fn f [])) (hx:evL (evF (look t)) args=some xs) (hfz:zqq (hlook h) xs ys)
  (hw:yah ops (look t) ⟨some d,.call { callee:=.value g,args:=args.toArray,argTypes:=ats },ty,pos,af,gd⟩=some true) (hd:Nat.blt d N=true) (k:Lex P N ops lf Q rest (S ((d,r)::t) h)):Lex P N ops lf Q (⟨some d,.call { callee:=.value g,args:=args.toArray,argTypes:=ats },ty,pos,af,gd⟩::rest) (S t h):=
 yby (yield_callV hf hx hfz hc) hw hd k
end
end
set_option maxHeartbeats 8000000
section
open Go.RowKit
theorem zmu {p:ProgD} {g:GraphD} {c:List (List Int)}:ykl p g c=ywj (zds p g c) c.length:=rfl
theorem state_conN {p:ProgD} {g:GraphD} {c:List (List Int)} (h:CfgOk p g c) {kind:Int} (hk:1≤kind∧kind≤4) {n:Int} (hn:ykk (yaj p g)=(n,0)) (k:Nat) (hkn:k≤32768):zzp Tryz.prog 81 [yfj p g kind,ykd c,i64 k] (zum (ywa p g kind c k)):=by
 have h24:=h.n24
 have hl:=h.len
 have h6:=h.vars6
 have ht:=yis h.fair h.fit
 refine con_ofN tok Tryz.func81 rfl rfl Tryz.ntmps81 Tryz.results81 rfl (stateA_pure _) ?_
 unfold yfj zua
 (try refine zy ?_)
 refine ycn (α:=Nat) (fun v=>[(23,i64 v),(22,i64 c.length),(9,ybi (ywj (zds p g c) v)),(10,.lp 10 0),(0,.dp [yfp p g,yxd g,i64 kind,ydv (yaj p g),.sl 1 ((yjv p g).map fun r=>[yam r])] 0),(1,ykd c),(2,i64 k)]) (fun v=>[(10,some (.cells ((yro (yhm p g c) 24 v).map i64)))]) (fun v=>c.length - v) (fun v=>v≤c.length) 0 (by omega) (by exact zs) (yag (yab rfl yae)) ?_
 intro v hv
 (try refine zy ?_)
 refine yac rfl (fun h1=>?_) (fun h1=>?_)
 ·simp at h1
  obtain ⟨st,hst⟩:=ycd h1
  obtain ⟨b,hb,hsb⟩:=h.row hst
  obtain ⟨pl,hpl,hpll,hplq⟩:=zcq ht hn hb
  have hsl:=h.rowlen st (List.mem_of_getElem? hst)
  have hpl6:pl.length=p.vars.length:=by rw [hpll,ytn hb]
  rcases (show zud p ⟨g,c,v⟩ < 0∨0≤zud p ⟨g,c,v⟩ by omega) with hr|hr
  ·(repeat (first|refine zy ?_|refine yad rfl rfl (ysv h h1) rfl rfl ?_))
   refine yac rfl (fun h2=>?_) (fun h2=>?_)
   ·(try refine zy ?_)
    have he:zds p g c v=false:=by simp only [zds];exact decide_eq_false (by omega)
    have e1:ywj (zds p g c) (v+1)=ywj (zds p g c) v:=by rw [ywj,he,if_neg (by simp)]
    have e2:yro (yhm p g c) 24 (v+1)=yro (yhm p g c) 24 v:=arr_skip (by omega) (by unfold yhm;rw [he,if_neg (by simp)])
    refine yir (v+1) (by omega) (by omega) ?_ (yag (yab (by rw [e2];rfl) yae))
    rw [e1]
    exact (by exact zs)
   ·simp at h2;omega
  ·obtain ⟨i,r,hi,hr'⟩:=zue hr
   have he:zds p g c v=true:=by simp only [zds];exact decide_eq_true hr
   obtain ⟨m1,m2⟩:=zth h h1
   have hrow:zyj p (yaj p g) ⟨g,c,v⟩ i=zqm p g c v:=by unfold zqm;rw [hi];rfl
   obtain ⟨mv,hmv⟩:∃ mv,zqm p g c v=mv:=⟨_,rfl⟩
   rw [hmv] at hrow m1 m2
   have hmo:=zhy h h1 hr'
   rw [hrow] at hmo
   have e1:ywj (zds p g c) (v+1)=ywj (zds p g c) v ||| (1#32 <<< v):=by rw [ywj,he,if_pos rfl]
   have b2:=zee (st:=st) (mv:=mv) (pl:=pl) hsl m1 hpl6 (h.bd st (List.mem_of_getElem? hst)) m2 hplq
   (repeat (first|refine yfr tok rfl (by constructor <;> omega) rfl rfl ?_|refine ycv rfl rfl (by omega) rfl rfl ?_|refine yfq rfl rfl rfl rfl ?_|refine yaz rfl rfl rfl rfl ?_|refine zI ?_|refine zL ?_|refine zC ?_|refine ycu ?_|refine yco ?_|refine zR ?_|refine zD ?_|refine zK ?_|refine zB ?_|refine zA ?_|refine zS ?_|refine zU ?_|refine zV ?_|refine zF ?_|with_reducible refine yat ?_|with_reducible refine ybg ?_|refine ybh ?_|refine ybf ?_|refine ybp ?_|refine zT ?_|refine zE ?_|refine zX ?_|refine L_nilCheck rfl rfl rfl rfl ?_|refine zN ?_|refine yad rfl rfl (ysv h h1) rfl rfl (yln 32 (y:=i64 i) rfl (yvo hi) ?_)|refine yad rfl rfl hmo rfl rfl ?_))
   refine ycn (α:=Nat) (fun x=>[(48,i64 x),(47,i64 mv.length),(46,yam mv),(11,i64 v),(9,ybi (ywj (zds p g c) v ||| (1#32 <<< v))),(23,i64 v),(22,i64 c.length),(10,.lp 10 0),(0,.dp [yfp p g,yxd g,i64 kind,ydv (yaj p g),.sl 1 ((yjv p g).map fun r=>[yam r])] 0),(1,ykd c),(2,i64 k)]) (fun x=>[(10,some (.cells (((yro (yhm p g c) 24 v).map i64).set v (i64 (ymq st mv pl x)))))]) (fun x=>mv.length - x) (fun x=>x≤mv.length) 0 (by omega) (by exact zs) ?_ ?_
   ·refine yag (yab ?_ yae)
    show some _=some _
    rw [show i64 (ymq st mv pl 0)=i64 0 from rfl,setA_same (by rw [List.getElem?_map,arr_at (by omega)];rfl)]
   intro x hx
   have b3:=b2 x (by omega)
   (try refine zy ?_)
   refine yac rfl (fun h3=>?_) (fun h3=>?_)
   ·simp at h3
    obtain ⟨a,ha⟩:=ycd (show x < st.length by omega)
    obtain ⟨m,hm⟩:=ycd h3
    obtain ⟨q,hq⟩:=ycd (show x < pl.length by omega)
    have a1:=h.bd st (List.mem_of_getElem? hst) a (List.mem_of_getElem? ha)
    have m3:=m2 m (List.mem_of_getElem? hm)
    have q1:=hplq x q hq
    have hb:=zti (a:=m - a) (b:=q) (A:=1000001) (B:=32768) (by omega) (by omega) q1.1 q1.2 (by omega)
    have hal:(((yro (yhm p g c) 24 v).map i64).set v (i64 (ymq st mv pl x))).length=24:=by rw [List.length_set,List.length_map,ytx (by omega)]
    have hat:(((yro (yhm p g c) 24 v).map i64).set v (i64 (ymq st mv pl x)))[0+(v:Int).toNat * 1]?=some (i64 (ymq st mv pl x)):=by
     rw [show (0+(v:Int).toNat * 1)=v by simp,List.getElem?_set_self (by rw [List.length_map,ytx (by omega)];omega)]
    (repeat (first|refine zy ?_|refine yda (r:=i64 (ymq st mv pl x)) tok rfl rfl rfl rfl hat rfl rfl ?_|refine yiu tok rfl rfl (by rw [ybb];rfl) (by intro h0;rw [h0] at hal;simp at hal) rfl (by omega) (by omega) rfl rfl ?_))
    refine zmb tok rfl rfl rfl rfl rfl ybb (by rw [hal];simp;omega) rfl rfl ?_
    (try refine zy ?_)
    have hg:ymq st mv pl x+(m - a) * q=ymq st mv pl (x+1):=by simp only [ymq,yuh ha,yuh hm,yuh hq]
    refine yir (x+1) (by omega) (by omega) (by exact zs) (yag (yab ?_ yae))
    rw [ybb,hg,show (0+(v:Int).toNat * 1)=v by simp,List.set_set];rfl
   ·simp at h3
    obtain rfl:x=mv.length:=by omega
    have hgv:yhm p g c v=ymq st mv pl mv.length:=by
     unfold yhm
     rw [if_pos he,hmv,m1]
     congr 1
     ·rw [List.getD_eq_getElem?_getD,hst];rfl
     ·rw [List.getD_eq_getElem?_getD,hpl];rfl
    (try refine zy ?_)
    refine yir (v+1) (by omega) (by omega) ?_ (yag (yab ?_ yae))
    ·rw [e1];exact (by exact zs)
    ·rw [ybb,← hgv,zrs (by omega)]
 ·simp at h1
  obtain rfl:v=c.length:=by omega
  rw [← zmu]
  have hE:InN g.ports.length (ykl p g c):=fun u hu=>by
   by_cases h32:u < 32
   ·rw [zmu,zfi _ _ _ h32,decide_eq_false (by omega)];rfl
   ·exact BitVec.getLsbD_of_ge _ _ (by omega)
  have hcho:=choices_con g h24 kind hk (ykl p g c) hE
  (repeat (first|with_reducible refine ybg ?_|with_reducible refine yat ?_|refine ybf ?_))
  refine zjt 10 ((yro (yhm p g c) 24 c.length).map i64) rfl rfl (by intro y hy;obtain ⟨b,_,rfl⟩:=List.mem_map.1 hy;rfl) ?_
  refine ypz (t':=[(9,ybi (ykl p g c)),(10,.lp 10 0),(0,.dp [yfp p g,yxd g,i64 kind,ydv (yaj p g),.sl 1 ((yjv p g).map fun r=>[yam r])] 0),(1,ykd c),(2,i64 k)]) (h':=[(10,some (.vec ((yro (yhm p g c) 24 c.length).map i64)))]) ?_ (by exact zs) (yag (yab rfl yae))
  unfold ywa
  cases hcv:zqr g kind (ykl p g c) with
  | none=>
   rw [hcv] at hcho
   (repeat (first|refine zy ?_|refine yad rfl rfl hcho rfl rfl ?_))
   refine yaf ?_;refine ⟨_,rfl,?_⟩
   exact zju.tup3 .v (fun B ok0 lv w u hi hr=>by cases hr;exact ypl) .v
  | some l=>
   rw [hcv] at hcho
   have hll:=zmp hcv
   (repeat (first|refine zy ?_|refine yad rfl rfl hcho rfl rfl ?_|refine ylm tok rfl rfl rfl rfl (by constructor <;> omega) rfl rfl rfl rfl rfl ?_))
   obtain ⟨F,hF⟩:∃ F,xcf p g c k=F:=⟨_,rfl⟩
   refine ycn (α:=Nat) (fun i=>[(101,i64 i),(100,i64 l.length),(99,yrk l),(17,.lp 17 0),(10,.lp 10 0),(9,ybi (ykl p g c)),(2,i64 k)]) (fun i=>[(17,some (.cells [.ls 98 2 l.length])),(98,some (.vec (yfw (zfr F l i)))),(10,some (.vec ((yro (yhm p g c) 24 c.length).map i64)))]) (fun i=>l.length - i) (fun i=>i≤l.length) 0 (by omega) (by exact zs) (yag (yab rfl (yab ?_ (yab rfl yae)))) ?_
   ·show some _=some _
    rw [arcK_zero,← zgx];rfl
   intro i hi
   (try refine zy ?_)
   refine yac rfl (fun q1=>?_) (fun q1=>?_)
   ·simp at q1
    obtain ⟨B,hB⟩:=ycd q1
    have hal:=arcK_len (F:=F) hi
    have hfl:(yfw (zfr F l i)).length=2 * l.length:=by rw [zgw,hal]
    have hBsub:=choV_sub hcv B (List.mem_of_getElem? hB)
    (repeat (first|refine zy ?_|refine yas tok rfl rfl rfl rfl (by omega) (by omega) rfl rfl ?_|refine L_storeV (cs:=ynw (B,(k:Int))) tok rfl rfl rfl rfl rfl rfl (by rw [hfl];simp [ynw];omega) (by intro h0;rw [h0] at hfl;simp at hfl;omega) rfl rfl rfl ?_|refine yxp [(1,901)] (yzh B) rfl rfl rfl rfl rfl rfl rfl yae rfl rfl rfl rfl rfl rfl ?_))
    refine zdi 901 rfl (yuq B) (fun _=>rfl) rfl (yzg B 114) rfl [(17,.lp 17 0),(18,.lp 18 0),(10,.lp 10 0),(101,i64 i),(100,i64 l.length),(99,yrk l),(9,ybi (ykl p g c)),(2,i64 k)] (by exact zs) rfl (fun j=>[(17,some (.cells [.ls 98 2 l.length])),(98,some (.vec (yfw ((zfr F l i).set i (B,k+zfu (yhm p g c) ((ycg B).take j)))))),(18,some (.cells [i64 i])),(10,some (.vec ((yro (yhm p g c) 24 c.length).map i64)))]) rfl ?_ rfl ?_ ?_
    ·refine yag (yab rfl (yab ?_ (yab rfl (yab rfl yae))))
     show some _=some _
     rw [← flatA_put (by omega)]
     simp [zfu,ynw]
    ·intro j el hel
     obtain ⟨v,hv,rfl⟩:=yuo hel
     have hin:=ymb.1 (List.mem_of_getElem? hv)
     have hvc:v < c.length:=by
      rcases Nat.lt_or_ge v c.length with h'|h'
      ·exact h'
      ·have:=hBsub v hin.2
       rw [hE v (by omega)] at this
       cases this
     have hgb:=znl h hn v
     have hsb:=zup (M:=240000000000) (by omega) (znl h hn) ((ycg B).take j)
     have hlj:((ycg B).take j).length≤32:=by rw [List.length_take];have:=yzi B;omega
     obtain ⟨Z,hZ⟩:∃ Z,zfu (yhm p g c) ((ycg B).take j)=Z:=⟨_,rfl⟩
     have hZ1:zfu (yhm p g c) ((ycg B).take (j+1))=Z+yhm p g c v:=by rw [sumN_take hv,hZ]
     rw [hZ] at hsb ⊢
     have hat0:((zfr F l i).set i (B,(k:Int)+Z))[i]?=some (B,(k:Int)+Z):=List.getElem?_set_self (by omega)
     have hat1:(yfw ((zfr F l i).set i (B,(k:Int)+Z)))[(i:Int).toNat * 2+1]?=some (i64 ((k:Int)+Z)):=by
      rw [show (i:Int).toNat=i by simp]
      exact znd hat0
     have hat2:((yro (yhm p g c) 24 c.length).map i64)[0+(v:Int).toNat * 1]?=some (i64 (yhm p g c v)):=by
      rw [show (0+(v:Int).toNat * 1)=v by simp,List.getElem?_map,arr_get (by omega) hvc];rfl
     have hfl2:(yfw ((zfr F l i).set i (B,(k:Int)+Z))).length=2 * l.length:=by rw [zgw,List.length_set,hal]
     have hfl3:yfw ((zfr F l i).set i (B,(k:Int)+Z))≠[]:=by intro h0;rw [h0] at hfl2;simp at hfl2;omega
     have hal2:((yro (yhm p g c) 24 c.length).map i64).length=24:=by rw [List.length_map,ytx (by omega)]
     (try refine zy ?_)
     refine ⟨rfl,?_⟩
     (repeat (first|refine zy ?_|refine yas tok rfl rfl rfl rfl (by omega) (by omega) rfl rfl ?_|refine L_fieldLp tok rfl rfl rfl rfl hfl3 rfl rfl ?_|refine yda (r:=i64 ((k:Int)+Z)) tok rfl rfl rfl rfl hat1 rfl rfl ?_|refine yiu tok rfl rfl rfl (by intro h0;rw [h0] at hal2;simp at hal2) rfl (by omega) (by omega) rfl rfl ?_|refine yda (r:=i64 (yhm p g c v)) tok rfl rfl rfl rfl hat2 rfl rfl ?_))
     refine yop tok rfl rfl rfl rfl rfl rfl (by rw [hfl2];simp;omega) rfl rfl rfl ?_
     (try refine zy ?_)
     refine zzg (by exact zs) (yag (yab rfl (yab rfl (yab ?_ (yab rfl (yab rfl yae))))))
     show some _=some _
     have e:=zbt (z:=(k:Int)+Z+yhm p g c v) hat0
     rw [List.set_set] at e
     rw [hZ1,← Int.add_assoc,← e,show (i:Int).toNat=i by simp];rfl
    ·rw [yup,List.take_length]
     have hnext:(zfr F l i).set i (B,(k:Int)+zfu (yhm p g c) (ycg B))=zfr F l (i+1):=by rw [← arcK_set hB,← hF];rfl
     rw [hnext]
     (try refine zy ?_)
     exact yir (i+1) (by omega) (by omega) (by exact zs) (yag (yab rfl (yab rfl (yab rfl yae))))
   ·simp at q1
    obtain rfl:i=l.length:=by omega
    (try refine zy ?_)
    refine yaf ?_;refine ⟨_,rfl,?_⟩
    rw [arcK_end]
    refine zju.tup3 .v (zju.ls (xs:=yfw (l.map F)) rfl (by simp) (fun row hr=>by obtain ⟨y,_,rfl⟩:=List.mem_map.1 hr;rfl) ?_ fun row hr x hx=>?_) .v
    ·subst hF;rfl
    ·obtain ⟨y,_,rfl⟩:=List.mem_map.1 hr
     rcases List.mem_cons.1 hx with rfl|hx
     ·exact ⟨_,rfl⟩
     ·obtain rfl:=List.mem_singleton.1 hx;exact ⟨_,rfl⟩
end
set_option maxHeartbeats 4000000
section
open Go.RowKit
def zxt (P:Program) (N:Nat) (o:Oper) (s:SS) (D:List PanicEntry→SS→Prop):Prop:=
 ∀ (B:Bse) (ok0:Nat→Prop) (lv:Live) (a:Act) (w:World),Sim B ok0 N s lv a w→∀ (K:Act→World→Prop) (Q:Exit→Act→World→Prop),(∀ ch a' w',(∃ s' lv',D ch s'∧Sim B ok0 N s' lv' a' w')→Q (.panic ch) a' w')→o.wp P a w K Q
variable {P:Program} {N:Nat}
theorem zxt.mono {o:Oper} {s:SS} {D D':List PanicEntry→SS→Prop} (h:zxt P N o s D) (hD:∀ c s',D c s'→D' c s'):zxt P N o s D':=
 fun B ok0 lv a w hs K Q hQ=>h B ok0 lv a w hs K Q fun ch a' w' ⟨s',lv',h1,h2⟩=>hQ ch a' w' ⟨s',lv',hD ch s' h1,h2⟩
variable {t:List (Nat × AV)} {h:List (Nat × Option LObj)} {ty:TypeId} {pos:String} {af:Array Edge} {gd:Option (Nat × Bool)}
end
section
open Go.RowKit
abbrev Runs:=Array Value→World→(Ending→World→Prop)→Prop
def zza (K:Runs) (args:List AV) (hs:Nat→Option LObj) (r:AV) (hs':Nat→Option LObj):Prop:=
 (∀ id o,hs' id=some o→isC o=true→∃ o',hs id=some o'∧isC o'=true)∧∀ (ok0:Nat→Prop) (lv:Live) (w:World) (us:List Value),Inv (yea w lv) ok0 hs lv w→ybk (yaw (yea w lv) ok0 lv w) w lv args us →
  K us.toArray w fun e w'=>∃ u lv',e=.returned u∧Rel (yaw (yea w lv) ok0 lv' w') w' lv' r u∧Inv (yea w lv) ok0 hs' lv' w'∧∀ id o,hs' id=some o→isC o=true→∃ b n n',lv id=some (some b,n)∧lv' id=some (some b,n')
def KD (P:Program) (f:FuncId) (u u':FrameMode):Runs:=fun us w R=>CallsDIn Fence.wide 0 P f us u w fun e u2 w'=>u2=u'∧R e w'
theorem KD.mono {P:Program} {f:FuncId} {u u':FrameMode} {us:Array Value} {w:World} {R R':Ending→World→Prop} (h:∀ e w',R e w'→R' e w') (hk:KD P f u u' us w R):KD P f u u' us w R':=
 CallsDIn.mono hk fun e u2 w' ⟨h1,h2⟩=>⟨h1,h _ _ h2⟩
section
variable {P:Program} {N:Nat}
theorem lendK {K:Runs} (hK:∀ (us:Array Value) (w:World) (R R':Ending→World→Prop),(∀ e w',R e w'→R' e w')→K us w R→K us w R') {args0:List AV} {hm hm':Nat→Option LObj} {r:AV} {σ:Nat→Nat} {ids:List Nat} {s s2:SS} {B:Bse} {ok0:Nat→Prop} {lv:Live} {a:Act} {w:World} {vs:List Value}
  (hs:Sim B ok0 N s lv a w) (hvs:ybk (yaw B ok0 lv w) w lv (args0.map (yec σ)) vs) (hc:zza K args0 hm r hm')
  (hinj:∀ i∈ids,∀ j∈ids,σ i=σ j→i=j) (hdom:∀ id,(hm id).isSome→id∈ids) (hdom':∀ id,(hm' id).isSome→id∈ids) (hmem:∀ id o,hm id=some o→s.h (σ id)=some (yxh σ o)) (hro:∀ id o,hm' id=some o→ynf ids o=true)
  (ht:∀ x y,s2.t x=some y→(y=.any∧∃ z,s.t x=some z)∨(s.t x=some y∧zzb σ ids hm' y))
  (hh1:∀ i∈ids,s2.h (σ i)=(hm' i).map (yxh σ)) (hh2:∀ j ob',(∀ i∈ids,σ i≠j)→s2.h j=some ob'→(∀ i∈ids,yez (σ i) ob'=false)∧∃ ob,s.h j=some ob∧ylb ob ob'):K vs.toArray w fun e w'=>∃ u lv2,e=.returned u∧Sim B ok0 N s2 lv2 a w':=by
 let lv1:Live:=fun id=>if id∈ids∧(hm id).isSome then lv (σ id) else none
 have hl1:∀ id b n,lv1 id=some (b,n)→id∈ids∧(hm id).isSome∧lv (σ id)=some (b,n):=by
  intro id b n hb
  simp only [lv1] at hb
  split at hb
  ·rename_i h;exact ⟨h.1,h.2,hb⟩
  ·cases hb
 have hl2:∀ id b n,lv1 id=some (b,n)→lv (σ id)=some (b,n):=fun id b n h=>(hl1 id b n h).2.2
 have hmine:∀ b,ybn lv1 b→B.mine b∧b < w.heap.size∧∃ i∈ids,∃ n,lv (σ i)=some (some b,n):=by
  rintro b ⟨id,n,hb⟩
  obtain ⟨h1,h2,h3⟩:=hl1 id _ n hb
  obtain ⟨_,_,h4,h5,_⟩:=hs.inv.lvat h3
  exact ⟨h4,h5,id,h1,n,h3⟩
 have hok1:∀ g,yaw B ok0 lv w g→yaw (yea w lv1) (yaw B ok0 lv w) lv1 w g:=fun g hg=>⟨.inl hg,hg.2.1,fun id b n hb=>hg.2.2 (σ id) b n (hl2 id _ n hb)⟩
 have hinv:Inv (yea w lv1) (yaw B ok0 lv w) hm lv1 w:=by
  refine ⟨⟨rfl,rfl,rfl,Nat.le_refl _,fun _ _ _=>rfl,hs.inv.base.glob,hs.inv.base.glob.size,fun k hk=>hs.inv.base.mineG (hmine k hk).1,fun l h=>by cases h⟩,fun g hg=>hg.2.1,fun id hid=>by simp [lv1,hid],fun i j b n m h1 h2=>?_,fun id x hx=>?_⟩
  ·obtain ⟨q1,_,q2⟩:=hl1 _ _ _ h1
   obtain ⟨r1,_,r2⟩:=hl1 _ _ _ h2
   exact hinj i q1 j r1 (hs.inv.inj _ _ b n m q2 r2)
  ·obtain ⟨b,n,h1,h2⟩:=hs.inv.obj (σ id) _ (hmem id x hx)
   have hlv:lv1 id=some (b,n):=by simp [lv1,hdom id (by simp [hx]),hx,h1]
   refine ⟨b,n,hlv,?_⟩
   cases b with
   | none=>exact zol h2
   | some b=>exact ⟨.inl ⟨id,n,hlv⟩,h2.2.1,ygt.unren hl2 hok1 h2.2.2⟩
 have hall:ybk (yaw (yea w lv1) (yaw B ok0 lv w) lv1 w) w lv1 args0 vs:=by
  refine ⟨by rw [hvs.1,List.length_map],fun i x u hx hu=>?_⟩
  have hrel:Rel (yaw B ok0 lv w) w lv (yec σ x) u:=hvs.2 i _ u (by simp [hx]) hu
  exact (Rel.unren hl2 hrel).keep fun g hg=>⟨hok1 g hg,rfl⟩
 refine hK _ _ _ _ (fun e w' ⟨u,lv3,he,hu,hi3,hpin⟩=>?_) (hc.2 (yaw B ok0 lv w) lv1 w vs hinv hall)
 have hb3:=hi3.base
 -- the blocks that are not lent stay
 have hstay:∀ k,k < w.heap.size→(∀ i∈ids,∀ n,lv (σ i)≠some (some k,n))→w'.heap[k]?=w.heap[k]?:=by
  intro k hk hn
  exact hb3.block k hk fun hlent=>by
   obtain ⟨_,_,i,hi,n,hn'⟩:=hmine k hlent
   exact hn i hi n hn'
 have hsz:w.heap.size≤w'.heap.size:=hb3.size
 have hmine3:∀ id b n,lv3 id=some (some b,n)→B.mine b∧b < w'.heap.size∧(w.heap.size≤b∨∃ i∈ids,∃ n,lv (σ i)=some (some b,n)):=by
  intro id b n hb
  obtain ⟨_,_,q1,q2,_⟩:=hi3.lvat hb
  rcases q1 with q1|q1
  ·have:=hmine b q1
   exact ⟨this.1,q2,.inr this.2.2⟩
  ·exact ⟨.inr (Nat.le_trans hs.inv.base.size q1),q2,.inl q1⟩
 have hid3:∀ id b n,lv3 id=some (b,n)→id∈ids:=fun id b n hb=>by
  cases hq:hm' id with
  | none=>rw [hi3.dom id hq] at hb;cases hb
  | some o=>exact hdom' id (by simp [hq])
 let find:Nat→Option Nat:=fun j=>ids.find? fun i=>σ i == j
 have hf1:∀ j i,find j=some i→i∈ids∧σ i=j:=fun j i h=>⟨List.mem_of_find?_eq_some h,by simpa using List.find?_some h⟩
 have hf2:∀ i∈ids,find (σ i)=some i:=fun i hi=>by
  cases hq:find (σ i) with
  | none=>
   have:=List.find?_eq_none.1 hq i hi
   simp at this
  | some k=>obtain ⟨h1,h2⟩:=hf1 _ _ hq;rw [hinj k h1 i hi h2]
 have hf3:∀ j,find j=none→∀ i∈ids,σ i≠j:=fun j h i hi e=>by
  have:=List.find?_eq_none.1 h i hi
  simp [e] at this
 let lv2:Live:=fun j=>match find j with
  | some i=>lv3 i
  | none=>if (s2.h j).isSome then lv j else none
 have hlv2a:∀ i∈ids,lv2 (σ i)=lv3 i:=fun i hi=>by simp only [lv2,hf2 i hi]
 have hlv2b:∀ j,(∀ i∈ids,σ i≠j)→∀ b n,lv2 j=some (b,n)→lv j=some (b,n)∧(s2.h j).isSome:=by
  intro j hj b n hb
  have hn:find j=none:=by
   cases hq:find j with
   | none=>rfl
   | some i=>obtain ⟨h1,h2⟩:=hf1 _ _ hq;exact absurd h2 (hj i h1)
  simp only [lv2,hn] at hb
  split at hb
  ·rename_i h;exact ⟨hb,h⟩
  ·cases hb
 have hcase:∀ j,(∃ i∈ids,σ i=j)∨∀ i∈ids,σ i≠j:=fun j=>by
  cases hq:find j with
  | none=>exact .inr (hf3 j hq)
  | some i=>obtain ⟨h1,h2⟩:=hf1 _ _ hq;exact .inl ⟨i,h1,h2⟩
 have hok2:∀ g,yaw B ok0 lv w g→yaw B ok0 lv2 w' g∧w'.heap[g]?=w.heap[g]?:=by
  intro g hg
  refine ⟨⟨hg.1,Nat.lt_of_lt_of_le hg.2.1 hsz,fun j b n hb=>?_⟩,hstay g hg.2.1 fun i _ n hn=>hg.2.2 _ _ n hn rfl⟩
  rcases hcase j with ⟨i,hi,rfl⟩|hj
  ·rw [hlv2a i hi] at hb
   rcases (hmine3 i b n hb).2.2 with h|⟨i',_,n',h⟩
   ·have:=hg.2.1;omega
   ·exact hg.2.2 _ _ n' h
  ·exact hg.2.2 j b n (hlv2b j hj _ n hb).1
 have hok3:∀ g,yaw (yea w lv1) (yaw B ok0 lv w) lv3 w' g→yaw B ok0 lv2 w' g:=by
  intro g hg
  refine ⟨?_,hg.2.1,fun j b n hb=>?_⟩
  ·rcases hg.1 with h|h|h
   ·exact h.1
   ·exact .inr (hmine g h).1
   ·exact .inr (.inr (Nat.le_trans hs.inv.base.size h))
  ·rcases hcase j with ⟨i,hi,rfl⟩|hj
   ·rw [hlv2a i hi] at hb
    exact hg.2.2 i b n hb
   ·obtain ⟨hb',_⟩:=hlv2b j hj _ n hb
    have hlt:=hs.inv.lvlt hb'
    rintro rfl
    rcases hg.1 with h|h|h
    ·exact h.2.2 j b n hb' rfl
    ·obtain ⟨_,_,i,hi,n',hn'⟩:=hmine b h
     exact hj i hi (hs.inv.inj _ _ b n' n hn' hb')
    ·simp only [yea] at h;omega
 have hren:∀ id b n,id∈ids→lv2 (σ id)=some (b,n)→lv3 id=some (b,n):=fun id b n hi hb=>by rwa [hlv2a id hi] at hb
 have hframe:∀ (y:AV) (z:Value),(∀ i∈ids,ment (σ i) y=false)→Rel (yaw B ok0 lv w) w lv y z→Rel (yaw B ok0 lv2 w') w' lv2 y z:=by
  intro y z hy hz
  refine (hz.relive fun j b n hb hm=>?_).keep hok2
  rcases hcase j with ⟨i,hi,rfl⟩|hj
  ·rw [hy i hi] at hm;cases hm
  ·exact (hlv2b j hj b n hb).1
 refine ⟨u,lv2,he,⟨⟨?_,hs.inv.ok0lt,fun j hj=>?_,fun i j b n m h1 h2=>?_,fun j x hx=>?_⟩,hs.size,fun x y hy=>?_,hs.defers.same (fun g hg=>(hstay g (Array.getElem?_eq_some_iff.1 hg).1 fun i hi n hn=>(hs.inv.lvat hn).choose_spec.2.2.2.notDef hg).trans hg),hs.big,fun j b ws hN hj hcj hb=>?_⟩⟩
 ·-- base
  refine ⟨hb3.os.trans hs.inv.base.os,hb3.tape.trans hs.inv.base.tape,hb3.output.trans hs.inv.base.output,Nat.le_trans hs.inv.base.size hsz,fun k hk hnl=>?_,hb3.glob,hs.inv.base.gsize,hs.inv.base.lentG,hs.inv.base.rdok⟩
  refine (hstay k (Nat.lt_of_lt_of_le hk hs.inv.base.size) fun i hi n hn=>?_).trans (hs.inv.base.block k hk hnl)
  obtain ⟨_,_,q1,_,_⟩:=hs.inv.lvat hn
  rcases q1 with q1|q1
  ·exact hnl q1
  ·omega
 ·-- dom
  rcases hcase j with ⟨i,hi,rfl⟩|hj'
  ·rw [hlv2a i hi]
   refine hi3.dom i ?_
   rw [hh1 i hi] at hj
   cases hq:hm' i with
   | none=>rfl
   | some o=>simp [hq] at hj
  ·cases hq:lv2 j with
   | none=>rfl
   | some q=>obtain ⟨q1,q2⟩:=q;have:=(hlv2b j hj' q1 q2 hq).2;simp [hj] at this
 ·-- inj
  rcases hcase i with ⟨i',hi,rfl⟩|hi <;> rcases hcase j with ⟨j',hj,rfl⟩|hj
  ·rw [hlv2a i' hi] at h1
   rw [hlv2a j' hj] at h2
   rw [hi3.inj i' j' b n m h1 h2]
  ·rw [hlv2a i' hi] at h1
   have h2':=(hlv2b j hj _ m h2).1
   have:=hs.inv.lvlt h2'
   rcases (hmine3 i' b n h1).2.2 with h|⟨k,hk,n',h⟩
   ·omega
   ·exact absurd (hs.inv.inj _ _ b n' m h h2') (hj k hk)
  ·rw [hlv2a j' hj] at h2
   have h1':=(hlv2b i hi _ n h1).1
   have:=hs.inv.lvlt h1'
   rcases (hmine3 j' b m h2).2.2 with h|⟨k,hk,n',h⟩
   ·omega
   ·exact absurd (hs.inv.inj _ _ b n' n h h1') (hi k hk)
  ·exact hs.inv.inj i j b n m (hlv2b i hi _ n h1).1 (hlv2b j hj _ m h2).1
 ·-- objects
  rcases hcase j with ⟨i,hi,rfl⟩|hj
  ·rw [hh1 i hi] at hx
   cases hq:hm' i with
   | none=>simp [hq] at hx
   | some ob=>
    simp only [hq,Option.map_some,Option.some.injEq] at hx
    subst hx
    obtain ⟨b,n,q1,q2⟩:=hi3.obj i ob hq
    refine ⟨b,n,by rw [hlv2a i hi];exact q1,?_⟩
    cases b with
    | none=>
     simp only [yfb] at q2 ⊢
     rcases q2 with rfl|⟨e,rfl⟩
     ·exact .inl rfl
     ·exact .inr ⟨e,rfl⟩
    | some b=>
     exact ⟨(hmine3 i b n q1).1,q2.2.1,ygt.ren hren (hro i ob hq) hok3 q2.2.2⟩
  ·obtain ⟨hm1,ob,hob,hfo⟩:=hh2 j x hj hx
   obtain ⟨b,n,q1,q2⟩:=hs.inv.obj j ob hob
   have hlv2:lv2 j=some (b,n):=by
    have hn:find j=none:=by
     cases hq:find j with
     | none=>rfl
     | some i=>obtain ⟨h1,h2⟩:=hf1 _ _ hq;exact absurd h2 (hj i h1)
    simp [lv2,hn,hx,q1]
   refine ⟨b,n,hlv2,?_⟩
   cases b with
   | none=>
    simp only [yfb] at q2 ⊢
    rcases hfo with rfl|⟨_,_,rfl,_⟩|⟨_,_,_,rfl,_⟩
    ·exact q2
    ·simp at q2
    ·simp at q2
   | some b=>
    obtain ⟨q3,q4,q5⟩:=q2
    have hbk:w'.heap[b]?=w.heap[b]?:=hstay b q4 fun i hi n' hn'=>hj i hi (hs.inv.inj _ _ b n' n hn' q1)
    refine ⟨q3,Nat.lt_of_lt_of_le q4 hsz,?_⟩
    rcases hfo with rfl|⟨zs,ys,rfl,rfl,hyl,hyz⟩|⟨te,zs,ys,rfl,rfl,hyl,hyz⟩
    ·refine (q5.relive (lv':=lv2) fun k b' n' hb' hmk=>?_).keep hok2 hbk
     rcases hcase k with ⟨i,hi,rfl⟩|hk
     ·rw [hm1 i hi] at hmk;cases hmk
     ·exact (hlv2b k hk b' n' hb').1
    ·obtain ⟨c,e,g1,g2,g3,g4,g5⟩:=q5
     refine ⟨c,e,by rw [hbk];exact g1,g2,by omega,fun y hy=>?_,fun k y z hy hz=>?_⟩
     ·obtain ⟨k,hk⟩:=List.getElem?_of_mem hy
      obtain ⟨x,hx⟩:∃ x,zs[k]?=some x:=⟨_,List.getElem?_eq_getElem (by have:=(List.getElem?_eq_some_iff.1 hk).1;omega)⟩
      rcases hyz k x y hx hk with rfl|rfl
      ·exact g4 _ (List.mem_of_getElem? hx)
      ·rfl
     ·obtain ⟨x,hx⟩:∃ x,zs[k]?=some x:=⟨_,List.getElem?_eq_getElem (by have:=(List.getElem?_eq_some_iff.1 hy).1;omega)⟩
      rcases hyz k x y hx hy with rfl|rfl
      ·refine hframe _ z (fun i hi=>?_) (g5 k _ z hx hz)
       exact yff hy (hm1 i hi)
      ·exact .one _ ((g5 k x z hx hz).oneCell (g4 x (List.mem_of_getElem? hx)))
    ·obtain ⟨⟨c,e,g1,g2,g3,g4,g5⟩,hsh⟩:=q5
     refine ⟨⟨c,e,by rw [hbk];exact g1,g2,by omega,fun y hy=>?_,fun k y z hy hz=>?_⟩,by rw [hyl];exact (yhx hbk).trans hsh⟩
     ·obtain ⟨k,hk⟩:=List.getElem?_of_mem hy
      obtain ⟨x,hx⟩:∃ x,zs[k]?=some x:=⟨_,List.getElem?_eq_getElem (by have:=(List.getElem?_eq_some_iff.1 hk).1;omega)⟩
      rcases hyz k x y hx hk with rfl|rfl
      ·exact g4 _ (List.mem_of_getElem? hx)
      ·rfl
     ·obtain ⟨x,hx⟩:∃ x,zs[k]?=some x:=⟨_,List.getElem?_eq_getElem (by have:=(List.getElem?_eq_some_iff.1 hy).1;omega)⟩
      rcases hyz k x y hx hy with rfl|rfl
      ·refine hframe _ z (fun i hi=>?_) (g5 k _ z hx hz)
       exact yff hy (hm1 i hi)
      ·exact .one _ ((g5 k x z hx hz).oneCell (g4 x (List.mem_of_getElem? hx)))
 ·-- frame
  rcases ht x y hy with ⟨rfl,z,hz⟩|⟨hz,hk⟩
  ·exact ⟨(hs.frame x z hz).1,.any _⟩
  ·refine ⟨(hs.frame x y hz).1,?_⟩
   have hold:=(hs.frame x y hz).2
   rcases hk with hk|⟨i,hi,off,o',hye,hci,hcc⟩
   ·exact hframe y _ hk hold
   ·have hlp:∀ z:Value,Rel (yaw B ok0 lv w) w lv (.lp (σ i) off) z→Rel (yaw B ok0 lv2 w') w' lv2 (.lp (σ i) off) z:=fun z hz=>by
     cases hz with
     | lp _ h1 h2=>
      refine .lp _ h1 fun b n hb=>?_
      rw [hlv2a i hi] at hb
      obtain ⟨b',n',n'',p1,p2⟩:=hpin i o' hci hcc
      rw [hb] at p2
      cases p2
      exact h2 b n' (hl2 i _ n' p1)
    rcases hye with rfl|⟨f',rfl⟩
    ·exact hlp _ hold
    ·generalize yct B a x=z at hold
     cases hold with
     | fm vs hvl hvr=>
      refine .fm vs hvl fun k c u h1 h2=>?_
      have h3:=hvr k c u h1 h2
      match k,h1 with
      | 0,h1=>
       simp only [List.getElem?_cons_zero,Option.some.injEq] at h1
       subst h1
       exact hlp _ h3
      | k+1,h1=>simp at h1
 ·-- pins
  rcases hcase j with ⟨i,hi,rfl⟩|hj'
  ·rw [hh1 i hi] at hj
   cases hq:hm' i with
   | none=>simp [hq] at hj
   | some ob=>
    simp only [hq,Option.map_some,Option.some.injEq] at hj
    subst hj
    rw [yxj] at hcj
    obtain ⟨b',n',n'',p1,p2⟩:=hpin i ob hq hcj
    obtain ⟨zs,hz,hzc⟩:=hc.1 i ob hq hcj
    obtain ⟨n,hn⟩:=hs.pin (σ i) b _ hN (hmem i _ hz) (by rw [yxj];exact hzc) hb
    rw [hl2 i _ n' p1] at hn
    cases hn
    exact ⟨n'',by rw [hlv2a i hi];exact p2⟩
  ·obtain ⟨_,ob,hys,hfo⟩:=hh2 j _ hj' hj
   have hcc:isC ob=true:=by
    rcases hfo with rfl|⟨xs',ys',rfl,_,_⟩|⟨e,xs',ys',rfl,_,_⟩
    ·exact hcj
    ·rfl
    ·rfl
   obtain ⟨n,hn⟩:=hs.pin j b ob hN hys hcc hb
   obtain ⟨b2,n2,q1,_⟩:=hs.inv.obj j _ hys
   rw [hn] at q1
   cases q1
   have hn':find j=none:=by
    cases hq:find j with
    | none=>rfl
    | some i=>obtain ⟨h1,h2⟩:=hf1 _ _ hq;exact absurd h2 (hj' i h1)
   exact ⟨n,by simp [lv2,hn',hj,hn]⟩
end
def yqs (P:Program) (R:World→Prop):List Deferred→World→Prop
 | [],w=>R w
 | d::ds,w=>∃ r w',d.target=.collected r∧(Instr.takeDeferred r).run P w=.ok [] w'∧yqs P R ds w'
theorem yjr {P:Program} {F:Fence} {n:Nat} {R:World→Prop}:∀ (ds:List Deferred) (w:World) (fr:Frame) (cs:List Frame),fr.mode=.returning→fr.defers=ds→F.fn fr.fn→F.room (cs.length+1+n)→yqs P R ds w →
  ∃ w',R w'∧StepsIn (Machine.fenced P F) P (lone fr cs w) (lone { fr with defers:=[] } cs w')
 | [],w,fr,cs,hm,hd,hF,hr,h=>⟨w,h,by rw [← hd];exact StepsIn.refl _⟩
 | d::ds,w,fr,cs,hm,hd,hF,hr,⟨r,w1,h1,h2,h3⟩=>by
  have hs:=step_collected (cs:=cs) (by rw [hm];simp) hd h1 h2
  have i1:(lone fr cs w).fenced P F:=fenced_out hF hr (by rw [hm];simp) hd (fun g hg=>by rw [h1] at hg;simp [Target.leads] at hg)
  obtain ⟨w2,g1,g2⟩:=yjr ds w1 { fr with defers:=[]++ds } cs hm rfl hF hr h3
  exact ⟨w2,g1,.head i1 hs g2⟩
theorem callsDIn_of_wp_marks {P:Program} {F:Fence} {n:Nat} {f:FuncId} {fn:Func} {c:Code} {args:Array Value} {u:FrameMode} {w:World} {R:Ending→World→Prop} (hf:P.funcs[f]?=some fn) (hb:fn.body=some c) (hF:F.fn f)
  (h:c.wpIn F n P (fun e a w'=>(e=.normal∨e=.ret)∧yqs P (fun w2=>∃ v,(results fn a.tmps).run P w2=.ok v w2∧R (.returned v) w2) a.defers w') { tmps:=args++Array.replicate (fn.ntmps - args.size) undef,defers:=[] } w) (hro:F.round=none:=by rfl) :
  CallsDIn F n P f args u w fun e u' w'=>u'=u∧R e w':=by
 refine ⟨hF,fun c₀ cs hu hr=>?_⟩
 let b:Frame:={ (default:Frame) with fn:=f,kind:=.deferred,roundOf:=none }
 have henter:Frame.enter P f args .deferred =
   b.atR { tmps:=args++Array.replicate (fn.ntmps - args.size) undef,defers:=[] } [.code c]:=by
  simp [Frame.enter,Frame.atR,hf,hb,b]
 have hc:({ c₀ with mode:=u }:Frame)=c₀:=by subst hu;rfl
 obtain ⟨e,a',w',⟨he,hq⟩,harr⟩:=h b [] (c₀::cs) hro.symm hF hr
 rw [← henter] at harr
 rcases he with rfl|rfl
 ·obtain ⟨w2,⟨v,g1,g2⟩,g3⟩:=yjr (F:=F) (n:=n) a'.defers w' { b.atR a' [] with mode:=.returning } (c₀::cs) rfl rfl hF hr hq
  exact ⟨.returned v,u,w2,_,⟨rfl,g2⟩,(by rw [hc];exact StepsIn.trans (StepsIn.trans harr (.one (fenced_calm (fr:=b.atR a' []) hF hr rfl) (stepR_end rfl))) g3),rfl,rfl,rfl,rfl,fn,hf,g1⟩
 ·obtain ⟨todo,hs⟩:=harr.1 rfl
  obtain ⟨w2,⟨v,g1,g2⟩,g3⟩:=yjr (F:=F) (n:=n) a'.defers w' { b.atR a' todo with mode:=.returning } (c₀::cs) rfl rfl hF hr hq
  exact ⟨.returned v,u,w2,_,⟨rfl,g2⟩,(by rw [hc];exact StepsIn.trans hs g3),rfl,rfl,rfl,rfl,fn,hf,g1⟩
theorem yst {P:Program} {Rw:World→Prop} {B:Bse} {ok0:Nat→Prop} {N:Nat} {s:SS} {lv:Live} {tm:Array Value} (hB:B.dl=[]) (fin:∀ (a:Act) (w:World),a.tmps=tm→Sim B ok0 N s lv a w→Rw w):∀ (ms:List Deferred) (a:Act) (w:World),a.tmps=tm→a.defers=ms→Sim B ok0 N s lv a w→yqs P Rw ms w
 | [],a,w,ht,hm,hs=>fin a w ht hs
 | d::ms,a,w,ht,hm,hs=>by
  obtain ⟨ms',h1,hn,h2⟩:=hs.defers
  rw [hB,List.append_nil,hm] at h1
  subst h1
  obtain ⟨D,hd,hD,hge⟩:=h2 d (by simp)
  refine ⟨D,_,by rw [hd],run_takeDeferred hD,?_⟩
  simp only [List.nodup_cons] at hn
  have hsh:=Shut.put hD
  have hs':=hs.shut hsh (fun k hk=>World.putObj_heap_other (by omega)) (l:=ms) ⟨ms,by rw [hB,List.append_nil],hn.2,fun d' hd'=>by
   obtain ⟨D',e1,e2,e3⟩:=h2 d' (by simp [hd'])
   refine ⟨D',e1,(World.putObj_heap_other fun e=>?_).trans e2,e3⟩
   subst e
   exact hn.1 (by rw [hd,← e1];exact hd')⟩
  exact yst hB fin ms { a with defers:=ms } _ ht rfl hs'
def bM (w:World) (lv:Live):Bse:=⟨w,ybn lv,fun id=>(lv id).bind (·.1),none,[],fun _=>undef⟩
theorem zse {N n:Nat} {args:List AV} {hs:Nat→Option LObj} {ok0:Nat→Prop} {lv:Live} {w:World} {us:List Value} (hN:n=N) (hlen:(Nat.ble args.length N && Nat.ble N 1000000)=true) (hi:Inv (yea w lv) ok0 hs lv w) (hus:ybk (yaw (yea w lv) ok0 lv w) w lv args us) :
  Sim (bM w lv) ok0 N ⟨look (yel 0 args),hs⟩ lv { tmps:=us.toArray++Array.replicate (n - us.toArray.size) undef,defers:=[] } w:=by
 simp only [Bool.and_eq_true,Nat.ble_eq] at hlen
 obtain ⟨hlen',hbig⟩:=hlen
 refine ⟨hi.pinned _ _ _ _ (fun l h=>by cases h),?_,fun x y hy=>?_,⟨[],rfl,List.nodup_nil,fun d hd=>by cases hd⟩,hbig,fun id b o hN hx hc hb=>?_⟩
 ·simp [hN,hus.1];omega
 ·simp only [yix] at hy
  have hlt:=(List.getElem?_eq_some_iff.1 hy).1
  refine ⟨.inl (by omega),?_⟩
  rw [yct,if_pos (by omega)]
  obtain ⟨u,hu⟩:∃ u,us[x]?=some u:=⟨_,List.getElem?_eq_getElem (by rw [hus.1];exact hlt)⟩
  simp only [yeo us _ x u hu]
  exact hus.2 x y u hy hu
 ·simp only [bM] at hb
  cases hl:lv id with
  | none=>simp [hl] at hb
  | some q=>obtain ⟨q1,q2⟩:=q;simp [hl] at hb;subst hb;exact ⟨q2,rfl⟩
theorem zyd {P:Program} {T:Nat→Option Ty} (hT:TOK P T) {fn:Func} {N:Nat} {rs:List ResultVar} {r x:AV} {hs hs':Nat→Option LObj} {ok0:Nat→Prop} {lv lv':Live} {w w':World} {s':SS} {a':Act} (hrs:fn.results=rs.toArray) (hcl:∀ id o,hs' id=some o→isC o=true→N≤id∧∃ o',hs id=some o'∧isC o'=true)
  (hi:Inv (yea w lv) ok0 hs lv w) (hs2:Sim (bM w lv) ok0 N s' lv' a' w') (hx:yoe T s' rs=some x) (hwk:Wk x r) (hsub:∀ id o,hs' id=some o→s'.h id=some o) :
  ∃ v,(results fn a'.tmps).run P w'=.ok v w'∧∃ u lv2,Ending.returned v=.returned u∧Rel (yaw (yea w lv) ok0 lv2 w') w' lv2 r u∧Inv (yea w lv) ok0 hs' lv2 w'∧∀ id o,hs' id=some o→isC o=true→∃ b n n',lv id=some (some b,n)∧lv2 id=some (some b,n'):=by
 obtain ⟨u,hu,hrun⟩:=yof (P:=P) hT hs2 hrs hx
 obtain ⟨lv2,i1,i2,i3⟩:=hs2.inv.weak hsub
 refine ⟨u,hrun,u,lv2,rfl,hwk.rel _ _ _ _ ((hu.relive fun id b n hb _=>i2 id b n hb).keep fun g hg=>⟨i3 g hg,rfl⟩),i1.pinned _ _ _ _ (fun l h=>by cases h),fun id o hx hc=>?_⟩
 obtain ⟨h1,o',hy,hc'⟩:=hcl id o hx hc
 obtain ⟨b,n,hb,ho⟩:=hi.obj id _ hy
 cases b with
 | none=>simp only [yfb] at ho;rcases ho with rfl|⟨e,rfl⟩ <;> cases hc'
 | some b=>
  obtain ⟨n',hn'⟩:=hs2.pin id b o h1 (hsub id _ hx) hc (by simp [bM,hb])
  obtain ⟨b2,n2,hb2,_⟩:=i1.obj id _ hx
  have:=i2 id b2 n2 hb2
  rw [hn'] at this
  cases this
  exact ⟨b,n,_,hb,hb2⟩
theorem conKD_of {P:Program} {T:Nat→Option Ty} (hT:TOK P T) {f:FuncId} {fn:Func} {c:Code} {N:Nat} {rs:List ResultVar} {args:List AV} {hs hs':Nat→Option LObj} {r:AV} (u:FrameMode) (hf:P.funcs[f]?=some fn) (hb:fn.body=some c) (hN:fn.ntmps=N) (hrs:fn.results=rs.toArray) (hlen:(Nat.ble args.length N && Nat.ble N 1000000)=true)
  (hcl:∀ id o,hs' id=some o→isC o=true→N≤id∧∃ o',hs id=some o'∧isC o'=true) (h:A P N c (zps T rs r hs') ⟨look (yel 0 args),hs⟩):zza (KD P f u u) args hs r hs':=by
 refine ⟨fun id o hx hc=>(hcl id o hx hc).2,fun ok0 lv w us hi hus=>callsDIn_of_wp_marks hf hb trivial ?_⟩
 refine wpIn_mono (h _ ok0 _ _ w (zse hN hlen hi hus)) fun e a' w' ⟨s',lv',hq,hs2⟩=>?_
 cases e with
 | normal=>obtain ⟨x,hx,h1,h2⟩:=hq;exact ⟨.inl rfl,yst (B:=bM w lv) (tm:=a'.tmps) rfl (fun a2 w2 ht hs3=>by have:=zyd hT hrs hcl hi hs3 hx h1 h2 (fn:=fn);rwa [ht] at this) _ a' w' rfl rfl hs2⟩
 | ret=>obtain ⟨x,hx,h1,h2⟩:=hq;exact ⟨.inr rfl,yst (B:=bM w lv) (tm:=a'.tmps) rfl (fun a2 w2 ht hs3=>by have:=zyd hT hrs hcl hi hs3 hx h1 h2 (fn:=fn);rwa [ht] at this) _ a' w' rfl rfl hs2⟩
 | _=>exact hq.elim
def bD (B:Bse) (lv:Live) (w:World) (dl:List Deferred) (gv:Nat→Value):Bse:=⟨w,ybn lv,B.pin,none,dl,gv⟩
theorem Sim.rebase {B:Bse} {ok0:Nat→Prop} {N:Nat} {s:SS} {lv:Live} {a:Act} {w:World} (hs:Sim B ok0 N s lv a w) (hlow:∀ x,1000000≤x→s.t x=none) (gv:Nat→Value):Sim (bD B lv w a.defers gv) (yaw B ok0 lv w) N s lv a w:=by
 have hm:∀ b,ybn lv b→B.mine b∧b < w.heap.size:=by
  rintro b ⟨id,n,hb⟩
  obtain ⟨_,_,h4,h5,_⟩:=hs.inv.lvat hb
  exact ⟨h4,h5⟩
 have hok:∀ g,yaw B ok0 lv w g→yaw (bD B lv w a.defers gv) (yaw B ok0 lv w) lv w g:=fun g hg=>⟨.inl hg,hg.2.1,hg.2.2⟩
 refine ⟨⟨⟨rfl,rfl,rfl,Nat.le_refl _,fun _ _ _=>rfl,hs.inv.base.glob,hs.inv.base.glob.size,fun k hk=>hs.inv.base.mineG (hm k hk).1,fun l h=>by cases h⟩,fun g hg=>hg.2.1,hs.inv.dom,hs.inv.inj,fun id x hx=>?_⟩,hs.size,fun x y hy=>?_,⟨[],rfl,List.nodup_nil,fun d hd=>by cases hd⟩,hs.big,hs.pin⟩
 ·obtain ⟨b,n,h1,h2⟩:=hs.inv.obj id x hx
  refine ⟨b,n,h1,?_⟩
  cases b with
  | none=>exact h2
  | some b=>exact ⟨.inl ⟨id,n,h1⟩,h2.2.1,h2.2.2.keep (fun g hg=>⟨hok g hg,rfl⟩) rfl⟩
 ·obtain ⟨h1,h2⟩:=hs.frame x y hy
  refine ⟨h1,?_⟩
  have hlt:x < 1000000:=by
   rcases Nat.lt_or_ge x 1000000 with h|h
   ·exact h
   ·rw [hlow x h] at hy;cases hy
  have e:yct (bD B lv w a.defers gv) a x=yct B a x:=by simp [yct,hlt]
  rw [e]
  exact h2.keep fun g hg=>⟨hok g hg,rfl⟩
theorem Sim.unbase {B:Bse} {ok0:Nat→Prop} {N:Nat} {s s':SS} {lv lv':Live} {a a':Act} {w w':World} {dl ds:List Deferred} {gv:Nat→Value} (hs:Sim B ok0 N s lv a w) (hrd:B.rd=none) (hs':Sim (bD B lv w dl gv) (yaw B ok0 lv w) N s' lv' a' w') (hds:zap B w' ds) (hlow:∀ x,1000000≤x→s'.t x=none):Sim B ok0 N s' lv' { a' with defers:=ds } w':=by
 have hm:∀ b,ybn lv b→B.mine b:=by
  rintro b ⟨id,n,hb⟩
  obtain ⟨_,_,h4,h5,_⟩:=hs.inv.lvat hb
  exact h4
 have hmine:∀ g,(bD B lv w dl gv).mine g→B.mine g:=by
  rintro g (h|h)
  ·exact hm g h
  ·exact .inr (Nat.le_trans hs.inv.base.size h)
 have hok:∀ g,yaw (bD B lv w dl gv) (yaw B ok0 lv w) lv' w' g→yaw B ok0 lv' w' g:=fun g hg=>⟨by
  rcases hg.1 with h|h
  ·exact h.1
  ·exact .inr (hmine g h),hg.2.1,hg.2.2⟩
 have hb:=hs'.inv.base
 have hw:=hs.inv.base
 refine ⟨⟨⟨hb.os.trans hw.os,hb.tape.trans hw.tape,hb.output.trans hw.output,Nat.le_trans hw.size hb.size,fun k hk hnl=>?_,hb.glob,hw.gsize,hw.lentG,fun l h=>by rw [hrd] at h;cases h⟩,hs.inv.ok0lt,hs'.inv.dom,hs'.inv.inj,fun id x hx=>?_⟩,hs'.size,fun x y hy=>?_,hds,hs'.big,hs'.pin⟩
 ·refine (hb.block k (Nat.lt_of_lt_of_le hk hw.size) fun h=>?_).trans (hw.block k hk hnl)
  rcases hm k h with h|h
  ·exact hnl h
  ·omega
 ·obtain ⟨b,n,h1,h2⟩:=hs'.inv.obj id x hx
  refine ⟨b,n,h1,?_⟩
  cases b with
  | none=>exact h2
  | some b=>exact ⟨hmine b h2.1,h2.2.1,h2.2.2.keep (fun g hg=>⟨hok g hg,rfl⟩) rfl⟩
 ·obtain ⟨h1,h2⟩:=hs'.frame x y hy
  refine ⟨h1,?_⟩
  have hlt:x < 1000000:=by
   rcases Nat.lt_or_ge x 1000000 with h|h
   ·exact h
   ·rw [hlow x h] at hy;cases hy
  have e:yct (bD B lv w dl gv) a' x=yct B { a' with defers:=ds } x:=by simp [yct,hlt]
  rw [e] at h2
  exact h2.keep fun g hg=>⟨hok g hg,rfl⟩
theorem ysn {P:Program} {fn:Func} {R:Ending→World→Prop} {B:Bse} {ok0:Nat→Prop} {N n:Nat} {s:SS} {lv:Live} {u:FrameMode} (hu:u≠.run) {tm:Array Value}
  (fin:∀ (a:Act) (w:World),a.tmps=tm→Sim B ok0 N s lv a w→LeavesInM Fence.wide n P fn tm R B.dl u w):∀ (ms:List Deferred) (a:Act) (w:World),a.tmps=tm→a.defers=ms++B.dl→ms.Nodup →
   (∀ d∈ms,∃ D,d={ target:=.collected D,args:=#[] }∧w.heap[D]?=some (.deferred (some []))∧B.w.heap.size≤D)→Sim B ok0 N s lv a w→LeavesInM Fence.wide n P fn tm R (ms++B.dl) u w
 | [],a,w,ht,hd,hn,h2,hs=>fin a w ht hs
 | d::ms,a,w,ht,hd,hn,h2,hs=>by
  obtain ⟨D,hdd,hD,hge⟩:=h2 d (by simp)
  refine ⟨hu,.inl ⟨D,_,by rw [hdd],run_takeDeferred hD,?_⟩⟩
  simp only [List.nodup_cons] at hn
  have hsh:=Shut.put hD
  have hrest:∀ d'∈ms,∃ D',d'={ target:=.collected D',args:=#[] }∧(w.putObj D (.deferred none)).heap[D']?=some (.deferred (some []))∧B.w.heap.size≤D':=fun d' hd'=>by
   obtain ⟨D',e1,e2,e3⟩:=h2 d' (by simp [hd'])
   refine ⟨D',e1,(World.putObj_heap_other fun e=>?_).trans e2,e3⟩
   subst e
   exact hn.1 (by rw [hdd,← e1];exact hd')
  have hs':=hs.shut hsh (fun k hk=>World.putObj_heap_other (by omega)) (l:=ms++B.dl) ⟨ms,rfl,hn.2,hrest⟩
  exact ysn hu fin ms { a with defers:=ms++B.dl } _ ht rfl hn.2 hrest hs'
def zzt (P:Program) (N:Nat) (B:Bse) (ok0:Nat→Prop) (Q:Option (FuncId × Nat)→Exit→SS→Prop) (e:Exit) (a':Act) (w':World):Prop:=
 (∃ s' lv',Q none e s'∧Sim B ok0 N s' lv' a' w') ∨
 ∃ (g:FuncId) (vs:List Value) (d:Deferred) (s0:SS) (lv0:Live) (a0:Act) (w0:World) (s':SS) (lv':Live),Sim B ok0 N s0 lv0 a0 w0∧(∃ fv cap,d.target=.fn fv cap∧∀ w,(invoke (.fn fv cap) d.args).run P w=.ok (.enter g vs.toArray) w) ∧
  Q (some (g,vs.length)) e s'∧Sim (bD B lv0 w0 (d::a0.defers) (fun x=>vs.getD (x - 1000000) undef)) (yaw B ok0 lv0 w0) N s' lv' a' w'
def AF (P:Program) (N:Nat) (c:Code) (Q:Option (FuncId × Nat)→Exit→SS→Prop) (s:SS):Prop:=
 ∀ (B:Bse) (ok0:Nat→Prop) (lv:Live) (a:Act) (w:World),B.rd=none→B.dl=[]→Sim B ok0 N s lv a w→c.wpIn Fence.wide 0 P (zzt P N B ok0 Q) a w
section
variable {P:Program} {N:Nat} {Q:Option (FuncId × Nat)→Exit→SS→Prop} {s:SS}
theorem zqw {c:Code} (h:A P N c (Q none) s):AF P N c Q s:=fun B ok0 lv a w hrd hdl hs=>by
 have:=h B ok0 lv a w hs
 rw [hrd] at this
 exact wpIn_mono this fun e a' w' ⟨s',lv',h1,h2⟩=>.inl ⟨s',lv',h1,h2⟩
def ThenF (P:Program) (N:Nat) (y:Code) (Q:Option (FuncId × Nat)→Exit→SS→Prop):Option (FuncId × Nat)→Exit→SS→Prop
 | none,.normal,s=>AF P N y Q s
 | some D,.normal,s=>A P N y (Q (some D)) s
 | D,e,s=>Q D e s
theorem zlw {x y:Code} (h:AF P N x (ThenF P N y Q) s):AF P N (.seq x y) Q s:=by
 intro B ok0 lv a w hrd hdl hs
 refine wpIn_seq (wpIn_mono (h B ok0 lv a w hrd hdl hs) fun e a' w' hp=>?_)
 rcases hp with ⟨s',lv',h1,h2⟩|⟨g,vs,d,s0,lv0,a0,w0,s',lv',p1,p2,p3,p4⟩
 ·cases e with
  | normal=>exact h1 B ok0 lv' a' w' hrd hdl h2
  | _=>exact .inl ⟨s',lv',h1,h2⟩
 ·cases e with
  | normal=>exact wpIn_mono (p3 _ _ lv' a' w' p4) fun e a2 w2 ⟨s2,lv2,q1,q2⟩=>.inr ⟨g,vs,d,s0,lv0,a0,w0,s2,lv2,p1,p2,q1,q2⟩
  | _=>exact .inr ⟨g,vs,d,s0,lv0,a0,w0,s',lv',p1,p2,p3,p4⟩
theorem yyt {ops:Array Oper} {lf:Oper→Bool} {Q:SS→Prop} {B:Bse} {ok0:Nat→Prop} {Q':Exit→Act→World→Prop} {n:Nat} {rest:List Nat} (hQ:∀ s lv a w,Q s→Sim B ok0 N s lv a w→wpOpsIn (FW B.rd) n P ops Q' rest a w) {l:List Oper} {s:SS}
  (h:Lex P N ops lf Q l s):ygg l=true→∀ (k:Nat),(∀ (j:Nat) (o:Oper),l[j]?=some o→ops[k+j]?=some o)→∀ (lv:Live) (a:Act) (w:World),Sim B ok0 N s lv a w→wpOpsIn (FW B.rd) n P ops Q' (List.range' k l.length++rest) a w:=by
 induction h with
 | nil h=>intro hnd k hl lv a w hs;exact hQ _ lv a w h hs
 | @calm o l s r hw hd hy k ih=>
  intro hnd k hl lv a w hs
  simp only [ygg,List.all_cons,Bool.and_eq_true,Bool.not_eq_true'] at hnd
  have h0:ops[k]?=some o:=by simpa using hl 0 o rfl
  simp only [List.length_cons,List.range'_succ,List.cons_append,wpOpsIn,h0,hs.wanted hw,if_true]
  exact ymu hnd.1 (zfp hs hd hy Q' fun a' w' hs'=>ih hnd.2 (k+1) (fun j o' ho'=>by have:=hl (j+1) o' (by simpa using ho');rwa [show k+(j+1)=k+1+j by omega] at this) lv a' w' hs')
 | @skip o l s hw hd k ih=>
  intro hnd k hl lv a w hs
  simp only [ygg,List.all_cons,Bool.and_eq_true,Bool.not_eq_true'] at hnd
  have h0:ops[k]?=some o:=by simpa using hl 0 o rfl
  simp only [List.length_cons,List.range'_succ,List.cons_append,wpOpsIn,h0,hs.wanted hw,Bool.false_eq_true,if_false]
  exact ⟨fun _ _=>trivial,ih hnd.2 (k+1) (fun j o' ho'=>by have:=hl (j+1) o' (by simpa using ho');rwa [show k+(j+1)=k+1+j by omega] at this) lv _ w (hs.put hd hs.inv (Below.refl _ _) (.v _))⟩
 | @loud o l s R hl' hw hy k ih=>
  intro hnd k hl lv a w hs
  simp only [ygg,List.all_cons,Bool.and_eq_true,Bool.not_eq_true'] at hnd
  have h0:ops[k]?=some o:=by simpa using hl 0 o rfl
  simp only [List.length_cons,List.range'_succ,List.cons_append,wpOpsIn,h0,hs.wanted hw,if_true]
  refine ymu hnd.1 (Oper.wp_mono (fun a' w' ⟨s',lv',hR,hs'⟩=>?_) (hy B ok0 lv a w hs Q'))
  exact ih s' hR hnd.2 (k+1) (fun j o' ho'=>by have:=hl (j+1) o' (by simpa using ho');rwa [show k+(j+1)=k+1+j by omega] at this) lv' a' w' hs'
 | @split l s d b hb k ih=>
  intro hnd k hl lv a w hs
  refine ih b rfl hnd k hl lv a w ?_
  rw [ykb hb]
  exact hs
theorem ynk {lf:Oper→Bool} {id:Nat} {l:List Oper} (k:Nat) {o:Oper} {l1 l2:List Oper} {g:Operand} {args:List Operand} {ats:Array TypeId} (hk:l[k]?=some o) (h1:l.take k=l1) (h2:l.drop (k+1)=l2) (hn1:ygg l1=true) (hn2:ygg l2=true) (ho:o.op=.defer { callee:=.value g,args:=args.toArray,argTypes:=ats }) (hdst:ytt N o)
  (h:Lex P N l.toArray lf (fun s1=>yah l.toArray s1.t o=some true∧∃ f caps xs,yjf P f∧evF s1.t g=some (.fn f caps)∧evL (evF s1.t) args=some xs∧(∀ x,1000000≤x→s1.t x=none) ∧
   Lex P N l.toArray lf (Q (some (f,xs.length+caps.length)) .normal) l2 ⟨fun x=>if 1000000≤x then (xs++caps)[x - 1000000]? else yes s1.t o.dst (.v undef) x,s1.h⟩) l1 s):AF P N (.region id l.toArray false) Q s:=by
 intro B ok0 lv a w hrd hdl hs
 have hlt:=(List.getElem?_eq_some_iff.1 hk).1
 have hlen:l1.length=k:=by rw [← h1,List.length_take];omega
 have hlen2:l2.length=l.length - k - 1:=by rw [← h2,List.length_drop];omega
 have hFW:FW B.rd=Fence.wide:=by rw [hrd];rfl
 refine wpIn_region ?_
 have hsp:List.range l.toArray.size=List.range' 0 l1.length++(k::(List.range' (k+1) l2.length++[])):=by
  rw [List.append_nil,List.size_toArray,List.range_eq_range',hlen,hlen2]
  have e:l.length=k+((l.length - k - 1)+1):=by omega
  conv=>lhs;rw [e]
  rw [← List.range'_append_1,Nat.zero_add,List.range'_succ]
 rw [hsp,← hFW]
 refine yyt (fun s1 lv1 a1 w1 hq hs1=>?_) h hn1 0 (fun j o' ho'=>?_) lv a w hs
 ·have h0:l.toArray[k]?=some o:=by simpa using hk
  obtain ⟨hwt,f,caps,xs,hbody,hg,hx,hlow,hlex⟩:=hq
  simp only [wpOpsIn,h0,hs1.wanted hwt,if_true]
  have hfr:=hs1.eval hg
  have har:=yqu (a:=a1) args xs (fun x y _ hxy=>hs1.eval hxy) hx
  generalize hv:a1.eval g=v at hfr
  cases hfr with
  | fn vs hl hrc=>
  let d:Deferred:={ target:=.fn (.func f) vs.toArray,args:=(args.map a1.eval).toArray }
  have hrun:(o.semAt (FW B.rd).round a1.eval).run P w1=.ok (.defer d) w1:=by
   rw [hFW]
   unfold Oper.semAt execOp
   simp only [ho,Fence.wide,resolve,Deferred.ofValue,hv,Sem.run_bind,Sem.run_pure,Result.andThen_ok]
   simp [d]
  refine ⟨fun _ _=>by rw [hFW];trivial,?_⟩
  rw [hrun,Oper.uponIn_defer]
  let gv:Nat→Value:=fun x=>(args.map a1.eval++vs).getD (x - 1000000) undef
  have hreb:=hs1.rebase hlow gv
  have hsim:Sim (bD B lv1 w1 (d::a1.defers) gv) (yaw B ok0 lv1 w1) N ⟨fun x=>if 1000000≤x then (xs++caps)[x - 1000000]? else yes s1.t o.dst (.v undef) x,s1.h⟩ lv1 ({ a1 with defers:=d::a1.defers }.put o.dst undef) w1:=by
   refine ⟨hreb.inv.pinned _ none _ _ (fun l h=>by cases h),?_,fun x y hy=>?_,⟨[],?_,List.nodup_nil,fun d hd=>by cases hd⟩,hs1.big,hs1.pin⟩
   ·cases hd:o.dst <;> simp [Act.put,hs1.size]
   ·simp only at hy
    split at hy
    ·rename_i hge
     refine ⟨.inr hge,?_⟩
     have e:yct (bD B lv1 w1 (d::a1.defers) gv) ({ a1 with defers:=d::a1.defers }.put o.dst undef) x=gv x:=by simp only [yct];rw [if_neg (by omega)];rfl
     rw [e]
     have hval:∃ u,(args.map a1.eval++vs)[x - 1000000]?=some u∧Rel (yaw B ok0 lv1 w1) w1 lv1 y u:=by
      by_cases hxl:x - 1000000 < xs.length
      ·rw [List.getElem?_append_left hxl] at hy
       have hl2:x - 1000000 < (args.map a1.eval).length:=by rw [har.1];exact hxl
       exact ⟨(args.map a1.eval)[x - 1000000],by rw [List.getElem?_append_left hl2,List.getElem?_eq_getElem hl2],har.2 _ y _ hy (List.getElem?_eq_getElem hl2)⟩
      ·rw [List.getElem?_append_right (by omega)] at hy
       have hl2:x - 1000000 - xs.length < vs.length:=by have:=(List.getElem?_eq_some_iff.1 hy).1;rw [hl];exact this
       exact ⟨vs[x - 1000000 - xs.length],by rw [List.getElem?_append_right (by rw [har.1];omega),har.1,List.getElem?_eq_getElem hl2],hrc _ y _ hy (List.getElem?_eq_getElem hl2)⟩
     obtain ⟨u,hu1,hu2⟩:=hval
     have:gv x=u:=by simp only [gv,List.getD_eq_getElem?_getD,hu1,Option.getD_some]
     rw [this]
     exact hu2.keep fun g hg=>⟨⟨.inl hg,hg.2.1,hg.2.2⟩,rfl⟩
    ·rename_i hge
     have hput:=(hreb.put (d:=o.dst) (u:=undef) hdst hreb.inv (Below.refl _ _) (.v _)).frame x y hy
     refine ⟨hput.1,?_⟩
     have e:yct (bD B lv1 w1 (d::a1.defers) gv) ({ a1 with defers:=d::a1.defers }.put o.dst undef) x=yct (bD B lv1 w1 a1.defers gv) (a1.put o.dst undef) x:=by
      simp only [yct]
      rw [if_pos (by omega),if_pos (by omega)]
      cases o.dst <;> rfl
     rw [e]
     exact hput.2
   ·cases hd:o.dst <;> rfl
  have hrest:=yyt (B:=bD B lv1 w1 (d::a1.defers) gv) (ok0:=yaw B ok0 lv1 w1) (Q':=zzt P N B ok0 Q) (n:=0) (rest:=[]) (fun s2 lv2 a2 w2 hq2 hs2=>?_) hlex hn2 (k+1) (fun j o' ho'=>?_) lv1 _ w1 hsim
  ·rw [hFW];exact hrest
  ·refine .inr ⟨f,args.map a1.eval++vs,d,s1,lv1,a1,w1,s2,lv2,hs1,⟨.func f,vs.toArray,rfl,fun w=>?_⟩,?_,hs2⟩
   ·simp only [invoke,d]
    rw [yfh hbody]
    simp
   ·rw [List.length_append,har.1,hl];exact hq2
  ·rw [← h2,List.getElem?_drop] at ho'
   simpa using ho'
 ·rw [← h1,List.getElem?_take] at ho'
  split at ho'
  ·rw [Nat.zero_add];simpa using ho'
  ·cases ho'
def znx:Exit→Option FrameMode
 | .normal=>some .returning
 | .ret=>some .returning
 | .panic ch=>some (.panicking ch)
 | _=>none
def zzq (P:Program) (T:Nat→Option Ty) (rs:List ResultVar) (r:AV) (hs':Nat→Option LObj):Option (FuncId × Nat)→Exit→SS→Prop
 | none,e,s=>zps T rs r hs' e s
 | some (g,n),e,s=>∃ (u u':FrameMode) (args0:List AV) (hm:Nat→Option LObj) (v:AV) (hm':Nat→Option LObj) (σ:Nat→Nat) (ids:List Nat) (s2:SS),znx e=some u∧settle u'=.returning∧args0.length=n∧(∀ i x,args0[i]?=some x→s.t (1000000+i)=some (yec σ x))∧zza (KD P g u u') args0 hm v hm' ∧
   ((∀ i∈ids,∀ j∈ids,σ i=σ j→i=j)∧(∀ id,(hm id).isSome→id∈ids)∧(∀ id,(hm' id).isSome→id∈ids)∧(∀ id o,hm id=some o→s.h (σ id)=some (yxh σ o))∧(∀ id o,hm' id=some o→ynf ids o=true) ∧
    (∀ x y,s2.t x=some y→(y=.any∧∃ z,s.t x=some z)∨(s.t x=some y∧zzb σ ids hm' y))∧(∀ i∈ids,s2.h (σ i)=(hm' i).map (yxh σ))∧∀ j ob',(∀ i∈ids,σ i≠j)→s2.h j=some ob'→(∀ i∈ids,yez (σ i) ob'=false)∧∃ ob,s.h j=some ob∧ylb ob ob') ∧
   (∀ x,1000000≤x→s2.t x=none)∧∃ x,yoe T s2 rs=some x∧Wk x r∧∀ id o,hs' id=some o→s2.h id=some o
theorem zmr {T : Nat → Option Ty} (hT : TOK P T) {f : FuncId} {fn : Func} {c : Code} {rs : List ResultVar} {args : List AV} {hs hs' : Nat → Option LObj} {r : AV} (hf : P.funcs[f]? = some fn) (hn : (fn.name == "runtime.NumGoroutine") = false) (hb : fn.body = some c) (hN : fn.ntmps = N) (hrs : fn.results = rs.toArray) (hlen : (Nat.ble args.length N && Nat.ble N 1000000) = true)
  (hcl:∀ id o,hs' id=some o→isC o=true→N≤id∧∃ o',hs id=some o'∧isC o'=true) (h:AF P N c (zzq P T rs r hs') ⟨look (yel 0 args),hs⟩):ypt P f args hs r hs':=by
 refine ⟨⟨fn,hf,hn,by simp [hb]⟩,fun id o hx hc=>(hcl id o hx hc).2,fun ok0 lv w us hi hus=>?_⟩
 refine (callsIn_wide (n:=0)).1 (callsIn_of_wp_marks hf hb trivial ?_)
 refine wpIn_mono (h _ ok0 _ _ w rfl rfl (zse hN hlen hi hus)) fun e a' w' hp=>?_
 rcases hp with ⟨s',lv',hq,hs2⟩|⟨g,vs,d,s0,lv0,a0,w0,s',lv',p1,⟨fv,cap,p2,p3⟩,⟨u,u',args0,hm,v,hm',σ,ids,s2,q1,q2,q3,q4,q5,⟨c1,c2,c3,c4,c5,c6,c7,c8⟩,q6,x,q7,q8,q9⟩,p4⟩
 ·cases e with
  | normal=>obtain ⟨x,hx,h1,h2⟩:=hq;exact ybw rfl rfl (fun a2 w2 hs3=>zyd hT hrs hcl hi hs3 hx h1 h2) _ a' w' rfl hs2
  | ret=>obtain ⟨x,hx,h1,h2⟩:=hq;exact ybw rfl rfl (fun a2 w2 hs3=>zyd hT hrs hcl hi hs3 hx h1 h2) _ a' w' rfl hs2
  | _=>exact hq.elim
 have hu:u≠.run:=by
  cases e <;> simp only [znx,Option.some.injEq] at q1 <;> first|(subst q1;simp)|cases q1
 have main:LeavesInM Fence.wide 0 P fn a'.tmps (fun e w'=>∃ u lv',e=.returned u∧Rel (yaw (yea w lv) ok0 lv' w') w' lv' r u∧Inv (yea w lv) ok0 hs' lv' w'∧∀ id o,hs' id=some o→isC o=true→∃ b n n',lv id=some (some b,n)∧lv' id=some (some b,n')) a'.defers u w':=by
  obtain ⟨ms,m1,m2,m3⟩:=p4.defers
  rw [m1]
  refine ysn hu (B:=bD (bM w lv) lv0 w0 (d::a0.defers) (fun x=>vs.getD (x - 1000000) undef)) (tm:=a'.tmps) (fun a1 w1 ht hs1=>?_) ms a' w' rfl m1 m2 m3 p4
  refine ⟨hu,.inr ⟨fun h=>(by cases h),fv,cap,g,vs.toArray,p2,(by rw [p2];exact p3 w1),fun _ _=>trivial,?_⟩⟩
  have hvs:ybk (yaw (bD (bM w lv) lv0 w0 (d::a0.defers) (fun x=>vs.getD (x - 1000000) undef)) (yaw (bM w lv) ok0 lv0 w0) lv' w1) w1 lv' (args0.map (yec σ)) vs:=by
   refine ⟨by rw [List.length_map,q3],fun i y z hy hz=>?_⟩
   rw [List.getElem?_map] at hy
   cases hx:args0[i]? with
   | none=>rw [hx] at hy;cases hy
   | some x0=>
    rw [hx] at hy
    simp only [Option.map_some,Option.some.injEq] at hy
    subst hy
    have:=(hs1.frame _ _ (q4 i x0 hx)).2
    have e:yct (bD (bM w lv) lv0 w0 (d::a0.defers) (fun x=>vs.getD (x - 1000000) undef)) a1 (1000000+i)=z:=by
     simp only [yct]
     rw [if_neg (by omega)]
     simp only [bD,Nat.add_sub_cancel_left,List.getD_eq_getElem?_getD,hz,Option.getD_some]
    rw [e] at this
    exact this
  have hcall:=lendK (K:=KD P g u u') (fun us w R R' h hk=>KD.mono h hk) hs1 hvs q5 c1 c2 c3 c4 c5 c6 c7 c8
  refine CallsDIn.mono hcall fun e u2 w2 ⟨hu2,v2,lv2,he,hs2⟩=>?_
  subst he hu2
  simp only
  rw [q2]
  have hds:zap (bM w lv) w2 a0.defers:=p1.defers.same fun D hD=>by
   have hlt:=(Array.getElem?_eq_some_iff.1 hD).1
   exact (hs2.inv.base.block D hlt (fun ⟨id,n,hn⟩=>(p1.inv.lvat hn).choose_spec.2.2.2.notDef hD)).trans hD
  have hs3:=Sim.unbase p1 rfl hs2 hds q6
  rw [← ht]
  exact ybw (B:=bM w lv) rfl rfl (fun a2 w3 hs4=>zyd hT hrs hcl hi hs4 q7 q8 q9) _ { a1 with defers:=a0.defers } w2 rfl hs3
 cases e <;> simp only [znx,Option.some.injEq] at q1 <;> first|(subst q1;exact main)|cases q1
end
section
variable {P:Program} {ty:TypeId} {h:Nat→Option LObj} {ρ:Operand→Option AV}
theorem yield_eqNilYes {x:Operand} {c:Value} {ti:TypeId} {ty':TypeId} (hu:P.underlying ti=some (.interface (P.methodsAt ti))) (hx:ρ x=some (.v .nilIface)) (hy:ρ (.const c)=some (.v .nilIface)):ybu P h ρ (.binOp .eql ti x (.const c) ty') ty (.v (.bool true)):=by
 refine ycj (fun _ _=>by simp) (by simp [yfz,Op.operands,hx,hy,toV]) fun w=>?_
 simp [execOp,ydq hx,ydq hy,eqGuard,binOp,run_equal_nil_nil w ti hu]
end
theorem callsDIn_of_wpSIn_marks {P:Program} {F:Fence} {n:Nat} {f:FuncId} {fn:Func} {c:Code} {args:Array Value} {u u':FrameMode} {w:World} {R:Ending→World→Prop} (hf:P.funcs[f]?=some fn) (hb:fn.body=some c) (hF:F.fn f)
  (h:∀ (c₀:Frame) (cs:List Frame),c₀.mode=u→c.wpSIn F n P (fun e a cs' w'=>(e=.normal∨e=.ret)∧cs'={ c₀ with mode:=u' }::cs∧yqs P (fun w2=>∃ v,(results fn a.tmps).run P w2=.ok v w2∧R (.returned v) w2) a.defers w') { tmps:=args++Array.replicate (fn.ntmps - args.size) undef,defers:=[] } (c₀::cs) w) :
  CallsDIn F n P f args u w fun e u2 w'=>u2=u'∧R e w':=by
 refine ⟨hF,fun c₀ cs hu hroom=>?_⟩
 let b:Frame:={ (default:Frame) with fn:=f,kind:=.deferred,roundOf:=none }
 have henter:Frame.enter P f args .deferred =
   b.atR { tmps:=args++Array.replicate (fn.ntmps - args.size) undef,defers:=[] } [.code c]:=by
  simp [Frame.enter,Frame.atR,hf,hb,b]
 obtain ⟨e,a',cs',w',hl,⟨he,hcs,hq⟩,harr⟩:=h c₀ cs hu b [] rfl rfl hF hroom
 rw [← henter] at harr
 subst hcs
 have hroom':F.room (({ c₀ with mode:=u' }::cs).length+1+n):=hroom
 rcases he with rfl|rfl
 ·obtain ⟨w2,⟨v,g1,g2⟩,g3⟩:=yjr (F:=F) (n:=n) a'.defers w' { b.atR a' [] with mode:=.returning } ({ c₀ with mode:=u' }::cs) rfl rfl hF hroom' hq
  exact ⟨.returned v,u',w2,_,⟨rfl,g2⟩,StepsIn.trans (StepsIn.trans harr (.one (fenced_calm (fr:=b.atR a' []) hF hroom' rfl) (stepR_end rfl))) g3,rfl,rfl,rfl,rfl,fn,hf,g1⟩
 ·obtain ⟨todo,hs⟩:=harr.1 rfl
  obtain ⟨w2,⟨v,g1,g2⟩,g3⟩:=yjr (F:=F) (n:=n) a'.defers w' { b.atR a' todo with mode:=.returning } ({ c₀ with mode:=u' }::cs) rfl rfl hF hroom' hq
  exact ⟨.returned v,u',w2,_,⟨rfl,g2⟩,StepsIn.trans hs g3,rfl,rfl,rfl,rfl,fn,hf,g1⟩
inductive Rec:FrameMode→Value→FrameMode→Prop
 | idle:Rec .returning .nilIface .returning
 | caught (v:Value) (older:List PanicEntry):Rec (.panicking ({ v:=v,recovered:=false }::older)) v (.panicking ({ v:=v,recovered:=true }::older))
theorem wpSIn_recover {F:Fence} {n:Nat} {P:Program} {Q:Exit→Act→List Frame→World→Prop} {id:Nat} {o:Oper} {l1:List Oper} {ats:Array TypeId} {a:Act} {c₀:Frame} {cs:List Frame} {w:World} {u u':FrameMode} {v:Value} (hro:F.round=none) (hop:o.op=.call { callee:=.builtin .recover,args:=#[],argTypes:=ats }) (hgd:o.guard=none) (hu:c₀.mode=u) (hrec:Rec u v u')
  (h:wpOpsIn F n P (o::l1).toArray (fun e a' w'=>Q e a' ({ c₀ with mode:=u' }::cs) w') (List.range' 1 l1.length) (a.put o.dst v) w):(Code.region id (o::l1).toArray false).wpSIn F n P Q a (c₀::cs) w:=by
 intro b k hb hr hF hroom
 have hsp:List.range (o::l1).toArray.size=0::List.range' 1 l1.length:=by
  rw [List.size_toArray,List.range_eq_range',List.length_cons,List.range'_succ]
 have hg0:(o::l1).toArray[0]?=some o:=by simp
 have hw:Region.wanted o (yielded (o::l1).toArray a.tmps)=true:=by simp [Region.wanted,hgd]
 have hrun:(execOp a.eval o).run P w=.ok .recover w:=by
  unfold execOp
  simp only [hop,resolve,Sem.run_bind,Sem.run_pure,Result.andThen_ok,invoke,builtin]
 have habout:∀ f,o.about P w a.eval=some f→F.fn f:=by
  intro f hf
  simp [Oper.about,hop,resolve,Target.leads] at hf
 have h0:(lone (b.atR a (.inRegion (o::l1).toArray (0::List.range' 1 l1.length)::k)) (c₀::cs) w).fenced P F:=fenced_oper hF hroom hg0 habout
 have hg:=stepGR_op (P:=P) (b:=b) (k:=k) (cs:=c₀::cs) (w:=w) (rest:=List.range' 1 l1.length) hg0 hw
 rw [hr,Oper.semAt_none] at hg
 have hfin:∀ v,(b.atR a (.inRegion (o::l1).toArray (0::List.range' 1 l1.length)::k)).finish v=b.atR (a.put o.dst v) (.inRegion (o::l1).toArray (List.range' 1 l1.length)::k):=by
  intro v;rw [Frame.finish_atR,hg0];rfl
 have hk:(b.atR a (.inRegion (o::l1).toArray (0::List.range' 1 l1.length)::k)).kind=.deferred:=hb
 have htr:=tryRecover_deferred hk (c₀::cs)
 have hroom':F.room (({ c₀ with mode:=u' }::cs).length+1+n):=hroom
 obtain ⟨e,a',w',hq,harr⟩:=wp_opsIn _ _ w h b k ({ c₀ with mode:=u' }::cs) (hr.trans hro.symm) hF hroom'
 refine ⟨e,a',{ c₀ with mode:=u' }::cs,w',rfl,hq,.of_steps (.head (fenced_calm hF hroom rfl) stepR_region ?_) harr⟩
 rw [hsp]
 refine .one h0 (step_lone_go ?_)
 rw [hg,← hfin]
 cases hrec with
 | idle=>
  have hrc:recoverD (c₀::cs)=none:=by simp [recoverD,hu]
  have hc:({ c₀ with mode:=.returning }:Frame)=c₀:=by rw [← hu]
  rw [hc]
  simp only [Frame.atR,hr] at htr ⊢
  simp [stepG.apply,hrun,htr,hrc]
 | caught v older=>
  have hrc:recoverD (c₀::cs)=some (v,{ c₀ with mode:=.panicking ({ v:=v,recovered:=true }::older) }::cs):=by simp [recoverD,hu]
  simp only [Frame.atR,hr] at htr ⊢
  simp [stepG.apply,hrun,htr,hrc]
theorem conKD_recover {P:Program} {T:Nat→Option Ty} (hT:TOK P T) {f:FuncId} {fn:Func} {id d:Nat} {o:Oper} {l1:List Oper} {y:Code} {lf:Oper→Bool} {ats:Array TypeId} {N:Nat} {rs:List ResultVar} {args:List AV} {hs hs':Nat→Option LObj} {r:AV} {u u':FrameMode} {v:Value} (hf:P.funcs[f]?=some fn) (hb:fn.body=some (.seq (.region id (o::l1).toArray false) y)) (hN:fn.ntmps=N) (hrs:fn.results=rs.toArray) (hlen:(Nat.ble args.length N && Nat.ble N 1000000)=true)
  (hcl:∀ id o,hs' id=some o→isC o=true→N≤id∧∃ o',hs id=some o'∧isC o'=true) (hop:o.op=.call { callee:=.builtin .recover,args:=#[],argTypes:=ats }) (hgd:o.guard=none) (hdst:o.dst=some d) (hd:d < N) (hnd:ygg l1=true) (hrec:Rec u v u')
  (h:Lex P N (o::l1).toArray lf (A P N y (zps T rs r hs')) l1 ⟨look ((d,.v v)::yel 0 args),hs⟩):zza (KD P f u u') args hs r hs':=by
 refine ⟨fun id o hx hc=>(hcl id o hx hc).2,fun ok0 lv w us hi hus=>callsDIn_of_wpSIn_marks hf hb trivial fun c₀ cs hu=>?_⟩
 have hsim:=zse hN hlen hi hus (n:=fn.ntmps)
 refine wpSIn_seq (wpSIn_recover rfl hop hgd hu hrec ?_)
 have hput:Sim (bM w lv) ok0 N ⟨look ((d,.v v)::yel 0 args),hs⟩ lv (({ tmps:=us.toArray++Array.replicate (fn.ntmps - us.toArray.size) undef,defers:=[] }:Act).put o.dst v) w:=by
  have:=hsim.put (d:=o.dst) (r:=.v v) (u:=v) (fun x hx=>by rw [hdst] at hx;cases hx;exact hd) hsim.inv (Below.refl _ _) (.v _)
  rw [hdst] at this ⊢
  rw [← yde]
  exact this
 have:=yyt (B:=bM w lv) (ok0:=ok0) (n:=0) (rest:=[]) (Q':=fun e a' w'=>Exit.thenS (y.wpSIn Fence.wide 0 P (fun e a cs' w'=>(e=.normal∨e=.ret)∧cs'={ c₀ with mode:=u' }::cs∧yqs P (fun w2=>∃ v,(results fn a.tmps).run P w2=.ok v w2∧∃ u lv',Ending.returned v=.returned u∧Rel (yaw (yea w lv) ok0 lv' w2) w2 lv' r u∧Inv (yea w lv) ok0 hs' lv' w2∧∀ id o,hs' id=some o→isC o=true→∃ b n n',lv id=some (some b,n)∧lv' id=some (some b,n')) a.defers w'))
  (fun e a cs' w'=>(e=.normal∨e=.ret)∧cs'={ c₀ with mode:=u' }::cs∧yqs P (fun w2=>∃ v,(results fn a.tmps).run P w2=.ok v w2∧∃ u lv',Ending.returned v=.returned u∧Rel (yaw (yea w lv) ok0 lv' w2) w2 lv' r u∧Inv (yea w lv) ok0 hs' lv' w2∧∀ id o,hs' id=some o→isC o=true→∃ b n n',lv id=some (some b,n)∧lv' id=some (some b,n')) a.defers w') e a' ({ c₀ with mode:=u' }::cs) w') (fun s1 lv1 a1 w1 hq hs1=>?_) h hnd 1 (fun j o' ho'=>by rw [Nat.add_comm];simpa using ho') lv _ w hput
 ·rw [List.append_nil] at this
  exact this
 ·show y.wpSIn _ _ _ _ _ _ _
  refine wpSIn_of_wpIn rfl ?_
  refine wpIn_mono (hq (bM w lv) ok0 lv1 a1 w1 hs1) fun e a' w' ⟨s',lv',hq2,hs2⟩=>?_
  cases e with
  | normal=>obtain ⟨x,hx,h1,h2⟩:=hq2;exact ⟨.inl rfl,rfl,yst (B:=bM w lv) (tm:=a'.tmps) rfl (fun a2 w2 ht hs3=>by have:=zyd hT hrs hcl hi hs3 hx h1 h2 (fn:=fn);rwa [ht] at this) _ a' w' rfl rfl hs2⟩
  | ret=>obtain ⟨x,hx,h1,h2⟩:=hq2;exact ⟨.inr rfl,rfl,yst (B:=bM w lv) (tm:=a'.tmps) rfl (fun a2 w2 ht hs3=>by have:=zyd hT hrs hcl hi hs3 hx h1 h2 (fn:=fn);rwa [ht] at this) _ a' w' rfl rfl hs2⟩
  | _=>exact hq2.elim
section
variable {P:Program} {N:Nat}
end
theorem yra {ids:List Nat}:∀ {x:AV},yap x=true→ydm ids x=true
 | .v _,_=>rfl
 | .any,_=>rfl
 | .one,_=>rfl
 | .sl _ _,_=>rfl
 | .dp _ _,_=>rfl
 | .mv _,_=>rfl
 | .agg cs,h=>rows (cs:=cs) h
 | .tup cs,h=>rows (cs:=cs) h
 | .fn _ cs,h=>rows (cs:=cs) h
 | .fm _ cs,h=>rows (cs:=cs) h
 where rows:∀ {cs:List AV},yap.pureL cs=true→ydm.onlyL ids cs=true
 | [],_=>rfl
 | c::cs,h=>by
  simp only [yap.pureL,Bool.and_eq_true] at h
  simp only [ydm.onlyL,yra h.1,rows h.2,Bool.and_self]
theorem ypn:∀ (x:AV),yec (fun i=>i) x=x
 | .v _=>rfl
 | .any=>rfl
 | .one=>rfl
 | .sl _ _=>rfl
 | .dp _ _=>rfl
 | .mv _=>rfl
 | .lp _ _=>rfl
 | .ls _ _ _=>rfl
 | .mp _=>rfl
 | .agg cs=>by simp only [yec,rows cs]
 | .tup cs=>by simp only [yec,rows cs]
 | .fn _ cs=>by simp only [yec,rows cs]
 | .fm _ cs=>by simp only [yec,rows cs]
 where rows:∀ (cs:List AV),yec.renL (fun i=>i) cs=cs
 | []=>rfl
 | c::cs=>by simp only [yec.renL,ypn c,rows cs]
theorem yxi (o:LObj):yxh (fun i=>i) o=o:=by cases o <;> simp only [yxh,ypn.rows]
def ych (hs:List (Nat × Option LObj)):List Nat:=hs.map (·.1)
theorem ydx {hs:List (Nat × Option LObj)}:∀ {id:Nat},(hlook hs id).isSome→id∈ych hs:=by
 induction hs with
 | nil=>intro id h;cases h
 | cons x hs ih=>
  intro id h
  obtain ⟨k,o⟩:=x
  simp only [hlook] at h
  cases hb:Nat.beq id k with
  | true=>simp [ych,Nat.eq_of_beq_eq_true hb]
  | false=>rw [hb] at h;simp only at h;exact List.mem_cons_of_mem _ (ih h)
theorem hlook_out {hs:List (Nat × Option LObj)} {id:Nat} (h:id ∉ ych hs):hlook hs id=none:=by
 cases hq:hlook hs id with
 | none=>rfl
 | some o=>exact absurd (ydx (by rw [hq];rfl)) h
theorem yib {f g:List (Nat × Option LObj)} {id:Nat} (h:id ∉ ych f):hlook (f++g) id=hlook g id:=by
 induction f with
 | nil=>rfl
 | cons x f ih=>
  obtain ⟨k,o⟩:=x
  simp only [ych,List.map_cons,List.mem_cons,not_or] at h
  simp only [List.cons_append,hlook]
  cases hb:Nat.beq id k with
  | true=>exact absurd (Nat.eq_of_beq_eq_true hb) h.1
  | false=>exact ih h.2
theorem ysh {f g:List (Nat × Option LObj)} {id:Nat} (h:id ∉ ych g):hlook (f++g) id=hlook f id:=by
 induction f with
 | nil=>exact hlook_out h
 | cons x f ih=>
  obtain ⟨k,o⟩:=x
  simp only [List.cons_append,hlook]
  cases hb:Nat.beq id k with
  | true=>rfl
  | false=>exact ih
section
variable {P:Program} {N:Nat} {ops:Array Oper} {lf:Oper→Bool} {Q:SS→Prop} {t t':List (Nat × AV)} {pre hs hs':List (Nat × Option LObj)} {rest:List Oper} {d:Nat} {ty:TypeId} {pos:String} {af:Array Edge} {gd:Option (Nat × Bool)}
structure Ahead (pre hs:List (Nat × Option LObj)):Prop where
 keys:∀ i∈ych hs,i ∉ ych pre
 ment:∀ j ob,hlook pre j=some ob→∀ i∈ych hs,yez i ob=false
theorem zma {g:Operand} {args:List Operand} {ats:Array TypeId} {f:FuncId} {caps xs:List AV} {r:AV} (hc:ypt P f (xs++caps) (hlook hs) r (hlook hs')) (hpr:yap r=true) (hg:yvc (evF (look t) g) f caps args) (hx:evL (evF (look t)) args=some xs) (ha:Ahead pre (hs++hs')) (hro:∀ id o,hlook hs' id=some o→ynf (ych (hs++hs')) o=true)
  (ht:∀ x y,look t' x=some y→look t x=some y∧∀ i∈ych (hs++hs'),ment i y=false) (hl:lf ⟨some d,.call { callee:=.value g,args:=args.toArray,argTypes:=ats },ty,pos,af,gd⟩=true) (hw:yah ops (look t) ⟨some d,.call { callee:=.value g,args:=args.toArray,argTypes:=ats },ty,pos,af,gd⟩=some true) (hd:Nat.blt d N=true)
  (k:Lex P N ops lf Q rest (S ((d,r)::t') (pre++hs'))):Lex P N ops lf Q (⟨some d,.call { callee:=.value g,args:=args.toArray,argTypes:=ats },ty,pos,af,gd⟩::rest) (S t (pre++hs)):=by
 refine ydi hl hw ?_ k
 have hk1:∀ i,i∈ych hs→i∈ych (hs++hs'):=fun i hi=>by simp only [ych,List.map_append,List.mem_append] at hi ⊢;exact .inl hi
 have hk2:∀ i,i∈ych hs'→i∈ych (hs++hs'):=fun i hi=>by simp only [ych,List.map_append,List.mem_append] at hi ⊢;exact .inr hi
 refine yox (σ:=fun i=>i) (ids:=ych (hs++hs')) rfl rfl (by simpa using hd) hg hx (by rw [show (yec fun i=>i)=id from funext ypn];simp) hc (fun _ _ _ _ h=>h) (fun id h=>hk1 id (ydx h)) (fun id h=>hk2 id (ydx h)) (fun id o ho=>?_) (yra hpr) hro (fun x y hy=>?_) (fun i hi=>?_) (fun j ob' hj hob=>?_)
 ·show hlook (pre++hs) id=_
  rw [yib (ha.keys id (hk1 id (ydx (by rw [ho];rfl)))),ho,yxi]
 ·simp only [S,look] at hy
  cases hb:Nat.beq x d with
  | true=>rw [hb] at hy;simp only [Option.some.injEq] at hy;exact .inl ⟨Nat.eq_of_beq_eq_true hb,by rw [ypn];exact hy.symm⟩
  | false=>
   rw [hb] at hy
   simp only at hy
   obtain ⟨h1,h2⟩:=ht x y hy
   exact .inr ⟨fun e=>(by subst e;rw [Nat.beq_refl] at hb;cases hb),.inr ⟨h1,.inl h2⟩⟩
 ·show hlook (pre++hs') i=_
  rw [yib (ha.keys i hi)]
  cases hlook hs' i <;> simp [yxi]
 ·have hob:hlook (pre++hs') j=some ob':=hob
  rw [ysh fun hm=>hj j (hk2 j hm) rfl] at hob
  refine ⟨fun i hi=>ha.ment j ob' hob i hi,ob',?_,.inl rfl⟩
  show hlook (pre++hs) j=_
  rw [ysh fun hm=>hj j (hk1 j hm) rfl]
  exact hob
theorem L_callI {g:Operand} {args:List Operand} {ats:Array TypeId} {f:FuncId} {caps xs:List AV} {r:AV} (hc:ypt P f (xs++caps) (hlook hs) r (hlook hs')) (hpr:yap r=true) (hg:evF (look t) g=some (.fn f caps)) (hx:evL (evF (look t)) args=some xs) (ha:Ahead pre (hs++hs')) (hro:∀ id o,hlook hs' id=some o→ynf (ych (hs++hs')) o=true)
  (ht:∀ x y,look t' x=some y→look t x=some y∧∀ i∈ych (hs++hs'),ment i y=false) (hl:lf ⟨some d,.call { callee:=.value g,args:=args.toArray,argTypes:=ats },ty,pos,af,gd⟩=true) (hw:yah ops (look t) ⟨some d,.call { callee:=.value g,args:=args.toArray,argTypes:=ats },ty,pos,af,gd⟩=some true) (hd:Nat.blt d N=true)
  (k:Lex P N ops lf Q rest (S ((d,r)::t') (pre++hs'))):Lex P N ops lf Q (⟨some d,.call { callee:=.value g,args:=args.toArray,argTypes:=ats },ty,pos,af,gd⟩::rest) (S t (pre++hs)):=
 zma hc hpr (.inl hg) hx ha hro ht hl hw hd k
theorem L_callIm {g:Operand} {ats:Array TypeId} {f:FuncId} {caps:List AV} {r:AV} (hc:ypt P f caps (hlook hs) r (hlook hs')) (hpr:yap r=true) (hg:evF (look t) g=some (.fm f caps)) (ha:Ahead pre (hs++hs')) (hro:∀ id o,hlook hs' id=some o→ynf (ych (hs++hs')) o=true)
  (ht:∀ x y,look t' x=some y→look t x=some y∧∀ i∈ych (hs++hs'),ment i y=false) (hl:lf ⟨some d,.call { callee:=.value g,args:=#[],argTypes:=ats },ty,pos,af,gd⟩=true) (hw:yah ops (look t) ⟨some d,.call { callee:=.value g,args:=#[],argTypes:=ats },ty,pos,af,gd⟩=some true) (hd:Nat.blt d N=true)
  (k:Lex P N ops lf Q rest (S ((d,r)::t') (pre++hs'))):Lex P N ops lf Q (⟨some d,.call { callee:=.value g,args:=#[],argTypes:=ats },ty,pos,af,gd⟩::rest) (S t (pre++hs)):=
 zma (args:=[]) (xs:=[]) hc hpr (.inr ⟨hg,rfl⟩) rfl ha hro ht hl hw hd k
end
def xco (f:Nat→Option AV):List (Nat × AV)→Prop
 | []=>True
 | (x,y)::t=>f x=some y∧xco f t
theorem zab {f:Nat→Option AV}:∀ {t:List (Nat × AV)},xco f t→∀ x y,look t x=some y→f x=some y
 | [],_,x,y,h=>by simp [look] at h
 | (a,z)::t,hs,x,y,h=>by
  simp only [look] at h
  cases hb:Nat.beq x a with
  | true=>rw [hb] at h;simp only [Option.some.injEq] at h;subst h;rw [Nat.eq_of_beq_eq_true hb];exact hs.1
  | false=>rw [hb] at h;exact zab hs.2 x y h
def xca (t:List (Nat × AV)):Nat→List AV→Prop
 | _,[]=>True
 | i,x::l=>look t (1000000+i)=some x∧xca t (i+1) l
theorem zpc {t:List (Nat × AV)}:∀ {l:List AV} {k i:Nat} {x:AV},xca t k l→l[i]?=some x→look t (1000000+(k+i))=some x
 | [],k,i,x,h,hx=>by simp at hx
 | y::l,k,0,x,h,hx=>by simp only [List.getElem?_cons_zero,Option.some.injEq] at hx;subst hx;exact h.1
 | y::l,k,i+1,x,h,hx=>by have:=zpc h.2 (i:=i) (by simpa using hx);rwa [show k+1+i=k+(i+1) by omega] at this
theorem zbo {P:Program} {T:Nat→Option Ty} {t:List (Nat × AV)} {h:List (Nat × Option LObj)} (sg:List (Nat × Nat)) {rs:List ResultVar} {r:AV} {hs':Nat→Option LObj} {g:FuncId} {n:Nat} {e:Exit} {u u':FrameMode} {args0:List AV} {hm hm' h':List (Nat × Option LObj)} {v x:AV} (hmode:znx e=some u) (hset:settle u'=.returning) (hn:args0.length=n) (ha:xca t 0 (args0.map (yec (ydh sg)))) (hc:zza (KD P g u u') args0 (hlook hm) v (hlook hm'))
  (hk:ycq (yau sg)=true) (hv:ycq (ybm sg)=true) (hd1:ymn (yau sg) hm=true) (hd2:ymn (yau sg) hm'=true) (hsub:yrf h (zjs sg hm)) (ho:yku (yau sg) hm'=true) (hh:∀ j ob',j ∉ ybm sg→hlook h' j=some ob'→(∀ i∈ybm sg,yez i ob'=false)∧∃ ob,hlook h j=some ob∧ylb ob ob')
  (hx:yoe T (S (ylt sg hm' (ztb t)) (ylp sg hm' sg++h')) rs=some x) (hwk:Wk x r) (hend:∀ id o,hs' id=some o→hlook (ylp sg hm' sg++h') id=some o):zzq P T rs r hs' (some (g,n)) e (S t h):=by
 refine ⟨u,u',args0,hlook hm,v,hlook hm',ydh sg,yau sg,S (ylt sg hm' (ztb t)) (ylp sg hm' sg++h'),hmode,hset,hn,fun i x hx=>?_,hc,⟨ytk hv,yfk hd1,yfk hd2,ypo hsub,yhp ho,fun x y hy=>?_,fun i hi=>yrp hk hv i hi,fun j ob' hj hob=>?_⟩,fun x hge=>?_,x,hx,hwk,hend⟩
 ·have:=zpc ha (i:=i) (x:=yec (ydh sg) x) (by simp [hx])
  rwa [Nat.zero_add] at this
 ·have hlow:∀ z,look (ztb t) x=some z→look t x=some z:=fun z hz=>by
   rw [ysp] at hz
   cases hb:Nat.ble 1000000 x with
   | true=>rw [hb] at hz;cases hz
   | false=>rw [hb] at hz;exact hz
  rcases yhl hy with ⟨h1,z,h2⟩|⟨h1,h2⟩
  ·exact .inl ⟨h1,z,hlow z h2⟩
  ·exact .inr ⟨hlow y h1,ypf hk h2⟩
 ·have hjv:j ∉ ybm sg:=fun hm=>by
   obtain ⟨i,h1,h2⟩:=ypp hm hk
   exact hj i h1 h2
  simp only [S,yjj hjv] at hob
  obtain ⟨h1,h2⟩:=hh j ob' hjv hob
  exact ⟨fun i hi=>h1 _ (yie hi),h2⟩
 ·show look (ylt sg hm' (ztb t)) x=none
  cases hq:look (ylt sg hm' (ztb t)) x with
  | none=>rfl
  | some y=>
   have:∃ z,look (ztb t) x=some z:=by
    rcases yhl hq with ⟨_,z,h2⟩|⟨h1,_⟩
    ·exact ⟨z,h2⟩
    ·exact ⟨y,h1⟩
   obtain ⟨z,hz⟩:=this
   rw [ysp,Nat.ble_eq_true_of_le hge] at hz
   cases hz
end
section
open Go.RowKit
theorem conG_of {P : Program} {T : Nat → Option Ty} (hT : TOK P T) {f : FuncId} {fn : Func} {c : Code} {N : Nat} {rs : List ResultVar} {args : List AV} {hs hs' : Nat → Option LObj} {r : AV} (hf : P.funcs[f]? = some fn) (hn : (fn.name == "runtime.NumGoroutine") = false) (hb : fn.body = some c) (hN : fn.ntmps = N) (hrs : fn.results = rs.toArray) (hlen : (Nat.ble args.length N && Nat.ble N 1000000) = true)
  (hcl:∀ id o,hs' id=some o→isC o=true→N≤id∧∃ o',hs id=some o'∧isC o'=true) (kp:List Nat) (t0:Nat→Option AV) (ht0:∀ x y,t0 x=some y→look (yel 0 args) x=some y∨∃ i,x=1000000+i∧args[i]?=some y) (h:A P N c (fun e s=>zps T rs r hs' e s∧∀ i∈kp,∃ x,args[i]?=some x∧s.t (1000000+i)=some x) ⟨t0,hs⟩):zzo P f args hs r hs' kp:=by
 refine ⟨⟨fn,hf,hn,by simp [hb]⟩,fun id o hx hc=>(hcl id o hx hc).2,fun ok0 lv w us hi hus=>?_⟩
 simp only [Bool.and_eq_true,Nat.ble_eq] at hlen
 obtain ⟨hlen',hbig⟩:=hlen
 refine (callsIn_wide (n:=0)).1 (callsIn_of_wp_marks hf hb trivial ?_)
 have hsim:Sim ⟨w,ybn lv,fun id=>(lv id).bind (·.1),none,[],fun i=>us.getD (i - 1000000) undef⟩ ok0 N ⟨t0,hs⟩ lv { tmps:=us.toArray++Array.replicate (fn.ntmps - us.toArray.size) undef,defers:=[] } w:=by
  refine ⟨hi.pinned _ _ _ _ (fun l h=>by cases h),?_,fun x y hy=>?_,⟨[],rfl,List.nodup_nil,fun d hd=>by cases hd⟩,hbig,fun id b o hN hx hc hb=>?_⟩
  ·simp [hN,hus.1];omega
  ·rcases ht0 x y hy with hy|⟨i,rfl,hy2⟩
   ·simp only [yix] at hy
    have hlt:=(List.getElem?_eq_some_iff.1 hy).1
    refine ⟨.inl (by omega),?_⟩
    rw [yct,if_pos (by omega)]
    obtain ⟨u,hu⟩:∃ u,us[x]?=some u:=⟨_,List.getElem?_eq_getElem (by rw [hus.1];exact hlt)⟩
    simp only [yeo us _ x u hu]
    exact hus.2 x y u hy hu
   ·refine ⟨.inr (by omega),?_⟩
    obtain ⟨u,hu⟩:∃ u,us[i]?=some u:=⟨_,List.getElem?_eq_getElem (by rw [hus.1];exact (List.getElem?_eq_some_iff.1 hy2).1)⟩
    rw [yct,if_neg (by omega)]
    simp only [Nat.add_sub_cancel_left,List.getD_eq_getElem?_getD,hu,Option.getD_some]
    exact hus.2 i y u hy2 hu
  ·simp only at hb
   cases hl:lv id with
   | none=>simp [hl] at hb
   | some q=>obtain ⟨q1,q2⟩:=q;simp [hl] at hb;subst hb;exact ⟨q2,rfl⟩
 refine wpIn_mono (h _ ok0 _ _ w hsim) fun e a' w' ⟨s',lv',hq,hs2⟩=>?_
 have fin:∀ x,yoe T s' rs=some x→Wk x r→(∀ id o,hs' id=some o→s'.h id=some o)→(∀ i∈kp,∃ x,args[i]?=some x∧s'.t (1000000+i)=some x)→∀ (a':Act) (w':World),Sim ⟨w,ybn lv,fun id=>(lv id).bind (·.1),none,[],fun i=>us.getD (i - 1000000) undef⟩ ok0 N s' lv' a' w'→∃ v,(results fn a'.tmps).run P w'=.ok v w'∧∃ u lv2,Ending.returned v=.returned u∧Rel (yaw (yea w lv) ok0 lv2 w') w' lv2 r u∧Inv (yea w lv) ok0 hs' lv2 w'∧(∀ id o,hs' id=some o→isC o=true→∃ b n n',lv id=some (some b,n)∧lv2 id=some (some b,n'))∧∀ i∈kp,∀ x v,args[i]?=some x→us[i]?=some v→Rel (yaw (yea w lv) ok0 lv2 w') w' lv2 x v:=by
  intro x hx hwk hsub hkp a' w' hs2
  obtain ⟨u,hu,hrun⟩:=yof (P:=P) hT hs2 hrs hx
  obtain ⟨lv2,i1,i2,i3⟩:=hs2.inv.weak hsub
  refine ⟨u,hrun,u,lv2,rfl,hwk.rel _ _ _ _ ((hu.relive fun id b n hb _=>i2 id b n hb).keep fun g hg=>⟨i3 g hg,rfl⟩),i1.pinned _ _ _ _ (fun l h=>by cases h),fun id o hx hc=>?_,fun i hi x v hx hv=>?_⟩
  rotate_left
  ·obtain ⟨y,hy,ht⟩:=hkp i hi
   rw [hx] at hy
   cases hy
   have:=(hs2.frame _ _ ht).2
   rw [yct,if_neg (by omega)] at this
   simp only [Nat.add_sub_cancel_left,List.getD_eq_getElem?_getD,hv,Option.getD_some] at this
   exact (this.relive fun id b n hb _=>i2 id b n hb).keep fun g hg=>⟨i3 g hg,rfl⟩
  obtain ⟨h1,o',hy,hc'⟩:=hcl id o hx hc
  obtain ⟨b,n,hb,ho⟩:=hi.obj id _ hy
  cases b with
  | none=>simp only [yfb] at ho;rcases ho with rfl|⟨e,rfl⟩ <;> cases hc'
  | some b=>
   obtain ⟨n',hn'⟩:=hs2.pin id b o h1 (hsub id _ hx) hc (by simp [hb])
   obtain ⟨b2,n2,hb2,_⟩:=i1.obj id _ hx
   have:=i2 id b2 n2 hb2
   rw [hn'] at this
   cases this
   exact ⟨b,n,_,hb,hb2⟩
 cases e with
 | normal=>obtain ⟨⟨x,hx,h1,h2⟩,h3⟩:=hq;exact ybw rfl rfl (fin x hx h1 h2 h3) _ a' w' rfl hs2
 | ret=>obtain ⟨⟨x,hx,h1,h2⟩,h3⟩:=hq;exact ybw rfl rfl (fin x hx h1 h2 h3) _ a' w' rfl hs2
 | _=>exact hq.1.elim
section
variable {P:Program} {N:Nat} {ops:Array Oper} {lf:Oper→Bool} {Q:SS→Prop} {t t':List (Nat × AV)} {pre hs hs':List (Nat × Option LObj)} {rest:List Oper} {d:Nat} {ty:TypeId} {pos:String} {af:Array Edge} {gd:Option (Nat × Bool)}
theorem L_callG {g:Operand} {args:List Operand} {ats:Array TypeId} {f:FuncId} {xs:List AV} {r:AV} (kp:List Nat) (hc:zzo P f xs (hlook hs) r (hlook hs') kp) (hpr:yap r=true) (hg:evF (look t) g=some (.fn f [])) (hx:evL (evF (look t)) args=some xs) (ha:Ahead pre (hs++hs')) (hro:∀ id o,hlook hs' id=some o→ynf (ych (hs++hs')) o=true)
  (ht:∀ x y,look t' x=some y→look t x=some y∧((∀ i∈ych (hs++hs'),ment i y=false)∨∃ i∈kp,∃ id sz len,0 < sz∧(hlook hs id).isSome∧xs[i]?=some (.ls id sz len)∧y=.ls id sz len)) (hl:lf ⟨some d,.call { callee:=.value g,args:=args.toArray,argTypes:=ats },ty,pos,af,gd⟩=true) (hw:yah ops (look t) ⟨some d,.call { callee:=.value g,args:=args.toArray,argTypes:=ats },ty,pos,af,gd⟩=some true) (hd:Nat.blt d N=true)
  (k:Lex P N ops lf Q rest (S ((d,r)::t') (pre++hs'))):Lex P N ops lf Q (⟨some d,.call { callee:=.value g,args:=args.toArray,argTypes:=ats },ty,pos,af,gd⟩::rest) (S t (pre++hs)):=by
 refine ydi hl hw ?_ k
 have hk1:∀ i,i∈ych hs→i∈ych (hs++hs'):=fun i hi=>by simp only [ych,List.map_append,List.mem_append] at hi ⊢;exact .inl hi
 have hk2:∀ i,i∈ych hs'→i∈ych (hs++hs'):=fun i hi=>by simp only [ych,List.map_append,List.mem_append] at hi ⊢;exact .inr hi
 refine yua (σ:=fun i=>i) (ids:=ych (hs++hs')) (caps:=[]) (args0:=xs) rfl rfl (by simpa using hd) (.inl hg) hx (by rw [show (yec fun i=>i)=id from funext ypn];simp) hc (fun _ _ _ _ h=>h) (fun id h=>hk1 id (ydx h)) (fun id h=>hk2 id (ydx h)) (fun id o ho=>?_) (yra hpr) hro (fun x y hy=>?_) (fun i hi=>?_) (fun j ob' hj hob=>?_)
 ·show hlook (pre++hs) id=_
  rw [yib (ha.keys id (hk1 id (ydx (by rw [ho];rfl)))),ho,yxi]
 ·simp only [S,look] at hy
  cases hb:Nat.beq x d with
  | true=>rw [hb] at hy;simp only [Option.some.injEq] at hy;exact .inl ⟨Nat.eq_of_beq_eq_true hb,by rw [ypn];exact hy.symm⟩
  | false=>
   rw [hb] at hy
   simp only at hy
   obtain ⟨h1,h2⟩:=ht x y hy
   refine .inr ⟨fun e=>(by subst e;rw [Nat.beq_refl] at hb;cases hb),.inr ⟨h1,h2.imp .inl fun h=>.inl h⟩⟩
 ·show hlook (pre++hs') i=_
  rw [yib (ha.keys i hi)]
  cases hlook hs' i <;> simp [yxi]
 ·have hob:hlook (pre++hs') j=some ob':=hob
  rw [ysh fun hm=>hj j (hk2 j hm) rfl] at hob
  refine ⟨fun i hi=>ha.ment j ob' hob i hi,ob',?_,.inl rfl⟩
  show hlook (pre++hs) j=_
  rw [ysh fun hm=>hj j (hk1 j hm) rfl]
  exact hob
end
end
end Go.Proofs.YtfhejdcijbgikaaGreatDoor
