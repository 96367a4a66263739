/- Part 14 of the texts under TopWorstIsPlayed. -/
import Derived.Test.YtgpodcjhgdionaaGreatDoorCW4
import Derived.Test.YtgpodcjhgdionaaGreatDoorCW6
import Derived.Test.YtgpodcjhgdionaaGreatDoorCW7
import Derived.Test.YtgpodcjhgdionaaGreatDoorCW8
import Derived.Test.YtgpodcjhgdionaaGreatDoorCW9
import Derived.Test.YtgpodcjhgdionaaGreatDoorCW10
import Derived.Test.YtgpodcjhgdionaaGreatDoorCW11
import Derived.Test.YtgpodcjhgdionaaGreatDoorCW12
import Derived.Test.YtgpodcjhgdionaaGreatDoorCW13
set_option linter.unusedVariables false
set_option maxRecDepth 100000
set_option maxHeartbeats 8000000
namespace Go.Proofs.YtgpodcjhgdionaaGreatDoor
open Go.Proofs.Tryz
variable{t r:List (List (Int × Int))}{c zs:List (List Int)}{g:GraphD}{e:BitVec 32}{p:ProgD}{b:Int × Int}{n k i v:Nat}{z:List Int}{kind:Int}{α:Type}{f:α->Nat}
section
open Go.RowKit
variable{x:Nat}
def yiu:List (Int × Int)->List Int->Bool × List Int
 | b::r,z::zs=>if (yiu r zs).1=true then(true,z::(yiu r zs).2)else if z < b.2 then(true,(z+1)::(yiu r zs).2)else(false,b.1::(yiu r zs).2)
 | _,_=>(false,[])
def yoo:List (List (Int × Int))->List (List Int)->Bool × List (List Int)
 | r::t,c::cs=>if (yoo t cs).1=true then(true,c::(yoo t cs).2)else((yiu r c).1,(yiu r c).2::(yoo t cs).2)
 | _,_=>(false,[])
theorem zvh:∀ {r:List (Int × Int)} {zs:List Int},zs.length=r.length->(yiu r zs).2.length=zs.length
 | [],[],_=>rfl
 | [],z::zs,h=>by simp at h
 | b::r,[],h=>by simp at h
 | b::r,z::zs,h=>by
  have ih:=zvh (r:=r) (zs:=zs) (by simpa using h);simp only[yiu];split
  .simp [ih]
  split <;> simp[ih]
theorem zvi:∀ {t:List (List (Int × Int))} {cs:List (List Int)},cs.length=t.length->(yoo t cs).2.length=cs.length
 | [],[],_=>rfl
 | [],z::zs,h=>by simp at h
 | b::r,[],h=>by simp at h
 | b::r,z::zs,h=>by
  have ih:=zvi (t:=r) (cs:=zs) (by simpa using h);simp only[yoo];split <;> simp[ih]
theorem zoh:∀ (x:Nat) {r:List (Int × Int)} {zs:List Int},(yiu (r.drop x) (zs.drop x)).1=true->yiu r zs=(true,zs.take x++(yiu (r.drop x) (zs.drop x)).2)
 | 0,r,zs,h=>by simp only[qfi]at h ⊢;rw[qet,qcw];exact Prod.ext h rfl
 | x+1,[],zs,h=>by simp[yiu]at h
 | x+1,b::r,[],h=>by simp[yiu]at h
 | x+1,b::r,z::zs,h=>by
  simp only[qdp]at h ⊢;have ih:=zoh x h;simp only[yiu];rw[ih];simp
theorem zoi:∀ (x:Nat) {r:List (List (Int × Int))} {zs:List (List Int)},(yoo (r.drop x) (zs.drop x)).1=true->yoo r zs=(true,zs.take x++(yoo (r.drop x) (zs.drop x)).2)
 | 0,r,zs,h=>by simp only[qfi]at h ⊢;rw[qet,qcw];exact Prod.ext h rfl
 | x+1,[],zs,h=>by simp[yoo]at h
 | x+1,b::r,[],h=>by simp[yoo]at h
 | x+1,b::r,z::zs,h=>by
  simp only[qdp]at h ⊢;have ih:=zoi x h;simp only[yoo];rw[ih];simp
def ytp(r:List (Int × Int))(zs:List Int)(x:Nat):List Int:=zs.take x++(yiu (r.drop x) (zs.drop x)).2
def zux(t:List (List (Int × Int)))(cs:List (List Int))(v:Nat):List (List Int):=cs.take v++(yoo (t.drop v) (cs.drop v)).2
theorem zzr{r:List (Int × Int)}{zs:List Int}(h:zs.length=r.length)(x:Nat):(ytp r zs x).length=zs.length:=by
 unfold ytp;rw[qan,zvh (by simp[h])];simp;omega
theorem wayB_len(h:zs.length=r.length)(x:Nat):(zux r zs x).length=zs.length:=by
 unfold zux;rw[qan,zvi (by simp[h])];simp;omega
theorem wayA_at{r:List (Int × Int)}{zs:List Int}{z:Int}(h:zs[x]?=some z):(ytp r zs (x+1))[x]?=some z:=by
 have hx:=(qaa.1 h).1;unfold ytp;rw[qam so,qbc,if_pos om,h]
theorem wayB_at(h:zs[x]?=some z):(zux r zs (x+1))[x]?=some z:=by
 have hx:=(qaa.1 h).1;unfold zux;rw[qam so,qbc,if_pos om,h]
theorem wayA_all(r:List (Int × Int))(zs:List Int)(h:zs.length=r.length):ytp r zs r.length=zs:=by
 unfold ytp;rw[<- h,qcb,qaw];cases r with
 | nil=>cases zs <;> simp_all[yiu]
 | cons b r=>rw[h,qcb];simp[yiu]
theorem wayB_all(r:List (List (Int × Int)))(zs:List (List Int))(h:zs.length=r.length):zux r zs r.length=zs:=by
 unfold zux;rw[<- h,qcb,qaw];cases r with
 | nil=>cases zs <;> simp_all[yoo]
 | cons b r=>rw[h,qcb];simp[yoo]
theorem wayA_step{r:List (Int × Int)}{zs:List Int}{z:Int}(hb:r[x]?=some b)(hz:zs[x]?=some z)(h0:(yiu (r.drop (x+1)) (zs.drop (x+1))).1=false):
  (yiu (r.drop x) (zs.drop x)).1=decide (z < b.2)/\(ytp r zs (x+1)).set x (if z < b.2 then z+1 else b.1)=ytp r zs x:=by
 have hx:=(qaa.1 hz).1;have e:yiu (r.drop x) (zs.drop x)=if z < b.2 then(true,(z+1)::(yiu (r.drop (x+1)) (zs.drop (x+1))).2)else(false,b.1::(yiu (r.drop (x+1)) (zs.drop (x+1))).2):=by
  rw[yjv hb,yjv hz];simp only[yiu,h0,if_neg Bool.false_ne_true]
 unfold ytp;rw[e,yao hz,qbd,qbo _ _ so];have hl:(zs.take x).length=x:=by simp;omega
 rw[hl,qbm];split
 .rename_i h;exact⟨by simp[h],sm⟩
 rename_i h;exact⟨by simp[h],sm⟩
theorem wayB_step{b:List (Int × Int)}(hb:r[x]?=some b)(hz:zs[x]?=some z)(h0:(yoo (r.drop (x+1)) (zs.drop (x+1))).1=false):
  (yoo (r.drop x) (zs.drop x)).1=(yiu b z).1/\(zux r zs (x+1)).set x (yiu b z).2=zux r zs x:=by
 have hx:=(qaa.1 hz).1;have e:yoo (r.drop x) (zs.drop x)=((yiu b z).1,(yiu b z).2::(yoo (r.drop (x+1)) (zs.drop (x+1))).2):=by
  rw[yjv hb,yjv hz];simp only[yoo,h0,if_neg Bool.false_ne_true]
 unfold zux;rw[e,yao hz,qbd,qbo _ _ so];have hl:(zs.take x).length=x:=by simp;omega
 rw[hl,qbm];exact⟨rfl,sm⟩
def aF(n:Nat):List (Nat × Option LObj):=[(3,some (.cells [.ls 53 1 n]))]
def aG(n:Nat)(v:Int):List (Nat × Option LObj):=[(4,some (.cells [i64 v])),(3,some (.cells [.ls 53 1 n]))]
theorem zrq{t0 t1:List (Nat × AV)}{hk:Nat->List (Nat × Option LObj)}{h1:List (Nat × Option LObj)}{Q:Exit->SS->Prop}(hx:List (Nat × Option LObj))(g1:zap t1 (zgw t0))(g2:∀ id o,yac hx id=some o->yac h1 id=some o)(hq:Q .ret (S t0 hx)):xfo (yak t0) (fun k=>yac (hk k)) k Q .ret (S t1 h1):=
 ⟨yac hx,fun x y hx=>ycd g1 _ y (by rw[yoa];exact hx),g2,hq⟩
theorem A_orBad{P:Program}{N:Nat}{c:Code}{Q:Exit->SS->Prop}{s:SS}(k:A P N c (fun e s=>Q e s\/s.h 0=some (.vec [.lp 0 0])) s):A P N c Q s:=by
 intro B ok0 lv a w hs;refine wpIn_mono (k B ok0 lv a w hs) fun e a' w' ⟨s',lv',h1,h2⟩=>?_;rcases h1 with h1|h1
 .exact ⟨s',lv',h1,h2⟩
 exfalso;obtain⟨b,n,g1,g2⟩:=h2.inv.obj 0 _ h1;cases b with
 | none=>simp[yge]at g2
 | some b=>exact absurd (g2.2.2.2 (.lp 0 0) sm) (by simp[yas])
theorem advance_conG(tbl:List (List (Int × Int)))(c:List (List Int))(ht:xbn tbl)(hcl:c.length=tbl.length)(hcr:∀ (v:Nat) (r:List (Int × Int)) (zs:List Int),tbl[v]?=some r->c[v]?=some zs->zs.length=r.length)(hcb:∀ zs∈c,∀ a∈zs,-1<=a/\a<=1000000) :
  xjm prog 70 [yeh tbl,.ls 53 1 tbl.length] (yac (ybz 53 1 (yek c) [])) (.tup []) (yac (ybz 53 1 (yek (yoo tbl c).2) [])) [1]:=by
 have htl:=ht.1;refine conG_of tok Tryz.func70 rfl rfl ntmps70 Tryz.results70 rfl (fun id o h h2=>by rw[xdq om h]at h2;cases h2) [1] (yak ((1000001,.ls 53 1 tbl.length)::yfj 0 [yeh tbl,.ls 53 1 tbl.length])) (fun x y h=>by
  simp only[yak]at h
  split at h
  .rename_i e;cases h;exact .inr ⟨1,qaf e,rfl⟩
  exact .inl h) ?_
 refine A_orBad ?_;show A prog _ _ _ (S ((1000001,.ls 53 1 tbl.length)::yfj 0 [yeh tbl,.ls 53 1 tbl.length]) ([]++ybz 53 1 (yek c) []))
 (repeat (first|refine zy ?_|refine xjv rfl rfl rfl (yqm (f:=[]) rfl rfl rfl rfl) rfl rfl rfl rfl ?_|refine zc (backO_con _) ?_))
 refine xbf (els:=yhp (fun row=>row.headD .any) (tbl.map fun r=>[.sl 2 (r.map yiv)])) rfl (backO_iter _ _ (fun row hrow=>by obtain⟨r,_,rfl⟩:=qag.1 hrow;rfl)) (zho fun row hrow=>by obtain⟨r,_,rfl⟩:=qag.1 hrow;rfl) rfl [(3,.lp 3 0),(1000001,.ls 53 1 tbl.length)] zs rfl (fun j=>if (yoo (tbl.drop (tbl.length - j)) (c.drop (tbl.length - j))).1=false then aF tbl.length++ybz 53 1 (yek (zux tbl c (tbl.length - j))) []else xmk) ?_ ?_ ?_
 .rw [qhh,if_pos (by rw[<- hcl,qcb,hcl,qcb];rfl),wayB_all _ _ hcl];exact fun id o h=>h
 .intro j el hel;obtain⟨hj,row,hrow,rfl⟩:=yln hel;simp only[qai]at hj hrow ⊢;obtain⟨v,hv⟩:∃ v,v=tbl.length - 1 - j:=⟨_,rfl⟩;rw[<- hv]at hrow;obtain⟨r,hr⟩:=ybk (show v < tbl.length by omega);obtain⟨ws,hws⟩:=ybk (show v < c.length by omega);simp only[qak,hr,qav,Option.some.injEq]at hrow;subst hrow;rw[show ((tbl.length:Int) - 1 - (j:Int))=(v:Int) by omega,show tbl.length - j=v+1 by omega];by_cases hfl:(yoo (tbl.drop (v+1)) (c.drop (v+1))).1=false;case neg=>rw[if_neg hfl];exact zbf rfl
  rw[if_pos hfl];have hrm:=qab hr;obtain⟨hr1,hrq⟩:=ht.2 r hrm;have hzl:=hcr v r ws hr hws;obtain⟨hst1,hst2⟩:=wayB_step hr hws hfl;have hAn:(zux tbl c (v+1)).length=tbl.length:=by rw[wayB_len hcl,hcl]
  have hAv:=wayB_at (r:=tbl) hws;obtain⟨A,hA⟩:∃ A,A=zux tbl c (v+1):=⟨_,rfl⟩;rw[<- hA]at hst2 hAn hAv ⊢
  (repeat (first|refine zy ?_|refine zkn tok rfl rfl rfl (yqm (f:=aF tbl.length) rfl rfl rfl rfl) rfl rfl rfl ?_))
  refine⟨rfl,?_⟩
  (repeat (first|refine zy ?_|refine zc (backI_con _) ?_))
  refine xbf (els:=yhp AV.agg (r.map yiv)) rfl (backI_iter _ _ (fun row hrow=>by obtain⟨b,_,rfl⟩:=qag.1 hrow;rfl)) (zho fun row hrow=>by obtain⟨b,_,rfl⟩:=qag.1 hrow;rfl) rfl [(4,.lp 4 0),(3,.lp 3 0),(1000003,.lp 3 0),(2000001,.ls 53 1 tbl.length)] zs rfl (fun i=>if (yiu (r.drop (r.length - i)) (ws.drop (r.length - i))).1=false then aG tbl.length v++ybz 53 1 (yek (A.set v (ytp r ws (r.length - i)))) []else xmk) ?_ ?_ ?_
  .rw [qhh,if_pos (by rw[<- hzl,qcb,hzl,qcb];rfl),wayA_all _ _ hzl,zyw hAv];exact hsM (f:=[(4,some (.cells [i64 v])),(4,_),(3,some (.cells [.ls 53 1 tbl.length]))]) (f':=aG tbl.length v) zh rfl rfl rfl
  .intro i el hel;obtain⟨hi,row,hrow,rfl⟩:=yln hel;simp only[qai]at hi hrow ⊢;obtain⟨x,hx⟩:∃ x,x=r.length - 1 - i:=⟨_,rfl⟩;rw[<- hx]at hrow;obtain⟨b,hb⟩:=ybk (show x < r.length by omega);obtain⟨z,hz⟩:=ybk (show x < ws.length by omega);simp only[qak,hb,qav,Option.some.injEq]at hrow;subst hrow;rw[show ((r.length:Int) - 1 - (i:Int))=(x:Int) by omega,show r.length - i=x+1 by omega];have hxi:r.length - (i+1)=x:=by omega
   by_cases hfr:(yiu (r.drop (x+1)) (ws.drop (x+1))).1=false;case neg=>rw[if_neg hfr];exact zbf rfl
   rw[if_pos hfr];obtain⟨b1,b2,b3⟩:=hrq b (qab hb);have hzb:=hcb ws (qab hws) z (qab hz);obtain⟨hs1,hs2⟩:=wayA_step hb hz hfr;have hpart:(yek (A.set v (ytp r ws (x+1))))[v]?=some ((ytp r ws (x+1)).map i64):=by rw[zma,qee om];rfl
   have hpl:((ytp r ws (x+1)).map i64).length=r.length:=by rw[qai,zzr hzl,hzl]
   have hat:((ytp r ws (x+1)).map i64)[x]?=some (i64 z):=by rw[qak,wayA_at hz];rfl
   (repeat (first|refine zy ?_|refine zkn tok rfl rfl rfl (yqm (f:=aG tbl.length v) rfl rfl rfl rfl) rfl rfl rfl ?_))
   refine⟨rfl,?_⟩;refine yqb (t':=[(7,.lp 7 0),(6,i64 x),(4,.lp 4 0),(3,.lp 3 0),(1000004,.lp 4 0),(1000003,.lp 3 0),(2000003,.lp 3 0),(3000001,.ls 53 1 tbl.length)]) (h':=((7,some (.cells (yiv b)))::aG tbl.length v)++ybz 53 1 (yek (A.set v (ytp r ws (x+1)))) []) ?_ zs (hsM (f:=(7,some (.cells (yiv b)))::(7,_)::aG tbl.length v) (f':=(7,some (.cells (yiv b)))::aG tbl.length v) zh rfl rfl rfl);have hcO:ycw (yac (((7,some (LObj.cells (yiv b)))::aG tbl.length v)++ybz 53 1 (yek (A.set v (ytp r ws (x+1)))) []) 53)=some (yfe 53 1 0 (yek (A.set v (ytp r ws (x+1))))++[]):=by rw[ybo (f:=(7,some (LObj.cells (yiv b)))::aG tbl.length v) rfl];exact yfg _
   have hcell:(yfe 53 1 0 (yek (A.set v (ytp r ws (x+1))))++[])[(v:Int).toNat * 1]?=some (.ls (fam 53 v) 1 r.length):=by
    rw[show ((v:Int).toNat * 1)=v by simp,qba,yej,hpart];simp only[qav,hpl,Nat.div_one,qay]
   have hrow:yac (((7,some (LObj.cells (yiv b)))::aG tbl.length v)++ybz 53 1 (yek (A.set v (ytp r ws (x+1)))) []) (fam 53 v)=some (.vec ((ytp r ws (x+1)).map i64)):=ylx (f:=(7,some (LObj.cells (yiv b)))::aG tbl.length v) rfl om hpart;have hput:∀ y:Int,(ytp r ws (x+1)).set x y=ytp r ws x->yac ((fam 53 v,some (.vec (((ytp r ws (x+1)).map i64).set ((x:Int).toNat * 1) (i64 y))))::(((7,some (LObj.cells (yiv b)))::aG tbl.length v)++ybz 53 1 (yek (A.set v (ytp r ws (x+1)))) []))=yac (((7,some (LObj.cells (yiv b)))::aG tbl.length v)++ybz 53 1 (yek (A.set v (ytp r ws x))) []):=fun y hy=>by
    rw[show ((x:Int).toNat * 1)=x by simp,show ((ytp r ws (x+1)).map i64).set x (i64 y)=(ytp r ws x).map i64 by rw[<- hy,qdx]];refine(zmb (f:=(7,some (LObj.cells (yiv b)))::aG tbl.length v) rfl om hpart (by rw[hpl,qai,zzr hzl,hzl])).trans ?_;rw[zca,zca,qhk]
   (repeat (first|refine zy ?_|refine yat tok rfl rfl (ybo (f:=(7,some (LObj.cells (yiv b)))::aG tbl.length v) rfl) rfl om om rfl rfl ?_|refine ydp (r:=.ls (fam 53 v) 1 r.length) tok rfl rfl rfl hcO hcell rfl rfl ?_|refine yat tok rfl rfl hrow rfl om om rfl rfl ?_|refine ydp (r:=i64 z) (xs:=(ytp r ws (x+1)).map i64) tok rfl rfl rfl (by rw[hrow];rfl) (by rw[show ((x:Int).toNat * 1)=x by simp];exact hat) rfl rfl ?_))
   refine zj ?_ ?_ <;> intro q
   .have q:z < b.2:=by simpa using q
    rw[decide_eq_true q]at hs1;rw[if_pos q]at hs2
    (repeat (first|refine zy ?_|refine yat tok rfl rfl (ybo (f:=(7,some (LObj.cells (yiv b)))::aG tbl.length v) rfl) rfl om om rfl rfl ?_|refine ydp (r:=.ls (fam 53 v) 1 r.length) tok rfl rfl rfl hcO hcell rfl rfl ?_|refine yat tok rfl rfl hrow rfl om om rfl rfl ?_|refine ydp (r:=i64 z) (xs:=(ytp r ws (x+1)).map i64) tok rfl rfl rfl (by rw[hrow];rfl) (by rw[show ((x:Int).toNat * 1)=x by simp];exact hat) rfl rfl ?_))
    refine ygo tok rfl rfl rfl rfl rfl hrow (by rw[hpl];simp;omega) rfl (hput (z+1) hs2) rfl rfl ?_;refine zY ?_;have d1:=zoh x hs1;rw[d1]at hst1 hst2;have d2:=zoi v hst1;have hfin:(yoo tbl c).2=A.set v (ytp r ws x):=by
     rw[d2];show zux tbl c v=_;rw[<- hst2];rfl
    refine yqa ?_;refine zrq (k:=0) (hk:=fun _=>[]) (aG tbl.length v++ybz 53 1 (yek (yoo tbl c).2) []) zs ?_ ?_
    .rw [hfin];exact hsM (f:=(7,some (.cells (yiv b)))::aG tbl.length v) (f':=aG tbl.length v) zh rfl rfl rfl
    refine zrq (k:=0) (hk:=fun _=>[]) (ybz 53 1 (yek (yoo tbl c).2) []) zs (yys rfl om rfl) ?_;exact .inl ⟨⟨_,rfl,yhx _,fun id o h=>h⟩,fun i hi=>by obtain rfl:=qau.1 hi;exact⟨_,rfl,rfl⟩⟩
   have q:¬ z < b.2:=by simpa using q
   rw[decide_eq_false q]at hs1;rw[if_neg q]at hs2
   (repeat (first|refine zy ?_|refine yat tok rfl rfl (ybo (f:=(7,some (LObj.cells (yiv b)))::aG tbl.length v) rfl) rfl om om rfl rfl ?_|refine ydp (r:=.ls (fam 53 v) 1 r.length) tok rfl rfl rfl hcO hcell rfl rfl ?_|refine yat tok rfl rfl hrow rfl om om rfl rfl ?_))
   refine ygo tok rfl rfl rfl rfl rfl hrow (by rw[hpl];simp;omega) rfl (hput b.1 hs2) rfl rfl ?_;refine zY ?_;refine xhi zs ?_;rw[hxi,if_pos hs1];exact hsM (f:=(7,some (.cells (yiv b)))::aG tbl.length v) (f':=aG tbl.length v) zh rfl rfl rfl
  (repeat (first|with_reducible refine yeo ?_|with_reducible refine ycy ?_|refine ydu ?_))
  rw[yhq,qai,qbm];by_cases hfr:(yiu (r.drop 0) (ws.drop 0)).1=false;case neg=>
   rw[if_neg hfr]
   refine xhi zs ?_
   rw[show tbl.length - (j+1)=v by omega,if_neg (by rw[hst1];exact hfr)]
   exact fun id o h=>h
  rw[if_pos hfr];refine xhi zs ?_;rw[show tbl.length - (j+1)=v by omega,if_pos (by rw[hst1];exact hfr),show ytp r ws 0=(yiu r ws).2 by simp[ytp],hst2];exact hsM (f:=aG tbl.length v) (f':=aF tbl.length) zh rfl rfl rfl
 (repeat (first|with_reducible refine yeo ?_|with_reducible refine ycy ?_|refine ydu ?_))
 rw[yhq,qai,qbm];by_cases hfr:(yoo (tbl.drop 0) (c.drop 0)).1=false;case neg=>rw[if_neg hfr];exact .inr rfl
 rw[if_pos hfr,show zux tbl c 0=(yoo tbl c).2 by simp[zux]];exact .inl ⟨⟨_,rfl,yhx _,yys rfl om rfl⟩,fun i hi=>by obtain rfl:=qau.1 hi;exact⟨_,rfl,rfl⟩⟩
end
section
open Go.RowKit
theorem ygn{r:List (Int × Int)}{z:Int}{zs:List Int}:ych (b::r) (z::zs)=true<->(zss b z=true/\ych r zs=true):=by
 simp only[ych,qaj,qdz,qfg,qad,beq_iff_eq,Nat.succ_inj];exact⟨fun⟨h1,h2,h3⟩=>⟨h2,h1,h3⟩,fun⟨h1,h2,h3⟩=>⟨h2,h1,h3⟩⟩
theorem yhy{b:List (Int × Int)}:ybx (b::r) (z::zs)=true<->(ych b z=true/\ybx r zs=true):=by
 simp only[ybx,qaj,qdz,qfg,qad,beq_iff_eq,Nat.succ_inj];exact⟨fun⟨h1,h2,h3⟩=>⟨h2,h1,h3⟩,fun⟨h1,h2,h3⟩=>⟨h2,h1,h3⟩⟩
theorem ysb{z:Int}:zss b z=true<->b.1<=z/\z<=b.2:=by simp[zss]
theorem zda:∀ {r:List (Int × Int)} {zs:List Int},(∀ q∈r,ytx q)->ych r zs=true->ych r (yiu r zs).2=true
 | [],zs,_,_=>by simp[yiu,ych]
 | b::r,[],_,h=>by simp[ych]at h
 | b::r,z::zs,hq,h=>by
  obtain⟨h1,h2⟩:=ygn.1 h;have ih:=zda (fun q hq'=>hq q (qap _ hq')) h2;have hb:=(hq b (qbe ..)).2.1;have h1:=ysb.1 h1;simp only[yiu];split
  .exact ygn.2 ⟨ysb.2 h1,ih⟩
  split
  .exact ygn.2 ⟨ysb.2 ⟨om,om⟩,ih⟩
  exact ygn.2 ⟨ysb.2 ⟨om,om⟩,ih⟩
theorem zen:∀ {r:List (Int × Int)},(∀ q∈r,ytx q)->ych r (r.map (·.1))=true
 | [],_=>by simp[ych]
 | b::r,hq=>ygn.2 ⟨ysb.2 ⟨qgw _,(hq b (qbe ..)).2.1⟩,zen fun q hq'=>hq q (qap _ hq')⟩
theorem zkr:∀ {t:List (List (Int × Int))} {cs:List (List Int)},(∀ r∈t,∀ q∈r,ytx q)->ybx t cs=true->ybx t (yoo t cs).2=true
 | [],cs,_,_=>by simp[yoo,ybx]
 | b::r,[],_,h=>by simp[ybx]at h
 | b::r,z::zs,hq,h=>by
  obtain⟨h1,h2⟩:=yhy.1 h;have ih:=zkr (fun q hq'=>hq q (qap _ hq')) h2;simp only[yoo];split
  .exact yhy.2 ⟨h1,ih⟩
  exact yhy.2 ⟨zda (hq b (qbe ..)) h1,ih⟩
theorem zlw:∀ {t:List (List (Int × Int))},(∀ r∈t,∀ q∈r,ytx q)->ybx t (yxo t)=true
 | [],_=>by simp[ybx,yxo]
 | b::r,hq=>yhy.2 ⟨zen (hq b (qbe ..)),zlw fun q hq'=>hq q (qap _ hq')⟩
def ydi(tbl:List (List (Int × Int))):Nat->List (List Int)
 | 0=>yxo tbl
 | k+1=>(yoo tbl (ydi tbl k)).2
theorem zky(hf:Fair p g)(h0:ycv p g=0):∀ k,CfgOk p g (ydi (yaf p g) k)
 | 0=>⟨hf,yfq.2 ⟨h0,zlw fun r hr=>((ydj hf h0).2 r hr).2⟩⟩
 | k+1=>⟨hf,yfq.2 ⟨h0,zkr (fun r hr=>((ydj hf h0).2 r hr).2) (zky hf h0 k).table⟩⟩
abbrev SpcD:=List (BitVec 32 × List ArcD)
variable{acc:SpcD}
def yth(p:ProgD)(g:GraphD)(kind:Int):Nat->Nat->Nat->Option SpcD
 | 0,_,_=>some []
 | m+1,k,T=>match ypq p g kind (ydi (yaf p g) k) k with
  | none=>none
  | some x=>if 262144 < T+x.2.length then none else(yth p g kind m (k+1) (T+x.2.length)).map (x::·)
def zfw:Option SpcD->AV
 | some l=>.tup [.agg [ydh (l.map (·.1)),.sl 1 (l.map fun x=>[ybd x.2])],i64 0]
 | none=>.tup [.agg [ydh [],.sl 1 []],i64 3]
theorem least_own(p:ProgD)(g:GraphD)(hf:Fair p g)(h0:ycv p g=0):ytb prog 68 [ygg p,yev g] (fun _=>none) (.tup [.ls 19 1 (yaf p g).length,i64 0]) (yac (ybz 19 1 (yek (yxo (yaf p g))) [])):=by
 have ht:=ydj hf h0;refine zdi tok Tryz.func68 rfl rfl ntmps68 Tryz.results68 rfl rfl ?_
 (repeat (first|refine zy ?_|refine zc (zlg p g hf) ?_))
 refine zj ?_ ?_ <;> intro h
 .exact absurd h0 (by simpa using h)
 (repeat (first|with_reducible refine yeo ?_|with_reducible refine ycy ?_|refine ydu ?_));refine ysv ?_;refine ydb (lf:=lfT) rfl ?_
 (repeat (first|refine zo ?_|refine zc (yoh p g hf h0) ?_))
 (repeat (first|with_reducible refine yeo ?_|with_reducible refine ycy ?_|refine ydu ?_))
 refine yhn 7 rfl rfl rfl rfl rfl ?_
 (repeat (first|refine zy ?_|refine zcw (build_con (yaf p g) 122 [.dp [yeh (yaf p g)] 0] (xkp (yaf p g)) rfl rfl ht.1 (fun r hr=>(ht.2 r hr).1) (fun i j r hr hj=>least1_con (yaf p g) i j r hr hj)) rfl rfl rfl rfl rfl rfl rfl rfl rfl rfl rfl rfl rfl ?_))
 refine yqa ?_;exact⟨_,rfl,yhx _,fun id o h=>yys (f:=[(7,none),(7,some (LObj.cells [yeh (yaf p g)])),(7,some (LObj.cells [AV.v (Value.slice none 0 0)])),(3,some (LObj.cells [yai g.ids,yaq g.ports])),(2,some (LObj.cells [ykp p.name,AV.sl 6 (List.map ybl p.vars),AV.sl 3 (List.map ybc p.rules)]))]) rfl om rfl id o (by rw[built_low];exact h)⟩
def xaa(n:Nat)(acc:SpcD):List AV:=(acc.map fun x=>yav x.1)++List.replicate (n - acc.length) (yav 0#32)
def zzy(n:Nat)(acc:SpcD):List AV:=(acc.map fun x=>ybd x.2)++List.replicate (n - acc.length) ygd
theorem encS_len(h:acc.length<=n):(xaa n acc).length=n:=by simp[xaa];omega
theorem arcS_len(h:acc.length<=n):(zzy n acc).length=n:=by simp[zzy];omega
theorem encS_set(h:acc.length < n)(x:BitVec 32 × List ArcD):(xaa n acc).set acc.length (yav x.1)=xaa n (acc++[x]):=by
 unfold xaa;rw[qbo _ _ sm];obtain⟨m,hm⟩:∃ m,n - acc.length=m+1:=⟨n - acc.length - 1,om⟩;rw[qan,qgc,show n - (acc.length+1)=m by omega,hm];simp[qbq]
theorem arcS_set(h:acc.length < n)(x:BitVec 32 × List ArcD):(zzy n acc).set acc.length (ybd x.2)=zzy n (acc++[x]):=by
 unfold zzy;rw[qbo _ _ sm];obtain⟨m,hm⟩:∃ m,n - acc.length=m+1:=⟨n - acc.length - 1,om⟩;rw[qan,qgc,show n - (acc.length+1)=m by omega,hm];simp[qbq]
theorem zfx:∀ o,yas (zfw o)=true
 | some l=>rfl
 | none=>rfl
def bF(n:Nat)(acc:SpcD):List (Nat × Option LObj):=[(11,some (.cells [.ls 46 1 n,.ls 48 1 n])),(46,some (.vec (xaa n acc))),(48,some (.vec (zzy n acc))),(6,some (.cells [ygd,ygd]))]
def yiw(acc:SpcD):Nat:=(acc.map fun x=>x.2.length).sum
theorem zqb(M:Nat):∀ (k:Nat) (rows:List (List AV)) (i:Nat),i∈(ypl M k rows).map (·.1)<->∃ j,k<=j/\j < k+rows.length/\i=fam M j
 | k,[],i=>by simp[ypl];omega
 | k,r::rs,i=>by
  simp only[ypl,qce,qaq,zqb M (k+1) rs i,qaj];constructor
  .rintro (rfl|⟨j,h1,h2,rfl⟩)
   .exact ⟨k,om,om,rfl⟩
   exact⟨j,om,om,rfl⟩
  rintro⟨j,h1,h2,rfl⟩;by_cases e:j=k
  .exact .inl (by rw[e])
  exact .inr ⟨j,om,om,rfl⟩
theorem zxi{M sz:Nat}{rows:List (List AV)}{extra:List AV}:i∈ycl (ybz M sz rows extra)<->i=M\/∃ j,j < rows.length/\i=fam M j:=by
 unfold ycl ybz;rw[qce,qaq,zqb];simp
theorem zxh{a b:List (Nat × Option LObj)}:i∈ycl (a++b)<->i∈ycl a\/i∈ycl b:=by simp[ycl]
theorem zlp{M sz:Nat}{R R':List (List AV)}(h:i∈ycl (ybz M sz R []++ybz M sz R' [])):i=M\/1000000<=i:=by
 rcases zxh.1 h with h|h <;> rcases zxi.1 h with h|⟨j,_,h⟩
 .exact .inl h
 .exact .inr (h ▸ yfw M j)
 .exact .inl h
 exact .inr (h ▸ yfw M j)
theorem ahead_bF(n:Nat)(acc:SpcD)(R R':List (List AV)):Ahead (bF n acc) (ybz 53 1 R []++ybz 53 1 R' []):=by
 refine⟨fun i hi hk=>?_,fun j ob hj i hi=>?_⟩
 .have h:=zlp hi;simp only[ycl,bF,qce,qex,qaq,qeb,or_false]at hk;omega
 have h:=zlp hi;have h46:Nat.beq 46 i=false:=ycp om;have h48:Nat.beq 48 i=false:=ycp om;simp only[bF,yac]at hj
 repeat' split at hj
 all_goals first|(cases hj;done)|skip
 all_goals (cases hj;first|rfl|simp[yew,ment.mentL,ment,h46,h48])
theorem only_mat(R R':List (List AV)):∀ id o,yac (ybz 53 1 R' []) id=some o->yoz (ycl (ybz 53 1 R []++ybz 53 1 R' [])) o=true:=by
 intro id o h;rcases yob h with rfl|⟨i,hi,rfl⟩
 .rw [yfn]at h;cases h;have:yex.onlyL (ycl (ybz 53 1 R []++ybz 53 1 R' [])) (yfe 53 1 0 R'++[])=true:=by
   rw[qba];exact yyw 0 R' fun i hi=>zxh.2 (.inr (zxi.2 (.inr ⟨i,om,rfl⟩)))
  cases hm:yfe 53 1 0 R'++[]with
  | nil=>rfl
  | cons x xs=>rw[hm]at this;exact this
 rw[ylw om]at h;cases hr:R'[i]? with
 | none=>rw[hr]at h;cases h
 | some r=>rw[hr]at h;cases h;rfl
theorem ykt{h:Nat->Option LObj}:Frz h (.agg [ygd,ygd]) (.agg [ydh [],.sl 1 []]):=
 Frz.aggL rfl rfl fun i x y hx hy=>by
  match i with
  | 0=>simp at hx hy;subst hx hy;exact Frz.nil
  | 1=>simp at hx hy;subst hx hy;exact Frz.nil
  | i+2=>simp at hx
theorem spbuild_con(p:ProgD)(g:GraphD)(hf:Fair p g)(h0:ycv p g=0)(hk:1<=kind/\kind<=4)(hn:yce (yaf p g)=((n:Int),0)):Con prog 26 [ygg p,yev g,i64 kind] (zfw (yth p g kind n 0 0)):=by
 have hnb:(n:Int)<=32768:=by have:=yvi (yaf p g);rw[hn]at this;exact this
 have hco:=mcount_con p g hf;rw[yia,if_pos h0,hn]at hco;have ht:=ydj hf h0;have hlc:(yxo (yaf p g)).length=(yaf p g).length:=by simp[yxo]
 refine ycx tok Tryz.func26 rfl rfl ntmps26 Tryz.results26 rfl (zfx _) ?_
 (repeat (first|refine zwz ?_|refine zc (zic kind hk) ?_|refine zc (newbuilder_con p g hf h0 kind n hn) ?_))
 have hz1:ykx n (yhw [Value.int .u32 0])=xaa n []:=by
  rw[show yhw [Value.int .u32 0]=[yav 0#32] from rfl,zym];simp[xaa]
 have hz2:ykx n (yhw [Value.slice none 0 0])=zzy n []:=by
  rw[show yhw [Value.slice none 0 0]=[ygd] from rfl,zym];simp[zzy]
 refine yzn [(11,.lp 11 0),(10,ygp p g kind),(8,i64 n),(6,.lp 6 0),(4,.lp 4 0),(3,.lp 3 0)] [(11,some (.cells [.ls 46 1 n,.ls 48 1 n])),(46,some (.vec (ykx n (yhw [Value.int .u32 0])))),(48,some (.vec (ykx n (yhw [Value.slice none 0 0])))),(6,some (.cells (yhw zhh.zero))),(4,some (.cells [yai g.ids,yaq g.ports])),(3,some (.cells [ykp p.name,.sl 6 (p.vars.map ybl),.sl 3 (p.rules.map ybc)]))] ?_ ?_
 .have hlim:n<=4294967296/\4 * n<=281474976710656:=by constructor <;> omega
  have hlim2:n<=4294967296/\24 * n<=281474976710656:=by constructor <;> omega
  refine ybg (lf:=lf0) ymj rfl ?_
  repeat' (first
   | refine zo ?_
   | refine yph tok rfl rfl rfl rfl (by first|exact hlim|exact hlim2) rfl rfl rfl rfl rfl ?_
   | exact mid zs (yab rfl (yab rfl (yab rfl (yab rfl (yab rfl (yab rfl yag))))))
   | exact trivial
   | refine⟨⟨_,rfl,?_⟩,?_⟩
   | refine yaz [0,1,4,6] (yaa rfl (yaa rfl (yaa rfl (yaa rfl yal)))) rfl dk ?_
   | refine yaz [1,4,6] (yaa rfl (yaa rfl (yaa rfl yal))) rfl dk ?_
   | refine yaz [2,3,4,6] (yaa rfl (yaa rfl (yaa rfl (yaa rfl yal)))) rfl dk ?_
   | refine yaz [3,4,6] (yaa rfl (yaa rfl (yaa rfl yal))) rfl dk ?_
   | refine yaz [4,6] (yaa rfl (yaa rfl yal)) rfl dk ?_
   | refine yaz [5,6] (yaa rfl (yaa rfl yal)) rfl dk ?_
   | refine yax [1,2,5] _ rfl dk sm ?_
   | refine yax [0,3,5] _ rfl dk sm ?_
   | refine yax [1,3,5] _ rfl dk sm ?_
   | refine yax [0,2,5] _ rfl dk sm ?_
   | refine yax [1,3] _ rfl dk sm ?_
   | refine yax [2,5] _ rfl dk sm ?_
   | refine yax [0,5] _ rfl dk sm ?_
   | refine yax [0,3] _ rfl dk sm ?_
   | refine yax [3,5] _ rfl dk sm ?_
   | refine yax [0,2] _ rfl dk sm ?_
   | refine yax [4,5] _ rfl dk sm ?_
   | refine yax [1,5] _ rfl dk sm ?_
   | refine yax [1,2] _ rfl dk sm ?_)
 rw[hz1,hz2]
 (repeat (first|refine zy ?_|refine zcw (least_own p g hf h0) rfl rfl rfl rfl rfl rfl rfl rfl rfl rfl rfl rfl rfl ?_))
 obtain⟨tbl,htb⟩:∃ tbl,yaf p g=tbl:=⟨_,rfl⟩;have hconf:=zky hf h0;have hstc:∀ k,k<=32768->xjn prog 69 [ygp p g kind,ycj (ydi (yaf p g) k),i64 k] (xev (ypq p g kind (ydi (yaf p g) k) k)):=fun k hk'=>state_conN (hconf k) hk hn k hk';have hcl:∀ k,(ydi (yaf p g) k).length=(yaf p g).length:=fun k=>by rw[(hconf k).len];simp[yaf]
 refine ybw (α:=Nat × SpcD) (fun q=>[(57,i64 q.1),(56,i64 n),(14,i64 (yiw q.2)),(12,.ls 53 1 (yaf p g).length),(11,.lp 11 0),(10,ygp p g kind),(6,.lp 6 0)]) (fun q=>bF n q.2++ybz 53 1 (yek (ydi (yaf p g) q.1)) []) (fun q=>n - q.1) (fun q=>q.1<=n/\q.2.length=q.1/\yiw q.2<=262144/\yth p g kind n 0 0=(yth p g kind (n - q.1) q.1 (yiw q.2)).map (q.2++·)) (0,[]) ⟨sm,rfl,by simp[yiw],by simp[yiw]⟩ zs ?_ ?_
 .exact hsM (f:=[(11,some (LObj.cells [AV.ls 46 1 n,AV.ls 48 1 n])),(46,some (LObj.vec (xaa n []))),(48,some (LObj.vec (zzy n []))),(6,some (LObj.cells (yhw zhh.zero))),(4,some (LObj.cells [yai g.ids,yaq g.ports])),(3,some (LObj.cells [ykp p.name,AV.sl 6 (List.map ybl p.vars),AV.sl 3 (List.map ybc p.rules)]))]) (f':=bF n []) (yab rfl (yab rfl (yab rfl (yab rfl yag)))) rfl rfl rfl
 rintro⟨k,acc⟩ ⟨hkn,hal,hT,hb⟩;simp only at hkn hal hT hb ⊢;refine zY ?_;refine zj ?_ ?_ <;> intro h1
 .simp at h1;have hfz:zsp (yac (bF n acc++ybz 53 1 (yek (ydi (yaf p g) k)) [])) [ygp p g kind,.ls 53 1 (yaf p g).length,i64 k] [ygp p g kind,ycj (ydi (yaf p g) k),i64 k]:=zsp.cons Frz.pure (zsp.cons (yym (f:=bF n acc) (M:=53) rfl rfl rfl (hcl k).symm rfl) (zsp.cons Frz.pure zsp.nil));obtain⟨m,hm⟩:∃ m,n - k=m+1:=⟨n - k - 1,om⟩;rw[hm]at hb;have hs:=hstc k om;cases hsv:ypq p g kind (ydi (yaf p g) k) k with
  | none=>
   rw[hsv]at hs;have hb2:yth p g kind n 0 0=none:=by rw[hb,yth,hsv];rfl
   rw[hb2]
   (repeat (first|refine zy ?_|refine zta [ygp p g kind,ycj (ydi (yaf p g) k),i64 k] hs rfl rfl hfz rfl rfl ?_))
   refine zr ?_;exact Frz.tup2 ykt Frz.pure
  | some x=>
   obtain⟨e,l⟩:=x;rw[hsv]at hs;have hll:l.length<=4294967296:=by
    unfold ypq at hsv;cases hcv:yzw g kind (ydc p g (ydi (yaf p g) k))with
    | none=>rw[hcv]at hsv;cases hsv
    | some l0=>
     rw[hcv]at hsv;simp only[qav,Option.some.injEq,Prod.mk.injEq]at hsv;rw[<- hsv.2,qai];exact zkx hcv
   (repeat (first|refine zy ?_|refine zta [ygp p g kind,ycj (ydi (yaf p g) k),i64 k] hs rfl rfl hfz rfl rfl ?_))
   refine zj ?_ ?_ <;> intro h2
   .have h2:262144 < yiw acc+l.length:=by simp at h2;omega
    have hb2:yth p g kind n 0 0=none:=by rw[hb,yth,hsv];simp only;rw[if_pos h2];rfl
    rw[hb2];refine zk ?_;exact Frz.tup2 ykt Frz.pure
   have h2:¬ 262144 < yiw acc+l.length:=by simp at h2;omega
   have hb2:yth p g kind n 0 0=(yth p g kind m (k+1) (yiw acc+l.length)).map ((acc++[(e,l)])++·):=by
    rw[hb,yth,hsv];simp only;rw[if_neg h2,qfh];congr 1;funext z;simp
   have htot:yiw (acc++[(e,l)])=yiw acc+l.length:=by simp[yiw]
   have hl1:=encS_len (show acc.length<=n by omega);have hl2:=arcS_len (show acc.length<=n by omega);refine zW ?_;have e1:=encS_set (n:=n) (acc:=acc) om (e,l);have e2:=arcS_set (n:=n) (acc:=acc) om (e,l);rw[hal]at e1 e2;have hfin:∀ id o,yac (bF n (acc++[(e,l)])++ybz 53 1 (yek (ydi (yaf p g) k)) []) id=some o->yac ((48,some (.vec ((zzy n acc).set ((k:Int).toNat * 1) (ybd l))))::(46,some (.vec ((xaa n acc).set ((k:Int).toNat * 1) (yav e))))::(bF n acc++ybz 53 1 (yek (ydi (yaf p g) k)) [])) id=some o:=
    hsM (f:=(48,some (.vec ((zzy n acc).set ((k:Int).toNat * 1) (ybd l))))::(46,some (.vec ((xaa n acc).set ((k:Int).toNat * 1) (yav e))))::bF n acc) (f':=bF n (acc++[(e,l)])) (yab rfl (yab (by rw[show ((k:Int).toNat * 1)=k by simp,e1];rfl) (yab (by rw[show ((k:Int).toNat * 1)=k by simp,e2];rfl) (yab rfl yag)))) rfl rfl rfl
   refine xbe [(57,i64 k),(56,i64 n),(14,i64 ((yiw acc:Int)+(l.length:Int))),(12,.ls 53 1 (yaf p g).length),(11,.lp 11 0),(10,ygp p g kind),(6,.lp 6 0)] (bF n (acc++[(e,l)])++ybz 53 1 (yek (ydi (yaf p g) k)) []) ?_ fun s2 hs2=>ypf ?_ hs2
   focus
    refine ybg (lf:=lf0) ymj rfl ?_
    refine yeq [0,1,2,6,8] 7 (yaa rfl (yaa rfl (yaa rfl (yaa rfl (yaa rfl yal))))) rfl dk ?_
    repeat' (first
     | refine zo ?_
     | refine yat tok rfl rfl rfl rfl om om rfl rfl ?_
     | refine yom tok rfl rfl rfl rfl rfl rfl (by first|(rw[hl1];simp;omega)|(rw[hl2];simp;omega)) rfl rfl rfl ?_
     | exact⟨rfl,ycd zs,hfin⟩
     | exact trivial
     | refine⟨⟨_,rfl,?_⟩,?_⟩
     | refine yaz [3,4,10,11] (yaa rfl (yaa rfl (yaa rfl (yaa rfl yal)))) rfl dk ?_
     | refine yax [3,9] _ rfl dk sm ?_
     | refine yaz [3,4,7,10,11] (yaa rfl (yaa rfl (yaa rfl (yaa rfl (yaa rfl yal))))) rfl dk ?_
     | refine yax [3,7,9] _ rfl dk sm ?_
     | refine yaz [3,4,5,10,11] (yaa rfl (yaa rfl (yaa rfl (yaa rfl (yaa rfl yal))))) rfl dk ?_
     | refine yax [3,5,9] _ rfl dk sm ?_
     | refine yaz [3,4,5,7,10,11] (yaa rfl (yaa rfl (yaa rfl (yaa rfl (yaa rfl (yaa rfl yal)))))) rfl dk ?_
     | refine yax [3,5,7,9] _ rfl dk sm ?_
     | refine yaz [4,10,11] (yaa rfl (yaa rfl (yaa rfl yal))) rfl dk ?_
     | refine yax [4,9] _ rfl dk sm ?_
     | refine yaz [4,7,10,11] (yaa rfl (yaa rfl (yaa rfl (yaa rfl yal)))) rfl dk ?_
     | refine yax [4,7,9] _ rfl dk sm ?_
     | refine yaz [4,5,10,11] (yaa rfl (yaa rfl (yaa rfl (yaa rfl yal)))) rfl dk ?_
     | refine yax [4,5,9] _ rfl dk sm ?_
     | refine yaz [4,5,7,10,11] (yaa rfl (yaa rfl (yaa rfl (yaa rfl (yaa rfl yal))))) rfl dk ?_
     | refine yax [4,5,7,9] _ rfl dk sm ?_
     | refine yaz [10,11] (yaa rfl (yaa rfl yal)) rfl dk ?_
     | refine yaz [9,10,11] (yaa rfl (yaa rfl (yaa rfl yal))) rfl dk ?_
     | refine yaz [7,10,11] (yaa rfl (yaa rfl (yaa rfl yal))) rfl dk ?_
     | refine yax [7,9] _ rfl dk sm ?_
     | refine yaz [5,10,11] (yaa rfl (yaa rfl (yaa rfl yal))) rfl dk ?_
     | refine yax [5,9] _ rfl dk sm ?_
     | refine yaz [5,7,10,11] (yaa rfl (yaa rfl (yaa rfl (yaa rfl yal)))) rfl dk ?_
     | refine yax [5,7,9] _ rfl dk sm ?_)
   have hadv:=advance_conG (yaf p g) (ydi (yaf p g) k) ht (hcl k) (fun v r zs hr hz=>by
    obtain⟨b,hb',hs'⟩:=(hconf k).row hz
    rw[hr]at hb'
    cases hb'
    exact(yci hs').1) (hconf k).bd
   (repeat (first|refine zy ?_|refine L_callG [1] hadv rfl rfl rfl (ahead_bF _ _ _ _) (only_mat _ _) (t':=[(57,i64 k),(56,i64 n),(14,i64 ((yiw acc:Int)+(l.length:Int))),(12,.ls 53 1 (yaf p g).length),(11,.lp 11 0),(10,ygp p g kind),(6,.lp 6 0)]) ?_ rfl rfl rfl ?_))
   .intro x y hxy;refine⟨ycd zs x y hxy,?_⟩;simp only[yak]at hxy
    repeat' split at hxy
    all_goals first|(cases hxy;done)|skip
    all_goals cases hxy
    all_goals first
     | exact .inr ⟨1,sm,53,1,_,om,by rw[yfn];rfl,rfl,rfl⟩
     | exact .inl fun i hi=>rfl
     | exact .inl fun i hi=>ycp (by have:=zlp hi;omega)
   refine zY ?_;have e14:((yiw (acc++[(e,l)]):Nat):Int)=(yiw acc:Int)+(l.length:Int):=by rw[htot];omega
   refine yhi (k+1,acc++[(e,l)]) ⟨by simp only;omega,by simp[hal],by simp only;omega,?_⟩ (by simp only;omega) ?_ (fun id o h=>h)
   .simp only;rw[show n - (k+1)=m by omega,htot];exact hb2
   simp only;rw[e14];exact zs
 simp at h1;obtain rfl:k=n:=by omega
 rw[qbm]at hb;have hb3:yth p g kind k 0 0=some acc:=by rw[hb];simp[yth]
 rw[hb3]
 (repeat (first|with_reducible refine yeo ?_|with_reducible refine ycy ?_|refine ydu ?_))
 refine yqb (t':=[(11,.lp 11 0),(6,.lp 6 0)]) (h':=[(11,some (.cells [.ls 46 1 k,.ls 48 1 k])),(46,some (.vec (acc.map fun x=>yav x.1))),(48,some (.vec (acc.map fun x=>ybd x.2))),(6,some (.cells [ygd,ygd]))]) ?_ zs (fun id o h=>yft (by
  have e1:xaa k acc=acc.map fun x=>yav x.1:=by simp[xaa,hal]
  have e2:zzy k acc=acc.map fun x=>ybd x.2:=by simp[zzy,hal]
  rw[bF,e1,e2];exact h))
 refine yey 11 0 (acc.map fun x=>[yav x.1]) rfl rfl rfl (by simpa using hal) (fun row hr=>by obtain⟨y,_,rfl⟩:=qag.1 hr;rfl) (ydq _) rfl rfl rfl rfl ?_;refine yey 11 1 (acc.map fun x=>[ybd x.2]) rfl rfl rfl (by simpa using hal) (fun row hr=>by obtain⟨y,_,rfl⟩:=qag.1 hr;rfl) (ydq _) rfl rfl rfl rfl ?_;refine zk ?_;have e3:zfw (some acc)=.tup [.agg [.sl 1 (acc.map fun x=>[yav x.1]),.sl 1 (acc.map fun x=>[ybd x.2])],i64 0]:=by simp[zfw,ydh,Function.comp_def]
 rw[e3];exact Frz.pure
end
variable{s:SpcD}
section
open Go.RowKit
theorem rfact_con(g:GraphD)(hg:ycf g=true)(c:List (List Int))(v:Nat)(ls:List Lk)(hls:g.ports[v]?=some ls)(op port a:Int)(hop:6<=op/\op<=17/\op≠12)(hp:12<=op->0<=port/\port < ls.length) :
  Con prog 251 [yev g,i64 op,i64 v,i64 port] (i64 ((⟨g,c,v⟩:Scn).leaf port (op,a))):=by
 have hv:=ybe hg;have hvl:=(qaa.1 hls).1;have hlb:=hv.2.2.2.2.2.1 v ls hls;have hll:=yde hvl hlb;have hids:=hv.2.2.1;obtain⟨id,hid⟩:=ybk (show v < g.ids.length by omega);have hd:(⟨g,c,v⟩:Scn).deg=ls.length:=by simp[Scn.deg,hls]
 refine ze Tryz.func251 ntmps251 Tryz.results251 ?_;have:op=6\/op=7\/op=8\/op=9\/op=10\/op=11\/12 < op:=by omega
 rcases this with rfl|rfl|rfl|rfl|rfl|rfl|h12
 .refine zY ?_;refine zr ?_;exact yad (by simp[Scn.leaf,hids])
 ·(repeat (first|refine zy ?_|refine zc (zac g om) ?_))
  refine zr ?_;exact yad rfl
 .refine zY ?_;refine zr ?_;exact yad (by simp[Scn.leaf,hid])
 .refine zY ?_;refine zr ?_;exact yad (by simp[Scn.leaf,hd])
 ·(repeat (first|refine zy ?_|refine zc (ydf _) ?_))
  refine zr ?_;exact yad (by simp only[Scn.leaf];show ypr ((v:Int) == 0)=ypr (v == 0);congr 1;rw[qbw,beq_iff_eq,beq_iff_eq];omega)
 .refine zY ?_;refine zr ?_;exact yad rfl
 obtain⟨hp0,hp1⟩:=hp om;obtain⟨l,hl⟩:=ybk (show port.toNat < ls.length by omega);have hl1:=(ybv _ _ _).1 (((ycq _ _ _).1 hlb).1 l (qab hl));have hlk:(⟨g,c,v⟩:Scn).link port=l:=by simp[Scn.link,hls,hl]
 obtain⟨ls',hls'⟩:=ybk (show l.1.toNat < g.ports.length by omega);obtain⟨id',hid'⟩:=ybk (show l.1.toNat < g.ids.length by omega);have hll':=yde (show l.1.toNat < g.ports.length by omega) (hv.2.2.2.2.2.1 _ ls' hls');have:op=13\/op=14\/op=15\/op=16\/op=17:=by omega
 rcases this with rfl|rfl|rfl|rfl|rfl
 .refine zY ?_;refine zr ?_;exact yad (by simp[Scn.leaf,hlk,hid'])
 .refine zY ?_;refine zr ?_;exact yad (by simp[Scn.leaf,hlk,hls'])
 ·(repeat (first|refine zy ?_|refine zc (ydf _) ?_))
  refine zr ?_;exact yad (by simp[Scn.leaf,hlk])
 .refine zY ?_;refine zr ?_;exact yad (by simp[Scn.leaf,hlk])
 (repeat (first|refine zy ?_|refine zc (zyf g l.1 v ls' hl1.1 hls' om) ?_))
 refine zr ?_;exact yad (by simp[Scn.leaf,hlk,hls'])
theorem rleaf_con(g:GraphD)(hg:ycf g=true)(c:List (List Int))(v:Nat)(ls:List Lk)(hls:g.ports[v]?=some ls)(t:Tm)(port:Int)(hop:1<=t.1/\t.1<=17)(hp:12<=t.1->0<=port/\port < ls.length)
  (hc:c.length=g.ports.length) (hx:t.1=5\/t.1=12->0<=t.2/\∀ r∈c,t.2 < r.length) :
  Con prog 224 [yev g,ycj c,i64 v,i64 port,.agg [i64 t.1,i64 t.2]] (i64 ((⟨g,c,v⟩:Scn).leaf port t)):=by
 obtain⟨op,a⟩:=t;simp only at hop hp hx ⊢;have hv:=ybe hg;have hvl:=(qaa.1 hls).1;have hlb:=hv.2.2.2.2.2.1 v ls hls;have hll:=yde hvl hlb;obtain⟨r,hr⟩:=ybk (show v < c.length by omega);refine ze Tryz.func224 ntmps224 Tryz.results224 ?_;have:op=1\/op=2\/op=3\/op=4\/op=5\/op=12\/(6<=op/\op<=17/\op≠12):=by omega
 rcases this with rfl|rfl|rfl|rfl|rfl|rfl|h12
 .refine zY ?_;refine zr ?_;exact yad rfl
 .refine zY ?_;refine zr ?_;exact yad rfl
 .refine zY ?_;refine zr ?_;exact yad rfl
 .refine zY ?_;refine zr ?_;exact yad rfl
 .obtain ⟨hx0,hx1⟩:=hx (.inl rfl);have hx2:=hx1 r (qab hr);obtain⟨z,hz⟩:=ybk (show a.toNat < r.length by omega);refine zY ?_;refine zr ?_;exact yad (by simp[Scn.leaf,Scn.get,hr,hz])
 .obtain ⟨hp0,hp1⟩:=hp om;obtain⟨l,hl⟩:=ybk (show port.toNat < ls.length by omega);have hl1:=(ybv _ _ _).1 (((ycq _ _ _).1 hlb).1 l (qab hl));have hlk:(⟨g,c,v⟩:Scn).link port=l:=by simp[Scn.link,hls,hl]
  obtain⟨r',hr'⟩:=ybk (show l.1.toNat < c.length by omega);obtain⟨hx0,hx1⟩:=hx (.inr rfl);have hx2:=hx1 r' (qab hr');obtain⟨z,hz⟩:=ybk (show a.toNat < r'.length by omega);refine zY ?_;refine zr ?_;exact yad (by simp[Scn.leaf,Scn.get,hlk,hr',hz])
 have h1:¬ op=1:=by omega
 have h2:¬ op=2:=by omega
 have h3:¬ op=3:=by omega
 have h4:¬ op=4:=by omega
 have h5:¬ op=5:=by omega
 refine zY ?_;refine zj ?_ ?_ <;> intro q1
 .exact absurd (by simpa using q1) h1
 refine zY ?_;refine zj ?_ ?_ <;> intro q2
 .exact absurd (by simpa using q2) h2
 refine zY ?_;refine zj ?_ ?_ <;> intro q3
 .exact absurd (by simpa using q3) h3
 refine zY ?_;refine zj ?_ ?_ <;> intro q4
 .exact absurd (by simpa using q4) h4
 refine zY ?_;refine zj ?_ ?_ <;> intro q5
 .exact absurd (by simpa using q5) h5
 refine zY ?_;refine zj ?_ ?_ <;> intro q6
 .exact absurd (by simpa using q6) h12.2.2
 (repeat (first|refine zy ?_|refine zc (rfact_con g hg c v ls hls op port a h12 hp) ?_))
 refine zr ?_;exact yad rfl
end
section
open Go.RowKit
theorem range_snoc{f:Nat->Int}(j:Nat):(List.range (j+1)).map f=(List.range j).map f++[f j]:=by rw[qdd,qbz];rfl
theorem yrb{p:ProgD}{g:GraphD}{c:List (List Int)}{v:Nat}{ls:List Lk}{e:List Tm}{n:Int}(W:WalkOk p g c v ls e n){kinds:List Int}(hk:ygv kinds=true):∀ (E:Ex),E.ok->∀ (k:Nat) (r:List Tm) (b:Bool) (port:Int),e.drop k=E.fl++r->ty kinds b E≠0->InV port->(b=true->0<=port/\port < ls.length) ->
  Con prog 177 [yev g,ycj c,i64 v,i64 port,ybr e,i64 k] (i64 ((⟨g,c,v⟩:Scn).val port E))
 | .lf t,ho,k,r,b,port,hE,ht,hp,hb=>by
  obtain⟨hk1,hk2,hk3⟩:=yot (show e.drop k=t::r from hE);have he:=W.he;have h17:=xng ho;have ha0:ar t.1=0:=ho;have hnear:12<=t.1->0<=port/\port < ls.length:=fun h12=>hb (by
   cases b with
   | true=>rfl
   | false=>exact absurd (by simp only[ty];simp[zqs,h17.2];omega) ht)
  have hm:t∈e:=qab hk1;have har:=yfu t.1;rw[ha0]at har;refine ze Tryz.func177 ntmps177 Tryz.results177 ?_
  (repeat (first|refine zz ?_|refine zc (rleaf_con g W.hg c v ls W.hls t port h17 hnear W.hc (fun hx=>⟨(zkt (W.ha t hm) hx).1,fun r hr=>by have:=(zkt (W.ha t hm) hx).2;have:=W.hr r hr;omega⟩)) ?_))
  exact zp
 | .un t a,ho,k,r,b,port,hE,ht,hp,hb=>by
  obtain⟨hk1,hk2,hk3⟩:=yot (show e.drop k=t::(a.fl++r) from hE);have he:=W.he;have h17:=xnh ho.1;have hka:=ypn kinds hk b (.un t a) a ho (by simp[zqc]) ht;have hll:ls.length<=24:=(W.ok.links ls (qab W.hls)).1;have hdeg:(⟨g,c,v⟩:Scn).deg=ls.length:=by simp[Scn.deg,W.hls]
  have hls:=W.hls;have har:=yfu t.1;rw[ho.1]at har;have hag:=zrh t.1;cases hagb:yja t.1 with
  | false=>
   rw[hagb]at hag;have hna:=hagb;have hop:t.1=18\/t.1=19:=by
    have:¬ (20<=t.1/\t.1<=29):=fun h=>by rw[yqd.2 h]at hna;cases hna
    omega
   have ih:=yrb W hk a ho.2 (k+1) r b port hk2 (by simpa[hd,hna]using hka) hp hb;rw[show ((k+1:Nat):Int)=(k:Int)+1 by omega]at ih;have hin:InV ((⟨g,c,v⟩:Scn).val port a):=yro W.ok a (fun x hx=>W.ha x (yeg hk2 x hx)) hp;refine ze Tryz.func177 ntmps177 Tryz.results177 ?_
   (repeat (first|refine zz ?_|refine zc (run_con _ _ hop hin) ?_))
   refine zr ?_;exact yad (by simp only[Scn.val];rw[if_neg (by simp[hna])])
  | true=>
   rw[hagb]at hag;have hka:ty kinds true a≠0:=by simpa[hd,hagb]using hka
   let f:Nat->Int:=fun j=>(⟨g,c,v⟩:Scn).val (j:Int) a
   have hin:∀ j:Nat,j < ls.length->InV (f j):=fun j hj=>yro W.ok a (fun x hx=>W.ha x (yeg hk2 x hx)) (zmq (n:=0) hll hj);have hop:=yqd.1 hagb;refine ze Tryz.func177 ntmps177 Tryz.results177 ?_;refine zZ ?_;refine zcr 14 14 1 rfl rfl rfl ?_;refine ybw (α:=Nat) (fun j=>[(15,i64 j),(14,.ls 14 1 j),(13,i64 t.1),(6,.lp 6 0),(1,ycj c),(2,i64 v),(4,ybr e),(5,i64 k)]) (fun j=>[(14,some (.vec (((List.range j).map f).map i64))),(6,some (.cells [yai g.ids,yaq g.ports]))]) (fun j=>ls.length - j) (fun j=>j<=ls.length) 0 om zs (yah (yab rfl (yab rfl yag))) ?_;intro j hj;refine zY ?_;refine zj ?_ ?_ <;> intro h1
   .simp at h1;have ih:=yrb W hk a ho.2 (k+1) r true (j:Int) hk2 hka (zmq (n:=0) hll h1) (fun _=>⟨om,om⟩);rw[show ((k+1:Nat):Int)=(k:Int)+1 by omega]at ih
    (repeat (first|refine zz ?_|refine ydy tok rfl rfl rfl sm rfl (by simp[yas]) so rfl rfl rfl rfl rfl ?_))
    refine yhi (j+1) om om zs (hsE ?_);rw[range_snoc,qbz];exact yhg
   simp at h1;obtain rfl:j=ls.length:=by omega
   (repeat (first|with_reducible refine yeo ?_|with_reducible refine ycy ?_|refine ydu ?_|refine ype ?_))
   refine zt ?_;refine zns (f:=i64) (l:=(List.range ls.length).map f) 14 rfl sm rfl rfl ?_
   (repeat (first|refine zy ?_|refine zc (rfold_con t.1 ((List.range ls.length).map f) hop so (fun x hx=>by obtain⟨j,hj,rfl⟩:=qag.1 hx;exact hin j (qbt.1 hj))) ?_))
   refine zr ?_;exact yad (by simp only[Scn.val];rw[if_pos hagb,hdeg])
 | .bi t a d,ho,k,r,b,port,hE,ht,hp,hb=>by
  have hE2:e.drop k=t::(a.fl++(d.fl++r)):=by rw[hE];simp[Ex.fl]
  obtain⟨hk1,hk2,hk3⟩:=yot hE2;have he:=W.he;have h17:=xni ho.1;have hna:yja t.1=false:=by cases h:yja t.1 with|false=>rfl|true=>have:=yqd.1 h;omega
  have hka:=ypn kinds hk b (.bi t a d) a ho (by simp[zqc]) ht;have hkd:=ypn kinds hk b (.bi t a d) d ho (by simp[zqc]) ht;simp only[hd,hna,qdm]at hka hkd;have hk4:=yyi hk2;have ih1:=yrb W hk a ho.2.1 (k+1) _ b port hk2 hka hp hb;have ih2:=yrb W hk d ho.2.2 (k+1+a.fl.length) r b port hk4 hkd hp hb;rw[show ((k+1:Nat):Int)=(k:Int)+1 by omega]at ih1;have hin1:InV ((⟨g,c,v⟩:Scn).val port a):=yro W.ok a (fun x hx=>W.ha x (yeg hk2 x hx)) hp;have hin2:InV ((⟨g,c,v⟩:Scn).val port d):=yro W.ok d (fun x hx=>W.ha x (yeg hk4 x hx)) hp;have har:=yfu t.1;rw[ho.1]at har;have hop1:=yif e k (.bi t a d) [a] t r (d.fl++r) he hE ho (by rw[hE2];simp[flX]) (by intro X hX;obtain rfl:=qau.1 hX;exact ho.2.1) (by rw[ho.1];simp);rw[show (k+1+(flX [a]).length)=k+1+a.fl.length by simp[flX]]at hop1;refine ze Tryz.func177 ntmps177 Tryz.results177 ?_
  (repeat (first|refine zz ?_|refine zc (rbin_con _ _ _ h17 hin1 hin2) ?_))
  exact zp
 | .tr t a d f,ho,k,r,b,port,hE,ht,hp,hb=>by
  have hE2:e.drop k=t::(a.fl++(d.fl++(f.fl++r))):=by rw[hE];simp[Ex.fl]
  obtain⟨hk1,hk2,hk3⟩:=yot hE2;have he:=W.he;have h17:=xnj ho.1;have hna:yja t.1=false:=by cases h:yja t.1 with|false=>rfl|true=>have:=yqd.1 h;omega
  have hka:=ypn kinds hk b (.tr t a d f) a ho (by simp[zqc]) ht;have hkd:=ypn kinds hk b (.tr t a d f) d ho (by simp[zqc]) ht;have hkf:=ypn kinds hk b (.tr t a d f) f ho (by simp[zqc]) ht;simp only[hd,hna,qdm]at hka hkd hkf;have hk4:=yyi hk2;have hk5:=yyi hk4;have ih1:=yrb W hk a ho.2.1 (k+1) _ b port hk2 hka hp hb;have ih2:=yrb W hk d ho.2.2.1 (k+1+a.fl.length) _ b port hk4 hkd hp hb;have ih3:=yrb W hk f ho.2.2.2 (k+1+a.fl.length+d.fl.length) r b port hk5 hkf hp hb;rw[show ((k+1:Nat):Int)=(k:Int)+1 by omega]at ih1;have har:=yfu t.1;rw[ho.1]at har;have hop1:=yif e k (.tr t a d f) [a] t r (d.fl++(f.fl++r)) he hE ho (by rw[hE2];simp[flX]) (by intro X hX;obtain rfl:=qau.1 hX;exact ho.2.1) (by rw[ho.1];simp);rw[show (k+1+(flX [a]).length)=k+1+a.fl.length by simp[flX]]at hop1;have hop2:=yif e k (.tr t a d f) [a,d] t r (f.fl++r) he hE ho (by rw[hE2];simp[flX]) (by intro X hX;simp at hX;rcases hX with rfl|rfl <;> first|exact ho.2.1|exact ho.2.2.1) (by rw[ho.1];simp);rw[show (k+1+(flX [a,d]).length)=k+1+a.fl.length+d.fl.length by simp[flX];omega]at hop2;refine ze Tryz.func177 ntmps177 Tryz.results177 ?_;refine zZ ?_;refine zj ?_ ?_ <;> intro q5
  .refine zZ ?_;refine zr ?_;exact yad (by simp only[Scn.val];rw[if_pos (by simpa using q5)])
  refine zZ ?_;refine zr ?_;exact yad (by simp only[Scn.val];rw[if_neg (by simpa using q5)])
end
section
open Go.RowKit
theorem zyt(h:CfgOk p g c)(hv:v < c.length){e:List Tm}(ht:(ofF e (ybq p) false).1≠0):Con prog 177 [yev g,ycj c,i64 v,i64 (-1),ybr e,i64 0] (i64 ((⟨g,c,v⟩:Scn).of e)):=by
 obtain⟨E,hp,hE,ho,hfl,hk,hval,hty⟩:=xkh ht rfl;obtain⟨ls,hls⟩:=h.links hv;have W:=h.walk hls (by rw[<- h.kinds];exact hval);have hc:=yrb W hk E ho 0 [] false (-1) (by rw[hfl];simp) hty (by unfold InV yfp;omega) sm;unfold Scn.of;rw[hE];exact hc
theorem zjo(h:CfgOk p g c)(hv:v < c.length):Con prog 172 [ygg p,yev g,ycj c,i64 v] (i64 (xap p ⟨g,c,v⟩)):=by
 have hlen:=(ycn h.prog).2.2.1;refine ze Tryz.func172 ntmps172 Tryz.results172 ?_;refine zY ?_;refine ybj (α:=Nat) (fun k=>[(9,i64 k),(4,.lp 4 0),(5,.lp 5 0),(2,ycj c),(3,i64 v)]) (fun k=>[(4,some (.cells [ykp p.name,.sl 6 (p.vars.map ybl),.sl 3 (p.rules.map ybc)])),(5,some (.cells [yai g.ids,yaq g.ports]))]) (fun k=>p.rules.length - k) (fun k=>k<=p.rules.length/\∀ j b,j < k->(p.rules.map fun r=>(⟨g,c,v⟩:Scn).of r.guard)[j]?=some b->b=0) 0 ⟨om,fun j b hj=>by omega⟩ zs zh ?_;intro k ⟨hk,hall⟩;refine zY ?_;refine zj ?_ ?_ <;> intro h1
 .simp at h1;obtain⟨r,hr⟩:=ybk h1;have hat:(p.rules.map fun r=>(⟨g,c,v⟩:Scn).of r.guard)[k]?=some ((⟨g,c,v⟩:Scn).of r.guard):=by rw[qak,hr];rfl
  have ht:=zxd h.prog (qab hr)
  (repeat (first|refine zy ?_|refine zc (zyt h hv (e:=r.guard) om) ?_))
  refine zj ?_ ?_ <;> intro h2
  .refine zk ?_;exact yad (by unfold xap;rw[zwx hat (by simpa using h2) hall];simp)
  refine zY ?_;refine rnd (k+1) ⟨om,fun j b hj hb=>?_⟩ om zs zh;by_cases e:j=k
  .subst e;rw[hat]at hb;cases hb;simpa using h2
  exact hall j b om hb
 simp at h1;obtain rfl:k=p.rules.length:=by omega
 refine zk ?_;refine yad ?_;unfold xap;rw[zbr];intro a ha;obtain⟨j,hj⟩:=qao ha;exact hall j a (by have:=(qaa.1 hj).1;simpa using this) hj
theorem ywu(h:CfgOk p g c):Con prog 114 [ygg p,yev g,ycj c] (yav (ydc p g c)):=by
 have hl:=h.len;have h24:=h.n24;refine ze Tryz.func114 ntmps114 Tryz.results114 ?_;refine zY ?_;refine ybj (α:=Nat) (fun k=>[(8,i64 k),(7,yav (ymc (yry p g c) k)),(3,.lp 3 0),(4,.lp 4 0),(2,ycj c)]) (fun k=>[(3,some (.cells [ykp p.name,.sl 6 (p.vars.map ybl),.sl 3 (p.rules.map ybc)])),(4,some (.cells [yai g.ids,yaq g.ports]))]) (fun k=>c.length - k) (fun k=>k<=c.length) 0 om zs zh ?_;intro k hk;refine zY ?_;refine zj ?_ ?_ <;> intro h1
 .simp at h1
  (repeat (first|refine zy ?_|refine zc (zjo h h1) ?_))
  have hnext:∀ q,yry p g c k=q->ymc (yry p g c) (k+1)=if q=true then ymc (yry p g c) k ||| (1#32 <<< k)else ymc (yry p g c) k:=fun q hq=>by rw[ymc,hq]
  refine zj ?_ ?_ <;> intro h2
  ·(try refine zbx ?_)
   have e:=hnext true (by simpa[yry]using h2);rw[if_pos rfl]at e;refine rnd (k+1) om om ?_ zh;rw[e];exact zs
  refine zY ?_;have e:=hnext false (by simpa[yry]using h2);rw[if_neg sm]at e;refine rnd (k+1) om om ?_ zh;rw[e];exact zs
 simp at h1;obtain rfl:k=c.length:=by omega
 exact zkp
theorem yre(h:CfgOk p g c):Con prog 62 [ygg p,yev g,ycj c] (yav (ydc p g c)):=by
 have hm:=rvalid10_con p g c h.fair h.cin;rw[h.chk]at hm;refine ze Tryz.func62 ntmps62 Tryz.results62 ?_
 (repeat (first|refine zz ?_|refine zc (ywu h) ?_))
 exact zp
end
section
open Go.RowKit
def yxg(r:RuleD):Nat:=r.guard.length+(r.sets.map fun x=>x.val.length).sum
def zzk(p:ProgD):Nat:=(p.rules.map yxg).sum
theorem zzf{m:Nat}:∀ {l:List α},(∀ x∈l,f x<=m)->(l.map f).sum<=l.length * m
 | [],_=>by simp
 | a::l,h=>by
  have:=zzf (l:=l) fun x hx=>h x (by simp[hx]);have:=h a sm;simp only[qce,List.sum_cons,qaj,qdi];omega
theorem zzl(h:ylu p=true):p.rules.length<=16/\(∀ r∈p.rules,r.guard.length<=250/\r.sets.length<=10/\∀ x∈r.sets,x.val.length<=250)/\zzk p<=44000/\∀ r∈p.rules,yxg r<=2750:=by
 unfold ylu at h;simp only[qad,decide_eq_true_eq,List.all_eq_true]at h;have hr:∀ r∈p.rules,r.guard.length<=250/\r.sets.length<=10/\∀ x∈r.sets,x.val.length<=250:=fun r hr=>by
  have:=h.2.2.2.2 r hr;unfold yqr at this;simp only[qad,decide_eq_true_eq,List.all_eq_true]at this;refine⟨om,om,fun x hx=>?_⟩;have:=this.2.2.2 x hx;omega
 have ht:∀ r∈p.rules,yxg r<=2750:=fun r hr'=>by
  obtain⟨h1,h2,h3⟩:=hr r hr';have:=zzf (f:=fun x:SetD=>x.val.length) h3;unfold yxg;omega
 refine⟨h.2.2.1,hr,?_,ht⟩;have:=zzf ht;unfold zzk;omega
theorem zzg{l:List α}{x:α}(h:l[k]?=some x):((l.take (k+1)).map f).sum=((l.take k).map f).sum+f x:=by
 rw[yao h];simp
theorem zzh(l:List α)(k:Nat):((l.take k).map f).sum<=(l.map f).sum:=by
 have:=congrArg (fun l=>(l.map f).sum) (qcd k l);simp only[qbz,List.sum_append]at this;omega
theorem terms_con(p:ProgD)(hl:ylu p=true):Con prog 113 [ygg p] (i64 (zzk p)):=by
 obtain⟨h1,h2,h3,h4⟩:=zzl hl;refine ze Tryz.func113 ntmps113 Tryz.results113 ?_;refine zY ?_;refine ybj (α:=Nat) (fun k=>[(4,i64 k),(3,i64 (((p.rules.take k).map yxg).sum:Nat)),(1,.lp 1 0)]) (fun k=>[(1,some (.cells [ykp p.name,.sl 6 (p.vars.map ybl),.sl 3 (p.rules.map ybc)]))]) (fun k=>p.rules.length - k) (fun k=>k<=p.rules.length) 0 om zs zh ?_;intro k hk;have hb1:=zzh (f:=yxg) p.rules k;have hb1:((p.rules.take k).map yxg).sum<=44000:=qbp hb1 h3;refine zY ?_;refine zj ?_ ?_ <;> intro q1
 .simp at q1;obtain⟨r,hr⟩:=ybk q1;obtain⟨g1,g2,g3⟩:=h2 r (qab hr);refine zY ?_;refine ybj (α:=Nat) (fun j=>[(5,i64 j),(4,i64 k),(3,i64 (((p.rules.take k).map yxg).sum+r.guard.length+((r.sets.take j).map fun x=>x.val.length).sum:Nat)),(1,.lp 1 0)]) (fun j=>[(1,some (.cells [ykp p.name,.sl 6 (p.vars.map ybl),.sl 3 (p.rules.map ybc)]))]) (fun j=>r.sets.length - j) (fun j=>j<=r.sets.length) 0 om ?_ zh ?_
  .refine yan rfl (yan rfl (yan (yes rfl (yka sm)) zs))
  intro j hj;have hb2:=zzh (f:=fun x:SetD=>x.val.length) r.sets j;have hb2:((r.sets.take j).map fun x=>x.val.length).sum<=2500:=qbp hb2 (qbp (zzf g3) om);refine zY ?_;refine zj ?_ ?_ <;> intro q2
  .simp at q2;obtain⟨x,hx⟩:=ybk q2;have:=g3 x (qab hx);refine zY ?_;refine rnd (j+1) om om ?_ zh;refine yan rfl (yan rfl (yan (yes rfl (yka ?_)) zs));rw[zzg hx];omega
  simp at q2;obtain rfl:j=r.sets.length:=by omega
  refine zY ?_;refine rnd (k+1) om om ?_ zh;refine yan rfl (yan (yes rfl (yka ?_)) zs);rw[zzg hr,yxg,qaw];omega
 simp at q1;obtain rfl:k=p.rules.length:=by omega
 refine zk ?_;exact yad (by rw[qaw];rfl)
def xlu(g:GraphD):Nat:=g.ports.foldl (fun d l=>max d l.length) 1
theorem deg_snoc{l:List (List Lk)}{x:List Lk}(h:l[k]?=some x):(l.take (k+1)).foldl (fun d l=>max d l.length) 1=max ((l.take k).foldl (fun d l=>max d l.length) 1) x.length:=by
 rw[yao h,qcx];rfl
theorem xgt{m:Nat}:∀ {l:List (List Lk)} {d:Nat},d<=m->(∀ x∈l,x.length<=m)->l.foldl (fun d l=>max d l.length) d<=m
 | [],d,h,_=>h
 | a::l,d,h,hl=>xgt (l:=l) (by have:=hl a sm;show max d a.length<=m;omega) fun x hx=>hl x (by simp[hx])
theorem degrees_con(g:GraphD)(hl:yko g=true):Con prog 112 [yev g] (i64 (xlu g)):=by
 obtain⟨h1,h2,h3⟩:=(ygq g).1 hl;refine ze Tryz.func112 ntmps112 Tryz.results112 ?_;refine zY ?_;refine ybj (α:=Nat) (fun k=>[(4,i64 k),(3,i64 ((g.ports.take k).foldl (fun d l=>max d l.length) 1:Nat)),(1,.lp 1 0)]) (fun k=>[(1,some (.cells [yai g.ids,yaq g.ports]))]) (fun k=>g.ports.length - k) (fun k=>k<=g.ports.length) 0 om (yan rfl (yan (yes rfl (yka sm)) zs)) zh ?_;intro k hk;refine zY ?_;refine zj ?_ ?_ <;> intro q1
 .simp at q1;obtain⟨ls,hls⟩:=ybk q1;refine zY ?_;refine rnd (k+1) om om ?_ zh;refine yan rfl (yan (yes rfl (yka ?_)) zs);rw[deg_snoc hls];generalize (g.ports.take k).foldl (fun d l=>max d l.length) 1=d;split <;> omega
 simp at q1;obtain rfl:k=g.ports.length:=by omega
 refine zk ?_;exact yad (by rw[qaw];rfl)
theorem deg_pos(g:GraphD)(hl:yko g=true):xlu g<=30:=by
 obtain⟨h1,h2,h3⟩:=(ygq g).1 hl;exact xgt om h3
theorem prods{a b c A B C:Nat}(ha:a<=A)(hb:b<=B)(hc:c<=C):0<=(a:Int) * b/\(a:Int) * b<=(A * B:Nat)/\0<=(a:Int) * b * c/\(a:Int) * b * c<=(A * B * C:Nat)/\0<=(a:Int) * b * c * c/\(a:Int) * b * c * c<=(A * B * C * C:Nat):=by
 have h1:a * b<=A * B:=qhr ha hb;have h2:a * b * c<=A * B * C:=qhr h1 hc;have h3:a * b * c * c<=A * B * C * C:=qhr h2 hc;have e1:(a:Int) * b=((a * b:Nat):Int):=by simp
 have e2:(a:Int) * b * c=((a * b * c:Nat):Int):=by simp
 have e3:(a:Int) * b * c * c=((a * b * c * c:Nat):Int):=by simp
 rw[e3,e2,e1];omega
def zam(p:ProgD)(g:GraphD):Bool:=ylu p && yko g && decide ((zzk p:Int) * g.ports.length * xlu g * xlu g<=100000)
theorem quick_con(p:ProgD)(g:GraphD)(hin:yjt p):Con prog 60 [ygg p,yev g] (yau (zam p g)):=by
 refine ze Tryz.func60 ntmps60 Tryz.results60 ?_
 (repeat (first|refine zy ?_|refine zc (lightP_con p hin) ?_))
 refine yaj 9 rfl (fun h1=>?_) (fun h1=>?_)
 .refine zk ?_;exact yae (by simp at h1;simp[zam,h1])
 have h1:ylu p=true:=by simpa using h1
 (repeat (first|refine zy ?_|refine zc (lightGraph_con g) ?_))
 refine zj ?_ ?_ <;> intro h2
 .refine zk ?_;exact yae (by simp at h2;simp[zam,h2])
 have h2:yko g=true:=by simpa using h2
 have hm:=prods (zzl h1).2.2.1 ((ygq g).1 h2).2.1 (deg_pos g h2)
 (repeat (first|refine zy ?_|refine zc (degrees_con g h2) ?_|refine zc (terms_con p h1) ?_))
 refine zr ?_;exact yae (by simp[zam,h1,h2])
def arB(g:GraphD)(B:BitVec 32)(v:Nat):Bool:=(g.ports.getD v []).any fun l=>B.getLsbD l.1.toNat
theorem zvn{f:α->Bool}{l:List α}{x:α}(h:l[k]?=some x):(l.take (k+1)).any f=((l.take k).any f || f x):=by
 rw[yao h];simp
end
section
open Go.RowKit
theorem zdx(B:BitVec 32)(v:Nat)(hv:v < 32):Con prog 117 [yav B,i64 v] (yau (B.getLsbD v)):=by
 refine ze Tryz.func117 ntmps117 Tryz.results117 ?_
 (try refine zb ?_)
 refine yaj 7 rfl (fun h1=>?_) (fun h1=>?_)
 ·(try refine zb ?_)
  refine yaj 11 rfl (fun h2=>?_) (fun h2=>?_)
  ·(try refine zb ?_)
   refine zr ?_;rw[<- zun];exact Frz.pure
  exact absurd h2 so
 exact absurd h1 sm
end
section
open Go.RowKit
theorem yoe(kind:Int):Con prog 61 [i64 kind] (yau (decide (1<=kind) && decide (kind<=4))):=by
 refine ze Tryz.func61 ntmps61 Tryz.results61 ?_;refine zY ?_;refine yaj 5 rfl (fun h1=>?_) (fun h1=>?_)
 .refine zk ?_;exact yae (by simp at h1;simp;omega)
 refine zk ?_;exact yae (by simp at h1;simp;omega)
theorem rleast15_con(B:BitVec 32):Con prog 175 [yav B] (yav (-B &&& B)):=by
 refine ze Tryz.func175 ntmps175 Tryz.results175 ?_;refine zY ?_;refine ybj (α:=Nat) (fun v=>[(3,i64 v),(0,yav B)]) (fun _=>[]) (fun v=>32 - v) (fun v=>v<=32/\∀ u,u < v->B.getLsbD u=false) 0 ⟨om,fun u hu=>by omega⟩ zs yag ?_;rintro v ⟨hv,hb⟩;refine zY ?_;refine zj ?_ ?_ <;> intro q1
 .simp at q1;have hh:=zdx B v om;refine zZ ?_;refine zj ?_ ?_ <;> intro q2
  .have q2:B.getLsbD v=true:=q2;have h0:B≠0#32:=fun e=>by rw[e]at q2;simp at q2
   obtain⟨t1,t2,t3⟩:=yrm h0;have e:tzV B=v:=by
    rcases Nat.lt_trichotomy (tzV B) v with h|h|h
    .rw [hb _ h]at t2;cases t2
    .exact h
    rw[t3 v h]at q2;cases q2
   have e2:-B &&& B=1#32 <<< v:=by rw[BitVec.and_comm,ztt h0,e]
   (try refine zbx ?_)
   refine zr ?_;rw[e2];exact Frz.pure
  have q2:B.getLsbD v=false:=q2;refine zY ?_;exact rnd (v+1) ⟨om,fun u hu=>by
   rcases qbh u v with h|h
   .exact hb u h
   rw[show u=v by omega];exact q2⟩ om zs yag
 simp at q1;have h0:B=0#32:=by
  apply qbr;intro u hu;rw[hb u om];simp
 refine zk ?_;rw[h0];exact Frz.pure
theorem popF_succ(f:Nat->Bool)(n:Nat):ypb f (n+1)=ypb f n+if f n=true then 1 else 0:=by
 unfold ypb;rw[qdd,qcn,qan];cases h:f n <;> simp[h]
theorem yrc(B:BitVec 32):Con prog 96 [yav B] (i64 (zak B:Nat)):=by
 refine ze Tryz.func96 ntmps96 Tryz.results96 ?_;refine zY ?_;refine ybj (α:=Nat) (fun v=>[(4,i64 v),(3,i64 (ypb B.getLsbD v:Nat)),(0,yav B)]) (fun _=>[]) (fun v=>32 - v) (fun v=>v<=32) 0 om zs yag ?_;intro v hv;refine zY ?_;refine zj ?_ ?_ <;> intro q1
 .simp at q1;have hh:=zdx B v om;have hp:=zmp B.getLsbD v;have hs:=popF_succ B.getLsbD v;refine zZ ?_;refine zj ?_ ?_ <;> intro q2
  .have q2:B.getLsbD v=true:=q2;rw[if_pos q2]at hs;refine zY ?_;refine rnd (v+1) om om ?_ yag;rw[hs];exact zs
  have q2:B.getLsbD v=false:=q2;rw[if_neg (by rw[q2];simp)]at hs;refine zY ?_;refine rnd (v+1) om om ?_ yag;rw[hs];exact zs
 simp at q1;obtain rfl:v=32:=by omega
 exact zkp
theorem rsubsets_con(e:BitVec 32):Con prog 118 [yav e] (ydh (zga e)):=by
 have hl:=rleast15_con e;refine ze Tryz.func118 ntmps118 Tryz.results118 ?_;refine zZ ?_;refine zcr 3 60 1 rfl rfl rfl ?_;refine ybw (α:=BitVec 32 × List (BitVec 32)) (fun a=>[(4,yav a.1),(3,.ls 60 1 a.2.length),(0,yav e)]) (fun a=>[(60,some (.vec (a.2.map yav)))]) (fun a=>xkj a.1) (fun a=>yzq a.1 e/\a.2++zne e a.1=zga e) (-e &&& e,[]) ⟨yjx e,rfl⟩ zs (yah zh) ?_;rintro⟨x,acc⟩ ⟨hx,hacc⟩;simp only at hx hacc ⊢;refine zY ?_;refine zj ?_ ?_ <;> intro q6
 .rw [ydd]at q6;have q6:x≠0#32:=by simpa[bne]using q6
  have hfar:=zwo hx q6;rw[yzi hx q6]at hacc;have hbd:acc.length+(x::zne e (yoy e x)).length<=4294967296:=by
   have:=congrArg List.length hacc;rw[qan]at this;rw[this];exact qbp (yrj e _ _) om
  simp only[qaj]at hbd
  (repeat (first|refine zq ?_|refine ydy tok rfl rfl rfl sm rfl (by simp[yas]) so rfl rfl rfl rfl rfl ?_))
  refine yhi (yoy e x,acc++[x]) ⟨ymv e x,by rw[qbd];exact hacc⟩ hfar (by simp only[qan];exact zs) (yah (yab ?_ yag));show some _=some _;simp;rfl
 rw[ydd]at q6;have q6:x=0#32:=by simpa[bne]using q6
 rw[q6,yzj,qba]at hacc;refine zk ?_;rw[<- hacc];exact yqo rfl rfl
theorem zan(g:GraphD)(hg:ycf g=true)(hl:yko g=true)(B:BitVec 32):Con prog 119 [yev g,yav B] (yav (ylm g B)):=by
 have hv:=ybe hg;have hrv:=yof g hl;rw[hg]at hrv;refine ze Tryz.func119 ntmps119 Tryz.results119 ?_;refine zZ ?_;refine ybj (α:=Nat) (fun k=>[(6,i64 k),(5,yav (ymc (arB g B) k)),(1,yav B),(2,.lp 2 0)]) (fun k=>[(2,some (.cells [yai g.ids,yaq g.ports]))]) (fun k=>g.ports.length - k) (fun k=>k<=g.ports.length) 0 om zs zh ?_;intro k hk;refine zY ?_;refine zj ?_ ?_ <;> intro h1
 .simp at h1;obtain⟨ls,hls⟩:=ybk h1;have hlb:=hv.2.2.2.2.2.1 k ls hls;have hll:=yde h1 hlb
  let W:Nat->BitVec 32:=fun j=>if (ls.take j).any (fun l=>B.getLsbD l.1.toNat)=true then ymc (arB g B) k ||| (1#32 <<< k)else ymc (arB g B) k
  refine zY ?_;refine ybj (α:=Nat) (fun j=>[(7,i64 j),(6,i64 k),(5,yav (W j)),(1,yav B),(2,.lp 2 0)]) (fun j=>[(2,some (.cells [yai g.ids,yaq g.ports]))]) (fun j=>ls.length - j) (fun j=>j<=ls.length) 0 om zs zh ?_;intro j hj;refine zY ?_;refine zj ?_ ?_ <;> intro h2
  .simp at h2;obtain⟨l,hl'⟩:=ybk h2;have hl1:=(ybv _ _ _).1 (((ycq _ _ _).1 hlb).1 l (qab hl'));obtain⟨to,wt,rfl⟩:∃ (to:Nat) (wt:Int),l=((to:Int),wt):=⟨l.1.toNat,l.2,by rw[qef hl1.1]⟩;have hh:=zdx B to (by simp at hl1;omega);refine zZ ?_;refine zj ?_ ?_ <;> intro h3
   .have h3:B.getLsbD (((to:Int),wt):Lk).1.toNat=true:=h3
    (try refine zbx ?_)
    refine rnd (j+1) om om ?_ zh;refine yan rfl (yan rfl (yan (yes rfl ?_) zs));simp only[W];rw[zvn hl',h3,Bool.or_true,if_pos rfl];split
    .rw [qcl,BitVec.or_assoc,BitVec.or_self]
    rfl
   have h3:B.getLsbD (((to:Int),wt):Lk).1.toNat=false:=h3;refine zY ?_;refine rnd (j+1) om om ?_ zh;refine yan rfl (yan rfl (yan (yes rfl ?_) zs));simp only[W];rw[zvn hl',h3,qdm]
  simp at h2;obtain rfl:j=ls.length:=by omega
  refine zY ?_;refine rnd (k+1) om om ?_ zh;refine yan rfl (yan (yes rfl ?_) zs);simp only[W];rw[qaw,ymc];have e:arB g B k=ls.any fun l=>B.getLsbD l.1.toNat:=by unfold arB;rw[qac,hls];rfl
  rw[e]
 simp at h1;obtain rfl:k=g.ports.length:=by omega
 exact zkp
theorem indep_around(hg:ycf g=true){x:BitVec 32}(hx:InN g.ports.length x):yvt g x=(ylm g x &&& x == 0#32):=by
 have hv:=ybe hg;have key:∀ v,v < g.ports.length->((ywh g).getD v 0#32 &&& x=0#32<->(ylm g x).getLsbD v=false):=fun v hvl=>by
  obtain⟨ls,hls⟩:=ybk hvl;have hin:=hv.2.2.2.2.2.1 v ls hls;have hn:(ywh g).getD v 0#32=zua ls:=by simp[ywh,hls]
  have ha:(ylm g x).getLsbD v=ls.any fun l=>x.getLsbD l.1.toNat:=by
   unfold ylm;rw[yhm _ _ _ om,decide_eq_true hvl,qfe,qac,hls];rfl
  rw[hn,ha];constructor
  .intro h;rw[qfo];intro l hl hb;have hb32:l.1.toNat < 32:=by
    rcases qbh l.1.toNat 32 with h9|h9
    .exact h9
    rw[qcg _ _ h9]at hb;cases hb
   have:=congrArg (fun X=>BitVec.getLsbD X l.1.toNat) h;simp only[qbi,hb,qfl,qbs]at this;rw[zua,zcc hb32]at this;simp only[qbs,qep,qfo]at this;exact this l hl sm
  intro h;rw[qfo]at h;apply qbr;intro u hu;rw[qbi,zua,zcc hu,qbs,qep];cases hxu:x.getLsbD u with
  | false=>simp
  | true=>
   rw[qfl,qfo];intro l hl e;exact h l hl (by rw[<- of_decide_eq_true e];exact hxu)
 rw[qbw,zec,beq_iff_eq];constructor
 .intro h;apply qbr;intro u hu;rw[qbi,qbs];cases hxu:x.getLsbD u with
  | false=>simp
  | true=>
   have hun:u < g.ports.length:=by
    rcases qbh u g.ports.length with h9|h9
    .exact h9
    rw[hx u h9]at hxu;cases hxu
   rw[(key u hun).1 (h u om hxu)];rfl
 intro h v h24 hxv;have hun:v < g.ports.length:=by
  rcases qbh v g.ports.length with h9|h9
  .exact h9
  rw[hx v h9]at hxv;cases hxv
 refine(key v hun).2 ?_;have:=congrArg (fun X=>BitVec.getLsbD X v) h;simpa[hxv]using this
theorem per_around(hg:ycf g=true)(hk:kind=2\/kind=3){x:BitVec 32}(he:InN g.ports.length e)(hx:yzq x e)(h0:x≠0#32):zce g kind e x=(decide (kind=3) || ylm g x &&& x == 0#32):=by
 have hxn:InN g.ports.length x:=fun u hu=>by
  cases hb:x.getLsbD u with
  | false=>rfl
  | true=>exact absurd (he u hu) (by rw[hx.bit hb];simp)
 have hx':x &&& ~~~e=0#32:=hx;unfold zce;rw[show (x == 0#32)=false by simpa using h0,hx'];rcases hk with rfl|rfl
 .rw [indep_around hg hxn];simp
 simp
theorem zgb(e:BitVec 32):∀ (n:Nat) (x:BitVec 32),yzq x e->∀ y∈ynj e n x,yzq y e/\y≠0#32
 | 0,x,_,y,h=>by simp[ynj]at h
 | n+1,x,hx,y,h=>by
  unfold ynj at h;split at h
  .simp at h
  rename_i h0;rcases qaq.1 h with rfl|h
  .exact ⟨hx,h0⟩
  exact zgb e n _ (ymv e x) y h
theorem zhx(hg:ycf g=true)(hk:kind=2\/kind=3)(he:InN g.ports.length e):zgx g kind e=(zga e).filter fun x=>decide (kind=3) || ylm g x &&& x == 0#32:=by
 unfold zgx;rw[if_neg om,if_neg om];refine qfm fun x hx=>?_;obtain⟨h1,h2⟩:=zgb e _ _ (yjx e) x hx;exact per_around hg hk he h1 h2
theorem zfi(n:Nat)(hn:n<=24):Con prog 116 [i64 n] (yav (ymc (fun _=>true) n)):=by
 refine ze Tryz.func116 ntmps116 Tryz.results116 ?_;refine zY ?_;refine ybj (α:=Nat) (fun v=>[(4,i64 v),(3,yav (ymc (fun _=>true) v)),(0,i64 n)]) (fun _=>[]) (fun v=>n - v) (fun v=>v<=n) 0 om zs yag ?_;intro v hv;refine zY ?_;refine yaj 8 rfl (fun q1=>?_) (fun q1=>?_)
 .simp at q1
  (try refine zbx ?_)
  refine yux rfl (fun _=>?_) (fun q2=>?_)
  ·(try refine zbx ?_)
   refine rnd (v+1) om om ?_ yag;rw[show ymc (fun _=>true) (v+1)=ymc (fun _=>true) v ||| (1#32 <<< v) by simp[ymc]];exact zs
  simp at q2;omega
 simp at q1;obtain rfl:v=n:=by omega
 exact zkp
theorem nodes_take(hv:v < 32):(List.range (v+1)).filter e.getLsbD=(List.range v).filter e.getLsbD++if e.getLsbD v=true then [v]else []:=by
 rw[qdd,qcn];cases h:e.getLsbD v <;> simp[h]
theorem yvm{p:Nat->Bool}(h:∀ u,n<=u->p u=false):∀ k,(List.range (n+k)).filter p=(List.range n).filter p
 | 0=>rfl
 | k+1=>by
  rw[<- qdf,qdd,qcn,yvm h k];simp[h (n+k) om]
theorem zxx(hn:n<=32)(he:InN n e):(List.range n).filter e.getLsbD=ycb e:=by
 have:=yvm (p:=e.getLsbD) he (32 - n);rw[Nat.add_sub_cancel' hn]at this;exact this.symm
theorem rchoices_con(g:GraphD)(hg:ycf g=true)(hl:yko g=true)(kind:Int)(hk:1<=kind/\kind<=4)(e:BitVec 32)(he:InN g.ports.length e):Con prog 63 [yev g,i64 kind,yav e] (xmo (yzw g kind e)):=by
 have hv:=ybe hg;have hrv:=yof g hl;rw[hg]at hrv;have hrk:=yoe kind;rw[decide_eq_true hk.1,decide_eq_true hk.2]at hrk;have hall:=zfi g.ports.length hv.2.1;have hsub:e &&& ~~~(ymc (fun _=>true) g.ports.length)=0#32:=by
  apply qbr;intro u hu;rw[qbi,qcy,yhm _ _ _ hu,qbs];rcases qbh u g.ports.length with h9|h9
  .simp [h9]
  rw[he u h9];simp
 refine ycx tok Tryz.func63 rfl rfl ntmps63 Tryz.results63 rfl (zow _) ?_
 (try refine zbz ?_)
 refine zj ?_ ?_ <;> intro q0
 .rw [ydd,hsub]at q0;simp at q0
 refine zY ?_;have hch0:yzw g kind e=if e=0#32 then some []else if kind≠1/\kind≠4/\10 < zak e then none else some (zgx g kind e):=rfl
 refine zcr 8 60 1 rfl rfl rfl ?_;refine zj ?_ ?_ <;> intro q1
 .have k1:kind=1:=by simpa using q1
  subst k1;have hcv:yzw g 1 e=some ((ycb e).map fun v=>1#32 <<< v):=by
   unfold yzw;by_cases h0:e=0#32
   .rw [if_pos h0,h0];rfl
   rw[if_neg h0,if_neg sm,zgx,if_pos rfl]
  rw[hcv];refine zY ?_;refine ybw (α:=Nat) (fun v=>[(9,i64 v),(8,.ls 60 1 ((List.range v).filter e.getLsbD).length),(3,.lp 3 0),(2,yav e)]) (fun v=>[(60,some (.vec (((List.range v).filter e.getLsbD).map fun v=>yav (1#32 <<< v)))),(3,some (.cells [yai g.ids,yaq g.ports]))]) (fun v=>g.ports.length - v) (fun v=>v<=g.ports.length) 0 om zs (yah zh) ?_;intro v hv';refine zY ?_;refine zj ?_ ?_ <;> intro q2
  .simp at q2;have hh:=zdx e v om;have hnt:=nodes_take (e:=e) (show v < 32 by omega);have hnl:((List.range v).filter e.getLsbD).length<=v:=by have:=qcu e.getLsbD (List.range v);simpa using this
   refine zZ ?_;refine zj ?_ ?_ <;> intro q3
   .have q3:e.getLsbD v=true:=q3;rw[if_pos q3]at hnt
    (repeat (first|refine zbx ?_|refine ydy tok rfl rfl rfl sm rfl (by simp[yas]) so rfl rfl rfl rfl rfl ?_))
    refine yhi (v+1) om om (by rw[hnt,qan];exact zs) (yah (yab ?_ (yab rfl yag)));show some _=some _;rw[hnt];simp;rfl
   have q3:e.getLsbD v=false:=q3;rw[if_neg (by rw[q3];simp),qba]at hnt;refine zY ?_;exact yhi (v+1) om om (by rw[hnt];exact zs) (hsE (by rw[hnt]))
  simp at q2;obtain rfl:v=g.ports.length:=by omega
  rw[zxx om he];refine zk ?_;exact Frz.tup2 (yqo (by simp;rfl) sm) Frz.pure
 have k1:¬ kind=1:=by simpa using q1
 refine zY ?_;refine zj ?_ ?_ <;> intro q4
 .have k4:kind=4:=by simpa using q4
  subst k4;by_cases h0:e=0#32
  .rw [yzw,if_pos h0,h0];refine zk ?_;exact Frz.tup2 (yqo (l:=[]) rfl rfl) Frz.pure
  rw[yzw,if_neg h0,if_neg sm,zgx,if_neg om,if_pos rfl];refine zY ?_;refine zj ?_ ?_ <;> intro q5
  ·(repeat (first|refine zy ?_|refine ydy tok rfl rfl rfl rfl rfl (by simp[yas]) sm rfl rfl rfl rfl rfl ?_))
   refine zr ?_;exact Frz.tup2 (yqo (l:=[e]) rfl rfl) Frz.pure
  rw[ydd]at q5;exact absurd (by simpa[bne]using q5) h0
 have k4:¬ kind=4:=by simpa using q4
 have hk23:kind=2\/kind=3:=by omega
 have hcnt:=yrc e;have hsb:=rsubsets_con e;refine zZ ?_;refine zj ?_ ?_ <;> intro q5
 .have q5:10 < zak e:=by simp at q5;omega
  have h0:e≠0#32:=fun h=>by
   rw[h,show zak 0#32=0 from by decide +kernel]at q5;omega
  rw[yzw,if_neg h0,if_pos ⟨k1,k4,q5⟩];refine zk ?_;exact Frz.tup2 Frz.nil Frz.pure
 have q5:¬ 10 < zak e:=by simp at q5;omega
 have hcv:yzw g kind e=some ((zga e).filter fun x=>decide (kind=3) || ylm g x &&& x == 0#32):=by
  rw[<- zhx hg hk23 he];unfold yzw;by_cases h0:e=0#32
  .rw [if_pos h0];unfold zgx;rw[if_neg k1,if_neg k4,h0,show zga 0#32=[] by unfold zga;rw[show -(0#32) &&& 0#32=0#32 by decide,yzj]];rfl
  rw[if_neg h0,if_neg (fun h=>q5 h.2.2)]
 rw[hcv];obtain⟨l,hl'⟩:∃ l,zga e=l:=⟨_,rfl⟩;rw[hl']at hsb ⊢;have hll:l.length<=4294967296:=by rw[<- hl'];exact qbp (yrj e _ _) om
 obtain⟨F,hF⟩:∃ F:BitVec 32->Bool,(fun x=>decide (kind=3) || ylm g x &&& x == 0#32)=F:=⟨_,rfl⟩;have hFx:∀ x,F x=(decide (kind=3) || ylm g x &&& x == 0#32):=fun x=>by rw[<- hF]
 rw[hF];refine zZ ?_;refine ybw (α:=Nat) (fun i=>[(11,i64 i),(10,ydh l),(8,.ls 60 1 ((l.take i).filter F).length),(3,.lp 3 0),(1,i64 kind)]) (fun i=>[(60,some (.vec (((l.take i).filter F).map yav))),(3,some (.cells [yai g.ids,yaq g.ports]))]) (fun i=>l.length - i) (fun i=>i<=l.length) 0 om zs (yah zh) ?_;intro i hi;refine zY ?_;refine zj ?_ ?_ <;> intro q6
 .simp at q6;obtain⟨x,hx⟩:=ybk q6;have hne:=zan g hg hl x;have hfl:((l.take i).filter F).length<=i:=qbp (qcu _ _) so;have hF2:=hFx x;have fin:∀ b:Bool,F x=b->((l.take (i+1)).filter F)=(l.take i).filter F++if b=true then [x]else []:=fun b hb=>by
   rw[yao hx,qcn];cases b <;> simp[hb]
  refine zY ?_;refine yaj 70 rfl (fun q7=>?_) (fun q7=>?_)
  .have q7:kind=3:=by simpa using q7
   have hb:F x=true:=by rw[hF2];simp[q7]
   have hn:=fin true hb;rw[if_pos rfl]at hn
   (repeat (first|refine zy ?_|refine ydy tok rfl rfl rfl sm rfl (by simp[yas]) so rfl rfl rfl rfl rfl ?_))
   refine yhi (i+1) om om (by rw[hn,qan];exact zs) (yah (yab ?_ (yab rfl yag)));show some _=some _;rw[hn];simp;rfl
  have q7:kind≠3:=by simpa using q7
  rw[decide_eq_false q7,qep]at hF2
  (try refine zbz ?_)
  refine zj ?_ ?_ <;> intro q8
  .rw [yct]at q8;have hn:=fin true (by rw[hF2];exact q8);rw[if_pos rfl]at hn
   (repeat (first|refine zy ?_|refine ydy tok rfl rfl rfl sm rfl (by simp[yas]) so rfl rfl rfl rfl rfl ?_))
   refine yhi (i+1) om om (by rw[hn,qan];exact zs) (yah (yab ?_ (yab rfl yag)));show some _=some _;rw[hn];simp;rfl
  rw[yct]at q8;have hn:=fin false (by rw[hF2];exact q8);rw[if_neg sm,qba]at hn;refine zY ?_;exact yhi (i+1) om om (by rw[hn];exact zs) (hsE (by rw[hn]))
 simp at q6;obtain rfl:i=l.length:=by omega
 rw[qaw];refine zk ?_;exact Frz.tup2 (yqo rfl rfl) Frz.pure
end
section
open Go.RowKit
def xft:List (Int × Int)->List Int->List Int->Int
 | b::l,q::qs,z::zs=>(z - b.1) * q+xft l qs zs
 | _,_,_=>0
theorem zyg:∀ {l:List (Int × Int)} {ds:List Int} (s P:Int),ds.length=l.length->ycc s l ds * P=s * (zbc l P).2+xft l (zbc l P).1 ds
 | [],[],s,P,_=>by simp[ycc,zbc,xft]
 | [],_::_,s,P,h=>by simp at h
 | _::_,[],s,P,h=>by simp at h
 | b::l,z::ds,s,P,h=>by
  have ih:=zyg (l:=l) (ds:=ds) (s * rgW b+z - b.1) P (by simpa using h);rw[yem,ih];simp only[zbc,xft];rw[show s * rgW b+z - b.1=s * rgW b+(z - b.1) by omega,qev,qff,Int.mul_comm (rgW b),Int.add_assoc];rfl
def xce:List (List (Int × Int))->List (List Int)->List (List Int)->Int
 | r::t,q::qs,c::cs=>xft r q c+xce t qs cs
 | _,_,_=>0
theorem xfb:∀ {t:List (List (Int × Int))} {c:List (List Int)} (s P:Int),ybx t c=true->(t.zip c).foldl (fun k q=>ycc k q.1 q.2) s * P=s * (zar t P).2+xce t (zar t P).1 c
 | [],c,s,P,h=>by simp[zar,xce]
 | _::_,[],s,P,h=>by simp[ybx]at h
 | r::t,x::c,s,P,h=>by
  obtain⟨h1,h2⟩:=yhy.1 h;have ih:=xfb (t:=t) (c:=c) (ycc s r x) P h2;have hr:=zyg s (zar t P).2 (yci h1).1;simp only[qdz,qcr];rw[ih,hr];simp only[zar,xce];omega
theorem zfk(h:ybx t c=true):yda t c=xce t (zar t 1).1 c:=by
 have:=xfb 0 1 h;rw[Int.mul_one,Int.zero_mul,Int.zero_add]at this;exact this
theorem zis{a m q:Int}{st mv pl:List Int}:∀ n,yjy (a::st) (m::mv) (q::pl) (n+1)=(m - a) * q+yjy st mv pl n
 | 0=>by simp[yjy]
 | n+1=>by
  rw[yjy,zis n,yjy];simp only[List.getD_cons_succ];omega
theorem zwf:∀ {l:List (Int × Int)} {pl st mv:List Int},pl.length=l.length->st.length=l.length->mv.length=l.length->xft l pl mv=xft l pl st+yjy st mv pl l.length
 | [],[],[],[],_,_,_=>by simp[xft,yjy]
 | b::l,q::pl,a::st,m::mv,h1,h2,h3=>by
  have ih:=zwf (l:=l) (pl:=pl) (st:=st) (mv:=mv) (by simpa using h1) (by simpa using h2) (by simpa using h3);rw[qaj,zis];simp only[xft];rw[ih];have:(m - b.1) * q=(a - b.1) * q+(m - a) * q:=by rw[<- qev];congr 1;omega
  omega
def xfl(F:Nat->Int):Nat->Nat->Int
 | _,0=>0
 | k,n+1=>F k+xfl F (k+1) n
theorem zsf(F:Nat->Int):∀ (n k:Nat),xfl F k (n+1)=xfl F k n+F (k+n)
 | 0,k=>by simp[xfl]
 | n+1,k=>by
  rw[xfl,zsf F n (k+1),xfl,show k+1+n=k+(n+1) by omega];omega
theorem zwg{B:BitVec 32}{row:Nat->List Int}{F:Nat->Int}:∀ {t:List (List (Int × Int))} {pl c:List (List Int)} (k:Nat),pl.length=t.length->c.length=t.length->(∀ (i:Nat) r q st,t[i]?=some r->pl[i]?=some q->c[i]?=some st->q.length=r.length/\st.length=r.length/\(row (k+i)).length=r.length/\F (k+i)=if B.getLsbD (k+i)=true then yjy st (row (k+i)) q r.length else 0) ->
  xce t pl (c.mapIdx fun i st=>if B.getLsbD (k+i)=true then row (k+i)else st)=xce t pl c+xfl F k t.length
 | [],[],[],k,_,_,_=>by simp[xce,xfl]
 | r::t,q::pl,st::c,k,h1,h2,h=>by
  obtain⟨g1,g2,g3,g4⟩:=h 0 r q st rfl rfl rfl;have ih:=zwg (B:=B) (row:=row) (F:=F) (t:=t) (pl:=pl) (c:=c) (k+1) (by simpa using h1) (by simpa using h2) fun i r' q' st' e1 e2 e3=>by
   have:=h (i+1) r' q' st' e1 e2 e3
   rwa [show k+(i+1)=k+1+i by omega]at this
  rw[List.mapIdx_cons,qaj,xfl];simp only[xce,qdv]at g3 g4 ⊢;have e:(fun(i:Nat) (st:List Int)=>if B.getLsbD (k+(i+1))=true then row (k+(i+1))else st)=fun i st=>if B.getLsbD (k+1+i)=true then row (k+1+i)else st:=by
   funext i st;rw[show k+(i+1)=k+1+i by omega]
  rw[e,ih,g4];split
  .rw [zwf g1 g2 g3];omega
  omega
theorem zsg{F f:Nat->Int}{p:Nat->Bool}(h:∀ v,F v=if p v=true then f v else 0):∀ n,znf f ((List.range n).filter p)=xfl F 0 n
 | 0=>rfl
 | n+1=>by
  rw[zsf,qdd,qcn,qay,h n,<- zsg h n];cases hp:p n
  .simp [hp]
  rw[qct hp,qhl,zgc];simp
theorem zri(h:CfgOk p g c){B:BitVec 32}(hB:yzq B (ydc p g c)){n:Int}(hn:yce (yaf p g)=(n,0)):yda (yaf p g) (yut p g c B)=yda (yaf p g) c+znf (yhs p g c) (ycb B):=by
 have h24:=h.n24;have hl:=h.len;have ht:=ydj h.fair h.fit;have hst:=h.step B;have hin:InN g.ports.length B:=fun u hu=>by
  cases hb:B.getLsbD u with
  | false=>rfl
  | true=>
   have:=hB.bit hb;have h32:u < 32:=by
    rcases qbh u 32 with h9|h9
    .exact h9
    rw[qcg _ _ h9]at hb;cases hb
   have this:(ymc (yry p g c) c.length).getLsbD u=true:=this;rw[yhm _ _ _ h32,decide_eq_false om]at this;cases this
 rw[zfk hst.table,zfk h.table];have htl:(yaf p g).length=g.ports.length:=by simp[yaf]
 have hd:=zwg (B:=B) (row:=znq p g c) (F:=fun v=>if B.getLsbD v=true then yhs p g c v else 0) (t:=yaf p g) (pl:=yhv p g) (c:=c) 0 (by simp[yhv,yxd]) om fun i r q st e1 e2 e3=>by
  have hi:=(qaa.1 e3).1;obtain⟨m1,m2⟩:=zty h hi;obtain⟨pl,p1,p2,_⟩:=yyz ht hn e1;rw[e2]at p1;cases p1;have hrl:=ykf e1;refine⟨p2,by rw[h.rowlen st (qab e3),hrl],by rw[qay,m1,hrl],?_⟩;rw[qay];by_cases hb:B.getLsbD i=true
  .have he:yry p g c i=true:=by
    have this:(ymc (yry p g c) c.length).getLsbD i=true:=hB.bit hb;rw[yhm _ _ _ om,qad]at this;exact this.2
   rw[if_pos hb,if_pos hb,yhs,if_pos he,qac,e3,qac,e2,hrl];rfl
  rw[if_neg hb,if_neg hb]
 simp only[qay]at hd;have hstp:(c.mapIdx fun i st=>if B.getLsbD i=true then znq p g c i else st)=yut p g c B:=rfl;rw[hstp]at hd;show xce (yaf p g) (yhv p g) _=xce (yaf p g) (yhv p g) _+_;rw[hd,htl,<- zxx om hin,zsg (F:=fun v=>if B.getLsbD v=true then yhs p g c v else 0) (p:=B.getLsbD) (fun v=>rfl)]
theorem xei:∀ {l:List (Int × Int)} {ds es:List Int},(∀ b∈l,wOk b)->ych l ds=true->ych l es=true->ycc 0 l ds=ycc 0 l es->ds=es
 | [],ds,es,_,h1,h2,_=>by
  have a:=(yci h1).1;have b:=(yci h2).1;rw[qax a,qax b]
 | b::l,[],_,_,h1,_,_=>by have:=(yci h1).1;simp at this
 | b::l,_::_,[],_,_,h2,_=>by have:=(yci h2).1;simp at this
 | b::l,z::ds,y::es,hw,h1,h2,he=>by
  obtain⟨a1,a2⟩:=ygn.1 h1;obtain⟨b1,b2⟩:=ygn.1 h2;have hwl:∀ x∈l,wOk x:=fun x hx=>hw x (qap _ hx);obtain⟨i1,i2,i3⟩:=yna (l:=l) (ds:=ds) (0 * rgW b+z - b.1) hwl a2;obtain⟨j1,j2,j3⟩:=yna (l:=l) (ds:=es) (0 * rgW b+y - b.1) hwl b2;rw[yem,yem,i1,j1]at he;have hp:=yoi hwl;have hzy:z=y:=by
   rcases Int.lt_trichotomy z y with h|h|h
   .have:((0 * rgW b+z - b.1)+1) * yhl l<=(0 * rgW b+y - b.1) * yhl l:=qco om om;rw[qev,qeo]at this;omega
   .exact h
   have:((0 * rgW b+y - b.1)+1) * yhl l<=(0 * rgW b+z - b.1) * yhl l:=qco om om;rw[qev,qeo]at this;omega
  subst hzy;rw[xei hwl a2 b2 om]
theorem xfc{d:List (List Int)}(hw:∀ b∈t.flatten,wOk b)(hc:ybx t c=true)(hd:ybx t d=true)(h:yda t c=yda t d):c=d:=by
 obtain⟨c1,c2⟩:=yff 0 hc;obtain⟨d1,d2⟩:=yff 0 hd;have hf:c.flatten=d.flatten:=xei hw c2 d2 (by rw[<- c1,<- d1];exact h);have:∀ {t:List (List (Int × Int))} {c d:List (List Int)},ybx t c=true->ybx t d=true->c.flatten=d.flatten->c=d:=by
  intro t;induction t with
  | nil=>
   intro c d hc hd _;have a:c=[]:=by cases c with|nil=>rfl|cons x c=>simp[ybx]at hc
   have b:d=[]:=by cases d with|nil=>rfl|cons x d=>simp[ybx]at hd
   rw[a,b]
  | cons r t ih=>
   intro c d hc hd hf;cases c with
   | nil=>simp[ybx]at hc
   | cons x c=>
    cases d with
    | nil=>simp[ybx]at hd
    | cons y d=>
     obtain⟨a1,a2⟩:=yhy.1 hc;obtain⟨b1,b2⟩:=yhy.1 hd;rw[qcc,qcc]at hf;obtain⟨e1,e2⟩:=List.append_inj hf (by rw[(yci a1).1,(yci b1).1]);rw[e1,ih a2 b2 e2]
 exact this hc hd hf
end
section
open Go.RowKit
theorem yra{l:List (Int × Int)}{z:Int}{ds:List Int}(hw:∀ x∈l,wOk x)(h:ych l ds=true):ycc 0 (b::l) (z::ds)=(z - b.1) * yhl l+ycc 0 l ds:=by
 rw[yem,(yna _ hw h).1,Int.zero_mul,Int.zero_add]
theorem zuk{l:List (Int × Int)}(h:∀ b∈l,ytx b):∀ b∈l,wOk b:=fun b hb=>by
 have:=h b hb;unfold ytx at this;unfold wOk rgW;omega
theorem zvj:∀ {l:List (Int × Int)} {ds:List Int},(∀ b∈l,ytx b)->ych l ds=true->((yiu l ds).1=true->ycc 0 l (yiu l ds).2=ycc 0 l ds+1)/\((yiu l ds).1=false->ycc 0 l ds+1=yhl l/\ycc 0 l (yiu l ds).2=0)
 | [],ds,_,h=>by
  rw[qax (yci h).1];simp[yiu,ycc,yhl]
 | b::l,[],_,h=>by have:=(yci h).1;simp at this
 | b::l,z::ds,hr,h=>by
  obtain⟨h1,h2⟩:=ygn.1 h;have hrl:∀ x∈l,ytx x:=fun x hx=>hr x (qap _ hx);have hwl:=zuk hrl;obtain⟨i1,i2⟩:=zvj hrl h2;have hs:=zda hrl h2;have hz:=ysb.1 h1;have hrc:=yra (b:=b) (z:=z) hwl h2;unfold yiu;cases ha:(yiu l ds).1 with
  | true=>
   have i1:=i1 ha;simp only[if_true];refine⟨fun _=>?_,fun h=>by cases h⟩;rw[yra hwl hs,hrc,i1];omega
  | false=>
   obtain⟨i2,i3⟩:=i2 ha;simp only[qbj,if_false];by_cases hlt:z < b.2
   .rw [if_pos hlt];refine⟨fun _=>?_,fun h=>by cases h⟩;rw[yra hwl hs,hrc,i3,show z+1 - b.1=(z - b.1)+1 by omega,qev,qeo];omega
   rw[if_neg hlt];refine⟨fun h=>(by cases h),fun _=>⟨?_,?_⟩⟩
   .rw [hrc,yhl,show rgW b=(z - b.1)+1 by unfold rgW;omega,qev,qeo];omega
   rw[yra hwl hs,i3];simp
theorem zvg:∀ {a b:List (Int × Int)} {p q:List Int},p.length=a.length->yiu (a++b) (p++q)=if (yiu b q).1=true then(true,p++(yiu b q).2)else((yiu a p).1,(yiu a p).2++(yiu b q).2)
 | [],b,[],q,_=>by
  simp only[qcw,yiu];split
  .rename_i h;rw[<- h]
  rename_i h;rw[show (false:Bool)=(yiu b q).1 by simpa using h]
 | [],b,_::_,q,h=>by simp at h
 | _::_,b,[],q,h=>by simp at h
 | x::a,b,y::p,q,h=>by
  have ih:=zvg (a:=a) (b:=b) (p:=p) (q:=q) (by simpa using h);rw[qbb,qbb,yiu,ih];cases hb:(yiu b q).1 with
  | true=>simp
  | false=>
   simp only[qbj,if_false,yiu];cases ha:(yiu a p).1 with
   | true=>simp
   | false=>
    simp only[qbj,if_false];split <;> simp
theorem zoj:∀ {t:List (List (Int × Int))} {c:List (List Int)},ybx t c=true->(yoo t c).1=(yiu t.flatten c.flatten).1/\(yoo t c).2.flatten=(yiu t.flatten c.flatten).2
 | [],c,h=>by
  have:c=[]:=by cases c with|nil=>rfl|cons x c=>simp[ybx]at h
  rw[this];simp[yoo,yiu]
 | r::t,[],h=>by simp[ybx]at h
 | r::t,x::c,h=>by
  obtain⟨h1,h2⟩:=yhy.1 h;obtain⟨i1,i2⟩:=zoj h2;rw[qcc,qcc,zvg (yci h1).1,yoo];cases ht:(yoo t c).1 with
  | true=>simp[<- i1,ht,i2]
  | false=>simp[<- i1,ht,i2]
theorem rank_adv{n:Int}(hr:∀ r∈t,∀ b∈r,ytx b)(hn:ygz 1 t.flatten=some n)(hc:ybx t c=true)(hk:yda t c+1 < n):yda t (yoo t c).2=yda t c+1:=by
 have hrf:∀ b∈t.flatten,ytx b:=fun b hb=>by
  obtain⟨r,h1,h2⟩:=qdk.1 hb;exact hr r h1 b h2
 obtain⟨c1,c2⟩:=yff 0 hc;obtain⟨d1,d2⟩:=yff 0 (zkr hr hc);obtain⟨f1,f2⟩:=zoj hc;obtain⟨a1,a2⟩:=zvj hrf c2;have e1:yda t c=ycc 0 t.flatten c.flatten:=c1;have e2:yda t (yoo t c).2=ycc 0 t.flatten (yoo t c).2.flatten:=d1;rw[e2,e1,f2];cases ha:(yiu t.flatten c.flatten).1 with
 | true=>exact a1 ha
 | false=>
  have:=(a2 ha).1;have hp:=ynt hn;omega
theorem rank_low(hr:∀ r∈t,∀ b∈r,ytx b):yda t (yxo t)=0:=by
 obtain⟨c1,c2⟩:=yff 0 (zlw hr);have e1:yda t (yxo t)=ycc 0 t.flatten (yxo t).flatten:=c1;have e2:(yxo t).flatten=t.flatten.map (·.1):=by
  unfold yxo;rw[List.map_flatten]
 rw[e1,e2];have hrf:∀ b∈t.flatten,ytx b:=fun b hb=>by
  obtain⟨r,h1,h2⟩:=qdk.1 hb;exact hr r h1 b h2
 generalize t.flatten=l at hrf;clear c1 c2 e1 e2 hr;induction l with
 | nil=>rfl
 | cons b l ih=>
  have hrl:∀ x∈l,ytx x:=fun x hx=>hrf x (qap _ hx);rw[qce,yra (zuk hrl) (zen hrl),ih hrl];simp
theorem yrw(hr:∀ r∈t,∀ b∈r,ytx b):∀ k,ybx t (ydi t k)=true
 | 0=>zlw hr
 | k+1=>zkr hr (yrw hr k)
theorem yqz{n:Int}(hr:∀ r∈t,∀ b∈r,ytx b)(hn:ygz 1 t.flatten=some n):∀ k:Nat,(k:Int) < n->yda t (ydi t k)=k
 | 0,_=>rank_low hr
 | k+1,h=>by
  have ih:=yqz hr hn k om;rw[ydi,rank_adv hr hn (yrw hr k) om,ih];omega
theorem xcc{n:Int}(hr:∀ r∈t,∀ b∈r,ytx b)(hn:ygz 1 t.flatten=some n)(hk:(k:Int) < n):(yir k t).1=ydi t k:=by
 have hw:∀ b∈t.flatten,wOk b:=zuk fun b hb=>by
  obtain⟨r,h1,h2⟩:=qdk.1 hb;exact hr r h1 b h2
 exact xfc hw (zzp k om hr) (yrw hr k) (by rw[rank_un om hr hn hk,yqz hr hn k hk])
theorem conf_rank{n:Int}(hr:∀ r∈t,∀ b∈r,ytx b)(hn:ygz 1 t.flatten=some n)(hc:ybx t c=true)(hk:(k:Int) < n)(h:yda t c=k):c=ydi t k:=by
 have hw:∀ b∈t.flatten,wOk b:=zuk fun b hb=>by
  obtain⟨r,h1,h2⟩:=qdk.1 hb;exact hr r h1 b h2
 exact xfc hw hc (yrw hr k) (by rw[h,yqz hr hn k hk])
end
section
open Go.RowKit
structure ArcsOk (e:BitVec 32) (n:Nat) (l:List ArcD):Prop where
 inM:e >>> 24=0#32
 ne:e=0#32<->l=[]
 grow:∀ (i:Nat) (a:ArcD),l[i]?=some a->(∀ b,l[i - 1]?=some b->i≠0->b.1.toNat < a.1.toNat)/\0 < a.1.toNat/\yzq a.1 e/\0<=a.2/\a.2 < n
def xaf(l:List ArcD):Nat->BitVec 32
 | 0=>0#32
 | i+1=>((l[i]?).map (·.1)).getD 0#32
theorem arcs_con{l:List ArcD}(h:ArcsOk e n l)(hl:l.length<=262144):Con prog 237 [yav e,ybd l,i64 n] (yau true):=by
 refine ze Tryz.func237 ntmps237 Tryz.results237 ?_
 (try refine zb ?_)
 refine yaj 13 rfl (fun q1=>?_) (fun q1=>?_)
 .rw [show Int.toNat 24=24 from rfl,h.inM]at q1;simp at q1
 have q2:((e.toNat:Int) != 0)=decide ((l.length:Int) > 0):=by
  rw[ydd];by_cases h0:e=0#32
  .rw [h.ne.1 h0,h0];rfl
  have:l≠[]:=fun hl=>h0 (h.ne.2 hl);have hp:0 < l.length:=List.length_pos_iff.2 this;rw[decide_eq_true om];simpa[bne]using h0
 (repeat (first|refine zb ?_|refine zvc tok rfl rfl rfl rfl rfl ?_))
 refine zj ?_ ?_ <;> intro q3
 .rw [q2]at q3;simp at q3
 refine zY ?_;refine ybj (α:=Nat) (fun i=>[(23,i64 i),(22,i64 l.length),(21,ybd l),(7,yav (xaf l i)),(0,yav e),(2,i64 n)]) (fun i=>[]) (fun i=>l.length - i) (fun i=>i<=l.length) 0 om zs yag ?_;intro i hi;refine zY ?_;refine zj ?_ ?_ <;> intro q4
 .simp at q4;obtain⟨a,ha⟩:=ybk q4;obtain⟨g1,g2,g3,g4,g5⟩:=h.grow i a ha;have hlast:(xaf l i).toNat < a.1.toNat:=by
   cases i with
   | zero=>simpa[xaf]using g2
   | succ i=>
    obtain⟨b,hb⟩:=ybk (show i < l.length by omega);have:=g1 b (by simpa using hb) om;simpa[xaf,hb]using this
  (try refine zb ?_)
  have hsub:a.1 &&& ~~~e=0#32:=g3;refine yaj 31 rfl (fun q5=>?_) (fun q5=>?_)
  .simp at q5;omega
  (try refine zb ?_)
  refine yaj 38 rfl (fun q6=>?_) (fun q6=>?_)
  .rw [ydd,hsub]at q6;simp at q6
  (try refine zb ?_)
  refine yaj 43 rfl (fun q7=>?_) (fun q7=>?_)
  .simp at q7;omega
  (try refine zb ?_)
  refine zj ?_ ?_ <;> intro q8
  .simp at q8;omega
  refine zY ?_;refine rnd (i+1) om om ?_ yag;rw[show xaf l (i+1)=a.1 by simp[xaf,ha]];exact zs
 simp at q4;obtain rfl:i=l.length:=by omega
 exact zkp
def yjw(s:SpcD):AV:=.agg [ydh (s.map (·.1)),.sl 1 (s.map fun x=>[ybd x.2])]
structure SpcOk (s:SpcD):Prop where
 pos:1<=s.length
 len:s.length<=32768
 tot:yiw s<=262144
 arcs:∀ x∈s,ArcsOk x.1 s.length x.2
theorem ykg{x:BitVec 32 × List ArcD}(h:s[k]?=some x):yiw (s.take (k+1))=yiw (s.take k)+x.2.length:=by
 rw[yao h];simp[yiw]
theorem totS_app(a b:SpcD):yiw (a++b)=yiw a+yiw b:=by simp[yiw]
theorem yrl(s:SpcD)(k:Nat):yiw (s.take k)<=yiw s:=by
 have:=congrArg yiw (qcd k s);rw[totS_app]at this;omega
theorem spvalid_con(h:SpcOk s):Con prog 201 [yjw s] (yau true):=by
 obtain⟨h1,h2,h3,h4⟩:=h;refine ze Tryz.func201 ntmps201 Tryz.results201 ?_;refine zY ?_;have e1:(s.map (·.1)).length=s.length:=qai ..;have e2:(s.map fun x=>[ybd x.2]).length=s.length:=qai ..;refine yaj 11 rfl (fun q1=>?_) (fun q1=>?_)
 .simp at q1;omega
 refine zY ?_;refine yaj 15 rfl (fun q2=>?_) (fun q2=>?_)
 .simp at q2;omega
 refine zY ?_;refine zj ?_ ?_ <;> intro q3
 .simp at q3
 refine zY ?_;refine ybj (α:=Nat) (fun k=>[(23,i64 k),(22,i64 s.length),(3,i64 s.length),(4,i64 (yiw (s.take k))),(1,.lp 1 0)]) (fun k=>[(1,some (.cells [ydh (s.map (·.1)),.sl 1 (s.map fun x=>[ybd x.2])]))]) (fun k=>s.length - k) (fun k=>k<=s.length) 0 om (by rw[<- e1];exact zs) zh ?_;intro k hk;refine zY ?_;refine zj ?_ ?_ <;> intro q4
 .simp at q4;obtain⟨x,hx⟩:=ybk q4;have hxm:=qab hx;have ht:=ykg hx;have htl:=yrl s (k+1);have hx1:(s.map (·.1))[k]?=some x.1:=by rw[qak,hx];rfl
  refine zY ?_;refine yaj 36 rfl (fun q5=>?_) (fun q5=>?_)
  .simp at q5;omega
  have hcall:=arcs_con (h4 x hxm) (by omega:x.2.length<=262144);refine zZ ?_;refine rnd (k+1) om om ?_ zh;rw[ht,show ((yiw (s.take k)+x.2.length:Nat):Int)=(yiw (s.take k):Int)+(x.2.length:Int) by omega];exact zs
 simp at q4;obtain rfl:k=s.length:=by omega
 exact zkp
def yfv(l:List Bool):AV:=.sl 1 (l.map fun b=>[yau b])
theorem ccheck_con(h:SpcOk s)(l:List Bool)(hl:l.length=s.length):Con prog 146 [yjw s,yfv l] (i64 0):=by
 have hv:=spvalid_con h;have e1:(s.map (·.1)).length=s.length:=qai ..;refine ze Tryz.func146 ntmps146 Tryz.results146 ?_;refine zZ ?_;refine zj ?_ ?_ <;> intro q
 .simp at q;omega
 exact zkp
theorem rarcs_con{l:List ArcD}(h:ArcsOk e n l)(hl:l.length<=262144)(hn:n<=32768):Con prog 145 [ybd l,yav e,i64 n] (yau true):=by
 refine ze Tryz.func145 ntmps145 Tryz.results145 ?_;have q2:((e.toNat:Int) != 0)=decide ((l.length:Int) > 0):=by
  rw[ydd];by_cases h0:e=0#32
  .rw [h.ne.1 h0,h0];rfl
  have:l≠[]:=fun hl=>h0 (h.ne.2 hl);have hp:0 < l.length:=List.length_pos_iff.2 this;rw[decide_eq_true om];simpa[bne]using h0
 (repeat (first|refine zb ?_|refine zvc tok rfl rfl rfl rfl rfl ?_))
 refine zj ?_ ?_ <;> intro q3
 .rw [q2]at q3;simp at q3
 refine zY ?_;refine ybj (α:=Nat) (fun i=>[(7,i64 i),(0,ybd l),(1,yav e),(2,i64 n)]) (fun i=>[]) (fun i=>l.length - i) (fun i=>i<=l.length) 0 om zs yag ?_;intro i hi;refine zY ?_;refine zj ?_ ?_ <;> intro q4
 .simp at q4;obtain⟨a,ha⟩:=ybk q4;obtain⟨g1,g2,g3,g4,g5⟩:=h.grow i a ha;have hsub:a.1 &&& ~~~e=0#32:=g3;have hin:Con prog 36 [i64 a.2,i64 0,i64 ((n:Int) - 1)] (yau true):=by
   have:=ypm a.2 0 ((n:Int) - 1)
   rwa [show inB a.2 0 ((n:Int) - 1)=true by simp[inB];omega]at this
  (try refine zb ?_)
  refine yaj 26 rfl (fun q5=>?_) (fun q5=>?_)
  .simp at q5;omega
  (try refine zb ?_)
  refine yaj 36 rfl (fun q6=>?_) (fun q6=>?_)
  .rw [ydd,hsub]at q6;simp at q6
  (try refine zb ?_)
  refine yaj 39 rfl (fun q7=>?_) (fun q7=>?_)
  .simp at q7;obtain⟨b,hb⟩:=ybk (show i - 1 < l.length by omega);have hb':l[((i:Int) - 1).toNat]?=some b:=by rw[show ((i:Int) - 1).toNat=i - 1 by omega];exact hb
   have hab:=g1 b hb om
   (try refine zb ?_)
   refine yaj 54 rfl (fun q8=>?_) (fun q8=>?_)
   .simp at q8;omega
   refine zZ ?_;refine rnd (i+1) om om zs yag
  refine zZ ?_;refine rnd (i+1) om om zs yag
 simp at q4;obtain rfl:i=l.length:=by omega
 exact zkp
end
end Go.Proofs.YtgpodcjhgdionaaGreatDoor
