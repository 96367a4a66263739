/- Part 10 of the texts under TopWorstIsPlayed. -/
import Derived.Test.YtgpodcjhgdionaaGreatDoorCW4
import Derived.Test.YtgpodcjhgdionaaGreatDoorCW6
import Derived.Test.YtgpodcjhgdionaaGreatDoorCW7
import Derived.Test.YtgpodcjhgdionaaGreatDoorCW8
import Derived.Test.YtgpodcjhgdionaaGreatDoorCW9
set_option linter.unusedVariables false
set_option maxRecDepth 100000
set_option maxHeartbeats 8000000
namespace Go.Proofs.YtgpodcjhgdionaaGreatDoor
open Go.Proofs.Tryz
variable{r:List (Int × Int)}{B C:BitVec 32}{x y:Operand}{t:List (List (Int × Int))}{c:List (List Int)}{l:List Int}{g:GraphD}{k v:Nat}{a op n w i:Int}{b:Int × Int}{p:ProgD}{ls:List Lk}{k':IntKind}{α:Type}
section
open Go.RowKit
def rgW(b:Int × Int):Int:=b.2 - b.1+1
def yds(k:Int):List (Int × Int)->List Int × Int
 | []=>([],k)
 | b::r=>((b.1+(yds k r).2.tmod (rgW b))::(yds k r).1,(yds k r).2.tdiv (rgW b))
def yir(k:Int):List (List (Int × Int))->List (List Int) × Int
 | []=>([],k)
 | r::t=>((yds (yir k t).2 r).1::(yir k t).1,(yds (yir k t).2 r).2)
theorem zsk(k:Int):∀ r,(yds k r).1.length=r.length
 | []=>rfl
 | b::r=>by simp[yds,zsk k r]
theorem yxj(k:Int):∀ t,(yir k t).1.length=t.length
 | []=>rfl
 | r::t=>by simp[yir,yxj k t]
theorem xfe{k:Int}(h0:0<=k)(hw:1<=w):0<=k.tdiv w/\k.tdiv w<=k:=by
 rw[Int.tdiv_eq_ediv_of_nonneg h0];exact⟨Int.ediv_nonneg h0 om,Int.ediv_le_self w h0⟩
theorem xff{k:Int}(h0:0<=k)(hw:1<=w):0<=k.tmod w/\k.tmod w < w:=by
 rw[Int.tmod_eq_emod_of_nonneg h0];exact⟨Int.emod_nonneg k om,Int.emod_lt_of_pos k om⟩
theorem yxi{k:Int}(h0:0<=k):∀ r:List (Int × Int),(∀ b∈r,ytx b)->0<=(yds k r).2/\(yds k r).2<=k
 | [],_=>⟨h0,qgw _⟩
 | b::r,h=>by
  have ih:=yxi h0 r fun x hx=>h x (by simp[hx]);have hb:=h b sm;have:=xfe (w:=rgW b) ih.1 (by unfold rgW;have:=hb.2.1;omega);simp only[yds];omega
theorem znl{k:Int}(h0:0<=k):∀ t:List (List (Int × Int)),(∀ r∈t,∀ b∈r,ytx b)->0<=(yir k t).2/\(yir k t).2<=k
 | [],_=>⟨h0,qgw _⟩
 | r::t,h=>by
  have ih:=znl h0 t fun x hx=>h x (by simp[hx]);have:=yxi ih.1 r (h r sm);simp only[yir];omega
theorem yjv{l:List α}{x:Nat}{b:α}(h:l[x]?=some b):l.drop x=b::l.drop (x+1):=by
 rw[qbl (qaa.1 h).1,(qaa.1 h).2]
def zhj(k:Int)(r:List (Int × Int))(x:Nat):List Int:=(r.take x).map (·.1)++(yds k (r.drop x)).1
def xaw(k:Int)(t:List (List (Int × Int)))(v:Nat):List (List Int):=yxo (t.take v)++(yir k (t.drop v)).1
theorem zzs(k:Int)(r:List (Int × Int)){x:Nat}:(zhj k r x).length=r.length:=by
 simp[zhj,zsk];omega
theorem wayR_set{k:Int}{x:Nat}(h:r[x]?=some b):(zhj k r (x+1)).set x (b.1+(yds k (r.drop (x+1))).2.tmod (rgW b))=zhj k r x:=by
 have hx:=(qaa.1 h).1;unfold zhj;rw[yjv h,yao h,qbz,qbd,qbo _ _ so];simp only[qai,qcj,qfw (Nat.le_of_lt hx),qbm,qce,qex,qbb,qcw,qer,yds]
theorem way_rest{k:Int}{x:Nat}(h:r[x]?=some b):(yds k (r.drop x)).2=(yds k (r.drop (x+1))).2.tdiv (rgW b):=by rw[yjv h];rfl
theorem wayR_all(k:Int)(r:List (Int × Int)):zhj k r r.length=r.map (·.1):=by simp[zhj,yds]
theorem wayR_zero(k:Int)(r:List (Int × Int)):zhj k r 0=(yds k r).1:=by simp[zhj]
theorem wayT_at{k:Int}(h:t[v]?=some r):(xaw k t (v+1))[v]?=some (r.map (·.1)):=by
 have hx:=(qaa.1 h).1;unfold xaw yxo;rw[qam so,qak,qbc,if_pos om,h];rfl
theorem wayT_set{k:Int}(h:t[v]?=some r):(xaw k t (v+1)).set v (yds (yir k (t.drop (v+1))).2 r).1=xaw k t v:=by
 have hx:=(qaa.1 h).1;unfold xaw yxo;rw[yjv h,yao h,qbz,qbd,qbo _ _ so];simp only[qai,qcj,qfw (Nat.le_of_lt hx),qbm,qce,qex,qbb,qcw,qer,yir]
theorem wayT_all(k:Int)(t:List (List (Int × Int))):xaw k t t.length=yxo t:=by simp[xaw,yir]
theorem wayT_zero(k:Int)(t:List (List (Int × Int))):xaw k t 0=(yir k t).1:=by simp[xaw,yxo]
theorem wayT_len(k:Int)(t:List (List (Int × Int))):(xaw k t v).length=t.length:=by
 simp[xaw,yxo,yxj];omega
theorem zca(c:List (List Int))(v:Nat)(row:List Int):yek (c.set v row)=(yek c).set v (row.map i64):=by simp[yek]
theorem zma(c:List (List Int))(v:Nat):(yek c)[v]?=(c[v]?).map fun r=>r.map i64:=by simp[yek]
theorem zyw{l:List α}{x:α}(h:l[k]?=some x):l.set k x=l:=by
 apply qdt;intro i;rw[qdb];split
 .rename_i e;subst e;split
  .exact h.symm
  rename_i hlt;rw[qch om]
 rfl
theorem zho{val:List AV->AV}{rows:List (List AV)}(hp:∀ row∈rows,yas (val row)=true):∀ el∈yhp val rows,el.length=2/\yas.pureL el=true:=by
 intro el hel;obtain⟨k,hk⟩:=qao hel;obtain⟨_,row,hrow,rfl⟩:=yln hk;exact⟨rfl,by simp[yas.pureL,yas,i64,hp row (qab hrow)]⟩
def unrankM(p:ProgD)(g:GraphD)(k:Int):List (List Int) × Int:=
 if ycv p g=0 then if (yce (yaf p g)).2=0 then if 0<=k/\k < (yce (yaf p g)).1 then((yir k (yaf p g)).1,0)else([],2)else([],(yce (yaf p g)).2)else([],ycv p g)
theorem yvi(tbl:List (List (Int × Int))):(yce tbl).1<=32768:=by
 have:∀ (l:List (Int × Int)) (n m:Int),n<=32768->ygz n l=some m->m<=32768:=by
  intro l;induction l with
  | nil=>intro n m hn h;simp only[ygz,Option.some.injEq]at h;omega
  | cons b l ih=>
   intro n m hn h;simp only[ygz]at h;split at h
   .cases h
   exact ih _ m om h
 unfold yce;cases h:ygz 1 tbl.flatten with
 | none=>simp
 | some n=>exact this _ 1 n om h
end
section
open Go.RowKit
theorem yci{s:List Int}(h:ych r s=true):s.length=r.length/\∀ (x:Nat) (b:Int × Int),r[x]?=some b->∃ z,s[x]?=some z/\b.1<=z/\z<=b.2:=by
 simp only[ych,qad,beq_iff_eq]at h;refine⟨h.1,fun x b hb=>?_⟩;have hx:=(qaa.1 hb).1;obtain⟨z,hz⟩:=ybk (show x < s.length by omega);have:=List.all_eq_true.1 h.2 _ (qab (ynn hb hz));simp only[zss,qad,decide_eq_true_eq]at this;exact⟨z,hz,this⟩
theorem ynh{tbl:List (List (Int × Int))}(h:ybx tbl c=true):c.length=tbl.length/\∀ (v:Nat) (r:List (Int × Int)),tbl[v]?=some r->∃ s,c[v]?=some s/\ych r s=true:=by
 simp only[ybx,qad,beq_iff_eq]at h;refine⟨h.1,fun v r hr=>?_⟩;have hx:=(qaa.1 hr).1;obtain⟨s,hs⟩:=ybk (show v < c.length by omega);exact⟨s,hs,List.all_eq_true.1 h.2 _ (qab (ynn hr hs))⟩
theorem yfq:yhf p g c=0<->ycv p g=0/\ybx (yaf p g) c=true:=by
 unfold yhf;by_cases h:ycv p g=0
 .by_cases h2:ybx (yaf p g) c=true
  .simp [h,h2]
  simp[h,h2]
 simp[h]
def yjo(p:ProgD)(tbl:List (List (Int × Int)))(v x:Nat)(z:Int):Int:=yiy ((p.vars.getD x default).kind) ((tbl.getD v []).getD x (0,0)).1 ((tbl.getD v []).getD x (0,0)).2 z
theorem ykf(h:(yaf p g)[v]?=some r):r.length=p.vars.length:=by
 simp only[yaf,qak]at h;cases hg:g.ports[v]? with
 | none=>rw[hg]at h;cases h
 | some ls=>rw[hg]at h;cases h;simp
end
section
open Go.RowKit
def zmr(k:Int)(q:(Int × Int) × Int):Int:=k * rgW q.1+q.2 - q.1.1
def ycc(k:Int)(r:List (Int × Int))(s:List Int):Int:=(r.zip s).foldl zmr k
def yda(t:List (List (Int × Int)))(c:List (List Int)):Int:=(t.zip c).foldl (fun k q=>ycc k q.1 q.2) 0
theorem yla{q:Int}{a b:List (Int × Int)}(h:ygz n (a++b)=some q):∃ m,ygz n a=some m/\ygz m b=some q:=by
 rw[yih]at h;cases ha:ygz n a with
 | none=>rw[ha]at h;cases h
 | some m=>rw[ha]at h;exact⟨m,rfl,h⟩
theorem zwb{q:Int}(h:ygz n [b]=some q):q=n * rgW b/\q<=32768:=by
 simp only[ygz]at h;split at h
 .cases h
 simp only[Option.some.injEq]at h;unfold rgW;omega
theorem xeb{k m d:Int}(h0:0<=k)(h1:k < m)(hd0:0<=d)(hd:d < w)(hw:w<=1000002)(hm:m<=32768):0<=k * w/\k * w<=32768 * 1000002/\k * w+d < m * w:=by
 refine⟨qgr h0 om,qfz om hw om om,?_⟩;have h2:(k+1) * w<=m * w:=qco om om;rw[qev,qeo]at h2;omega
theorem yjc{tbl:List (List (Int × Int))}(h:(yce tbl).2=0):∃ q,ygz 1 tbl.flatten=some q/\yce tbl=(q,0):=by
 unfold yce at h ⊢;cases hc:ygz 1 tbl.flatten with
 | none=>rw[hc]at h;cases h
 | some q=>exact⟨q,rfl,rfl⟩
def rankM(p:ProgD)(g:GraphD)(c:List (List Int)):Int × Int:=
 if yhf p g c=0 then if (yce (yaf p g)).2=0 then(yda (yaf p g) c,0)else(0,(yce (yaf p g)).2)else(0,yhf p g c)
theorem mrank_con(p:ProgD)(g:GraphD)(c:List (List Int))(hf:Fair p g)(hc:znu c):Con prog 14 [ygg p,yev g,ycj c] (zue (rankM p g c)):=by
 have hcl:=hc.1;refine ze Tryz.func14 ntmps14 Tryz.results14 ?_
 (repeat (first|refine zy ?_|refine zc (zjd p g c hf hc) ?_))
 refine zj ?_ ?_ <;> intro h
 .refine zk ?_;have:yhf p g c≠0:=by simpa using h
  rw[rankM,if_neg this];exact Frz.pure
 have h0:yhf p g c=0:=by simpa using h
 obtain⟨h1,hin⟩:=yfq.1 h0;have ht:=ydj hf h1
 (repeat (first|refine zy ?_|refine zc (yoh p g hf h1) ?_|refine zc (zpa (yaf p g) ht) ?_))
 refine zj ?_ ?_ <;> intro h2
 .refine zk ?_;have:(yce (yaf p g)).2≠0:=by simpa using h2
  rw[rankM,if_pos h0,if_neg this];exact Frz.pure
 have h2':(yce (yaf p g)).2=0:=by simpa using h2
 rw[rankM,if_pos h0,if_pos h2'];obtain⟨q,hq,_⟩:=yjc h2';generalize htb:yaf p g=tbl at ht hin hq;have htl:=ht.1;obtain⟨hlen,hcfg⟩:=ynh hin;refine zY ?_;refine ybj (α:=Nat × Int) (fun a=>[(37,i64 a.1),(36,i64 tbl.length),(35,yeh tbl),(2,ycj c),(12,i64 a.2)]) (fun _=>[]) (fun a=>tbl.length - a.1) (fun a=>a.1<=tbl.length/\a.2=((tbl.zip c).take a.1).foldl (fun k q=>ycc k q.1 q.2) 0/\0<=a.2/\∃ m,ygz 1 (tbl.take a.1).flatten=some m/\a.2 < m/\m<=32768) (0,0) ⟨sm,rfl,sm,1,rfl,sm,sm⟩ zs zh ?_;rintro⟨v,k⟩ ⟨hv,hk,hk0,m,hm,hkm,hm2⟩;simp only at hv hk hk0 hm hkm ⊢;refine zY ?_;refine zj ?_ ?_ <;> intro h3
 .simp at h3;obtain⟨r,hr⟩:=ybk (show v < tbl.length by omega);obtain⟨s,hs,hst⟩:=hcfg v r hr;obtain⟨hsl,hsg⟩:=yci hst;obtain⟨hrl,hrq⟩:=ht.2 r (qab hr);have hflat:ygz 1 ((tbl.take v).flatten++(r++(tbl.drop (v+1)).flatten))=some q:=by
   rw[<- hq,<- qbd];congr 1
   conv=>rhs;rw[<- qcd (v+1) tbl,yao hr]
   simp
  refine zY ?_;refine ybj (α:=Nat × Int) (fun a=>[(44,i64 a.1),(43,i64 r.length),(42,.sl 2 (r.map yiv)),(2,ycj c),(12,i64 a.2),(13,i64 v),(37,i64 v),(36,i64 tbl.length),(35,yeh tbl)]) (fun _=>[]) (fun a=>r.length - a.1) (fun a=>a.1<=r.length/\a.2=((r.zip s).take a.1).foldl zmr k/\0<=a.2/\∃ m',ygz m (r.take a.1)=some m'/\a.2 < m'/\m'<=32768) (0,k) ⟨sm,rfl,hk0,m,rfl,hkm,hm2⟩ zs zh ?_;rintro⟨x,n⟩ ⟨hx,hn,hn0,m',hm',hnm,hm2'⟩;simp only at hx hn hn0 hm' hnm ⊢;refine zY ?_;refine zj ?_ ?_ <;> intro h4
  .simp at h4;obtain⟨b,hb⟩:=ybk (show x < r.length by omega);obtain⟨z,hz,hz1,hz2⟩:=hsg x b hb;obtain⟨b1,b2,b3⟩:=hrq b (qab hb);have hbd:=xeb (k:=n) (m:=m') (w:=b.2 - b.1+1) (d:=z - b.1) hn0 hnm om om om hm2';obtain⟨m'',hm'',hm3⟩:∃ m'',ygz m (r.take (x+1))=some m''/\m''=m' * rgW b/\m''<=32768:=by
    have hsp:=yla hflat;obtain⟨ma,e1,e2⟩:=hsp;rw[hm]at e1;cases e1;rw[<- qcd (x+1) r,qbd]at e2;obtain⟨mb,e3,_⟩:=yla e2;refine⟨mb,e3,?_⟩;rw[yao hb]at e3;obtain⟨mc,e4,e5⟩:=yla e3;rw[hm']at e4;cases e4;exact zwb e5
   refine zY ?_;refine rnd (x+1,n * (b.2 - b.1+1)+z - b.1) ⟨by simp only;omega,?_,by simp only;omega,m'',hm'',?_,hm3.2⟩ (by simp only;omega) zs zh
   .simp only;rw[yao (ynn hb hz),qcx,<- hn];rfl
   simp only;rw[hm3.1];unfold rgW;omega
  simp at h4;obtain rfl:x=r.length:=by omega
  refine zY ?_;rw[qal so]at hn;rw[qaw]at hm';refine rnd (v+1,n) ⟨by simp only;omega,?_,hn0,m',?_,hnm,hm2'⟩ (by simp only;omega) zs zh
  .simp only;rw[yao (ynn hr hs),qcx,<- hk];exact hn
  simp only;rw[yao hr,qdq,yih,hm];simpa using hm'
 simp at h3;obtain rfl:v=tbl.length:=by omega
 refine zk ?_;rw[qal so]at hk;refine Frz.tup2 (yad ?_) Frz.pure;rw[hk];rfl
end
section
open Go.RowKit
theorem zge{x:Nat}(hr:(yaf p g)[v]?=some r)(hb:r[x]?=some b):∃ ls y,g.ports[v]?=some ls/\p.vars[x]?=some y/\b=yar y g ls.length:=by
 simp only[yaf,qak]at hr;cases hg:g.ports[v]? with
 | none=>rw[hg]at hr;cases hr
 | some ls=>
  rw[hg]at hr;cases hr;simp only[qak]at hb;cases hy:p.vars[x]? with
  | none=>rw[hy]at hb;cases hb
  | some y=>rw[hy]at hb;cases hb;exact⟨ls,y,rfl,rfl,rfl⟩
theorem yxf(p:ProgD)(g:GraphD)(hf:Fair p g)(h0:ycv p g=0)(v x:Nat)(r:List (Int × Int))(b:Int × Int)(hr:(yaf p g)[v]?=some r)(hb:r[x]?=some b):Con prog 84 [ygg p,yev g,i64 v,i64 x] (xiy b):=by
 obtain⟨ls,y,h1,h2,rfl⟩:=zge hr hb;obtain⟨hc0,hg,hfit⟩:=ydk.1 h0;have hll:=hf.glen.2.2 ls (qab h1);exact zbo p g v x ls y ((ycn hc0).2.2.2 y (qab h2)) hg om (by simpa using h1) om om (by simpa using h2)
theorem tbring_con(p:ProgD)(g:GraphD)(hf:Fair p g)(h0:ycv p g=0)(v x value:Int)(hv:0<=v)(hx:0<=x)(r:List (Int × Int))(b:Int × Int)(hr:(yaf p g)[v.toNat]?=some r)(hb:r[x.toNat]?=some b):Con prog 176 [ygg p,yev g,i64 v,i64 x,i64 value] (i64 (yjo p (yaf p g) v.toNat x.toNat value)):=by
 obtain⟨ls,y,h1,h2,rfl⟩:=zge hr hb;obtain⟨hc0,hg,hfit⟩:=ydk.1 h0;have hll:=hf.glen.2.2 ls (qab h1);have hm:=qab h2;have:=rbring_con p g v x value ls y ((ycn hc0).2.2.2 y hm) hg (hfit y hm) hv h1 hll hx h2;have e:yjo p (yaf p g) v.toNat x.toNat value=yiy y.kind (yar y g ls.length).1 (yar y g ls.length).2 value:=by
  simp only[yjo,qac,hr,h2,qbu,hb]
 rw[e];exact this
def pgF(p:ProgD)(g:GraphD)(i j:Nat):List (Nat × Option LObj):=[(i,some (.cells [ykp p.name,.sl 6 (p.vars.map ybl),.sl 3 (p.rules.map ybc)])),(j,some (.cells [yai g.ids,yaq g.ports]))]
theorem ysm(p:ProgD)(g:GraphD)(c:List (List Int))(hf:Fair p g)(hc:znu c):Con prog 49 [ygg p,yev g,ycj c] (i64 (yhf p g c)):=by
 have hcl:=hc.1;have hgl:=hf.glen;have hvl:=hf.vlen;refine ze Tryz.func49 ntmps49 Tryz.results49 ?_
 (repeat (first|refine zy ?_|refine zc (yww p g hf) ?_))
 refine zj ?_ ?_ <;> intro h
 .refine zk ?_;have:ycv p g≠0:=by simpa using h
  exact yad (by simp[yhf,this])
 have h0:ycv p g=0:=by simpa using h
 have hbad:ybx (yaf p g) c=false->(10:Int)=yhf p g c:=fun e=>by rw[yhf,if_pos h0,if_neg (by simp[e])]
 have htl:(yaf p g).length=g.ports.length:=by simp[yaf]
 refine zY ?_;refine zj ?_ ?_ <;> intro h1
 .refine zk ?_;have:c.length≠(yaf p g).length:=by rw[htl];intro e;simp[e]at h1
  exact yad (hbad (by simp[ybx,this]))
 have hl:c.length=(yaf p g).length:=by simp at h1;omega
 refine zY ?_;refine ybj (α:=Nat) (fun k=>[(8,i64 k),(2,ycj c),(3,.lp 3 0),(4,.lp 4 0)]) (fun k=>[(3,some (.cells [ykp p.name,.sl 6 (p.vars.map ybl),.sl 3 (p.rules.map ybc)])),(4,some (.cells [yai g.ids,yaq g.ports]))]) (fun k=>c.length - k) (fun k=>k<=c.length/\(((yaf p g).zip c).take k).all (fun x=>ych x.1 x.2)=true) 0 ⟨om,rfl⟩ zs zh ?_;intro k ⟨hk,hok⟩;refine zY ?_;refine zj ?_ ?_ <;> intro h2
 .simp at h2;obtain⟨s,hs⟩:=ybk h2;obtain⟨r,hr⟩:=ybk (show k < (yaf p g).length by omega);have hz:=ynn hr hs;have hrl:=ykf hr;have hsl:=hc.2 s (qab hs);refine zY ?_;refine zj ?_ ?_ <;> intro h3
  .refine zk ?_;have:s.length≠r.length:=by rw[hrl];intro e;simp[e]at h3
   exact yad (hbad (by rw[ybx,yrr hz (by simp[ych,this]),qci]))
  have hsr:s.length=r.length:=by simp at h3;omega
  refine zY ?_;refine ybj (α:=Nat) (fun j=>[(9,i64 j),(8,i64 k),(2,ycj c),(3,.lp 3 0),(4,.lp 4 0)]) (fun j=>[(3,some (.cells [ykp p.name,.sl 6 (p.vars.map ybl),.sl 3 (p.rules.map ybc)])),(4,some (.cells [yai g.ids,yaq g.ports]))]) (fun j=>s.length - j) (fun j=>j<=s.length/\((r.zip s).take j).all (fun x=>zss x.1 x.2)=true) 0 ⟨om,rfl⟩ zs zh ?_;intro j ⟨hj,hjk⟩;refine zY ?_;refine zj ?_ ?_ <;> intro h4
  .simp at h4;obtain⟨z,hzj⟩:=ybk h4;obtain⟨b,hb⟩:=ybk (show j < r.length by omega);have hzz:=ynn hb hzj
   (repeat (first|refine zy ?_|refine zc (yxf p g hf h0 k j r b hr hb) ?_|refine zc (ypm _ _ _) ?_))
   refine zj ?_ ?_ <;> intro h5
   .refine zk ?_;have e:zss b z=false:=by simp[inB]at h5;simp[zss];omega
    exact yad (hbad (by rw[ybx,yrr hz (by rw[ych,yrr hzz e,qci]),qci]))
   refine zY ?_;have e:zss b z=true:=by simp[inB]at h5;simp[zss];omega
   exact rnd (j+1) ⟨om,yuz hzz hjk e⟩ om zs zh
  simp at h4;obtain rfl:j=s.length:=by omega
  refine zY ?_;rw[qal so]at hjk;exact rnd (k+1) ⟨om,yuz hz hok (by simp[ych,hsr,hjk])⟩ om zs zh
 simp at h2;obtain rfl:k=c.length:=by omega
 refine zk ?_;rw[qal so]at hok;exact yad (by rw[yhf,if_pos h0,if_pos (by simp[ybx,hl,hok])])
theorem rvalid10_con(p:ProgD)(g:GraphD)(c:List (List Int))(hf:Fair p g)(hc:znu c):Con prog 21 [ygg p,yev g,ycj c] (yau (yhf p g c == 0)):=by
 refine ze Tryz.func21 ntmps21 Tryz.results21 ?_
 (repeat (first|refine zy ?_|refine zc (ysm p g c hf hc) ?_))
 refine zr ?_;exact yae (by rfl)
end
section
open Go.RowKit
def wOk(b:Int × Int):Prop:=1<=rgW b/\rgW b<=1000002
theorem zro(h:ytx b):wOk b:=by obtain⟨h1,h2,h3⟩:=h;unfold wOk rgW;omega
def yni(n:Int)(b:Int × Int):Int:=if (1073741824:Int) < n * rgW b then 1073741824 else n * rgW b
theorem xdo(h1:1<=n)(hw:1<=w):n<=n * w:=by
 have:=qfx hw (show 0<=n by omega);simpa using this
theorem zft:∀ (r:List (Int × Int)) (n:Int),1<=n->n<=1073741824->(∀ b∈r,wOk b)->n<=r.foldl yni n/\r.foldl yni n<=1073741824
 | [],n,h1,h2,_=>⟨qgw _,h2⟩
 | b::r,n,h1,h2,hw=>by
  have hb:=xdo h1 (hw b sm).1;simp only[qcr];by_cases h:(1073741824:Int) < n * rgW b
  .rw [yni,if_pos h];have:=zft r 1073741824 om om fun x hx=>hw x (by simp[hx]);omega
  rw[yni,if_neg h];have:=zft r (n * rgW b) om om fun x hx=>hw x (by simp[hx]);omega
theorem zmx:∀ (r:List (Int × Int)) (n:Int),1<=n->n<=32768->(∀ b∈r,wOk b)->(∀ q,ygz n r=some q->r.foldl yni n=q/\q<=32768)/\(ygz n r=none->32768 < r.foldl yni n)
 | [],n,h1,h2,_=>⟨fun q h=>by simp only[ygz,Option.some.injEq]at h;subst h;exact⟨rfl,h2⟩,fun h=>by cases h⟩
 | b::r,n,h1,h2,hw=>by
  have hb:=xdo h1 (hw b sm).1;have hr:∀ x∈r,wOk x:=fun x hx=>hw x (by simp[hx]);by_cases h:32768 < n * (b.2 - b.1+1)
  .refine ⟨fun q hq=>(by simp only[ygz,if_pos h]at hq;cases hq),fun _=>?_⟩;simp only[qcr,yni];by_cases h3:(1073741824:Int) < n * rgW b
   .rw [if_pos h3];have:=zft r 1073741824 om om hr;omega
   rw[if_neg h3];have:=zft r (n * rgW b) om om hr;unfold rgW at this hb h3 ⊢;omega
  have e:yni n b=n * (b.2 - b.1+1):=by unfold yni rgW;rw[if_neg om]
  have ih:=zmx r (n * (b.2 - b.1+1)) (by unfold rgW at hb;omega) om hr;simp only[qcr,ygz,if_neg h,e];exact ih
theorem zoy:∀ (r:List (Int × Int)) (n m:Int),1<=n->1<=m->(∀ b∈r,wOk b)->n * m<=32768->ygz (n * m) r=match ygz m r with
  | some q=>if 32768 < n * q then none else some (n * q)
  | none=>none
 | [],n,m,hn,hm,_,h=>by simp only[ygz];rw[if_neg om]
 | b::r,n,m,hn,hm,hw,h=>by
  have hb:=xdo hm (hw b sm).1;have hr:∀ x∈r,wOk x:=fun x hx=>hw x (by simp[hx]);have hnm:n * m * (b.2 - b.1+1)=n * (m * (b.2 - b.1+1)):=qff _ _ _;have hpos:1<=m * (b.2 - b.1+1):=by unfold rgW at hb;omega
  have hle:m * (b.2 - b.1+1)<=n * (m * (b.2 - b.1+1)):=by
   have:=qco hn (show 0<=m * (b.2 - b.1+1) by omega);simpa using this
  simp only[ygz];rw[hnm];by_cases h1:32768 < m * (b.2 - b.1+1)
  .rw [if_pos h1,if_pos om]
  rw[if_neg h1];by_cases h2:32768 < n * (m * (b.2 - b.1+1))
  .rw [if_pos h2];cases hq:ygz (m * (b.2 - b.1+1)) r with
   | none=>rfl
   | some q=>
    have hge:m * (b.2 - b.1+1)<=q:=by
     have e:=((zmx r (m * (b.2 - b.1+1)) hpos om hr).1 q hq).1;have:=(zft r (m * (b.2 - b.1+1)) hpos om hr).1;omega
    have:n * (m * (b.2 - b.1+1))<=n * q:=qfx hge om;simp only;rw[if_pos om]
  rw[if_neg h2];exact zoy r n _ hn hpos hr om
theorem size_table(h0:ycv p g=0)(hr:(yaf p g)[v]?=some r):xaq p g v=r.foldl yni 1:=by
 simp only[yaf,qak]at hr;cases hg:g.ports[v]? with
 | none=>rw[hg]at hr;cases hr
 | some ls=>
  rw[hg]at hr;cases hr;have hv:=(qaa.1 hg).1;have hd:xfs g v=ls.length:=xgs (by simpa using hg);rw[xaq,if_pos h0,if_pos om,List.foldl_map,hd];rfl
theorem yjk(p:ProgD)(g:GraphD)(hf:Fair p g):Con prog 35 [ygg p,yev g] (zue (yia p g)):=by
 have hgl:=hf.glen;refine ze Tryz.func35 ntmps35 Tryz.results35 ?_
 (repeat (first|refine zy ?_|refine zc (yww p g hf) ?_))
 refine zj ?_ ?_ <;> intro h
 .refine zk ?_;have:ycv p g≠0:=by simpa using h
  rw[yia,if_neg this];exact Frz.pure
 have h0:ycv p g=0:=by simpa using h
 have ht:=ydj hf h0;have htl:(yaf p g).length=g.ports.length:=by simp[yaf]
 rw[yia,if_pos h0];refine zY ?_;refine ybj (α:=Nat × Int) (fun a=>[(8,i64 a.1),(7,i64 a.2),(2,.lp 2 0),(3,.lp 3 0)]) (fun k=>[(2,some (.cells [ykp p.name,.sl 6 (p.vars.map ybl),.sl 3 (p.rules.map ybc)])),(3,some (.cells [yai g.ids,yaq g.ports]))]) (fun a=>g.ports.length - a.1) (fun a=>a.1<=g.ports.length/\1<=a.2/\a.2<=32768/\ygz 1 ((yaf p g).take a.1).flatten=some a.2) (0,1) ⟨sm,sm,sm,rfl⟩ zs zh ?_;rintro⟨k,n⟩ ⟨hk,hn1,hn2,hn⟩;simp only at hk hn1 hn2 hn ⊢;refine zY ?_;refine zj ?_ ?_ <;> intro h1
 .simp at h1;obtain⟨r,hr⟩:=ybk (show k < (yaf p g).length by omega);have hw:∀ b∈r,wOk b:=fun b hb=>zro ((ht.2 r (qab hr)).2 b hb);have hsz:=size_table h0 hr;obtain⟨q,hq⟩:∃ q,q=xaq p g k:=⟨_,rfl⟩;obtain⟨hs1,hs2⟩:=zmx r 1 om om hw;have hsg:=zft r 1 om om hw;have hsc:=zoy r n 1 hn1 om hw om;rw[Int.mul_one]at hsc;have hflat:((yaf p g).take (k+1)).flatten=((yaf p g).take k).flatten++r:=by rw[yao hr];simp
  have hrest:ygz n r=none->(0,3)=yce (yaf p g):=by
   intro e;have e2:ygz 1 (yaf p g).flatten=none:=by
    conv=>lhs;rw[<- qcd (k+1) (yaf p g),qdq,hflat]
    rw[yih,yih,hn,qej,e];rfl
   simp only[yce,e2]
  rw[<- hsz,<- hq]at hs1 hs2 hsg
  (repeat (first|refine zy ?_|refine zc (rsize_con p g k hf) ?_))
  rw[<- hq];refine yaj 29 rfl (fun h2=>?_) (fun h2=>?_)
  .refine zk ?_;simp at h2;rw[<- hrest ?_]
   .exact Frz.pure
   rw[hsc];cases hc:ygz 1 r with
   | none=>rfl
   | some z=>have:=hs1 z hc;omega
  simp at h2;obtain⟨z,hz⟩:∃ z,ygz 1 r=some z:=by
   cases hc:ygz 1 r with
   | none=>have:=hs2 hc;omega
   | some z=>exact⟨z,rfl⟩
  have hqz:=(hs1 z hz).1;have hbd:=xdj (n:=n) (w:=q) hn1 hn2 om om;rw[hz]at hsc;simp only at hsc;rw[<- hqz]at hsc;refine zY ?_;refine zj ?_ ?_ <;> intro h3
  .refine zk ?_;simp at h3;rw[<- hrest (by rw[hsc,if_pos h3])];exact Frz.pure
  refine zY ?_;simp at h3;refine rnd (k+1,n * q) ⟨by simp only;omega,hbd.1,by simp only;omega,?_⟩ (by simp only;omega) zs zh;simp only;rw[hflat,yih,hn,qej,hsc,if_neg om]
 simp at h1;obtain rfl:k=g.ports.length:=by omega
 refine zk ?_;rw[<- htl,qaw]at hn;simp only[yce,hn];exact Frz.pure
end
section
open Go.RowKit
theorem zsl(k:Int):∀ (t:List (List (Int × Int))) (v:Nat) (r:List (Int × Int)),t[v]?=some r->(yir k t).1[v]?=some (yds (yir k (t.drop (v+1))).2 r).1
 | [],v,r,h=>by simp at h
 | q::t,0,r,h=>by simp only[qas,Option.some.injEq]at h;subst h;simp[yir]
 | q::t,v+1,r,h=>by
  simp only[qca]at h;have:=zsl k t v r h;simpa[yir]using this
variable{P:Program}{N:Nat}{ops:Array Oper}{lf:Oper->Bool}{Q:SS->Prop}{t:List (Nat × AV)}{h:List (Nat × Option LObj)}
end
section
open Go.RowKit
def yhl:List (Int × Int)->Int
 | []=>1
 | b::l=>rgW b * yhl l
theorem yoi:∀ {l:List (Int × Int)},(∀ b∈l,wOk b)->1<=yhl l
 | [],_=>by simp[yhl]
 | b::l,h=>by
  have h1:=(h b sm).1;have h2:=yoi (l:=l) fun x hx=>h x (by simp[hx]);have:=qco h1 (show 0<=yhl l by omega);simp only[yhl];omega
theorem ynt:∀ {l:List (Int × Int)} {n q:Int},ygz n l=some q->q=n * yhl l
 | [],n,q,h=>by simp only[ygz,Option.some.injEq]at h;simp[yhl,h]
 | b::l,n,q,h=>by
  simp only[ygz]at h;split at h
  .cases h
  have:=ynt h;rw[this,yhl,<- qff];rfl
theorem yem(s:Int)(b:Int × Int)(r:List (Int × Int))(z:Int)(ds:List Int):ycc s (b::r) (z::ds)=ycc (s * rgW b+z - b.1) r ds:=rfl
theorem zfj:∀ {l1 l2:List (Int × Int)} {p q:List Int} {s:Int},l1.length=p.length->ycc s (l1++l2) (p++q)=ycc (ycc s l1 p) l2 q
 | [],l2,[],q,s,_=>rfl
 | b::l1,l2,z::p,q,s,h=>by
  rw[qbb,qbb,yem,yem];exact zfj (by simpa using h)
theorem yna:∀ {l:List (Int × Int)} {ds:List Int} (s:Int),(∀ b∈l,wOk b)->ych l ds=true->ycc s l ds=s * yhl l+ycc 0 l ds/\0<=ycc 0 l ds/\ycc 0 l ds < yhl l
 | [],ds,s,_,h=>by
  obtain⟨h1,_⟩:=yci h;obtain rfl:ds=[]:=qax h1;simp[ycc,yhl]
 | b::l,[],s,_,h=>by obtain⟨h1,_⟩:=yci h;simp at h1
 | b::l,z::ds,s,hw,h=>by
  obtain⟨hlen,hg⟩:=yci h;obtain⟨z',hz',hz1,hz2⟩:=hg 0 b rfl;simp only[qas,Option.some.injEq]at hz';subst hz';have hst:ych l ds=true:=by
   simp only[ych,qad,qdz,qfg,beq_iff_eq,qaj]at h ⊢;exact⟨om,h.2.2⟩
  have hwl:∀ x∈l,wOk x:=fun x hx=>hw x (by simp[hx]);obtain⟨i1,i2,i3⟩:=yna (l:=l) (ds:=ds) (s * rgW b+z - b.1) hwl hst;obtain⟨j1,_,_⟩:=yna (l:=l) (ds:=ds) (0 * rgW b+z - b.1) hwl hst;rw[yem,yem,i1,j1];have hp:=yoi hwl;have hd0:0<=(0 * rgW b+z - b.1):=by omega
  have hd1:(0 * rgW b+z - b.1)+1<=rgW b:=by unfold rgW;omega
  have hm0:0<=(0 * rgW b+z - b.1) * yhl l:=qgr hd0 om;have hm1:((0 * rgW b+z - b.1)+1) * yhl l<=rgW b * yhl l:=qco hd1 om;rw[qev,qeo]at hm1;simp only[yhl];refine⟨?_,om,om⟩;have e1:(s * rgW b+z - b.1) * yhl l=s * (rgW b * yhl l)+(0 * rgW b+z - b.1) * yhl l:=by
   rw[show s * rgW b+z - b.1=s * rgW b+(0 * rgW b+z - b.1) by omega,qev,qff]
  omega
theorem yzl(k:Int)(hk:0<=k):∀ (l:List (Int × Int)),(∀ b∈l,ytx b)->ych l (yds k l).1=true/\k=(yds k l).2 * yhl l+ycc 0 l (yds k l).1
 | [],_=>by simp[yds,ych,yhl,ycc]
 | b::l,h=>by
  have hl:∀ x∈l,ytx x:=fun x hx=>h x (by simp[hx]);obtain⟨i1,i2⟩:=yzl k hk l hl;have hb:=h b sm;have hq:=(yxi hk l hl).1;have hw1:1<=rgW b:=by unfold rgW;have:=hb.2.1;omega
  obtain⟨m1,m2⟩:=xff (w:=rgW b) hq hw1;have hdiv:(yds k l).2=(yds k l).2.tdiv (rgW b) * rgW b+(yds k l).2.tmod (rgW b):=(Int.tdiv_mul_add_tmod _ _).symm;refine⟨?_,?_⟩
  .simp only[yds,ych,qad,qdz,qfg,beq_iff_eq,qaj]at i1 ⊢;refine⟨om,?_,i1.2⟩;simp only[zss,qad,decide_eq_true_eq];simp only[rgW]at m1 m2 ⊢;omega
  simp only[yds,yem,yhl];obtain⟨j1,_⟩:=yna (l:=l) (ds:=(yds k l).1) (0 * rgW b+(b.1+(yds k l).2.tmod (rgW b)) - b.1) (fun x hx=>zro (hl x hx)) i1;rw[j1];generalize (yds k l).2.tdiv (rgW b)=Q at *;generalize (yds k l).2.tmod (rgW b)=R at *;have e:(0 * rgW b+(b.1+R) - b.1) * yhl l=R * yhl l:=by congr 1;omega
  rw[e,<- qff,<- Int.add_assoc,<- qev,<- hdiv];exact i2
theorem zsj(k:Int):∀ (a b:List (Int × Int)),yds k (a++b)=((yds (yds k b).2 a).1++(yds k b).1,(yds (yds k b).2 a).2)
 | [],b=>by simp[yds]
 | x::a,b=>by simp[yds,zsj k a b]
theorem zkc(k:Int):∀ (t:List (List (Int × Int))),(yir k t).1.flatten=(yds k t.flatten).1/\(yir k t).2=(yds k t.flatten).2
 | []=>by simp[yir,yds]
 | r::t=>by
  obtain⟨h1,h2⟩:=zkc k t;simp only[yir,qcc,zsj,h1,h2,and_self]
theorem yff:∀ {t:List (List (Int × Int))} {c:List (List Int)} (s:Int),ybx t c=true->(t.zip c).foldl (fun k q=>ycc k q.1 q.2) s=ycc s t.flatten c.flatten/\ych t.flatten c.flatten=true
 | [],c,s,h=>by
  obtain⟨h1,_⟩:=ynh h;obtain rfl:c=[]:=qax h1;exact⟨rfl,rfl⟩
 | r::t,[],s,h=>by obtain⟨h1,_⟩:=ynh h;simp at h1
 | r::t,x::c,s,h=>by
  have hx:ych r x=true:=by
   obtain⟨x',h1,h2⟩:=(ynh h).2 0 r rfl;simp only[qas,Option.some.injEq]at h1;rw[h1];exact h2
  have hc:ybx t c=true:=by
   simp only[ybx,qad,qdz,qfg,beq_iff_eq,qaj]at h ⊢;exact⟨om,h.2.2⟩
  obtain⟨i1,i2⟩:=yff (t:=t) (c:=c) (ycc s r x) hc;obtain⟨hl,_⟩:=yci hx;refine⟨?_,?_⟩
  .rw [qcc,qcc,zfj hl.symm];exact i1
  simp only[ych,qad,beq_iff_eq]at hx i2 ⊢;rw[qcc,qcc,List.zip_append hl.symm,qfa,hx.2,i2.2];exact⟨by simp[hx.1,i2.1],rfl⟩
theorem zzp(k:Int)(hk:0<=k)(ht:∀ r∈t,∀ b∈r,ytx b):ybx t (yir k t).1=true:=by
 simp only[ybx,qad,beq_iff_eq];refine⟨yxj k t,List.all_eq_true.2 fun q hq=>?_⟩;obtain⟨v,hv⟩:=qao hq;rw[qfq]at hv;have:=zsl k t v _ hv.1;rw[this]at hv;obtain⟨hr,hs⟩:=hv;simp only[Option.some.injEq]at hs;rw[<- hs];have hb:=znl hk (t.drop (v+1)) fun r hr=>ht r (qdn hr);exact(yzl _ hb.1 q.1 (ht _ (qab hr))).1
theorem rank_un{k:Int}(hk:0<=k)(ht:∀ r∈t,∀ b∈r,ytx b)(hn:ygz 1 t.flatten=some n)(hkn:k < n):yda t (yir k t).1=k:=by
 have hfl:∀ b∈t.flatten,ytx b:=fun b hb=>by obtain⟨r,hr,hb⟩:=qdk.1 hb;exact ht r hr b hb
 obtain⟨h1,_⟩:=yff 0 (zzp k hk ht);obtain⟨f1,f2⟩:=zkc k t;obtain⟨i1,i2⟩:=yzl k hk t.flatten hfl;have hW:=ynt hn;rw[qeo]at hW;obtain⟨_,l2,l3⟩:=yna 0 (fun b hb=>zro (hfl b hb)) i1;have hq:=(yxi hk t.flatten hfl).1;have hp:=yoi fun b hb=>zro (hfl b hb);have hz:(yds k t.flatten).2=0:=by
  rcases Int.lt_or_le 0 (yds k t.flatten).2 with h|h
  .have:=qco (show 1<=(yds k t.flatten).2 by omega) (show 0<=yhl t.flatten by omega);rw[qeo]at this;omega
  omega
 rw[yda,h1,f1];rw[hz,Int.zero_mul,Int.zero_add]at i2;exact i2.symm
end
section
def yfp:Int:=1073741824
def zry(a:Int):Int:=max (-yfp) (min a yfp)
def InV(a:Int):Prop:=-yfp<=a/\a<=yfp
theorem xem(a:Int):InV (zry a):=by unfold zry InV yfp;omega
theorem xel(h:InV a):zry a=a:=by unfold zry InV yfp at *;omega
def ypr(b:Bool):Int:=if b then 1 else 0
theorem zgh(b:Bool):InV (ypr b):=by unfold ypr InV yfp;split <;> omega
def zst(a b:Int):Int:=if b=0 then 0 else a.fdiv b
theorem xea{b:Int}(hb:b≠0):(if a.tmod b≠0/\(decide (a < 0) != decide (b < 0))=true then a.tdiv b - 1 else a.tdiv b)=zst a b:=by
 unfold zst;rw[if_neg hb,Int.fdiv_eq_tdiv];by_cases hd:b ∣ a
 .rw [if_pos hd,if_neg (fun h=>h.1 (Int.dvd_iff_tmod_eq_zero.1 hd))];omega
 have hm:a.tmod b≠0:=fun h=>hd (Int.dvd_iff_tmod_eq_zero.2 h);rw[if_neg hd];rcases Int.lt_or_le a 0 with ha|ha <;> rcases Int.lt_or_le b 0 with hl|hl
 .rw [if_neg (by simp[ha,hl]),if_neg om,if_neg om,Int.sign_eq_neg_one_of_neg hl];omega
 .rw [if_pos ⟨hm,by simp[ha];omega⟩,if_neg om,if_pos hl,Int.sign_eq_one_of_pos om]
 .rw [if_pos ⟨hm,by simp[hl];omega⟩,if_pos ha,if_neg om]
 rw[if_neg (fun h=>by have:=h.2;simp at this;omega),if_pos ha,if_pos hl];omega
def unV(op a:Int):Int:=if op=18 then -a else ypr (a == 0)
def exV(op a b:Int):Int:=
 if op=30 then a * b else if op=31 then zst a b else if op=32 then(if b=0 then 0 else a - b * zst a b)else if op=33 then a+b else if op=34 then a - b
 else if op=35 then ypr (a == b)else if op=36 then ypr (a != b)else if op=37 then ypr (decide (a < b))else if op=38 then ypr (decide (a<=b))else if op=39 then ypr (decide (b < a))else if op=40 then ypr (decide (b<=a))
 else if op=41 then ypr (a != 0 && b != 0)else ypr (a != 0 || b != 0)
def biV(op a b:Int):Int:=zry (exV op a b)
def xaz(l:List Int):Nat:=(l.filter (· != 0)).length
def zax:List Int->Nat->Int
 | [],_=>-1
 | a::l,k=>if a≠0 then k else zax l (k+1)
def ypo(l:List Int):Int:=l.foldl min yfp
def ynx(l:List Int):Int:=l.foldl max (-yfp)
def zcn:List Int->Int × Int->Int × Int
 | [],q=>q
 | a::l,q=>zcn l (max q.1 a,max q.2 (min q.1 a))
def zxp(l:List Int):Nat->Nat->Nat
 | 0,k=>k
 | n+1,k=>if (k:Int)∈l then zxp l n (k+1)else k
def ztl(op:Int)(l:List Int):Int:=
 if op=20 then ypr (xaz l == l.length)else if op=21 then ypr (decide (0 < xaz l))else if op=22 then xaz l else if op=23 then zax l 0 else if op=24 then ypo l else if op=25 then ynx l
 else if op=26 then zry l.sum else if op=27 then zxp l (l.length+1) 0 else if op=28 then(zcn l (-yfp,-yfp)).2 else l.headD 0
structure Scn where
 g:GraphD
 c:List (List Int)
 v:Nat
def Scn.deg(s:Scn):Nat:=(s.g.ports.getD s.v []).length
def Scn.link(s:Scn)(port:Int):Lk:=(s.g.ports.getD s.v []).getD port.toNat (0,0)
def Scn.get(s:Scn)(u:Nat)(x:Int):Int:=(s.c.getD u []).getD x.toNat 0
def Scn.leaf(s:Scn)(port:Int)(t:Tm):Int:=
 if t.1=1 then t.2 else if t.1=2 then 1 else if t.1=3 then 0 else if t.1=4 then -1 else if t.1=5 then s.get s.v t.2 else if t.1=6 then s.g.ids.length else if t.1=7 then yca s.g.ids
 else if t.1=8 then s.g.ids.getD s.v 0 else if t.1=9 then s.deg else if t.1=10 then ypr (s.v == 0)else if t.1=11 then port else if t.1=12 then s.get (s.link port).1.toNat t.2
 else if t.1=13 then s.g.ids.getD (s.link port).1.toNat 0 else if t.1=14 then(s.g.ports.getD (s.link port).1.toNat []).length else if t.1=15 then ypr ((s.link port).1 == 0)else if t.1=16 then(s.link port).2
 else ykd (s.g.ports.getD (s.link port).1.toNat []) s.v
def Scn.val(s:Scn):Int->Ex->Int
 | port,.lf t=>s.leaf port t
 | port,.un t a=>if yja t.1 then ztl t.1 ((List.range s.deg).map fun(k:Nat)=>s.val (k:Int) a)else unV t.1 (s.val port a)
 | port,.bi t a b=>biV t.1 (s.val port a) (s.val port b)
 | port,.tr t a b c=>if s.val port a≠0 then s.val port b else s.val port c
end
variable{s:Scn}
section
theorem xat{l:List α}{x:α}(hx:l[k]?=some x):l.take (k+1)=l.take k++[x]:=by
 obtain⟨hk,rfl⟩:=qaa.1 hx;exact qcp hk
theorem zti(l:List Int)(a:Int):xaz (l++[a])=xaz l+(if a≠0 then 1 else 0):=by
 unfold xaz;rw[qcn,qan];by_cases h:a=0 <;> simp[h]
theorem xca(l:List Int):xaz l<=l.length:=qcu _ _
theorem xco:∀ (l:List Int) (a:Int) (k:Nat),zax (l++[a]) k=if 0<=zax l k then zax l k else if a≠0 then((k+l.length:Nat):Int)else -1
 | [],a,k=>by simp[zax]
 | b::l,a,k=>by
  simp only[qbb,zax];by_cases hb:b=0
  .simp only[hb,ne_eq,not_true_eq_false,if_false,xco l a (k+1),qaj];rw[show k+1+l.length=k+(l.length+1) by omega]
  simp[hb]
theorem zwy:∀ (l:List Int) (k:Nat),zax l k=-1\/((k:Int)<=zax l k/\zax l k < ((k+l.length:Nat):Int))
 | [],k=>.inl rfl
 | b::l,k=>by
  simp only[zax];by_cases hb:b=0
  .simp only[hb,ne_eq,not_true_eq_false,if_false,qaj];rcases zwy l (k+1)with h|⟨h1,h2⟩
   .exact .inl h
   exact .inr ⟨om,om⟩
  simp only[ne_eq,hb,not_false_eq_true,if_true,qaj];exact .inr ⟨om,om⟩
theorem zwx:∀ {l:List Int} {k i:Nat} {a:Int},l[i]?=some a->a≠0->(∀ j b,j < i->l[j]?=some b->b=0)->zax l k=((k+i:Nat):Int)
 | b::l,k,0,a,h,ha,_=>by
  simp only[qas,Option.some.injEq]at h;subst h;simp[zax,ha]
 | b::l,k,i+1,a,h,ha,hall=>by
  have hb:=hall 0 b om rfl;simp only[zax,hb,ne_eq,not_true_eq_false,if_false];rw[zwx (l:=l) (k:=k+1) (i:=i) (by simpa using h) ha (fun j c hj hc=>hall (j+1) c om (by simpa using hc))];rw[show k+1+i=k+(i+1) by omega]
theorem zbr:∀ {l:List Int} {k:Nat},(∀ a∈l,a=0)->zax l k=-1
 | [],k,_=>rfl
 | b::l,k,h=>by
  simp only[zax,h b sm,ne_eq,not_true_eq_false,if_false];exact zbr fun a ha=>h a (by simp[ha])
theorem zqd(l:List Int)(a:Int):ypo (l++[a])=min (ypo l) a:=by unfold ypo;rw[qcx];rfl
theorem great_app(l:List Int)(a:Int):ynx (l++[a])=max (ynx l) a:=by unfold ynx;rw[qcx];rfl
theorem zuu:∀ (l:List Int) (a:Int) (q:Int × Int),zcn (l++[a]) q=(max (zcn l q).1 a,max (zcn l q).2 (min (zcn l q).1 a))
 | [],a,q=>rfl
 | b::l,a,q=>by simp only[qbb,zcn,zuu l a]
theorem zgi:∀ (l:List Int) (q:Int × Int),(zcn l q).1=l.foldl max q.1
 | [],q=>rfl
 | b::l,q=>by simp only[zcn,qcr,zgi l]
theorem xhq:∀ (l:List Int) (q:Int × Int),q.2<=q.1->(zcn l q).2<=(zcn l q).1
 | [],q,h=>h
 | b::l,q,h=>by
  simp only[zcn];exact xhq l _ (by simp only;omega)
theorem two_step{g s:Int}(h:s<=g):(max g a,max s (min g a))=if g < a then(a,g)else(g,max s a):=by
 split
 .rw [show max g a=a by omega,show max s (min g a)=g by omega]
 rw[show max g a=g by omega,show min g a=a by omega]
theorem xez(l:List Int)(a:Int):(l++[a]).sum=l.sum+a:=by simp
theorem xfa:∀ {l:List Int},(∀ a∈l,InV a)->-(yfp * l.length)<=l.sum/\l.sum<=yfp * l.length
 | [],_=>by simp
 | b::l,h=>by
  have h1:=xfa (l:=l) fun a ha=>h a (by simp[ha]);have h2:=h b sm;unfold InV yfp at *;simp only[List.sum_cons,qaj];omega
theorem yyy:∀ (k:Nat) (l:List Int),(∀ j,j < k->((j:Nat):Int)∈l)->k<=l.length
 | 0,l,_=>Nat.zero_le _
 | k+1,l,h=>by
  have hk:=h k om;have h1:=yyy k (l.erase (k:Int)) fun j hj=>by
   rw[List.mem_erase_of_ne om];exact h j om
  have h2:=qgo hk;have h3:0 < l.length:=List.length_pos_of_mem hk;omega
theorem zxq:∀ {n k:Nat},¬ ((k:Int)∈l)->zxp l n k=k
 | 0,k,_=>rfl
 | n+1,k,h=>by simp only[zxp];rw[if_neg h]
theorem mex_next{n:Nat}(h:(k:Int)∈l):zxp l (n+1) k=zxp l n (k+1):=by simp only[zxp];rw[if_pos h]
theorem xdf(h:∀ j,j < k->((j:Nat):Int)∈l):zxp l (l.length+1) 0=zxp l (l.length+1 - k) k:=by
 induction k with
 | zero=>rfl
 | succ k ih=>
  rw[ih fun j hj=>h j om];have h1:=yyy (k+1) l h;rw[show l.length+1 - k=(l.length+1 - (k+1))+1 by omega,mex_next (h k om)]
theorem xhc{l:List Int}:∀ (n k:Nat),zxp l n k<=k+n
 | 0,k=>by simp[zxp]
 | n+1,k=>by
  simp only[zxp];split
  .have:=xhc (l:=l) n (k+1);omega
  omega
theorem zlh{f:Int->Int->Int}(hf:∀ a b,InV a->InV b->InV (f a b)):∀ {l:List Int} {q:Int},InV q->(∀ a∈l,InV a)->InV (l.foldl f q)
 | [],q,hq,_=>hq
 | a::l,q,hq,h=>zlh (l:=l) hf (hf q a hq (h a sm)) fun b hb=>h b (by simp[hb])
theorem xhp:∀ {l:List Int} {q:Int × Int},InV q.1->InV q.2->(∀ a∈l,InV a)->InV (zcn l q).2
 | [],q,_,h2,_=>h2
 | a::l,q,h1,h2,h=>by
  have ha:=h a sm;refine xhp (l:=l) ?_ ?_ fun b hb=>h b (by simp[hb])
  .unfold InV at *;simp only;omega
  unfold InV at *;simp only;omega
theorem fold_in(hl:l.length<=1000)(h:∀ a∈l,InV a):InV (ztl op l):=by
 have hb:InV yfp:=by unfold InV yfp;omega
 have hn:InV (-yfp):=by unfold InV yfp;omega
 have hsm:∀ n:Nat,n<=3000->InV (n:Int):=fun n hn=>by unfold InV yfp;omega
 unfold ztl
 repeat' split
 .exact zgh _
 .exact zgh _
 .exact hsm _ (by have:=xca l;omega)
 .rcases zwy l 0 with e|⟨e1,e2⟩
  .rw [e];unfold InV yfp;omega
  unfold InV yfp;omega
 .exact zlh (fun a b h1 h2=>by unfold InV at *;omega) hb h
 .exact zlh (fun a b h1 h2=>by unfold InV at *;omega) hn h
 .exact xem _
 .exact hsm _ (by have:=xhc (l:=l) (l.length+1) 0;omega)
 .exact xhp (q:=(-yfp,-yfp)) hn hn h
 cases l with
 | nil=>unfold InV yfp;simp
 | cons a l=>exact h a sm
end
section
structure ScnOk (s:Scn):Prop where
 ids:∀ a∈s.g.ids,0<=a/\a<=255
 few:s.g.ids.length<=24
 links:∀ ls∈s.g.ports,ls.length<=24/\∀ l∈ls,0<=l.2/\l.2<=15
 vals:∀ r∈s.c,∀ a∈r,InV a
theorem xcp(h:∀ a∈l,InV a):InV (l.getD k 0):=by
 rw[qac];cases hk:l[k]? with
 | none=>unfold InV yfp;simp
 | some a=>exact h a (qab hk)
theorem zlk{l:List (List α)}:l.getD k []=[]\/l.getD k []∈l:=by
 rw[qac];cases hk:l[k]? with
 | none=>exact .inl rfl
 | some a=>exact .inr (qab hk)
theorem get_in(h:ScnOk s)(u:Nat)(x:Int):InV (s.get u x):=by
 unfold Scn.get;rcases zlk (l:=s.c) (k:=u)with e|e
 .rw [e];unfold InV yfp;simp
 exact xcp (h.vals _ e)
theorem zfg(h:ScnOk s)(u:Nat):(s.g.ports.getD u []).length<=24:=by
 rcases zlk (l:=s.g.ports) (k:=u)with e|e
 .rw [e];simp
 exact(h.links _ e).1
theorem link_in(h:ScnOk s)(p:Int):InV (s.link p).2:=by
 unfold Scn.link;rcases zlk (l:=s.g.ports) (k:=s.v)with e|e
 .rw [e];unfold InV yfp;simp
 rw[qac];cases hk:(s.g.ports.getD s.v [])[p.toNat]? with
 | none=>unfold InV yfp;simp
 | some l=>
  have:=(h.links _ e).2 l (qab hk);unfold InV yfp;show _<=l.2/\l.2<=_;omega
theorem port_bd(ls:List Lk)(u:Int):-1<=ykd ls u/\ykd ls u < ls.length+1:=by
 rcases yqx ls u with⟨h,_⟩|⟨k,x,h,hx,_⟩
 .omega
 have:=(qaa.1 hx).1;omega
theorem zcl(h0:-1<=n)(h1:n<=1000000):InV n:=by unfold InV yfp;omega
theorem ite_in{c:Prop}[Decidable c]{a b:Int}(h1:InV a)(h2:InV b):InV (if c then a else b):=by split <;> assumption
theorem leaf_in(hS:ScnOk s){port:Int}(hp:InV port){t:Tm}{vars:Int}(ha:yvb vars t=true):InV (s.leaf port t):=by
 have hid:∀ a∈s.g.ids,InV a:=fun a hm=>by have:=hS.ids a hm;exact zcl om om
 unfold Scn.leaf;by_cases e1:t.1=1
 .rw [if_pos e1];unfold yvb at ha;rw[if_pos e1]at ha;simp only[qad,decide_eq_true_eq]at ha;unfold InV yfp;omega
 rw[if_neg e1];have l1:=zfg hS s.v;have l2:=zfg hS (s.link port).1.toNat;have l3:=port_bd (s.g.ports.getD (s.link port).1.toNat []) s.v;have l5:=zab (l:=s.g.ids) fun a hm=>(hS.ids a hm).2;have l4:=hS.few
 repeat' refine ite_in ?_ ?_
 all_goals first
  | exact zcl om om
  | exact get_in hS _ _
  | exact zgh _
  | exact hp
  | exact xcp hid
  | exact link_in hS _
  | exact zcl (by unfold Scn.deg;omega) (by unfold Scn.deg;omega)
theorem un_in(h:InV a):InV (unV op a):=by
 unfold unV;split
 .unfold InV at *;omega
 exact zgh _
theorem yro(h:ScnOk s){vars:Int}:∀ (E:Ex),(∀ t∈E.fl,yvb vars t=true)->∀ {port:Int},InV port->InV (s.val port E)
 | .lf t,ha,port,hp=>leaf_in h hp (ha t (by simp[Ex.fl]))
 | .un t a,ha,port,hp=>by
  have ih:=fun {q:Int} (hq:InV q)=>yro h a (fun x hx=>ha x (by simp[Ex.fl,hx])) hq;simp only[Scn.val];have hd:s.deg<=24:=zfg h s.v;split
  .refine fold_in so fun x hx=>?_;obtain⟨k,hk,rfl⟩:=qag.1 hx;have:=qbt.1 hk;exact ih (zcl om om)
  exact un_in (ih hp)
 | .bi t a b,ha,port,hp=>xem _
 | .tr t a b c,ha,port,hp=>by
  simp only[Scn.val];split
  .exact yro h b (fun x hx=>ha x (by simp[Ex.fl,hx])) hp
  exact yro h c (fun x hx=>ha x (by simp[Ex.fl,hx])) hp
def biP(op a b:Int):Int:=
 if op=30 then zry (a * b)else if op=31 then zry (zst a b)else if op=32 then(if b=0 then 0 else zry (a - b * zst a b))else if op=33 then zry (a+b)else if op=34 then zry (a - b)
 else if op=41 then ypr (a != 0 && b != 0)else if op=42 then ypr (a != 0 || b != 0)
 else ypr (if op=35 then a == b else if op=36 then a != b else if op=37 then decide (a < b)else if op=38 then decide (a<=b)else if op=39 then decide (b < a)else decide (b<=a))
theorem biP_eq{b:Int}(h:30<=op/\op<=42):biP op a b=biV op a b:=by
 have ht:∀ c,zry (ypr c)=ypr c:=fun c=>xel (zgh c);have h0:zry 0=0:=xel (by unfold InV yfp;omega);have:op=30\/op=31\/op=32\/op=33\/op=34\/op=35\/op=36\/op=37\/op=38\/op=39\/op=40\/op=41\/op=42:=by omega
 rcases this with rfl|rfl|rfl|rfl|rfl|rfl|rfl|rfl|rfl|rfl|rfl|rfl|rfl <;> simp[biP,biV,exV,ht]
 split <;> simp[h0]
end
section
open Go.RowKit
theorem yfr(b:Bool):Con prog 246 [yau b] (i64 (ypr b)):=by
 refine ze Tryz.func246 ntmps246 Tryz.results246 ?_;cases b
 .refine zY ?_;refine zr ?_;exact Frz.pure
 refine zY ?_;refine zr ?_;exact Frz.pure
theorem ydf(b:Bool):Con prog 252 [yau b] (i64 (ypr b)):=by
 refine ze Tryz.func252 ntmps252 Tryz.results252 ?_;cases b
 .refine zY ?_;refine zr ?_;exact Frz.pure
 refine zY ?_;refine zr ?_;exact Frz.pure
theorem yrz(a:Int):Con prog 248 [i64 a] (i64 (zry a)):=by
 refine ze Tryz.func248 ntmps248 Tryz.results248 ?_;refine zk ?_;exact yad (by unfold zry yfp;split <;> split <;> omega)
theorem zys(a:Int):Con prog 253 [i64 a] (i64 (zry a)):=by
 refine ze Tryz.func253 ntmps253 Tryz.results253 ?_;refine zk ?_;exact yad (by unfold zry yfp;split <;> split <;> omega)
theorem zcj(ha:InV a):Con prog 255 [i64 a] (yau true):=by
 unfold InV yfp at ha;refine ze Tryz.func255 ntmps255 Tryz.results255 ?_;refine zY ?_;refine yaj 5 rfl (fun h=>?_) (fun h=>?_)
 .refine zk ?_;exact yae so
 simp at h;omega
theorem xdz{b:Int}(ha:InV a)(hb:b≠0):-1073741824<=a.tdiv b/\a.tdiv b<=1073741824:=by
 have:=Int.natAbs_tdiv_le_natAbs a b;unfold InV yfp at ha;omega
theorem zuh{b:Int}(ha:InV a):-1073741825<=zst a b/\zst a b<=1073741824:=by
 by_cases hb:b=0
 .subst hb;simp[zst]
 have:=xdz ha hb;rw[<- xea hb];split <;> omega
theorem xlp(p q:Bool):(p != q)=!(p == q):=rfl
theorem zwj(a b:Int)(ha:InV a):Con prog 249 [i64 a,i64 b] (i64 (zst a b)):=by
 refine ze Tryz.func249 ntmps249 Tryz.results249 ?_;refine zY ?_;refine zj ?_ ?_ <;> intro h
 .simp at h;subst h;refine zk ?_;exact yad (by simp[zst])
 simp at h;have h1:=xdz ha h;have hq:=xea (a:=a) h;refine zY ?_;refine xil rfl rfl h om om rfl rfl ?_
 (repeat (first|refine zy ?_|refine xfn rfl rfl h rfl rfl ?_))
 refine yaj 15 rfl (fun h2=>?_) (fun h2=>?_)
 ·(repeat (first|refine zy ?_|refine zvc tok rfl rfl rfl rfl rfl ?_))
  refine zj ?_ ?_ <;> intro h3
  .refine zk ?_;exact yad (by rw[<- hq,if_pos ⟨by simpa using h2,by rw[xlp];exact h3⟩])
  refine zk ?_;exact yad (by rw[<- hq,if_neg (fun e=>by rw[xlp]at e;rw[e.2]at h3;cases h3)])
 refine zk ?_;exact yad (by rw[<- hq,if_neg (fun e=>e.1 (by simpa using h2))])
theorem zyr(a b:Int)(ha:InV a):Con prog 274 [i64 a,i64 b] (i64 (zst a b)):=by
 refine ze Tryz.func274 ntmps274 Tryz.results274 ?_;refine zY ?_;refine zj ?_ ?_ <;> intro h
 .simp at h;subst h;refine zk ?_;exact yad (by simp[zst])
 simp at h;have h1:=xdz ha h;have hq:=xea (a:=a) h;refine zY ?_;refine xil rfl rfl h om om rfl rfl ?_
 (repeat (first|refine zy ?_|refine xfn rfl rfl h rfl rfl ?_))
 refine yaj 15 rfl (fun h2=>?_) (fun h2=>?_)
 ·(repeat (first|refine zy ?_|refine zvc tok rfl rfl rfl rfl rfl ?_))
  refine zj ?_ ?_ <;> intro h3
  .refine zk ?_;exact yad (by rw[<- hq,if_pos ⟨by simpa using h2,by rw[xlp];exact h3⟩])
  refine zk ?_;exact yad (by rw[<- hq,if_neg (fun e=>by rw[xlp]at e;rw[e.2]at h3;cases h3)])
 refine zk ?_;exact yad (by rw[<- hq,if_neg (fun e=>e.1 (by simpa using h2))])
theorem eun_con(op a:Int)(ha:InV a):Con prog 220 [i64 op,i64 a] (i64 (unV op a)):=by
 unfold InV yfp at ha;refine ze Tryz.func220 ntmps220 Tryz.results220 ?_;refine zY ?_;refine zj ?_ ?_ <;> intro h
 .simp at h;refine zk ?_;exact yad (by simp[unV,h])
 simp at h
 (repeat (first|refine zy ?_|refine zc (yfr _) ?_))
 refine zr ?_;exact yad (by simp[unV,h])
theorem ecmp_con(op a b:Int):Con prog 250 [i64 op,i64 a,i64 b] (yau (if op=35 then a == b else if op=36 then a != b else if op=37 then decide (a < b)else if op=38 then decide (a<=b)else if op=39 then decide (b < a)else decide (b<=a))):=by
 refine ze Tryz.func250 ntmps250 Tryz.results250 ?_;refine zY ?_;refine zj ?_ ?_ <;> intro h1
 .simp at h1;refine zY ?_;refine zr ?_;exact yae (by simp[h1])
 simp at h1;refine zY ?_;refine zj ?_ ?_ <;> intro h2
 .simp at h2;refine zY ?_;refine zr ?_;exact yae (by rw[if_neg h1,if_pos h2])
 simp at h2;refine zY ?_;refine zj ?_ ?_ <;> intro h3
 .simp at h3;refine zY ?_;refine zr ?_;exact yae (by simp[h3])
 simp at h3;refine zY ?_;refine zj ?_ ?_ <;> intro h4
 .simp at h4;refine zY ?_;refine zr ?_;exact yae (by simp[h4])
 simp at h4;refine zY ?_;refine zj ?_ ?_ <;> intro h5
 .simp at h5;refine zY ?_;refine zr ?_;exact yae (by simp[h5])
 simp at h5;refine zY ?_;refine zr ?_;exact yae (by simp[h1,h2,h3,h4,h5])
end
section
open Go.RowKit
theorem xdn{b m:Int}(h1:-m<=a)(h2:a<=m)(h3:-n<=b)(h4:b<=n):-(m * n)<=a * b/\a * b<=m * n:=by
 have k1:a.natAbs<=m.natAbs:=by omega
 have k2:b.natAbs<=n.natAbs:=by omega
 have k3:=qhr k1 k2;rw[<- Int.natAbs_mul,<- Int.natAbs_mul]at k3;have k4:((m * n).natAbs:Int)=m * n:=Int.natAbs_of_nonneg (qgr om om);omega
theorem xdl{b:Int}(ha:InV a)(hb:InV b):-1152921504606846976<=a * b/\a * b<=1152921504606846976:=by
 have:=xdn ha.1 ha.2 hb.1 hb.2;simpa[yfp]using this
theorem xdk{b:Int}(ha:InV a)(hb:InV b):-1152921505680588800<=b * zst a b/\b * zst a b<=1152921505680588800:=by
 have hq:=zuh (b:=b) ha;have:=xdn (a:=b) (b:=zst a b) (n:=1073741825) hb.1 hb.2 om om;simpa[yfp]using this
theorem ebin_con(op a b:Int)(ha:InV a)(hb:InV b):Con prog 222 [i64 op,i64 a,i64 b] (i64 (biP op a b)):=by
 have hm:=xdl ha hb;have hq:=zuh (b:=b) ha;have hn:=xdk ha hb;have ha':=ha;have hb':=hb;unfold InV yfp at ha' hb';refine ze Tryz.func222 ntmps222 Tryz.results222 ?_;refine zY ?_;refine zj ?_ ?_ <;> intro h1
 .simp at h1;subst h1
  (repeat (first|refine zy ?_|refine zc (yrz _) ?_))
  refine zr ?_;exact yad rfl
 simp at h1;refine zY ?_;refine zj ?_ ?_ <;> intro h2
 .simp at h2;subst h2
  (repeat (first|refine zy ?_|refine zc (zwj a b ha) ?_|refine zc (yrz _) ?_))
  refine zr ?_;exact yad rfl
 simp at h2;refine zY ?_;refine zj ?_ ?_ <;> intro h3
 .simp at h3;subst h3;refine zY ?_;refine zj ?_ ?_ <;> intro h
  .simp at h;subst h;refine zY ?_;refine zr ?_;exact yad rfl
  simp at h
  (repeat (first|refine zy ?_|refine zc (zwj a b ha) ?_|refine zc (yrz _) ?_))
  refine zr ?_;exact yad (by simp[biP,h])
 simp at h3;refine zY ?_;refine zj ?_ ?_ <;> intro h4
 .simp at h4;subst h4
  (repeat (first|refine zy ?_|refine zc (yrz _) ?_))
  refine zr ?_;exact yad rfl
 simp at h4;refine zY ?_;refine zj ?_ ?_ <;> intro h5
 .simp at h5;subst h5
  (repeat (first|refine zy ?_|refine zc (yrz _) ?_))
  refine zr ?_;exact yad rfl
 simp at h5;refine zY ?_;refine zj ?_ ?_ <;> intro h6
 .simp at h6;subst h6;refine zY ?_;refine yaj 48 rfl (fun h=>?_) (fun h=>?_)
  ·(repeat (first|refine zy ?_|refine zc (yfr _) ?_))
   refine zr ?_;exact yad (by rw[show biP 41 a b=ypr (a != 0 && b != 0) from rfl,h];rfl)
  (repeat (first|refine zy ?_|refine zc (yfr _) ?_))
  refine zr ?_;exact yad (by rw[show biP 41 a b=ypr (a != 0 && b != 0) from rfl,h];rfl)
 simp at h6;refine zY ?_;refine zj ?_ ?_ <;> intro h7
 .simp at h7;subst h7;refine zY ?_;refine yaj 57 rfl (fun h=>?_) (fun h=>?_)
  ·(repeat (first|refine zy ?_|refine zc (yfr _) ?_))
   refine zr ?_;exact yad (by rw[show biP 42 a b=ypr (a != 0 || b != 0) from rfl,h];rfl)
  (repeat (first|refine zy ?_|refine zc (yfr _) ?_))
  refine zr ?_;exact yad (by rw[show biP 42 a b=ypr (a != 0 || b != 0) from rfl,h];rfl)
 simp at h7
 (repeat (first|refine zy ?_|refine zc (ecmp_con op a b) ?_|refine zc (yfr _) ?_))
 refine zr ?_;exact yad (by simp[biP,h1,h2,h3,h4,h5,h6,h7])
theorem run_con(op a:Int)(hop:op=18\/op=19)(ha:InV a):Con prog 227 [i64 op,i64 a] (.tup [i64 (unV op a),i64 0]):=by
 have ha':=ha;unfold InV yfp at ha';refine ze Tryz.func227 ntmps227 Tryz.results227 ?_;rcases hop with rfl|rfl
 ·(repeat (first|refine zy ?_|refine zc (zcj ha) ?_))
  refine zr ?_;exact Frz.tup2 (yad (by first|rfl|simp[unV])) Frz.pure
 (repeat (first|refine zy ?_|refine zc (zcj ha) ?_|refine zc (ydf _) ?_))
 refine zr ?_;exact Frz.tup2 (yad rfl) Frz.pure
theorem rapp_con(op a b:Int)(hop:30<=op/\op<=42)(ha:InV a)(hb:InV b):Con prog 256 [i64 op,i64 a,i64 b] (i64 (exV op a b)):=by
 have hm:=xdl ha hb;have hq:=zuh (b:=b) ha;have hn:=xdk ha hb;have ha':=ha;have hb':=hb;unfold InV yfp at ha' hb';refine ze Tryz.func256 ntmps256 Tryz.results256 ?_;have:op=30\/op=31\/op=32\/op=33\/op=34\/op=35\/op=36\/op=37\/op=38\/op=39\/op=40\/op=41\/op=42:=by omega
 rcases this with rfl|rfl|rfl|rfl|rfl|rfl|rfl|rfl|rfl|rfl|rfl|rfl|rfl
 .refine zY ?_;refine zr ?_;exact yad rfl
 ·(repeat (first|refine zy ?_|refine zc (zyr a b ha) ?_));refine zr ?_;exact yad rfl
 .refine zY ?_;refine zj ?_ ?_ <;> intro h
  .simp at h;subst h;refine zY ?_;refine zr ?_;exact yad rfl
  simp at h
  (repeat (first|refine zy ?_|refine zc (zyr a b ha) ?_));refine zr ?_;exact yad (by simp[exV,h])
 .refine zY ?_;refine zr ?_;exact yad rfl
 .refine zY ?_;refine zr ?_;exact yad rfl
 ·(repeat (first|refine zy ?_|refine zc (ydf _) ?_));refine zr ?_;exact yad rfl
 ·(repeat (first|refine zy ?_|refine zc (ydf _) ?_));refine zr ?_;exact yad rfl
 ·(repeat (first|refine zy ?_|refine zc (ydf _) ?_));refine zr ?_;exact yad rfl
 ·(repeat (first|refine zy ?_|refine zc (ydf _) ?_));refine zr ?_;exact yad rfl
 ·(repeat (first|refine zy ?_|refine zc (ydf _) ?_));refine zr ?_;exact yad rfl
 ·(repeat (first|refine zy ?_|refine zc (ydf _) ?_));refine zr ?_;exact yad rfl
 .refine zY ?_;refine yaj 79 rfl (fun h=>?_) (fun h=>?_)
  ·(repeat (first|refine zy ?_|refine zc (ydf _) ?_))
   refine zr ?_;exact yad (by rw[show exV 41 a b=ypr (a != 0 && b != 0) from rfl,h];rfl)
  (repeat (first|refine zy ?_|refine zc (ydf _) ?_))
  refine zr ?_;exact yad (by rw[show exV 41 a b=ypr (a != 0 && b != 0) from rfl,h];rfl)
 refine zY ?_;refine yaj 86 rfl (fun h=>?_) (fun h=>?_)
 ·(repeat (first|refine zy ?_|refine zc (ydf _) ?_))
  refine zr ?_;exact yad (by rw[show exV 42 a b=ypr (a != 0 || b != 0) from rfl,h];rfl)
 (repeat (first|refine zy ?_|refine zc (ydf _) ?_))
 refine zr ?_;exact yad (by rw[show exV 42 a b=ypr (a != 0 || b != 0) from rfl,h];rfl)
theorem rbin_con(op a b:Int)(hop:30<=op/\op<=42)(ha:InV a)(hb:InV b):Con prog 228 [i64 op,i64 a,i64 b] (.tup [i64 (biV op a b),i64 0]):=by
 refine ze Tryz.func228 ntmps228 Tryz.results228 ?_;have e1:decide (op < 30)=false:=by simp;omega
 have e2:decide (42 < op)=false:=by simp;omega
 refine zY ?_;refine yaj 10 rfl (fun h=>by simp at h;omega) (fun _=>?_);refine zY ?_;refine yaj 14 rfl (fun h=>by simp at h;omega) (fun _=>?_)
 (repeat (first|refine zy ?_|refine zc (zcj ha) ?_|refine zc (zcj hb) ?_|refine zc (rapp_con op a b hop ha hb) ?_|refine zc (zys _) ?_))
 exact zp
end
section
open Go.RowKit
theorem zgf{l:List α}(hk:k<=l.length)(h:¬ k < l.length):l.take k=l:=qal om
theorem yyj(l:List Int)(hl:l.length<=1000):Con prog 269 [yai l] (i64 (xaz l)):=by
 refine ze Tryz.func269 ntmps269 Tryz.results269 ?_;refine zY ?_;refine ybj (α:=Nat) (fun k=>[(8,i64 k),(7,i64 l.length),(6,yai l),(3,i64 (xaz (l.take k)))]) (fun _=>[]) (fun k=>l.length - k) (fun k=>k<=l.length) 0 om zs zh ?_;intro k hk;have hc:=xca (l.take k);rw[qcj]at hc;refine zY ?_;refine zj ?_ ?_ <;> intro h
 .simp at h;obtain⟨a,ha⟩:=ybk h;refine zY ?_;refine zj ?_ ?_ <;> intro h2
  .simp at h2;refine zY ?_;refine rnd (k+1) om om (by rw[xat ha,zti,if_pos h2];exact zs) zh
  simp at h2;refine zY ?_;refine rnd (k+1) om om (by rw[xat ha,zti,if_neg (by simp[h2])];exact zs) zh
 simp at h;rw[zgf hk om];exact zkp
theorem zwk(l:List Int)(hl:l.length<=1000):Con prog 272 [yai l] (.tup [i64 (zcn l (-yfp,-yfp)).1,i64 (zcn l (-yfp,-yfp)).2]):=by
 refine ze Tryz.func272 ntmps272 Tryz.results272 ?_;refine zY ?_;refine ybj (α:=Nat) (fun k=>[(8,i64 k),(7,i64 l.length),(6,yai l),(2,i64 (zcn (l.take k) (-yfp,-yfp)).1),(3,i64 (zcn (l.take k) (-yfp,-yfp)).2)]) (fun _=>[]) (fun k=>l.length - k) (fun k=>k<=l.length) 0 om zs zh ?_;intro k hk;have hle:=xhq (l.take k) (-yfp,-yfp) (qgw _);refine zY ?_;refine zj ?_ ?_ <;> intro h
 .simp at h;obtain⟨a,ha⟩:=ybk h;have e:=zuu (l.take k) a (-yfp,-yfp);rw[two_step hle,<- xat ha]at e;refine zY ?_;refine zj ?_ ?_ <;> intro h2
  .simp at h2;rw[if_pos h2]at e;refine zY ?_;refine rnd (k+1) om om (by rw[e];exact zs) zh
  simp at h2;rw[if_neg om]at e;have e2:(if a > (zcn (l.take k) (-yfp,-yfp)).2 then a else(zcn (l.take k) (-yfp,-yfp)).2)=max (zcn (l.take k) (-yfp,-yfp)).2 a:=by split <;> omega
  refine zY ?_;rw[e2];refine rnd (k+1) om om (by rw[e];exact zs) zh
 simp at h;rw[zgf hk om];exact zkp
def xfv:List Int->Int->Nat->Int
 | [],_,_=>-1
 | b::l,a,k=>if a=b then k else xfv l a (k+1)
theorem xcu:∀ {l:List Int} {k i:Nat} {a:Int},l[i]?=some a->(∀ j b,j < i->l[j]?=some b->a≠b)->xfv l a k=((k+i:Nat):Int)
 | b::l,k,0,a,h,_=>by
  simp only[qas,Option.some.injEq]at h;subst h;simp[xfv]
 | b::l,k,i+1,a,h,hall=>by
  have hb:=hall 0 b om rfl;simp only[xfv,if_neg hb];rw[xcu (l:=l) (k:=k+1) (i:=i) (by simpa using h) (fun j c hj hc=>hall (j+1) c om (by simpa using hc))];rw[show k+1+i=k+(i+1) by omega]
theorem ztq:∀ {l:List Int} {k:Nat} {a:Int},(∀ b∈l,a≠b)->xfv l a k=-1
 | [],k,a,_=>rfl
 | b::l,k,a,h=>by
  simp only[xfv,if_neg (h b sm)];exact ztq fun c hc=>h c (by simp[hc])
theorem zjl{b:Int}(h:∀ j c,j < k->l[j]?=some c->a≠c)(hb:l[k]?=some b)(hn:a≠b):∀ j c,j < k+1->l[j]?=some c->a≠c:=by
 intro j c hj hc;by_cases e:j=k
 .subst e;rw[hb]at hc;cases hc;exact hn
 exact h j c om hc
theorem zqu(hk:l.length<=k)(h:∀ j c,j < k->l[j]?=some c->a≠c):∀ c∈l,a≠c:=by
 intro c hc;obtain⟨j,hj⟩:=qao hc;exact h j c (by have:=(qaa.1 hj).1;omega) hj
theorem indexI_con(l:List Int)(a:Int)(hl:l.length<=1000):Con prog 295 [yai l,i64 a] (i64 (xfv l a 0)):=by
 refine ze Tryz.func295 ntmps295 Tryz.results295 ?_;refine zY ?_;refine ybj (α:=Nat) (fun k=>[(8,i64 k),(7,i64 l.length),(0,yai l),(1,i64 a)]) (fun _=>[]) (fun k=>l.length - k) (fun k=>k<=l.length/\∀ j c,j < k->l[j]?=some c->a≠c) 0 ⟨om,fun j c hj=>absurd hj om⟩ zs zh ?_;intro k ⟨hk,hn⟩;refine zY ?_;refine zj ?_ ?_ <;> intro h
 .simp at h;obtain⟨b,hb⟩:=ybk h;refine zY ?_;refine zj ?_ ?_ <;> intro h2
  .simp at h2;subst h2;refine zk ?_;exact yad (by rw[xcu hb hn,qay])
  simp at h2;refine zY ?_;refine rnd (k+1) ⟨om,zjl hn hb h2⟩ om zs zh
 simp at h;refine zk ?_;exact yad (by rw[ztq (zqu om hn)])
theorem idxI_ge(l:List Int)(a:Int)(k:Nat):decide (0<=xfv l a k)=decide (a∈l):=by
 by_cases h:a∈l
 .rw [decide_eq_true h];apply decide_eq_true;induction l generalizing k with
  | nil=>cases h
  | cons b l ih=>
   simp only[xfv];split
   .omega
   exact ih _ ((qaq.1 h).resolve_left (by assumption))
 rw[ztq fun b hb e=>h (by rw[e];exact hb),decide_eq_false h];rfl
theorem contI_con(l:List Int)(a:Int)(hl:l.length<=1000):Con prog 289 [yai l,i64 a] (yau (decide (a∈l))):=by
 refine ze Tryz.func289 ntmps289 Tryz.results289 ?_
 (repeat (first|refine zy ?_|refine zc (indexI_con l a hl) ?_))
 refine zr ?_;exact yae (idxI_ge l a 0)
theorem emex_con(l:List Int)(hl:l.length<=1000):Con prog 273 [yai l] (i64 (zxp l (l.length+1) 0)):=by
 refine ze Tryz.func273 ntmps273 Tryz.results273 ?_;refine zY ?_;refine ybj (α:=Nat) (fun k=>[(0,yai l),(3,i64 k)]) (fun _=>[]) (fun k=>l.length+1 - k) (fun k=>∀ j,j < k->((j:Nat):Int)∈l) 0 (fun j hj=>absurd hj om) zs zh ?_;intro k hk;have hb:=yyy k l hk
 (repeat (first|refine zy ?_|refine zc (contI_con l k hl) ?_))
 refine zj ?_ ?_ <;> intro h
 .have hm:=of_decide_eq_true h;have hk1:∀ j,j < k+1->((j:Nat):Int)∈l:=fun j hj=>by
   by_cases e:j=k
   .subst e;exact hm
   exact hk j om
  have hb1:=yyy (k+1) l hk1;refine zY ?_;refine rnd (k+1) hk1 om zs zh
 have hm:=of_decide_eq_false h;refine zk ?_;exact yad (by rw[xdf hk,zxq hm])
theorem fold1_con(a:Int):Con prog 271 [i64 a] (yau (a != 0)):=by
 refine ze Tryz.func271 ntmps271 Tryz.results271 ?_;exact zkp
theorem indexF_con(l:List Int)(hl:l.length<=1000):Con prog 270 [yai l,.fn 271 []] (i64 (zax l 0)):=by
 refine ze Tryz.func270 ntmps270 Tryz.results270 ?_;refine zY ?_;refine ybj (α:=Nat) (fun k=>[(8,i64 k),(7,i64 l.length),(0,yai l),(1,.fn 271 [])]) (fun _=>[]) (fun k=>l.length - k) (fun k=>k<=l.length/\∀ j b,j < k->l[j]?=some b->b=0) 0 ⟨om,fun j c hj=>absurd hj om⟩ zs zh ?_;intro k ⟨hk,hn⟩;refine zY ?_;refine zj ?_ ?_ <;> intro h
 .simp at h;obtain⟨b,hb⟩:=ybk h
  (repeat (first|refine zy ?_|refine zc (fold1_con b) ?_))
  refine zj ?_ ?_ <;> intro h2
  .simp at h2;refine zk ?_;exact yad (by rw[zwx hb h2 hn,qay])
  simp at h2;refine zY ?_;refine rnd (k+1) ⟨om,fun j c hj hc=>?_⟩ om zs zh;by_cases e:j=k
  .subst e;rw[hb]at hc;cases hc;exact h2
  exact hn j c om hc
 simp at h;refine zk ?_;exact yad (by rw[zbr fun a ha=>by
  obtain⟨j,hj⟩:=qao ha
  exact hn j a (by have:=(qaa.1 hj).1;omega) hj])
end
section
open Go.RowKit
theorem efold_con(op:Int)(l:List Int)(hop:20<=op/\op<=29)(hl:l.length<=1000)(hin:∀ a∈l,InV a):Con prog 247 [i64 op,yai l] (i64 (ztl op l)):=by
 refine ze Tryz.func247 ntmps247 Tryz.results247 ?_;have:op=20\/op=21\/op=22\/op=23\/op=24\/op=25\/op=26\/op=27\/op=28\/op=29:=by omega
 rcases this with rfl|rfl|rfl|rfl|rfl|rfl|rfl|rfl|rfl|rfl
 ·(repeat (first|refine zy ?_|refine zc (yyj l hl) ?_|refine zc (yfr _) ?_))
  refine zr ?_;exact yad (by show _=ypr _;congr 1;rw[qbw];simp;omega)
 ·(repeat (first|refine zy ?_|refine zc (yyj l hl) ?_|refine zc (yfr _) ?_))
  refine zr ?_;exact yad (by show _=ypr _;congr 1;rw[qbw];simp)
 ·(repeat (first|refine zy ?_|refine zc (yyj l hl) ?_))
  refine zr ?_;exact yad rfl
 ·(repeat (first|refine zy ?_|refine zc (indexF_con l hl) ?_))
  refine zr ?_;exact yad rfl
 .refine zY ?_;refine ybj (α:=Nat) (fun k=>[(42,i64 k),(41,i64 l.length),(40,yai l),(5,i64 (ypo (l.take k)))]) (fun _=>[]) (fun k=>l.length - k) (fun k=>k<=l.length) 0 om zs zh ?_;intro k hk;refine zY ?_;refine zj ?_ ?_ <;> intro h
  .simp at h;obtain⟨a,ha⟩:=ybk h;have e2:(if a < ypo (l.take k)then a else ypo (l.take k))=ypo (l.take (k+1)):=by rw[xat ha,zqd];split <;> omega
   refine zY ?_;rw[e2];refine rnd (k+1) om om zs zh
  simp at h;rw[zgf hk om];refine zk ?_;exact yad rfl
 ·(repeat (first|refine zy ?_|refine zc (zwk l hl) ?_))
  refine zr ?_;exact yad (by rw[zgi];rfl)
 .refine zY ?_;refine ybj (α:=Nat) (fun k=>[(63,i64 k),(62,i64 l.length),(61,yai l),(10,i64 (l.take k).sum)]) (fun _=>[]) (fun k=>l.length - k) (fun k=>k<=l.length) 0 om zs zh ?_;intro k hk;have hs:=xfa (l:=l.take k) fun a ha=>hin a (qcv ha);rw[qcj]at hs;unfold yfp at hs;refine zY ?_;refine zj ?_ ?_ <;> intro h
  .simp at h;obtain⟨a,ha⟩:=ybk h;have hai:=hin a (qab ha);unfold InV yfp at hai;refine zY ?_;refine rnd (k+1) om om (by rw[xat ha,xez];exact zs) zh
  simp at h;rw[zgf hk om]
  (repeat (first|refine zy ?_|refine zc (yrz _) ?_))
  refine zr ?_;exact yad rfl
 ·(repeat (first|refine zy ?_|refine zc (emex_con l hl) ?_))
  refine zr ?_;exact yad rfl
 ·(repeat (first|refine zy ?_|refine zc (zwk l hl) ?_))
  refine zr ?_;exact yad rfl
 refine zY ?_;cases l with
 | nil=>
  refine zk ?_;exact yad rfl
 | cons a l=>
  refine zY ?_;refine yng tok rfl rfl rfl om (rfl) rfl rfl ?_;refine zk ?_;exact yad rfl
theorem roccurs_con(l:List Int)(a:Int)(hl:l.length<=1000):Con prog 254 [yai l,i64 a] (yau (decide (a∈l))):=by
 refine ze Tryz.func254 ntmps254 Tryz.results254 ?_;refine zY ?_;refine ybj (α:=Nat) (fun k=>[(5,i64 k),(0,yai l),(1,i64 a)]) (fun _=>[]) (fun k=>l.length - k) (fun k=>k<=l.length/\∀ j c,j < k->l[j]?=some c->a≠c) 0 ⟨om,fun j c hj=>absurd hj om⟩ zs zh ?_;intro k ⟨hk,hn⟩;refine zY ?_;refine zj ?_ ?_ <;> intro h
 .simp at h;obtain⟨b,hb⟩:=ybk h;refine zY ?_;refine zj ?_ ?_ <;> intro h2
  .simp at h2;subst h2;refine zk ?_;exact yae (decide_eq_true (qab hb)).symm
  simp at h2;refine zY ?_;refine rnd (k+1) ⟨om,zjl hn hb (fun e=>h2 e.symm)⟩ om zs zh
 simp at h;have hno:=zqu om hn;refine zk ?_;exact yae (decide_eq_false fun hm=>hno a hm rfl).symm
def xnf(l:List Int)(k:Nat):List (Nat × AV):=[(11,i64 k),(1,yai l),(5,i64 (xaz (l.take k))),(6,i64 (zax (l.take k) 0)),(7,i64 (ypo (l.take k))),(8,i64 (ynx (l.take k))),(9,i64 (zcn (l.take k) (-yfp,-yfp)).2),(10,i64 (l.take k).sum)]
theorem acc_step(ha:l[k]?=some a):
  xaz (l.take (k+1))=xaz (l.take k)+(if a≠0 then 1 else 0)/\zax (l.take (k+1)) 0=(if 0<=zax (l.take k) 0 then zax (l.take k) 0 else if a≠0 then(k:Int)else -1) /\
  ypo (l.take (k+1))=(if a < ypo (l.take k)then a else ypo (l.take k))/\ynx (l.take (k+1))=(if a > ynx (l.take k)then a else ynx (l.take k)) /\
  (zcn (l.take (k+1)) (-yfp,-yfp)).2=(if (if a < ynx (l.take k)then a else ynx (l.take k)) > (zcn (l.take k) (-yfp,-yfp)).2 then(if a < ynx (l.take k)then a else ynx (l.take k))else(zcn (l.take k) (-yfp,-yfp)).2) /\
  (l.take (k+1)).sum=(l.take k).sum+a:=by
 have hk:k<=l.length:=by have:=(qaa.1 ha).1;omega
 have hlen:(l.take k).length=k:=by rw[qcj];omega
 rw[xat ha,zti,xco,zqd,great_app,zuu,xez,zgi,hlen,qay];refine⟨rfl,rfl,?_,?_,?_,rfl⟩
 .split <;> omega
 .split <;> omega
 show max _ (min (ynx (l.take k)) a)=_
 repeat' split
 all_goals omega
theorem rfold_con(op:Int)(l:List Int)(hop:20<=op/\op<=29)(hl:l.length<=1000)(hin:∀ a∈l,InV a):Con prog 226 [i64 op,yai l] (i64 (ztl op l)):=by
 refine ze Tryz.func226 ntmps226 Tryz.results226 ?_;refine zY ?_;refine ybj (α:=Nat) (fun k=>(0,i64 op)::xnf l k) (fun _=>[]) (fun k=>l.length - k) (fun k=>k<=l.length) 0 om zs zh ?_;intro k hk;have hs:=xfa (l:=l.take k) fun a ha=>hin a (qcv ha);have hc:=xca (l.take k);rw[qcj]at hs hc;unfold yfp at hs;unfold xnf;refine zY ?_;refine zj ?_ ?_ <;> intro h
 .simp at h;obtain⟨a,ha⟩:=ybk h;have hai:=hin a (qab ha);unfold InV yfp at hai;obtain⟨s1,s2,s3,s4,s5,s6⟩:=acc_step ha;refine zY ?_;refine zj ?_ ?_ <;> intro h2
  .simp at h2;rw[if_pos h2]at s1;rw[if_pos h2]at s2;refine zY ?_;refine yaj 31 rfl (fun _=>?_) (fun h=>absurd h2 (by simpa using h));refine zY ?_;refine zj ?_ ?_ <;> intro h3
   .simp at h3;rw[if_neg om]at s2;refine zY ?_;refine rnd (k+1) om om (by rw[s1,s2,s3,s4,s5,s6];exact zs) zh
   simp at h3;rw[if_pos h3]at s2;refine zY ?_;refine rnd (k+1) om om (by rw[s1,s2,s3,s4,s5,s6];exact zs) zh
  simp at h2;rw[if_neg (by simp[h2])]at s1;have s2:zax (l.take (k+1)) 0=zax (l.take k) 0:=by
   rw[s2,if_neg (c:=a≠0) (by simp[h2])];split
   .rfl
   rcases zwy (l.take k) 0 with e|e <;> omega
  refine zY ?_;refine yaj 31 rfl (fun h=>absurd h2 (by simpa using h)) (fun _=>?_);refine zY ?_;refine rnd (k+1) om om (by rw[s1,s2,s3,s4,s5,s6];exact zs) zh
 simp at h;rw[zgf hk om];have:op=20\/op=21\/op=22\/op=23\/op=24\/op=25\/op=26\/op=27\/op=28\/op=29:=by omega
 rcases this with rfl|rfl|rfl|rfl|rfl|rfl|rfl|rfl|rfl|rfl
 ·(repeat (first|refine zy ?_|refine zc (ydf _) ?_))
  refine zr ?_;exact yad (by show _=ypr _;congr 1;rw[qbw];simp;omega)
 ·(repeat (first|refine zy ?_|refine zc (ydf _) ?_))
  refine zr ?_;exact yad (by show _=ypr _;congr 1;rw[qbw];simp)
 .refine zk ?_;exact yad rfl
 .refine zk ?_;exact yad rfl
 .refine zk ?_;exact yad rfl
 .refine zk ?_;exact yad rfl
 ·(repeat (first|refine zy ?_|refine zc (zys _) ?_))
  refine zr ?_;exact yad rfl
 .refine zY ?_;refine ybj (α:=Nat) (fun k=>[(1,yai l),(12,i64 k)]) (fun _=>[]) (fun k=>l.length+1 - k) (fun k=>∀ j,j < k->((j:Nat):Int)∈l) 0 (fun j hj=>absurd hj om) zs zh ?_;intro q hq;have hb:=yyy q l hq
  (repeat (first|refine zy ?_|refine zc (roccurs_con l q hl) ?_))
  refine zj ?_ ?_ <;> intro h4
  .have hm:=of_decide_eq_true h4;have hk1:∀ j,j < q+1->((j:Nat):Int)∈l:=fun j hj=>by
    by_cases e:j=q
    .subst e;exact hm
    exact hq j om
   have hb1:=yyy (q+1) l hk1;refine zY ?_;refine rnd (q+1) hk1 om zs zh
  have hm:=of_decide_eq_false h4;refine zk ?_;exact yad (by rw[show ztl 27 l=((zxp l (l.length+1) 0:Nat):Int) from rfl,xdf hq,zxq hm])
 .refine zk ?_;exact yad rfl
 cases l with
 | nil=>
  refine zk ?_;exact yad rfl
 | cons a l=>
  refine zY ?_;refine yng tok rfl rfl rfl om (rfl) rfl rfl ?_;refine zk ?_;exact yad rfl
end
section
open Go.RowKit
def ydv(g:GraphD)(v:Nat)(ls:List Lk):List Int:=ls.map fun l=>ykd (g.ports.getD l.1.toNat []) v
def ypi(g:GraphD):List (List Int):=g.ports.mapIdx fun v ls=>ydv g v ls
def zck(p:ProgD)(g:GraphD):List AV:=[ykp p.name,.sl 6 (p.vars.map ybl),.sl 3 (p.rules.map ybc),yai g.ids,yaq g.ports,i64 (yca g.ids),ycj (ypi g)]
def zjq(p:ProgD)(g:GraphD):AV:=.dp (zck p g) 0
theorem backs_get(h:g.ports[v]?=some ls):(ypi g)[v]?=some (ydv g v ls):=by simp[ypi,h]
theorem back_get{ls':List Lk}{l:Lk}(h:ls[k]?=some l)(h':g.ports[l.1.toNat]?=some ls'):(ydv g v ls)[k]?=some (ykd ls' v):=by
 simp[ydv,h,h']
def zuw(p:ProgD)(g:GraphD)(c:List (List Int))(v:Nat)(e:List Tm):AV:=.dp [zjq p g,ycj c,i64 v,ybr e] 0
end
section
open Go.RowKit
theorem fact_con(p:ProgD)(g:GraphD)(hg:ycf g=true)(c:List (List Int))(v:Nat)(ls:List Lk)(hls:g.ports[v]?=some ls)(op port a:Int)(hop:6<=op/\op<=17/\op≠12)(hp:12<=op->0<=port/\port < ls.length) :
  Con prog 245 [zjq p g,i64 op,i64 v,i64 port] (i64 ((⟨g,c,v⟩:Scn).leaf port (op,a))):=by
 have hv:=ybe hg;have hvl:=(qaa.1 hls).1;have hlb:=hv.2.2.2.2.2.1 v ls hls;have hll:=yde hvl hlb;have hids:=hv.2.2.1;obtain⟨id,hid⟩:=ybk (show v < g.ids.length by omega);have hd:(⟨g,c,v⟩:Scn).deg=ls.length:=by simp[Scn.deg,hls]
 refine ze Tryz.func245 ntmps245 Tryz.results245 ?_;have:op=6\/op=7\/op=8\/op=9\/op=10\/op=11\/12 < op:=by omega
 rcases this with rfl|rfl|rfl|rfl|rfl|rfl|h12
 .refine zY ?_;refine zr ?_;exact yad rfl
 .refine zY ?_;refine zr ?_;exact yad rfl
 .refine zY ?_;refine zr ?_;exact yad (by simp[Scn.leaf,hid])
 .refine zY ?_;refine zr ?_;exact yad (by simp[Scn.leaf,hd])
 ·(repeat (first|refine zy ?_|refine zc (yfr _) ?_))
  refine zr ?_;exact yad (by simp only[Scn.leaf];show ypr ((v:Int) == 0)=ypr (v == 0);congr 1;rw[qbw,beq_iff_eq,beq_iff_eq];omega)
 .refine zY ?_;refine zr ?_;exact yad rfl
 obtain⟨hp0,hp1⟩:=hp om;obtain⟨l,hl⟩:=ybk (show port.toNat < ls.length by omega);have hl1:=(ybv _ _ _).1 (((ycq _ _ _).1 hlb).1 l (qab hl));have hlk:(⟨g,c,v⟩:Scn).link port=l:=by simp[Scn.link,hls,hl]
 obtain⟨ls',hls'⟩:=ybk (show l.1.toNat < g.ports.length by omega);obtain⟨id',hid'⟩:=ybk (show l.1.toNat < g.ids.length by omega);have hll':=yde (show l.1.toNat < g.ports.length by omega) (hv.2.2.2.2.2.1 _ ls' hls');have hb1:=backs_get hls;have hb2:=back_get (g:=g) (v:=v) hl hls';have:op=13\/op=14\/op=15\/op=16\/op=17:=by omega
 rcases this with rfl|rfl|rfl|rfl|rfl
 .refine zY ?_;refine zr ?_;exact yad (by simp[Scn.leaf,hlk,hid'])
 .refine zY ?_;refine zr ?_;exact yad (by simp[Scn.leaf,hlk,hls'])
 ·(repeat (first|refine zy ?_|refine zc (yfr _) ?_))
  refine zr ?_;exact yad (by simp[Scn.leaf,hlk])
 .refine zY ?_;refine zr ?_;exact yad (by simp[Scn.leaf,hlk])
 refine zY ?_;refine zr ?_;exact yad (by simp[Scn.leaf,hlk,hls'])
theorem wleaf_con(p:ProgD)(g:GraphD)(hg:ycf g=true)(c:List (List Int))(e:List Tm)(v:Nat)(ls:List Lk)(hls:g.ports[v]?=some ls)(t:Tm)(port:Int)(hop:1<=t.1/\t.1<=17)(hp:12<=t.1->0<=port/\port < ls.length)
  (hc:c.length=g.ports.length) (hx:t.1=5\/t.1=12->0<=t.2/\∀ r∈c,t.2 < r.length) :
  Con prog 219 [zuw p g c v e,.agg [i64 t.1,i64 t.2],i64 port] (i64 ((⟨g,c,v⟩:Scn).leaf port t)):=by
 obtain⟨op,a⟩:=t;simp only at hop hp hx ⊢;have hv:=ybe hg;have hvl:=(qaa.1 hls).1;have hlb:=hv.2.2.2.2.2.1 v ls hls;have hll:=yde hvl hlb;obtain⟨r,hr⟩:=ybk (show v < c.length by omega);refine ze Tryz.func219 ntmps219 Tryz.results219 ?_;have:op=1\/op=2\/op=3\/op=4\/op=5\/op=12\/(6<=op/\op<=17/\op≠12):=by omega
 rcases this with rfl|rfl|rfl|rfl|rfl|rfl|h12
 .refine zY ?_;refine zr ?_;exact yad rfl
 .refine zY ?_;refine zr ?_;exact yad rfl
 .refine zY ?_;refine zr ?_;exact yad rfl
 .refine zY ?_;refine zr ?_;exact yad rfl
 .obtain ⟨hx0,hx1⟩:=hx (.inl rfl);have hx2:=hx1 r (qab hr);obtain⟨z,hz⟩:=ybk (show a.toNat < r.length by omega);refine zY ?_;refine zr ?_;exact yad (by simp[Scn.leaf,Scn.get,hr,hz])
 .obtain ⟨hp0,hp1⟩:=hp om;obtain⟨l,hl⟩:=ybk (show port.toNat < ls.length by omega);have hl1:=(ybv _ _ _).1 (((ycq _ _ _).1 hlb).1 l (qab hl));have hlk:(⟨g,c,v⟩:Scn).link port=l:=by simp[Scn.link,hls,hl]
  obtain⟨r',hr'⟩:=ybk (show l.1.toNat < c.length by omega);obtain⟨hx0,hx1⟩:=hx (.inr rfl);have hx2:=hx1 r' (qab hr');obtain⟨z,hz⟩:=ybk (show a.toNat < r'.length by omega);refine zY ?_;refine zr ?_;exact yad (by simp[Scn.leaf,Scn.get,hlk,hr',hz])
 have h1:¬ op=1:=by omega
 have h2:¬ op=2:=by omega
 have h3:¬ op=3:=by omega
 have h4:¬ op=4:=by omega
 have h5:¬ op=5:=by omega
 refine zY ?_;refine zj ?_ ?_ <;> intro q1
 .exact absurd (by simpa using q1) h1
 refine zY ?_;refine zj ?_ ?_ <;> intro q2
 .exact absurd (by simpa using q2) h2
 refine zY ?_;refine zj ?_ ?_ <;> intro q3
 .exact absurd (by simpa using q3) h3
 refine zY ?_;refine zj ?_ ?_ <;> intro q4
 .exact absurd (by simpa using q4) h4
 refine zY ?_;refine zj ?_ ?_ <;> intro q5
 .exact absurd (by simpa using q5) h5
 refine zY ?_;refine zj ?_ ?_ <;> intro q6
 .exact absurd (by simpa using q6) h12.2.2
 (repeat (first|refine zy ?_|refine zc (fact_con p g hg c v ls hls op port a h12 hp) ?_))
 refine zr ?_;exact yad rfl
end
section
open Go.RowKit
theorem tend_con(l:List Tm)(k:Nat)(E:Ex)(r:List Tm)(hl:l.length<=1000)(hk:k<=1000)(hE:l.drop k=E.fl++r)(ho:E.ok):Con prog 163 [ybr l,i64 k] (i64 ((k+E.fl.length:Nat):Int)):=
 ymp ⟨_,Tryz.func163,rfl,rfl⟩ fun w us ok hok hr=>by
  obtain⟨u,v,rfl,h1,h2⟩:=zfn hr;cases h2;have e:ysx 1 k l=((k+E.fl.length:Nat):Int):=by
   unfold ysx;rw[hE,ztk E ho 0 r,yqj];simp
  rw[<- e];exact(zpf u l k w hl (Lib.hid (yrk h1 hok)) hk).mono fun e w' ⟨h1,h2⟩=>⟨h1,h2 ▸ Below.refl _ _⟩
theorem yot{l:List α}{t:α}{r:List α}(h:l.drop k=t::r):l[k]?=some t/\l.drop (k+1)=r/\k < l.length:=by
 have h1:l[k]?=some t:=by
  have:=congrArg (fun l=>l[0]?) h;simpa using this
 exact⟨h1,by rw[<- qhq,h];rfl,(qaa.1 h1).1⟩
theorem yyi{l:List α}{a r:List α}(h:l.drop k=a++r):l.drop (k+a.length)=r:=by
 rw[<- qgq,h,List.drop_left]
structure WalkOk (p:ProgD) (g:GraphD) (c:List (List Int)) (v:Nat) (ls:List Lk) (e:List Tm) (n:Int):Prop where
 hg:ycf g=true
 hls:g.ports[v]?=some ls
 hc:c.length=g.ports.length
 hr:∀ r∈c,n<=r.length
 he:e.length<=1000
 ha:∀ t∈e,yvb n t=true
 ok:ScnOk ⟨g,c,v⟩
theorem zkt{t:Tm}(h:yvb n t=true):t.1=5\/t.1=12->0<=t.2/\t.2 < n:=by
 intro ht;unfold yvb at h;rcases ht with e|e <;> simp[e]at h <;> omega
theorem wagg_con{e:List Tm}(W:WalkOk p g c v ls e n)(t:Tm)(a:Ex)(k:Nat)(r:List Tm)(hE:e.drop k=t::(a.fl++r))(ht:20<=t.1/\t.1<=29)(hoa:a.ok)(hin:∀ j:Nat,j < ls.length->InV ((⟨g,c,v⟩:Scn).val j a))(H:∀ j:Nat,j < ls.length->Con prog 169 [zuw p g c v e,i64 ((k:Int)+1),i64 j] (.tup [i64 ((⟨g,c,v⟩:Scn).val j a),i64 ((k+1+a.fl.length:Nat):Int)])):
  Con prog 221 [zuw p g c v e,i64 t.1,i64 k] (.tup [i64 (ztl t.1 ((List.range ls.length).map fun j:Nat=>(⟨g,c,v⟩:Scn).val j a)),i64 ((k+1+a.fl.length:Nat):Int)]):=by
 have hv:=ybe W.hg;have hls:=W.hls;have hvl:=(qaa.1 hls).1;have hlb:=hv.2.2.2.2.2.1 v ls hls;have hll:=yde hvl hlb;have hll24:ls.length<=24:=(W.ok.links ls (qab hls)).1;have he:=W.he;obtain⟨hk1,hk2,hk3⟩:=yot hE;have hk4:k+1+a.fl.length<=e.length:=by
  have:=congrArg List.length hk2;rw[qdj,qan]at this;omega
 let f:Nat->Int:=fun j=>(⟨g,c,v⟩:Scn).val j a
 refine ze Tryz.func221 ntmps221 Tryz.results221 ?_;refine zY ?_;refine ybj (α:=Nat) (fun j=>[(27,i64 j),(26,i64 ls.length),(9,i64 ls.length),(8,.lp 8 0),(7,i64 (if j=0 then 0 else((k+1+a.fl.length:Nat):Int))),(0,zuw p g c v e),(1,i64 t.1),(2,i64 k)]) (fun j=>[(8,some (.cells ((yvd f 24 j).map i64)))]) (fun j=>ls.length - j) (fun j=>j<=ls.length) 0 om zs zh ?_;intro j hj;refine zY ?_;refine zj ?_ ?_ <;> intro h
 .simp at h
  (repeat (first|refine zy ?_|refine zc (H j h) ?_))
  refine yiz tok rfl rfl (by rw[ybb];rfl) (by intro h0;have:=congrArg List.length h0;simp[yya (show j<=24 by omega)]at this) rfl om om rfl rfl ?_;refine zkq tok rfl rfl rfl rfl rfl ybb (by simp[yya (show j<=24 by omega)];omega) rfl rfl ?_;refine xfm (h':=[(8,some (.cells ((yvd f 24 (j+1)).map i64)))]) ?_ ?_
  .rw [yhg,show (0+(j:Int).toNat * 1)=j by simp];have:=xbs (f:=f) (show j < 24 by omega);rw[<- this]
  refine zY ?_;exact rnd (j+1) om om zs zh
 simp at h;obtain rfl:j=ls.length:=by omega
 refine zY ?_;refine yzn [(9,i64 ls.length),(8,.lp 8 0),(7,i64 ((k+1+a.fl.length:Nat):Int)),(0,zuw p g c v e),(1,i64 t.1),(2,i64 k)] [(8,some (.cells ((yvd f 24 ls.length).map i64)))] ?_ ?_
 .refine zj ?_ ?_ <;> intro h0
  .simp at h0
   (repeat (first|refine zy ?_|refine zc (tend_con e k (.un t a) r he om (by rw[hE];rfl) ⟨by unfold ar;rw[if_neg om,if_neg om,if_pos om],hoa⟩) ?_))
   refine mid ?_ zh;refine yan rfl (yan rfl (yan (yes rfl (yka ?_)) zs));simp[Ex.fl];omega
  have h0:¬ ls=[]:=by simpa using h0
  refine zY ?_;refine mid ?_ zh;refine yan rfl (yan rfl (yan (yes rfl (yka ?_)) zs));rw[if_neg (by intro e9;exact h0 (List.length_eq_zero_iff.1 e9))]
 refine zt ?_;refine A_freezeBoxS 8 rfl (zjm _) rfl rfl ?_;have hlen:((List.range ls.length).map f).length=ls.length:=by simp
 (repeat (first|refine zy ?_|refine L_arrslice tok rfl rfl rfl (by simp[yya hll24]) dc om om rfl rfl ?_|refine yno 51 (y:=yai ((List.range ls.length).map f)) rfl (by rw[qcl,arr_take];rfl) ?_|refine zc (efold_con t.1 ((List.range ls.length).map f) ht (by rw[hlen];omega) (fun x hx=>by obtain⟨j,hj,rfl⟩:=qag.1 hx;exact hin j (qbt.1 hj))) ?_))
 refine zr ?_;exact Frz.tup2 (yad rfl) (yad rfl)
end
section
open Go.RowKit
def zqc:Ex->List Ex
 | .lf _=>[]
 | .un _ a=>[a]
 | .bi _ a b=>[a,b]
 | .tr _ a b c=>[a,b,c]
def hd:Ex->Tm
 | .lf t=>t
 | .un t _=>t
 | .bi t _ _=>t
 | .tr t _ _ _=>t
theorem ypn(kinds:List Int)(hk:ygv kinds=true)(bound:Bool)(E A:Ex)(h:E.ok)(hA:A∈zqc E)(ht:ty kinds bound E≠0):ty kinds (bound || yja (hd E).1) A≠0:=by
 cases E with
 | lf t=>simp[zqc]at hA
 | un t a=>
  simp only[zqc,qau]at hA;subst hA;exact(xhr _ _).2.2 ht
 | bi t a b=>
  have hg:yja t.1=false:=ytg (by have:=h.1;omega);simp only[hd,hg,qdm];have:=(xhs _ _ _).2.2 ht;simp only[zqc,qaq,qeb,or_false]at hA;rcases hA with rfl|rfl
  .exact this.1
  exact this.2
 | tr t a b c=>
  have hg:yja t.1=false:=ytg (by have:=h.1;omega);simp only[hd,hg,qdm];have:=(xht _ _ _ (ty_bd kinds hk b bound)).2.2 ht;simp only[zqc,qaq,qeb,or_false]at hA;rcases hA with rfl|rfl|rfl
  .exact this.1
  .exact this.2.1
  exact this.2.2
end
section
open Go.RowKit
theorem xng(h:ar op=0):1<=op/\op<=17:=by unfold ar at h;repeat' split at h <;> omega
theorem xnh(h:ar op=1):18<=op/\op<=29:=by unfold ar at h;repeat' split at h <;> omega
theorem xni(h:ar op=2):30<=op/\op<=42:=by unfold ar at h;repeat' split at h <;> omega
theorem xnj(h:ar op=3):op=43:=by unfold ar at h;repeat' split at h <;> omega
theorem yqd:yja op=true<->20<=op/\op<=29:=by simp[yja]
theorem yeg{e:List Tm}{a r:List Tm}(h:e.drop k=a++r):∀ t∈a,t∈e:=fun t ht=>by
 have:t∈e.drop k:=by rw[h];simp[ht]
 exact qdn this
theorem zmq{n:Nat}(h:ls.length<=24){j:Nat}(hj:j < ls.length):InV (j:Int):=by unfold InV yfp;omega
theorem ynf{p:ProgD}{g:GraphD}{c:List (List Int)}{v:Nat}{ls:List Lk}{e:List Tm}{n:Int}(W:WalkOk p g c v ls e n){kinds:List Int}(hk:ygv kinds=true):∀ (E:Ex),E.ok->∀ (k:Nat) (r:List Tm) (b:Bool) (port:Int),e.drop k=E.fl++r->ty kinds b E≠0->InV port->(b=true->0<=port/\port < ls.length) ->
  Con prog 169 [zuw p g c v e,i64 k,i64 port] (.tup [i64 ((⟨g,c,v⟩:Scn).val port E),i64 ((k+E.fl.length:Nat):Int)])
 | .lf t,ho,k,r,b,port,hE,ht,hp,hb=>by
  obtain⟨hk1,hk2,hk3⟩:=yot (show e.drop k=t::r from hE);have he:=W.he;have h17:=xng ho;have hnear:12<=t.1->0<=port/\port < ls.length:=fun h12=>hb (by
   cases b with
   | true=>rfl
   | false=>exact absurd (by simp only[ty];simp[zqs,h17.2];omega) ht)
  have hm:t∈e:=qab hk1;refine ze Tryz.func169 ntmps169 Tryz.results169 ?_;refine zY ?_;refine zj ?_ ?_ <;> intro h
  ·(repeat (first|refine zy ?_|refine zc (wleaf_con p g W.hg c e v ls W.hls t port h17 hnear W.hc (fun hx=>⟨(zkt (W.ha t hm) hx).1,fun r hr=>by have:=(zkt (W.ha t hm) hx).2;have:=W.hr r hr;omega⟩)) ?_))
   refine zr ?_;exact Frz.tup2 (yad rfl) (yad (by simp[Ex.fl]))
  exact absurd (by simpa using h) om
 | .un t a,ho,k,r,b,port,hE,ht,hp,hb=>by
  obtain⟨hk1,hk2,hk3⟩:=yot (show e.drop k=t::(a.fl++r) from hE);have he:=W.he;have h17:=xnh ho.1;have hlen:(Ex.un t a).fl.length=1+a.fl.length:=by simp[Ex.fl];omega
  have hka:=ypn kinds hk b (.un t a) a ho (by simp[zqc]) ht;have hd24:ls.length<=24:=(W.ok.links ls (qab W.hls)).1;have hdeg:(⟨g,c,v⟩:Scn).deg=ls.length:=by simp[Scn.deg,W.hls]
  refine ze Tryz.func169 ntmps169 Tryz.results169 ?_;refine zY ?_;refine zj ?_ ?_ <;> intro q1
  .exact absurd (by simpa using q1) (show ¬ t.1<=17 by omega)
  refine zY ?_;refine zj ?_ ?_ <;> intro q2
  .have hna:yja t.1=false:=by cases h:yja t.1 with
    | false=>rfl
    | true=>exact absurd (yqd.1 h).1 (by simp at q2;omega)
   have ih:=ynf W hk a ho.2 (k+1) r b port hk2 (by simpa[hd,hna]using hka) hp hb;rw[show ((k+1:Nat):Int)=(k:Int)+1 by omega]at ih;have hin:InV ((⟨g,c,v⟩:Scn).val port a):=yro W.ok a (fun x hx=>W.ha x (yeg hk2 x hx)) hp
   (repeat (first|refine zz ?_|refine zc (eun_con _ _ hin) ?_))
   refine zr ?_;exact Frz.tup2 (yad (by simp only[Scn.val];rw[if_neg (by simp[hna])])) (yad (by rw[hlen];omega))
  refine zY ?_;have q2:¬ t.1<=19:=by simpa using q2
  refine zj ?_ ?_ <;> intro q3
  .have hag:yja t.1=true:=yqd.2 om;have hka:ty kinds true a≠0:=by simpa[hd,hag]using hka
   have H:∀ j:Nat,j < ls.length->Con prog 169 [zuw p g c v e,i64 ((k:Int)+1),i64 j] (.tup [i64 ((⟨g,c,v⟩:Scn).val j a),i64 ((k+1+a.fl.length:Nat):Int)]):=fun j hj=>by
    have ih:=ynf W hk a ho.2 (k+1) r true (j:Int) hk2 hka (zmq (n:=0) hd24 hj) (fun _=>⟨om,om⟩)
    rwa [show ((k+1:Nat):Int)=(k:Int)+1 by omega]at ih
   have hin:∀ j:Nat,j < ls.length->InV ((⟨g,c,v⟩:Scn).val j a):=fun j hj=>yro W.ok a (fun x hx=>W.ha x (yeg hk2 x hx)) (zmq (n:=0) hd24 hj)
   (repeat (first|refine zy ?_|refine zc (wagg_con W t a k r hE om ho.2 hin H) ?_))
   refine zr ?_;exact Frz.tup2 (yad (by simp only[Scn.val];rw[if_pos hag,hdeg])) (yad (by rw[hlen];omega))
  exact absurd (by simpa using q3) (show ¬ ¬ t.1<=29 by omega)
 | .bi t a d,ho,k,r,b,port,hE,ht,hp,hb=>by
  obtain⟨hk1,hk2,hk3⟩:=yot (show e.drop k=t::(a.fl++(d.fl++r)) by rw[hE];simp[Ex.fl]);have he:=W.he;have h17:=xni ho.1;have hna:yja t.1=false:=by cases h:yja t.1 with|false=>rfl|true=>have:=yqd.1 h;omega
  have hlen:(Ex.bi t a d).fl.length=1+a.fl.length+d.fl.length:=by simp[Ex.fl];omega
  have hka:=ypn kinds hk b (.bi t a d) a ho (by simp[zqc]) ht;have hkd:=ypn kinds hk b (.bi t a d) d ho (by simp[zqc]) ht;simp only[hd,hna,qdm]at hka hkd;have hk4:=yyi hk2;have ih1:=ynf W hk a ho.2.1 (k+1) _ b port hk2 hka hp hb;have ih2:=ynf W hk d ho.2.2 (k+1+a.fl.length) r b port hk4 hkd hp hb;rw[show ((k+1:Nat):Int)=(k:Int)+1 by omega]at ih1;have hin1:InV ((⟨g,c,v⟩:Scn).val port a):=yro W.ok a (fun x hx=>W.ha x (yeg hk2 x hx)) hp;have hin2:InV ((⟨g,c,v⟩:Scn).val port d):=yro W.ok d (fun x hx=>W.ha x (yeg hk4 x hx)) hp;refine ze Tryz.func169 ntmps169 Tryz.results169 ?_;refine zY ?_;refine zj ?_ ?_ <;> intro q1
  .exact absurd (by simpa using q1) (show ¬ t.1<=17 by omega)
  refine zY ?_;refine zj ?_ ?_ <;> intro q2
  .exact absurd (by simpa using q2) (show ¬ t.1<=19 by omega)
  refine zY ?_;refine zj ?_ ?_ <;> intro q3
  .exact absurd (by simpa using q3) (show ¬ t.1<=29 by omega)
  refine zY ?_;refine zj ?_ ?_ <;> intro q4
  ·(repeat (first|refine zz ?_|refine zc (ebin_con _ _ _ hin1 hin2) ?_))
   refine zr ?_;exact Frz.tup2 (yad (by simp only[Scn.val];exact biP_eq h17)) (yad (by rw[hlen];omega))
  exact absurd (by simpa using q4) (show ¬ ¬ t.1<=42 by omega)
 | .tr t a d f,ho,k,r,b,port,hE,ht,hp,hb=>by
  obtain⟨hk1,hk2,hk3⟩:=yot (show e.drop k=t::(a.fl++(d.fl++(f.fl++r))) by rw[hE];simp[Ex.fl]);have he:=W.he;have h17:=xnj ho.1;have hna:yja t.1=false:=by cases h:yja t.1 with|false=>rfl|true=>have:=yqd.1 h;omega
  have hlen:(Ex.tr t a d f).fl.length=1+a.fl.length+d.fl.length+f.fl.length:=by simp[Ex.fl];omega
  have hka:=ypn kinds hk b (.tr t a d f) a ho (by simp[zqc]) ht;have hkd:=ypn kinds hk b (.tr t a d f) d ho (by simp[zqc]) ht;have hkf:=ypn kinds hk b (.tr t a d f) f ho (by simp[zqc]) ht;simp only[hd,hna,qdm]at hka hkd hkf;have hk4:=yyi hk2;have hk5:=yyi hk4;have ih1:=ynf W hk a ho.2.1 (k+1) _ b port hk2 hka hp hb;have ih2:=ynf W hk d ho.2.2.1 (k+1+a.fl.length) _ b port hk4 hkd hp hb;have ih3:=ynf W hk f ho.2.2.2 (k+1+a.fl.length+d.fl.length) r b port hk5 hkf hp hb;rw[show ((k+1:Nat):Int)=(k:Int)+1 by omega]at ih1;refine ze Tryz.func169 ntmps169 Tryz.results169 ?_;refine zY ?_;refine zj ?_ ?_ <;> intro q1
  .exact absurd (by simpa using q1) (show ¬ t.1<=17 by omega)
  refine zY ?_;refine zj ?_ ?_ <;> intro q2
  .exact absurd (by simpa using q2) (show ¬ t.1<=19 by omega)
  refine zY ?_;refine zj ?_ ?_ <;> intro q3
  .exact absurd (by simpa using q3) (show ¬ t.1<=29 by omega)
  refine zY ?_;refine zj ?_ ?_ <;> intro q4
  .exact absurd (by simpa using q4) (show ¬ t.1<=42 by omega)
  refine zZ ?_;refine zj ?_ ?_ <;> intro q5
  .refine zk ?_;exact Frz.tup2 (yad (by simp only[Scn.val];rw[if_pos (by simpa using q5)])) (yad (by rw[hlen];omega))
  refine zk ?_;exact Frz.tup2 (yad (by simp only[Scn.val];rw[if_neg (by simpa using q5)])) (yad (by rw[hlen];omega))
end
section
open Go.RowKit
def yav(B:BitVec 32):AV:=.v (.int .u32 (B.toNat:Int))
theorem yim(B:BitVec 32):BitVec.ofInt 32 (B.toNat:Int)=B:=by
 apply qgb;simp
theorem zco(B:BitVec 32):IntKind.u32.wrap (B.toNat:Int)=(B.toNat:Int):=by
 have:=B.isLt;simp only[IntKind.wrap,IntKind.signed,IntKind.bits,qdy,if_false,qbj];omega
variable{P:Program}{T:Nat->Option Ty}{N:Nat}{ops:Array Oper}{lf:Oper->Bool}{Q:SS->Prop}{t:List (Nat × AV)}{h:List (Nat × Option LObj)}{rest:List Oper}{d:Nat}{op:Op}{ty:TypeId}{pos:String}{af:Array Edge}{gd:Option (Nat × Bool)}{r:AV}
theorem orU_val(B C:BitVec 32):Op.intBits .or .u32 (B.toNat:Int) (C.toNat:Int)=pure (.int .u32 ((B ||| C).toNat:Int)):=by
 have e1:BitVec.ofInt IntKind.u32.bits (B.toNat:Int)=B:=yim B;have e2:BitVec.ofInt IntKind.u32.bits (C.toNat:Int)=C:=yim C;unfold Op.intBits;simp only[e1,e2];exact congrArg (fun z=>pure (Value.int .u32 z)) (zco (B ||| C))
theorem andNotU_val(B C:BitVec 32):Op.intBits .andNot .u32 (B.toNat:Int) (C.toNat:Int)=pure (.int .u32 ((B &&& ~~~C).toNat:Int)):=by
 have e1:BitVec.ofInt IntKind.u32.bits (B.toNat:Int)=B:=yim B;have e2:BitVec.ofInt IntKind.u32.bits (C.toNat:Int)=C:=yim C;unfold Op.intBits;simp only[e1,e2];exact congrArg (fun z=>pure (Value.int .u32 z)) (zco (B &&& ~~~C))
theorem yield_orU{ρ:Operand->Option AV}{hp:Nat->Option LObj}{tx ty':TypeId}(hx:ρ x=some (yav B))(hy:ρ y=some (yav C)):ybu P hp ρ (.binOp .or tx x y ty') ty (yav (B ||| C)):=
 yco (fun _ _=>by simp) (by simp[ygy,Op.operands,hx,hy,toV,yav]) fun w=>by
  have e:=orU_val B C;simp[execOp,yeu hx,yeu hy,eqGuard,binOp,e]
theorem yield_andNotU{ρ:Operand->Option AV}{hp:Nat->Option LObj}{tx ty':TypeId}(hx:ρ x=some (yav B))(hy:ρ y=some (yav C)):ybu P hp ρ (.binOp .andNot tx x y ty') ty (yav (B &&& ~~~C)):=
 yco (fun _ _=>by simp) (by simp[ygy,Op.operands,hx,hy,toV,yav]) fun w=>by
  have e:=andNotU_val B C;simp[execOp,yeu hx,yeu hy,eqGuard,binOp,e]
theorem shl_val(n:Nat):IntKind.u32.wrap (1 * 2 ^ (min n 32))=((1#32 <<< n).toNat:Int):=by
 rw[qgx];simp only[IntKind.wrap,IntKind.signed,IntKind.bits,qdy,if_false,qbj,qeo,Nat.shiftLeft_eq,BitVec.toNat_ofNat];rw[show (1 % 2 ^ 32:Nat)=1 by decide,Nat.one_mul];rcases qbh n 32 with h|h
 .rw [qfw om]
  norm_cast
 rw[Nat.min_eq_right h];have e:(2 ^ n) % 2 ^ 32=0:=Nat.mod_eq_zero_of_dvd (Nat.pow_dvd_pow 2 h);rw[e];decide
theorem yield_shlU{ρ:Operand->Option AV}{hp:Nat->Option LObj}{tx ty':TypeId}(hx:ρ x=some (.v (.int .u32 1)))(hy:ρ y=some (.v (.int k' i)))(hb:0<=i):ybu P hp ρ (.binOp .shl tx x y ty') ty (yav (1#32 <<< i.toNat)):=by
 have:=yield_shl (P:=P) (hp:=hp) (ty:=ty) (tx:=tx) (ty':=ty') hx hy hb
 rwa [show IntKind.u32.bits=32 from rfl,shl_val]at this
theorem xjw{tx ty':TypeId}(hx:evF (yak t) x=some (yav B))(hy:evF (yak t) y=some (yav C))(hw:yam ops (yak t) ⟨some d,.binOp .or tx x y ty',ty,pos,af,gd⟩=some true)(hd:Nat.blt d N=true)(k:Lex P N ops lf Q rest (S ((d,yav (B ||| C))::t) h)):Lex P N ops lf Q (⟨some d,.binOp .or tx x y ty',ty,pos,af,gd⟩::rest) (S t h):=
 ycm (yield_orU hx hy) hw hd k
theorem zct{tx ty':TypeId}(hx:evF (yak t) x=some (yav B))(hy:evF (yak t) y=some (yav C))(hw:yam ops (yak t) ⟨some d,.binOp .andNot tx x y ty',ty,pos,af,gd⟩=some true)(hd:Nat.blt d N=true)(k:Lex P N ops lf Q rest (S ((d,yav (B &&& ~~~C))::t) h)):Lex P N ops lf Q (⟨some d,.binOp .andNot tx x y ty',ty,pos,af,gd⟩::rest) (S t h):=
 ycm (yield_andNotU hx hy) hw hd k
theorem xgk{tx ty':TypeId}(hx:evF (yak t) x=some (.v (.int .u32 1)))(hy:evF (yak t) y=some (.v (.int k' i)))(hb:0<=i)(hw:yam ops (yak t) ⟨some d,.binOp .shl tx x y ty',ty,pos,af,gd⟩=some true)(hd:Nat.blt d N=true)(k:Lex P N ops lf Q rest (S ((d,yav (1#32 <<< i.toNat))::t) h)):Lex P N ops lf Q (⟨some d,.binOp .shl tx x y ty',ty,pos,af,gd⟩::rest) (S t h):=
 ycm (yield_shlU hx hy hb) hw hd k
theorem xjx(hT:TOK P T){z:Int}(hr:ysz T t h op ty=some (.v (.int .u64 (IntKind.u64.wrap z))))(h0:0<=z/\z<=18446744073709551615)
  (hw:yam ops (yak t) ⟨some d,op,ty,pos,af,gd⟩=some true) (hd:Nat.blt d N=true) (k:Lex P N ops lf Q rest (S ((d,.v (.int .u64 z))::t) h)):Lex P N ops lf Q (⟨some d,op,ty,pos,af,gd⟩::rest) (S t h):=by
 have e:IntKind.u64.wrap z=z:=by
  simp only[IntKind.wrap,IntKind.signed,IntKind.bits,qdy,if_false,qbj];omega
 rw[e]at hr;exact znx hT hr hw hd k
def ymc(f:Nat->Bool):Nat->BitVec 32
 | 0=>0#32
 | n+1=>if f n=true then ymc f n ||| (1#32 <<< n)else ymc f n
theorem yhm(f:Nat->Bool):∀ n i:Nat,i < 32->(ymc f n).getLsbD i=(decide (i < n) && f i)
 | 0,i,h=>by simp[ymc]
 | n+1,i,h=>by
  have ih:=yhm f n i h;unfold ymc;have hb:(1#32 <<< n).getLsbD i=decide (i=n):=by
   rw[qfb];by_cases e:i=n
   .subst e;simp[h]
   simp[e];omega
  split
  .rename_i hf;rw[qgs,ih,hb];by_cases e:i=n
   .subst e;simp[hf]
   have:(i < n+1)<->i < n:=by omega
   simp[e,this]
  rename_i hf;rw[ih];by_cases e:i=n
  .subst e;simp[hf]
  have:(i < n+1)<->i < n:=by omega
  simp[this]
end
section
def xmr(l:List Tm):Ex:=(yfy l).getD (.lf (3,0))
def Scn.of(s:Scn)(l:List Tm):Int:=s.val (-1) (xmr l)
def xap(p:ProgD)(s:Scn):Int:=zax (p.rules.map fun r=>s.of r.guard) 0
def xhj(p:ProgD)(tbl:List (List (Int × Int)))(s:Scn)(st:List Int)(x:SetD):List Int:=st.set x.var.toNat (yjo p tbl s.v x.var.toNat (s.of x.val))
def xix(p:ProgD)(tbl:List (List (Int × Int)))(s:Scn)(r:Nat):List Int:=(match p.rules[r]? with|some r=>r.sets|none=>[]).foldl (xhj p tbl s) (s.c.getD s.v [])
def yry(p:ProgD)(g:GraphD)(c:List (List Int))(v:Nat):Bool:=decide (0<=xap p ⟨g,c,v⟩)
def ydc(p:ProgD)(g:GraphD)(c:List (List Int)):BitVec 32:=ymc (yry p g c) c.length
def znq(p:ProgD)(g:GraphD)(c:List (List Int))(v:Nat):List Int:=xix p (yaf p g) ⟨g,c,v⟩ (xap p ⟨g,c,v⟩).toNat
def yut(p:ProgD)(g:GraphD)(c:List (List Int))(set:BitVec 32):List (List Int):=c.mapIdx fun v r=>if set.getLsbD v then znq p g c v else r
theorem zuq{set:BitVec 32}{r:List Int}(h:c[v]?=some r):(yut p g c set)[v]?=some (if set.getLsbD v then znq p g c v else r):=by
 simp[yut,h]
theorem yri{set:BitVec 32}:(yut p g c set).length=c.length:=by simp[yut]
structure Alike (g:GraphD) (c d:List (List Int)) (v:Nat):Prop where
 own:c[v]?=d[v]?
 near:∀ ls,g.ports[v]?=some ls->∀ l∈ls,c[l.1.toNat]?=d[l.1.toNat]?
theorem xkh{l:List Tm}{kinds:List Int}{k:Int}(hk0:k≠0)(h:(ofF l kinds false).1=k):∃ E,yfy l=some E/\xmr l=E/\E.ok/\E.fl=l/\ygv kinds=true/\ycu l kinds.length=true/\ty kinds false E≠0:=by
 by_cases h6:6 < kinds.length
 .rw [zya _ _ _ h6]at h;exact absurd h.symm hk0
 cases hk:ygv kinds
 .rw [zez _ _ _ hk]at h;exact absurd h.symm hk0
 cases hv:ycu l kinds.length
 .rw [zey _ _ _ hv]at h;exact absurd h.symm hk0
 obtain⟨E,hp,ho,hfl,_⟩:=yuv hv;rw[xdr l kinds false E h6 hk hv hp]at h;by_cases ht:ty kinds false E=0
 .rw [if_pos ht]at h;exact absurd h.symm hk0
 exact⟨E,hp,by simp[xmr,hp],ho,hfl,rfl,rfl,ht⟩
end
section
open Go.RowKit
variable{P:Program}{T:Nat->Option Ty}{N:Nat}{ops:Array Oper}{lf:Oper->Bool}{Q:SS->Prop}{t:List (Nat × AV)}{h:List (Nat × Option LObj)}{rest:List Oper}{d:Nat}{op:Op}{ty:TypeId}{pos:String}{af:Array Edge}{gd:Option (Nat × Bool)}{r:AV}
theorem zvl(B C:BitVec 32):Op.intBits .and .u32 (B.toNat:Int) (C.toNat:Int)=pure (.int .u32 ((B &&& C).toNat:Int)):=by
 have e1:BitVec.ofInt IntKind.u32.bits (B.toNat:Int)=B:=yim B;have e2:BitVec.ofInt IntKind.u32.bits (C.toNat:Int)=C:=yim C;unfold Op.intBits;simp only[e1,e2];exact congrArg (fun z=>pure (Value.int .u32 z)) (zco (B &&& C))
theorem zki{ρ:Operand->Option AV}{hp:Nat->Option LObj}{tx ty':TypeId}(hx:ρ x=some (yav B))(hy:ρ y=some (yav C)):ybu P hp ρ (.binOp .and tx x y ty') ty (yav (B &&& C)):=
 yco (fun _ _=>by simp) (by simp[ygy,Op.operands,hx,hy,toV,yav]) fun w=>by
  have e:=zvl B C;simp[execOp,yeu hx,yeu hy,eqGuard,binOp,e]
theorem znv{tx ty':TypeId}(hx:evF (yak t) x=some (yav B))(hy:evF (yak t) y=some (yav C))(hw:yam ops (yak t) ⟨some d,.binOp .and tx x y ty',ty,pos,af,gd⟩=some true)(hd:Nat.blt d N=true)(k:Lex P N ops lf Q rest (S ((d,yav (B &&& C))::t) h)):Lex P N ops lf Q (⟨some d,.binOp .and tx x y ty',ty,pos,af,gd⟩::rest) (S t h):=
 ycm (zki hx hy) hw hd k
theorem L_and1{tx ty':TypeId}(hx:evF (yak t) x=some (yav B))(hy:evF (yak t) y=some (.v (.int .u32 1)))(hw:yam ops (yak t) ⟨some d,.binOp .and tx x y ty',ty,pos,af,gd⟩=some true)(hd:Nat.blt d N=true)(k:Lex P N ops lf Q rest (S ((d,yav (B &&& 1#32))::t) h)):Lex P N ops lf Q (⟨some d,.binOp .and tx x y ty',ty,pos,af,gd⟩::rest) (S t h):=
 ycm (zki hx (C:=1#32) hy) hw hd k
theorem shr_val(B:BitVec 32)(n:Nat):((B.toNat:Int).fdiv (2 ^ (min n 32)))=((B >>> n).toNat:Int):=by
 rw[BitVec.toNat_ushiftRight,Nat.shiftRight_eq_div_pow];have hB:=B.isLt;rw[Int.fdiv_eq_ediv_of_nonneg _ (Int.le_of_lt (Int.pow_pos om))];rcases qbh n 32 with h|h
 .rw [qfw om]
  norm_cast
 rw[Nat.min_eq_right h];have:B.toNat / 2 ^ n=0:=qgy (qbg hB (Nat.pow_le_pow_right om h));rw[this];omega
theorem yield_shrU{ρ:Operand->Option AV}{hp:Nat->Option LObj}{tx ty':TypeId}(hx:ρ x=some (yav B))(hy:ρ y=some (.v (.int k' i)))(hb:0<=i):ybu P hp ρ (.binOp .shr tx x y ty') ty (yav (B >>> i.toNat)):=by
 have:=yield_shr (P:=P) (hp:=hp) (ty:=ty) (tx:=tx) (ty':=ty') hx hy hb
 rwa [show IntKind.u32.bits=32 from rfl,shr_val]at this
theorem xgl{tx ty':TypeId}(hx:evF (yak t) x=some (yav B))(hy:evF (yak t) y=some (.v (.int k' i)))(hb:0<=i)(hw:yam ops (yak t) ⟨some d,.binOp .shr tx x y ty',ty,pos,af,gd⟩=some true)(hd:Nat.blt d N=true)(k:Lex P N ops lf Q rest (S ((d,yav (B >>> i.toNat))::t) h)):Lex P N ops lf Q (⟨some d,.binOp .shr tx x y ty',ty,pos,af,gd⟩::rest) (S t h):=
 ycm (yield_shrU hx hy hb) hw hd k
theorem zun(B:BitVec 32)(n:Nat):((((B >>> n) &&& 1#32).toNat:Int) == 1)=B.getLsbD n:=by
 have h:(B >>> n) &&& 1#32=if B.getLsbD n then 1#32 else 0#32:=by
  apply qbr;intro i hi;rw[qbi,qec];by_cases e:i=0
  .subst e;cases hb:B.getLsbD n <;> simp
  have:(1#32).getLsbD i=false:=by simp[e]
  rw[this,qci];split <;> simp[e]
 rw[h];cases B.getLsbD n <;> rfl
theorem zuv(B C:BitVec 32):(((B.toNat:Int)) == (C.toNat:Int))=(B == C):=by
 rw[qbw,beq_iff_eq,beq_iff_eq];constructor
 .intro e;exact qgb om
 intro e;rw[e]
theorem yct(B:BitVec 32):(((B.toNat:Int)) == 0)=(B == 0#32):=zuv B 0#32
theorem u32_bne(B C:BitVec 32):(((B.toNat:Int)) != (C.toNat:Int))=(B != C):=by
 unfold bne;rw[zuv]
theorem ydd(B:BitVec 32):(((B.toNat:Int)) != 0)=(B != 0#32):=u32_bne B 0#32
end
section
open Go.RowKit
variable{P:Program}{T:Nat->Option Ty}{N:Nat}{ops:Array Oper}{lf:Oper->Bool}{Q:SS->Prop}{t:List (Nat × AV)}{h:List (Nat × Option LObj)}{rest:List Oper}{d:Nat}{op:Op}{ty:TypeId}{pos:String}{af:Array Edge}{gd:Option (Nat × Bool)}{r:AV}
theorem znd(B C:BitVec 32):IntKind.u32.wrap ((B.toNat:Int) - C.toNat)=((B - C).toNat:Int):=by
 have:=B.isLt;have:=C.isLt;rw[BitVec.toNat_sub];simp only[IntKind.wrap,IntKind.signed,IntKind.bits,qdy,if_false,qbj];omega
theorem negU_val(B:BitVec 32):IntKind.u32.wrap (0 - (B.toNat:Int))=((-B).toNat:Int):=by
 have:=B.isLt;rw[qha];simp only[IntKind.wrap,IntKind.signed,IntKind.bits,qdy,if_false,qbj];omega
theorem ztb(hT:TOK P T){z:Int}{X:BitVec 32}(hr:ysz T t h op ty=some (.v (.int .u32 (IntKind.u32.wrap z))))(hz:IntKind.u32.wrap z=(X.toNat:Int))(hw:yam ops (yak t) ⟨some d,op,ty,pos,af,gd⟩=some true)(hd:Nat.blt d N=true)(k:Lex P N ops lf Q rest (S ((d,yav X)::t) h)):Lex P N ops lf Q (⟨some d,op,ty,pos,af,gd⟩::rest) (S t h):=by
 rw[hz]at hr;exact znx hT hr hw hd k
theorem L_subU(hT:TOK P T){tx ty':TypeId}(hx:evF (yak t) x=some (yav B))(hy:evF (yak t) y=some (yav C))(hr:ysz T t h (.binOp .sub tx x y ty') ty=some (.v (.int .u32 (IntKind.u32.wrap ((B.toNat:Int) - C.toNat)))))(hw:yam ops (yak t) ⟨some d,.binOp .sub tx x y ty',ty,pos,af,gd⟩=some true)(hd:Nat.blt d N=true)(k:Lex P N ops lf Q rest (S ((d,yav (B - C))::t) h)):Lex P N ops lf Q (⟨some d,.binOp .sub tx x y ty',ty,pos,af,gd⟩::rest) (S t h):=
 ztb hT hr (znd B C) hw hd k
theorem L_sub1(hT:TOK P T){tx ty':TypeId}(hx:evF (yak t) x=some (yav B))(hy:evF (yak t) y=some (.v (.int .u32 1)))(hr:ysz T t h (.binOp .sub tx x y ty') ty=some (.v (.int .u32 (IntKind.u32.wrap ((B.toNat:Int) - 1)))))(hw:yam ops (yak t) ⟨some d,.binOp .sub tx x y ty',ty,pos,af,gd⟩=some true)(hd:Nat.blt d N=true)(k:Lex P N ops lf Q rest (S ((d,yav (B - 1#32))::t) h)):Lex P N ops lf Q (⟨some d,.binOp .sub tx x y ty',ty,pos,af,gd⟩::rest) (S t h):=
 ztb hT hr (znd B 1#32) hw hd k
theorem L_negU(hT:TOK P T){tx:TypeId}(hx:evF (yak t) x=some (yav B))(hr:ysz T t h (.unOp .neg tx x) ty=some (.v (.int .u32 (IntKind.u32.wrap (0 - (B.toNat:Int))))))(hw:yam ops (yak t) ⟨some d,.unOp .neg tx x,ty,pos,af,gd⟩=some true)(hd:Nat.blt d N=true)(k:Lex P N ops lf Q rest (S ((d,yav (-B))::t) h)):Lex P N ops lf Q (⟨some d,.unOp .neg tx x,ty,pos,af,gd⟩::rest) (S t h):=
 ztb hT hr (negU_val B) hw hd k
def xio(n:Nat):BitVec 32:=(1#32 <<< n) - 1#32
theorem allV_bit:∀ (n:Nat),n<=24->∀ i,i < 32->(xio n).getLsbD i=decide (i < n):=by decide +kernel
end
end Go.Proofs.YtgpodcjhgdionaaGreatDoor
