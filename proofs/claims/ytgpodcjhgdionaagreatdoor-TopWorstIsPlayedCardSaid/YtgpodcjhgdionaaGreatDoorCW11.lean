/- Part 11 of the texts under TopWorstIsPlayed. -/
import Derived.Test.YtgpodcjhgdionaaGreatDoorCW4
import Derived.Test.YtgpodcjhgdionaaGreatDoorCW6
import Derived.Test.YtgpodcjhgdionaaGreatDoorCW8
import Derived.Test.YtgpodcjhgdionaaGreatDoorCW9
import Derived.Test.YtgpodcjhgdionaaGreatDoorCW10
set_option linter.unusedVariables false
namespace Go.Proofs.YtgpodcjhgdionaaGreatDoor
open Go.Proofs.Tryz
variable{g:GraphD}{c:List (List Int)}{p:ProgD}{xs:List AV}{id n k v:Nat}{r:List (Int × Int)}{x y:Operand}{q:Prop}{lv:Live}{w:World}{l:List Int}{B:Bse}
section
open Go.RowKit
theorem z7{p:Prop}(k:q)(h:Zk q->p:=by intro hq;(first|refine xjx tok rfl co rfl rfl ?_|refine xgk rfl rfl om rfl rfl ?_|refine xjw rfl rfl rfl rfl ?_|refine zct rfl rfl rfl rfl ?_|refine z1 ?_);exact hq.out):p:=h ⟨k⟩
theorem z6{p:Prop}(k:q)(h:Zk q->p:=by intro hq;(first|refine xjx tok rfl co rfl rfl ?_|refine xgk rfl rfl om rfl rfl ?_|refine xgl rfl rfl om rfl rfl ?_|refine xjw rfl rfl rfl rfl ?_|refine znv rfl rfl rfl rfl ?_|refine L_and1 rfl rfl rfl rfl ?_|refine zct rfl rfl rfl rfl ?_|refine z1 ?_);exact hq.out):p:=h ⟨k⟩
theorem z8{p:Prop}(k:q)(h:Zk q->p:=by intro hq;(first|refine L_subU tok rfl rfl rfl rfl rfl ?_|refine L_sub1 tok rfl rfl rfl rfl rfl ?_|refine L_negU tok rfl rfl rfl rfl ?_|refine z6 ?_);exact hq.out):p:=h ⟨k⟩
theorem zbx{p:Prop}(k:q)(h:Zk q->p:=by intro hq;refine z7 ?_;(repeat refine z7 ?_);exact hq.out):p:=h ⟨k⟩
theorem zbxz{p:Prop}(k:q)(h:Zk q->p:=by intro hq;(first|refine z7 ?_|refine(ypg rfl rfl (by assumption) rfl rfl ?_));(repeat (first|refine z7 ?_|refine(ypg rfl rfl (by assumption) rfl rfl ?_)));exact hq.out):p:=h ⟨k⟩
theorem zb{p:Prop}(k:q)(h:Zk q->p:=by intro hq;refine z6 ?_;(repeat refine z6 ?_);exact hq.out):p:=h ⟨k⟩
theorem zbz{p:Prop}(k:q)(h:Zk q->p:=by intro hq;(first|refine z6 ?_|refine(ypg rfl rfl (by assumption) rfl rfl ?_));(repeat (first|refine z6 ?_|refine(ypg rfl rfl (by assumption) rfl rfl ?_)));exact hq.out):p:=h ⟨k⟩
theorem zq{p:Prop}(k:q)(h:Zk q->p:=by intro hq;refine z8 ?_;(repeat refine z8 ?_);exact hq.out):p:=h ⟨k⟩
theorem zqz{p:Prop}(k:q)(h:Zk q->p:=by intro hq;(first|refine z8 ?_|refine(ypg rfl rfl (by assumption) rfl rfl ?_));(repeat (first|refine z8 ?_|refine(ypg rfl rfl (by assumption) rfl rfl ?_)));exact hq.out):p:=h ⟨k⟩
end
section
open Go.RowKit
structure GoodP (p:ProgD):Prop where
 lim:¬ (p.vars.length=0\/6 < p.vars.length\/12 < p.rules.length)
 name:yku p.name=true
 vnames:ygl (p.vars.map (·.name))=true
 rnames:ygl (p.rules.map (·.name))=true
 num:p.vars.all yxp=true
 form:p.rules.all (yfx · p.vars.length)=true
 type:p.rules.all (ykq · (ybq p))=true
theorem yyf(h:yet p=0):GoodP p:=by
 unfold yet at h;split at h
 .omega
 split at h
 .omega
 split at h
 .omega
 split at h
 .omega
 split at h
 .omega
 rename_i h1 h2 h3 h4 h5;have h2':ygx p=true:=by simpa using h2
 unfold ygx at h2';simp only[qad]at h2';exact⟨h1,h2'.1,h2'.2.1,h2'.2.2,by simpa using h3,by simpa using h4,by simpa using h5⟩
theorem GoodP.check(h:GoodP p):yet p=0:=by
 have hn:ygx p=true:=by unfold ygx;rw[h.name,h.vnames,h.rnames];rfl
 exact zkv h.lim hn h.num h.form h.type
end
set_option maxRecDepth 100000
section
open Go.RowKit
theorem zxd(h:yet p=0){r:RuleD}(hr:r∈p.rules):(ofF r.guard (ybq p) false).1=2:=by
 have:=List.all_eq_true.1 (yyf h).type r hr;simp only[ykq,qad,beq_iff_eq]at this;exact this.1
theorem xhk(h:yet p=0){r:RuleD}(hr:r∈p.rules){x:SetD}(hx:x∈r.sets):0<=x.var/\x.var < p.vars.length/\(ofF x.val (ybq p) false).1≠0:=by
 have h1:=List.all_eq_true.1 (yyf h).type r hr;have h2:=List.all_eq_true.1 (yyf h).form r hr;simp only[ykq,qad,beq_iff_eq,List.all_eq_true]at h1;simp only[yfx,qad,decide_eq_true_eq,List.all_eq_true,ydt]at h2;have h3:=(h2.2.2.2.1 x hx).1;refine⟨om,om,?_⟩;rw[h1.2 x hx];obtain⟨y,hy⟩:=ybk (show x.var.toNat < p.vars.length by omega);have hk:=(yil ((ycn h).2.2.2 y (qab hy))).1;simp only[ybq,qac,qak,hy,qav,qbu];omega
def ylm(g:GraphD)(B:BitVec 32):BitVec 32:=ymc (fun v=>(g.ports.getD v []).any fun l=>B.getLsbD l.1.toNat) g.ports.length
theorem state_mk{s:List Int}(hl:s.length=r.length)(h:∀ (x:Nat) (b:Int × Int),r[x]?=some b->∃ z,s[x]?=some z/\b.1<=z/\z<=b.2):ych r s=true:=by
 simp only[ych,qad,beq_iff_eq,List.all_eq_true];refine⟨hl,fun q hq=>?_⟩;obtain⟨k,hk⟩:=qao hq;rw[qfq]at hk;obtain⟨z,hz,h1,h2⟩:=h k _ hk.1;rw[hk.2]at hz;cases hz;simp[zss,h1,h2]
theorem state_set(hf:Fair p g)(h0:ycv p g=0)(hr:(yaf p g)[v]?=some r){s:List Int}(hs:ych r s=true)(x:Nat)(z:Int):ych r (s.set x (yjo p (yaf p g) v x z))=true:=by
 obtain⟨hl,hb⟩:=yci hs;refine state_mk (by simp[hl]) fun y b hy=>?_;by_cases e:x=y
 .subst e;obtain⟨ls,w,h1,h2,rfl⟩:=zge hr hy;obtain⟨hc0,hg,hfit⟩:=ydk.1 h0;have hnum:=(ycn hc0).2.2.2 w (qab h2);have hll:=hf.glen.2.2 ls (qab h1);have hok:=fit_ok (deg:=ls.length) (hfit w (qab h2)) hnum om;refine⟨_,qee (by rw[hl];exact(qaa.1 hy).1),?_⟩;have e1:yjo p (yaf p g) v x z=yiy w.kind (yar w g ls.length).1 (yar w g ls.length).2 z:=by
   simp[yjo,hr,hy,h2]
  rw[e1];exact bring_in hok.1 fun h3=>by rw[yzu h3]
 obtain⟨q,hq,h1,h2⟩:=hb y b hy;exact⟨q,by rw[List.getElem?_set_ne e];exact hq,h1,h2⟩
theorem zjr(hf:Fair p g)(h0:ycv p g=0){s:Scn}(hr:(yaf p g)[s.v]?=some r):∀ (l:List SetD) (st:List Int),ych r st=true->ych r (l.foldl (xhj p (yaf p g) s) st)=true
 | [],st,h=>h
 | x::l,st,h=>zjr hf h0 hr l _ (state_set hf h0 hr h _ _)
theorem stp_check(hf:Fair p g)(hc:yhf p g c=0)(set:BitVec 32):yhf p g (yut p g c set)=0:=by
 obtain⟨h0,hin⟩:=yfq.1 hc;refine yfq.2 ⟨h0,?_⟩;obtain⟨hl,hb⟩:=ynh hin;simp only[ybx,qad,beq_iff_eq,List.all_eq_true];refine⟨by rw[yri,hl],fun q hq=>?_⟩;obtain⟨v,hv⟩:=qao hq;rw[qfq]at hv;obtain⟨s,hs,hst⟩:=hb v q.1 hv.1;have e:=hv.2;rw[zuq hs]at e;rw[<- Option.some.inj e];split
 .exact zjr hf h0 (s:=⟨g,c,v⟩) hv.1 _ _ (by
   show ych q.1 (c.getD v [])=true
   rw[qac,hs];exact hst)
 exact hst
end
set_option maxHeartbeats 8000000
section
open Go.RowKit
structure CfgOk (p:ProgD) (g:GraphD) (c:List (List Int)):Prop where
 fair:Fair p g
 chk:yhf p g c=0
section
variable{p:ProgD}{g:GraphD}{c:List (List Int)}
theorem CfgOk.fit(h:CfgOk p g c):ycv p g=0:=(yfq.1 h.chk).1
theorem CfgOk.prog(h:CfgOk p g c):yet p=0:=(ydk.1 h.fit).1
theorem CfgOk.graph(h:CfgOk p g c):ycf g=true:=(ydk.1 h.fit).2.1
theorem CfgOk.table(h:CfgOk p g c):ybx (yaf p g) c=true:=(yfq.1 h.chk).2
theorem CfgOk.len(h:CfgOk p g c):c.length=g.ports.length:=by
 have:=(ynh h.table).1;rw[this];simp[yaf]
theorem CfgOk.n24(h:CfgOk p g c):g.ports.length<=24:=(ybe h.graph).2.1
theorem CfgOk.row(h:CfgOk p g c){r:List Int}(hr:c[v]?=some r):∃ b,(yaf p g)[v]?=some b/\ych b r=true:=by
 have hv:=(qaa.1 hr).1;obtain⟨b,hb⟩:=ybk (show v < (yaf p g).length by rw[<- (ynh h.table).1];exact hv);obtain⟨s,hs,hst⟩:=(ynh h.table).2 v b hb;rw[hr]at hs;cases hs;exact⟨b,hb,hst⟩
theorem CfgOk.rowlen(h:CfgOk p g c):∀ r∈c,r.length=p.vars.length:=by
 intro r hr;obtain⟨v,hv⟩:=qao hr;obtain⟨b,hb,hst⟩:=h.row hv;rw[(yci hst).1,ykf hb]
theorem CfgOk.vars6(h:CfgOk p g c):1<=p.vars.length/\p.vars.length<=6:=by have:=ycn h.prog;omega
theorem CfgOk.bd(h:CfgOk p g c):∀ r∈c,∀ a∈r,-1<=a/\a<=1000000:=by
 intro r hr a ha;obtain⟨v,hv⟩:=qao hr;obtain⟨b,hb,hst⟩:=h.row hv;obtain⟨x,hx⟩:=qao ha;obtain⟨hl,hbd⟩:=yci hst;have hxl:=(qaa.1 hx).1;obtain⟨q,hq⟩:=ybk (show x < b.length by omega);obtain⟨z,hz,h1,h2⟩:=hbd x q hq;rw[hx]at hz;cases hz;have:=((ydj h.fair h.fit).2 b (qab hb)).2 q (qab hq);obtain⟨g1,g2,g3⟩:=this;omega
theorem CfgOk.cin(h:CfgOk p g c):znu c:=by
 have:=h.n24;refine⟨by rw[h.len];omega,fun r hr=>?_⟩;have:=h.rowlen r hr;have:=h.vars6;omega
theorem CfgOk.scn(h:CfgOk p g c)(v:Nat):ScnOk ⟨g,c,v⟩:=by
 have hv:=ybe h.graph;have h24:=h.n24;refine⟨hv.2.2.2.1,by show g.ids.length<=24;omega,fun ls hls=>?_,fun r hr a ha=>?_⟩
 .obtain ⟨u,hu⟩:=qao hls;have hb:=hv.2.2.2.2.2.1 u ls hu;have hul:=(qaa.1 hu).1;have hll:ls.length < g.ports.length:=yde hul hb;refine⟨om,fun l hl=>?_⟩;have:=(ybv _ _ _).1 (((ycq _ _ _).1 hb).1 l hl);omega
 have:=h.bd r hr a ha;unfold InV yfp;omega
theorem CfgOk.kinds(h:CfgOk p g c):(ybq p).length=p.vars.length:=by simp[ybq]
theorem CfgOk.walk(h:CfgOk p g c){ls:List Lk}(hls:g.ports[v]?=some ls){e:List Tm}(he:ycu e p.vars.length=true):WalkOk p g c v ls e p.vars.length:=by
 obtain⟨E,_,_,_,h2,h3,_⟩:=yuv he;exact⟨h.graph,hls,h.len,fun r hr=>by have:=h.rowlen r hr;omega,om,List.all_eq_true.1 h3,h.scn v⟩
theorem CfgOk.links(h:CfgOk p g c)(hv:v < c.length):∃ ls,g.ports[v]?=some ls:=ybk (by rw[<- h.len];exact hv)
end
theorem zzi(h:CfgOk p g c)(hv:v < c.length){e:List Tm}(ht:(ofF e (ybq p) false).1≠0):Con prog 107 [zjq p g,ycj c,i64 v,ybr e] (i64 ((⟨g,c,v⟩:Scn).of e)):=by
 obtain⟨E,hp,hE,ho,hfl,hk,hval,hty⟩:=xkh ht rfl;obtain⟨ls,hls⟩:=h.links hv;have W:=h.walk hls (by rw[<- h.kinds];exact hval);have hc:=ynf W hk E ho 0 [] false (-1) (by rw[hfl];simp) hty (by unfold InV yfp;omega) sm;refine ze Tryz.func107 ntmps107 Tryz.results107 ?_
 (repeat (first|with_reducible refine yeo ?_|with_reducible refine ycy ?_|refine ydu ?_));refine ysv ?_;refine ydb (lf:=lfT) rfl ?_
 refine zO ?_
 (repeat (first|with_reducible refine yeo ?_|with_reducible refine ycy ?_|refine ydu ?_))
 refine ysv ?_;refine zR ?_;refine zO ?_;refine zt ?_;refine yhn 9 rfl rfl rfl rfl rfl ?_;refine zZ ?_;refine zr ?_;exact yad (by unfold Scn.of;rw[hE])
theorem sguard_con(h:CfgOk p g c)(hv:v < c.length){i:Nat}{r:RuleD}(hr:p.rules[i]?=some r):Con prog 178 [zjq p g,ycj c,i64 v,i64 i] (yau ((⟨g,c,v⟩:Scn).of r.guard != 0)):=by
 have ht:=zxd h.prog (qab hr);have hc:=zzi h hv (e:=r.guard) om;have hlen:=(ycn h.prog).2.2.1;refine ze Tryz.func178 ntmps178 Tryz.results178 ?_;refine zZ ?_;refine zr ?_;exact yae rfl
end
set_option maxHeartbeats 4000000
section
open Go.RowKit
theorem yvv(xs:List AV):isC (ygi xs)=false:=by cases xs <;> rfl
theorem yfb{ok:Nat->Prop}{b:Nat}:yho ok lv w b n (ygi xs)<->yhd ok lv w b n xs:=by
 cases xs with
 | nil=>exact⟨fun h=>h.1,fun h=>⟨h,fun x hx=>by cases hx⟩⟩
 | cons x xs=>exact Iff.rfl
theorem ygs{ok:Nat->Prop}(h:yge B ok lv w n (ygi xs) none):xs=[]:=by
 cases xs with
 | nil=>rfl
 | cons x xs=>rcases h with h|⟨e,h⟩ <;> cases h
theorem ygk:∀ {xs:List AV},(∀ x∈xs,ment id x=false)->ment.mentL id xs=false
 | [],_=>rfl
 | x::xs,h=>by simp only[ment.mentL,h x sm,qep];exact ygk fun y hy=>h y (by simp[hy])
theorem zqo:∀ {xs:List AV},ment.mentL id xs=false->∀ x∈xs,ment id x=false
 | [],_,x,hx=>by cases hx
 | y::xs,h,x,hx=>by
  simp only[ment.mentL,qea]at h;rcases qaq.1 hx with rfl|hx
  .exact h.1
  exact zqo h.2 x hx
variable{P:Program}{T:Nat->Option Ty}{N:Nat}{ops:Array Oper}{lf:Oper->Bool}{Q:SS->Prop}{t:List (Nat × AV)}{h:List (Nat × Option LObj)}{rest:List Oper}{d:Nat}{op:Op}{ty:TypeId}{pos:String}{af:Array Edge}{gd:Option (Nat × Bool)}{r:AV}
theorem blk_appL{ok0:Nat->Prop}{w':World}{b n size len:Nat}{xs cs:List AV}{news:List Value}{c:Array Value}{e:TypeId}(g2:c.size=n)(g3:xs.length=len * size)(g4:∀ x∈xs,yeb x=true)(g5:∀ (j:Nat) (x:AV) (u:Value),xs[j]?=some x->c[j]?=some u->Rel (yba B ok0 lv w) w lv x u)(hr:ybn (yba B ok0 lv w) w lv cs news)(hc:∀ x∈cs,yeb x=true)(hfit:len * size+news.length<=n)(hw:w'.heap[b]?=some (.cells (c.toList.take (len * size)++news++c.toList.drop (len * size+news.length)).toArray e (0,0)))(ok':Nat->Prop)(hk:∀ g,yba B ok0 lv w g->ok' g/\w'.heap[g]?=w.heap[g]?):yhd ok' lv w' b n (xs++cs):=by
 have hl:=hr.1;refine⟨_,e,hw,so,by simp[g3];omega,fun x hx=>?_,fun j x u hx hu=>?_⟩
 .rcases qat.1 hx with hx|hx
  .exact g4 x hx
  exact hc x hx
 simp only[qeh]at hu;have e2:(c.toList.take (len * size)).length=len * size:=by simp;omega
 by_cases h1:j < len * size
 .rw [qam om]at hx;rw[qbd,qam om,qbc,if_pos h1]at hu;exact(g5 j x u hx (by simpa using hu)).keep hk
 rw[qah om,g3]at hx;have hlt:=(qaa.1 hx).1;rw[qbd,qah om,e2,qam om]at hu;exact(hr.2 _ x u hx hu).keep hk
def xnd(ok:Nat->Prop)(w:World)(lv:Live)(size m:Nat)(cs:List AV)(u:Value):Prop:=
 ∃ (ao:Option Addr) (c:Nat) (news:List Value),u=.slice ao m c/\news.length=m * size/\ybn ok w lv cs news/\(0 < m->∃ g o,ao=some ⟨g,o,none⟩/\∀ (j:Nat) (v:Value),news[j]?=some v->w.cell? ((⟨g,o,none⟩:Addr).add j)=some v)
theorem src_ls{ok0:Nat->Prop}{s:SS}{a:Act}(hs:Sim B ok0 N s lv a w){id2 es m:Nat}{cs:List AV}{u:Value}(hid:s.h id2=some (ygi cs))(hl:cs.length=m * es)(hu:Rel (yba B ok0 lv w) w lv (.ls id2 es m) u):xnd (yba B ok0 lv w) w lv es m cs u/\∀ c∈cs,yeb c=true:=by
 obtain⟨bo,n,hlv,hown⟩:=hs.inv.obj id2 _ hid;cases hu with
 | ls _ hone hls=>
  have hlsv:=hls bo n hlv;cases bo with
  | none=>
   obtain rfl:=ygs hown;obtain⟨rfl,rfl⟩:=hlsv;exact⟨⟨none,0,[],rfl,sm,⟨rfl,fun i x u h=>by simp at h⟩,fun h=>by omega⟩,fun c hc=>by cases hc⟩
  | some b=>
   obtain⟨cap,rfl,h1,h2,h3⟩:=hlsv;obtain⟨_,_,ho⟩:=hown;obtain⟨cu,e',g1,g2,g3,g4,g5⟩:=yfb.1 ho;refine⟨⟨some ⟨b,0,none⟩,cap,cu.toList.take cs.length,rfl,so,⟨so,fun j x u hx hu=>?_⟩,fun _=>⟨b,0,rfl,fun j v hj=>?_⟩⟩,g4⟩
   .have hlt:=(qaa.1 hx).1;rw[qbc,if_pos hlt]at hu;exact g5 j x u hx (by simpa using hu)
   rw[qbc]at hj;split at hj
   .rw [ymm];simp only[World.cell?,g1,qay];simpa using hj
   cases hj
theorem append_worldM{ok0:Nat->Prop}{s:SS}{a:Act}(hs:Sim B ok0 N s lv a w){ti e es eb:Nat}{ea:Bool}{ez:List Value}(hk:ygb P ti (.slc e es ea eb ez)){id len m:Nat}{xs cs:List AV}{v u:Value}(hid:s.h id=some (ygi xs))(hxl:xs.length=len * es)(hv:Rel (yba B ok0 lv w) w lv (.ls id es len) v)(hsrc:xnd (yba B ok0 lv w) w lv es m cs u)(hcc:∀ c∈cs,yeb c=true)(hxm:∀ c∈xs,ment id c=false)(hcp:∀ c∈cs,ment id c=false)(hlim:len+m<=4294967296/\(len+m) * eb<=140737488355328){s':SS}(ht:∀ x y,s'.t x=some y->y=.any\/(s.t x=some y/\ment id y=false))(hlt:∀ x y,s'.t x=some y->∃ z,s.t x=some z)(hh:∀ j ob',j≠id->s'.h j=some ob'->yew id ob'=false/\∃ ob,s.h j=some ob/\ymh ob ob')(hid':s'.h id=some (ygi (xs++cs))):
  ∃ v' w' lv',(Builtin.append_ #[ti,ti] ty #[v,u]).run P w=.ok v' w'/\Sim B ok0 N s' lv' a w'/\Rel (yba B ok0 lv' w') w' lv' (.ls id es (len+m)) v':=by
 obtain⟨hu,hsz,hby,hz,hzl,hpos⟩:=hk;obtain⟨i,hi,hisz,hiby,zv,hiz,hizc⟩:∃ i,P.info? e=some i/\i.size=es/\i.bytes=eb/\∃ zv,i.zero=some zv/\zv.cells=ez.toArray:=by
  cases hi:P.info? e with
  | none=>simp[hi]at hby
  | some i=>
   have h1:=hsz.1;unfold yte at hz;simp only[hi,qav,Option.some.injEq]at hby h1 hz;cases hzz:i.zero with
   | none=>simp[hzz]at hz
   | some zv=>simp only[hzz,qav,Option.some.injEq]at hz;exact⟨i,rfl,h1,hby,zv,hzz,hz⟩
 obtain⟨ao,c,news,rfl,hnl,hnr,hna⟩:=hsrc;have hcl:cs.length=m * es:=by rw[<- hnr.1,hnl]
 -- the state with the block written in place,or the same,forgets
 have forget:∀ (w':World) (lv1:Live),Sim B ok0 N ⟨s.t,yei s.h id (some (ygi (xs++cs)))⟩ lv1 a w'->∃ lv',Sim B ok0 N s' lv' a w'/\lv' id=lv1 id:=by
  intro w' lv1 h1;obtain⟨lv',g1,g2,g3,g4⟩:=h1.forg (s':=s') (fun x y hy=>(ht x y hy).imp (fun h=>h) And.left) hlt (fun j ob' hj=>by
   by_cases hji:j=id
   .subst hji
    rw[hid']at hj
    cases hj
    exact⟨ygi (xs++cs),by simp[yei],.inl rfl⟩
   obtain⟨_,ob,q1,q2⟩:=hh j ob' hji hj
   exact⟨ob,by simp[yei,hji,q1],q2⟩)
  exact⟨lv',g1,g3 id (by simp[hid'])⟩
 have hvs:∀ u∈news,u.oneCell'=true:=fun u hu=>by
  obtain⟨j,hj⟩:=qao hu;obtain⟨q,hq⟩:∃ q,cs[j]?=some q:=⟨_,qae (by have:=(qaa.1 hj).1;rw[hnr.1]at this;exact this)⟩;exact(hnr.2 j q u hq hj).oneCell (hcc q (qab hq))
 obtain⟨bo,n,hl,hown⟩:=hs.inv.obj id _ hid;cases hv with
 | ls _ hone hls=>
  have hlsv:=hls bo n hl;by_cases hm:m=0
  .subst hm;have hcs:cs=[]:=qax om;subst hcs;have hsame:(⟨s.t,yei s.h id (some (ygi (xs++[])))⟩:SS)=s:=by
    have:yei s.h id (some (ygi (xs++[])))=s.h:=by
     funext j;by_cases hj:j=id
     .subst hj;simp[yei,hid]
     simp[yei,hj]
    rw[this]
   obtain⟨lv',q1,q2⟩:=forget w lv (by rw[hsame];exact hs);cases bo with
   | none=>
    obtain⟨rfl,rfl⟩:=hlsv;refine⟨_,w,lv',yip ti ty e i hu hi none ao 0 0 c (qbf _),q1,.ls _ rfl fun b n' hb=>?_⟩;rw[q2,hl]at hb;cases hb;exact⟨rfl,rfl⟩
   | some b=>
    obtain⟨cap,rfl,h1,h2,h3⟩:=hlsv;refine⟨_,w,lv',yip ti ty e i hu hi _ ao len cap c h1,q1,.ls _ rfl fun b' n' hb=>?_⟩;rw[q2,hl]at hb;cases hb;exact⟨cap,rfl,h1,h2,h3⟩
  obtain⟨g,q,rfl,hcell⟩:=hna om
  -- a new block
  have grown:∀ (old:Nat) (olds:List Value),ybn (yba B ok0 lv w) w lv xs olds->old < len+m ->
    let cap:=grownCap w (len+m) old e
    let w':=w.drew.alloc (.cells (olds.toArray++news.toArray++Builtin.zeroCells zv.cells (cap - (len+m))) e)
    ∃ lv',Sim B ok0 N s' lv' a w'/\Rel (yba B ok0 lv' w') w' lv' (.ls id es (len+m)) (.slice (some ⟨w.heap.size,0,none⟩) (len+m) cap):=by
   intro old olds hor hold;have hge:=grownCap_ge w (len+m) old e;have hmx:grownCap w (len+m) old e<=maxLen:=grownCap_le_maxLen w (len+m) old e (by unfold maxLen;omega);intro cap w'
   -- first forget,id given up
   obtain⟨lv0,q1,q2,q3,q4⟩:=hs.forg (s':=⟨s'.t,fun j=>if j=id then none else s'.h j⟩) (fun x y hy=>(ht x y hy).imp (fun h=>h) And.left) hlt (fun j ob' hj=>by
    simp only at hj
    split at hj
    .cases hj
    rename_i hji;exact(hh j ob' hji hj).2)
   have q0:Sim B ok0 N ⟨s'.t,fun j=>if j=id then none else s'.h j⟩ lv0 a w.drew:=q1.drew (Below.drew (Below.refl _ _));have hall:ybn (yba B ok0 lv0 w.drew) w.drew lv0 (xs++cs) (olds++news):=by
    refine⟨by simp[hor.1,hnr.1],fun j x u hx hu=>?_⟩;rcases qbh j xs.length with h1|h1
    .rw [qam h1]at hx;rw[qam (by rw[hor.1];exact h1)]at hu;exact((hor.2 j x u hx hu).relive fun id b n hb hmm=>q2 id b n hb).keep fun g hg=>⟨q4 g hg,rfl⟩
    rw[qah h1]at hx;rw[qah (by rw[hor.1];exact h1),hor.1]at hu;exact((hnr.2 _ x u hx hu).relive fun id b n hb hmm=>q2 id b n hb).keep fun g hg=>⟨q4 g hg,rfl⟩
   have hcell':∀ x∈xs++cs,yeb x=true:=by
    intro x hx;rcases qat.1 hx with hx|hx
    .cases bo with
     | none=>rw[ygs hown]at hx;cases hx
     | some b=>obtain⟨_,_,ho⟩:=hown;obtain⟨c,e,_,_,_,g4,_⟩:=yfb.1 ho;exact g4 x hx
    exact hcc x hx
   have hm':yew id (ygi (xs++cs))=false:=by
    rw[yjh,ywd,ygk hxm,ygk hcp];rfl
   have hfr:ymi (⟨s'.t,fun j=>if j=id then none else s'.h j⟩:SS) id:=by
    refine⟨sm,fun x y hy=>?_,fun j ob hj=>?_⟩
    .rcases ht x y hy with rfl|⟨_,hm⟩
     .rfl
     exact hm
    simp only at hj;split at hj
    .cases hj
    rename_i hji;exact(hh j ob hji hj).1
   have hzc:(olds++news).length+(Builtin.zeroCells zv.cells (cap - (len+m))).toList.length=cap * es:=by
    have e1:=size_zeroCells zv.cells (cap - (len+m));rw[hizc]at e1;simp only[qdg,hzl]at e1;rw[hizc];simp only[Array.length_toList,qan,e1,hor.1,hxl,hnl];rw[<- qgg,<- qgg];congr 1;omega
   have hw':w'=w.drew.alloc (.cells ((olds++news)++(Builtin.zeroCells zv.cells (cap - (len+m))).toList).toArray e):=by
    simp only[w'];congr 2;simp
   have hnew:=q0.newBlock (ob:=ygi (xs++cs)) (n:=cap * es) hfr (w':=w') (by rw[hw'];exact ydw w.drew _) (by rw[hw'];simp) hm' (fun h=>by rw[yvv]at h;cases h)
    (fun ok' lv' g1 g2=>yfb.2 (yyd (e:=e) hzc.symm (by rw[hw'];exact ydr w.drew _) hall hcell' ok' lv' g1 (fun i b mm hb hmm=>g2 i b mm hb (by rw[yjh];exact hmm))))
   have hs'':(⟨s'.t,yei (fun j=>if j=id then none else s'.h j) id (some (ygi (xs++cs)))⟩:SS)=s':=by
    have:yei (fun j=>if j=id then none else s'.h j) id (some (ygi (xs++cs)))=s'.h:=by
     funext j;by_cases hj:j=id
     .subst hj;simp[yei,hid']
     simp[yei,hj]
    rw[this]
   rw[hs'']at hnew;refine⟨_,hnew,.ls _ rfl fun b n' hb=>?_⟩;simp only[yke,if_true,Option.some.injEq,Prod.mk.injEq]at hb;obtain⟨rfl,rfl⟩:=hb;exact⟨cap,rfl,hge,hmx,rfl⟩
  cases bo with
  | none=>
   obtain rfl:=ygs hown;obtain⟨rfl,rfl⟩:=hlsv;have hr:=run_append_nil (P:=P) w ti ty e i zv hu hi hiz ⟨g,q,none⟩ m c news (by rw[hisz];exact hnl) hcell om om (by have:=hlim.2;rw[hiby];simp only[qay]at this;omega);obtain⟨lv',g1,g2⟩:=grown 0 [] ⟨rfl,fun i x u h=>by simp at h⟩ om;simp only[qay,Array.empty_append]at hr g1 g2 ⊢;exact⟨_,_,lv',hr,g1,g2⟩
  | some b=>
   obtain⟨cap,rfl,hlc,hmx,hcn⟩:=hlsv;obtain⟨hb1,hb2,ho⟩:=hown;obtain⟨cu,e',g1,g2,g3,g4,g5⟩:=yfb.1 ho;by_cases hroom:len+m<=cap
   .have hfit:len * es+news.length<=cu.size:=by rw[hnl,g2,<- hcn,<- qgg];exact qel _ hroom
    have hr:=ypp (P:=P) (w:=w) ti ty e e' i hu hi b len cap cu g1 ⟨g,q,none⟩ m c news (by rw[hisz];exact hnl) hcell hvs hroom (by rw[hisz];exact hfit);rw[hisz]at hr;have hwr:=hs.write (w':=w.setRow b (cu.toList.take (len * es)++news++cu.toList.drop (len * es+news.length)).toArray) hl rfl rfl rfl sm (fun g hg=>setRow_other w b g _ hg) (ob:=ygi (xs++cs)) (fun h=>by rw[yvv]at h;cases h)
     (fun ok' hk=>yfb.2 (blk_appL (w:=w) g2 hxl g4 g5 hnr hcc om (setRow_heap w b cu _ e' _ g1) ok' hk))
    obtain⟨lv',q1,q2⟩:=forget _ _ hwr;refine⟨_,_,lv',hr,q1,.ls _ rfl fun b' n' hb=>?_⟩;rw[q2,hl]at hb;cases hb;exact⟨cap,rfl,hroom,hmx,hcn⟩
   have hxle:xs.length<=cu.size:=by omega
   have hor:ybn (yba B ok0 lv w) w lv xs (cu.toList.take xs.length):=⟨so,fun j x u hx hu=>by
    have hlt:=(qaa.1 hx).1
    rw[qbc,if_pos hlt]at hu
    exact g5 j x u hx (by simpa using hu)⟩
   have hr:=run_append_grow (P:=P) w ti ty e i zv hu hi hiz ⟨b,0,none⟩ len cap (cu.toList.take xs.length) (by simp[hisz];omega) (fun j v hj=>by
    rw[qbc]at hj
    split at hj
    .rw [ymm];simp only[World.cell?,g1,qay];simpa using hj
    cases hj) ⟨g,q,none⟩ m c news (by rw[hisz];exact hnl) hcell om om (by rw[hiby];exact growslice_fits om hlim.2)
   obtain⟨lv',q1,q2⟩:=grown cap _ hor om;exact⟨_,_,lv',hr,q1,q2⟩
theorem appendM_loud(hT:TOK P T){o:Oper}{ti e es eb sz:Nat}{ea ag:Bool}{ez z:List Value}{id id2 len m:Nat}{xs cs:List AV}{s s':SS}(ho:o.op=.call { callee:=.builtin .append,args:=#[x,y],argTypes:=#[ti,ti] })(hd:o.dst=some d)(hdN:d < N)(hk:T ti=some ⟨.slc e es ea eb ez,sz,ag,z⟩)(hx:evF s.t x=some (.ls id es len))(hid:s.h id=some (ygi xs))(hxl:xs.length=len * es)(hy:evF s.t y=some (.ls id2 es m))(hid2:s.h id2=some (ygi cs))(hcl:cs.length=m * es)(hxm:∀ c∈xs,ment id c=false)(hcp:∀ c∈cs,ment id c=false)(hlim:len+m<=4294967296/\(len+m) * eb<=140737488355328)(ht:∀ x y,s'.t x=some y->y=.any\/(s.t x=some y/\ment id y=false))(hlt:∀ x y,s'.t x=some y->∃ z,s.t x=some z)(hh:∀ j ob',j≠id->s'.h j=some ob'->yew id ob'=false/\∃ ob,s.h j=some ob/\ymh ob ob')(hid':s'.h id=some (ygi (xs++cs))):
  ybp P N o s (·=⟨yee s'.t (some d) (.ls id es (len+m)),s'.h⟩):=by
 intro B ok0 lv a w hs Q;obtain⟨h1,h2⟩:=src_ls hs hid2 hcl (hs.eval hy);obtain⟨v',w',lv',hrun0,hs',hrel⟩:=append_worldM (ty:=o.type) hs (hT _ _ hk).2.2 hid hxl (hs.eval hx) h1 h2 hxm hcp hlim ht hlt hh hid';have hrun:(execOp a.eval o).run P w=.ok (.value v') w':=by
  simp only[execOp,ho,resolve,invoke,builtin,Sem.run_bind,Sem.run_pure,Result.andThen_ok,List.map_toArray,qce,qex,hrun0]
 unfold Oper.wp;rw[hrun];simp only[Oper.upon,hd];exact⟨_,lv',rfl,hs'.putOnly hdN hrel⟩
theorem buildM_loud(hT:TOK P T){o:Oper}{ti e es eb sz len:Nat}{ea ag:Bool}{ez z:List Value}{parts:List (Nat × Operand)}{ps:List (Nat × AV)}{ys:List AV}{s:SS}(id:Nat)(ho:o.op=.buildSlice ti len parts.toArray)(hd:o.dst=some d)(hdN:d < N)(hk:T ti=some ⟨.slc e es ea eb ez,sz,ag,z⟩)(hone:ez.all Value.oneCell'=true)
  (hps:evP (evF s.t) parts=some ps) (hf:yyk (fun i=>some (i * es,es)) (ykx len (yhw ez)) ps=some ys) (hlen:ys.length=len * es) (hlim:Nat.ble (len * es) 16777216=true) (hfr:ymi s id) (hm:ment.mentL id ys=false) :
  ybp P N o s (·=⟨yee s.t (some d) (.ls id es len),yei s.h id (some (ygi ys))⟩):=by
 intro B ok0 lv a w hs Q;obtain⟨h1,h2⟩:=zlc (ok:=yba B ok0 lv w) (w:=w) (lv:=lv) (a:=a) hps fun x y hx hxy=>hs.eval hxy;obtain⟨hu,hsz,_,hz,hzl,hpos⟩:=(hT _ _ hk).2.2;obtain⟨zv,hz1,hz2⟩:=hz.run (w:=w);obtain⟨out,g1,g2,g3⟩:=yvl (place':=fun i=>some (i * es,es)) (fun i p h=>h) hf (zmu (z:=ez) len om) (ywv (yrn hone) len) h1 h2;have hlim':len * es<=16777216:=by simpa using hlim
 have hle:len<=len * es:=Nat.le_mul_of_pos_right _ hpos;have hrun:(execOp a.eval o).run P w=.ok (.value (.slice (some ⟨w.heap.size,0,none⟩) len len)) (w.alloc (.cells out.toArray e)):=by
  have e':Instr.fill (fun i=>some (i * es,es)) (madeCells ez.toArray (len * es)) (parts.toArray.map fun x=>(x.1,a.eval x.2)).toList=some out.toArray:=by
   have:(madeCells ez.toArray (len * ez.length)).toList.toArray=madeCells ez.toArray (len * es):=by rw[hzl]
   rw[<- this];have e:(parts.toArray.map fun x=>(x.1,a.eval x.2)).toList=parts.map fun x=>(x.1,a.eval x.2):=by simp
   rw[e];exact g1
  unfold madeCells at e';have n1:¬ (len * es > 2 ^ 24):=by omega
  by_cases h0:len * es=0
  .have hl0:len=0:=by omega
   subst hl0;simp only[qhg,Array.range_zero',Array.map_empty]at e';simp[execOp,ho,Instr.buildSlice,run_underlying hu,(hsz.run (w:=w)).1,newRow,Array.range_zero'];simp at e';rw[e'];simp
  simp only[execOp,ho,Instr.buildSlice,Sem.run_bind,run_underlying hu,(hsz.run (w:=w)).1,Result.andThen_ok,if_neg n1,if_neg h0,hz1,hz2,Sem.run_pure,e',newRow];simp
 unfold Oper.wp;rw[hrun];simp only[Oper.upon,hd];have hnew:=hs.newBlock (ob:=ygi ys) (n:=len * es) hfr (w':=w.alloc (.cells out.toArray e)) (ydw w _) sm (by rw[yjh];exact hm) (fun h=>by rw[yvv]at h;cases h)
  (fun ok' lv' k1 k2=>yfb.2 (yyd (e:=e) (extra:=[]) (by rw[g2.1,hlen];simp) (by rw[qba];exact ydr w _) g2 g3 ok' lv' k1 fun i b mm hb hmm=>k2 i b mm hb (by rw[yjh];exact hmm)))
 refine⟨_,_,rfl,hnew.putOnly hdN (.ls _ rfl fun b n' hb=>?_)⟩;simp only[yke,if_true,Option.some.injEq,Prod.mk.injEq]at hb;obtain⟨rfl,rfl⟩:=hb;exact⟨len,rfl,qbf _,by unfold maxLen;omega,rfl⟩
theorem zko(hT:TOK P T){ti e es eb sz len:Nat}{ea ag:Bool}{ez z:List Value}{parts:List (Nat × Operand)}{ps:List (Nat × AV)}{ys:List AV}(id:Nat)(hk:T ti=some ⟨.slc e es ea eb ez,sz,ag,z⟩)(hone:ez.all Value.oneCell'=true)
  (hps:evP (evF (yak t)) parts=some ps) (hf:yyk (fun i=>some (i * es,es)) (ykx len (yhw ez)) ps=some ys) (hlen:ys.length=len * es) (hlim:Nat.ble (len * es) 16777216=true) (hfr:ymi (S t h) id) (hm:ment.mentL id ys=false)
  (hl:lf ⟨some d,.buildSlice ti len parts.toArray,ty,pos,af,gd⟩=true) (hw:yam ops (yak t) ⟨some d,.buildSlice ti len parts.toArray,ty,pos,af,gd⟩=some true) (hd:Nat.blt d N=true) (k:Lex P N ops lf Q rest (S ((d,.ls id es len)::t) ((id,some (ygi ys))::h))) :
  Lex P N ops lf Q (⟨some d,.buildSlice ti len parts.toArray,ty,pos,af,gd⟩::rest) (S t h):=by
 refine yef hl hw ?_ k;have:=buildM_loud (N:=N) (s:=S t h) (P:=P) hT (o:=⟨some d,.buildSlice ti len parts.toArray,ty,pos,af,gd⟩) id rfl rfl (by simpa using hd) hk hone hps hf hlen hlim hfr hm
 rwa [show (⟨yee (S t h).t (some d) (.ls id es len),yei (S t h).h id (some (ygi ys))⟩:SS)=S ((d,.ls id es len)::t) ((id,some (ygi ys))::h) from ytz]at this
def zur(id:Nat)(t:List (Nat × AV)):List (Nat × AV)->Prop
 | []=>True
 | (x,y)::t'=>(yak t x=some y/\ment id y=false)/\zur id t t'
theorem yxc{id:Nat}{t:List (Nat × AV)}:zur id t []:=trivial
theorem yss{id:Nat}{t:List (Nat × AV)}{x:Nat}{y:AV}{t':List (Nat × AV)}(h1:yak t x=some y)(h2:ment id y=false)(h:zur id t t'):zur id t ((x,y)::t'):=⟨⟨h1,h2⟩,h⟩
theorem yog{id:Nat}{t:List (Nat × AV)}:∀ {t':List (Nat × AV)},zur id t t'->∀ x y,yak t' x=some y->yak t x=some y/\ment id y=false
 | [],_,x,y,h=>by simp[yak]at h
 | (s,z)::t',hs,x,y,h=>by
  simp only[yak]at h;split at h
  .rename_i e;have e:x=s:=by simpa using e
   subst e;simp only[Option.some.injEq]at h;subst h;exact hs.1
  exact yog hs.2 x y h
theorem zpw:∀ {f g:List (Nat × Option LObj)} {M j:Nat} {a b:Option LObj},j≠M->yac (f++(M,a)::g) j=yac (f++(M,b)::g) j
 | [],g,M,j,a,b,h=>by rw[qcw,qcw,yap h,yap h]
 | (x,o)::f,g,M,j,a,b,h=>by
  simp only[qbb,yac];split
  .rfl
  exact zpw h
def zxw(M:Nat):List (Nat × Option LObj)->Bool
 | []=>true
 | (_,o)::f=>(match o with
  | none=>true
  | some o=>!yew M o) && zxw M f
theorem zev{M:Nat}:∀ {f:List (Nat × Option LObj)} {j:Nat} {ob:LObj},zxw M f=true->yac f j=some ob->yew M ob=false
 | [],j,ob,_,h=>by simp[yac]at h
 | (x,o)::f,j,ob,hn,h=>by
  simp only[zxw,qad]at hn;simp only[yac]at h;split at h
  .subst h;simpa using hn.1
  exact zev hn.2 h
theorem ment_matC_self{M sz:Nat}(hM:M < 1000000)(k:Nat)(rows:List (List AV)):ment.mentL M (yfe M sz k rows)=false:=zer k rows fun i _ _=>ydg hM
theorem zcv(hT:TOK P T){ti e eb z0:Nat}{ea ag:Bool}{ez z:List Value}{M n d2 sz k:Nat}{r:List AV}{rows:List (List AV)}{f:List (Nat × Option LObj)}{t':List (Nat × AV)}(hk:T ti=some ⟨.slc e 1 ea eb ez,z0,ag,z⟩)(hx:evF (yak t) x=some (.ls M 1 n))(hy:evF (yak t) y=some (.ls d2 1 1))(hf:zlu f=true)(hM:Nat.blt M 1000000=true)(hd2:Nat.blt d2 1000000=true)(hne:Nat.beq M d2=false)(hkey:(f.all fun x=>!Nat.beq x.1 M)=true)(hkey2:(f.all fun x=>!Nat.beq x.1 d2)=true)(hno:zxw M f=true)(hn:n=rows.length)(hr:r.length / sz=k)(hlim:n+1<=4294967296/\(n+1) * eb<=140737488355328)(ht:zur M t t')(hl:lf ⟨some d,.call { callee:=.builtin .append,args:=#[x,y],argTypes:=#[ti,ti] },ty,pos,af,gd⟩=true)(hw:yam ops (yak t) ⟨some d,.call { callee:=.builtin .append,args:=#[x,y],argTypes:=#[ti,ti] },ty,pos,af,gd⟩=some true)(hd:Nat.blt d N=true)(kk:Lex P N ops lf Q rest (S ((d,.ls M 1 (n+1))::t') (f++ybz M sz (rows++[r]) []))):
  Lex P N ops lf Q (⟨some d,.call { callee:=.builtin .append,args:=#[x,y],argTypes:=#[ti,ti] },ty,pos,af,gd⟩::rest) (S t ((d2,some (ygi [.ls (fam M n) sz k]))::(fam M n,some (.vec r))::(f++ybz M sz rows []))):=by
 have hM':M < 1000000:=by simpa using hM
 have hd2':d2 < 1000000:=by simpa using hd2
 have hne':M≠d2:=fun e=>by subst e;simp at hne
 have e0:yac (f++ybz M sz rows []) M=some (ygi (yfe M sz 0 rows)):=by rw[ybo hkey,qba]
 have hadd:=mat_add (sz:=sz) (rows:=rows) (r:=r) (ex:=[.ls (fam M n) sz k]) (ex':=[]) hf hM' hn (by rw[hr]);have hat:∀ j,j≠M->yac (f++ybz M sz (rows++[r]) []) j=yac ((fam M n,some (.vec r))::(f++ybz M sz rows [])) j:=by
  intro j hj;rw[<- hadd];by_cases hj2:j=fam M n
  .subst hj2;rw[ybb,ybb]
  rw[yap hj2,yap hj2];exact zpw hj
 have hnd2:yac (f++ybz M sz rows []) d2=none:=by
  rw[ybh f _ (yls hkey2),ybz,yap (Ne.symm hne'),yje M 0 rows fun i _=>ydg hd2']
 obtain⟨g1,g2⟩:(∀ x y,yak t' x=some y->y=.any\/(yak t x=some y/\ment M y=false))/\∀ x y,yak t' x=some y->∃ z,yak t x=some z:=⟨fun x y h=>.inr (yog ht x y h),fun x y h=>⟨y,(yog ht x y h).1⟩⟩;have e:S ((d,.ls M 1 (n+1))::t') (f++ybz M sz (rows++[r]) [])=(⟨yee (S t' (f++ybz M sz (rows++[r]) [])).t (some d) (.ls M 1 (n+1)),(S t' (f++ybz M sz (rows++[r]) [])).h⟩:SS):=by
  unfold S;rw[ydm]
 refine yef hl hw ?_ kk;rw[e];refine appendM_loud (id:=M) (id2:=d2) (len:=n) (m:=1) (xs:=yfe M sz 0 rows) (cs:=[.ls (fam M n) sz k]) hT rfl rfl (by simpa using hd) hk hx ?_ (by rw[ydz,hn];omega) hy ?_ sm (zqo (ment_matC_self hM' 0 rows)) (fun c hc=>?_) hlim g1 g2 (fun j ob' hj hob=>?_) ?_
 .simp only[S];rw[yap hne',yap (ydg hM'),e0]
 .simp only[S];rw[ybb]
 .rcases qau.1 hc with rfl
  exact ycp (Ne.symm (ydg hM'))
 .simp only[S]at hob ⊢;rw[hat j hj]at hob;have hjd:j≠d2:=by
   rintro rfl;rw[yap (ydg hd2'),hnd2]at hob;cases hob
  refine⟨?_,ob',by rw[yap hjd];exact hob,.inl rfl⟩;by_cases hj2:j=fam M n
  .subst hj2;rw[ybb]at hob;cases hob;rfl
  rw[yap hj2]at hob;rcases ydn f (ybz M sz rows []) (j:=j)with h|⟨_,h⟩
  .rw [h]at hob;exact zev hno hob
  rw[h,ybz,yap hj]at hob;by_cases hb:∃ i,j=fam M i
  .obtain ⟨i,rfl⟩:=hb;have:=ylp M 0 i rows;rw[qay]at this;rw[this]at hob;cases hri:rows[i]? with
   | none=>rw[hri]at hob;cases hob
   | some q=>rw[hri]at hob;cases hob;rfl
  rw[yje M 0 rows fun i _ e=>hb ⟨i,e⟩]at hob;cases hob
 simp only[S];rw[ybo hkey,zeo,qba,qay,hr,hn]
theorem znw(hT:TOK P T){ti e es eb sz:Nat}{ea ag:Bool}{ez z:List Value}{id len:Nat}{xs:List AV}{rows:List (List AV)}{t':List (Nat × AV)}{h0:List (Nat × Option LObj)}(hk:T ti=some ⟨.slc e es ea eb ez,sz,ag,z⟩)(hx:evF (yak t) x=some (.ls id es len))(hxl:xs.length=len * es)(hy:evF (yak t) y=some (.sl es rows))(hcp:∀ c∈rows.flatten,yas c=true)(hlim:len+rows.length<=4294967296/\(len+rows.length) * eb<=140737488355328)(ht:zur id t t')(h2:ybs id h0=true)(hl:lf ⟨some d,.call { callee:=.builtin .append,args:=#[x,y],argTypes:=#[ti,ti] },ty,pos,af,gd⟩=true)(hw:yam ops (yak t) ⟨some d,.call { callee:=.builtin .append,args:=#[x,y],argTypes:=#[ti,ti] },ty,pos,af,gd⟩=some true)(hd:Nat.blt d N=true)(k:Lex P N ops lf Q rest (S ((d,.ls id es (len+rows.length))::t') ((id,some (.vec (xs++rows.flatten)))::h0))):
  Lex P N ops lf Q (⟨some d,.call { callee:=.builtin .append,args:=#[x,y],argTypes:=#[ti,ti] },ty,pos,af,gd⟩::rest) (S t ((id,some (.vec xs))::h0)):=by
 have e:S ((d,.ls id es (len+rows.length))::t') ((id,some (.vec (xs++rows.flatten)))::h0)=(⟨yee (S t' ((id,some (.vec (xs++rows.flatten)))::h0)).t (some d) (.ls id es (len+rows.length)),(S t' ((id,some (.vec (xs++rows.flatten)))::h0)).h⟩:SS):=by
  unfold S;rw[ydm]
 refine yef hl hw ?_ k;rw[e];refine yll hT rfl rfl (by simpa using hd) hk hx (by simp[S,yac]) hxl hy (fun ok w lv u hr=>yxb hr) hcp hlim (fun x y h=>.inr (yog ht x y h)) (fun x y h=>⟨y,(yog ht x y h).1⟩) (fun j ob' hj hob=>?_) ?_
 .simp only[S]at hob ⊢;rw[yap hj]at hob ⊢;exact⟨(yer h2).2 j ob' hob,ob',hob,.inl rfl⟩
 simp[S,yac]
theorem A_rename{c:Code}{Q:Exit->SS->Prop}{t t':List (Nat × AV)}{h h':List (Nat × Option LObj)}(d id new:Nat){sz n:Nat}{r:List AV}(hd:yak t d=some (.ls id sz n))(hid:yac h id=some (.vec r))(hf:ymi (S t h) new)(ht:zap t t')(hnew:yac h' new=some (.vec r))
  (hh:∀ j ob,j≠new->yac h' j=some ob->j≠id/\yac h j=some ob) (k:A P N c Q (S ((d,.ls new sz n)::t') h')):A P N c Q (S t h):=by
 intro B ok0 lv a w hs;have hne:new≠id:=by rintro rfl;have:=hf.1;simp only[S]at this;rw[hid]at this;cases this
 let lv':Live:=fun j=>if j=new then lv id else if j=id then none else if (yac h' j).isSome then lv j else none
 have hblk:∀ j b m,lv' j=some (b,m)->(j=new/\lv id=some (b,m))\/(j≠new/\j≠id/\(yac h' j).isSome=true/\lv j=some (b,m)):=by
  intro j b m hj;simp only[lv']at hj;split at hj
  .rename_i e;exact .inl ⟨e,hj⟩
  split at hj
  .cases hj
  split at hj
  .rename_i h1 h2 h3;exact .inr ⟨h1,h2,h3,hj⟩
  cases hj
 have hok:∀ g,yba B ok0 lv w g->yba B ok0 lv' w g:=fun g hg=>⟨hg.1,hg.2.1,fun j b m hj=>by
  rcases hblk j _ m hj with⟨_,h⟩|⟨_,_,_,h⟩
  .exact hg.2.2 id b m h
  exact hg.2.2 j b m h⟩
 have hrel:∀ (x:AV) (u:Value),ment new x=false->Rel (yba B ok0 lv w) w lv x u->Rel (yba B ok0 lv' w) w lv' x u:=fun x u hm hr=>
  (hr.relive fun j b m hj hmj=>by
   rcases hblk j _ m hj with⟨rfl,_⟩|⟨_,_,_,h⟩
   .rw [hm]at hmj;cases hmj
   exact h).keep fun g hg=>⟨hok g hg,rfl⟩
 have hobj:∀ (ob:LObj) (b m:Nat),yew new ob=false->yho (yba B ok0 lv w) lv w b m ob->yho (yba B ok0 lv' w) lv' w b m ob:=fun ob b m hm ho=>
  (ho.relive fun j b m hj hmj=>by
   rcases hblk j _ m hj with⟨rfl,_⟩|⟨_,_,_,h⟩
   .rw [hm]at hmj;cases hmj
   exact h).keep (fun g hg=>⟨hok g hg,rfl⟩) rfl
 refine k B ok0 lv' a w ⟨⟨hs.inv.base,hs.inv.ok0lt,fun j hj=>?_,fun i j b m m' hi hj=>?_,fun j ob hj=>?_⟩,hs.size,fun x y hy=>?_,hs.defers,hs.big,fun j b o hN hj hc hb=>?_⟩
 .simp only[S]at hj;simp only[lv'];split
  .rename_i e;subst e;rw[hnew]at hj;cases hj
  split
  .rfl
  rw[hj];rfl
 .rcases hblk i _ m hi with⟨rfl,h1⟩|⟨a1,a2,_,h1⟩ <;> rcases hblk j _ m' hj with⟨rfl,h2⟩|⟨b1,b2,_,h2⟩
  .rfl
  .exact absurd (hs.inv.inj _ _ _ _ _ h1 h2).symm b2
  .exact absurd (hs.inv.inj _ _ _ _ _ h1 h2) a2
  exact hs.inv.inj _ _ _ _ _ h1 h2
 .simp only[S]at hj;by_cases hjn:j=new
  .subst hjn;rw[hnew]at hj;cases hj;obtain⟨b,m,h1,h2⟩:=hs.inv.obj id (.vec r) hid;refine⟨b,m,by simp only[lv',if_true];exact h1,?_⟩;cases b with
   | none=>exact h2
   | some b=>exact⟨h2.1,h2.2.1,hobj _ _ _ rfl h2.2.2⟩
  obtain⟨hji,hj'⟩:=hh j ob hjn hj;obtain⟨b,m,h1,h2⟩:=hs.inv.obj j ob hj';refine⟨b,m,by simp only[lv',if_neg hjn,if_neg hji,hj];exact h1,?_⟩;cases b with
  | none=>exact h2
  | some b=>exact⟨h2.1,h2.2.1,hobj _ _ _ (hf.2.2 j ob hj') h2.2.2⟩
 .simp only[S,yak]at hy;split at hy
  .rename_i e;have e:x=d:=by simpa using e
   subst e;simp only[Option.some.injEq]at hy;subst hy;obtain⟨g1,g2⟩:=hs.frame x _ hd;refine⟨g1,?_⟩;cases g2 with
   | ls _ h1 h2=>
    refine .ls _ h1 fun b m hb=>?_;rcases hblk new b m hb with⟨_,h⟩|⟨h,_⟩
    .exact h2 b m h
    exact absurd rfl h
  have hy':=ycd ht x y hy;obtain⟨g1,g2⟩:=hs.frame x y hy';exact⟨g1,hrel y _ (hf.2.1 x y hy') g2⟩
 simp only[S]at hj;by_cases hjn:j=new
 .subst hjn;rw[hnew]at hj;cases hj;cases hc
 obtain⟨hji,hj'⟩:=hh j o hjn hj;obtain⟨m,h1⟩:=hs.pin j b o hN hj' hc hb;exact⟨m,by simp only[lv',if_neg hjn,if_neg hji,hj];exact h1⟩
theorem zib{f:FuncId}{args:List AV}{r r':AV}{hs:Nat->Option LObj}(hc:ytb P f args (fun _=>none) r hs)(hp:yas r'=true)(hf:Frz hs r r'):Con P f args r':=by
 refine⟨hc.1,hp,fun ok0 w us hG hok hus=>?_⟩;have hno:∀ b,¬ yby (fun _=>none) b:=fun b ⟨_,_,h⟩=>by cases h
 have hi:Inv (yfc w (fun _=>none)) ok0 (fun _=>none) (fun _=>none) w:=⟨⟨rfl,rfl,rfl,qbf _,fun _ _ _=>rfl,hG,hG.size,fun k h=>(hno k h).elim,fun l h=>by cases h⟩,hok,fun _ _=>rfl,(fun i j b n m h=>by cases h),(fun id x h=>by cases h)⟩;refine(hc.2.2 ok0 (fun _=>none) w us hi ⟨hus.1,fun i x u hx hu=>(hus.2 i x u hx hu).keep fun g hg=>⟨⟨.inl hg,hok g hg,fun id b n h=>by cases h⟩,rfl⟩⟩).mono ?_;rintro e w' ⟨u,lv',rfl,h1,h2,_⟩;refine⟨u,rfl,((hf _ _ _ _ _ h2 h1).keep fun g hg=>⟨⟨?_,hg.2⟩,rfl⟩),?_⟩
 .rcases hg.1 with h|h|h
  .exact .inl h
  .exact (hno g h).elim
  exact .inr h
 have hb:=h2.base;exact⟨hb.os,hb.tape,hb.output,hb.size,fun k hk=>hb.block k hk (hno k)⟩
theorem xgj(hT:TOK P T){ti e es eb sz:Nat}{ea ag:Bool}{ez z0:List Value}{id z len:Nat}{ob:LObj}(hk:T ti=some ⟨.slc e es ea eb ez,sz,ag,z0⟩)(hx:evF (yak t) x=some (.ls id z len))(hh:yac h id=some ob)(hw:yam ops (yak t) ⟨some d,.call { callee:=.builtin .len,args:=#[x],argTypes:=#[ti] },ty,pos,af,gd⟩=some true)(hd:Nat.blt d N=true)(k:Lex P N ops lf Q rest (S ((d,.v (.int .i64 len))::t) h)):Lex P N ops lf Q (⟨some d,.call { callee:=.builtin .len,args:=#[x],argTypes:=#[ti] },ty,pos,af,gd⟩::rest) (S t h):=
 ycm (zat (hT _ _ hk).2.2 hx hh) hw hd k
theorem you{id x:Nat}{y:AV}{t:List (Nat × AV)}(h1:ment id y=false)(h2:ydl id t=true):ydl id ((x,y)::t)=true:=by simp[ydl,h1,h2]
theorem yuk{id i:Nat}{o:LObj}{h:List (Nat × Option LObj)}(h1:id≠i)(h2:yew id o=false)(h3:ybs id h=true):ybs id ((i,some o)::h)=true:=by simp[ybs,ycp h1,h2,h3]
theorem ywe{d M k s n:Nat}(hd:Nat.blt d 1000000=true):ment d (.ls (fam M k) s n)=false:=ycp (Ne.symm (ydg (by simpa using hd)))
end
section
open Go.RowKit
variable{P:Program}{T:Nat->Option Ty}{N:Nat}{ops:Array Oper}{lf:Oper->Bool}{Q:SS->Prop}{t:List (Nat × AV)}{h:List (Nat × Option LObj)}{rest:List Oper}{d:Nat}{ty:TypeId}{pos:String}{af:Array Edge}{gd:Option (Nat × Bool)}
theorem ybp.weak{o:Oper}{s s':SS}{R:SS->Prop}(h:∀ (B:Bse) (ok0:Nat->Prop) (lv:Live) (a:Act) (w:World),Sim B ok0 N s lv a w->Sim B ok0 N s' lv a w)(k:ybp P N o s' R):ybp P N o s R:=
 fun B ok0 lv a w hs Q=>k B ok0 lv a w (h B ok0 lv a w hs) Q
theorem Sim.oneM{ok0:Nat->Prop}{s:SS}{a:Act}(hs:Sim B ok0 N s lv a w){id:Nat}{xs:List AV}(i:Nat)(hx:s.h id=some (ygi xs)):Sim B ok0 N ⟨s.t,fun j=>if j=id then some (ygi (xs.set i .one))else s.h j⟩ lv a w:=by
 refine⟨⟨hs.inv.base,hs.inv.ok0lt,fun j hj=>?_,hs.inv.inj,fun j x hj=>?_⟩,hs.size,hs.frame,hs.defers,hs.big,fun j b o hN hj hc hb=>?_⟩
 .simp only at hj;split at hj
  .cases hj
  exact hs.inv.dom j hj
 .simp only at hj;split at hj
  .rename_i e;subst e;simp only[Option.some.injEq]at hj;subst hj;obtain⟨b,n,h1,h2⟩:=hs.inv.obj j _ hx;refine⟨b,n,h1,?_⟩;cases b with
   | none=>rw[ygs h2];exact .inl rfl
   | some b=>
    obtain⟨c,e,g1,g2,g3,g4,g5⟩:=yfb.1 h2.2.2;refine⟨h2.1,h2.2.1,yfb.2 ⟨c,e,g1,g2,by rw[qfk];exact g3,fun y hy=>?_,fun k y u hy hu=>?_⟩⟩
    .rcases qeu hy with hy|rfl
     .exact g4 y hy
     rfl
    rw[qdb]at hy;split at hy
    .rename_i e;subst e;split at hy
     .rename_i hlt;simp only[Option.some.injEq]at hy;subst hy;have hg:=qae hlt;exact .one _ ((g5 i _ u hg hu).oneCell (g4 _ (qfs hlt)))
     cases hy
    exact g5 k y u hy hu
  exact hs.inv.obj j x hj
 simp only at hj;split at hj
 .simp only[Option.some.injEq]at hj;subst hj;rw[yvv]at hc;cases hc
 exact hs.pin j b o hN hj hc hb
theorem zdw{f:List (Nat × Option LObj)}{M j:Nat}{o ob:LObj}{rows:List (List AV)}(h:yac (f++(M,some o)::ypl M 0 rows) j=some ob):yac f j=some ob\/(j=M/\(∀ x∈f,x.1≠j)/\ob=o)\/∃ (k:Nat) (r:List AV),j=fam M k/\rows[k]?=some r/\ob=.vec r:=by
 rcases ydn f ((M,some o)::ypl M 0 rows) (j:=j)with e|⟨hne,e⟩
 .rw [e]at h;exact .inl h
 rw[e]at h;by_cases hj:j=M
 .subst hj;rw[ybb]at h;cases h;exact .inr (.inl ⟨rfl,hne,rfl⟩)
 rw[yap hj]at h;by_cases hf:∃ k,j=fam M k
 .obtain ⟨k,rfl⟩:=hf;have:=ylp M 0 k rows;rw[qay]at this;rw[this]at h;cases hr:rows[k]? with
  | none=>rw[hr]at h;cases h
  | some r=>rw[hr]at h;cases h;exact .inr (.inr ⟨k,r,rfl,hr,rfl⟩)
 rw[yje M 0 rows fun i _ e=>hf ⟨i,e⟩]at h;cases h
theorem zlv:∀ {l:List AV},yps.lowL l=true->∀ x∈l,yps x=true
 | y::l,h,x,hx=>by
  simp only[yps.lowL,qad]at h;rcases qaq.1 hx with rfl|hx
  .exact h.1
  exact zlv h.2 x hx
theorem matC_mem{M sz:Nat}{k:Nat}{rows:List (List AV)}{x:AV}(h:x∈yfe M sz k rows):∃ i n,x=.ls (fam M (k+i)) sz n:=by
 obtain⟨i,hi⟩:=qao h;rw[yej]at hi;cases hr:rows[i]? with
 | none=>rw[hr]at hi;cases hi
 | some r=>rw[hr]at hi;cases hi;exact⟨i,_,rfl⟩
theorem ment_hole{M sz i:Nat}{rows:List (List AV)}{extra:List AV}(he:yps.lowL extra=true):∀ x∈(yfe M sz 0 rows++extra).set i .one,ment (fam M i) x=false:=by
 intro x hx;obtain⟨j,hj⟩:=qao hx;rw[qdb]at hj;split at hj
 .split at hj
  .cases hj;rfl
  cases hj
 rename_i hne;rcases qat.1 (qab hj)with hm|hm
 .have hlt:j < (yfe M sz 0 rows).length\/(yfe M sz 0 rows).length<=j:=by omega
  rcases hlt with hlt|hlt
  .rw [qam hlt,yej]at hj;cases hr:rows[j]? with
   | none=>rw[hr]at hj;cases hj
   | some r=>
    rw[hr]at hj;cases hj;exact ycp fun e=>hne (by have:=yug e;omega)
  rw[qah hlt]at hj;exact yps.ment (yfw M i) (zlv he x (qab hj))
 exact yps.ment (yfw M i) (zlv he x hm)
theorem ybp.sub{o:Oper}{s s1 s2:SS}(h:ybp P N o s (·=s1))(hs:Sub s2 s1):ybp P N o s (·=s2):=
 fun B ok0 lv a w h0 Q=>Oper.wp_mono (fun a' w' ⟨s',lv',e,hs'⟩=>by
  subst e
  obtain⟨lv'',h2⟩:=hs'.weak hs
  exact⟨s2,lv'',rfl,h2⟩) (h B ok0 lv a w h0 Q)
theorem yqp{o:Oper}{s:SS}{ti e es eb sz len M i:Nat}{ea ag:Bool}{ez z:List Value}{r:List AV}{rows news:List (List AV)}{extra:List AV}{f:List (Nat × Option LObj)}{t':Nat->Option AV}(hT:TOK P T)(ht:∀ x y,t' x=some y->y=.any\/(s.t x=some y/\ment (fam M i) y=false))(hlt9:∀ x y,t' x=some y->∃ z,s.t x=some z)(ho:o.op=.call { callee:=.builtin .append,args:=#[x,y],argTypes:=#[ti,ti] })(hdo:o.dst=some d)(hk:T ti=some ⟨.slc e es ea eb ez,sz,ag,z⟩)(hx:evF s.t x=some (.ls (fam M i) es len))(hr:rows[i]?=some r)(hxl:r.length=len * es)(hy:evF s.t y=some (.sl es news))(hcp:∀ c∈news.flatten,yas c=true)(hlim:len+news.length<=4294967296/\(len+news.length) * eb<=140737488355328)(hsh:s.h=yac (f++ybz M es rows extra))(hf:zqk f=true)(hM:Nat.blt M 1000000=true)(hkey:(f.all fun x=>!Nat.beq x.1 M)=true)(he:yps.lowL extra=true)(hd:Nat.blt d N=true):
  ybp P N o s (·=⟨yee t' (some d) (.ls (fam M i) es (len+news.length)),yac (f++(M,some (ygi ((yfe M es 0 rows++extra).set i .one)))::ypl M 0 (rows.set i (r++news.flatten)))⟩):=by
 have hM':M < 1000000:=by simpa using hM
 have hfl:=ysc hf;have hkn:=yls hkey;have hlt:=(qaa.1 hr).1;generalize hys:(yfe M es 0 rows++extra).set i .one=ys;have hout:yac (f++ybz M es rows extra) M=some (ygi (yfe M es 0 rows++extra)):=ybo hkey;refine ybp.weak (fun B ok0 lv a w hs=>hs.oneM i (id:=M) (by rw[hsh];exact hout)) ?_;refine yll (s':=⟨t',yac (f++(M,some (ygi ys))::ypl M 0 (rows.set i (r++news.flatten)))⟩) hT ho hdo (by simpa using hd) hk hx ?_ hxl hy (fun ok w lv u hr=>yxb hr) hcp hlim ht hlt9 (fun j ob' hj hob=>?_) ?_
 .simp only[if_neg (Ne.symm (ydg (k:=i) hM')),hsh];exact ylx hfl hM' hr
 .rcases zdw hob with g|⟨rfl,hne,rfl⟩|⟨k,r',rfl,hr',rfl⟩
  .obtain ⟨q1,q2⟩:=ylv hf j _ g;have hjM:j≠M:=fun e9=>by
    subst e9;have:=ybh f (ybz j es rows extra) (j:=j) hkn;rw[yft (g:=ybz j es rows extra) g]at this;rw[yfn]at this;cases this;rcases ydn f [] (j:=j)with e|⟨hne,e⟩
    .have h9:∀ (f:List (Nat × Option LObj)),(∀ x∈f,x.1≠j)->yac f j=none:=fun f=>by
      induction f with
      | nil=>intro _;rfl
      | cons p f ih=>
       intro hp;obtain⟨p1,p2⟩:=p;rw[yap (Ne.symm (hp (p1,p2) sm))];exact ih fun x hx=>hp x (by simp[hx])
     rw[h9 f hkn]at g;cases g
    rw[qba]at e;rw[e]at g;cases g
   refine⟨xba.ment (yfw M i) q1,ob',?_,.inl rfl⟩;simp only[if_neg hjM,hsh];exact yft g
  .refine ⟨?_,_,by simp only[if_true];rfl,.inl (by rw[hys])⟩;rw[yjh,<- hys];exact ygk (ment_hole he)
  have hki:k≠i:=fun e=>hj (by rw[e]);refine⟨rfl,.vec r',?_,.inl rfl⟩;simp only[if_neg (Ne.symm (ydg (k:=k) hM')),hsh];rw[List.getElem?_set_ne (Ne.symm hki)]at hr';exact ylx hfl hM' hr'
 show yac (f++(M,some (ygi ys))::ypl M 0 (rows.set i (r++news.flatten))) (fam M i)=_;rw[ybh f _ (fun x hx e=>by have:=yhh hfl x hx;have:=yfw M i;omega),yap (Ne.symm (ydg hM'))];have:=ylp M 0 i (rows.set i (r++news.flatten));rw[qay]at this;rw[this,qee hlt];rfl
theorem zln{f:List (Nat × Option LObj)}{M sz i n:Nat}{rows:List (List AV)}{extra r':List AV}(hf:zlu f=true)(hM:M < 1000000)(hkey:(f.all fun x=>!Nat.beq x.1 M)=true)(hi:i < rows.length)(hn:r'.length / sz=n) :
  yac ((M,some (ygi (((yfe M sz 0 rows++extra).set i .one).set i (.ls (fam M i) sz n))))::(f++(M,some (ygi ((yfe M sz 0 rows++extra).set i .one)))::ypl M 0 (rows.set i r')))=yac (f++ybz M sz (rows.set i r') extra):=by
 have hkn:=yls hkey;have e:((yfe M sz 0 rows++extra).set i .one).set i (.ls (fam M i) sz n)=yfe M sz 0 (rows.set i r')++extra:=by
  rw[qhk,List.set_append_left _ _ (by rw[ydz];exact hi)];congr 1;apply qdt;intro j;rw[qdb,ydz,yej,yej,qdb];by_cases hj:i=j
  .subst hj;simp[hi,hn]
  simp[hj]
 rw[e];funext j;by_cases hj:j=M
 .subst hj;rw[ybb,ybo hkey]
 rw[yap hj];rcases ydn f ((M,some (ygi ((yfe M sz 0 rows++extra).set i .one)))::ypl M 0 (rows.set i r')) (j:=j)with g|⟨hne,g⟩
 .by_cases hf':∃ x∈f,x.1=j
  .have:∀ (f:List (Nat × Option LObj)) (g1 g2:List (Nat × Option LObj)),(∃ x∈f,x.1=j)->yac (f++g1) j=yac (f++g2) j:=by
    intro f;induction f with
    | nil=>rintro g1 g2 ⟨x,hx,_⟩;cases hx
    | cons p f ih=>
     intro g1 g2 hx;obtain⟨p1,p2⟩:=p;by_cases hp:j=p1
     .subst hp;rw[qbb,qbb,ybb,ybb]
     rw[qbb,qbb,yap hp,yap hp];obtain⟨x,hx,hxj⟩:=hx;rcases qaq.1 hx with rfl|hx
     .exact absurd hxj.symm hp
     exact ih g1 g2 ⟨x,hx,hxj⟩
   exact this f _ _ hf'
  have hne:∀ x∈f,x.1≠j:=fun x hx e=>hf' ⟨x,hx,e⟩;rw[ybh f _ hne,ybh f _ hne,ybz,yap hj,yap hj]
 rw[g,ybh f _ hne,ybz,yap hj,yap hj]
theorem zcq{c:Code}{Q:Exit->SS->Prop}{f:List (Nat × Option LObj)}(M sz n:Nat)(hf:zqk f=true)(ht:xfj t=true)(hM:Nat.blt M 1000000=true)(hkey:(f.all fun x=>!Nat.beq x.1 M)=true)
  (hh:yac h=yac (f++[(M,some (ygi (List.replicate n (.v (.slice none 0 0)))))])) (k:A P N c Q (S t (f++ybz M sz (List.replicate n []) []))):A P N c Q (S t h):=by
 rw[show S t h=S t (f++[(M,some (ygi (List.replicate n (.v (.slice none 0 0)))))]) by unfold S;rw[hh]];intro B ok0 lv a w hs;have hM':M < 1000000:=by simpa using hM
 have hfl:=ysc hf;have hkn:=yls hkey
 let lv':Live:=fun j=>match yac (ypl M 0 (List.replicate n ([]:List AV))) j with|some _=>some (none,0)|none=>lv j
 have hlv:∀ j b m,lv' j=some (b,m)->(b=none/\m=0/\∃ i,j=fam M i)\/lv j=some (b,m):=by
  intro j b m hj;simp only[lv']at hj;split at hj
  .rename_i ob ho;cases hj;refine .inl ⟨rfl,rfl,?_⟩;by_cases hfm:∃ k,j=fam M k
   .exact hfm
   rw[yje M 0 _ fun i _ e=>hfm ⟨i,e⟩]at ho;cases ho
  exact .inr hj
 have hlow:∀ j,j < 1000000->lv' j=lv j:=by
  intro j hj;simp only[lv'];rw[yje M 0 _ fun i _ e=>by have:=yfw M i;omega]
 have hok:∀ g,yba B ok0 lv w g->yba B ok0 lv' w g:=fun g hg=>⟨hg.1,hg.2.1,fun j b m hj=>by
  rcases hlv j _ m hj with⟨h,_⟩|h
  .cases h
  exact hg.2.2 j b m h⟩
 have hre:∀ (x:AV) (u:Value),yps x=true->Rel (yba B ok0 lv w) w lv x u->Rel (yba B ok0 lv' w) w lv' x u:=fun x u hx hr=>
  (hr.relive fun j b m hj hm=>by
   rcases hlv j b m hj with⟨_,_,i,rfl⟩|h
   .rw [yps.ment (yfw M i) hx]at hm;cases hm
   exact h).keep fun g hg=>⟨hok g hg,rfl⟩
 have hfam:∀ i,lv (fam M i)=none:=fun i=>hs.inv.dom _ (by
  show yac (f++_) _=none
  rw[ybh f _ (fun x hx e=>by have:=yhh hfl x hx;have:=yfw M i;omega),yap (Ne.symm (ydg hM'))]
  rfl)
 refine k B ok0 lv' a w ⟨⟨hs.inv.base,hs.inv.ok0lt,fun j hj=>?_,fun i j b m q h1 h2=>?_,fun j x hj=>?_⟩,hs.size,fun x y hy=>⟨(hs.frame x y hy).1,hre y _ (ywa ht x y hy) (hs.frame x y hy).2⟩,hs.defers,hs.big,fun j b o hN hj hc hb=>?_⟩
 .simp only[S]at hj;by_cases hfm:∃ k,j=fam M k
  .obtain ⟨i,rfl⟩:=hfm;rw[zjc hfl hM']at hj;simp only[lv'];have e:=ylp M 0 i (List.replicate n ([]:List AV));rw[qay]at e;rw[e,hj];exact hfam i
  have e1:lv' j=lv j:=by
   simp only[lv'];rw[yje M 0 _ fun i _ e=>hfm ⟨i,e⟩]
  rw[e1];refine hs.inv.dom j ?_;show yac (f++[_]) j=none;rcases ydn f [(M,some (ygi (List.replicate n (.v (.slice none 0 0)))))] (j:=j)with e|⟨hne,e⟩
  .rw [e];cases hq:yac f j with
   | none=>rfl
   | some o=>rw[yft (g:=ybz M sz (List.replicate n []) []) hq]at hj;cases hj
  rw[ybh f _ hne]at hj;rw[e];by_cases hjM:j=M
  .subst hjM;rw[yfn]at hj;cases hj
  rw[yap hjM];rfl
 .rcases hlv i _ m h1 with⟨h,_⟩|h1
  .cases h
  rcases hlv j _ q h2 with⟨h,_⟩|h2
  .cases h
  exact hs.inv.inj i j b m q h1 h2
 .rcases zdw hj with g|⟨rfl,hne,rfl⟩|⟨i,r,rfl,hr,rfl⟩
  .obtain ⟨q1,q2⟩:=ylv hf j _ g;obtain⟨b,m,h1,h2⟩:=hs.inv.obj j x (yft g);refine⟨b,m,by rw[hlow j q2];exact h1,?_⟩;cases b with
   | none=>exact h2
   | some b=>
    refine⟨h2.1,h2.2.1,(h2.2.2.relive fun q b m hq hm=>?_).keep (fun g hg=>⟨hok g hg,rfl⟩) rfl⟩;rcases hlv q _ m hq with⟨_,_,i,rfl⟩|h
    .rw [xba.ment (yfw M i) q1]at hm;cases hm
    exact h
  .obtain ⟨b,m,h1,h2⟩:=hs.inv.obj j (ygi (List.replicate n (.v (.slice none 0 0)))) (by
    show yac (f++[_]) j=_
    rw[ybh f _ hne,ybb])
   refine⟨b,m,by rw[hlow j hM'];exact h1,?_⟩;rw[qba];cases b with
   | none=>
    have e:=ygs h2;cases n with
    | zero=>exact .inl rfl
    | succ n=>simp[qbq]at e
   | some b=>
    obtain⟨c,e,g1,g2,g3,g4,g5⟩:=yfb.1 h2.2.2;refine⟨h2.1,h2.2.1,yfb.2 ⟨c,e,g1,g2,by rw[ydz,qdw];rw[qdw]at g3;exact g3,fun y hy=>?_,fun q y u hy hu=>?_⟩⟩
    .obtain ⟨i,m,rfl⟩:=matC_mem hy;rfl
    rw[yej,qcs]at hy;split at hy
    .rename_i hlt;simp only[qav,Option.some.injEq,qew,Nat.zero_div,qay]at hy;subst hy;have h5:=ykw (g5 q _ u (by rw[qcs,if_pos hlt]) hu);subst h5;refine .ls _ rfl fun b m hb=>?_;have e:=ylp j 0 q (List.replicate n ([]:List AV));rw[qay,qcs,if_pos hlt]at e;simp only[lv',e,qav]at hb;cases hb;exact⟨rfl,rfl⟩
    cases hy
  rw[qcs]at hr;split at hr
  .rename_i hlt;cases hr;refine⟨none,0,?_,.inl rfl⟩;have e:=ylp M 0 i (List.replicate n ([]:List AV));rw[qay,qcs,if_pos hlt]at e;simp only[lv',e,qav]
  cases hr
 rcases zdw hj with g|⟨rfl,hne,rfl⟩|⟨i,r,rfl,hr,rfl⟩
 .obtain ⟨m,hm⟩:=hs.pin j b o hN (yft g) hc hb;exact⟨m,by rw[hlow j (ylv hf j _ g).2];exact hm⟩
 .rw [yvv]at hc;cases hc
 cases hc
end
section
open Go.RowKit
section
variable{P:Program}{N:Nat}{ops:Array Oper}{lf:Oper->Bool}{Q:SS->Prop}
structure TwoI (vals:List (Nat × Nat × AV)) (base:List (Nat × AV)) (mem:List (Nat × LObj)) (a b ia ib ja jb:Nat) (za zb ca cb:LObj) (L:Nat->Bool) (s:SS):Prop where
 calm:∀ x∈vals,L x.1=true->s.t x.2.1=some x.2.2
 base:∀ x∈base,s.t x.1=some x.2
 mem:∀ x∈mem,s.h x.1=some x.2
 fa:L ia=false->ymi s a
 fb:L ib=false->ymi s b
 ta:L ia=true->s.t a=some (.lp a 0)
 tb:L ib=true->s.t b=some (.lp b 0)
 ha:L ia=true->s.h a=some (if L ja then ca else za)
 hb:L ib=true->s.h b=some (if L jb then cb else zb)
 oa:L ja=true->L ia=true
 ob:L jb=true->L ib=true
variable{vals:List (Nat × Nat × AV)}{base:List (Nat × AV)}{mem:List (Nat × LObj)}{a b ia ib ja jb:Nat}{za zb ca cb:LObj}{L:Nat->Bool}{s:SS}
theorem TwoI.swap(h:TwoI vals base mem a b ia ib ja jb za zb ca cb L s):TwoI vals base mem b a ib ia jb ja zb za cb ca L s:=⟨h.calm,h.base,h.mem,h.fb,h.fa,h.tb,h.ta,h.hb,h.ha,h.ob,h.oa⟩
theorem zvd{K:SS->Prop}{i:Nat}{o:Oper}{r:AV}(ho:ops[i]?=some o)(hd:yxs N o)(hg:o.guard=none)(hy:ybu P s.h (evF s.t) o.op o.type r)(k:K ⟨yee s.t o.dst r,s.h⟩):aOp P N ops lf i K s:=by
 unfold aOp;simp only[ho];refine⟨hd,.inl ⟨r,.inl ⟨?_,hy⟩,k⟩⟩;unfold yam;rw[hg]
theorem zve{K:SS->Prop}{i:Nat}{o:Oper}{s':SS}(ho:ops[i]?=some o)(hd:yxs N o)(hg:o.guard=none)(hl:lf o=true)(hy:ybp P N o s (·=s'))(k:K s'):aOp P N ops lf i K s:=by
 unfold aOp;simp only[ho];refine⟨hd,.inr ⟨hl,?_,_,hy,fun s2 e=>e ▸ k⟩⟩;unfold yam;rw[hg]
def zhp:Nat->List Oper->Bool
 | _,[]=>true
 | k,o::l=>(o.after.toList.all fun e=>!(Region.binds .any e) || Nat.blt e.on k) && zhp (k+1) l
theorem yua:∀ {l:List Oper} {j:Nat},zhp j l=true->∀ (k:Nat) (o:Oper),l[k]?=some o->∀ e∈o.after,Region.binds .any e=true->e.on < j+k
 | [],j,_,k,o,ho,_,_,_=>by simp at ho
 | o1::l,j,h,0,o,ho,e,he,hb=>by
  simp only[qas,Option.some.injEq]at ho;subst ho;simp only[zhp,qad,List.all_eq_true]at h;have:=h.1 e (by simpa using he);simpa[hb]using this
 | o1::l,j,h,k+1,o,ho,e,he,hb=>by
  simp only[qca]at ho;simp only[zhp,qad]at h;have:=yua h.2 k o ho e he hb;omega
theorem zby:∀ {t:List (Nat × AV)} {x:Nat} {y:AV},yak t x=some y->(x,y)∈t
 | [],x,y,h=>by simp[yak]at h
 | (a,b)::t,x,y,h=>by
  simp only[yak]at h;cases hb:Nat.beq x a with
  | true=>
   rw[hb]at h;simp only[Option.some.injEq]at h;subst h;rw[qaf hb];simp
  | false=>rw[hb]at h;exact qap _ (zby h)
end
end
section
open Go.RowKit
variable{P:Program}{N:Nat}{ops:Array Oper}{lf:Oper->Bool}{Q:SS->Prop}
def ygh(hs:List Nat)(t:Nat->Option AV):Nat->Option AV:=fun x=>match ykc x hs with|true=>(t x).map fun _=>.any|false=>t x
def ztp(hs:List Nat):List (Nat × AV)->List (Nat × AV)
 | []=>[]
 | (x,y)::t=>(x,match ykc x hs with|true=>.any|false=>y)::ztp hs t
theorem zek{hs:List Nat}:∀ t:List (Nat × AV),yak (ztp hs t)=ygh hs (yak t)
 | []=>by funext z;simp only[ztp,ygh,yak];split <;> rfl
 | (x,y)::t=>by
  have ih:=zek (hs:=hs) t;funext z;simp only[ztp,yak];by_cases hz:z=x
  .subst hz;simp only[ygh,qey];split <;> rfl
  rw[show Nat.beq z x=false from ycp hz];simp only[ih,ygh,show Nat.beq z x=false from ycp hz]
def zqj(okA:AV->Bool)(hs:List Nat):List (Nat × AV)->Bool
 | []=>true
 | (x,y)::t=>(match ykc x hs with|true=>true|false=>okA y) && zqj okA hs t
theorem yun{okA:AV->Bool}{hs:List Nat}:∀ {t:List (Nat × AV)},zqj okA hs t=true->∀ x y,yak t x=some y->ykc x hs=false->okA y=true
 | [],_,x,y,h,_=>by simp[yak]at h
 | (a,b)::t,hl,x,y,h,hm=>by
  simp only[zqj,qad]at hl;simp only[yak]at h;by_cases hx:x=a
  .subst hx;rw[qey]at h;cases h;rw[hm]at hl;exact hl.1
  rw[show Nat.beq x a=false from ycp hx]at h;exact yun hl.2 x y h hm
def ypy(base:List (Nat × AV))(A:List (Nat × Nat × AV))(L:Nat->Bool):Nat->Option AV:=fun x=>match A.find? (fun v=>Nat.beq v.2.1 x && L v.1)with|some v=>some v.2.2|none=>yak base x
def xda(tl:List (Nat × AV))(op:Op):Bool:=op.operands.toList.all fun x=>match x with
 | .tmp s=>(match yak tl s with|some _=>Nat.blt s 1000000|none=>false)
 | _=>true
def znb(T:Nat->Option Ty)(t:List (Nat × AV))(h:List (Nat × Option LObj))(op:Op)(ty:TypeId):Option AV:=match op with
 | .nilCheck x=>(match evF (yak t) x with
  | some (.lp id off)=>(match yti (yac h id)with|some _=>some (.lp id off)|none=>none)
  | some (.dp r o)=>some (.dp r o)
  | _=>none)
 | .indexAddr ti x y=>(match evF (yak t) x,evF (yak t) y with
  | some (.sl es rows),some (.v (.int _ i))=>(match T ti with
   | some ⟨.slc _ es' _ _ _,_,_,_⟩=>(match Nat.beq es' es && decide (0<=i)with
    | true=>(match rows[i.toNat]? with
     | some row=>some (.dp row 0)
     | none=>none)
    | false=>none)
   | _=>none)
  | _,_=>ysz T t h (.indexAddr ti x y) ty)
 | op=>ysz T t h op ty
theorem stepN_sound{T:Nat->Option Ty}(hT:TOK P T){t:List (Nat × AV)}{h:List (Nat × Option LObj)}{op:Op}{ty:TypeId}{r:AV}(hr:znb T t h op ty=some r):ybu P (yac h) (evF (yak t)) op ty r:=by
 unfold znb at hr;split at hr
 .split at hr
  .rename_i id off hx;split at hr
   .rename_i xs hc;cases hr;exact ynm hx hc
   cases hr
  .rename_i hx;cases hr;exact ymg hx
  cases hr
 .split at hr
  .rename_i hx hy;split at hr
   .rename_i hk;split at hr
    .rename_i hb;simp only[qad,decide_eq_true_eq]at hb;split at hr
     .rename_i hrow;cases hr;obtain rfl:=qaf hb.1;exact ynl (hT _ _ hk).2.2 hx hy hb.2 hrow
     cases hr
    cases hr
   cases hr
  exact yme hT hr
 exact yme hT hr
theorem yuw{T:Nat->Option Ty}(hT:TOK P T){t:Nat->Option AV}{tl:List (Nat × AV)}{h:List (Nat × Option LObj)}{op:Op}{ty:TypeId}{r:AV}(ht:∀ x y,yak tl x=some y->t x=some y)(hr:znb T tl h op ty=some r)(hk:xda tl op=true):ybu P (yac h) (evF t) op ty r:=by
 refine(stepN_sound hT hr).congr fun x hx=>?_;have:=List.all_eq_true.1 hk x (by simpa using hx);cases x with
 | tmp s=>
  simp only at this;split at this
  .rename_i y hy;simp only[evF];split
   .rw [ht s y hy,hy]
   rfl
  cases this
 | _=>rfl
def znz(T:Nat->Option Ty)(ops:Array Oper)(okA:AV->Bool)(req:List (Nat × AV))(A0:List (Nat × Nat × AV))(h0 h1:List (Nat × Option LObj))(hs:List Nat)(base:List (Nat × AV)):List (Nat × Nat × AV)->Prop
 | []=>True
 | a::A=>(∃ (o:Oper) (tl:List (Nat × AV)),ops[a.1]?=some o/\o.dst=some a.2.1/\o.guard=none/\tl=((A0.filter fun b=>yhk ops ops.size a.1 b.1).map fun b=>b.2)++req/\znb T tl h0 o.op o.type=some a.2.2/\znb T tl h1 o.op o.type=some a.2.2/\xda tl o.op=true/\ykc a.2.1 hs=false/\okA a.2.2=true/\yak base a.2.1=none)/\znz T ops okA req A0 h0 h1 hs base A
theorem znz.get{T:Nat->Option Ty}{okA:AV->Bool}{req:List (Nat × AV)}{A0:List (Nat × Nat × AV)}{h0 h1:List (Nat × Option LObj)}{hs:List Nat}{base:List (Nat × AV)}:∀ {A:List (Nat × Nat × AV)},znz T ops okA req A0 h0 h1 hs base A->∀ a∈A,∃ (o:Oper) (tl:List (Nat × AV)),ops[a.1]?=some o/\o.dst=some a.2.1/\o.guard=none/\tl=((A0.filter fun b=>yhk ops ops.size a.1 b.1).map fun b=>b.2)++req/\znb T tl h0 o.op o.type=some a.2.2/\znb T tl h1 o.op o.type=some a.2.2/\xda tl o.op=true/\ykc a.2.1 hs=false/\okA a.2.2=true/\yak base a.2.1=none
 | [],_,a,h=>by cases h
 | b::A,hA,a,h=>by
  rcases qaq.1 h with rfl|h
  .exact hA.1
  exact znz.get hA.2 a h
def xbm(base:List (Nat × AV))(hs:List Nat)(d:Nat):List (Nat × AV)->Prop
 | []=>True
 | (x,y)::r=>(yak base x=some y/\ykc x hs=false/\Nat.beq x d=false)/\xbm base hs d r
theorem xbm.get{base:List (Nat × AV)}{hs:List Nat}{d:Nat}:∀ {r:List (Nat × AV)},xbm base hs d r->∀ x y,(x,y)∈r->yak base x=some y/\ykc x hs=false/\x≠d
 | [],_,x,y,h=>by cases h
 | (u,v)::r,hr,x,y,h=>by
  rcases qaq.1 h with e|h
  .cases e;exact⟨hr.1.1,hr.1.2.1,fun e=>by have:=hr.1.2.2;rw[e,qey]at this;cases this⟩
  exact xbm.get hr.2 x y h
theorem xnk{a b:Nat}(h:Nat.beq a b=true):a=b:=qaf h
section
variable{base:List (Nat × AV)}{A:List (Nat × Nat × AV)}{L:Nat->Bool}
theorem yxe(hb:∀ a∈A,yak base a.2.1=none){x:Nat}{y:AV}(h:yak base x=some y):ypy base A L x=some y:=by
 unfold ypy;split
 .rename_i v hv;have h1:=qeg hv;have h2:=List.find?_some hv;simp only[qad]at h2;have:=hb v h1;rw[xnk h2.1,h]at this;cases this
 exact h
theorem find_nd(hd:(A.map (·.2.1)).Nodup){a:Nat × Nat × AV}(ha:a∈A)(hL:L a.1=true):A.find? (fun v=>Nat.beq v.2.1 a.2.1 && L v.1)=some a:=by
 induction A with
 | nil=>cases ha
 | cons b A ih=>
  rw[qce,qcq]at hd;rw[qfc];rcases qaq.1 ha with rfl|ha
  .simp [hL]
  have hne:b.2.1≠a.2.1:=fun e=>hd.1 (by rw[e];exact qag.2 ⟨a,ha,rfl⟩);rw[show Nat.beq b.2.1 a.2.1=false from ycp hne];simp only[qdy];exact ih hd.2 ha
theorem zsh(hd:(A.map (·.2.1)).Nodup){a:Nat × Nat × AV}(ha:a∈A)(hL:L a.1=true):ypy base A L a.2.1=some a.2.2:=by
 unfold ypy;rw[find_nd hd ha hL]
theorem znh(hd:(A.map (·.2.1)).Nodup)(hi:(A.map (·.1)).Nodup){a:Nat × Nat × AV}(ha:a∈A):ypy base A (fun k=>if k=a.1 then true else L k)=yee (ypy base A L) (some a.2.1) a.2.2:=by
 funext x;simp only[yee];by_cases hx:x=a.2.1
 .subst hx;rw[if_pos rfl];exact zsh hd ha sm
 rw[if_neg hx];unfold ypy;have:∀ l:List (Nat × Nat × AV),(∀ b∈l,b∈A)->l.find? (fun v=>Nat.beq v.2.1 x && (if v.1=a.1 then true else L v.1))=l.find? (fun v=>Nat.beq v.2.1 x && L v.1):=by
  intro l hl;induction l with
  | nil=>rfl
  | cons b l ih=>
   rw[qfc,qfc,ih fun c hc=>hl c (by simp[hc])];by_cases hb:b.1=a.1
   .have hba:b=a:=by
     have h1:=hl b sm;obtain⟨i,hi1⟩:=qao h1;obtain⟨j,hj1⟩:=qao ha;have hlt:=(qaa.1 hi1).1;have:=(List.getElem?_inj (i:=i) (j:=j) (by simpa using hlt) hi).1 (by rw[qak,qak,hi1,hj1];simp[hb]);subst this;rw[hi1]at hj1;exact Option.some.inj hj1
    subst hba;rw[show Nat.beq b.2.1 x=false from ycp (Ne.symm hx)];rfl
   rw[if_neg hb]
 rw[this A fun b hb=>hb]
theorem xfd(hL:∀ a∈A,L a.1=true):ypy base A L=yak (A.map (fun a=>a.2)++base):=by
 funext x;unfold ypy;induction A with
 | nil=>rfl
 | cons a A ih=>
  rw[qfc,hL a sm,qfl,qce,qbb];have ih:=ih fun b hb=>hL b (by simp[hb]);obtain⟨i,q,v⟩:=a;simp only[yak];by_cases hx:x=q
  .subst hx;simp
  rw[show Nat.beq q x=false from ycp (Ne.symm hx),show Nat.beq x q=false from ycp hx];exact ih
theorem hide_upd{hs:List Nat}{d:Nat}{t:Nat->Option AV}{v:AV}(hv:ykc d hs=false):ygh hs (yee t (some d) v)=yee (ygh hs t) (some d) v:=by
 funext x;by_cases hx:x=d
 .subst hx;simp[ygh,yee,hv]
 simp[ygh,yee,hx]
theorem zdy{hs:List Nat}{t:Nat->Option AV}{x:Nat}{v:AV}(h:t x=some v)(hv:ykc x hs=false):ygh hs t x=some v:=by simp[ygh,h,hv]
theorem zbu{okA:AV->Bool}{hs:List Nat}{t:Nat->Option AV}(h:∀ x y,t x=some y->ykc x hs=false->okA y=true){x:Nat}{y:AV}(hx:ygh hs t x=some y):y=.any\/(t x=some y/\okA y=true):=by
 simp only[ygh]at hx;split at hx
 .cases ht:t x with
  | none=>rw[ht]at hx;cases hx
  | some u=>rw[ht]at hx;cases hx;exact .inl rfl
 rename_i hm;exact .inr ⟨hx,h x y hx hm⟩
theorem yvp{hs:List Nat}{t:Nat->Option AV}{x:Nat}{y:AV}(hx:ygh hs t x=some y):∃ z,t x=some z:=by
 simp only[ygh]at hx;split at hx
 .cases ht:t x with
  | none=>rw[ht]at hx;cases hx
  | some u=>exact⟨u,rfl⟩
 exact⟨y,hx⟩
end
theorem ztw:∀ {l:List Nat} {listed:Array Bool} {k:Nat},(yha l listed).getD k false=true->listed.getD k false=true\/k∈l
 | [],listed,k,h=>.inl h
 | x::l,listed,k,h=>by
  rcases ztw (l:=l) h with h|h
  .by_cases hx:x=k
   .exact .inr (by simp[hx])
   refine .inl ?_;rw[qar,qbx,if_neg hx]at h;rw[qar];exact h
  exact .inr (by simp[h])
theorem zks:∀ {l:List Nat} {listed:Array Bool},(yha l listed).size=listed.size
 | [],_=>rfl
 | x::l,listed=>by rw[yha,zks,qez]
theorem zdb:∀ {l:List Nat} {listed:Array Bool} {k:Nat},(listed.getD k false=true\/(k∈l/\k < listed.size))->(yha l listed).getD k false=true
 | [],listed,k,h=>by
  rcases h with h|h
  .exact h
  cases h.1
 | x::l,listed,k,h=>by
  refine zdb (l:=l) ?_;by_cases hx:x=k
  .subst hx;left;rcases h with h|h
   .rw [qar,qbx,if_pos rfl];rw[qar]at h;by_cases hs:x < listed.size
    .rw [if_pos hs];rfl
    rw[qed om]at h;cases h
   rw[qar,qbx,if_pos rfl,if_pos h.2];rfl
  rcases h with h|h
  .left;rw[qar,qbx,if_neg hx];rw[qar]at h;exact h
  right;rw[qez];exact⟨by simpa[Ne.symm hx]using h.1,h.2⟩
theorem zvu{a b:Array Bool}(hs:a.size=b.size)(h:∀ k,k < a.size->a.getD k false=b.getD k false):a=b:=by
 apply Array.ext hs;intro i h1 h2;have:=h i h1;rw[qar,qar,qbk h1,qbk h2]at this;simpa using this
def zha(W:List Nat)(L:Nat->Bool):Nat:=(W.filter fun k=>!L k).length
theorem zqe{W:List Nat}{L:Nat->Bool}(h:zha W L=0):∀ k∈W,L k=true:=fun k hk=>by
 have:=List.filter_eq_nil_iff.1 (qax h) k hk;simpa using this
theorem zxj{W:List Nat}{L:Nat->Bool}{n:Nat}(h:zha W L=n+1):∃ k∈W,L k=false:=by
 unfold zha at h;obtain⟨k,l,e⟩:=List.exists_cons_of_length_eq_add_one h;have:k∈W.filter fun k=>!L k:=by rw[e];simp
 obtain⟨h1,h2⟩:=qdc.1 this;exact⟨k,h1,by simpa using h2⟩
theorem zxk{W:List Nat}{L:Nat->Bool}(hnd:W.Nodup){i:Nat}(hi:i∈W)(hL:L i=false):zha W (fun k=>if k=i then true else L k)+1=zha W L:=by
 unfold zha;induction W with
 | nil=>cases hi
 | cons b W ih=>
  rw[qcq]at hnd;rcases qaq.1 hi with rfl|hi
  .have:W.filter (fun k=>!(if k=i then true else L k))=W.filter fun k=>!L k:=qfm fun k hk=>by
    have:k≠i:=fun e=>hnd.1 (e ▸ hk);simp[this]
   rw[qcz sm,this,qct (by simp[hL]),qaj]
  have hb:b≠i:=fun e=>hnd.1 (e ▸ hi);have:=ih hnd.2 hi;cases hb2:L b with
  | true=>
   rw[qcz (by simp[hb,hb2]),qcz (by simp[hb2])];exact this
  | false=>
   rw[qct (by simp[hb,hb2]),qct (by simp[hb2]),qaj,qaj,this]
def xhh(ops:Array Oper)(listed:Array Bool)(W:List Nat):Bool:=(List.range ops.size).all fun i=>listed.getD i false || ykc i W || W.all fun w=>yhk ops ops.size i w
theorem zbv{t:Nat->Option AV}:ygh [] t=t:=rfl
theorem zqm{T:Nat->Option Ty}(hT:TOK P T){o:Oper}{ti e es eb sz d:Nat}{ea ag:Bool}{ez z:List Value}{m:Nat}{t:Nat->Option AV}{h:List (Nat × Option LObj)}(id:Nat)(hl:∀ x y,t x=some y->ykc x []=false->(!ment id y)=true)(ho:o.op=.makeSlice ti x y)(hd:o.dst=some d)(hdN:Nat.blt d N=true)(hk:T ti=some ⟨.slc e es ea eb ez,sz,ag,z⟩)(hone:ez.all Value.oneCell'=true)(hx:evF t x=some (.v (.int .i64 m)))(hy:evF t y=some (.v (.int .i64 m)))(hm:m<=4294967296/\eb * m<=281474976710656)(h2:ybs id h=true):ybp P N o ⟨t,yac h⟩ (·=⟨yee (ygh [] t) (some d) (.ls id es m),yac ((id,some (.vec (ykx m (yhw ez))))::h)⟩):=by
 have hf:=ygc (t:=[]) (id:=id) rfl h2;rw[zbv,<- yjg];exact ywb hT ho hd (by simpa using hdN) id hk hone hx hy hm ⟨hf.1,fun x y hx=>by simpa using hl x y hx rfl,hf.2.2⟩
theorem yva{T:Nat->Option Ty}(hT:TOK P T)(okA:AV->Bool)(A:List (Nat × Nat × AV))(j d:Nat)(hs:List Nat)(z:AV){oj:Oper}{base req:List (Nat × AV)}{h0 h1:List (Nat × Option LObj)}(fuel:Nat){n:Nat}{listed:Array Bool}
  (hn:n=fuel+(A.length+1)) (hsz:listed.size=ops.size) (hbk:zhp 0 ops.toList=true) (hW:yed (j::A.map (·.1))=true) (hdn:yed (A.map (·.2.1))=true) (hfree:((j::A.map (·.1)).all fun k=>!listed.getD k false)=true) (hpost:xhh ops listed (j::A.map (·.1))=true)
  (hd:(A.all fun a=>!Nat.beq a.2.1 d)=true) (hreq:xbm base hs d req) (hbl:zqj okA hs base=true) (hA:znz T ops okA req A h0 h1 hs base A) (hoj:ops[j]?=some oj) (hgj:oj.guard=none) (hlj:lf oj=true)
  (hloud:∀ t:Nat->Option AV,(∀ x y,yak base x=some y->t x=some y)->(∀ x y,t x=some y->ykc x hs=false->okA y=true)->ybp P N oj ⟨t,yac h0⟩ (·=⟨yee (ygh hs t) (some d) z,yac h1⟩))
  (k:xax P N ops lf Q fuel (yha (j::A.map (·.1)) listed) (S ((d,z)::ztp hs (A.map (fun a=>a.2)++base)) h1)):xax P N ops lf Q n listed (S base h0):=by
 intro hDst hcl;have hback:∀ (k:Nat) (o:Oper),ops[k]?=some o->∀ e∈o.after,Region.binds .any e=true->e.on < k:=fun k o ho e he hb=>by
  have:=yua hbk k o (by simpa using ho) e he hb;omega
 have hWn:(j::A.map (·.1)).Nodup:=yhu hW;have hdN:(A.map (·.2.1)).Nodup:=yhu hdn;have hiN:(A.map (·.1)).Nodup:=(qcq.1 hWn).2;have hjA:∀ a∈A,a.1≠j:=fun a ha e=>(qcq.1 hWn).1 (qag.2 ⟨a,ha,e⟩);have hbn:∀ a∈A,yak base a.2.1=none:=fun a ha=>by
  obtain⟨_,_,_,_,_,_,_,_,_,_,_,h⟩:=hA.get a ha;exact h
 have hdA:∀ a∈A,a.2.1≠d:=fun a ha e=>by
  have:=List.all_eq_true.1 hd a ha;rw[e,qey]at this;cases this
 generalize hWe:j::A.map (·.1)=W at *;have hWj:j∈W:=by rw[<- hWe];simp
 have hWA:∀ a∈A,a.1∈W:=fun a ha=>by rw[<- hWe];simp;exact .inr ⟨_,_,ha⟩
 have hWc:∀ i∈W,i=j\/∃ a∈A,a.1=i:=fun i hi=>by
  rw[<- hWe]at hi;rcases qaq.1 hi with h|h
  .exact .inl h
  obtain⟨a,ha,e⟩:=qag.1 h;exact .inr ⟨a,ha,e⟩
 have hlen:W.length=A.length+1:=by rw[<- hWe];simp
 have hWs:∀ i∈W,i < listed.size:=fun i hi=>by
  rw[hsz];rcases hWc i hi with rfl|⟨a,ha,rfl⟩
  .exact (qaz.1 hoj).1
  obtain⟨o,_,ho,_⟩:=hA.get a ha;exact(qaz.1 ho).1
 -- the states
 let st:(Nat->Bool)->SS:=fun L=>if L j then⟨yee (ygh hs (ypy base A L)) (some d) z,yac h1⟩else⟨ypy base A L,yac h0⟩
 have main:∀ (r:Nat) (L:Nat->Bool) (lst:Array Bool),zha W L=r->lst.size=listed.size->yqc ops lst->(∀ i,i < listed.size->lst.getD i false=(listed.getD i false || (ykc i W && L i)))->xay P N ops lf Q (fuel+r) lst (st L):=by
  intro r;induction r with
  | zero=>
   intro L lst hr hsz2 hc hlst;have hall:=zqe hr;have e1:lst=yha W listed:=zvu (by rw[zks,hsz2]) fun i hi=>by
    rw[hsz2]at hi;rw[hlst i hi];by_cases hiW:i∈W
    .rw [ycr.2 hiW,hall i hiW,zdb (.inr ⟨hiW,hi⟩)];simp
    rw[show ykc i W=false by rw[<- qbv,ycr];exact hiW];simp only[qdy,qdm];cases hb:listed.getD i false with
    | true=>exact(zdb (.inl hb)).symm
    | false=>
     cases hb2:(yha W listed).getD i false with
     | false=>rfl
     | true=>
      rcases ztw hb2 with h|h
      .rw [hb]at h;cases h
      exact absurd h hiW
   have e2:st L=S ((d,z)::ztp hs (A.map (fun a=>a.2)++base)) h1:=by
    simp only[st,hall j hWj,if_true];rw[xfd fun a ha=>hall _ (hWA a ha),<- zek,ydm];rfl
   rw[e1,e2];exact k hDst (e1 ▸ hc)
  | succ r ih=>
   intro L lst hr hsz2 hc hlst;obtain⟨w0,hw0,hL0⟩:=zxj hr;have hget:∀ i,i < ops.size->lst[i]?=some (lst.getD i false):=fun i hi=>by
    rw[qar,qbk (show i < lst.size by omega)];rfl
   -- the one that runs is one of these
   have key:∀ i∈Region.ready .any ops lst,i∈W/\L i=false:=by
    intro i hi;obtain⟨g1,o,ho,g2⟩:=mem_ready.1 hi;have hlt:=(qaz.1 ho).1;have hf:lst.getD i false=false:=by
     rw[qar,hget i hlt]at g1;simpa using g1
    have hf2:=hlst i om;rw[hf]at hf2;have hf2:=qea.1 hf2.symm;have hp:=List.all_eq_true.1 hpost i (qbt.2 hlt);rw[hf2.1,qep,qck]at hp;rcases hp with hp|hp
    .rw [hp,qfe]at hf2;exact⟨ycr.1 hp,hf2.2⟩
    exfalso;have h1:=List.all_eq_true.1 hp w0 hw0;have h2:=yep hc _ _ _ o ho g2 h1;rw[hlst w0 (hWs w0 hw0),ycr.2 hw0,hL0]at h2;have h3:=List.all_eq_true.1 hfree w0 hw0;rw[qci,qdm]at h2;rw[h2]at h3;cases h3
   refine⟨fun hnil=>?_,fun i hi=>?_⟩
   .exfalso;have hall:∀ i,i < ops.size->lst.getD i false=true:=by
     intro i;induction i using Nat.strongRecOn with
     | _ i ih2=>
      intro hi;cases hb:lst.getD i false with
      | true=>rfl
      | false=>
       have ho:ops[i]?=some (ops[i]'hi):=qbk hi;have:i∈Region.ready .any ops lst:=mem_ready.2 ⟨by rw[qar,hget i hi,hb];rfl,_,ho,fun e he hbd=>by
        have h9:=hback i _ ho e he hbd
        exact ih2 e.on h9 om⟩
       rw[hnil]at this;cases this
    have h2:=hall w0 (by rw[<- hsz];exact hWs w0 hw0);rw[hlst w0 (hWs w0 hw0),ycr.2 hw0,hL0]at h2;have h3:=List.all_eq_true.1 hfree w0 hw0;rw[qci,qdm]at h2;rw[h2]at h3;cases h3
   obtain⟨hiW,hiL⟩:=key i hi;have hc':=hc.set hi;have hnext:=ih (fun k=>if k=i then true else L k) (lst.setIfInBounds i true) (by have:=zxk hWn hiW hiL;omega) (by rw[qez];exact hsz2) hc' (fun q hq=>by
    rw[qar,qbx]
    by_cases hqi:i=q
    .subst hqi
     rw[if_pos rfl,if_pos om,ycr.2 hiW];simp
    rw[if_neg hqi,if_neg (fun e=>hqi e.symm),<- hlst q hq,qar])
   rcases hWc i hiW with rfl|⟨a,ha,rfl⟩
   .refine zve hoj (hDst _ _ hoj) hgj hlj (s':=st fun k=>if k=i then true else L k) ?_ hnext;have e1:st L=⟨ypy base A L,yac h0⟩:=by simp only[st,hiL];rfl
    have e2:st (fun k=>if k=i then true else L k)=⟨yee (ygh hs (ypy base A L)) (some d) z,yac h1⟩:=by
     simp only[st,if_true];have:ypy base A (fun k=>if k=i then true else L k)=ypy base A L:=by
      funext x;unfold ypy;have:∀ l:List (Nat × Nat × AV),(∀ b∈l,b∈A)->l.find? (fun v=>Nat.beq v.2.1 x && (if v.1=i then true else L v.1))=l.find? (fun v=>Nat.beq v.2.1 x && L v.1):=by
       intro l hl;induction l with
       | nil=>rfl
       | cons b l ih=>rw[qfc,qfc,ih fun c hc=>hl c (by simp[hc]),if_neg (hjA b (hl b sm))]
      rw[this A fun b hb=>hb]
     rw[this]
    rw[e1,e2];refine hloud _ (fun x y hx=>yxe hbn hx) fun x y hx hm=>?_;unfold ypy at hx;split at hx
    .rename_i v hv;cases hx;obtain⟨_,_,_,_,_,_,_,_,_,_,hlw,_⟩:=hA.get v (qeg hv);exact hlw
    exact yun hbl x y hx hm
   obtain⟨o,tl,ho,hod,hog,htl,hr0,hr1,hkn,hm,_,_⟩:=hA.get a ha;obtain⟨_,o2,ho2,g2⟩:=mem_ready.1 hi;rw[ho]at ho2;cases ho2
   -- the operands stand where they should
   have hdep:∀ b∈A,yhk ops ops.size a.1 b.1=true->L b.1=true:=fun b hb hw=>by
    have h2:=yep hc _ _ _ o ho g2 hw;rw[hlst b.1 (hWs _ (hWA b hb)),ycr.2 (hWA b hb),qfe]at h2;have h3:=List.all_eq_true.1 hfree b.1 (hWA b hb);cases hlb:listed.getD b.1 false with
    | true=>rw[hlb]at h3;cases h3
    | false=>rw[hlb,qep]at h2;exact h2
   have hmem:∀ x y,yak tl x=some y->(∃ b∈A,L b.1=true/\b.2=(x,y))\/(x,y)∈req:=fun x y hx=>by
    have hx:=zby hx;rw[htl]at hx;rcases qat.1 hx with h|h
    .obtain ⟨b,hb,e⟩:=qag.1 h;obtain⟨hb1,hb2⟩:=qdc.1 hb;exact .inl ⟨b,hb1,hdep b hb1 hb2,e⟩
    exact .inr h
   have hadd:st (fun k=>if k=a.1 then true else L k)=⟨yee (st L).t o.dst a.2.2,(st L).h⟩:=by
    rw[hod];have hja:(j=a.1)=False:=by simp;exact fun e=>hjA a ha e.symm
    simp only[st,hja,if_false];cases hj:L j with
    | false=>simp only[qbj,if_false];rw[znh hdN hiN ha]
    | true=>
     simp only[if_true];rw[znh hdN hiN ha,hide_upd hm,zsm];intro q hq e;cases hq;cases e;exact hdA a ha rfl
   rw[hadd]at hnext;refine zvd (r:=a.2.2) ho (hDst _ _ ho) hog ?_ hnext;cases hj:L j with
   | false=>
    have e1:st L=⟨ypy base A L,yac h0⟩:=by simp only[st,hj];rfl
    rw[e1];refine yuw hT (fun x y hx=>?_) hr0 hkn;rcases hmem x y hx with⟨b,hb,hbL,e⟩|h
    .have:=zsh (base:=base) hdN hb hbL;rw[e]at this;exact this
    exact yxe hbn (hreq.get x y h).1
   | true=>
    have e1:st L=⟨yee (ygh hs (ypy base A L)) (some d) z,yac h1⟩:=by simp only[st,hj,if_true]
    rw[e1];refine yuw hT (fun x y hx=>?_) hr1 hkn;simp only[yee];rcases hmem x y hx with⟨b,hb,hbL,e⟩|h
    .have h9:=zsh (base:=base) hdN hb hbL;have hne:=hdA b hb;obtain⟨_,_,_,_,_,_,_,_,_,hmb,_,_⟩:=hA.get b hb;rw[e]at h9 hne hmb;rw[if_neg hne];exact zdy h9 hmb
    obtain⟨q1,q2,q3⟩:=hreq.get x y h;rw[if_neg q3];exact zdy (yxe hbn q1) q2
 have h0L:∀ k,(fun _:Nat=>false) k=false:=fun _=>rfl;have:=main (A.length+1) (fun _=>false) listed (by unfold zha;rw[qgh.2 sm];exact hlen) rfl hcl (fun i hi=>by simp);have e1:st (fun _=>false)=S base h0:=by
  simp only[st,qbj,if_false];have:ypy base A (fun _=>false)=yak base:=by
   funext x;unfold ypy;rw[qes.2 sm]
  rw[this];rfl
 rw[e1]at this;rw[hn];exact this
end
set_option maxHeartbeats 8000000
section
open Go.RowKit
theorem portto_con(g:GraphD)(v:Int)(u:Int)(ls:List Lk)(h0:0<=v)(hv:g.ports[v.toNat]?=some ls)(hlen:ls.length<=5000):Con prog 108 [yev g,i64 v,i64 u] (i64 (ykd ls u)):=by
 refine ze Tryz.func108 ntmps108 Tryz.results108 ?_;refine zY ?_;refine ybj (α:=Nat) (fun k=>[(15,i64 k),(14,i64 ls.length),(13,ykr ls),(2,i64 u)]) (fun k=>[]) (fun k=>ls.length - k) (fun k=>k<=ls.length/\∀ (j:Nat) (y:Lk),j < k->ls[j]?=some y->y.1≠u) 0 ⟨om,om⟩ zs zh ?_;intro k ⟨hk,hok⟩;refine zY ?_;refine zj ?_ ?_ <;> intro h
 .simp at h;obtain⟨x,hx⟩:=ybk h;refine zY ?_;refine zj ?_ ?_ <;> intro h1
  .simp at h1;refine zk ?_;exact yad (zfe hx h1 hok).symm
  simp at h1;refine zY ?_;refine rnd (k+1) ⟨om,fun j y hj hy=>?_⟩ om zs zh;rcases qbh j k with h6|h6
  .exact hok j y h6 hy
  obtain rfl:j=k:=by omega
  rw[hx]at hy;cases hy;exact h1
 simp at h;obtain rfl:k=ls.length:=by omega
 refine zk ?_;exact yad (zfd fun j y hy=>hok j y (qaa.1 hy).1 hy).symm
end
section
open Go.RowKit
theorem Frz.boxF{h:Nat->Option LObj}{off:Nat}{ys:List AV}(hx:h id=some (.cells xs))(hl:xs.length=ys.length)(hc:∀ y∈ys,yeb y=true)(hf:∀ (i:Nat) (x y:AV),xs[i]?=some x->ys[i]?=some y->Frz h x y):Frz h (.lp id off) (.dp ys off):=by
 intro B ok0 lv w u hi hr;obtain⟨b,n,h1,rfl,h2⟩:=yhr hi (by rw[hx];rfl) (.inr hx) hr;obtain⟨_,_,g1,g2,_⟩:=hi.lvat h1;have:=Rel.dp (ok:=fun g=>(ok0 g\/B.mine g)/\g < w.heap.size) (w:=w) (lv:=fun _=>none) (row:=ys) (off:=off) b 0 (fun j=>(w.cell? ⟨b,0+j,none⟩).getD undef) ⟨.inr g1,g2⟩ (fun j c hj=>?_) (fun j c hj=>?_)
 .rwa [qay]at this
 .obtain ⟨x,hx'⟩:∃ x,xs[j]?=some x:=⟨_,qae (by have:=(qaa.1 hj).1;omega)⟩;obtain⟨q1,v,q2,_⟩:=h2 j x hx';exact⟨by rw[q2];rfl,hc c (qab hj)⟩
 obtain⟨x,hx'⟩:∃ x,xs[j]?=some x:=⟨_,qae (by have:=(qaa.1 hj).1;omega)⟩;obtain⟨_,v,q2,q3⟩:=h2 j x hx';rw[q2];exact hf j x c hx' hj B ok0 lv w v hi q3
def yrt(p:ProgD)(g:GraphD)(k:Nat):List AV:=[ykp p.name,.sl 6 (p.vars.map ybl),.sl 3 (p.rules.map ybc),yai g.ids,yaq g.ports,i64 (yca (g.ids.take k)),.ls 15 1 g.ports.length]
def ync(p:ProgD)(g:GraphD)(k:Nat):List (Nat × Option LObj):=[(17,some (.cells (yrt p g k))),(3,some (.cells [yai g.ids,yaq g.ports]))]
def zul(g:GraphD)(k:Nat):List (List AV):=yek ((ypi g).take k)++List.replicate (g.ports.length - k) []
def ypv(g:GraphD)(k:Nat)(l:List Int):List (List AV):=yek ((ypi g).take k)++(l.map i64)::List.replicate (g.ports.length - k - 1) []
theorem rowsC0(hk:k < g.ports.length):zul g k=ypv g k []:=by
 unfold zul ypv;rw[show g.ports.length - k=(g.ports.length - k - 1)+1 by omega,qbq];simp
theorem yrh(hk:k < g.ports.length):(yek ((ypi g).take k)).length=k:=by
 simp[yek,ypi];omega
theorem rowsC_at(hk:k < g.ports.length):(ypv g k l)[k]?=some (l.map i64):=by
 unfold ypv;rw[qah (by rw[yrh hk];omega),yrh hk,qbm];rfl
theorem zrt(hk:k < g.ports.length):(ypv g k l).length=g.ports.length:=by
 unfold ypv;rw[qan,yrh hk,qaj,qdw];omega
theorem rowsC_next{x:Int}(hk:k < g.ports.length):(ypv g k l).set k (l.map i64++[i64 x])=ypv g k (l++[x]):=by
 unfold ypv;rw[qbo _ _ (by rw[yrh hk];omega),yrh hk,qbm,qer];simp
theorem rowsC_end{ls:List Lk}(hls:g.ports[k]?=some ls):ypv g k (ydv g k ls)=zul g (k+1):=by
 unfold zul ypv;have e:(ypi g)[k]?=some (ydv g k ls):=by simp[ypi,hls]
 rw[yao e];simp[yek,Nat.sub_sub]
theorem newscene_con(p:ProgD)(g:GraphD)(hg:ycf g=true):Con prog 58 [ygg p,yev g] (zjq p g):=by
 have hv:=ybe hg;refine ze Tryz.func58 ntmps58 Tryz.results58 ?_;refine zW ?_;refine ybg (lf:=lf0) ymj rfl ?_;refine yeq [2,3,4] 6 (yaa rfl (yaa rfl (yaa rfl yal))) rfl kf ?_;refine zO ?_;refine yva tok (fun y=>!ment 15 y) [(0,10,.agg [ykp p.name,.sl 6 (p.vars.map ybl),.sl 3 (p.rules.map ybc)]),(1,11,.agg [yai g.ids,yaq g.ports])] 5 15 [] (.ls 15 1 g.ports.length) (req:=[(3,.lp 3 0),(2,.lp 2 0)]) 3 rfl kf rfl rfl rfl kf kf rfl ⟨⟨rfl,rfl,rfl⟩,⟨rfl,rfl,rfl⟩,trivial⟩ rfl
  ⟨⟨_,[(3,.lp 3 0),(2,.lp 2 0)],rfl,rfl,rfl,kf,kf,kf,kf,rfl,rfl,rfl⟩,⟨_,[(3,.lp 3 0),(2,.lp 2 0)],rfl,rfl,rfl,kf,kf,kf,kf,rfl,rfl,rfl⟩,trivial⟩ rfl rfl rfl
  (fun t ht hl=>zqm tok 15 hl rfl rfl rfl rfl rfl (ht 14 _ rfl) (ht 14 _ rfl) co rfl) ?_
 refine yaz [6,7,8] (yaa rfl (yaa rfl (yaa rfl yal))) rfl kf ?_;refine zY ?_;refine ytu 15 (List.replicate g.ports.length ygd) rfl (zym _ _) ?_;refine yqb (t':=[(21,i64 (0:Nat)),(20,i64 g.ports.length),(19,yaq g.ports),(5,.lp 17 0),(3,.lp 3 0)]) (h':=[(17,some (.cells (yrt p g 0))),(3,some (.cells [yai g.ids,yaq g.ports]))]++[(15,some (ygi (List.replicate g.ports.length ygd)))]) ?_ zs (yah (yab rfl (yab rfl (yab rfl yag)))) ;refine zcq (f:=[(17,some (.cells (yrt p g 0))),(3,some (.cells [yai g.ids,yaq g.ports]))]) 15 1 g.ports.length rfl rfl rfl rfl rfl ?_;refine ybw (α:=Nat) (fun k=>[(21,i64 k),(20,i64 g.ports.length),(19,yaq g.ports),(5,.lp 17 0),(3,.lp 3 0)]) (fun k=>ync p g k++ybz 15 1 (zul g k) []) (fun k=>g.ports.length - k) (fun k=>k<=g.ports.length) 0 om zs (hsE rfl) ?_;intro k hk;refine zY ?_;refine zj ?_ ?_ <;> intro h
 .simp at h;obtain⟨ls,hls⟩:=ybk h;obtain⟨a,ha⟩:=ybk (show k < g.ids.length by omega);have hlb:=hv.2.2.2.2.2.1 k ls hls;have hll:=yde h hlb;refine zY ?_;refine ybw (α:=Nat) (fun j=>[(41,i64 j),(40,i64 ls.length),(39,ykr ls),(6,i64 k),(21,i64 k),(20,i64 g.ports.length),(19,yaq g.ports),(5,.lp 17 0),(3,.lp 3 0)]) (fun j=>ync p g (k+1)++ybz 15 1 (ypv g k ((ydv g k ls).take j)) []) (fun j=>ls.length - j) (fun j=>j<=ls.length) 0 om zs (hsE ?_) ?_
  .unfold ync yrt;rw[yjq _ _ _ ha,qet,rowsC0 h];exact yhg
  intro j hj;refine zY ?_;refine zj ?_ ?_ <;> intro h2
  .simp at h2;obtain⟨l,hl⟩:=ybk h2;have hl1:=(ybv _ _ _).1 (((ycq _ _ _).1 hlb).1 l (qab hl));obtain⟨ls',hls'⟩:=ybk (show l.1.toNat < g.ports.length by omega);have hll':=yde (show l.1.toNat < g.ports.length by omega) (hv.2.2.2.2.2.1 _ ls' hls');refine zW ?_;refine zA ?_ (h2:=yqm (f:=ync p g (k+1)) rfl rfl rfl rfl);have hblen:(ydv g k ls).length=ls.length:=by simp[ydv]
   have hbj:(ydv g k ls)[j]?=some (ykd ls' k):=by
    simp only[ydv,qak,hl,qav,Option.some.injEq];rw[qac,hls'];rfl
   have htj:(((ydv g k ls).take j).map i64).length=j:=by simp[hblen];omega
   have hrow:=rowsC_at (l:=(ydv g k ls).take j) h;have hcell:(yfe 15 1 0 (ypv g k ((ydv g k ls).take j))++[])[k]?=some (.ls (fam 15 k) 1 j):=by
    rw[qba,yej,hrow];simp only[qav,htj,Nat.div_one,qay]
   have hk1:((k:Int).toNat * 1)=k:=by simp
   refine zW ?_;refine ybg (lf:=lf0) ymj rfl ?_;refine yeq [5,6,7,8,9,10,11,12,13,14,15,16,17] 8 (yaa rfl (yaa rfl (yaa rfl (yaa rfl (yaa rfl (yaa rfl (yaa rfl (yaa rfl (yaa rfl (yaa rfl (yaa rfl (yaa rfl (yaa rfl yal))))))))))))) rfl kf ?_;refine xfm (h':=((9,some (.cells (yfh l)))::ync p g (k+1))++ybz 15 1 (ypv g k ((ydv g k ls).take j)) []) yhg ?_
   (repeat (first|refine zo ?_|refine yat tok rfl rfl (ybo (f:=(9,some (.cells (yfh l)))::ync p g (k+1)) rfl) rfl om om rfl rfl ?_|refine ydp (r:=.ls (fam 15 k) 1 j) tok rfl rfl rfl (by rw[ybo (f:=(9,some (.cells (yfh l)))::ync p g (k+1)) rfl];exact yfg _) (by rw[hk1];exact hcell) rfl rfl ?_|refine zc (portto_con g l.1 k ls' hl1.1 hls' om) ?_))
   have hat:yac ((9,some (LObj.cells (yfh l)))::ync p g (k+1)++(15,some (ygi ((yfe 15 1 0 (ypv g k ((ydv g k ls).take j))++[]).set k .one)))::ypl 15 0 ((ypv g k ((ydv g k ls).take j)).set k (((ydv g k ls).take j).map i64++[[i64 (ykd ls' k)]].flatten))) 15=some (ygi ((yfe 15 1 0 (ypv g k ((ydv g k ls).take j))++[]).set k .one)):=by rw[ybh _ _ (yls rfl),ybb]
   refine yva tok yps [(0,45,.lp 17 0),(1,46,.lp 17 0),(2,47,.lp 17 (0+6)),(3,48,.ls 15 1 g.ports.length),(4,49,i64 k)] 18 63 [56] (.ls (fam 15 k) 1 (j+1)) (req:=[(5,.lp 17 0),(6,i64 k)]) 2 rfl kf rfl rfl rfl kf kf rfl ⟨⟨rfl,rfl,rfl⟩,⟨rfl,rfl,rfl⟩,trivial⟩ rfl
    ⟨⟨_,[(5,.lp 17 0),(6,i64 k)],rfl,rfl,rfl,kf,kf,kf,kf,rfl,rfl,rfl⟩,⟨_,[(45,.lp 17 0),(5,.lp 17 0),(6,i64 k)],rfl,rfl,rfl,kf,kf,kf,kf,rfl,rfl,rfl⟩,⟨_,[(45,.lp 17 0),(46,.lp 17 0),(5,.lp 17 0),(6,i64 k)],rfl,rfl,rfl,kf,kf,kf,kf,rfl,rfl,rfl⟩,⟨_,[(45,.lp 17 0),(46,.lp 17 0),(47,.lp 17 (0+6)),(5,.lp 17 0),(6,i64 k)],rfl,rfl,rfl,kf,kf,kf,kf,rfl,rfl,rfl⟩,⟨_,[(5,.lp 17 0),(6,i64 k)],rfl,rfl,rfl,kf,kf,kf,kf,rfl,rfl,rfl⟩,trivial⟩ rfl rfl rfl
    (fun t ht hl=>yqp (s:=⟨t,_⟩) (t':=ygh [56] t) (i:=k) (news:=[[i64 (ykd ls' k)]]) (f:=(9,some (.cells (yfh l)))::ync p g (k+1)) tok (fun x y h=>(zbu hl h).imp (fun e=>e) fun e=>⟨e.1,yps.ment (yfw _ _) e.2⟩) (fun x y h=>yvp h) rfl rfl rfl (ht 56 _ rfl) hrow (by rw[htj,qgv]) (ht 62 _ rfl) (by intro c hc;simp at hc;subst hc;rfl) (by constructor <;> simp <;> omega) rfl rfl rfl rfl rfl rfl) ?_
   refine yaz [19,20] (yaa rfl (yaa rfl yal)) rfl kf ?_;refine yat tok rfl rfl hat rfl om om rfl rfl ?_;refine yon tok rfl rfl rfl rfl rfl hat (by rw[qfk,qba,ydz,zrt h];omega) rfl rfl ?_;refine xfm (h':=((9,some (.cells (yfh l)))::ync p g (k+1))++ybz 15 1 (ypv g k ((ydv g k ls).take (j+1))) []) ?_ ?_
   .rw [hk1];refine(zln (f:=(9,some (.cells (yfh l)))::ync p g (k+1)) rfl om rfl (by rw[zrt h];exact h) (by simp[hblen];omega)).trans ?_;rw[yao hbj,<- rowsC_next h];rfl
   refine zY ?_;exact yhi (j+1) om om zs (hsM (f:=(9,some (.cells (yfh l)))::ync p g (k+1)) (yab rfl (yab rfl yag)) rfl rfl rfl)
  simp at h2;obtain rfl:j=ls.length:=by omega
  refine zY ?_;refine yhi (k+1) om om zs (hsE ?_);rw[show (ydv g k ls).take ls.length=ydv g k ls from qal (by simp[ydv]),rowsC_end hls]
 simp at h;obtain rfl:k=g.ports.length:=by omega
 refine zk ?_;have hal:g.ids.take g.ports.length=g.ids:=qal om;have hbl:(ypi g).length=g.ports.length:=by simp[ypi]
 have hm:Frz (yac (ync p g g.ports.length++ybz 15 1 (zul g g.ports.length) [])) (.ls 15 1 g.ports.length) (ycj (ypi g)):=yym (f:=ync p g g.ports.length) rfl rfl rfl hbl.symm (by
  unfold zul
  rw[qbm,qho,qba,qal om])
 refine Frz.boxF (xs:=yrt p g g.ports.length) (ys:=zck p g) rfl rfl (fun y hy=>?_) (fun i x y hx hy=>?_)
 .simp only[zck,qaq,qeb,or_false]at hy;rcases hy with rfl|rfl|rfl|rfl|rfl|rfl|rfl <;> rfl
 have hi:i < 7:=(qaa.1 hx).1;have:i=0\/i=1\/i=2\/i=3\/i=4\/i=5\/i=6:=by omega
 rcases this with rfl|rfl|rfl|rfl|rfl|rfl|rfl <;> simp only[yrt,zck,qas,qca,Option.some.injEq]at hx hy <;> subst hx hy
 .exact Frz.pure
 .exact Frz.pure
 .exact Frz.pure
 .exact Frz.pure
 .exact Frz.pure
 .rw [hal];exact Frz.pure
 exact hm
end
section
open Go.RowKit
def rowMover(p:ProgD)(g:GraphD):List AV:=[ykp p.name,.sl 6 (p.vars.map ybl),.sl 3 (p.rules.map ybc),zjq p g,yeh (yaf p g)]
def ygw(p:ProgD)(g:GraphD):AV:=.dp (rowMover p g) 0
theorem zai(p:ProgD)(g:GraphD)(hf:Fair p g)(h0:ycv p g=0):Con prog 85 [ygg p,yev g] (ygw p g):=by
 have hg:=(ydk.1 h0).2.1;refine ze Tryz.func85 ntmps85 Tryz.results85 ?_
 (repeat (first|refine zy ?_|refine zc (newscene_con p g hg) ?_|refine zc (yoh p g hf h0) ?_))
 refine zr ?_;exact Frz.box rfl rfl
theorem ywf(h:CfgOk p g c)(hv:v < c.length):Con prog 123 [ygw p g,ycj c,i64 v] (i64 (xap p ⟨g,c,v⟩)):=by
 have hlen:=(ycn h.prog).2.2.1;refine ze Tryz.func123 ntmps123 Tryz.results123 ?_;refine zY ?_;refine ybj (α:=Nat) (fun k=>[(14,i64 k),(13,i64 p.rules.length),(0,ygw p g),(1,ycj c),(2,i64 v)]) (fun k=>[]) (fun k=>p.rules.length - k) (fun k=>k<=p.rules.length/\∀ j b,j < k->(p.rules.map fun r=>(⟨g,c,v⟩:Scn).of r.guard)[j]?=some b->b=0) 0 ⟨om,fun j b hj=>by omega⟩ zs yag ?_;intro k ⟨hk,hall⟩;refine zY ?_;refine zj ?_ ?_ <;> intro h1
 .simp at h1;obtain⟨r,hr⟩:=ybk h1;have hat:(p.rules.map fun r=>(⟨g,c,v⟩:Scn).of r.guard)[k]?=some ((⟨g,c,v⟩:Scn).of r.guard):=by rw[qak,hr];rfl
  (repeat (first|refine zy ?_|refine zc (sguard_con h hv hr) ?_))
  refine zj ?_ ?_ <;> intro h2
  .refine zk ?_;exact yad (by unfold xap;rw[zwx hat (by simpa using h2) hall];simp)
  refine zY ?_;refine rnd (k+1) ⟨om,fun j b hj hb=>?_⟩ om zs yag;by_cases e:j=k
  .subst e;rw[hat]at hb;cases hb;simpa using h2
  exact hall j b om hb
 simp at h1;obtain rfl:k=p.rules.length:=by omega
 refine zk ?_;refine yad ?_;unfold xap;rw[zbr];intro a ha;obtain⟨j,hj⟩:=qao ha;exact hall j a (by have:=(qaa.1 hj).1;simpa using this) hj
theorem snodes_con{f:Nat}{caps:List AV}{b:Nat->Bool}(n:Nat)(hn:n<=1000)(hp:yas.pureL caps=true)(hf:∀ v:Nat,v < n->Con prog f (i64 v::caps) (yau (b v))):Con prog 204 [i64 n,.fn f caps] (yav (ymc b n)):=by
 refine ze Tryz.func204 ntmps204 Tryz.results204 ?_;refine zY ?_;refine ybj (α:=Nat) (fun k=>[(8,i64 k),(7,i64 n),(5,yav (ymc b k)),(1,.fn f caps)]) (fun k=>[]) (fun k=>n - k) (fun k=>k<=n) 0 om zs yag ?_;intro k hk;refine zY ?_;refine zj ?_ ?_ <;> intro h1
 .simp at h1
  (repeat (first|refine zy ?_|refine zc (hf k h1) ?_))
  have hnext:∀ q,b k=q->ymc b (k+1)=if q=true then ymc b k ||| (1#32 <<< k)else ymc b k:=fun q hq=>by rw[ymc,hq]
  refine zj ?_ ?_ <;> intro h2
  ·(try refine zbx ?_)
   have e:=hnext true h2;rw[if_pos rfl]at e;refine rnd (k+1) om om ?_ yag;rw[e];exact zs
  refine zY ?_;have e:=hnext false h2;rw[if_neg sm]at e;refine rnd (k+1) om om ?_ yag;rw[e];exact zs
 simp at h1;obtain rfl:k=n:=by omega
 exact zkp
theorem menabled1_con(h:CfgOk p g c)(hv:v < c.length):Con prog 205 [i64 v,.dp [ygw p g] 0,.dp [ycj c] 0] (yau (yry p g c v)):=by
 refine ze Tryz.func205 ntmps205 Tryz.results205 ?_
 (repeat (first|refine zy ?_|refine zc (ywf h hv) ?_))
 refine zr ?_;exact yae rfl
theorem zaf(h:CfgOk p g c):Con prog 151 [ygw p g,ycj c] (yav (ydc p g c)):=by
 have hn:=h.n24;have hl:=h.len;have htl:(yaf p g).length=c.length:=(ynh h.table).1.symm;have hnc:=snodes_con (f:=205) (caps:=[.dp [ygw p g] 0,.dp [ycj c] 0]) (b:=yry p g c) c.length om rfl fun v hv=>menabled1_con h hv;refine ze Tryz.func151 ntmps151 Tryz.results151 ?_
 (repeat (first|with_reducible refine yeo ?_|with_reducible refine ycy ?_|refine ydu ?_));refine ysv ?_;refine ydb (lf:=lfT) rfl ?_
 refine zO ?_;refine zt ?_;refine yhn 2 rfl rfl rfl rfl rfl ?_;refine yhn 3 rfl rfl rfl rfl rfl ?_
 (repeat (first|refine zz ?_|refine yno 9 (y:=i64 c.length) rfl (yka (by rw[htl])) ?_))
 exact zp
end
section
open Go.RowKit
def ypb(f:Nat->Bool)(n:Nat):Nat:=((List.range n).filter f).length
def zak(B:BitVec 32):Nat:=ypb B.getLsbD 32
theorem ywp(f:Nat->Bool)(m:Nat):∀ n,ypb f (m+n)=ypb f m+ypb (fun i=>f (m+i)) n
 | 0=>by simp[ypb]
 | n+1=>by
  have ih:=ywp f m n;unfold ypb at *;rw[show m+(n+1)=(m+n)+1 by omega,qdd,qcn,qan,ih,qdd,qcn,qan];simp only[qge,qhl];cases f (m+n) <;> simp <;> omega
theorem yle{f g:Nat->Bool}(h:∀ i,i < n->f i=g i):ypb f n=ypb g n:=by
 unfold ypb;congr 1;exact qfm fun i hi=>h i (qbt.1 hi)
theorem zmp(f:Nat->Bool)(n:Nat):ypb f n<=n:=by
 unfold ypb;have:=qcu f (List.range n);simpa using this
def zhd(x:Nat):Nat:=ypb x.testBit 8
def yuu:ByteArray:=⟨((List.range 256).map fun n=>UInt8.ofNat (zhd n)).toArray⟩
theorem yst(h:n < 256):yuu[n]?=some (UInt8.ofNat (zhd n)):=by
 have hs:n < yuu.size:=by
  show n < (((List.range 256).map fun n=>UInt8.ofNat (zhd n)).toArray).size;simpa using h
 rw[getElem?_pos yuu n hs];show some ((((List.range 256).map fun n=>UInt8.ofNat (zhd n)).toArray)[n]'(by simpa using h))=_;simp
theorem pop_split(B:BitVec 32):zak B=zhd (B >>> 24).toNat+zhd ((B >>> 16) &&& 255#32).toNat+zhd ((B >>> 8) &&& 255#32).toNat+zhd (B &&& 255#32).toNat:=by
 have h255:∀ i,i < 8->(255#32).getLsbD i=true:=by decide
 have e1:zhd (B >>> 24).toNat=ypb (fun i=>B.getLsbD (24+i)) 8:=yle fun i hi=>by
  show (B >>> 24).getLsbD i=_;rw[qec]
 have e2:zhd ((B >>> 16) &&& 255#32).toNat=ypb (fun i=>B.getLsbD (16+i)) 8:=yle fun i hi=>by
  show ((B >>> 16) &&& 255#32).getLsbD i=_;rw[qbi,qec,h255 i hi,qfl]
 have e3:zhd ((B >>> 8) &&& 255#32).toNat=ypb (fun i=>B.getLsbD (8+i)) 8:=yle fun i hi=>by
  show ((B >>> 8) &&& 255#32).getLsbD i=_;rw[qbi,qec,h255 i hi,qfl]
 have e4:zhd (B &&& 255#32).toNat=ypb B.getLsbD 8:=yle fun i hi=>by
  show (B &&& 255#32).getLsbD i=_;rw[qbi,h255 i hi,qfl]
 have s1:ypb B.getLsbD 32=ypb B.getLsbD 8+ypb (fun i=>B.getLsbD (8+i)) 24:=ywp B.getLsbD 8 24;have s2:ypb (fun i=>B.getLsbD (8+i)) 24=ypb (fun i=>B.getLsbD (8+i)) 8+ypb (fun i=>B.getLsbD (8+(8+i))) 16:=ywp (fun i=>B.getLsbD (8+i)) 8 16;have s3:ypb (fun i=>B.getLsbD (8+(8+i))) 16=ypb (fun i=>B.getLsbD (8+(8+i))) 8+ypb (fun i=>B.getLsbD (8+(8+(8+i)))) 8:=ywp (fun i=>B.getLsbD (8+(8+i))) 8 8;have f1:ypb (fun i=>B.getLsbD (8+(8+i))) 8=ypb (fun i=>B.getLsbD (16+i)) 8:=yle fun i _=>by congr 1;omega
 have f2:ypb (fun i=>B.getLsbD (8+(8+(8+i)))) 8=ypb (fun i=>B.getLsbD (24+i)) 8:=yle fun i _=>by congr 1;omega
 rw[e1,e2,e3,e4];show ypb B.getLsbD 32=_;omega
theorem zmo(n:Nat):zhd n<=8:=zmp _ _
theorem xdx(B:BitVec 32):zak B<=32:=zmp _ _
theorem xbp(B:BitVec 32):(B &&& 255#32).toNat < 256:=by
 rw[BitVec.toNat_and];exact Nat.lt_of_le_of_lt Nat.and_le_right dc
theorem shr24(B:BitVec 32):(B >>> 24).toNat < 256:=by
 rw[BitVec.toNat_ushiftRight,Nat.shiftRight_eq_div_pow];have:=B.isLt;omega
theorem zzo(h:n<=8):((UInt8.ofNat n).toNat:Int)=n:=by
 rw[UInt8.toNat_ofNat'];omega
theorem zmj(B:BitVec 32):Con prog 80 [yav B] (i64 (zak B)):=by
 have p1:=zmo (B >>> 24).toNat;have p2:=zmo ((B >>> 16) &&& 255#32).toNat;have p3:=zmo ((B >>> 8) &&& 255#32).toNat;have p4:=zmo (B &&& 255#32).toNat;refine ze Tryz.func80 ntmps80 Tryz.results80 ?_
 (repeat (first|refine xgl rfl rfl om rfl rfl ?_|refine znv (C:=255#32) rfl rfl rfl rfl ?_|refine yml (s:=yuu) (b:=UInt8.ofNat (zhd (B >>> 24).toNat)) tok rfl kf rfl om (yst (shr24 B)) rfl rfl (yno 5 (y:=.v (.int .u8 (zhd (B >>> 24).toNat))) rfl (by rw[zzo p1]) ?_)|refine yml (s:=yuu) (b:=UInt8.ofNat (zhd ((B >>> 16) &&& 255#32).toNat)) tok rfl kf rfl om (yst (xbp _)) rfl rfl (yno 9 (y:=.v (.int .u8 (zhd ((B >>> 16) &&& 255#32).toNat))) rfl (by rw[zzo p2]) ?_)|refine yml (s:=yuu) (b:=UInt8.ofNat (zhd ((B >>> 8) &&& 255#32).toNat)) tok rfl kf rfl om (yst (xbp _)) rfl rfl (yno 14 (y:=.v (.int .u8 (zhd ((B >>> 8) &&& 255#32).toNat))) rfl (by rw[zzo p3]) ?_)|refine yml (s:=yuu) (b:=UInt8.ofNat (zhd (B &&& 255#32).toNat)) tok rfl kf rfl om (yst (xbp _)) rfl rfl (yno 18 (y:=.v (.int .u8 (zhd (B &&& 255#32).toNat))) rfl (by rw[zzo p4]) ?_)|refine L_u8 tok rfl co rfl rfl ?_|refine z1 ?_|fail))
 refine zr ?_;exact yad (by rw[pop_split];omega)
end
end Go.Proofs.YtgpodcjhgdionaaGreatDoor
