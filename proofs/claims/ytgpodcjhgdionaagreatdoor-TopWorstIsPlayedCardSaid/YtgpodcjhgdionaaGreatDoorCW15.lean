/- Part 15 of the texts under TopWorstIsPlayed. -/
import Derived.Test.YtgpodcjhgdionaaGreatDoorCW6
import Derived.Test.YtgpodcjhgdionaaGreatDoorCW7
import Derived.Test.YtgpodcjhgdionaaGreatDoorCW8
import Derived.Test.YtgpodcjhgdionaaGreatDoorCW9
import Derived.Test.YtgpodcjhgdionaaGreatDoorCW10
import Derived.Test.YtgpodcjhgdionaaGreatDoorCW11
import Derived.Test.YtgpodcjhgdionaaGreatDoorCW12
import Derived.Test.YtgpodcjhgdionaaGreatDoorCW14
set_option linter.unusedVariables false
namespace Go.Proofs.YtgpodcjhgdionaaGreatDoor
open Go.Proofs.Tryz
variable{r:Nat->Nat->Bool}{L:List Bool}{s:SpcD}{n k v T:Nat}{g:GraphD}{kind:Int}{c:List (List Int)}{l:List Nat}{p:ProgD}{e:BitVec 32}{α:Type}{a:ArcD}{R:List (List α)}
section
open Go.RowKit
theorem zjx:∀ (n:Nat) (x:BitVec 32),yzq x e->(ynj e n x).Pairwise (fun a b=>a.toNat < b.toNat)/\∀ y∈ynj e n x,x.toNat<=y.toNat
 | 0,x,_=>by simp[ynj]
 | n+1,x,hx=>by
  unfold ynj;split
  .simp
  by_cases he:x=e
  .subst he;rw[ywk,ylg];simp
  obtain⟨h1,h2⟩:=zjx n _ (ymv e x);have hg:=zmf hx he;refine⟨List.pairwise_cons.2 ⟨fun y hy=>?_,h1⟩,fun y hy=>?_⟩
  .have:=h2 y hy;omega
  rcases qaq.1 hy with rfl|hy
  .exact qbf _
  have:=h2 y hy;omega
theorem zud(h:v < 32):(1#32 <<< v).toNat=2 ^ v:=by
 rw[qgx,show (1#32).toNat=1 from rfl,Nat.shiftLeft_eq,Nat.one_mul,qeq (qhm om h)]
theorem first_one(hg:ycf g=true)(hk:kind=2\/kind=3)(h0:e≠0#32):zce g kind e (-e &&& e)=true:=by
 obtain⟨t1,t2,t3⟩:=yrm h0;have hf:-e &&& e=1#32 <<< tzV e:=by rw[BitVec.and_comm,ztt h0]
 have hs:(-e &&& e) &&& ~~~e=0#32:=yjx e;have hne:(-e &&& e == 0#32)=false:=by
  rw[hf,beq_eq_false_iff_ne];intro h;have:=congrArg (fun X=>BitVec.getLsbD X (tzV e)) h;simp[t1]at this
 unfold zce;rw[hne,hs];rcases hk with rfl|rfl
 .have:yvt g (-e &&& e)=true:=zec.2 fun v hv hb=>by
   rw[hf,zfb om]at hb;have hvt:v=tzV e:=by simpa using hb
   apply qbr;intro u hu;rw[qbi,hf,zfb hu,qbs];by_cases hut:u=tzV e
   .rw [decide_eq_true hut,qfl];by_cases hvl:v < g.ports.length
    .obtain ⟨ls,hls⟩:=ybk hvl;have hn:(ywh g).getD v 0#32=zua ls:=by simp[ywh,hls]
     rw[hn,zua,zcc hu,qbs,qep,qfo];intro l hl he;have hlk:=(ybv _ _ _).1 (((ycq _ _ _).1 ((ybe hg).2.2.2.2.2.1 v ls hls)).1 l hl);have:=of_decide_eq_true he;omega
    rw[qac,qch (by rw[ywi];omega),Option.getD_none,qbs]
   rw[decide_eq_false hut,qci]
  rw[this];rfl
 rfl
theorem zbk(hg:ycf g=true)(hk:1<=kind/\kind<=4){l:List (BitVec 32)}(h:yzw g kind e=some l):l.Pairwise (fun a b=>a.toNat < b.toNat)/\(∀ a∈l,a≠0#32/\yzq a e)/\(e=0#32<->l=[]):=by
 unfold yzw at h;split at h
 .rename_i h0;cases h;simp[h0]
 rename_i h0;split at h
 .cases h
 cases h;unfold zgx;by_cases k1:kind=1
 .rw [if_pos k1];refine⟨?_,fun a ha=>?_,?_⟩
  .rw [List.pairwise_map];refine(List.Pairwise.filter _ List.pairwise_lt_range).imp_of_mem fun {a b} ha hb hab=>?_;have h1:=(yfo (B:=e)).1 ha;have h2:=(yfo (B:=e)).1 hb;rw[zud h1.1,zud h2.1];exact qhm om hab
  .obtain ⟨v,hv,rfl⟩:=qag.1 ha;have h1:=yfo.1 hv;refine⟨fun h=>?_,?_⟩
   .have:=congrArg BitVec.toNat h;rw[zud h1.1]at this;have:=Nat.pow_pos (n:=v) (show 0 < 2 by omega);simp at *
   apply qbr;intro u hu;rw[qbi,zfb hu,qcy,qbs];by_cases huv:u=v
   .rw [huv,h1.2];simp
   simp[huv]
  simp[h0,zex]
 rw[if_neg k1];by_cases k4:kind=4
 .rw [if_pos k4];exact⟨sm,fun a ha=>by
   simp only[qau]at ha
   rw[ha]
   exact⟨h0,by unfold yzq;simp⟩,by simp[h0]⟩
 rw[if_neg k4];have hk23:kind=2\/kind=3:=by omega
 obtain⟨g1,_⟩:=zjx (e:=e) (4294967296 - (-e &&& e).toNat) _ (yjx e);refine⟨List.Pairwise.filter _ g1,fun a ha=>?_,?_⟩
 .obtain ⟨h1,h2⟩:=zgb e _ _ (yjx e) a (qdc.1 ha).1;exact⟨h2,h1⟩
 have hp:=first_one hg hk23 h0;have hf0:-e &&& e≠0#32:=fun q=>by
  rw[zce,q]at hp;simp at hp
 have hm:-e &&& e∈(zga e).filter (zce g kind e):=by
  refine qdc.2 ⟨?_,hp⟩;unfold zga;rw[yzi (yjx e) hf0];exact qbe ..
 constructor
 .intro q;exact absurd q h0
 intro q;rw[q]at hm;cases hm
theorem xbv:∀ {m k T:Nat} {l:SpcD},T<=262144->yth p g kind m k T=some l->l.length=m/\(∀ i,i < m->∃ x,ypq p g kind (ydi (yaf p g) (k+i)) (k+i)=some x/\l[i]?=some x)/\T+yiw l<=262144
 | 0,k,T,l,hT,h=>by
  cases h;exact⟨rfl,fun i hi=>by omega,by simpa[yiw]using hT⟩
 | m+1,k,T,l,hT,h=>by
  unfold yth at h;split at h
  .cases h
  rename_i x hx;split at h
  .cases h
  rename_i hle;obtain⟨l',hl',rfl⟩:=qgt.1 h;obtain⟨h1,h2,h3⟩:=xbv om hl';refine⟨by simp[h1],fun i hi=>?_,by simp only[yiw,qce,List.sum_cons]at h3 ⊢;omega⟩;cases i with
  | zero=>exact⟨x,hx,rfl⟩
  | succ i=>
   obtain⟨y,hy1,hy2⟩:=h2 i om;exact⟨y,by rw[show k+(i+1)=k+1+i by omega];exact hy1,hy2⟩
theorem zui(h:CfgOk p g c){n:Int}(hn:yce (yaf p g)=(n,0)):0<=yda (yaf p g) c/\yda (yaf p g) c < n:=by
 have ht:=ydj h.fair h.fit;obtain⟨q,hq,hq2⟩:=yjc (tbl:=yaf p g) (by rw[hn]);rw[hn]at hq2;obtain rfl:n=q:=congrArg Prod.fst hq2;obtain⟨c1,c2⟩:=yff 0 h.table;have hw:∀ b∈(yaf p g).flatten,wOk b:=zuk fun b hb=>by
  obtain⟨r,h1,h2⟩:=qdk.1 hb;exact(ht.2 r h1).2 b h2
 obtain⟨_,l2,l3⟩:=yna 0 hw c2;have hp:=ynt hq;have e:yda (yaf p g) c=ycc 0 (yaf p g).flatten c.flatten:=c1;rw[e];omega
structure SysOk (p:ProgD) (g:GraphD) (kind:Int) (n:Nat) (s:SpcD):Prop where
 len:s.length=n
 ok:SpcOk s
 cfg:∀ k,CfgOk p g (ydi (yaf p g) k)
 rank:∀ k,k < n->yda (yaf p g) (ydi (yaf p g) k)=k
 uniq:∀ c k,CfgOk p g c->k < n->yda (yaf p g) c=k->c=ydi (yaf p g) k
 state:∀ k,k < n->∃ l,yzw g kind (ydc p g (ydi (yaf p g) k))=some l/\s[k]?=some (ydc p g (ydi (yaf p g) k),l.map fun B=>(B,yda (yaf p g) (yut p g (ydi (yaf p g) k) B)))
theorem xhm(hf:Fair p g)(h0:ycv p g=0)(hk:1<=kind/\kind<=4)(hn:yce (yaf p g)=((n:Int),0))(hb:yth p g kind n 0 0=some s):SysOk p g kind n s:=by
 have hg:=(ydk.1 h0).2.1;have ht:=ydj hf h0;have hr:∀ r∈yaf p g,∀ b∈r,ytx b:=fun r hr=>(ht.2 r hr).2;obtain⟨q,hq,hq2⟩:=yjc (tbl:=yaf p g) (by rw[hn]);rw[hn]at hq2;obtain rfl:(n:Int)=q:=congrArg Prod.fst hq2;have hcf:=zky hf h0;obtain⟨b1,b2,b3⟩:=xbv (Nat.zero_le _) hb;have hrk:=yqz hr hq;have hst:∀ k,k < n->∃ l,yzw g kind (ydc p g (ydi (yaf p g) k))=some l/\s[k]?=some (ydc p g (ydi (yaf p g) k),l.map fun B=>(B,yda (yaf p g) (yut p g (ydi (yaf p g) k) B))):=fun k hk'=>by
  obtain⟨x,h1,h2⟩:=b2 k hk';rw[qay]at h1;unfold ypq at h1;obtain⟨l,hl,rfl⟩:=qgt.1 h1;refine⟨l,hl,?_⟩;rw[h2];congr 2;refine List.map_congr_left fun B hB=>?_;have hsub:=((zbk hg hk hl).2.1 B hB).2;unfold xka;rw[zri (hcf k) hsub hn,hrk k om]
 have hlen32:(n:Int)<=32768:=by have:=yvi (yaf p g);rw[hn]at this;exact this
 have hpos:1<=n:=by
  have:=zui (hcf 0) hn;omega
 refine⟨b1,⟨om,om,om,fun x hx=>?_⟩,hcf,fun k hk=>hrk k om,fun c k hc hk h=>conf_rank hr hq hc.table om h,hst⟩;obtain⟨k,hkx⟩:=qao hx;have hkn:k < n:=by rw[<- b1];exact(qaa.1 hkx).1
 obtain⟨l,hl,hs⟩:=hst k hkn;rw[hkx]at hs;cases hs;obtain⟨g1,g2,g3⟩:=zbk hg hk hl;refine⟨?_,by simp[g3],fun i a ha=>?_⟩
 .apply qbr;intro u hu;rw[qec,qbs];have h24:=(hcf k).n24;have hl':=(hcf k).len;rcases qbh (24+u) 32 with h9|h9
  .show (ymc (yry p g _) _).getLsbD (24+u)=false;rw[yhm _ _ _ h9,decide_eq_false om];rfl
  exact qcg _ _ h9
 rw[qak]at ha;cases hB:l[i]? with
 | none=>rw[hB]at ha;cases ha
 | some B=>
  rw[hB]at ha;cases ha;obtain⟨m1,m2⟩:=g2 B (qab hB);have hri:=zui ((hcf k).step B) hn;refine⟨fun b hb hi=>?_,?_,m2,hri.1,by rw[b1];exact hri.2⟩
  .rw [qak]at hb;cases hC:l[i - 1]? with
   | none=>rw[hC]at hb;cases hb
   | some C=>
    rw[hC]at hb;cases hb;have e1:=qaa.1 hB;have e2:=qaa.1 hC;have:=(qdo.1 g1) (i - 1) i e2.1 e1.1 om
    rwa [e1.2,e2.2]at this
  rcases qfv B.toNat with h9|h9
  .exact absurd (qgb (by rw[h9];rfl)) m1
  exact h9
end
set_option maxRecDepth 100000
set_option maxHeartbeats 8000000
section
open Go.RowKit
theorem zqn(c:List (List Int))(r:List Int):yek (c++[r])=yek c++[r.map i64]:=by simp[yek]
theorem zrk(c:List (List Int))(hn:c.length<=1000)(hm:∀ r∈c,r.length<=1000):ytb prog 93 [ycj c] (fun _=>none) (.ls 3 1 c.length) (yac (ybz 3 1 (yek c) [])):=by
 refine zdi tok Tryz.func93 rfl rfl ntmps93 Tryz.results93 rfl rfl ?_;refine zY ?_;refine zcr 3 3 1 rfl rfl rfl ?_;refine ybw (α:=Nat) (fun k=>[(4,i64 k),(0,ycj c),(3,.ls 3 1 k)]) (fun k=>ybz 3 1 (yek (c.take k)) []) (fun k=>c.length - k) (fun k=>k<=c.length) 0 om zs (hsE (by simp only[ybz,yfe,ypl,qet,yek,qex];rfl)) ?_;intro k hk;refine zY ?_;refine zj ?_ ?_ <;> intro h
 .simp at h;obtain⟨r,hr⟩:=ybk (show k < c.length by omega);have hrm:=hm r (qab hr);have htk:(yek (c.take k)).length=k:=by simp[yek];omega
  refine zY ?_;refine yzo tok (fam 3 k) rfl rfl rfl (by intro c hc;rw[ydo]at hc;obtain⟨x,_,rfl⟩:=qag.1 hc;rfl) (by constructor <;> simp <;> omega) (yqn (f:=[]) rfl rfl rfl htk.symm rfl) rfl rfl rfl ?_;refine zO ?_;refine zko tok 17 rfl rfl rfl rfl rfl rfl (ygc (you (ywe rfl) rfl) (yuk (ydg om) rfl (yqm (f:=[]) rfl rfl rfl rfl))) (ygk (by intro x hx;rcases qau.1 hx with rfl;exact ywe rfl)) rfl rfl rfl ?_;refine zcv tok (f:=[]) (t':=[(4,i64 k),(0,ycj c)]) rfl rfl rfl rfl rfl rfl rfl rfl rfl rfl htk.symm (by simp[ydo]) co (by(repeat (first|exact yxc|refine yss rfl rfl ?_))) rfl rfl rfl ?_;refine zY ?_;refine yhi (k+1) om om zs (hsE ?_);rw[yao hr,zqn,ydo];rfl
 simp at h;obtain rfl:k=c.length:=by omega
 refine zY ?_;refine yqa ⟨_,rfl,yhx _,fun id o ho=>?_⟩;rw[<- qaw (l:=c)]at ho;simpa[S]using ho
end
section
open Go.RowKit
theorem rmove_con(h:CfgOk p g c)(hv:v < c.length)(hen:yry p g c v=true):Con prog 120 [ygg p,yev g,ycj c,i64 v] (yai (znq p g c v)):=by
 obtain⟨st,hst⟩:=ybk hv;obtain⟨b,hb,hsb⟩:=h.row hst;have hbl:=ykf hb;have hsl:=(yci hsb).1;have h6:=h.vars6;obtain⟨i,r,hi,hr⟩:=zum (p:=p) (s:=⟨g,c,v⟩) (by simpa[yry]using hen);have hrs:r.sets.length<=1000:=(h.fair.light.2.2 r (qab hr)).2.1;have hcv:c.getD v []=st:=by rw[qac,hst];rfl
 let row:Nat->List Int:=fun j=>(r.sets.take j).foldl (xhj p (yaf p g) ⟨g,c,v⟩) st
 have hrl:∀ j,(row j).length=p.vars.length:=fun j=>by simp only[row];rw[zna];omega
 have hfi:=zjo h hv;rw[hi]at hfi;have hbring:=tbring_con p g h.fair h.fit;refine ze Tryz.func120 ntmps120 Tryz.results120 ?_
 (repeat (first|refine zz ?_|refine zcu tok rfl rfl rfl (by intro c hc;rw[ydo]at hc;obtain⟨x,_,rfl⟩:=qag.1 hc;rfl) (by constructor <;> simp <;> omega) rfl rfl rfl rfl rfl ?_))
 refine ybw (α:=Nat) (fun j=>[(11,i64 j),(10,.sl 2 (r.sets.map zid)),(9,.ls 16 1 p.vars.length),(2,ycj c),(3,i64 v),(4,.lp 4 0),(5,.lp 5 0)]) (fun j=>[(16,some (.vec ((row j).map i64))),(5,some (.cells [yai g.ids,yaq g.ports])),(4,some (.cells [ykp p.name,.sl 6 (p.vars.map ybl),.sl 3 (p.rules.map ybc)]))]) (fun j=>r.sets.length - j) (fun j=>j<=r.sets.length) 0 om ?_ (yah (yab ?_ (yab rfl (yab rfl yag)))) ?_
 .refine yan rfl (yan rfl (yan (yes rfl (by rw[qai,hsl,hbl])) zs))
 .show some _=some _;rw[ydo];rfl
 intro j hj;refine zY ?_;refine zj ?_ ?_ <;> intro h1
 .simp at h1;obtain⟨x,hx⟩:=ybk h1;have hty:=xhk h.prog (qab hr) (qab hx);obtain⟨y,hy⟩:=ybk (show x.var.toNat < p.vars.length by omega);obtain⟨q,hq⟩:=ybk (show x.var.toNat < b.length by omega);have hnext:row (j+1)=(row j).set x.var.toNat (yjo p (yaf p g) v x.var.toNat ((⟨g,c,v⟩:Scn).of x.val)):=by
   simp only[row];rw[yao hx,qcx,qcr,qhp,xhj]
  (repeat (first|refine zy ?_|refine zc (zyt h hv hty.2.2) ?_|refine zc (hbring v x.var ((⟨g,c,v⟩:Scn).of x.val) om om b q (by rw[qcl];exact hb) hq) ?_))
  refine yat tok rfl rfl rfl rfl hty.1 om rfl rfl ?_;refine ygo tok rfl rfl rfl rfl rfl rfl (by rw[qai,hrl];omega) rfl (congrArg (fun z=>yac ((16,some (LObj.vec z))::_)) (show _=(row (j+1)).map i64 by rw[qgv,hnext,qdx,qcl])) rfl rfl ?_;refine zY ?_;exact yhi (j+1) om om zs (yah (yab rfl (yab rfl (yab rfl yag))))
 simp at h1;obtain rfl:j=r.sets.length:=by omega
 refine zk ?_;have e:znq p g c v=row r.sets.length:=by simp only[znq,hi,qcl,xix,hr,hcv,row,qaw]
 rw[e];exact zlj rfl (hrl _).symm
theorem zru(h:CfgOk p g c)(set:BitVec 32)(hs0:set≠0#32)(hse:yzq set (ydc p g c)):Con prog 64 [ygg p,yev g,ycj c,yav set] (.tup [ycj (yut p g c set),i64 0]):=by
 have h24:=h.n24;have hl:=h.len;have h6:=h.vars6;have hrows:∀ r∈c,r.length<=1000:=fun r hr=>by have:=h.rowlen r hr;omega
 have hck:=ysm p g c h.fair h.cin;rw[yfq.2 ⟨h.fit,h.table⟩]at hck;have hena:=ywu h;have hset:∀ v:Nat,v < c.length->set.getLsbD v=true->yry p g c v=true:=fun v hv hb=>by
  have:(ymc (yry p g c) c.length).getLsbD v=true:=hse.bit hb;rw[yhm _ _ _ om,qad]at this;exact this.2
 have hse':set &&& ~~~(ydc p g c)=0#32:=hse;refine ze Tryz.func64 ntmps64 Tryz.results64 ?_;refine zZ ?_;refine yaj 22 rfl (fun q1=>?_) (fun q1=>?_)
 .rw [yct]at q1;exact absurd (by simpa using q1) hs0
 (try refine zbz ?_)
 refine zj ?_ ?_ <;> intro q2
 .rw [ydd,hse']at q2;simp at q2
 (repeat (first|refine zy ?_|refine zcw (zrk c om hrows) rfl rfl rfl rfl rfl rfl rfl rfl rfl rfl rfl rfl rfl ?_))
 refine zcp (f:=[(5,some (.cells [yai g.ids,yaq g.ports])),(4,some (.cells [ykp p.name,.sl 6 (p.vars.map ybl),.sl 3 (p.rules.map ybc)]))]) (f':=[(5,some (.cells [yai g.ids,yaq g.ports])),(4,some (.cells [ykp p.name,.sl 6 (p.vars.map ybl),.sl 3 (p.rules.map ybc)]))]) (M:=32) (c:=c) (t':=[(12,i64 (0:Nat)),(11,.ls 32 1 c.length),(2,ycj c),(3,yav set),(4,.lp 4 0),(5,.lp 5 0)]) rfl zs rfl rfl zh rfl rfl rfl rfl ?_;refine ybw (α:=Nat) (fun k=>[(12,i64 k),(11,.ls 32 1 c.length),(2,ycj c),(3,yav set),(4,.lp 4 0),(5,.lp 5 0)]) (fun k=>[(32,some (.vec ((zsb p g c set k).map yai))),(5,some (.cells [yai g.ids,yaq g.ports])),(4,some (.cells [ykp p.name,.sl 6 (p.vars.map ybl),.sl 3 (p.rules.map ybc)]))]) (fun k=>c.length - k) (fun k=>k<=c.length) 0 om zs (hsE (by rw[zsd])) ?_;intro k hk;refine zY ?_;refine zj ?_ ?_ <;> intro h1
 .simp at h1;obtain⟨st,hst⟩:=ybk h1;have hkl:=znc (p:=p) (g:=g) (set:=set) hk;have hh:=zdx set k om;refine zZ ?_;refine zj ?_ ?_ <;> intro h2
  .have h2:set.getLsbD k=true:=h2;have hmv:=rmove_con h h1 (hset k h1 h2)
   (repeat (first|refine zz ?_|refine yat tok rfl rfl rfl rfl om om rfl rfl ?_))
   refine ygo tok rfl rfl rfl rfl rfl rfl (by rw[qai,hkl];omega) rfl (congrArg (fun z=>yac ((32,some (LObj.vec z))::_)) (show _=(zsb p g c set (k+1)).map yai by rw[zfy hst,h2,if_pos rfl,qdx];simp)) rfl rfl ?_;refine zY ?_;exact yhi (k+1) om om zs (yah (yab rfl (yab rfl (yab rfl yag))))
  have h2:set.getLsbD k=false:=h2;refine zY ?_;refine yhi (k+1) om om zs (hsE (by rw[zsc h1 h2]))
 simp at h1;obtain rfl:k=c.length:=by omega
 refine zk ?_;rw[zzb];exact Frz.tup2 (zww rfl (by rw[yri])) Frz.pure
end
section
open Go.RowKit
theorem zfp(p:ProgD)(g:GraphD)(c:List (List Int))(hf:Fair p g)(hc:znu c)(h1:ycv p g=0)(hin:ybx (yaf p g) c=true)(h2:(yce (yaf p g)).2=0):Con prog 50 [ygg p,yev g,ycj c] (i64 (yda (yaf p g) c)):=by
 have hcl:=hc.1;have ht:=ydj hf h1;obtain⟨q,hq,_⟩:=yjc h2;have hends:=yxf p g hf h1;generalize htb:yaf p g=tbl at ht hin hq hends;have htl:=ht.1;obtain⟨hlen,hcfg⟩:=ynh hin;refine ze Tryz.func50 ntmps50 Tryz.results50 ?_;refine zY ?_;refine ybj (α:=Nat × Int) (fun a=>[(8,i64 a.1),(7,i64 a.2),(2,ycj c),(3,.lp 3 0),(4,.lp 4 0)]) (fun _=>pgF p g 3 4) (fun a=>c.length - a.1) (fun a=>a.1<=c.length/\a.2=((tbl.zip c).take a.1).foldl (fun k q=>ycc k q.1 q.2) 0/\0<=a.2/\∃ m,ygz 1 (tbl.take a.1).flatten=some m/\a.2 < m/\m<=32768) (0,0) ⟨sm,rfl,sm,1,rfl,sm,sm⟩ zs zh ?_;rintro⟨v,k⟩ ⟨hv,hk,hk0,m,hm,hkm,hm2⟩;simp only at hv hk hk0 hm hkm ⊢;refine zY ?_;refine zj ?_ ?_ <;> intro h3
 .simp at h3;obtain⟨r,hr⟩:=ybk (show v < tbl.length by omega);obtain⟨s,hs,hst⟩:=hcfg v r hr;obtain⟨hsl,hsg⟩:=yci hst;obtain⟨hrl,hrq⟩:=ht.2 r (qab hr);have hflat:ygz 1 ((tbl.take v).flatten++(r++(tbl.drop (v+1)).flatten))=some q:=by
   rw[<- hq,<- qbd];congr 1
   conv=>rhs;rw[<- qcd (v+1) tbl,yao hr]
   simp
  refine zY ?_;refine ybj (α:=Nat × Int) (fun a=>[(9,i64 a.1),(7,i64 a.2),(8,i64 v),(2,ycj c),(3,.lp 3 0),(4,.lp 4 0)]) (fun _=>pgF p g 3 4) (fun a=>r.length - a.1) (fun a=>a.1<=r.length/\a.2=((r.zip s).take a.1).foldl zmr k/\0<=a.2/\∃ m',ygz m (r.take a.1)=some m'/\a.2 < m'/\m'<=32768) (0,k) ⟨sm,rfl,hk0,m,rfl,hkm,hm2⟩ zs zh ?_;rintro⟨x,n⟩ ⟨hx,hn,hn0,m',hm',hnm,hm2'⟩;simp only at hx hn hn0 hm' hnm ⊢;refine zY ?_;refine zj ?_ ?_ <;> intro h4
  .simp at h4;obtain⟨b,hb⟩:=ybk (show x < r.length by omega);obtain⟨z,hz,hz1,hz2⟩:=hsg x b hb;obtain⟨b1,b2,b3⟩:=hrq b (qab hb);have hbd:=xeb (k:=n) (m:=m') (w:=b.2 - b.1+1) (d:=z - b.1) hn0 hnm om om om hm2';obtain⟨m'',hm'',hm3⟩:∃ m'',ygz m (r.take (x+1))=some m''/\m''=m' * rgW b/\m''<=32768:=by
    have hsp:=yla hflat;obtain⟨ma,e1,e2⟩:=hsp;rw[hm]at e1;cases e1;rw[<- qcd (x+1) r,qbd]at e2;obtain⟨mb,e3,_⟩:=yla e2;refine⟨mb,e3,?_⟩;rw[yao hb]at e3;obtain⟨mc,e4,e5⟩:=yla e3;rw[hm']at e4;cases e4;exact zwb e5
   (repeat (first|refine zy ?_|refine zc (hends v x r b hr hb) ?_))
   refine rnd (x+1,n * (b.2 - b.1+1)+z - b.1) ⟨by simp only;omega,?_,by simp only;omega,m'',hm'',?_,hm3.2⟩ (by simp only;omega) zs zh
   .simp only;rw[yao (ynn hb hz),qcx,<- hn];rfl
   simp only;rw[hm3.1];unfold rgW;omega
  simp at h4;obtain rfl:x=r.length:=by omega
  refine zY ?_;rw[qal so]at hn;rw[qaw]at hm';refine rnd (v+1,n) ⟨by simp only;omega,?_,hn0,m',?_,hnm,hm2'⟩ (by simp only;omega) zs zh
  .simp only;rw[yao (ynn hr hs),qcx,<- hk];exact hn
  simp only;rw[yao hr,qdq,yih,hm];simpa using hm'
 simp at h3;obtain rfl:v=c.length:=by omega
 refine zk ?_;rw[qal so]at hk;refine yad ?_;rw[hk];rfl
theorem rrank_con(p:ProgD)(g:GraphD)(c:List (List Int))(hf:Fair p g)(hc:znu c):Con prog 16 [ygg p,yev g,ycj c] (zue (rankM p g c)):=by
 refine ze Tryz.func16 ntmps16 Tryz.results16 ?_
 (repeat (first|refine zy ?_|refine zc (ysm p g c hf hc) ?_))
 refine zj ?_ ?_ <;> intro h
 .refine zk ?_;have:yhf p g c≠0:=by simpa using h
  rw[rankM,if_neg this];exact Frz.pure
 have h0:yhf p g c=0:=by simpa using h
 obtain⟨h1,hin⟩:=yfq.1 h0;have hcm:yia p g=yce (yaf p g):=by rw[yia,if_pos h1]
 have hcon:=yjk p g hf;rw[hcm]at hcon;refine zZ ?_;refine zj ?_ ?_ <;> intro h2
 .refine zk ?_;have:(yce (yaf p g)).2≠0:=by simpa using h2
  rw[rankM,if_pos h0,if_neg this];exact Frz.pure
 have h2':(yce (yaf p g)).2=0:=by simpa using h2
 rw[rankM,if_pos h0,if_pos h2']
 (repeat (first|refine zy ?_|refine zc (zfp p g c hf hc h1 hin h2') ?_))
 exact zp
end
section
open Go.RowKit
theorem rleast_own(p:ProgD)(g:GraphD)(hf:Fair p g)(h0:ycv p g=0):ytb prog 83 [ygg p,yev g] (fun _=>none) (.tup [.ls 7 1 (yaf p g).length,i64 0]) (yac (ybz 7 1 (yek (yxo (yaf p g))) [])):=by
 have hgl:=hf.glen;have hvl:=hf.vlen;have hends:=yxf p g hf h0;have htl:(yaf p g).length=g.ports.length:=by simp[yaf]
 have hw:∀ (v:Nat) (r:List (Int × Int)),(yaf p g)[v]?=some r->r.length=p.vars.length:=fun v r h=>ykf h;refine zdi tok Tryz.func83 rfl rfl ntmps83 Tryz.results83 rfl rfl ?_
 (repeat (first|refine zy ?_|refine zc (yww p g hf) ?_))
 refine zj ?_ ?_ <;> intro h
 .simp [h0]at h
 refine zY ?_;generalize htb:yaf p g=tbl at hends htl hw;refine zcr 7 7 1 rfl rfl rfl ?_;refine ybw (α:=Nat) (fun v=>[(8,i64 v),(7,.ls 7 1 v),(2,.lp 2 0),(3,.lp 3 0)]) (fun v=>pgF p g 2 3++ybz 7 1 (yek ((yxo tbl).take v)) []) (fun v=>tbl.length - v) (fun v=>v<=tbl.length) 0 om zs (yah (by simp only[qet,yek,qex,ybz,yfe,ypl,qcw];exact yab rfl (yab rfl (yab rfl yag)))) ?_;intro v hv;refine zY ?_;refine zj ?_ ?_ <;> intro h3
 .simp at h3;obtain⟨r,hr⟩:=ybk (show v < tbl.length by omega);have hrl:=hw v r hr;have htk:(yek ((yxo tbl).take v)).length=v:=by simp[yek,yxo];omega
  refine zY ?_;refine zcr 9 9 1 rfl rfl (yqm (f:=pgF p g 2 3) rfl rfl rfl rfl) ?_;refine ybw (α:=Nat) (fun j=>[(10,i64 j),(9,.ls 9 1 j),(8,i64 v),(7,.ls 7 1 v),(2,.lp 2 0),(3,.lp 3 0)]) (fun j=>(9,some (.vec (((r.map (·.1)).take j).map i64)))::(pgF p g 2 3++ybz 7 1 (yek ((yxo tbl).take v)) [])) (fun j=>r.length - j) (fun j=>j<=r.length) 0 om zs (fun id o h=>h) ?_;intro j hj;refine zY ?_;refine zj ?_ ?_ <;> intro h4
  .simp at h4;obtain⟨b,hb⟩:=ybk (show j < r.length by omega);have hlow:(r.map (·.1))[j]?=some b.1:=by rw[qak,hb];rfl
   (repeat (first|refine zy ?_|refine zc (hends v j r b hr hb) ?_|refine znw tok (id:=9) (t':=[(10,i64 j),(8,i64 v),(7,.ls 7 1 v),(2,.lp 2 0),(3,.lp 3 0)]) rfl rfl so rfl (by intro c hc;simp at hc;subst hc;rfl) (by constructor <;> simp <;> omega) (by(repeat (first|exact yxc|refine yss rfl rfl ?_))) (yqm (f:=pgF p g 2 3) rfl rfl rfl rfl) rfl rfl rfl ?_))
   refine yhi (j+1) om om zs (hsE ?_);rw[yao hlow,qbz];rfl
  simp at h4;obtain rfl:j=r.length:=by omega
  (repeat (first|with_reducible refine yeo ?_|with_reducible refine ycy ?_|refine ydu ?_|refine ype ?_))
  have hlr:(r.map (·.1)).take r.length=r.map (·.1):=qal sm;rw[hlr];refine A_rename 9 9 (fam 7 v) (t':=[(8,i64 v),(7,.ls 7 1 v),(2,.lp 2 0),(3,.lp 3 0)]) (h':=(fam 7 v,some (.vec ((r.map (·.1)).map i64)))::(pgF p g 2 3++ybz 7 1 (yek ((yxo tbl).take v)) [])) rfl ybb ?_ zs ybb ?_ ?_
  .refine yqn (f:=(9,some (.vec ((r.map (·.1)).map i64)))::pgF p g 2 3) ?_ ?_ ?_ ?_ ?_
   .rfl
   .rfl
   .rfl
   .exact htk.symm
   rfl
  .intro j ob hj ho;rw[yap hj]at ho;have hj9:j≠9:=by
    rintro rfl;rw[(yer (yqm (d:=9) (f:=pgF p g 2 3) (M:=7) (extra:=[]) rfl rfl rfl rfl)).1]at ho;cases ho
   exact⟨hj9,by rw[yap hj9];exact ho⟩
  refine zY ?_;refine zko tok 47 rfl rfl rfl rfl rfl rfl (ygc (you (ywe rfl) (you rfl (you (ywe rfl) rfl))) (yuk (ydg om) rfl (yqm (f:=pgF p g 2 3) rfl rfl rfl rfl))) (ygk (by intro x hx;rcases qau.1 hx with rfl;exact ywe rfl)) rfl rfl rfl ?_;refine zcv tok (f:=pgF p g 2 3) (t':=[(8,i64 v),(2,.lp 2 0),(3,.lp 3 0)]) rfl rfl rfl rfl rfl rfl rfl rfl rfl rfl htk.symm sm co (by(repeat (first|exact yxc|refine yss rfl rfl ?_))) rfl rfl rfl ?_;refine zY ?_;refine yhi (v+1) om om zs (hsE ?_);have hlv:(yxo tbl)[v]?=some (r.map (·.1)):=by rw[yxo,qak,hr];rfl
  rw[yao hlv,zqn]
 simp at h3;obtain rfl:v=tbl.length:=by omega
 refine zY ?_;refine yqa ⟨_,rfl,yhx _,fun id o ho=>?_⟩;rw[qal (by simp[yxo])];exact yys (f:=pgF p g 2 3) rfl om rfl id o ho
end
section
open Go.RowKit
theorem zrj(p:ProgD)(g:GraphD)(k:Int)(hf:Fair p g)(h0:ycv p g=0)(hk:0<=k/\k<=1000000000):Con prog 37 [ygg p,yev g,i64 k] (ycj (yir k (yaf p g)).1):=by
 have ht:=ydj hf h0;have hends:=yxf p g hf h0;have hle:=rleast_own p g hf h0;refine ze Tryz.func37 ntmps37 Tryz.results37 ?_
 (repeat (first|with_reducible refine yeo ?_|with_reducible refine ycy ?_|refine ydu ?_));refine ysv ?_;refine ydb (lf:=lfT) rfl ?_
 refine zO ?_
 (repeat (first|with_reducible refine yeo ?_|with_reducible refine ycy ?_|refine ydu ?_))
 generalize htb:yaf p g=tbl at ht hends hle;have htl:=ht.1;refine xif (t':=[(3,.lp 3 0),(4,.lp 4 0),(2,i64 k)]) (h':=pgF p g 3 4) ?_ zs zh
 (repeat (first|refine zy ?_|refine zcw hle rfl rfl rfl rfl rfl rfl rfl rfl rfl rfl rfl rfl rfl ?_))
 refine ybw (α:=Nat) (fun v=>[(9,i64 ((v:Int) - 1)),(7,.ls 16 1 tbl.length),(2,i64 (yir k (tbl.drop v)).2),(3,.lp 3 0),(4,.lp 4 0)]) (fun v=>pgF p g 3 4++ybz 16 1 (yek (xaw k tbl v)) []) (fun v=>v) (fun v=>v<=tbl.length) tbl.length om (by rw[qcb];exact zs) (hsE (by rw[wayT_all])) ?_;intro v hv;refine zY ?_;refine zj ?_ ?_ <;> intro h3
 .simp at h3;obtain⟨u,rfl⟩:∃ u,v=u+1:=⟨v - 1,om⟩;rw[show (((u+1:Nat):Int) - 1)=(u:Int) by omega];obtain⟨r,hr⟩:=ybk (show u < tbl.length by omega);obtain⟨K,hK⟩:∃ K,K=(yir k (tbl.drop (u+1))).2:=⟨_,rfl⟩;have hKb:0<=K/\K<=k:=by rw[hK];exact znl hk.1 _ fun r hr=>(ht.2 r (qdn hr)).2
  have hrest:(yds K r).2=(yir k (tbl.drop u)).2:=by rw[yjv hr,hK];rfl
  have hset:=wayT_set (k:=k) hr;rw[<- hK]at hset ⊢;obtain⟨hr1,hrq⟩:=ht.2 r (qab hr);obtain⟨A,hA⟩:∃ A,A=xaw k tbl (u+1):=⟨_,rfl⟩;have hAv:=wayT_at (k:=k) hr;have hAn:A.length=tbl.length:=by rw[hA,wayT_len]
  rw[<- hA]at hset hAv ⊢;have hpart0:(yek A)[u]?=some ((r.map (·.1)).map i64):=by rw[zma,hAv];rfl
  have hcO:ycw (yac (pgF p g 3 4++ybz 16 1 (yek A) []) 16)=some (yfe 16 1 0 (yek A)++[]):=by rw[ybo (f:=pgF p g 3 4) rfl];exact yfg _
  have hcell:(yfe 16 1 0 (yek A)++[])[(u:Int).toNat * 1]?=some (.ls (fam 16 u) 1 r.length):=by
   rw[show ((u:Int).toNat * 1)=u by simp,qba,yej,hpart0];simp only[qav,qai,Nat.div_one,qay]
  have hrow:yac (pgF p g 3 4++ybz 16 1 (yek A) []) (fam 16 u)=some (.vec ((r.map (·.1)).map i64)):=ylx (f:=pgF p g 3 4) rfl om hpart0
  (repeat (first|refine xgj tok rfl rfl hrow rfl rfl ?_|refine z1 ?_|refine yat tok rfl rfl (ybo (f:=pgF p g 3 4) rfl) rfl om om rfl rfl ?_|refine ydp (r:=.ls (fam 16 u) 1 r.length) tok rfl rfl rfl hcO hcell rfl rfl ?_|refine yat tok rfl rfl hrow rfl om om rfl rfl ?_))
  refine ybw (α:=Nat) (fun x=>[(10,i64 ((x:Int) - 1)),(9,i64 u),(7,.ls 16 1 tbl.length),(2,i64 (yds K (r.drop x)).2),(3,.lp 3 0),(4,.lp 4 0)]) (fun x=>pgF p g 3 4++ybz 16 1 (yek (A.set u (zhj K r x))) []) (fun x=>x) (fun x=>x<=r.length) r.length om (by rw[qcb];exact zs) (hsE (by rw[wayR_all,zyw hAv])) ?_;intro x hx;refine zY ?_;refine zj ?_ ?_ <;> intro h4
  .simp at h4;obtain⟨y,rfl⟩:∃ y,x=y+1:=⟨x - 1,om⟩;rw[show (((y+1:Nat):Int) - 1)=(y:Int) by omega];obtain⟨b,hb⟩:=ybk (show y < r.length by omega);obtain⟨b1,b2,b3⟩:=hrq b (qab hb);obtain⟨L,hL⟩:∃ L,L=(yds K (r.drop (y+1))).2:=⟨_,rfl⟩;have hLb:0<=L/\L<=K:=by rw[hL];exact yxi hKb.1 _ fun q hq=>hrq q (qdn hq)
   have hLm:=xff (w:=rgW b) hLb.1 (by unfold rgW;omega);have hLd:=xfe (w:=rgW b) hLb.1 (by unfold rgW;omega);simp only[rgW]at hLm hLd;have hstep:=wayR_set (k:=K) hb;have hnext:=way_rest (k:=K) hb;rw[<- hL]at hstep hnext ⊢;have hAl:u < A.length:=by omega
   have hpart:(yek (A.set u (zhj K r (y+1))))[u]?=some ((zhj K r (y+1)).map i64):=by rw[zma,qee hAl];rfl
   have hpl:((zhj K r (y+1)).map i64).length=r.length:=by rw[qai,zzs]
   have hcO:ycw (yac (pgF p g 3 4++ybz 16 1 (yek (A.set u (zhj K r (y+1)))) []) 16)=some (yfe 16 1 0 (yek (A.set u (zhj K r (y+1))))++[]):=by rw[ybo (f:=pgF p g 3 4) rfl];exact yfg _
   have hcell:(yfe 16 1 0 (yek (A.set u (zhj K r (y+1))))++[])[(u:Int).toNat * 1]?=some (.ls (fam 16 u) 1 r.length):=by
    rw[show ((u:Int).toNat * 1)=u by simp,qba,yej,hpart];simp only[qav,hpl,Nat.div_one,qay]
   have hrow:yac (pgF p g 3 4++ybz 16 1 (yek (A.set u (zhj K r (y+1)))) []) (fam 16 u)=some (.vec ((zhj K r (y+1)).map i64)):=ylx (f:=pgF p g 3 4) rfl om hpart
   (repeat (first|refine zy ?_|refine yat tok rfl rfl (ybo (f:=pgF p g 3 4) rfl) rfl om om rfl rfl ?_|refine ydp (r:=.ls (fam 16 u) 1 r.length) tok rfl rfl rfl hcO hcell rfl rfl ?_|refine yat tok rfl rfl hrow rfl om om rfl rfl ?_|refine xfn rfl rfl om rfl rfl ?_|refine zc (hends u y r b hr hb) ?_))
   refine ygo (h':=pgF p g 3 4++ybz 16 1 (yek (A.set u (zhj K r y))) []) tok rfl rfl rfl rfl rfl hrow (by rw[hpl];simp;omega) rfl ?_ rfl rfl ?_
   .have e:((zhj K r (y+1)).map i64).set y (.v (.int .i64 (b.1+L.tmod (b.2 - b.1+1))))=(zhj K r y).map i64:=by
     rw[<- hstep,qdx];rfl
    rw[show ((y:Int).toNat * 1)=y by simp,e];refine(zmb (f:=pgF p g 3 4) rfl om hpart (by rw[hpl,qai,zzs])).trans ?_;rw[zca,zca,qhk]
   (repeat (first|refine zy ?_|refine xil rfl rfl om om om rfl rfl ?_))
   refine yhi y om om ?_ (fun id o h=>h);rw[hnext];exact zs
  simp at h4;obtain rfl:x=0:=by omega
  refine zY ?_;rw[qfi,hrest,wayR_zero,hset];refine yhi u om om zs (fun id o h=>h)
 simp at h3;obtain rfl:v=0:=by omega
 refine zk ?_;rw[wayT_zero];exact yym (f:=pgF p g 3 4) (M:=16) (n:=tbl.length) rfl rfl rfl (by rw[yxj]) rfl
theorem runrank_con(p:ProgD)(g:GraphD)(k:Int)(hf:Fair p g):Con prog 12 [ygg p,yev g,i64 k] (xkr (unrankM p g k)):=by
 have hcon:=yjk p g hf;refine ze Tryz.func12 ntmps12 Tryz.results12 ?_;refine zZ ?_;by_cases h0:ycv p g=0
 .rw [yia,if_pos h0,unrankM,if_pos h0];have hb:=yvi (yaf p g);have hb0:0<=(yce (yaf p g)).1:=by
   unfold yce;cases hc:ygz 1 (yaf p g).flatten with
   | none=>simp
   | some n=>
    have ht:=ydj hf h0;have hw:∀ b∈(yaf p g).flatten,wOk b:=fun b hb=>by
     obtain⟨r,hr,hb⟩:=qdk.1 hb;exact zro ((ht.2 r hr).2 b hb)
    have e:=((zmx _ 1 om om hw).1 n hc).1;have:=(zft (yaf p g).flatten 1 om om hw).1;simp only;omega
  refine zj ?_ ?_ <;> intro h1
  .refine zk ?_;rw[if_neg (by simpa using h1)];exact Frz.tup2 Frz.nil Frz.pure
  have h1':(yce (yaf p g)).2=0:=by simpa using h1
  rw[if_pos h1']
  (repeat (first|refine zy ?_|refine zc (ypm _ _ _) ?_))
  refine zj ?_ ?_ <;> intro h2
  .refine zk ?_;simp[inB]at h2;rw[if_neg om];exact Frz.tup2 Frz.nil Frz.pure
  simp[inB]at h2;rw[if_pos om]
  (repeat (first|refine zy ?_|refine zc (zrj p g k hf h0 om) ?_))
  exact zp
 rw[yia,if_neg h0,unrankM,if_neg h0];refine zj ?_ ?_ <;> intro h1
 .refine zk ?_;exact Frz.tup2 Frz.nil Frz.pure
 simp[h0]at h1
end
section
open Go.RowKit
def rbF(p:ProgD)(g:GraphD)(acc:SpcD):List (Nat × Option LObj):=[(10,some (.cells [.ls 60 1 acc.length,.ls 61 1 acc.length])),(60,some (.vec (acc.map fun x=>yav x.1))),(61,some (.vec (acc.map fun x=>ybd x.2))),(6,some (.cells [ygd,ygd])),(4,some (.cells [yai g.ids,yaq g.ports])),(3,some (.cells [ykp p.name,.sl 6 (p.vars.map ybl),.sl 3 (p.rules.map ybc)]))]
theorem flatA_snoc{l:List ArcD}:yfk l++ykn a=yfk (l++[a]):=by simp[yfk]
theorem rbuild_con(p:ProgD)(g:GraphD)(hf:Fair p g)(h0:ycv p g=0)(hk:1<=kind/\kind<=4)(hn:yce (yaf p g)=((n:Int),0)):Con prog 25 [ygg p,yev g,i64 kind] (zfw (yth p g kind n 0 0)):=by
 have hg:=(ydk.1 h0).2.1;have hnb:(n:Int)<=32768:=by have:=yvi (yaf p g);rw[hn]at this;exact this
 have hco:=yjk p g hf;rw[yia,if_pos h0,hn]at hco;have hrk:=yoe kind;rw[decide_eq_true hk.1,decide_eq_true hk.2]at hrk;have ht:=ydj hf h0;have hr:∀ r∈yaf p g,∀ b∈r,ytx b:=fun r hr=>(ht.2 r hr).2;obtain⟨q,hq,hq2⟩:=yjc (tbl:=yaf p g) (by rw[hn]);rw[hn]at hq2;obtain rfl:(n:Int)=q:=congrArg Prod.fst hq2;have hcf:=zky hf h0;refine ycx tok Tryz.func25 rfl rfl ntmps25 Tryz.results25 rfl (zfx _) ?_;refine zZ ?_;refine znt 10 0 60 1 rfl rfl rfl rfl rfl ?_;refine znt 10 1 61 1 rfl rfl rfl rfl rfl ?_;refine ybw (α:=SpcD) (fun a=>[(12,i64 a.length),(11,i64 (yiw a)),(10,.lp 10 0),(8,i64 n),(2,i64 kind),(3,.lp 3 0),(4,.lp 4 0),(6,.lp 6 0)]) (fun a=>rbF p g a) (fun a=>n - a.length) (fun a=>a.length<=n/\yiw a<=262144/\yth p g kind n 0 0=(yth p g kind (n - a.length) a.length (yiw a)).map (a++·)) [] ⟨sm,by simp[yiw],by simp[yiw]⟩ zs (yah (yab rfl (yab rfl (yab rfl (yab rfl (yab rfl (yab rfl yag))))))) ?_;intro acc ⟨hal,hT,hb⟩;obtain⟨k,hk'⟩:∃ k,acc.length=k:=⟨_,rfl⟩;rw[hk']at hal hb ⊢;refine zY ?_;refine zj ?_ ?_ <;> intro q1
 .have q1:k < n:=by simp at q1;omega
  obtain⟨m,hm⟩:∃ m,n - k=m+1:=⟨n - k - 1,om⟩;rw[hm]at hb;obtain⟨c,hc⟩:∃ c,ydi (yaf p g) k=c:=⟨_,rfl⟩;have hcok:CfgOk p g c:=hc ▸ hcf k;have hrank:yda (yaf p g) c=k:=hc ▸ yqz hr hq k om;have hcon:=zrj p g k hf h0 ⟨om,om⟩;rw[xcc hr hq (by omega:(k:Int) < n),hc]at hcon;have hena:=yre hcok;have h24:=hcok.n24;have hclen:=hcok.len;have hE:InN g.ports.length (ydc p g c):=fun u hu=>by
   by_cases h32:u < 32
   .show (ymc (yry p g c) c.length).getLsbD u=false;rw[yhm _ _ _ h32,decide_eq_false om];rfl
   exact qcg _ _ om
  have hcho:=rchoices_con g hg hf.lg kind hk (ydc p g c) hE;cases hcv:yzw g kind (ydc p g c)with
  | none=>
   rw[hcv]at hcho;have hb2:yth p g kind n 0 0=none:=by rw[hb,yth,hc,ypq,hcv];rfl
   rw[hb2];refine zZ ?_;refine zr ?_;exact Frz.tup2 ykt Frz.pure
  | some l=>
   rw[hcv]at hcho;have hll:=zkx hcv;obtain⟨g1,g2,g3⟩:=zbk hg hk hcv;refine zZ ?_;refine zj ?_ ?_ <;> intro q2
   .have q2:262144 < yiw acc+l.length:=by simp at q2;omega
    have hb2:yth p g kind n 0 0=none:=by rw[hb,yth,hc,ypq,hcv];simp only[qav,qai];rw[if_pos q2];rfl
    rw[hb2];refine zk ?_;exact Frz.tup2 ykt Frz.pure
   have q2:¬ 262144 < yiw acc+l.length:=by simp at q2;omega
   refine zY ?_;refine zcr 17 70 2 rfl rfl rfl ?_;obtain⟨ar,har⟩:∃ ar,l.map (xka p g c k)=ar:=⟨_,rfl⟩;have harl:ar.length=l.length:=by rw[<- har,qai]
   have hx:ypq p g kind c k=some (ydc p g c,ar):=by rw[ypq,hcv,<- har];rfl
   have hb2:yth p g kind n 0 0=(yth p g kind m (k+1) (yiw acc+l.length)).map ((acc++[(ydc p g c,ar)])++·):=by
    rw[hb,yth,hc,hx];simp only[harl];rw[if_neg q2,qfh];congr 1;funext z;simp
   refine ybw (α:=Nat) (fun i=>[(18,i64 i),(17,.ls 70 2 i),(15,ydh l),(14,yav (ydc p g c)),(13,ycj c),(12,i64 k),(11,i64 ((yiw acc:Int)+(l.length:Int))),(10,.lp 10 0),(8,i64 n),(2,i64 kind),(3,.lp 3 0),(4,.lp 4 0),(6,.lp 6 0)]) (fun i=>(70,some (.vec (yfk (ar.take i))))::rbF p g acc) (fun i=>l.length - i) (fun i=>i<=l.length) 0 om zs (yah (yab rfl (yab rfl (yab rfl (yab rfl (yab rfl (yab rfl (yab rfl yag)))))))) ?_;intro i hi;refine zY ?_;refine zj ?_ ?_ <;> intro q3
   .simp at q3;obtain⟨B,hB⟩:=ybk q3;obtain⟨hB1,hB2⟩:=g2 B (qab hB);have hstp:=hcok.step B;have hs:=zru hcok B hB1 hB2;have hnum:=zfp p g (yut p g c B) hf hstp.cin h0 hstp.table (by rw[hn]);rw[zri hcok hB2 hn,hrank]at hnum;have hari:ar[i]?=some (xka p g c k B):=by rw[<- har,qak,hB];rfl
    have htk:=yao hari;have htl:(yfk (ar.take i)).length=i * 2:=by rw[zdo,qcj];omega
    (repeat (first|refine zz ?_|refine ydy tok rfl rfl rfl htl rfl (by simp[yas]) so rfl rfl rfl rfl rfl ?_))
    refine yhi (i+1) om om zs (yah (yab ?_ (yab rfl (yab rfl (yab rfl (yab rfl (yab rfl (yab rfl yag))))))));show some _=some _;rw[htk,<- flatA_snoc];rfl
   simp at q3;obtain rfl:i=l.length:=by omega
   rw[<- harl,qaw]
   (repeat (first|with_reducible refine yeo ?_|with_reducible refine ycy ?_|refine ydu ?_|refine ype ?_))
   refine zt ?_;refine zbg (h':=(70,some (.vec (yfk ar)))::rbF p g acc) 17 (ar.map ykn) rfl rfl (by rw[qai]) (by intro r hr;obtain⟨z,_,rfl⟩:=qag.1 hr;rfl) rfl rfl rfl ?_;have harr:rbF p g (acc++[(ydc p g c,ar)])=[(10,some (.cells [.ls 60 1 (k+1),.ls 61 1 (k+1)])),(60,some (.vec ((acc.map fun x=>yav x.1)++[yav (ydc p g c)]))),(61,some (.vec ((acc.map fun x=>ybd x.2)++[ybd ar]))),(6,some (.cells [ygd,ygd])),(4,some (.cells [yai g.ids,yaq g.ports])),(3,some (.cells [ykp p.name,.sl 6 (p.vars.map ybl),.sl 3 (p.rules.map ybc)]))]:=by simp[rbF,hk']
   have hrb:rbF p g acc=[(10,some (.cells [.ls 60 1 k,.ls 61 1 k])),(60,some (.vec (acc.map fun x=>yav x.1))),(61,some (.vec (acc.map fun x=>ybd x.2))),(6,some (.cells [ygd,ygd])),(4,some (.cells [yai g.ids,yaq g.ports])),(3,some (.cells [ykp p.name,.sl 6 (p.vars.map ybl),.sl 3 (p.rules.map ybc)]))]:=by simp[rbF,hk']
   have hm1:(acc.map fun x=>yav x.1).length=k * 1:=by simp[hk']
   have hm2:(acc.map fun x=>ybd x.2).length=k * 1:=by simp[hk']
   have htot:yiw (acc++[(ydc p g c,ar)])=yiw acc+ar.length:=by simp[yiw]
   rw[hrb];refine yqb (t':=[(17,ybd ar),(14,yav (ydc p g c)),(12,i64 k),(11,i64 ((yiw acc:Int)+(ar.length:Int))),(10,.lp 10 0),(8,i64 n),(2,i64 kind),(3,.lp 3 0),(4,.lp 4 0),(6,.lp 6 0)]) (h':=[(10,some (.cells [.ls 60 1 k,.ls 61 1 k])),(60,some (.vec (acc.map fun x=>yav x.1))),(61,some (.vec (acc.map fun x=>ybd x.2))),(6,some (.cells [ygd,ygd])),(4,some (.cells [yai g.ids,yaq g.ports])),(3,some (.cells [ykp p.name,.sl 6 (p.vars.map ybl),.sl 3 (p.rules.map ybc)]))]) ?_ zs (yah (yab rfl (yab rfl (yab rfl (yab rfl (yab rfl (yab rfl yag))))))) ;refine xbe [(12,i64 k),(11,i64 ((yiw acc:Int)+(ar.length:Int))),(10,.lp 10 0),(8,i64 n),(2,i64 kind),(3,.lp 3 0),(4,.lp 4 0),(6,.lp 6 0)] (rbF p g (acc++[(ydc p g c,ar)])) ?_ fun s2 hs2=>?_
   .rw [harr];refine ybg (lf:=lf0) ymj rfl ?_
    repeat' (first
    | refine zo ?_
    | refine ydy tok rfl rfl rfl hm1 rfl (by simp[yas]) so rfl rfl rfl rfl rfl ?_
    | refine ydy tok rfl rfl rfl hm2 rfl (by simp[yas,ybd]) so rfl rfl rfl rfl rfl ?_
    | exact mid zs (yab rfl (yab rfl (yab rfl (yab rfl (yab rfl (yab rfl yag))))))
    | exact trivial
    | refine⟨⟨_,rfl,?_⟩,?_⟩
    | refine yaz [10,11,12,13] (yaa rfl (yaa rfl (yaa rfl (yaa rfl yal)))) rfl dk ?_
    | refine yaz [9,11,12,13] (yaa rfl (yaa rfl (yaa rfl (yaa rfl yal)))) rfl dk ?_
    | refine yeq [0,1,2,3] 10 (yaa rfl (yaa rfl (yaa rfl (yaa rfl yal)))) rfl dk ?_
    | refine yeq [5,6,7,8] 5 (yaa rfl (yaa rfl (yaa rfl (yaa rfl yal)))) rfl dk ?_
    | refine yeq [5,6,8] 5 (yaa rfl (yaa rfl (yaa rfl yal))) rfl dk ?_
    | refine yeq [5,6] 5 (yaa rfl (yaa rfl yal)) rfl dk ?_
    | refine yeq [6,7,8] 5 (yaa rfl (yaa rfl (yaa rfl yal))) rfl dk ?_
    | refine yeq [6,8] 5 (yaa rfl (yaa rfl yal)) rfl dk ?_
    | refine yeq [6] 5 (yaa rfl yal) rfl dk ?_
    | refine yeq [7,8] 5 (yaa rfl (yaa rfl yal)) rfl dk ?_
    | refine yeq [8] 5 (yaa rfl yal) rfl dk ?_
    | refine yeq [4] 5 (yaa rfl yal) rfl dk ?_
    | refine yax [9,10] 4 rfl dk sm ?_
    | refine yax [4,5,7] 9 rfl dk sm ?_
    | refine yax [4,5,8] 8 rfl dk sm ?_
    | refine yax [4,5] 7 rfl dk sm ?_
    | refine yax [4,6,7] 8 rfl dk sm ?_
    | refine yax [4,6,8] 7 rfl dk sm ?_
    | refine yax [4,6] 6 rfl dk sm ?_
    | refine yax [4,7] 7 rfl dk sm ?_
    | refine yax [4,8] 6 rfl dk sm ?_)
   refine ypf ?_ hs2;have e14:((yiw (acc++[(ydc p g c,ar)]):Nat):Int)=(yiw acc:Int)+(ar.length:Int):=by rw[htot];omega
   have elen:(acc++[(ydc p g c,ar)]).length=k+1:=by simp[hk']
   refine zY ?_;refine yhi (acc++[(ydc p g c,ar)]) ⟨by rw[elen];omega,by rw[htot];omega,by rw[elen,htot,show n - (k+1)=m by omega,harl];exact hb2⟩ (by rw[elen];omega) ?_ (fun id o h=>h);rw[elen,e14];exact zs
 have q1:k=n:=by simp at q1;omega
 rw[q1,qbm]at hb;have hb3:yth p g kind n 0 0=some acc:=by rw[hb];simp[yth]
 rw[hb3]
 (repeat (first|with_reducible refine yeo ?_|with_reducible refine ycy ?_|refine ydu ?_|refine ype ?_))
 refine yey 10 0 (acc.map fun x=>[yav x.1]) rfl rfl rfl sm (fun row hr=>by obtain⟨y,_,rfl⟩:=qag.1 hr;rfl) (ydq _) rfl rfl rfl rfl ?_;refine yey 10 1 (acc.map fun x=>[ybd x.2]) rfl rfl rfl sm (fun row hr=>by obtain⟨y,_,rfl⟩:=qag.1 hr;rfl) (ydq _) rfl rfl rfl rfl ?_;refine zk ?_;have e3:zfw (some acc)=.tup [.agg [.sl 1 (acc.map fun x=>[yav x.1]),.sl 1 (acc.map fun x=>[ybd x.2])],i64 0]:=by simp[zfw,ydh,Function.comp_def]
 rw[e3];exact Frz.pure
end
section
open Go.RowKit
def ycg(s:SpcD)(k:Nat):List ArcD:=((s[k]?).map (·.2)).getD []
theorem ynp{x:BitVec 32 × List ArcD}(h:s[k]?=some x):ycg s k=x.2:=by simp[ycg,h]
def ytf{α:Type}(R:List (List α))(x:Nat)(k:α):List (List α):=R.set x (R.getD x []++[k])
def zyx(k:Nat):List ArcD->List (List Nat)->List (List Nat)
 | [],R=>R
 | a::l,R=>zyx k l (ytf R a.2.toNat k)
def xgf:Nat->SpcD->List (List Nat)->List (List Nat)
 | _,[],R=>R
 | k,x::s,R=>xgf (k+1) s (zyx k x.2 R)
def xas(s:SpcD):List (List Nat):=xgf 0 s (List.replicate s.length [])
structure RowsOk {α:Type} (n T:Nat) (q:α->Prop) (R:List (List α)):Prop where
 len:R.length=n
 row:∀ r∈R,r.length<=T/\∀ k∈r,q k
theorem RowsOk.at{q:α->Prop}(h:RowsOk n T q R)(x:Nat):(R.getD x []).length<=T/\∀ k∈R.getD x [],q k:=by
 rw[qac];cases hx:R[x]? with
 | none=>simp
 | some r=>exact h.row r (qab hx)
theorem RowsOk.add{q:α->Prop}(h:RowsOk n T q R)(x:Nat){k:α}(hk:q k):RowsOk n (T+1) q (ytf R x k):=by
 refine⟨by simp[ytf,h.len],fun r hr=>?_⟩;unfold ytf at hr;rcases qeu hr with hr|rfl
 .obtain ⟨h1,h2⟩:=h.row r hr;exact⟨om,h2⟩
 obtain⟨h1,h2⟩:=h.at x;refine⟨by simp only[qan,qgc];omega,fun j hj=>?_⟩;rcases qat.1 hj with hj|hj
 .exact h2 j hj
 simp only[qau]at hj;rw[hj];exact hk
theorem RowsOk.nil{α:Type}(n T:Nat)(q:α->Prop):RowsOk n T q (List.replicate n []):=⟨sm,fun r hr=>by rw[List.eq_of_mem_replicate hr];simp⟩
theorem RowsOk.mono{T':Nat}{q:α->Prop}(h:RowsOk n T q R)(hT:T<=T'):RowsOk n T' q R:=⟨h.len,fun r hr=>⟨qbp (h.row r hr).1 hT,(h.row r hr).2⟩⟩
theorem xep(hk:k < n):∀ {l:List ArcD} {T:Nat} {R:List (List Nat)},RowsOk n T (· < n) R->RowsOk n (T+l.length) (· < n) (zyx k l R)
 | [],T,R,h=>h
 | a::l,T,R,h=>by
  have:=xep hk (l:=l) (h.add a.2.toNat hk);rw[zyx,qaj,show T+(l.length+1)=T+1+l.length by omega];exact this
theorem xeq:∀ {s:SpcD} {k T:Nat} {R:List (List Nat)},k+s.length<=n->RowsOk n T (· < n) R->RowsOk n (T+yiw s) (· < n) (xgf k s R)
 | [],k,T,R,_,h=>h.mono (by simp[yiw])
 | x::s,k,T,R,hk,h=>by
  simp only[qaj]at hk;have:=xeq (s:=s) (k:=k+1) om (xep (k:=k) om (l:=x.2) h);exact this.mono (by simp[yiw];omega)
theorem xer:RowsOk s.length (yiw s) (· < s.length) (xas s):=by
 have:=xeq (n:=s.length) (s:=s) (k:=0) om (RowsOk.nil s.length 0 (· < s.length))
 rwa [qay]at this
def yky(s:SpcD)(L:List Bool)(k:Nat)(q:List Nat × List Nat):List Nat × List Nat:=
 (if !(L.getD k false) && (q.2.getD k 0+1 == (ycg s k).length)then q.1++[k]else q.1,q.2.set k (q.2.getD k 0+1))
def zbb(s:SpcD)(L:List Bool):List Nat->List Nat × List Nat->List Nat × List Nat
 | [],q=>q
 | k::l,q=>zbb s L l (yky s L k q)
def xfk(s:SpcD)(L:List Bool)(B:List (List Nat)):Nat->Nat->List Nat × List Nat->List Nat
 | 0,_,q=>q.1
 | m+1,i,q=>match q.1[i]? with
  | none=>q.1
  | some x=>xfk s L B m (i+1) (zbb s L (B.getD x []) q)
def zba:Nat->List Bool->List Nat
 | _,[]=>[]
 | k,b::l=>if b then k::zba (k+1) l else zba (k+1) l
def ysy(s:SpcD)(L:List Bool):List Nat:=xfk s L (xas s) s.length 0 (zba 0 L,List.replicate s.length 0)
theorem ysj:∀ {L:List Bool} {k x:Nat},x∈zba k L->k<=x/\L.getD (x - k) false=true/\x < k+L.length
 | [],k,x,h=>by simp[zba]at h
 | b::L,k,x,h=>by
  have step:x∈zba (k+1) L->k<=x/\(b::L).getD (x - k) false=true/\x < k+(b::L).length:=fun h=>by
   obtain⟨h1,h2,h3⟩:=ysj h;rw[show x - k=(x - (k+1))+1 by omega,qaj];exact⟨om,h2,om⟩
  unfold zba at h;split at h
  .rename_i hb;rcases qaq.1 h with rfl|h
   .exact ⟨qbf _,by simp[hb],sm⟩
   exact step h
  exact step h
theorem yoc:∀ {L:List Bool} {k:Nat},(zba k L).Nodup
 | [],k=>by simp[zba]
 | b::L,k=>by
  unfold zba;split
  .refine qcq.2 ⟨fun h=>?_,yoc⟩;have:=(ysj h).1;omega
  exact yoc
theorem zqy:∀ {L:List Bool} {k i:Nat} {b:Bool},L[i]?=some b->zba k (L.take (i+1))=zba k (L.take i)++if b then [k+i]else []
 | [],k,i,b,h=>by simp at h
 | c::L,k,0,b,h=>by
  simp only[qas,Option.some.injEq]at h;subst h;simp[zba]
 | c::L,k,i+1,b,h=>by
  have ih:=zqy (L:=L) (k:=k+1) (i:=i) (b:=b) (by simpa using h);rw[qhn,qhn,zba,zba,ih,show k+1+i=k+(i+1) by omega];split <;> simp
theorem yjp{l:List α}{i j:Nat}{x d:α}:(l.set i x).getD j d=if i=j/\i < l.length then x else l.getD j d:=by
 rw[qac,qdb,qac];by_cases h:i=j
 .subst h;by_cases hi:i < l.length
  .simp [hi]
  simp[hi]
 simp[h]
structure OrdI (s:SpcD) (L:List Bool) (c:Nat) (q:List Nat × List Nat):Prop where
 elen:q.2.length=s.length
 nd:q.1.Nodup
 mem:∀ k∈q.1,k < s.length/\(L.getD k false=true\/(ycg s k).length<=q.2.getD k 0)
 bd:∀ k,q.2.getD k 0<=c
theorem OrdI.le{c:Nat}{q:List Nat × List Nat}(h:OrdI s L c q):q.1.length<=s.length:=zre _ _ h.nd fun k hk=>(h.mem k hk).1
theorem OrdI.mono{c c':Nat}{q:List Nat × List Nat}(h:OrdI s L c q)(hc:c<=c'):OrdI s L c' q:=⟨h.elen,h.nd,h.mem,fun k=>qbp (h.bd k) hc⟩
theorem OrdI.step{s:SpcD}{L:List Bool}{c k:Nat}{q:List Nat × List Nat}(h:OrdI s L c q)(hk:k < s.length):OrdI s L (c+1) (yky s L k q):=by
 have hup:∀ j,q.2.getD j 0<=(yky s L k q).2.getD j 0:=fun j=>by
  unfold yky;rw[yjp];split
  .rename_i e;rw[e.1];omega
  exact qbf _
 have hself:(yky s L k q).2.getD k 0=q.2.getD k 0+1:=by
  unfold yky;rw[yjp,if_pos ⟨rfl,by rw[h.elen];exact hk⟩]
 have hold:∀ j∈q.1,j < s.length/\(L.getD j false=true\/(ycg s j).length<=(yky s L k q).2.getD j 0):=fun j hj=>by
  obtain⟨h1,h2⟩:=h.mem j hj;exact⟨h1,h2.imp id fun h2=>qbp h2 (hup j)⟩
 refine⟨by unfold yky;simp[h.elen],?_,?_,fun j=>?_⟩
 .show (if _ then _ else _:List Nat).Nodup;split
  .rename_i hc;simp only[qad,qbn,beq_iff_eq]at hc;refine qdl.2 ⟨h.nd,sm,fun x hx y hy e=>?_⟩;simp only[qau]at hy;subst hy;subst e;rcases (h.mem _ hx).2 with g|g
   .rw [hc.1]at g;cases g
   omega
  exact h.nd
 .intro j hj;have:j∈(if !(L.getD k false) && (q.2.getD k 0+1 == (ycg s k).length)then q.1++[k]else q.1):=hj;split at this
  .rename_i hc;simp only[qad,qbn,beq_iff_eq]at hc;rcases qat.1 this with hj|hj
   .exact hold j hj
   simp only[qau]at hj;subst hj;exact⟨hk,.inr (by rw[hself];omega)⟩
  exact hold j this
 have:=h.bd j;unfold yky;rw[yjp];split
 .rename_i e;have:=h.bd k;omega
 omega
theorem zyc:∀ {l:List Nat} {c:Nat} {q:List Nat × List Nat},OrdI s L c q->(∀ k∈l,k < s.length)->OrdI s L (c+l.length) (zbb s L l q)
 | [],c,q,h,_=>h
 | k::l,c,q,h,hl=>by
  have:=zyc (l:=l) (h.step (hl k (qbe ..))) fun j hj=>hl j (qap _ hj);rw[zbb,qaj,show c+(l.length+1)=c+1+l.length by omega];exact this
theorem xds{B:List (List Nat)}(hB:RowsOk s.length T (· < s.length) B):∀ {m i c:Nat} {q:List Nat × List Nat},OrdI s L c q->∃ c' q',OrdI s L c' q'/\xfk s L B m i q=q'.1
 | 0,i,c,q,h=>⟨c,q,h,rfl⟩
 | m+1,i,c,q,h=>by
  unfold xfk;split
  .exact ⟨c,q,h,rfl⟩
  exact xds hB (zyc h (hB.at _).2)
theorem zrc(hl:L.length=s.length):OrdI s L 0 (zba 0 L,List.replicate s.length 0):=
 ⟨sm,yoc,fun k hk=>by
  obtain⟨h1,h2,h3⟩:=ysj hk
  exact⟨om,.inl (by simpa using h2)⟩,fun k=>by
   rw[qac,qcs]
   split <;> simp⟩
theorem xhg(hl:L.length=s.length):(ysy s L).Nodup/\(∀ k∈ysy s L,k < s.length)/\(ysy s L).length<=s.length:=by
 obtain⟨c,q,h,e⟩:=xds (B:=xas s) (m:=s.length) (i:=0) xer (zrc hl);unfold ysy;rw[e];exact⟨h.nd,fun k hk=>(h.mem k hk).1,h.le⟩
def zto(cost:ArcD->Nat)(k:Nat):List ArcD->List Nat->List Nat
 | [],R=>R
 | a::l,R=>zto cost k l (R.set k (max (R.getD k 0) (cost a+R.getD a.2.toNat 0)))
def grS(cost:ArcD->Nat)(s:SpcD)(L:List Bool):List Nat->List Nat->List Nat
 | [],R=>R
 | k::o,R=>grS cost s L o (if L.getD k false then R else zto cost k (ycg s k) R)
def grF(cost:ArcD->Nat)(s:SpcD)(L:List Bool):List Nat:=grS cost s L (ysy s L) (List.replicate s.length 0)
def mvA(a:ArcD):Nat:=zak a.1
structure GrI (n B:Nat) (R:List Nat):Prop where
 len:R.length=n
 bd:∀ k,R.getD k 0<=B
theorem GrI.mono{B B':Nat}{R:List Nat}(h:GrI n B R)(hB:B<=B'):GrI n B' R:=⟨h.len,fun k=>qbp (h.bd k) hB⟩
theorem GrI.step{n B:Nat}{R:List Nat}(h:GrI n B R)(k:Nat){c x:Nat}(hc:c<=32):GrI n (B+32) (R.set k (max (R.getD k 0) (c+R.getD x 0))):=by
 refine⟨by simp[h.len],fun j=>?_⟩;rw[yjp];have h1:=h.bd k;have h2:=h.bd x;have h3:=h.bd j;split <;> omega
theorem xcr{cost:ArcD->Nat}(hc:∀ a,cost a<=32){n k:Nat}:∀ {l:List ArcD} {B:Nat} {R:List Nat},GrI n B R->GrI n (B+32 * l.length) (zto cost k l R)
 | [],B,R,h=>h.mono sm
 | a::l,B,R,h=>by
  have:=xcr hc (k:=k) (l:=l) (h.step k (x:=a.2.toNat) (hc a));rw[zto,qaj,show B+32 * (l.length+1)=B+32+32 * l.length by omega];exact this
theorem xgx(n B:Nat):GrI n B (List.replicate n 0):=⟨sm,fun k=>by
 rw[qac,qcs]
 split <;> simp⟩
def xgz(cost:ArcD->Nat)(s:SpcD)(L:List Bool):Option (List Nat):=if (ysy s L).length < L.length then none else some (grF cost s L)
end
section
open Go.RowKit
def xad(n k:Nat):List AV:=(List.range k).map (fun v:Nat=>i64 v)++List.replicate (n - k) (i64 0)
theorem fidK_len(h:k<=n):(xad n k).length=n:=by simp[xad];omega
theorem fidK_next(h:k < n):(xad n k).set k (i64 k)=xad n (k+1):=by
 unfold xad;rw[qbo _ _ sm,qdd];obtain⟨m,hm⟩:∃ m,n - k=m+1:=⟨n - k - 1,om⟩;rw[show n - (k+1)=m by omega,hm];simp[qbq]
theorem empty_own(n:Nat)(hn:n<=24):ytb prog 200 [i64 n] (yac []) (.agg [.ls 6 1 n,.ls 8 1 n]) (yac [(6,some (.vec (xad n n))),(8,some (.vec (List.replicate n ygd)))]):=by
 refine zdh tok Tryz.func200 rfl rfl ntmps200 Tryz.results200 rfl (fun id o h h2=>?_) ?_
 .simp only[yac]at h;split at h
  .cases h;cases h2
  split at h
  .cases h;cases h2
  cases h
 (repeat (first|with_reducible refine yeo ?_|with_reducible refine ycy ?_|refine ydu ?_));refine ysv ?_;refine ydb (lf:=lfT) rfl ?_
 refine zO ?_;refine zt ?_;have hz1:ykx n (yhw [Value.int .i64 0])=xad n 0:=by
  rw[show yhw [Value.int .i64 0]=[i64 0] from rfl,zym];simp[xad]
 have hz2:ykx n (yhw [Value.slice none 0 0])=List.replicate n ygd:=by
  rw[show yhw [Value.slice none 0 0]=[ygd] from rfl,zym]
 refine yzn [(3,.lp 3 0),(2,.lp 2 0)] [(3,some (.cells [.ls 6 1 n,.ls 8 1 n])),(6,some (.vec (ykx n (yhw [Value.int .i64 0])))),(8,some (.vec (ykx n (yhw [Value.slice none 0 0])))),(2,some (.cells (yhw zhh.zero)))] ?_ ?_
 .have hlim:n<=4294967296/\8 * n<=281474976710656:=by constructor <;> omega
  have hlim2:n<=4294967296/\24 * n<=281474976710656:=by constructor <;> omega
  refine ybg (lf:=lf0) ymj rfl ?_
  repeat' (first
   | refine zo ?_
   | refine yph tok rfl rfl rfl rfl (by first|exact hlim|exact hlim2) rfl rfl rfl rfl rfl ?_
   | exact mid zs zh
   | exact trivial
   | refine⟨⟨_,rfl,?_⟩,?_⟩
   | refine yaz [0,1,4,6] (yaa rfl (yaa rfl (yaa rfl (yaa rfl yal)))) rfl dk ?_
   | refine yaz [1,4,6] (yaa rfl (yaa rfl (yaa rfl yal))) rfl dk ?_
   | refine yaz [2,3,4,6] (yaa rfl (yaa rfl (yaa rfl (yaa rfl yal)))) rfl dk ?_
   | refine yaz [3,4,6] (yaa rfl (yaa rfl (yaa rfl yal))) rfl dk ?_
   | refine yaz [4,6] (yaa rfl (yaa rfl yal)) rfl dk ?_
   | refine yaz [5,6] (yaa rfl (yaa rfl yal)) rfl dk ?_
   | refine yax [1,2,5] _ rfl dk sm ?_
   | refine yax [0,3,5] _ rfl dk sm ?_
   | refine yax [1,3,5] _ rfl dk sm ?_
   | refine yax [0,2,5] _ rfl dk sm ?_
   | refine yax [1,3] _ rfl dk sm ?_
   | refine yax [2,5] _ rfl dk sm ?_
   | refine yax [0,5] _ rfl dk sm ?_
   | refine yax [0,3] _ rfl dk sm ?_
   | refine yax [3,5] _ rfl dk sm ?_
   | refine yax [0,2] _ rfl dk sm ?_
   | refine yax [4,5] _ rfl dk sm ?_
   | refine yax [1,5] _ rfl dk sm ?_
   | refine yax [1,2] _ rfl dk sm ?_)
 rw[hz1,hz2]
 (repeat (first|refine zy ?_|refine xgj tok rfl rfl rfl rfl rfl ?_))
 refine ybw (α:=Nat) (fun k=>[(13,i64 k),(12,i64 n),(3,.lp 3 0),(2,.lp 2 0)]) (fun k=>[(6,some (.vec (xad n k))),(3,some (.cells [.ls 6 1 n,.ls 8 1 n])),(8,some (.vec (List.replicate n ygd))),(2,some (.cells (yhw zhh.zero)))]) (fun k=>n - k) (fun k=>k<=n) 0 om zs (yah (yab rfl (yab rfl (yab rfl (yab rfl yag))))) ?_;intro k hk;refine zY ?_;refine zj ?_ ?_ <;> intro h1
 .simp at h1;have hil:=fidK_len hk
  (repeat (first|refine zy ?_|refine yat tok rfl rfl rfl rfl om om rfl rfl ?_))
  refine ygo tok rfl rfl rfl rfl rfl rfl (by rw[hil];omega) rfl (congrArg (fun z=>yac ((6,some (LObj.vec z))::_)) (show _=xad n (k+1) by rw[show ((k:Int).toNat * 1)=k by simp,fidK_next h1])) rfl rfl ?_;refine zY ?_;exact yhi (k+1) om om zs (yah (yab rfl (yab rfl (yab rfl (yab rfl yag)))))
 simp at h1;obtain rfl:k=n:=by omega
 refine zY ?_;refine yqa ⟨_,rfl,yhx _,?_⟩;exact yah (yab rfl (yab rfl yag))
def ynz(n:Nat)(r:Nat->Nat->Bool)(v k:Nat):List Lk:=((List.range k).filter fun u=>v != u && r (min v u) (max v u)).map fun u:Nat=>((u:Int),(1:Int))
def xjp(n:Nat)(r:Nat->Nat->Bool):GraphD:=⟨(List.range n).map fun v:Nat=>(v:Int),(List.range n).map fun v=>ynz n r v n⟩
theorem linkR_len:(ynz n r v k).length<=k:=by
 unfold ynz;rw[qai];have:=qcu (fun u=>v != u && r (min v u) (max v u)) (List.range k);simpa using this
theorem ziz:ynz n r v (k+1)=if (v != k && r (min v k) (max v k))=true then ynz n r v k++[((k:Int),(1:Int))]else ynz n r v k:=by
 unfold ynz;rw[qdd,qcn,qbz];simp only[qge,qhl];split <;> simp
def rwF(n:Nat)(r:Nat->Nat->Bool)(v k:Nat):List (List AV):=((List.range v).map fun u=>(ynz n r u n).flatMap yfh)++(ynz n r v k).flatMap yfh::List.replicate (n - v - 1) []
def rwO(n:Nat)(r:Nat->Nat->Bool)(v:Nat):List (List AV):=((List.range v).map fun u=>(ynz n r u n).flatMap yfh)++List.replicate (n - v) []
theorem rwF_zero(h:v < n):rwO n r v=rwF n r v 0:=by
 unfold rwO rwF;rw[show n - v=(n - v - 1)+1 by omega,qbq];rfl
theorem zfr:((List.range v).map fun u=>(ynz n r u n).flatMap yfh).length=v:=by simp
theorem rwF_at:(rwF n r v k)[v]?=some ((ynz n r v k).flatMap yfh):=by
 unfold rwF;rw[qah (by rw[zfr];omega),zfr,qbm];rfl
theorem rwF_len(h:v < n):(rwF n r v k).length=n:=by
 unfold rwF;rw[qan,zfr,qaj,qdw];omega
theorem rwF_next(h:v < n):(rwF n r v k).set v ((ynz n r v (k+1)).flatMap yfh)=rwF n r v (k+1):=by
 unfold rwF;rw[qbo _ _ (by rw[zfr];omega),zfr,qbm,qer]
theorem rwF_end(h:v < n):rwF n r v n=rwO n r (v+1):=by
 unfold rwF rwO;rw[qdd,qbz];simp[Nat.sub_sub]
theorem flat_lenF(l:List Lk):(l.flatMap yfh).length=l.length * 2:=by
 induction l with
 | nil=>rfl
 | cons a l ih=>simp[ih,yfh];omega
theorem zxn{M sz:Nat}{rows:List (List AV)}{r:List AV}{m:Nat}(h:rows[v]?=some r)(hm:r.length / sz=m):(yfe M sz 0 rows++[])[v]?=some (.ls (fam M v) sz m):=by
 rw[qba,yej,h];simp only[qav,hm,qay]
def xed(n:Nat):List (Nat × Option LObj):=[(5,some (.cells [yai ((List.range n).map fun v:Nat=>(v:Int)),.ls 61 1 n])),(4,some (.cells [AV.v (Value.slice none 0 0),AV.v (Value.slice none 0 0)]))]
theorem related_con{f:Nat}(n:Nat)(hn:n<=24)(hf:∀ a b:Nat,a < n->b < n->Con prog f [i64 a,i64 b] (yau (r a b))):Con prog 144 [i64 n,.fn f []] (yev (xjp n r)):=by
 have hids:xad n n=((List.range n).map fun v:Nat=>(v:Int)).map i64:=by simp[xad]
 refine ycx tok Tryz.func144 rfl rfl ntmps144 Tryz.results144 rfl rfl ?_
 (repeat (first|with_reducible refine yeo ?_|with_reducible refine ycy ?_|refine ydu ?_));refine ysv ?_;refine ydb (lf:=lfT) rfl ?_
 refine zO ?_;refine zt ?_;refine ydb (lf:=lfT) rfl ?_;refine zO ?_;refine yxu [(6,60),(8,61)] (empty_own n hn) rfl rfl rfl rfl rfl rfl rfl yag rfl rfl rfl rfl rfl rfl ?_;refine zO ?_;refine zt ?_;refine xif (t':=[(5,.lp 5 0),(4,.lp 4 0),(0,i64 n),(1,.fn f [])]) (h':=[(5,some (.cells [.ls 60 1 n,.ls 61 1 n])),(60,some (.vec (xad n n))),(61,some (.vec (List.replicate n ygd))),(4,some (.cells [AV.v (Value.slice none 0 0),AV.v (Value.slice none 0 0)]))]) ?_ zs zh;refine yey 5 0 (((List.range n).map fun v:Nat=>(v:Int)).map fun z=>[i64 z]) rfl rfl rfl sm (fun row hr=>by obtain⟨y,_,rfl⟩:=qag.1 hr;rfl) (by rw[hids,ydo]) rfl rfl rfl rfl ?_;refine ytu 61 (List.replicate n ygd) rfl rfl ?_;refine xif (t':=[(5,.lp 5 0),(4,.lp 4 0),(0,i64 n),(1,.fn f [])]) (h':=xed n++[(61,some (ygi (List.replicate n ygd)))]) ?_ zs zh;refine zcq (f:=xed n) 61 2 n rfl rfl rfl rfl rfl ?_;refine zY ?_;refine ybw (α:=Nat) (fun v=>[(11,i64 v),(10,i64 n),(5,.lp 5 0),(4,.lp 4 0),(0,i64 n),(1,.fn f [])]) (fun v=>xed n++ybz 61 2 (rwO n r v) []) (fun v=>n - v) (fun v=>v<=n) 0 om zs (hsE (by simp[rwO])) ?_;intro v hv;refine zY ?_;refine zj ?_ ?_ <;> intro h1
 .simp at h1;refine zY ?_;refine ybw (α:=Nat) (fun u=>[(15,i64 u),(14,i64 n),(6,i64 v),(11,i64 v),(10,i64 n),(5,.lp 5 0),(4,.lp 4 0),(0,i64 n),(1,.fn f [])]) (fun u=>xed n++ybz 61 2 (rwF n r v u) []) (fun u=>n - u) (fun u=>u<=n) 0 om zs (hsE (by rw[rwF_zero h1])) ?_;intro u hu;refine zY ?_;refine zj ?_ ?_ <;> intro h2
  .simp at h2;have hcall:=hf (min v u) (max v u) om om;have hsame:(v != u && r (min v u) (max v u))=false->rwF n r v (u+1)=rwF n r v u:=fun e=>by
    unfold rwF;rw[ziz,e,if_neg sm]
   refine zW ?_;refine yaj 21 rfl (fun h3=>?_) (fun h3=>?_)
   .have hne:v≠u:=by
     intro e;subst e;simp at h3
    (repeat (first|refine zwz ?_|refine yno 25 (y:=i64 ((min v u:Nat):Int)) rfl (yka (by split <;> omega)) ?_|refine yno 28 (y:=i64 ((max v u:Nat):Int)) rfl (yka (by split <;> omega)) ?_))
    refine zj ?_ ?_ <;> intro h4
    .have hnx:ynz n r v (u+1)=ynz n r v u++[((u:Int),(1:Int))]:=by rw[ziz,if_pos (by simp[hne,h4])]
     have hll:=linkR_len (n:=n) (r:=r) (v:=v) (k:=u);have hfl:=flat_lenF (ynz n r v u);have hrow:=rwF_at (n:=n) (r:=r) (v:=v) (k:=u);have hcell:=zxn (M:=61) (sz:=2) hrow (m:=(ynz n r v u).length) (by rw[hfl];omega);have hk1:((v:Int).toNat * 1)=v:=by simp
     have hlr:=rwF_len (n:=n) (r:=r) (k:=u) h1;refine zW ?_;refine ybg (lf:=lf0) ymj rfl ?_;refine yeq [3,4,5,6,7,8,9,10] 6 (yaa rfl (yaa rfl (yaa rfl (yaa rfl (yaa rfl (yaa rfl (yaa rfl (yaa rfl yal)))))))) rfl kf ?_
     (repeat (first|refine zo ?_|refine yat tok rfl rfl (ybo (f:=xed n) rfl) rfl om om rfl rfl ?_|refine ydp (r:=.ls (fam 61 v) 2 (ynz n r v u).length) tok rfl rfl rfl (by rw[ybo (f:=xed n) rfl];exact yfg _) (by rw[hk1];exact hcell) rfl rfl ?_))
     have hat:yac (xed n++(61,some (ygi ((yfe 61 2 0 (rwF n r v u)++[]).set v .one)))::ypl 61 0 ((rwF n r v u).set v ((ynz n r v u).flatMap yfh++[[i64 u,i64 1]].flatten))) 61=some (ygi ((yfe 61 2 0 (rwF n r v u)++[]).set v .one)):=by rw[ybh _ _ (yls rfl),ybb]
     refine yva tok yps [(0,31,.lp 5 (0+1)),(1,32,.ls 61 1 n),(2,33,i64 v)] 11 42 [38] (.ls (fam 61 v) 2 ((ynz n r v u).length+1)) (req:=[(5,.lp 5 0),(6,i64 v)]) 2 rfl kf rfl rfl rfl kf kf rfl ⟨⟨rfl,rfl,rfl⟩,⟨rfl,rfl,rfl⟩,trivial⟩ rfl
      ⟨⟨_,[(5,.lp 5 0),(6,i64 v)],rfl,rfl,rfl,kf,kf,kf,kf,rfl,rfl,rfl⟩,⟨_,[(31,.lp 5 (0+1)),(5,.lp 5 0),(6,i64 v)],rfl,rfl,rfl,kf,kf,kf,kf,rfl,rfl,rfl⟩,⟨_,[(5,.lp 5 0),(6,i64 v)],rfl,rfl,rfl,kf,kf,kf,kf,rfl,rfl,rfl⟩,trivial⟩ rfl rfl rfl
      (fun t ht hl=>yqp (s:=⟨t,_⟩) (t':=ygh [38] t) (i:=v) (news:=[[i64 u,i64 1]]) (f:=xed n) tok (fun x y h=>(zbu hl h).imp (fun e=>e) fun e=>⟨e.1,yps.ment (yfw _ _) e.2⟩) (fun x y h=>yvp h) rfl rfl rfl (ht 38 _ rfl) hrow hfl (ht 41 _ rfl) (by intro c hc;simp at hc;rcases hc with rfl|rfl <;> rfl) (by constructor <;> simp <;> omega) rfl rfl rfl rfl rfl rfl) ?_
     refine yaz [12,13] (yaa rfl (yaa rfl yal)) rfl kf ?_;refine yat tok rfl rfl hat rfl om om rfl rfl ?_;refine yon tok rfl rfl rfl rfl rfl hat (by rw[qfk,qba,ydz,hlr];omega) rfl rfl ?_;refine xfm (h':=xed n++ybz 61 2 (rwF n r v (u+1)) []) ?_ ?_
     .rw [hk1];refine(zln (f:=xed n) rfl om rfl (by rw[hlr];exact h1) (by rw[qan,hfl];simp)).trans ?_;rw[<- rwF_next h1,hnx,List.flatMap_append];rfl
     refine zY ?_;exact yhi (u+1) om om zs (fun _ _ h=>h)
    refine zY ?_;exact yhi (u+1) om om zs (hsE (by rw[hsame (by rw[show r (min v u) (max v u)=false from h4];simp)]))
   refine zY ?_;exact yhi (u+1) om om zs (hsE (by rw[hsame (by
    have:v=u:=by
     have:(v:Int)=u:=by simpa using h3
     omega
    subst this;simp)]))
  simp at h2;obtain rfl:u=n:=by omega
  refine zY ?_;exact yhi (v+1) om om zs (hsE (by rw[rwF_end h1]))
 simp at h1;obtain rfl:v=n:=by omega
 refine zk ?_;refine Frz.aggL rfl rfl fun i x y hx hy=>?_;have hi:=(qaa.1 hx).1;have:i=0\/i=1:=by simp at hi;omega
 rcases this with rfl|rfl
 .cases hx;cases hy;exact Frz.pure
 cases hx;simp only[xjp,qca,qas,Option.some.injEq]at hy;subst hy;have:=Frz.mat (f:=(4,some (.cells [yai ((List.range v).map fun u:Nat=>(u:Int)),.ls 61 1 v]))::xed v) (M:=61) (sz:=2) (rows:=rwO v r v) (els:=(xjp v r).ports.map fun ls=>ls.map yfh) rfl rfl rfl om (by intro e he x hx;obtain⟨q,_,rfl⟩:=qag.1 he;obtain⟨z,_,rfl⟩:=qag.1 hx;rfl) (n:=v) (by simp[xjp]) (by
  simp only[rwO,xjp,qbm,qho,qba,qen]
  exact List.map_congr_left fun u _=>List.flatMap_def)
 rw[qen]at this;exact this
theorem path1_con(a b:Nat)(h:a < 30/\b < 30):Con prog 77 [i64 a,i64 b] (yau (a+1 == b)):=by
 refine ze Tryz.func77 ntmps77 Tryz.results77 ?_;refine zk ?_;exact yae (by rw[qbw,beq_iff_eq,beq_iff_eq];omega)
def xaj(n:Nat):GraphD:=xjp n fun a b=>a+1 == b
theorem path_con(n:Nat)(hn:1<=n/\n<=24):Con prog 29 [i64 n] (.tup [yev (xaj n),i64 0]):=by
 have hr:=related_con (f:=77) (r:=fun a b=>a+1 == b) n hn.2 fun a b ha hb=>path1_con a b om;have ho:Con prog 76 [i64 n,.fn 77 []] (.tup [yev (xaj n),i64 0]):=by
  refine ycx tok Tryz.func76 rfl rfl ntmps76 Tryz.results76 rfl rfl ?_;refine zY ?_;refine yaj 8 rfl (fun h1=>?_) (fun h1=>?_)
  .simp at h1;omega
  refine zY ?_;refine zj ?_ ?_ <;> intro h2
  .simp at h2;omega
  refine zZ ?_;exact zp
 refine ycx tok Tryz.func29 rfl rfl ntmps29 Tryz.results29 rfl rfl ?_;refine zZ ?_;exact zp
end
section
open Go.RowKit
def yhc(l:List Nat):List Int:=l.map fun k:Nat=>(k:Int)
def zgt(R:List (List Nat)):List (List Int):=R.map yhc
theorem zcb:(yhc l).length=l.length:=by simp[yhc]
theorem natC_len{R:List (List Nat)}:(zgt R).length=R.length:=by simp[zgt]
theorem yyt{i:Nat}(h:l[i]?=some k):(yhc l)[i]?=some (k:Int):=by simp[yhc,h]
def zup(s:SpcD):List (Nat × Option LObj):=[(1,some (.cells [ydh (s.map (·.1)),.sl 1 (s.map fun x=>[ybd x.2])]))]
theorem natC_set{R:List (List Nat)}{x:Nat}{r:List Nat}:(yek (zgt R)).set x ((yhc r).map i64)=yek (zgt (R.set x r)):=by simp[yek,zgt]
theorem sources_con(h:SpcOk s):Con prog 202 [yjw s] (ycj (zgt (xas s))):=by
 obtain⟨h1,h2,h3,h4⟩:=h;have e1:(s.map (·.1)).length=s.length:=qai ..;have e2:(s.map fun x=>[ybd x.2]).length=s.length:=qai ..;refine ze Tryz.func202 ntmps202 Tryz.results202 ?_
 (repeat (first|refine zy ?_|refine yph tok rfl rfl rfl rfl co rfl rfl rfl rfl rfl ?_))
 refine ytu 11 (List.replicate s.length ygd) rfl (zym _ _) ?_;refine yqb (t':=[(15,i64 (0:Nat)),(14,i64 s.length),(13,.sl 1 (s.map fun x=>[ybd x.2])),(3,.ls 11 1 s.length),(1,.lp 1 0)]) (h':=zup s++[(11,some (ygi (List.replicate s.length ygd)))]) ?_ zs (yah (yab rfl (yab rfl yag)));refine zcq (f:=zup s) 11 1 s.length rfl rfl rfl rfl rfl ?_;refine ybw (α:=Nat × List (List Nat)) (fun q=>[(15,i64 q.1),(14,i64 s.length),(13,.sl 1 (s.map fun x=>[ybd x.2])),(3,.ls 11 1 s.length),(1,.lp 1 0)]) (fun q=>zup s++ybz 11 1 (yek (zgt q.2)) []) (fun q=>s.length - q.1) (fun q=>q.1<=s.length/\xgf q.1 (s.drop q.1) q.2=xas s/\RowsOk s.length (yiw (s.take q.1)) (· < s.length) q.2) (0,List.replicate s.length []) ⟨om,rfl,RowsOk.nil _ _ _⟩ zs (hsE (by simp[yek,zgt,yhc])) ?_;rintro⟨k,R⟩ ⟨hk,hS,hR⟩;simp only at hk hS hR ⊢;refine zY ?_;refine zj ?_ ?_ <;> intro q1
 .simp at q1;obtain⟨x,hx⟩:=ybk q1;have hax:=h4 x (qab hx);have ht:=ykg hx;have htl:=yrl s (k+1);have hxs:(s.map fun x=>[ybd x.2])[k]?=some [ybd x.2]:=by rw[qak,hx];rfl
  have hdr:s.drop k=x::s.drop (k+1):=by rw[qbl q1];congr 1;exact Option.some.inj ((qae q1).symm.trans hx)
  rw[hdr,xgf]at hS;refine zY ?_;refine ybw (α:=Nat × List (List Nat)) (fun q=>[(22,i64 q.1),(21,i64 x.2.length),(20,ybd x.2),(4,i64 k),(15,i64 k),(14,i64 s.length),(13,.sl 1 (s.map fun x=>[ybd x.2])),(3,.ls 11 1 s.length),(1,.lp 1 0)]) (fun q=>zup s++ybz 11 1 (yek (zgt q.2)) []) (fun q=>x.2.length - q.1) (fun q=>q.1<=x.2.length/\zyx k (x.2.drop q.1) q.2=zyx k x.2 R/\RowsOk s.length (yiw (s.take k)+q.1) (· < s.length) q.2) (0,R) ⟨om,rfl,hR⟩ zs (hsE rfl) ?_;rintro⟨j,R'⟩ ⟨hj,hS',hR'⟩;simp only at hj hS' hR' ⊢;refine zY ?_;refine zj ?_ ?_ <;> intro q2
  .simp at q2;obtain⟨a,ha⟩:=ybk q2;obtain⟨B,to,rfl⟩:∃ (B:BitVec 32) (to:Nat),a=(B,(to:Int)):=⟨a.1,a.2.toNat,by
    have:=(hax.grow j a ha).2.2.2.1
    rw[qef this]⟩
   have hto:to < s.length:=by have:=(hax.grow j _ ha).2.2.2.2;simpa using this
   have hda:x.2.drop j=(B,(to:Int))::x.2.drop (j+1):=by rw[qbl q2];congr 1;exact Option.some.inj ((qae q2).symm.trans ha)
   rw[hda,zyx]at hS';obtain⟨r,hr⟩:=ybk (show to < R'.length by rw[hR'.len];exact hto);have hrl:r.length<=262144:=by have:=(hR'.row r (qab hr)).1;omega
   have hadd:ytf R' (to:Int).toNat k=R'.set to (r++[k]):=by simp[ytf,hr]
   refine zW ?_;refine zA ?_ (h2:=yqm (f:=zup s) rfl rfl rfl rfl);have hrow:(yek (zgt R'))[to]?=some ((yhc r).map i64):=by simp[yek,zgt,hr]
   have hfl:((yhc r).map i64).length=r.length * 1:=by simp[yhc]
   have hcell:=zxn (M:=11) (sz:=1) hrow (m:=r.length) (by rw[hfl];simp);have hk1:((to:Int).toNat * 1)=to:=by simp
   have hlr:(yek (zgt R')).length=s.length:=by simp[yek,zgt,hR'.len]
   refine zW ?_;refine yqb (t':=[(7,.lp 7 0),(22,i64 j),(21,i64 x.2.length),(20,ybd x.2),(4,i64 k),(15,i64 k),(14,i64 s.length),(13,.sl 1 (s.map fun x=>[ybd x.2])),(3,.ls 11 1 s.length),(1,.lp 1 0)]) (h':=((7,some (LObj.cells [yav B,i64 to]))::zup s)++ybz 11 1 (yek (zgt R')) []) ?_ zs (hsE yhg);refine ybg (lf:=lf0) ymj rfl ?_;refine yeq [3,4,5,6,7,8,9] 6 (yaa rfl (yaa rfl (yaa rfl (yaa rfl (yaa rfl (yaa rfl (yaa rfl yal))))))) rfl kf ?_
   (repeat (first|refine zo ?_|refine yat tok rfl rfl (ybo (f:=(7,some (LObj.cells [yav B,i64 to]))::zup s) rfl) rfl om om rfl rfl ?_|refine ydp (r:=.ls (fam 11 to) 1 r.length) tok rfl rfl rfl (by rw[ybo (f:=(7,some (LObj.cells [yav B,i64 to]))::zup s) rfl];exact yfg _) (by rw[hk1];exact hcell) rfl rfl ?_))
   have hat:yac (((7,some (LObj.cells [yav B,i64 to]))::zup s)++(11,some (ygi ((yfe 11 1 0 (yek (zgt R'))++[]).set to .one)))::ypl 11 0 ((yek (zgt R')).set to ((yhc r).map i64++[[i64 k]].flatten))) 11=some (ygi ((yfe 11 1 0 (yek (zgt R'))++[]).set to .one)):=by rw[ybh _ _ (yls rfl),ybb]
   refine yva tok yps [(0,26,.ls 11 1 s.length),(1,27,.lp 7 (0+1)),(2,28,i64 to)] 10 36 [33] (.ls (fam 11 to) 1 (r.length+1)) (req:=[(3,.ls 11 1 s.length),(7,.lp 7 0)]) 2 rfl kf rfl rfl rfl kf kf rfl ⟨⟨rfl,rfl,rfl⟩,⟨rfl,rfl,rfl⟩,trivial⟩ rfl
    ⟨⟨_,[(3,.ls 11 1 s.length),(7,.lp 7 0)],rfl,rfl,rfl,kf,kf,kf,kf,rfl,rfl,rfl⟩,⟨_,[(3,.ls 11 1 s.length),(7,.lp 7 0)],rfl,rfl,rfl,kf,kf,kf,kf,rfl,rfl,rfl⟩,⟨_,[(27,.lp 7 (0+1)),(3,.ls 11 1 s.length),(7,.lp 7 0)],rfl,rfl,rfl,kf,kf,kf,kf,rfl,rfl,rfl⟩,trivial⟩ rfl rfl rfl
    (fun t ht hl=>yqp (s:=⟨t,_⟩) (t':=ygh [33] t) (i:=to) (news:=[[i64 k]]) (f:=(7,some (LObj.cells [yav B,i64 to]))::zup s) tok (fun x y h=>(zbu hl h).imp (fun e=>e) fun e=>⟨e.1,yps.ment (yfw _ _) e.2⟩) (fun x y h=>yvp h) rfl rfl rfl (ht 33 _ rfl) hrow hfl (ht 35 _ rfl) (by intro c hc;simp at hc;subst hc;rfl) (by constructor <;> simp <;> omega) rfl rfl rfl rfl rfl rfl) ?_
   refine yaz [11,12] (yaa rfl (yaa rfl yal)) rfl kf ?_;refine yat tok rfl rfl hat rfl om om rfl rfl ?_;refine yon tok rfl rfl rfl rfl rfl hat (by rw[qfk,qba,ydz,hlr];omega) rfl rfl ?_;refine xfm (h':=((7,some (LObj.cells [yav B,i64 to]))::zup s)++ybz 11 1 (yek (zgt (R'.set to (r++[k])))) []) ?_ ?_
   .rw [hk1];refine(zln (f:=(7,some (LObj.cells [yav B,i64 to]))::zup s) rfl om rfl (by rw[hlr];exact hto) (by rw[qan,hfl];simp)).trans ?_;rw[<- natC_set,show (yhc (r++[k])).map i64=(yhc r).map i64++[[i64 k]].flatten by simp[yhc]]
   refine zY ?_;refine yhi (j+1,R'.set to (r++[k])) ⟨by simp only;omega,by simp only;rw[<- hS',hadd],by simp only;rw[<- hadd,<- qdf];exact hR'.add _ q1⟩ (by simp only;omega) zs (hsM (f:=(7,some (LObj.cells [yav B,i64 to]))::zup s) (f':=zup s) (yab rfl yag) rfl rfl rfl)
  simp at q2;obtain rfl:j=x.2.length:=by omega
  rw[qcb,zyx]at hS';refine zY ?_;refine yhi (k+1,R') ⟨by simp only;omega,by simp only;rw[hS'];exact hS,by simp only;rw[ht];exact hR'⟩ (by simp only;omega) zs (hsE rfl)
 simp at q1;obtain rfl:k=s.length:=by omega
 rw[qcb,xgf]at hS;refine zk ?_;rw[<- hS];exact yym (f:=zup s) rfl rfl rfl (by rw[natC_len,hR.len]) rfl
theorem xmp{x:BitVec 32 × List ArcD}(hx:s[k]?=some x):(s.map fun x=>[ybd x.2])[k]?=some [ybd x.2]:=by rw[qak,hx];rfl
def xjh(s:SpcD):List (Nat × Option LObj):=[(2,some (.cells [ydh (s.map (·.1)),.sl 1 (s.map fun x=>[ybd x.2])]))]
theorem zxt{c:Nat}:((yhc l).map i64).set k (i64 ((c:Nat):Int))=(yhc (l.set k c)).map i64:=by simp[yhc]
theorem zqr:(yhc l).map i64++[[i64 k]].flatten=(yhc (l++[k])).map i64:=by simp[yhc]
theorem zxs(n:Nat):ykx n (yhw [Value.int .i64 0])=(yhc (List.replicate n 0)).map i64:=by
 rw[show yhw [Value.int .i64 0]=[i64 0] from rfl,zym];simp[yhc]
theorem ywg{c:Nat}(h:l[k]?=some c):((yhc l).map i64)[k]?=some (i64 c):=by simp[yhc,h]
theorem order_con(h:SpcOk s)(hl:L.length=s.length):Con prog 147 [yjw s,yfv L] (yai (yhc (ysy s L))):=by
 have hso:=sources_con h;obtain⟨h1,h2,h3,h4⟩:=h;have e1:(s.map (·.1)).length=s.length:=qai ..;have e2:(s.map fun x=>[ybd x.2]).length=s.length:=qai ..;have e3:(L.map fun b=>[yau b]).length=L.length:=qai ..;refine ze Tryz.func147 ntmps147 Tryz.results147 ?_;refine zY ?_;refine zcr 5 60 1 rfl rfl rfl ?_;refine ybw (α:=Nat) (fun i=>[(15,i64 i),(14,i64 L.length),(13,yfv L),(5,.ls 60 1 (zba 0 (L.take i)).length),(2,.lp 2 0),(1,yfv L)]) (fun i=>(60,some (.vec ((yhc (zba 0 (L.take i))).map i64)))::xjh s) (fun i=>L.length - i) (fun i=>i<=L.length) 0 om zs (yah (yab rfl (yab rfl yag))) ?_;intro i hi;have hol:(zba 0 (L.take i)).length<=32768:=by
  have:=zre (L.take i).length _ (yoc (L:=L.take i) (k:=0)) fun x hx=>by have:=(ysj hx).2.2;simpa using this
  rw[qcj]at this;omega
 refine zY ?_;refine zj ?_ ?_ <;> intro q1
 .simp at q1;obtain⟨b,hb⟩:=ybk q1;have hbs:(L.map fun b=>[yau b])[i]?=some [yau b]:=by rw[qak,hb];rfl
  have hs:=zqy (k:=0) hb;refine zY ?_;refine zj ?_ ?_ <;> intro q2
  .have q2:b=true:=q2;rw[q2,if_pos rfl,qay]at hs
   (repeat (first|refine zy ?_|refine ydy tok rfl rfl rfl (by simp[yhc]) rfl (by simp[yas]) so rfl rfl rfl rfl rfl ?_))
   refine yhi (i+1) om om ?_ (yah (yab ?_ (yab rfl yag)))
   .rw [hs,qan];exact zs
   show some _=some _;rw[hs,<- zqr];rfl
  have q2:b=false:=q2;rw[q2,if_neg sm,qba]at hs;refine zY ?_;exact yhi (i+1) om om (by rw[hs];exact zs) (hsE (by rw[hs]))
 simp at q1;obtain rfl:i=L.length:=by omega
 (repeat (first|with_reducible refine yeo ?_|with_reducible refine ycy ?_|refine ydu ?_|refine ype ?_))
 rw[qaw];obtain⟨o0,ho0⟩:∃ o,zba 0 L=o:=⟨_,rfl⟩;rw[ho0];have hO:=zrc hl;rw[ho0]at hO;have hB:=xer (s:=s);obtain⟨R,hRe⟩:∃ R,xas s=R:=⟨_,rfl⟩;have hof:ysy s L=xfk s L R s.length 0 (o0,List.replicate s.length 0):=by unfold ysy;rw[hRe,ho0]
 rw[hRe]at hso hB
 (repeat (first|refine zz ?_|refine yph tok rfl rfl rfl rfl co rfl rfl rfl rfl rfl ?_))
 rw[zxs,hl];refine ybw (α:=Nat × List Nat × List Nat) (fun q=>[(10,i64 q.1),(9,.ls 30 1 s.length),(8,ycj (zgt R)),(5,.ls 60 1 q.2.1.length),(2,.lp 2 0),(1,yfv L)]) (fun q=>(30,some (.vec ((yhc q.2.2).map i64)))::(60,some (.vec ((yhc q.2.1).map i64)))::xjh s) (fun q=>s.length - q.1) (fun q=>q.1<=s.length/\OrdI s L (262144 * q.1) q.2/\xfk s L R (s.length - q.1) q.1 q.2=ysy s L) (0,o0,List.replicate s.length 0) ⟨by simp only;omega,hO,hof.symm⟩ zs (yah (yab rfl (yab rfl (yab rfl yag)))) ?_;rintro⟨i,o,en⟩ ⟨hi,hI,hF⟩;simp only at hi hI hF ⊢;have hole:=hI.le;simp only at hole;refine zY ?_;refine zj ?_ ?_ <;> intro q3
 .simp at q3;obtain⟨m,hm⟩:∃ m,s.length - i=m+1:=⟨s.length - i - 1,om⟩;obtain⟨x,hx⟩:=ybk q3;have hxn:=(hI.mem x (qab hx)).1;obtain⟨r,hr⟩:=ybk (show x < R.length by rw[hB.len];exact hxn);have hro:=hB.row r (qab hr);rw[hm,xfk]at hF;simp only[hx,qac,hr,qbu]at hF;have hxg:=ywg hx;have hrg:(zgt R)[x]?=some (yhc r):=by simp[zgt,hr]
  have e4:((yhc r).map fun z=>[i64 z]).length=r.length:=by simp[yhc]
  (repeat (first|refine zy ?_|refine yat tok rfl rfl rfl rfl om om rfl rfl ?_|refine ydp (r:=i64 x) tok rfl rfl rfl rfl (by rw[show ((i:Int).toNat * 1)=i by simp];exact hxg) rfl rfl ?_))
  refine ybw (α:=Nat × List Nat × List Nat) (fun q=>[(45,i64 q.1),(44,i64 r.length),(43,yai (yhc r)),(10,i64 i),(9,.ls 30 1 s.length),(8,ycj (zgt R)),(5,.ls 60 1 q.2.1.length),(2,.lp 2 0),(1,yfv L)]) (fun q=>(30,some (.vec ((yhc q.2.2).map i64)))::(60,some (.vec ((yhc q.2.1).map i64)))::xjh s) (fun q=>r.length - q.1) (fun q=>q.1<=r.length/\OrdI s L (262144 * i+q.1) q.2/\zbb s L (r.drop q.1) q.2=zbb s L r (o,en)) (0,o,en) ⟨om,hI,rfl⟩ (by rw[<- zcb (l:=r)];exact zs) (yah (yab rfl (yab rfl (yab rfl yag)))) ?_;rintro⟨j,o',en'⟩ ⟨hj,hI',hF'⟩;simp only at hj hI' hF' ⊢;have hole':=hI'.le;simp only at hole';refine zY ?_;refine zj ?_ ?_ <;> intro q4
  .simp at q4;obtain⟨k,hk⟩:=ybk q4;have hkn:=hro.2 k (qab hk);have hkg:=yyt hk;have hdr:r.drop j=k::r.drop (j+1):=by rw[qbl q4];congr 1;exact Option.some.inj ((qae q4).symm.trans hk)
   rw[hdr,zbb]at hF';have hel:=hI'.elen;simp only at hel;obtain⟨c,hc⟩:=ybk (show k < en'.length by omega);have hcb:=hI'.bd k;simp only[qac,hc,qbu]at hcb;have hcg:=ywg hc;have hcs:((yhc en').map i64).set k (i64 ((c:Int)+1))=(yhc (en'.set k (c+1))).map i64:=by rw[<- zxt];rfl
   have hcg2:((yhc (en'.set k (c+1))).map i64)[k]?=some (i64 ((c+1:Nat):Int)):=ywg (by rw[qee om]);obtain⟨b,hb⟩:=ybk (show k < L.length by omega);have hbs:(L.map fun b=>[yau b])[k]?=some [yau b]:=by rw[qak,hb];rfl
   obtain⟨y,hy⟩:=ybk hkn;have hyg:=xmp hy;have hI2:=hI'.step hkn;have hst:yky s L k (o',en')=(if (!b && (c+1 == y.2.length))then o'++[k]else o',en'.set k (c+1)):=by
    simp only[yky,qac,hb,hc,qbu,ynp hy]
   rw[hst]at hI2 hF';have hyl:(y.2.map ykn).length=y.2.length:=qai ..
   (repeat (first|refine zy ?_|refine yat tok rfl rfl rfl rfl om om rfl rfl ?_|refine ydp (r:=i64 c) tok rfl rfl rfl rfl (by rw[show ((k:Int).toNat * 1)=k by simp];exact hcg) rfl rfl ?_))
   refine ygo tok rfl rfl rfl rfl rfl rfl (by simp[yhc];omega) rfl (congrArg (fun z=>yac ((30,some (LObj.vec z))::_)) (show _=(yhc (en'.set k (c+1))).map i64 by rw[show ((k:Int).toNat * 1)=k by simp];exact hcs)) rfl rfl ?_
   (repeat (first|refine zy ?_|refine yat tok rfl rfl rfl rfl om om rfl rfl ?_|refine ydp (r:=i64 ((c+1:Nat):Int)) tok rfl rfl rfl rfl (by rw[show ((k:Int).toNat * 1)=k by simp];exact hcg2) rfl rfl ?_))
   refine yaj 60 rfl (fun q5=>?_) (fun q5=>?_)
   .have hb0:b=false:=by simpa using q5
    (repeat (first|refine zy ?_|refine yat tok rfl rfl rfl rfl om om rfl rfl ?_|refine ydp (r:=i64 ((c+1:Nat):Int)) tok rfl rfl rfl rfl (by rw[show ((k:Int).toNat * 1)=k by simp];exact hcg2) rfl rfl ?_))
    refine zj ?_ ?_ <;> intro q6
    .have hce:c+1=y.2.length:=by simp at q6;omega
     rw[if_pos (by simp[hb0,hce])]at hI2 hF'
     (repeat (first|refine zy ?_|refine ydy tok rfl rfl rfl (by simp[yhc]) rfl (by simp[yas]) so rfl rfl rfl rfl rfl ?_))
     refine yhi (j+1,o'++[k],en'.set k (c+1)) ⟨by simp only;omega,by simp only;exact hI2,by simp only;exact hF'⟩ (by simp only;omega) (by simp only[qan];exact zs) (yah (yab rfl (yab ?_ (yab rfl yag))));show some _=some _;rw[<- zqr];rfl
    have hce:c+1≠y.2.length:=by simp at q6;omega
    rw[if_neg (by simp[hce])]at hI2 hF';refine zY ?_;exact yhi (j+1,o',en'.set k (c+1)) ⟨by simp only;omega,by simp only;exact hI2,by simp only;exact hF'⟩ (by simp only;omega) zs (yah (yab rfl (yab rfl (yab rfl yag))))
   have hb0:b=true:=by simpa using q5
   rw[if_neg (by simp[hb0])]at hI2 hF';refine zY ?_;exact yhi (j+1,o',en'.set k (c+1)) ⟨by simp only;omega,by simp only;exact hI2,by simp only;exact hF'⟩ (by simp only;omega) zs (yah (yab rfl (yab rfl (yab rfl yag))))
  simp at q4;obtain rfl:j=r.length:=by omega
  rw[qcb,zbb]at hF';refine zY ?_;refine yhi (i+1,o',en') ⟨by simp only;omega,by simp only;exact hI'.mono om,?_⟩ (by simp only;omega) zs (hsE rfl);simp only;rw[show s.length - (i+1)=m by omega,hF'];exact hF
 simp at q3;have hF2:ysy s L=o:=by
  rw[<- hF];cases hm:s.length - i with
  | zero=>rfl
  | succ m=>rw[xfk,qch q3]
 rw[hF2];refine zk ?_;exact zlj rfl (by rw[zcb])
end
section
open Go.RowKit
def xar(s:SpcD):LObj:=.cells [ydh (s.map (·.1)),.sl 1 (s.map fun x=>[ybd x.2])]
def xkq(s:SpcD)(L:List Bool):Option (List Nat):=if (ysy s L).length < L.length then none else some (ysy s L)
def wA:Option (List Nat)->AV
 | some l=>.tup [yai (yhc l),i64 0]
 | none=>.tup [yai [],i64 14]
theorem worder_con(h:SpcOk s)(hl:L.length=s.length):Con prog 79 [yjw s,yfv L] (wA (xkq s L)):=by
 have hcc:=ccheck_con h L hl;have hor:=order_con h hl;have e4:((yhc (ysy s L)).map fun z=>[i64 z]).length=(ysy s L).length:=by simp[yhc]
 have e3:(L.map fun b=>[yau b]).length=L.length:=qai ..;by_cases q0:(ysy s L).length < L.length
 .rw [xkq,if_pos q0];refine ze Tryz.func79 ntmps79 Tryz.results79 ?_;refine zZ ?_;refine zj ?_ ?_ <;> intro q1
  .refine zk ?_;exact Frz.tup2 Frz.nil Frz.pure
  simp[yhc]at q1;omega
 rw[xkq,if_neg q0];refine ze Tryz.func79 ntmps79 Tryz.results79 ?_;refine zZ ?_;refine zj ?_ ?_ <;> intro q1
 .simp [yhc]at q1;omega
 exact zkp
theorem wgreatest_con{f:Nat}{cost:ArcD->Nat}(hcost:∀ a:ArcD,Con prog f [.agg (ykn a)] (i64 (cost a:Nat)))(hc32:∀ a,cost a<=32)(h:SpcOk s)(hl:L.length=s.length):Con prog 33 [yjw s,yfv L,.fn f []] (wA (xgz cost s L)):=by
 have hwo:=worder_con h hl;have hok:=xhg (s:=s) hl;obtain⟨h1,h2,h3,h4⟩:=h;have e1:(s.map (·.1)).length=s.length:=qai ..;have e2:(s.map fun x=>[ybd x.2]).length=s.length:=qai ..;have e3:(L.map fun b=>[yau b]).length=L.length:=qai ..;by_cases hlt:(ysy s L).length < L.length
 .rw [xkq,if_pos hlt]at hwo;rw[xgz,if_pos hlt];refine ze Tryz.func33 ntmps33 Tryz.results33 ?_;refine zZ ?_;refine zr ?_;exact Frz.tup2 Frz.nil Frz.pure
 rw[xkq,if_neg hlt]at hwo;rw[xgz,if_neg hlt];have hG:grS cost s L (ysy s L) (List.replicate s.length 0)=grF cost s L:=rfl;obtain⟨o,ho⟩:∃ o,ysy s L=o:=⟨_,rfl⟩;rw[ho]at hwo hok hG hlt;obtain⟨hon,hom,hol⟩:=hok;have e4:((yhc o).map fun z=>[i64 z]).length=o.length:=by simp[yhc]
 refine ze Tryz.func33 ntmps33 Tryz.results33 ?_
 (repeat (first|refine zz ?_|refine yph tok rfl rfl rfl rfl co rfl rfl rfl rfl rfl ?_))
 rw[zxs,hl];refine ybw (α:=Nat × List Nat) (fun q=>[(29,i64 q.1),(28,i64 o.length),(27,yai (yhc o)),(10,.ls 26 1 s.length),(3,.lp 3 0),(1,yfv L),(2,.fn f [])]) (fun q=>[(26,some (.vec ((yhc q.2).map i64))),(3,some (xar s))]) (fun q=>o.length - q.1) (fun q=>q.1<=o.length/\grS cost s L (o.drop q.1) q.2=grF cost s L/\GrI s.length (8388608 * q.1) q.2) (0,List.replicate s.length 0) ⟨om,hG,xgx _ _⟩ (by rw[<- zcb (l:=o)];exact zs) (yah (yab rfl (yab rfl yag))) ?_;rintro⟨i,R⟩ ⟨hi,hS,hR⟩;simp only at hi hS hR ⊢;refine zY ?_;refine zj ?_ ?_ <;> intro q1
 .simp at q1;obtain⟨k,hk⟩:=ybk q1;have hkg:=yyt hk;have hkn:=hom k (qab hk);obtain⟨b,hb⟩:=ybk (show k < L.length by omega);obtain⟨y,hy⟩:=ybk hkn;have hdr:o.drop i=k::o.drop (i+1):=by rw[qbl q1];congr 1;exact Option.some.inj ((qae q1).symm.trans hk)
  rw[hdr,grS,qac,hb,qbu,ynp hy]at hS;refine zY ?_;refine zj ?_ ?_ <;> intro q2
  .have q2:b=true:=q2;rw[if_pos q2]at hS;refine zY ?_;exact yhi (i+1,R) ⟨by simp only;omega,hS,hR.mono om⟩ (by simp only;omega) zs (hsE rfl)
  have q2:b=false:=q2;rw[if_neg (by rw[q2];simp)]at hS;have hyg:=xmp hy;have hay:=h4 y (qab hy);have hyl:y.2.length<=262144:=by have:=ykg hy;have:=yrl s (k+1);omega
  refine zY ?_;refine ybw (α:=Nat × List Nat) (fun q=>[(43,i64 q.1),(42,i64 y.2.length),(41,ybd y.2),(12,i64 k),(29,i64 i),(28,i64 o.length),(27,yai (yhc o)),(10,.ls 26 1 s.length),(3,.lp 3 0),(1,yfv L),(2,.fn f [])]) (fun q=>[(26,some (.vec ((yhc q.2).map i64))),(3,some (xar s))]) (fun q=>y.2.length - q.1) (fun q=>q.1<=y.2.length/\zto cost k (y.2.drop q.1) q.2=zto cost k y.2 R/\GrI s.length (8388608 * i+32 * q.1) q.2) (0,R) ⟨om,rfl,hR⟩ zs (hsE rfl) ?_;rintro⟨j,R'⟩ ⟨hj,hS',hR'⟩;simp only at hj hS' hR' ⊢;refine zY ?_;refine zj ?_ ?_ <;> intro q3
  .simp at q3;obtain⟨a,ha⟩:=ybk q3;obtain⟨B,to,rfl⟩:∃ (B:BitVec 32) (to:Nat),a=(B,(to:Int)):=⟨a.1,a.2.toNat,by
    have:=(hay.grow j a ha).2.2.2.1
    rw[qef this]⟩
   have hto:to < s.length:=by have:=(hay.grow j _ ha).2.2.2.2;simpa using this
   have hda:y.2.drop j=(B,(to:Int))::y.2.drop (j+1):=by rw[qbl q3];congr 1;exact Option.some.inj ((qae q3).symm.trans ha)
   rw[hda,zto]at hS';have hrl:=hR'.len;obtain⟨c,hc⟩:=ybk (show k < R'.length by omega);obtain⟨d,hd⟩:=ybk (show to < R'.length by omega);have hcb:=hR'.bd k;have hdb:=hR'.bd to;have hco:=hcost (B,(to:Int));have hc3:=hc32 (B,(to:Int));have hstep:=hR'.step k (x:=to) hc3;obtain⟨m,hm⟩:∃ m,cost (B,(to:Int))=m:=⟨_,rfl⟩;simp only[qac,hc,hd,qbu,hm,qcl]at hcb hdb hS' hstep hco hc3;have hcg:=ywg hc;have hdg:=ywg hd;have hset:((yhc R').map i64).set k (i64 ((max c (m+d):Nat):Int))=(yhc (R'.set k (max c (m+d)))).map i64:=zxt
   (repeat (first|refine zz ?_|refine yat tok rfl rfl rfl rfl om om rfl rfl ?_|refine ydp (r:=i64 c) tok rfl rfl rfl rfl (by rw[show ((k:Int).toNat * 1)=k by simp];exact hcg) rfl rfl ?_|refine ydp (r:=i64 d) tok rfl rfl rfl rfl (by rw[show ((to:Int).toNat * 1)=to by simp];exact hdg) rfl rfl ?_))
   refine yno 62 (y:=i64 ((max c (m+d):Nat):Int)) rfl (yka (by split <;> omega)) ?_;refine ygo tok rfl rfl rfl rfl rfl rfl (by simp[yhc];omega) rfl (congrArg (fun z=>yac ((26,some (LObj.vec z))::_)) (show _=(yhc (R'.set k (max c (m+d)))).map i64 by rw[show ((k:Int).toNat * 1)=k by simp];exact hset)) rfl rfl ?_;refine zY ?_;exact yhi (j+1,R'.set k (max c (m+d))) ⟨by simp only;omega,by simp only;exact hS',by simp only;rw[show 8388608 * i+32 * (j+1)=8388608 * i+32 * j+32 by omega];exact hstep⟩ (by simp only;omega) zs (yah (yab rfl (yab rfl yag)))
  simp at q3;obtain rfl:j=y.2.length:=by omega
  rw[qcb,zto]at hS';refine zY ?_;refine yhi (i+1,R') ⟨by simp only;omega,by simp only;rw[hS'];exact hS,hR'.mono om⟩ (by simp only;omega) zs (hsE rfl)
 simp at q1;obtain rfl:i=o.length:=by omega
 rw[qcb,grS]at hS;refine zk ?_;rw[<- hS];exact Frz.tup2 (zlj rfl (by rw[zcb,hR.len])) Frz.pure
theorem zkh(a:ArcD):Con prog 34 [.agg (ykn a)] (i64 (mvA a:Nat)):=by
 refine ze Tryz.func34 ntmps34 Tryz.results34 ?_
 (repeat (first|refine zy ?_|refine zc (zmj a.1) ?_))
 exact zp
theorem zqq(h:SpcOk s)(hl:L.length=s.length):Con prog 10 [yjw s,yfv L] (wA (xgz mvA s L)):=by
 have hg:=wgreatest_con (fun a=>zkh a) (fun a=>xdx _) h hl;by_cases hlt:(ysy s L).length < L.length
 .rw [xgz,if_pos hlt]at hg ⊢;refine ze Tryz.func10 ntmps10 Tryz.results10 ?_;refine zZ ?_;exact zp
 rw[xgz,if_neg hlt]at hg ⊢;refine ze Tryz.func10 ntmps10 Tryz.results10 ?_;refine zZ ?_;exact zp
end
section
open Go.RowKit
theorem ysk:Con prog 116 [i64 24] (yav zzx):=by
 refine ze Tryz.func116 ntmps116 Tryz.results116 ?_;refine zY ?_;refine ybj (α:=Nat) (fun v=>[(4,i64 v),(3,yav (ymc (fun _=>true) v)),(0,i64 24)]) (fun _=>[]) (fun v=>24 - v) (fun v=>v<=24) 0 om zs yag ?_;intro v hv;refine zY ?_;refine yaj 8 rfl (fun q1=>?_) (fun q1=>?_)
 .simp at q1
  (try refine zbx ?_)
  refine yux rfl (fun _=>?_) (fun q2=>?_)
  ·(try refine zbx ?_)
   refine rnd (v+1) om om ?_ yag;rw[show ymc (fun _=>true) (v+1)=ymc (fun _=>true) v ||| (1#32 <<< v) by simp[ymc]];exact zs
  simp at q2;omega
 simp at q1;obtain rfl:v=24:=by omega
 exact zkp
theorem rspvalid_con(h:SpcOk s):Con prog 78 [yjw s] (yau true):=by
 obtain⟨h1,h2,h3,h4⟩:=h;have hin:Con prog 36 [i64 s.length,i64 1,i64 32768] (yau true):=by
  have:=ypm s.length 1 32768
  rwa [show inB s.length 1 32768=true by simp[inB];omega]at this
 have e1:(s.map (·.1)).length=s.length:=qai ..;rw[<- e1]at hin;have e2:(s.map fun x=>[ybd x.2]).length=s.length:=qai ..;refine ze Tryz.func78 ntmps78 Tryz.results78 ?_;refine zZ ?_;refine zj ?_ ?_ <;> intro q1
 .simp at q1
 refine zY ?_;refine ybj (α:=Nat) (fun k=>[(5,i64 k),(4,i64 (yiw (s.take k))),(3,i64 s.length),(1,.lp 1 0)]) (fun k=>[(1,some (xar s))]) (fun k=>s.length - k) (fun k=>k<=s.length) 0 om (by rw[<- e1];exact zs) zh ?_;intro k hk;refine zY ?_;refine zj ?_ ?_ <;> intro q4
 .simp at q4;obtain⟨x,hx⟩:=ybk q4;have hxm:=qab hx;have hax:=h4 x hxm;have ht:=ykg hx;have htl:=yrl s (k+1);have hx1:(s.map (·.1))[k]?=some x.1:=by rw[qak,hx];rfl
  have hcall:=rarcs_con hax (by omega:x.2.length<=262144) (by omega:s.length<=32768);have hxin:InM x.1:=yvs fun i hi=>by
   have:=hax.inM;have h2:(x.1 >>> 24).getLsbD (i - 24)=false:=by rw[this];simp
   rw[qec,show 24+(i - 24)=i by omega]at h2;exact h2
  refine zY ?_;refine yaj 34 rfl (fun q5=>?_) (fun q5=>?_)
  .simp at q5;omega
  (repeat (first|refine zq ?_|refine zc ysk ?_))
  refine yaj 44 rfl (fun q6=>?_) (fun q6=>?_)
  .rw [ydd]at q6;have:x.1 &&& ~~~zzx=0#32:=hxin;rw[this]at q6;simp at q6
  (try refine zqz ?_)
  refine rnd (k+1) om om ?_ zh;rw[ht,show ((yiw (s.take k)+x.2.length:Nat):Int)=(yiw (s.take k):Int)+(x.2.length:Int) by omega];exact zs
 simp at q4;obtain rfl:k=s.length:=by omega
 exact zkp
end
section
open Go.RowKit
def zdc(a:ArcD):Value:=.agg #[.int .u32 (a.1.toNat:Int),.int .i64 a.2]
theorem eqArc(a:ArcD)(w:World):(Op.equalIn 10000 87 (zdc a) (zdc a)).run prog w=.ok true w:=by
 have u3:=underlying3;have a3:=Tryz.isAgg3;have z3:=Tryz.sizeOf3;have u9:=underlying50;have a9:=Tryz.isAgg50;have z9:=Tryz.sizeOf50;rw[show (10000:Nat)=9999+1 from rfl];unfold zdc;rw[run_equalIn_agg w 9999 87 _ _ kf kf];simp only[Program.fieldsOf,underlying87];go_simp
theorem yield_neqA{ρ:Operand->Option AV}{hp:Nat->Option LObj}{x y:Operand}{ty' ty:TypeId}(hx:ρ x=some (.agg (ykn a)))(hy:ρ y=some (.agg (ykn a))):ybu prog hp ρ (.binOp .neq 87 x y ty') ty (yau false):=by
 have ex:zgz ρ x=zdc a:=by simp only[zgz,hx];rfl
 have ey:zgz ρ y=zdc a:=by simp only[zgz,hy];rfl
 refine yco (fun _ _=>by simp) (by simp only[ygy,Op.operands,hx,hy];rfl) fun w=>?_;have hg:=run_eqGuard_agg (P:=prog) w .neq 87 x y #[.int .u32 (a.1.toNat:Int),.int .i64 a.2] #[.int .u32 (a.1.toNat:Int),.int .i64 a.2] kf;simp only[zdc]at ex ey;have he:=eqArc a;simp only[zdc]at he;simp[execOp,ex,ey,hg,run_neq_struct,he]
section
variable{N:Nat}{ops:Array Oper}{lf:Oper->Bool}{Q:SS->Prop}{t:List (Nat × AV)}{h:List (Nat × Option LObj)}{rest:List Oper}{d:Nat}{ty:TypeId}{pos:String}{af:Array Edge}{gd:Option (Nat × Bool)}
theorem L_neqA{x y:Operand}{ty':TypeId}(hx:evF (yak t) x=some (.agg (ykn a)))(hy:evF (yak t) y=some (.agg (ykn a)))(hw:yam ops (yak t) ⟨some d,.binOp .neq 87 x y ty',ty,pos,af,gd⟩=some true)(hd:Nat.blt d N=true)(k:Lex prog N ops lf Q rest (S ((d,yau false)::t) h)):Lex prog N ops lf Q (⟨some d,.binOp .neq 87 x y ty',ty,pos,af,gd⟩::rest) (S t h):=
 ycm (yield_neqA hx hy) hw hd k
end
theorem rsame15_con(l:List (BitVec 32))(hl:l.length<=4294967296):Con prog 71 [ydh l,ydh l] (yau true):=by
 refine ze Tryz.func71 ntmps71 Tryz.results71 ?_;refine zY ?_;refine zj ?_ ?_ <;> intro q1
 .simp at q1
 refine zY ?_;refine ybj (α:=Nat) (fun i=>[(5,i64 i),(0,ydh l),(1,ydh l)]) (fun _=>[]) (fun i=>l.length - i) (fun i=>i<=l.length) 0 om zs yag ?_;intro i hi;refine zY ?_;refine zj ?_ ?_ <;> intro q2
 .simp at q2;obtain⟨x,hx⟩:=ybk q2;refine zY ?_;refine zj ?_ ?_ <;> intro q3
  .simp at q3
  refine zY ?_;exact rnd (i+1) om om zs yag
 simp at q2;obtain rfl:i=l.length:=by omega
 exact zkp
theorem rsame18_con(h:SpcOk s):Con prog 27 [yjw s,yjw s] (yau true):=by
 obtain⟨h1,h2,h3,h4⟩:=h;have e1:(s.map (·.1)).length=s.length:=qai ..;have hs:=rsame15_con (s.map (·.1)) om;refine ze Tryz.func27 ntmps27 Tryz.results27 ?_;refine zZ ?_;refine zj ?_ ?_ <;> intro q1
 .simp at q1
 refine zY ?_;refine ybj (α:=Nat) (fun k=>[(5,i64 k),(2,.lp 2 0),(3,.lp 3 0)]) (fun _=>[(2,some (xar s)),(3,some (xar s))]) (fun k=>s.length - k) (fun k=>k<=s.length) 0 om zs zh ?_;intro k hk;refine zY ?_;refine zj ?_ ?_ <;> intro q2
 .simp at q2;obtain⟨x,hx⟩:=ybk q2;have htl:x.2.length<=262144:=by have:=ykg hx;have:=yrl s (k+1);omega
  refine zY ?_;refine zj ?_ ?_ <;> intro q3
  .simp at q3
  refine zY ?_;refine ybj (α:=Nat) (fun i=>[(6,i64 i),(5,i64 k),(2,.lp 2 0),(3,.lp 3 0)]) (fun _=>[(2,some (xar s)),(3,some (xar s))]) (fun i=>x.2.length - i) (fun i=>i<=x.2.length) 0 om zs zh ?_;intro i hi;refine zY ?_;refine zj ?_ ?_ <;> intro q4
  .simp at q4;obtain⟨a,ha⟩:=ybk q4
   (repeat (first|refine zy ?_|refine L_neqA (a:=a) rfl rfl rfl rfl ?_))
   exact rnd (i+1) om om zs zh
  simp at q4;obtain rfl:i=x.2.length:=by omega
  refine zY ?_;exact rnd (k+1) om om zs zh
 simp at q2;obtain rfl:k=s.length:=by omega
 exact zkp
def yxa(p:ProgD)(g:GraphD)(m:Int):Bool:=zam p g && ((yia p g).2 != 0 && (yia p g).2 != 3 || ((yia p g).2 == 0 && decide ((yia p g).1<=m)))
theorem small_con(p:ProgD)(g:GraphD)(hin:yjt p)(m:Int):Con prog 24 [ygg p,yev g,i64 m] (yau (yxa p g m)):=by
 have hq:=quick_con p g hin;cases h1:zam p g with
 | false=>
  rw[h1]at hq;refine ze Tryz.func24 ntmps24 Tryz.results24 ?_;refine zZ ?_;refine zr ?_;exact yae (by simp[yxa,h1])
 | true=>
  rw[h1]at hq;have hf:Fair p g:=by
   unfold zam at h1;simp only[qad,decide_eq_true_eq]at h1;exact⟨hin,zls h1.1.1,h1.1.2⟩
  have hc:=yjk p g hf;obtain⟨⟨n,e⟩,hne⟩:∃ x,yia p g=x:=⟨_,rfl⟩;have hs:yxa p g m=(e != 0 && e != 3 || (e == 0 && decide (n<=m))):=by simp[yxa,h1,hne]
  rw[hne]at hc;rw[hs];refine ze Tryz.func24 ntmps24 Tryz.results24 ?_;refine zZ ?_;refine yaj 21 rfl (fun g1=>?_) (fun g1=>?_)
  .have g1:e≠0:=by simpa using g1
   refine zY ?_;refine yaj 25 rfl (fun g2=>?_) (fun g2=>?_)
   .have g2:e≠3:=by simpa using g2
    refine zk ?_;exact yae (by simp[g1,g2])
   have g2:e=3:=by simpa using g2
   subst g2;exact zkp
  have g1:e=0:=by simpa using g1
  subst g1;refine zk ?_;exact yae sm
end
section
open Go.RowKit
def zpe:AV:=.agg [ydh [],.sl 1 []]
theorem fits_ne3:ycv p g≠3:=by
 unfold ycv
 repeat' split
 all_goals omega
theorem rbuild_bad1(p:ProgD)(g:GraphD)(hf:Fair p g)(h0:ycv p g≠0)(kind:Int):Con prog 25 [ygg p,yev g,i64 kind] (.tup [zpe,i64 (ycv p g)]):=by
 have hco:=yjk p g hf;rw[yia,if_neg h0]at hco;have h3:=fits_ne3 (p:=p) (g:=g);obtain⟨e,he⟩:∃ e,ycv p g=e:=⟨_,rfl⟩;rw[he]at hco h0 h3 ⊢;refine ycx tok Tryz.func25 rfl rfl ntmps25 Tryz.results25 rfl rfl ?_;refine zZ ?_;refine yaj 29 rfl (fun g1=>?_) (fun g1=>?_)
 .refine zY ?_;refine zj ?_ ?_ <;> intro g2
  .refine zk ?_;exact Frz.tup2 ykt Frz.pure
  exact absurd g2 (by simpa using h3)
 exact absurd g1 (by simpa using h0)
theorem rbuild_bad2(p:ProgD)(g:GraphD)(hf:Fair p g)(h0:ycv p g=0)(hk:¬ (1<=kind/\kind<=4)):Con prog 25 [ygg p,yev g,i64 kind] (.tup [zpe,i64 12]):=by
 have hco:=yjk p g hf;rw[yia,if_pos h0]at hco;have hrk:=yoe kind;rw[show (decide (1<=kind) && decide (kind<=4))=false by simpa using hk]at hrk;unfold yce at hco;refine ycx tok Tryz.func25 rfl rfl ntmps25 Tryz.results25 rfl rfl ?_;cases hc:ygz 1 (yaf p g).flatten with
 | none=>
  rw[hc]at hco;refine zZ ?_;refine zr ?_;exact Frz.tup2 ykt Frz.pure
 | some n=>
  rw[hc]at hco;refine zZ ?_;refine zr ?_;exact Frz.tup2 ykt Frz.pure
theorem rbuild_bad3(p:ProgD)(g:GraphD)(hf:Fair p g)(h0:ycv p g=0)(hk:1<=kind/\kind<=4)(hc:ygz 1 (yaf p g).flatten=none):Con prog 25 [ygg p,yev g,i64 kind] (.tup [zpe,i64 3]):=by
 have hco:=yjk p g hf;rw[yia,if_pos h0,yce,hc]at hco;have hrk:=yoe kind;rw[decide_eq_true hk.1,decide_eq_true hk.2]at hrk;refine ycx tok Tryz.func25 rfl rfl ntmps25 Tryz.results25 rfl rfl ?_;refine zZ ?_;refine zr ?_;exact Frz.tup2 ykt Frz.pure
def zsv(p:ProgD)(g:GraphD)(kind:Int)(L:List Bool):Option SpcD:=
 if yxa p g 120=true/\g.ports.length<=4/\L.length<=200/\ycv p g=0/\1<=kind/\kind<=4 then
  match ygz 1 (yaf p g).flatten with
  | none=>none
  | some n=>match yth p g kind n.toNat 0 0 with
   | none=>none
   | some s=>if L.length=s.length then some s else none
 else none
def xle:Option SpcD->AV
 | some s=>.tup [yjw s,yau true,yau true]
 | none=>.tup [zpe,yau false,yau false]
theorem zgd:∀ o,yas (xle o)=true
 | some l=>rfl
 | none=>rfl
theorem ylr{h:Nat->Option LObj}:Frz h (.tup [.agg [ygd,ygd],.v (.bool false),.v (.bool false)]) (xle none):=Frz.tup3 ykt Frz.pure Frz.pure
theorem yzh(hin:yjt p){m:Int}(h:yxa p g m=true):Fair p g:=by
 unfold yxa zam at h;simp only[qad,decide_eq_true_eq]at h;exact⟨hin,zls h.1.1.1,h.1.1.2⟩
theorem system_con(p:ProgD)(g:GraphD)(hin:yjt p)(kind:Int)(L:List Bool):Con prog 5 [ygg p,yev g,i64 kind,yfv L] (xle (zsv p g kind L)):=by
 have hs:=small_con p g hin 120;cases h1:yxa p g 120 with
 | false=>
  rw[h1]at hs;have hn:zsv p g kind L=none:=by unfold zsv;rw[if_neg (by simp[h1])]
  rw[hn];refine ycx tok Tryz.func5 rfl rfl ntmps5 Tryz.results5 rfl (zgd _) ?_;refine zZ ?_;refine zr ?_;exact ylr
 | true=>
 rw[h1]at hs;have hf:=yzh hin h1;have bad:∀ e:Int,e≠0->zsv p g kind L=none->Con prog 25 [ygg p,yev g,i64 kind] (.tup [zpe,i64 e])->Con prog 5 [ygg p,yev g,i64 kind,yfv L] (xle (zsv p g kind L)):=fun e he hn hb=>by
  rw[hn];refine ycx tok Tryz.func5 rfl rfl ntmps5 Tryz.results5 rfl (zgd _) ?_;refine zZ ?_;refine yaj 24 rfl (fun g1=>?_) (fun g1=>?_)
  .refine zk ?_;exact ylr
  refine zY ?_;refine zj ?_ ?_ <;> intro g2
  .refine zk ?_;exact ylr
  refine zZ ?_;refine yaj 39 rfl (fun g3=>?_) (fun g3=>?_)
  .refine zk ?_;exact ylr
  exact absurd g3 (by simpa using he)
 by_cases h0:ycv p g=0;rotate_left
 .exact bad _ h0 (by unfold zsv;rw[if_neg (fun h=>h0 h.2.2.2.1)]) (rbuild_bad1 p g hf h0 kind)
 by_cases hk:1<=kind/\kind<=4;rotate_left
 .exact bad 12 dc (by unfold zsv;rw[if_neg (fun h=>hk h.2.2.2.2)]) (rbuild_bad2 p g hf h0 hk)
 cases hc:ygz 1 (yaf p g).flatten with
 | none=>exact bad 3 dc (by unfold zsv;split <;> simp[hc]) (rbuild_bad3 p g hf h0 hk hc)
 | some nz=>
 have hw:∀ b∈(yaf p g).flatten,wOk b:=zuk fun b hb=>by
  obtain⟨r,h1,h2⟩:=qdk.1 hb;exact((ydj hf h0).2 r h1).2 b h2
 have hnz:=ynt hc;have hp:=yoi hw;obtain⟨n,rfl⟩:∃ n:Nat,nz=n:=⟨nz.toNat,om⟩;have hn:yce (yaf p g)=((n:Int),0):=by unfold yce;rw[hc]
 have hrb:=rbuild_con p g hf h0 hk hn;have hsb:=spbuild_con p g hf h0 hk hn;cases hbl:yth p g kind n 0 0 with
 | none=>
  rw[hbl]at hrb;exact bad 3 dc (by unfold zsv;split <;> simp[hc,hbl]) hrb
 | some s=>
 rw[hbl]at hrb hsb;have hok:=(xhm hf h0 hk hn hbl).ok;have hsm:=rsame18_con hok;have hslen:=hok.len;have e1:(s.map (·.1)).length=s.length:=qai ..;have hval:g.ports.length<=4->L.length<=200->L.length=s.length->zsv p g kind L=some s:=fun a b c=>by
  unfold zsv;rw[if_pos ⟨h1,a,b,h0,hk.1,hk.2⟩,hc];simp only[qcl,hbl,if_pos c]
 have hno:¬ (g.ports.length<=4/\L.length<=200/\L.length=s.length)->zsv p g kind L=none:=fun h=>by
  unfold zsv;split
  .rename_i q;simp only[hc,qcl,hbl];rw[if_neg (fun e=>h ⟨q.2.1,q.2.2.1,e⟩)]
  rfl
 refine ycx tok Tryz.func5 rfl rfl ntmps5 Tryz.results5 rfl (zgd _) ?_;refine zZ ?_;refine yaj 24 rfl (fun g1=>?_) (fun g1=>?_)
 .rw [hno (fun h=>by simp at g1;omega)];refine zk ?_;exact ylr
 refine zY ?_;refine zj ?_ ?_ <;> intro g2
 .rw [hno (fun h=>by simp at g2;omega)];refine zk ?_;exact ylr
 refine zZ ?_;refine zj ?_ ?_ <;> intro g3
 .rw [hno (fun h=>by simp at g3;omega)];refine zk ?_;exact ylr
 rw[hval (by simp at g1;omega) (by simp at g2;omega) (by simp at g3;omega)];refine zWZ ?_;refine ybg (lf:=lf0) ymj rfl ?_;refine yeq [0,1,2,3,4,5,6] 4 (yaa rfl (yaa rfl (yaa rfl (yaa rfl (yaa rfl (yaa rfl (yaa rfl yal))))))) rfl kf ?_
 (repeat (first|refine zo ?_|refine zc hsm ?_))
 refine yax [7,8] 3 rfl kf sm ⟨⟨_,rfl,?_⟩,⟨_,rfl,?_⟩,trivial⟩
 .refine zO ?_;refine yaz [8,9,10] (yaa rfl (yaa rfl (yaa rfl yal))) rfl kf ?_;refine zO ?_;exact zkp
 refine zO ?_;refine yaz [7,9,10] (yaa rfl (yaa rfl (yaa rfl yal))) rfl kf ?_;refine zO ?_;exact zkp
end
end Go.Proofs.YtgpodcjhgdionaaGreatDoor
