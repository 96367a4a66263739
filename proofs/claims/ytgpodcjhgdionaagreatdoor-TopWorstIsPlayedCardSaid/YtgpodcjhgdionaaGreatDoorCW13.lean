/- Part 13 of the texts under TopWorstIsPlayed. -/
import Derived.RecoverIn
import Derived.WideLaws
import Derived.Test.YtgpodcjhgdionaaGreatDoorCW5
import Derived.Test.YtgpodcjhgdionaaGreatDoorCW11
import Derived.Test.YtgpodcjhgdionaaGreatDoorCW12
set_option linter.unusedVariables false
set_option maxRecDepth 100000
set_option maxHeartbeats 8000000
namespace Go.Proofs.YtgpodcjhgdionaaGreatDoor
open Go.Proofs.Tryz
variable{ats:Array TypeId}{l:List (BitVec 32)}{h hs':Nat->Option LObj}{P:Program}{rs:List ResultVar}{f:FuncId}{ok0:Nat->Prop}{xs:List AV}{c:List (List Int)}{g:Operand}{u u':FrameMode}{w:World}{R:Ending->World->Prop}{n id N k i:Nat}{lv:Live}{fn:Func}{r x:AV}{lf:Oper->Bool}{l1:List Oper}{p:ProgD}{e:BitVec 32}{B:Bse}{kind:Int}{o:Oper}{s:SS}{a:Act}
section
open Go.RowKit
def zgx(g:GraphD)(kind:Int)(e:BitVec 32):List (BitVec 32):=if kind=1 then(ycb e).map fun v=>1#32 <<< v else if kind=4 then [e]else(zga e).filter (zce g kind e)
def yzw(g:GraphD)(kind:Int)(e:BitVec 32):Option (List (BitVec 32)):=if e=0#32 then some []else if kind≠1/\kind≠4/\10 < zak e then none else some (zgx g kind e)
def xmo:Option (List (BitVec 32))->AV
 | some l=>.tup [ydh l,i64 0]
 | none=>.tup [ydh [],i64 3]
theorem zow:∀ o,yas (xmo o)=true
 | some l=>rfl
 | none=>rfl
theorem yrj(e:BitVec 32):∀ n x,(ynj e n x).length<=n
 | 0,x=>by simp[ynj]
 | n+1,x=>by
  unfold ynj;split
  .simp
  have:=yrj e n (yoy e x);simp;omega
theorem yqo(hx:h id=some (.vec (l.map yav)))(hn:n=l.length):Frz h (.ls id 1 n) (ydh l):=
 Frz.ls (xs:=l.map yav) (by rw[hx];rfl) (by rw[hn,qai]) (by intro r hr;obtain⟨z,_,rfl⟩:=qag.1 hr;rfl) (ydq _) (by intro x hx i;obtain⟨z,_,rfl⟩:=qag.1 hx;rfl)
theorem choices_con(g:GraphD)(h24:g.ports.length<=24)(kind:Int)(hk:1<=kind/\kind<=4)(e:BitVec 32)(he:InN g.ports.length e):Con prog 125 [yyu g,i64 kind,yav e] (xmo (yzw g kind e)):=by
 refine ycx tok Tryz.func125 rfl rfl ntmps125 Tryz.results125 rfl (zow _) ?_;refine zY ?_;refine zj ?_ ?_ <;> intro h1
 .rw [yct]at h1;have h1:e=0#32:=by simpa using h1
  refine zk ?_;rw[yzw,if_pos h1];exact Frz.tup2 Frz.nil Frz.pure
 rw[yct]at h1;have h1:¬ e=0#32:=by simpa using h1
 have hcho:yzw g kind e=if kind≠1/\kind≠4/\10 < zak e then none else some (zgx g kind e):=by rw[yzw,if_neg h1]
 rw[hcho];refine zY ?_;refine znt 8 0 902 1 rfl rfl rfl rfl rfl ?_;refine zj ?_ ?_ <;> intro q1
 .have k1:kind=1:=by simpa using q1
  subst k1;rw[if_neg sm,zgx,if_pos rfl]
  (repeat (first|refine zy ?_|refine yxu [(1,901)] (ywm e) rfl rfl rfl rfl rfl rfl rfl yag rfl rfl rfl rfl rfl rfl ?_))
  refine zbh 901 rfl (ysh e) (fun _=>rfl) rfl (ywl e 18) rfl [(8,.lp 8 0)] zs rfl (fun k=>[(8,some (.cells [.ls 902 1 k])),(902,some (.vec (((ycb e).take k).map fun v=>yav (1#32 <<< v))))]) rfl (yah zh) rfl ?_ ?_
  .intro k el hel;obtain⟨v,hv,rfl⟩:=ysf hel;have hin:=yfo.1 (qab hv);have hkl:=(qaa.1 hv).1;have hl32:=zew e;refine zY ?_;refine⟨rfl,?_⟩
   (repeat (first|refine zbx ?_|refine ydy tok rfl rfl rfl so rfl (by simp[yas]) so rfl rfl rfl rfl rfl ?_))
   refine xhi zs (yah (yab rfl (yab rfl (yab ?_ yag))));show some _=some _;rw[yao hv];simp;rfl
  rw[ysg];refine zk ?_;refine Frz.tup2 (yqo ?_ sm) Frz.pure;show some _=some _;rw[qaw,qen];rfl
 have k1:¬ kind=1:=by simpa using q1
 refine zY ?_;refine zj ?_ ?_ <;> intro q4
 .have k4:kind=4:=by simpa using q4
  subst k4;rw[if_neg sm,zgx,if_neg om,if_pos rfl];exact zkp
 have k4:¬ kind=4:=by simpa using q4
 (repeat (first|refine zy ?_|refine zc (zmj e) ?_))
 refine zj ?_ ?_ <;> intro q5
 .refine zk ?_;rw[if_pos ⟨k1,k4,by simp at q5;omega⟩];exact Frz.tup2 Frz.nil Frz.pure
 rw[if_neg (fun h=>by have:=h.2.2;simp at q5;omega),zgx,if_neg k1,if_neg k4]
 (try refine zq ?_)
 have hper:∀ x:BitVec 32,Con prog 153 [yyu g,i64 kind,yav e,yav x] (yau (zce g kind e x)):=fun x=>yuq g kind hk e x fun _ hs=>zpz g h24 x (xha hs he);refine ybw (α:=BitVec 32 × List (BitVec 32)) (fun a=>[(10,yav a.1),(8,.lp 8 0),(0,yyu g),(1,i64 kind),(2,yav e)]) (fun a=>[(8,some (.cells [.ls 902 1 a.2.length])),(902,some (.vec (a.2.map yav)))]) (fun a=>xkj a.1) (fun a=>yzq a.1 e/\a.2++(zne e a.1).filter (zce g kind e)=(zga e).filter (zce g kind e)) (-e &&& e,[]) ⟨yjx e,rfl⟩ zs (yah zh) ?_;rintro⟨x,acc⟩ ⟨hx,hacc⟩;simp only at hx hacc ⊢
 (try refine zq ?_)
 refine zj ?_ ?_ <;> intro q6
 .rw [ydd]at q6;have q6:x≠0#32:=by simpa[bne]using q6
  have hfar:=zwo hx q6;rw[yzi hx q6]at hacc;have hbd:acc.length+((x::zne e (yoy e x)).filter (zce g kind e)).length<=4294967296:=by
   have:=congrArg List.length hacc;rw[qan]at this;rw[this];refine qbp (qcu _ _) (qbp (yrj e _ _) ?_);omega
  (repeat (first|refine zy ?_|refine zc (hper x) ?_))
  refine zj ?_ ?_ <;> intro q7
  .rw [qct q7]at hacc hbd;simp only[qaj]at hbd
   (repeat (first|refine zq ?_|refine ydy tok rfl rfl rfl sm rfl (by simp[yas]) so rfl rfl rfl rfl rfl ?_))
   refine yhi (yoy e x,acc++[x]) ⟨ymv e x,by rw[qbd];exact hacc⟩ hfar zs (yah (yab ?_ (yab ?_ yag)))
   .show some _=some _;simp
   show some _=some _;simp;rfl
  rw[qcz (by rw[q7];simp)]at hacc
  (try refine zq ?_)
  exact yhi (yoy e x,acc) ⟨ymv e x,hacc⟩ hfar zs (yah zh)
 rw[ydd]at q6;have q6:x=0#32:=by simpa[bne]using q6
 rw[q6,yzj]at hacc;refine zk ?_;refine Frz.tup2 (yqo ?_ (by rw[<- hacc];simp)) Frz.pure;rw[<- hacc];simp;rfl
end
section
open Go.RowKit
variable{v:Nat}
theorem zyq:∀ {l:List (Int × Int)} {P:Int} {x:Nat},x < l.length->(zbc l P).1[x]?=some (zbc (l.drop (x+1)) P).2
 | [],P,x,h=>by simp at h
 | r::rs,P,0,h=>by simp[zbc]
 | r::rs,P,x+1,h=>by
  simp only[zbc,qca,qdp];exact zyq (by simpa using h)
theorem zzj:∀ {t:List (List (Int × Int))} {P:Int} {k:Nat} {r:List (Int × Int)},t[k]?=some r->(zar t P).1[k]?=some (zbc r (zar (t.drop (k+1)) P).2).1
 | [],P,k,r,h=>by simp at h
 | r'::rs,P,0,r,h=>by
  simp only[qas,Option.some.injEq]at h;subst h;simp[zar]
 | r'::rs,P,k+1,r,h=>by
  simp only[zar,qca,qdp];exact zzj (by simpa using h)
theorem yyz{g:GraphD}(ht:xbn (yaf p g)){n:Int}(hn:yce (yaf p g)=(n,0)){b:List (Int × Int)}(hb:(yaf p g)[v]?=some b):∃ pl,(yhv p g)[v]?=some pl/\pl.length=b.length/\∀ (x:Nat) (q:Int),pl[x]?=some q->1<=q/\q<=32768:=by
 refine⟨_,zzj hb,ywx _ _,fun x q hq=>?_⟩;have hx:x < b.length:=by
  have:=(qaa.1 hq).1
  rwa [ywx]at this
 rw[zyq hx]at hq;cases hq;exact zmn ht hn hb (x+1)
def yjy(st mv pl:List Int):Nat->Int
 | 0=>0
 | x+1=>yjy st mv pl x+(mv.getD x 0 - st.getD x 0) * pl.getD x 0
def yhs(p:ProgD)(g:GraphD)(c:List (List Int))(v:Nat):Int:=if yry p g c v=true then yjy (c.getD v []) (znq p g c v) ((yhv p g).getD v []) p.vars.length else 0
def znf(f:Nat->Int):List Nat->Int
 | []=>0
 | v::l=>f v+znf f l
theorem zgc(f:Nat->Int):∀ (l:List Nat) (v:Nat),znf f (l++[v])=znf f l+f v
 | [],v=>by simp[znf]
 | u::l,v=>by simp only[qbb,znf,zgc f l v];omega
theorem sumN_take{f:Nat->Int}{l:List Nat}{j:Nat}(h:l[j]?=some v):znf f (l.take (j+1))=znf f (l.take j)+f v:=by rw[yao h,zgc]
theorem xey{f:Nat->Int}{M:Int}(hM:0<=M)(hf:∀ v,-M<=f v/\f v<=M):∀ l:List Nat,-(l.length * M)<=znf f l/\znf f l<=l.length * M
 | []=>by simp[znf]
 | v::l=>by
  obtain⟨h1,h2⟩:=xey hM hf l;obtain⟨h3,h4⟩:=hf v;have e:((v::l).length:Int) * M=l.length * M+M:=by rw[qaj];rw[show ((l.length+1:Nat):Int)=(l.length:Int)+1 by omega,qev,qeo]
  rw[e];simp only[znf];omega
theorem xdi{a b A B:Int}(h1:-A<=a)(h2:a<=A)(h3:1<=b)(h4:b<=B)(hA:0<=A):-(A * B)<=a * b/\a * b<=A * B:=by
 have g1:A * b<=A * B:=qfx h4 hA;have g2:a * b<=A * b:=qco h2 om;have g3:-A * b<=a * b:=qco h1 om;rw[Int.neg_mul]at g3;omega
theorem zty{g:GraphD}(h:CfgOk p g c)(hv:v < c.length):(znq p g c v).length=p.vars.length/\∀ a∈znq p g c v,-1<=a/\a<=1000000:=by
 obtain⟨r,hr⟩:=ybk hv;have hs:=zuq (p:=p) (g:=g) (set:=1#32 <<< v) hr;have h24:=h.n24;have hl:=h.len;have hb:(1#32 <<< v).getLsbD v=true:=by rw[qfb];simp;omega
 rw[if_pos hb]at hs;have h':=h.step (1#32 <<< v);exact⟨h'.rowlen _ (qab hs),h'.bd _ (qab hs)⟩
theorem yyn{l:List Int}{x:Nat}{a:Int}(h:l[x]?=some a):l.getD x 0=a:=by rw[qac,h];rfl
theorem zlm{st mv pl:List Int}(hs:st.length=n)(hm:mv.length=n)(hp:pl.length=n)(h1:∀ a∈st,-1<=a/\a<=1000000)(h2:∀ a∈mv,-1<=a/\a<=1000000)(h3:∀ (x:Nat) (q:Int),pl[x]?=some q->1<=q/\q<=32768):∀ x:Nat,x<=n->-(x * 40000000000:Int)<=yjy st mv pl x/\yjy st mv pl x<=(x * 40000000000:Int)
 | 0,_=>by simp[yjy]
 | x+1,h=>by
  obtain⟨i1,i2⟩:=zlm hs hm hp h1 h2 h3 x om;obtain⟨a,ha⟩:=ybk (show x < st.length by omega);obtain⟨b,hb⟩:=ybk (show x < mv.length by omega);obtain⟨q,hq⟩:=ybk (show x < pl.length by omega);have a1:=h1 a (qab ha);have b1:=h2 b (qab hb);have q1:=h3 x q hq;have:=xdi (a:=b - a) (b:=q) (A:=1000001) (B:=32768) om om q1.1 q1.2 om;simp only[yjy,yyn ha,yyn hb,yyn hq];omega
theorem zxc{g:GraphD}(h:CfgOk p g c){n:Int}(hn:yce (yaf p g)=(n,0))(v:Nat):-240000000000<=yhs p g c v/\yhs p g c v<=240000000000:=by
 unfold yhs;split
 .by_cases hv:v < c.length
  .obtain ⟨st,hst⟩:=ybk hv;obtain⟨b,hb,hsb⟩:=h.row hst;obtain⟨pl,hpl,hl,hq⟩:=yyz (ydj h.fair h.fit) hn hb;obtain⟨m1,m2⟩:=zty h hv;have h6:=h.vars6;have:=zlm (st:=st) (mv:=znq p g c v) (pl:=pl) (n:=p.vars.length) (h.rowlen _ (qab hst)) m1 (by rw[hl,ykf hb]) (h.bd _ (qab hst)) m2 hq p.vars.length (qbf _);have e1:c.getD v []=st:=by rw[qac,hst];rfl
   have e2:(yhv p g).getD v []=pl:=by rw[qac,hpl];rfl
   rw[e1,e2];omega
  have e:(yhv p g)[v]?=none:=by
   rw[qgj];have:=h.len;simp only[yhv,yxd,yaf,qai];omega
  have e2:(yhv p g).getD v []=[]:=by rw[qac,e];rfl
  rw[e2];have:∀ x,yjy (c.getD v []) (znq p g c v) [] x=0:=by
   intro x;induction x with
   | zero=>rfl
   | succ x ih=>
    show yjy _ _ _ x+_ * ([]:List Int).getD x 0=0;rw[ih];simp
  rw[this];omega
 omega
abbrev ArcD:=BitVec 32 × Int
variable{F:BitVec 32->ArcD}
def ykn(a:ArcD):List AV:=[yav a.1,i64 a.2]
def ybd(l:List ArcD):AV:=.sl 2 (l.map ykn)
def xka(p:ProgD)(g:GraphD)(c:List (List Int))(k:Nat)(B:BitVec 32):ArcD:=(B,k+znf (yhs p g c) (ycb B))
def ypq(p:ProgD)(g:GraphD)(kind:Int)(c:List (List Int))(k:Nat):Option (BitVec 32 × List ArcD):=(yzw g kind (ydc p g c)).map fun l=>(ydc p g c,l.map (xka p g c k))
def xev:Option (BitVec 32 × List ArcD)->AV
 | some (e,l)=>.tup [yav e,ybd l,i64 0]
 | none=>.tup [yav 0#32,ybd [],i64 3]
theorem stateA_pure:∀ o,yas (xev o)=true
 | some (e,l)=>rfl
 | none=>rfl
def yfk(l:List ArcD):List AV:=(l.map ykn).flatten
theorem zdo(l:List ArcD):(yfk l).length=2 * l.length:=by
 unfold yfk;rw[zmv (k:=2) (fun x=>rfl)];omega
theorem zil:∀ {l:List ArcD} {i:Nat},(yfk l).take (i * 2)=yfk (l.take i)
 | [],i=>by simp[yfk]
 | a::l,0=>by simp[yfk]
 | a::l,i+1=>by
  have ih:=zil (l:=l) (i:=i);rw[show (i+1) * 2=i * 2+1+1 by omega];show yav a.1::i64 a.2::(yfk l).take (i * 2)=_;rw[ih];rfl
theorem zij:∀ {l:List ArcD} {i:Nat},(yfk l).drop (i * 2)=yfk (l.drop i)
 | [],i=>by simp[yfk]
 | a::l,0=>by simp
 | a::l,i+1=>by
  have ih:=zij (l:=l) (i:=i);rw[show (i+1) * 2=i * 2+1+1 by omega];show (yfk l).drop (i * 2)=_;rw[ih];rfl
theorem flatA_app(a b:List ArcD):yfk (a++b)=yfk a++yfk b:=by simp[yfk]
theorem flatA_put{l:List ArcD}{y:ArcD}(h:i < l.length):(yfk l).take (i * 2)++ykn y++(yfk l).drop (i * 2+2)=yfk (l.set i y):=by
 rw[qem,if_pos h,zil,show i * 2+2=(i+1) * 2 by omega,zij,flatA_app,qbd];rfl
theorem zwt:∀ {l:List ArcD} {i:Nat} {y:ArcD},l[i]?=some y->(yfk l)[i * 2+1]?=some (i64 y.2)
 | [],i,y,h=>by simp at h
 | a::l,0,y,h=>by simp at h;subst h;rfl
 | a::l,i+1,y,h=>by
  rw[show (i+1) * 2+1=i * 2+1+1+1 by omega];show (yfk l)[i * 2+1]?=_;exact zwt (by simpa using h)
theorem zik:∀ {l:List ArcD} {i:Nat} {B:BitVec 32} {x z:Int},l[i]?=some (B,x)->(yfk l).set (i * 2+1) (i64 z)=yfk (l.set i (B,z))
 | [],i,B,x,z,h=>by simp at h
 | a::l,0,B,x,z,h=>by simp at h;subst h;rfl
 | a::l,i+1,B,x,z,h=>by
  have ih:=zik (l:=l) (i:=i) (B:=B) (x:=x) (z:=z) (by simpa using h);rw[show (i+1) * 2+1=i * 2+1+1+1 by omega];show yav a.1::i64 a.2::(yfk l).set (i * 2+1) (i64 z)=_;rw[ih];rfl
theorem zse:∀ (n:Nat) (x:BitVec 32),yzq x e->∀ y∈ynj e n x,yzq y e
 | 0,x,_,y,h=>by simp[ynj]at h
 | n+1,x,hx,y,h=>by
  unfold ynj at h;split at h
  .simp at h
  rcases qaq.1 h with rfl|h
  .exact hx
  exact zse n _ (ymv e x) y h
theorem choV_sub{g:GraphD}(h:yzw g kind e=some l):∀ B∈l,∀ v,B.getLsbD v=true->e.getLsbD v=true:=by
 intro B hB v hv;unfold yzw at h;split at h
 .cases h;simp at hB
 split at h
 .cases h
 cases h;unfold zgx at hB;split at hB
 .obtain ⟨u,hu,rfl⟩:=qag.1 hB;have hu':=yfo.1 hu;rw[qfb]at hv;simp only[qad,qbn,decide_eq_false_iff_not,decide_eq_true_eq,qfj]at hv;obtain rfl:v=u:=by omega
  exact hu'.2
 split at hB
 .obtain rfl:=qau.1 hB;exact hv
 exact(zse _ _ (yjx e) B (qdc.1 hB).1).bit hv
theorem zpk:∀ n:Nat,ykx n [yav 0#32,i64 0]=yfk (List.replicate n (0#32,0))
 | 0=>rfl
 | n+1=>by simp[ykx,zpk n,qbq,yfk,ykn]
def znp(F:BitVec 32->ArcD)(l:List (BitVec 32))(i:Nat):List ArcD:=(l.take i).map F++List.replicate (l.length - i) (0#32,0)
theorem arcK_len(h:i<=l.length):(znp F l i).length=l.length:=by simp[znp];omega
theorem arcK_set{B:BitVec 32}(h:l[i]?=some B):(znp F l i).set i (F B)=znp F l (i+1):=by
 have hi:=(qaa.1 h).1;unfold znp;rw[yao h,qbo _ _ so];obtain⟨m,hm⟩:∃ m,l.length - i=m+1:=⟨l.length - i - 1,om⟩;rw[show l.length - (i+1)=m by omega,hm];simp[qbq,qfw (Nat.le_of_lt hi)]
theorem arcK_end:znp F l l.length=l.map F:=by simp[znp]
theorem arcK_zero:znp F l 0=List.replicate l.length (0#32,0):=by simp[znp]
theorem setA_same{l:List AV}(h:l[k]?=some x):l.set k x=l:=by
 apply qdt;intro j;rw[qdb];split
 .rename_i e;subst e;rw[h,if_pos (qaa.1 h).1]
 rfl
theorem choL_len(g:GraphD)(kind:Int)(e:BitVec 32):(zgx g kind e).length<=4294967296:=by
 unfold zgx;split
 .rw [qai];have:=zew e;omega
 split
 .simp
 refine qbp (qcu _ _) (qbp (yrj e _ _) ?_);omega
theorem zkx{g:GraphD}(h:yzw g kind e=some l):l.length<=4294967296:=by
 unfold yzw at h;split at h
 .cases h;simp
 split at h
 .cases h
 cases h;exact choL_len g kind e
theorem arr_skip{f:Nat->Int}(h:k < n)(h0:f k=0):yvd f n (k+1)=yvd f n k:=by
 unfold yvd;rw[qdd,qbz,qbd];congr 1;obtain⟨m,hm⟩:∃ m,n - k=m+1:=⟨n - k - 1,om⟩;rw[show n - (k+1)=m by omega,hm];simp[qbq,h0]
theorem arr_at{f:Nat->Int}(h:k < n):(yvd f n k)[k]?=some 0:=by
 unfold yvd;rw[qah sm];simp only[qai,qds,qbm];rw[qcs,if_pos om]
theorem arr_get{f:Nat->Int}(h:k<=n)(hv:v < k):(yvd f n k)[v]?=some (f v):=by
 unfold yvd;rw[qam (by simpa using hv)];simp[hv]
end
set_option maxHeartbeats 4000000
section
open Go.RowKit
def xjn(P:Program)(f:FuncId)(args:List AV)(r:AV):Prop:=
 ylj P f/\yas r=true/\∀ (ok0:Nat->Prop) (w:World) (us:List Value),zaw w->(∀ g,ok0 g->g < w.heap.size)->ybn ok0 w (fun _=>none) args us ->
  Calls P f us.toArray w fun e w'=>∃ u,e=.returned u/\Rel (fun g=>w.heap.size<=g/\g < w'.heap.size) w' (fun _=>none) r u/\Below w.heap.size w w'
def zsz(h:Nat->Option LObj)(x y:AV):Prop:=
 ∀ (B:Bse) (ok0:Nat->Prop) (lv:Live) (w:World) (u:Value),Inv B ok0 h lv w->Rel (yba B ok0 lv w) w lv x u->Rel (fun g=>B.mine g/\g < w.heap.size) w (fun _=>none) y u
theorem zsz.v{x:Value}:zsz h (.v x) (.v x):=fun B ok0 lv w u hi hr=>by cases hr;exact .v x
theorem Rel.flat{ok ok':Nat->Prop}{size:Nat}{rows:List (List AV)}{u:Value}(h:Rel ok w lv (.sl size rows) u)(hv:∀ row∈rows,∀ c∈row,∃ v,c=.v v)(hb:∀ g o len cap,u=.slice (some ⟨g,o,none⟩) len cap->ok' g):Rel ok' w lv (.sl size rows) u:=by
 cases h with
 | sl a cap uu g o hn hc ha hr hg hcell hrel=>
  refine .sl a cap uu g o hn hc ha hr (fun hne=>⟨(hg hne).1,hb g o _ _ (by rw[(hg hne).1])⟩) hcell fun i j row c h1 h2=>?_;obtain⟨v,rfl⟩:=hv row (qab h1) c (qab h2);have:=hrel i j row _ h1 h2;generalize uu i j=q at this ⊢;cases this;exact .v v
theorem zsz.ls{size len:Nat}{rows:List (List AV)}(hx:h id=some (.vec xs))(hlen:rows.length=len)(hsize:∀ row∈rows,row.length=size)(hfl:rows.flatten=xs)(hv:∀ row∈rows,∀ c∈row,∃ v,c=.v v):zsz h (.ls id size len) (.sl size rows):=by
 intro B ok0 lv w u hi hr;have hp:∀ x∈xs,∀ i,ment i x=false:=fun x hm i=>by
  rw[<- hfl]at hm;obtain⟨row,h1,h2⟩:=qdk.1 hm;obtain⟨v,rfl⟩:=hv row h1 x h2;rfl
 refine Rel.flat (Frz.ls (show ycw (h id)=some xs by rw[hx];rfl) hlen hsize hfl hp B ok0 lv w u hi hr) hv fun g o ln cap e=>?_;subst e;cases hr with
 | ls _ h1 hls=>
  obtain⟨bo,n,g1,g2⟩:=hi.obj id _ hx;have:=hls bo n g1;cases bo with
  | none=>simp[xnc]at this
  | some b=>
   obtain⟨cap',e,_⟩:=this;cases e;exact⟨g2.1,g2.2.1⟩
theorem zsz.tup3{a b c a' b' c':AV}(h1:zsz h a a')(h2:zsz h b b')(h3:zsz h c c'):zsz h (.tup [a,b,c]) (.tup [a',b',c']):=by
 intro B ok0 lv w u hi hr;cases hr with
 | tup vs hl hrr=>
  refine .tup vs (by rw[hl];rfl) fun i x v hx hv=>?_
  match i with
  | 0=>cases hx;exact h1 B ok0 lv w v hi (hrr 0 _ _ rfl hv)
  | 1=>cases hx;exact h2 B ok0 lv w v hi (hrr 1 _ _ rfl hv)
  | 2=>cases hx;exact h3 B ok0 lv w v hi (hrr 2 _ _ rfl hv)
  | i+3=>simp at hx
def EndsN(T:Nat->Option Ty)(rs:List ResultVar)(y:AV):Exit->SS->Prop
 | .normal,s=>∃ x,yrf T s rs=some x/\zsz s.h x y
 | .ret,s=>∃ x,yrf T s rs=some x/\zsz s.h x y
 | _,_=>False
theorem con_ofN {T:Nat → Option Ty} (hT : TOK P T) {c:Code} {args:List AV} (hf : P.funcs[f]? = some fn) (hn : (fn.name == "runtime.NumGoroutine") = false) (hb : fn.body = some c) (hN : fn.ntmps = N) (hrs : fn.results = rs.toArray) (hlen : (Nat.ble args.length N && Nat.ble N 1000000) = true) (hp : yas r = true) (h:A P N c (EndsN T rs r) (S (yfj 0 args) [])):xjn P f args r:=by
 refine⟨⟨fn,hf,hn,by simp[hb]⟩,hp,fun ok0 w us hG hok hus=>?_⟩;simp only[qad,qdr]at hlen;obtain⟨hlen',hbig⟩:=hlen;refine(callsIn_wide (n:=0)).1 (callsIn_of_wp_marks hf hb trivial ?_);have hst:S (yfj 0 args) []=⟨zte args,fun _=>none⟩:=by unfold S;rw[ylb];rfl
 have hs:Sim (xgp w) ok0 N (S (yfj 0 args) []) (fun _=>none) { tmps:=us.toArray++Array.replicate (fn.ntmps - us.toArray.size) undef,defers:=[] } w:=by
  rw[hst];refine⟨⟨Based.start hG,hok,fun _ _=>rfl,(fun i j b n m h=>by cases h),(fun id x hx=>by cases hx)⟩,?_,fun x y hy=>?_,⟨[],rfl,qdu,fun d hd=>by cases hd⟩,hbig,fun id b xs _ hx=>by cases hx⟩
  .simp [hN,hus.1];omega
  have hlt:=(qaa.1 hy).1;refine⟨.inl om,?_⟩;obtain⟨u,hu⟩:∃ u,us[x]?=some u:=⟨_,qae (by rw[hus.1];exact hlt)⟩;rw[ydx,if_pos om];simp only[yfm us _ x u hu];exact(hus.2 x y u hy hu).keep fun g hg=>⟨⟨.inl hg,hok g hg,fun id b n hb=>by cases hb⟩,rfl⟩
 refine wpIn_mono (h _ ok0 _ _ w hs) fun e a' w' ⟨s',lv',hq,hs'⟩=>?_;have fin:∀ x,yrf T s' rs=some x->zsz s'.h x r->∀ (a':Act) (w':World),Sim (xgp w) ok0 N s' lv' a' w'->∃ v,(results fn a'.tmps).run P w'=.ok v w'/\∃ u,Ending.returned v=.returned u/\Rel (fun g=>w.heap.size<=g/\g < w'.heap.size) w' (fun _=>none) r u/\Below w.heap.size w w':=by
  intro x hx hfz a' w' hs';obtain⟨u,hu,hrun⟩:=yrg hT hs' hrs hx;exact⟨u,hrun,u,rfl,(hfz _ _ _ _ _ hs'.inv hu).keep (fun g hg=>⟨⟨hg.1.elim (fun h=>h.elim) (fun h=>h),hg.2⟩,rfl⟩),hs'.inv.base.below⟩
 cases e with
 | normal=>obtain⟨x,hx,hfz⟩:=hq;exact yck rfl rfl (fin x hx hfz) _ a' w' rfl hs'
 | ret=>obtain⟨x,hx,hfz⟩:=hq;exact yck rfl rfl (fin x hx hfz) _ a' w' rfl hs'
 | _=>exact hq.elim
def zsp(h:Nat->Option LObj)(xs ys:List AV):Prop:=xs.length=ys.length/\∀ (i:Nat) (x y:AV),xs[i]?=some x->ys[i]?=some y->Frz h x y
theorem zsp.nil{h:Nat->Option LObj}:zsp h [] []:=⟨rfl,fun i x y hx=>by simp at hx⟩
theorem zsp.cons{y:AV}{ys:List AV}(h1:Frz h x y)(h2:zsp h xs ys):zsp h (x::xs) (y::ys):=by
 refine⟨by simp[h2.1],fun i a b ha hb=>?_⟩;cases i with
 | zero=>cases ha;cases hb;exact h1
 | succ i=>exact h2.2 i a b (by simpa using ha) (by simpa using hb)
theorem yield_callV{ρ:Operand->Option AV}{args:List Operand}{ty:TypeId}{ys:List AV}(hf:ρ g=some (.fn f []))(hx:evL ρ args=some xs)(hfz:zsp h xs ys)(hc:xjn P f ys r):
  ybu P h ρ (.call { callee:=.value g,args:=args.toArray,argTypes:=ats }) ty r:=by
 intro B ok0 lv w a o ho hty hi hops K Q hK;have hfr:=hops g _ (by simp[Op.operands,Call.operands]) hf;have har:=yue (a:=a) args xs (fun x y hm=>hops x y (by simp[Op.operands,Call.operands,hm])) hx;generalize hv:a.eval g=v at hfr;cases hfr with
 | fn vs hl hr=>
  have hvs:vs=[]:=qax (by simpa using hl);subst hvs;have hall:ybn (fun g=>(ok0 g\/B.mine g)/\g < w.heap.size) w (fun _=>none) ys (args.map a.eval):=by
   refine⟨by rw[har.1,hfz.1],fun i y u hy hu=>?_⟩;obtain⟨x,hxi⟩:∃ x,xs[i]?=some x:=⟨_,qae (by rw[hfz.1];exact(qaa.1 hy).1)⟩;exact hfz.2 i x y hxi hy B ok0 lv w u hi (har.2 i x u hxi hu)
  have hcall:=hc.2.2 _ w _ hi.base.glob (fun g hg=>hg.2) hall;have hrun:(execOp a.eval o).run P w=.ok (.enter f (args.map a.eval).toArray) w:=by
   simp[execOp,ho,resolve,Deferred.ofValue,hv,invoke,ygm hc.1]
  unfold Oper.wp;rw[hrun];refine hcall.mono fun e w' ⟨u,he,hrel,hb⟩=>?_;subst he;have hsz:B.w.heap.size<=w.heap.size:=hi.base.size;refine hK u w' ((hrel.relive fun id b n _ hm=>by rw[yas.ment hc.2.1]at hm;cases hm).keep fun g hg=>⟨⟨.inr (.inr om),hg.2,fun id b n hb e=>?_⟩,rfl⟩) (hi.grow hb) hb;subst e;have:=(hi.mineOf ⟨id,n,hb⟩).2;omega
section
variable{P:Program}{N:Nat}{ops:Array Oper}{lf:Oper->Bool}{Q:SS->Prop}{t:List (Nat × AV)}{h:List (Nat × Option LObj)}{rest:List Oper}{d:Nat}{ty:TypeId}{pos:String}{af:Array Edge}{gd:Option (Nat × Bool)}{r:AV}
theorem zta{args:List Operand}{ats:Array TypeId}{xs:List AV}(ys:List AV)(hc:xjn P f ys r)(hf:evF (yak t) g=some (.fn f []))(hx:evL (evF (yak t)) args=some xs)(hfz:zsp (yac h) xs ys)(hw:yam ops (yak t) ⟨some d,.call { callee:=.value g,args:=args.toArray,argTypes:=ats },ty,pos,af,gd⟩=some true)(hd:Nat.blt d N=true)(k:Lex P N ops lf Q rest (S ((d,r)::t) h)):Lex P N ops lf Q (⟨some d,.call { callee:=.value g,args:=args.toArray,argTypes:=ats },ty,pos,af,gd⟩::rest) (S t h):=
 ycm (yield_callV hf hx hfz hc) hw hd k
end
end
set_option maxHeartbeats 8000000
section
open Go.RowKit
theorem zwh{g:GraphD}:ydc p g c=ymc (yry p g c) c.length:=rfl
theorem state_conN{g:GraphD}(h:CfgOk p g c)(hk:1<=kind/\kind<=4){n:Int}(hn:yce (yaf p g)=(n,0))(k:Nat)(hkn:k<=32768):xjn prog 69 [ygp p g kind,ycj c,i64 k] (xev (ypq p g kind c k)):=by
 have h24:=h.n24;have hl:=h.len;have h6:=h.vars6;have ht:=ydj h.fair h.fit;refine con_ofN tok Tryz.func69 rfl rfl ntmps69 Tryz.results69 rfl (stateA_pure _) ?_;unfold ygp xeg;refine zY ?_;refine ybw (α:=Nat) (fun v=>[(23,i64 v),(22,i64 c.length),(9,yav (ymc (yry p g c) v)),(10,.lp 10 0),(0,.dp [ygw p g,yyu g,i64 kind,yeh (yaf p g),.sl 1 ((yhv p g).map fun r=>[yai r])] 0),(1,ycj c),(2,i64 k)]) (fun v=>[(10,some (.cells ((yvd (yhs p g c) 24 v).map i64)))]) (fun v=>c.length - v) (fun v=>v<=c.length) 0 om zs (yah (yab rfl yag)) ?_;intro v hv;refine zY ?_;refine zj ?_ ?_ <;> intro h1
 .simp at h1;obtain⟨st,hst⟩:=ybk h1;obtain⟨b,hb,hsb⟩:=h.row hst;obtain⟨pl,hpl,hpll,hplq⟩:=yyz ht hn hb;have hsl:=h.rowlen st (qab hst);have hpl6:pl.length=p.vars.length:=by rw[hpll,ykf hb]
  rcases (show xap p ⟨g,c,v⟩ < 0\/0<=xap p ⟨g,c,v⟩ by omega)with hr|hr
  ·(repeat (first|refine zy ?_|refine zc (ywf h h1) ?_))
   refine zj ?_ ?_ <;> intro h2
   .refine zY ?_;have he:yry p g c v=false:=by simp only[yry];exact decide_eq_false om
    have e1:ymc (yry p g c) (v+1)=ymc (yry p g c) v:=by rw[ymc,he,if_neg sm]
    have e2:yvd (yhs p g c) 24 (v+1)=yvd (yhs p g c) 24 v:=arr_skip om (by unfold yhs;rw[he,if_neg sm]);refine yhi (v+1) om om ?_ (yah (yab (by rw[e2];rfl) yag));rw[e1];exact zs
   simp at h2;omega
  obtain⟨i,r,hi,hr'⟩:=zum hr;have he:yry p g c v=true:=by simp only[yry];exact decide_eq_true hr
  obtain⟨m1,m2⟩:=zty h h1;have hrow:xix p (yaf p g) ⟨g,c,v⟩ i=znq p g c v:=by unfold znq;rw[hi];rfl
  obtain⟨mv,hmv⟩:∃ mv,znq p g c v=mv:=⟨_,rfl⟩;rw[hmv]at hrow m1 m2;have hmo:=zqp h h1 hr';rw[hrow]at hmo;have e1:ymc (yry p g c) (v+1)=ymc (yry p g c) v ||| (1#32 <<< v):=by rw[ymc,he,if_pos rfl]
  have b2:=zlm (st:=st) (mv:=mv) (pl:=pl) hsl m1 hpl6 (h.bd st (qab hst)) m2 hplq
  (repeat (first|refine zbxz ?_|refine yxv rfl rfl rfl rfl ?_|refine zN ?_|refine ypg rfl rfl (ywf h h1) rfl rfl (yno 32 (y:=i64 i) rfl (yka hi) ?_)))
  refine ybw (α:=Nat) (fun x=>[(48,i64 x),(47,i64 mv.length),(46,yai mv),(11,i64 v),(9,yav (ymc (yry p g c) v ||| (1#32 <<< v))),(23,i64 v),(22,i64 c.length),(10,.lp 10 0),(0,.dp [ygw p g,yyu g,i64 kind,yeh (yaf p g),.sl 1 ((yhv p g).map fun r=>[yai r])] 0),(1,ycj c),(2,i64 k)]) (fun x=>[(10,some (.cells (((yvd (yhs p g c) 24 v).map i64).set v (i64 (yjy st mv pl x)))))]) (fun x=>mv.length - x) (fun x=>x<=mv.length) 0 om zs ?_ ?_
  .refine yah (yab ?_ yag);show some _=some _;rw[show i64 (yjy st mv pl 0)=i64 0 from rfl,setA_same (by rw[qak,arr_at om];rfl)]
  intro x hx;have b3:=b2 x om;refine zY ?_;refine zj ?_ ?_ <;> intro h3
  .simp at h3;obtain⟨a,ha⟩:=ybk (show x < st.length by omega);obtain⟨m,hm⟩:=ybk h3;obtain⟨q,hq⟩:=ybk (show x < pl.length by omega);have a1:=h.bd st (qab hst) a (qab ha);have m3:=m2 m (qab hm);have q1:=hplq x q hq;have hb:=xdi (a:=m - a) (b:=q) (A:=1000001) (B:=32768) om om q1.1 q1.2 om;have hal:(((yvd (yhs p g c) 24 v).map i64).set v (i64 (yjy st mv pl x))).length=24:=by rw[qfk,qai,yya om]
   have hat:(((yvd (yhs p g c) 24 v).map i64).set v (i64 (yjy st mv pl x)))[0+(v:Int).toNat * 1]?=some (i64 (yjy st mv pl x)):=by
    rw[show (0+(v:Int).toNat * 1)=v by simp,qee (by rw[qai,yya om];omega)]
   (repeat (first|refine zy ?_|refine ydp (r:=i64 (yjy st mv pl x)) tok rfl rfl rfl rfl hat rfl rfl ?_|refine yiz tok rfl rfl (by rw[ybb];rfl) (by intro h0;rw[h0]at hal;simp at hal) rfl om om rfl rfl ?_))
   refine zkq tok rfl rfl rfl rfl rfl ybb (by rw[hal];simp;omega) rfl rfl ?_;refine zY ?_;have hg:yjy st mv pl x+(m - a) * q=yjy st mv pl (x+1):=by simp only[yjy,yyn ha,yyn hm,yyn hq]
   refine yhi (x+1) om om zs (yah (yab ?_ yag));rw[ybb,hg,show (0+(v:Int).toNat * 1)=v by simp,qhk];rfl
  simp at h3;obtain rfl:x=mv.length:=by omega
  have hgv:yhs p g c v=yjy st mv pl mv.length:=by
   unfold yhs;rw[if_pos he,hmv,m1];congr 1
   .rw [qac,hst];rfl
   rw[qac,hpl];rfl
  refine zY ?_;refine yhi (v+1) om om ?_ (yah (yab ?_ yag))
  .rw [e1];exact zs
  rw[ybb,<- hgv,xbs om]
 simp at h1;obtain rfl:v=c.length:=by omega
 rw[<- zwh];have hE:InN g.ports.length (ydc p g c):=fun u hu=>by
  by_cases h32:u < 32
  .rw [zwh,yhm _ _ _ h32,decide_eq_false om];rfl
  exact qcg _ _ om
 have hcho:=choices_con g h24 kind hk (ydc p g c) hE
 (repeat (first|with_reducible refine yeo ?_|with_reducible refine ycy ?_|refine ydu ?_))
 refine zsw 10 ((yvd (yhs p g c) 24 c.length).map i64) rfl rfl (by intro y hy;obtain⟨b,_,rfl⟩:=qag.1 hy;rfl) ?_;refine yqb (t':=[(9,yav (ydc p g c)),(10,.lp 10 0),(0,.dp [ygw p g,yyu g,i64 kind,yeh (yaf p g),.sl 1 ((yhv p g).map fun r=>[yai r])] 0),(1,ycj c),(2,i64 k)]) (h':=[(10,some (.vec ((yvd (yhs p g c) 24 c.length).map i64)))]) ?_ zs (yah (yab rfl yag));unfold ypq;cases hcv:yzw g kind (ydc p g c)with
 | none=>
  rw[hcv]at hcho;refine zZ ?_;refine zr ?_;exact zsz.tup3 .v (fun B ok0 lv w u hi hr=>by cases hr;exact ysn) .v
 | some l=>
  rw[hcv]at hcho;have hll:=zkx hcv
  (repeat (first|refine zz ?_|refine yph tok rfl rfl rfl rfl co rfl rfl rfl rfl rfl ?_))
  obtain⟨F,hF⟩:∃ F,xka p g c k=F:=⟨_,rfl⟩;refine ybw (α:=Nat) (fun i=>[(101,i64 i),(100,i64 l.length),(99,ydh l),(17,.lp 17 0),(10,.lp 10 0),(9,yav (ydc p g c)),(2,i64 k)]) (fun i=>[(17,some (.cells [.ls 98 2 l.length])),(98,some (.vec (yfk (znp F l i)))),(10,some (.vec ((yvd (yhs p g c) 24 c.length).map i64)))]) (fun i=>l.length - i) (fun i=>i<=l.length) 0 om zs (yah (yab rfl (yab ?_ (yab rfl yag)))) ?_
  .show some _=some _;rw[arcK_zero,<- zpk];rfl
  intro i hi;refine zY ?_;refine zj ?_ ?_ <;> intro q1
  .simp at q1;obtain⟨B,hB⟩:=ybk q1;have hal:=arcK_len (F:=F) hi;have hfl:(yfk (znp F l i)).length=2 * l.length:=by rw[zdo,hal]
   have hBsub:=choV_sub hcv B (qab hB)
   (repeat (first|refine zy ?_|refine yat tok rfl rfl rfl rfl om om rfl rfl ?_|refine L_storeV (cs:=ykn (B,(k:Int))) tok rfl rfl rfl rfl rfl rfl (by rw[hfl];simp[ykn];omega) (by intro h0;rw[h0]at hfl;simp at hfl;omega) rfl rfl rfl ?_|refine yxu [(1,901)] (ywm B) rfl rfl rfl rfl rfl rfl rfl yag rfl rfl rfl rfl rfl rfl ?_))
   refine zbh 901 rfl (ysh B) (fun _=>rfl) rfl (ywl B 114) rfl [(17,.lp 17 0),(18,.lp 18 0),(10,.lp 10 0),(101,i64 i),(100,i64 l.length),(99,ydh l),(9,yav (ydc p g c)),(2,i64 k)] zs rfl (fun j=>[(17,some (.cells [.ls 98 2 l.length])),(98,some (.vec (yfk ((znp F l i).set i (B,k+znf (yhs p g c) ((ycb B).take j)))))),(18,some (.cells [i64 i])),(10,some (.vec ((yvd (yhs p g c) 24 c.length).map i64)))]) rfl ?_ rfl ?_ ?_
   .refine yah (yab rfl (yab ?_ (yab rfl (yab rfl yag))));show some _=some _;rw[<- flatA_put om];simp[znf,ykn]
   .intro j el hel;obtain⟨v,hv,rfl⟩:=ysf hel;have hin:=yfo.1 (qab hv);have hvc:v < c.length:=by
     rcases qbh v c.length with h'|h'
     .exact h'
     have:=hBsub v hin.2;rw[hE v om]at this;cases this
    have hgb:=zxc h hn v;have hsb:=xey (M:=240000000000) om (zxc h hn) ((ycb B).take j);have hlj:((ycb B).take j).length<=32:=by rw[qcj];have:=zew B;omega
    obtain⟨Z,hZ⟩:∃ Z,znf (yhs p g c) ((ycb B).take j)=Z:=⟨_,rfl⟩;have hZ1:znf (yhs p g c) ((ycb B).take (j+1))=Z+yhs p g c v:=by rw[sumN_take hv,hZ]
    rw[hZ]at hsb ⊢;have hat0:((znp F l i).set i (B,(k:Int)+Z))[i]?=some (B,(k:Int)+Z):=qee om;have hat1:(yfk ((znp F l i).set i (B,(k:Int)+Z)))[(i:Int).toNat * 2+1]?=some (i64 ((k:Int)+Z)):=by
     rw[show (i:Int).toNat=i by simp];exact zwt hat0
    have hat2:((yvd (yhs p g c) 24 c.length).map i64)[0+(v:Int).toNat * 1]?=some (i64 (yhs p g c v)):=by
     rw[show (0+(v:Int).toNat * 1)=v by simp,qak,arr_get om hvc];rfl
    have hfl2:(yfk ((znp F l i).set i (B,(k:Int)+Z))).length=2 * l.length:=by rw[zdo,qfk,hal]
    have hfl3:yfk ((znp F l i).set i (B,(k:Int)+Z))≠[]:=by intro h0;rw[h0]at hfl2;simp at hfl2;omega
    have hal2:((yvd (yhs p g c) 24 c.length).map i64).length=24:=by rw[qai,yya om]
    refine zY ?_;refine⟨rfl,?_⟩
    (repeat (first|refine zy ?_|refine yat tok rfl rfl rfl rfl om om rfl rfl ?_|refine L_fieldLp tok rfl rfl rfl rfl hfl3 rfl rfl ?_|refine ydp (r:=i64 ((k:Int)+Z)) tok rfl rfl rfl rfl hat1 rfl rfl ?_|refine yiz tok rfl rfl rfl (by intro h0;rw[h0]at hal2;simp at hal2) rfl om om rfl rfl ?_|refine ydp (r:=i64 (yhs p g c v)) tok rfl rfl rfl rfl hat2 rfl rfl ?_))
    refine yom tok rfl rfl rfl rfl rfl rfl (by rw[hfl2];simp;omega) rfl rfl rfl ?_;refine zY ?_;refine xhi zs (yah (yab rfl (yab rfl (yab ?_ (yab rfl (yab rfl yag))))));show some _=some _;have e:=zik (z:=(k:Int)+Z+yhs p g c v) hat0;rw[qhk]at e;rw[hZ1,<- Int.add_assoc,<- e,show (i:Int).toNat=i by simp];rfl
   rw[ysg,qaw];have hnext:(znp F l i).set i (B,(k:Int)+znf (yhs p g c) (ycb B))=znp F l (i+1):=by rw[<- arcK_set hB,<- hF];rfl
   rw[hnext];refine zY ?_;exact yhi (i+1) om om zs (yah (yab rfl (yab rfl (yab rfl yag))))
  simp at q1;obtain rfl:i=l.length:=by omega
  refine zk ?_;rw[arcK_end];refine zsz.tup3 .v (zsz.ls (xs:=yfk (l.map F)) rfl sm (fun row hr=>by obtain⟨y,_,rfl⟩:=qag.1 hr;rfl) ?_ fun row hr x hx=>?_) .v
  .subst hF;rfl
  obtain⟨y,_,rfl⟩:=qag.1 hr;rcases qaq.1 hx with rfl|hx
  .exact ⟨_,rfl⟩
  obtain rfl:=qau.1 hx;exact⟨_,rfl⟩
end
set_option maxHeartbeats 4000000
section
open Go.RowKit
def xii(P:Program)(N:Nat)(o:Oper)(s:SS)(D:List PanicEntry->SS->Prop):Prop:=
 ∀ (B:Bse) (ok0:Nat->Prop) (lv:Live) (a:Act) (w:World),Sim B ok0 N s lv a w->∀ (K:Act->World->Prop) (Q:Exit->Act->World->Prop),(∀ ch a' w',(∃ s' lv',D ch s'/\Sim B ok0 N s' lv' a' w')->Q (.panic ch) a' w')->o.wp P a w K Q
variable{P:Program}{N:Nat}
theorem xii.mono{D D':List PanicEntry->SS->Prop}(h:xii P N o s D)(hD:∀ c s',D c s'->D' c s'):xii P N o s D':=
 fun B ok0 lv a w hs K Q hQ=>h B ok0 lv a w hs K Q fun ch a' w' ⟨s',lv',h1,h2⟩=>hQ ch a' w' ⟨s',lv',hD ch s' h1,h2⟩
variable{t:List (Nat × AV)}{h:List (Nat × Option LObj)}{ty:TypeId}{pos:String}{af:Array Edge}{gd:Option (Nat × Bool)}
end
section
open Go.RowKit
variable{T:Nat->Option Ty}{F:Fence}
abbrev Runs:=Array Value->World->(Ending->World->Prop)->Prop
def xjt(K:Runs)(args:List AV)(hs:Nat->Option LObj)(r:AV)(hs':Nat->Option LObj):Prop:=
 (∀ id o,hs' id=some o->isC o=true->∃ o',hs id=some o'/\isC o'=true)/\∀ (ok0:Nat->Prop) (lv:Live) (w:World) (us:List Value),Inv (yfc w lv) ok0 hs lv w->ybn (yba (yfc w lv) ok0 lv w) w lv args us ->
  K us.toArray w fun e w'=>∃ u lv',e=.returned u/\Rel (yba (yfc w lv) ok0 lv' w') w' lv' r u/\Inv (yfc w lv) ok0 hs' lv' w'/\∀ id o,hs' id=some o->isC o=true->∃ b n n',lv id=some (some b,n)/\lv' id=some (some b,n')
def KD(P:Program)(f:FuncId)(u u':FrameMode):Runs:=fun us w R=>CallsDIn Fence.wide 0 P f us u w fun e u2 w'=>u2=u'/\R e w'
theorem KD.mono{us:Array Value}{R':Ending->World->Prop}(h:∀ e w',R e w'->R' e w')(hk:KD P f u u' us w R):KD P f u u' us w R':=
 CallsDIn.mono hk fun e u2 w' ⟨h1,h2⟩=>⟨h1,h _ _ h2⟩
section
variable{P:Program}{N:Nat}
theorem lendK{K:Runs}(hK:∀ (us:Array Value) (w:World) (R R':Ending->World->Prop),(∀ e w',R e w'->R' e w')->K us w R->K us w R'){args0:List AV}{hm hm':Nat->Option LObj}{σ:Nat->Nat}{ids:List Nat}{s2:SS}{ok0:Nat->Prop}{vs:List Value}(hs:Sim B ok0 N s lv a w)(hvs:ybn (yba B ok0 lv w) w lv (args0.map (yfz σ)) vs)(hc:xjt K args0 hm r hm')(hinj:∀ i∈ids,∀ j∈ids,σ i=σ j->i=j)(hdom:∀ id,(hm id).isSome->id∈ids)(hdom':∀ id,(hm' id).isSome->id∈ids)(hmem:∀ id o,hm id=some o->s.h (σ id)=some (zcg σ o))(hro:∀ id o,hm' id=some o->yoz ids o=true)(ht:∀ x y,s2.t x=some y->(y=.any/\∃ z,s.t x=some z)\/(s.t x=some y/\xij σ ids hm' y))(hh1:∀ i∈ids,s2.h (σ i)=(hm' i).map (zcg σ))(hh2:∀ j ob',(∀ i∈ids,σ i≠j)->s2.h j=some ob'->(∀ i∈ids,yew (σ i) ob'=false)/\∃ ob,s.h j=some ob/\ymh ob ob'):K vs.toArray w fun e w'=>∃ u lv2,e=.returned u/\Sim B ok0 N s2 lv2 a w':=by
 let lv1:Live:=fun id=>if id∈ids/\(hm id).isSome then lv (σ id)else none
 have hl1:∀ id b n,lv1 id=some (b,n)->id∈ids/\(hm id).isSome/\lv (σ id)=some (b,n):=by
  intro id b n hb;simp only[lv1]at hb;split at hb
  .rename_i h;exact⟨h.1,h.2,hb⟩
  cases hb
 have hl2:∀ id b n,lv1 id=some (b,n)->lv (σ id)=some (b,n):=fun id b n h=>(hl1 id b n h).2.2;have hmine:∀ b,yby lv1 b->B.mine b/\b < w.heap.size/\∃ i∈ids,∃ n,lv (σ i)=some (some b,n):=by
  rintro b ⟨id,n,hb⟩;obtain⟨h1,h2,h3⟩:=hl1 id _ n hb;obtain⟨_,_,h4,h5,_⟩:=hs.inv.lvat h3;exact⟨h4,h5,id,h1,n,h3⟩
 have hok1:∀ g,yba B ok0 lv w g->yba (yfc w lv1) (yba B ok0 lv w) lv1 w g:=fun g hg=>⟨.inl hg,hg.2.1,fun id b n hb=>hg.2.2 (σ id) b n (hl2 id _ n hb)⟩;have hinv:Inv (yfc w lv1) (yba B ok0 lv w) hm lv1 w:=by
  refine⟨⟨rfl,rfl,rfl,qbf _,fun _ _ _=>rfl,hs.inv.base.glob,hs.inv.base.glob.size,fun k hk=>hs.inv.base.mineG (hmine k hk).1,fun l h=>by cases h⟩,fun g hg=>hg.2.1,fun id hid=>by simp[lv1,hid],fun i j b n m h1 h2=>?_,fun id x hx=>?_⟩
  .obtain ⟨q1,_,q2⟩:=hl1 _ _ _ h1;obtain⟨r1,_,r2⟩:=hl1 _ _ _ h2;exact hinj i q1 j r1 (hs.inv.inj _ _ b n m q2 r2)
  obtain⟨b,n,h1,h2⟩:=hs.inv.obj (σ id) _ (hmem id x hx);have hlv:lv1 id=some (b,n):=by simp[lv1,hdom id (by simp[hx]),hx,h1]
  refine⟨b,n,hlv,?_⟩;cases b with
  | none=>exact zyk h2
  | some b=>exact⟨.inl ⟨id,n,hlv⟩,h2.2.1,yho.unren hl2 hok1 h2.2.2⟩
 have hall:ybn (yba (yfc w lv1) (yba B ok0 lv w) lv1 w) w lv1 args0 vs:=by
  refine⟨by rw[hvs.1,qai],fun i x u hx hu=>?_⟩;have hrel:Rel (yba B ok0 lv w) w lv (yfz σ x) u:=hvs.2 i _ u (by simp[hx]) hu;exact(Rel.unren hl2 hrel).keep fun g hg=>⟨hok1 g hg,rfl⟩
 refine hK _ _ _ _ (fun e w' ⟨u,lv3,he,hu,hi3,hpin⟩=>?_) (hc.2 (yba B ok0 lv w) lv1 w vs hinv hall);have hb3:=hi3.base
 -- the blocks that are not lent stay
 have hstay:∀ k,k < w.heap.size->(∀ i∈ids,∀ n,lv (σ i)≠some (some k,n))->w'.heap[k]?=w.heap[k]?:=by
  intro k hk hn;exact hb3.block k hk fun hlent=>by
   obtain⟨_,_,i,hi,n,hn'⟩:=hmine k hlent;exact hn i hi n hn'
 have hsz:w.heap.size<=w'.heap.size:=hb3.size;have hmine3:∀ id b n,lv3 id=some (some b,n)->B.mine b/\b < w'.heap.size/\(w.heap.size<=b\/∃ i∈ids,∃ n,lv (σ i)=some (some b,n)):=by
  intro id b n hb;obtain⟨_,_,q1,q2,_⟩:=hi3.lvat hb;rcases q1 with q1|q1
  .have:=hmine b q1;exact⟨this.1,q2,.inr this.2.2⟩
  exact⟨.inr (qbp hs.inv.base.size q1),q2,.inl q1⟩
 have hid3:∀ id b n,lv3 id=some (b,n)->id∈ids:=fun id b n hb=>by
  cases hq:hm' id with
  | none=>rw[hi3.dom id hq]at hb;cases hb
  | some o=>exact hdom' id (by simp[hq])
 let find:Nat->Option Nat:=fun j=>ids.find? fun i=>σ i == j
 have hf1:∀ j i,find j=some i->i∈ids/\σ i=j:=fun j i h=>⟨qeg h,by simpa using List.find?_some h⟩;have hf2:∀ i∈ids,find (σ i)=some i:=fun i hi=>by
  cases hq:find (σ i)with
  | none=>
   have:=qes.1 hq i hi;simp at this
  | some k=>obtain⟨h1,h2⟩:=hf1 _ _ hq;rw[hinj k h1 i hi h2]
 have hf3:∀ j,find j=none->∀ i∈ids,σ i≠j:=fun j h i hi e=>by
  have:=qes.1 h i hi;simp[e]at this
 let lv2:Live:=fun j=>match find j with
  | some i=>lv3 i
  | none=>if (s2.h j).isSome then lv j else none
 have hlv2a:∀ i∈ids,lv2 (σ i)=lv3 i:=fun i hi=>by simp only[lv2,hf2 i hi]
 have hlv2b:∀ j,(∀ i∈ids,σ i≠j)->∀ b n,lv2 j=some (b,n)->lv j=some (b,n)/\(s2.h j).isSome:=by
  intro j hj b n hb;have hn:find j=none:=by
   cases hq:find j with
   | none=>rfl
   | some i=>obtain⟨h1,h2⟩:=hf1 _ _ hq;exact absurd h2 (hj i h1)
  simp only[lv2,hn]at hb;split at hb
  .rename_i h;exact⟨hb,h⟩
  cases hb
 have hcase:∀ j,(∃ i∈ids,σ i=j)\/∀ i∈ids,σ i≠j:=fun j=>by
  cases hq:find j with
  | none=>exact .inr (hf3 j hq)
  | some i=>obtain⟨h1,h2⟩:=hf1 _ _ hq;exact .inl ⟨i,h1,h2⟩
 have hok2:∀ g,yba B ok0 lv w g->yba B ok0 lv2 w' g/\w'.heap[g]?=w.heap[g]?:=by
  intro g hg;refine⟨⟨hg.1,qbg hg.2.1 hsz,fun j b n hb=>?_⟩,hstay g hg.2.1 fun i _ n hn=>hg.2.2 _ _ n hn rfl⟩;rcases hcase j with⟨i,hi,rfl⟩|hj
  .rw [hlv2a i hi]at hb;rcases (hmine3 i b n hb).2.2 with h|⟨i',_,n',h⟩
   .have:=hg.2.1;omega
   exact hg.2.2 _ _ n' h
  exact hg.2.2 j b n (hlv2b j hj _ n hb).1
 have hok3:∀ g,yba (yfc w lv1) (yba B ok0 lv w) lv3 w' g->yba B ok0 lv2 w' g:=by
  intro g hg;refine⟨?_,hg.2.1,fun j b n hb=>?_⟩
  .rcases hg.1 with h|h|h
   .exact h.1
   .exact .inr (hmine g h).1
   exact .inr (.inr (qbp hs.inv.base.size h))
  rcases hcase j with⟨i,hi,rfl⟩|hj
  .rw [hlv2a i hi]at hb;exact hg.2.2 i b n hb
  obtain⟨hb',_⟩:=hlv2b j hj _ n hb;have hlt:=hs.inv.lvlt hb';rintro rfl;rcases hg.1 with h|h|h
  .exact h.2.2 j b n hb' rfl
  .obtain ⟨_,_,i,hi,n',hn'⟩:=hmine b h;exact hj i hi (hs.inv.inj _ _ b n' n hn' hb')
  simp only[yfc]at h;omega
 have hren:∀ id b n,id∈ids->lv2 (σ id)=some (b,n)->lv3 id=some (b,n):=fun id b n hi hb=>by rwa [hlv2a id hi]at hb
 have hframe:∀ (y:AV) (z:Value),(∀ i∈ids,ment (σ i) y=false)->Rel (yba B ok0 lv w) w lv y z->Rel (yba B ok0 lv2 w') w' lv2 y z:=by
  intro y z hy hz;refine(hz.relive fun j b n hb hm=>?_).keep hok2;rcases hcase j with⟨i,hi,rfl⟩|hj
  .rw [hy i hi]at hm;cases hm
  exact(hlv2b j hj b n hb).1
 refine⟨u,lv2,he,⟨⟨?_,hs.inv.ok0lt,fun j hj=>?_,fun i j b n m h1 h2=>?_,fun j x hx=>?_⟩,hs.size,fun x y hy=>?_,hs.defers.same (fun g hg=>(hstay g (qaz.1 hg).1 fun i hi n hn=>(hs.inv.lvat hn).choose_spec.2.2.2.notDef hg).trans hg),hs.big,fun j b ws hN hj hcj hb=>?_⟩⟩
 .-- base
  refine⟨hb3.os.trans hs.inv.base.os,hb3.tape.trans hs.inv.base.tape,hb3.output.trans hs.inv.base.output,qbp hs.inv.base.size hsz,fun k hk hnl=>?_,hb3.glob,hs.inv.base.gsize,hs.inv.base.lentG,hs.inv.base.rdok⟩;refine(hstay k (qbg hk hs.inv.base.size) fun i hi n hn=>?_).trans (hs.inv.base.block k hk hnl);obtain⟨_,_,q1,_,_⟩:=hs.inv.lvat hn;rcases q1 with q1|q1
  .exact hnl q1
  omega
 .-- dom
  rcases hcase j with⟨i,hi,rfl⟩|hj'
  .rw [hlv2a i hi];refine hi3.dom i ?_;rw[hh1 i hi]at hj;cases hq:hm' i with
   | none=>rfl
   | some o=>simp[hq]at hj
  cases hq:lv2 j with
  | none=>rfl
  | some q=>obtain⟨q1,q2⟩:=q;have:=(hlv2b j hj' q1 q2 hq).2;simp[hj]at this
 .-- inj
  rcases hcase i with⟨i',hi,rfl⟩|hi <;> rcases hcase j with⟨j',hj,rfl⟩|hj
  .rw [hlv2a i' hi]at h1;rw[hlv2a j' hj]at h2;rw[hi3.inj i' j' b n m h1 h2]
  .rw [hlv2a i' hi]at h1;have h2':=(hlv2b j hj _ m h2).1;have:=hs.inv.lvlt h2';rcases (hmine3 i' b n h1).2.2 with h|⟨k,hk,n',h⟩
   .omega
   exact absurd (hs.inv.inj _ _ b n' m h h2') (hj k hk)
  .rw [hlv2a j' hj]at h2;have h1':=(hlv2b i hi _ n h1).1;have:=hs.inv.lvlt h1';rcases (hmine3 j' b m h2).2.2 with h|⟨k,hk,n',h⟩
   .omega
   exact absurd (hs.inv.inj _ _ b n' n h h1') (hi k hk)
  exact hs.inv.inj i j b n m (hlv2b i hi _ n h1).1 (hlv2b j hj _ m h2).1
 .-- objects
  rcases hcase j with⟨i,hi,rfl⟩|hj
  .rw [hh1 i hi]at hx;cases hq:hm' i with
   | none=>simp[hq]at hx
   | some ob=>
    simp only[hq,qav,Option.some.injEq]at hx;subst hx;obtain⟨b,n,q1,q2⟩:=hi3.obj i ob hq;refine⟨b,n,by rw[hlv2a i hi];exact q1,?_⟩;cases b with
    | none=>
     simp only[yge]at q2 ⊢;rcases q2 with rfl|⟨e,rfl⟩
     .exact .inl rfl
     exact .inr ⟨e,rfl⟩
    | some b=>
     exact⟨(hmine3 i b n q1).1,q2.2.1,yho.ren hren (hro i ob hq) hok3 q2.2.2⟩
  obtain⟨hm1,ob,hob,hfo⟩:=hh2 j x hj hx;obtain⟨b,n,q1,q2⟩:=hs.inv.obj j ob hob;have hlv2:lv2 j=some (b,n):=by
   have hn:find j=none:=by
    cases hq:find j with
    | none=>rfl
    | some i=>obtain⟨h1,h2⟩:=hf1 _ _ hq;exact absurd h2 (hj i h1)
   simp[lv2,hn,hx,q1]
  refine⟨b,n,hlv2,?_⟩;cases b with
  | none=>
   simp only[yge]at q2 ⊢;rcases hfo with rfl|⟨_,_,rfl,_⟩|⟨_,_,_,rfl,_⟩
   .exact q2
   .simp at q2
   simp at q2
  | some b=>
   obtain⟨q3,q4,q5⟩:=q2;have hbk:w'.heap[b]?=w.heap[b]?:=hstay b q4 fun i hi n' hn'=>hj i hi (hs.inv.inj _ _ b n' n hn' q1);refine⟨q3,qbg q4 hsz,?_⟩;rcases hfo with rfl|⟨zs,ys,rfl,rfl,hyl,hyz⟩|⟨te,zs,ys,rfl,rfl,hyl,hyz⟩
   .refine (q5.relive (lv':=lv2) fun k b' n' hb' hmk=>?_).keep hok2 hbk;rcases hcase k with⟨i,hi,rfl⟩|hk
    .rw [hm1 i hi]at hmk;cases hmk
    exact(hlv2b k hk b' n' hb').1
   .obtain ⟨c,e,g1,g2,g3,g4,g5⟩:=q5;refine⟨c,e,by rw[hbk];exact g1,g2,om,fun y hy=>?_,fun k y z hy hz=>?_⟩
    .obtain ⟨k,hk⟩:=qao hy;obtain⟨x,hx⟩:∃ x,zs[k]?=some x:=⟨_,qae (by have:=(qaa.1 hk).1;omega)⟩;rcases hyz k x y hx hk with rfl|rfl
     .exact g4 _ (qab hx)
     rfl
    obtain⟨x,hx⟩:∃ x,zs[k]?=some x:=⟨_,qae (by have:=(qaa.1 hy).1;omega)⟩;rcases hyz k x y hx hy with rfl|rfl
    .refine hframe _ z (fun i hi=>?_) (g5 k _ z hx hz);exact ygj hy (hm1 i hi)
    exact .one _ ((g5 k x z hx hz).oneCell (g4 x (qab hx)))
   obtain⟨⟨c,e,g1,g2,g3,g4,g5⟩,hsh⟩:=q5;refine⟨⟨c,e,by rw[hbk];exact g1,g2,om,fun y hy=>?_,fun k y z hy hz=>?_⟩,by rw[hyl];exact(yjr hbk).trans hsh⟩
   .obtain ⟨k,hk⟩:=qao hy;obtain⟨x,hx⟩:∃ x,zs[k]?=some x:=⟨_,qae (by have:=(qaa.1 hk).1;omega)⟩;rcases hyz k x y hx hk with rfl|rfl
    .exact g4 _ (qab hx)
    rfl
   obtain⟨x,hx⟩:∃ x,zs[k]?=some x:=⟨_,qae (by have:=(qaa.1 hy).1;omega)⟩;rcases hyz k x y hx hy with rfl|rfl
   .refine hframe _ z (fun i hi=>?_) (g5 k _ z hx hz);exact ygj hy (hm1 i hi)
   exact .one _ ((g5 k x z hx hz).oneCell (g4 x (qab hx)))
 .-- frame
  rcases ht x y hy with⟨rfl,z,hz⟩|⟨hz,hk⟩
  .exact ⟨(hs.frame x z hz).1,.any _⟩
  refine⟨(hs.frame x y hz).1,?_⟩;have hold:=(hs.frame x y hz).2;rcases hk with hk|⟨i,hi,off,o',hye,hci,hcc⟩
  .exact hframe y _ hk hold
  have hlp:∀ z:Value,Rel (yba B ok0 lv w) w lv (.lp (σ i) off) z->Rel (yba B ok0 lv2 w') w' lv2 (.lp (σ i) off) z:=fun z hz=>by
   cases hz with
   | lp _ h1 h2=>
    refine .lp _ h1 fun b n hb=>?_;rw[hlv2a i hi]at hb;obtain⟨b',n',n'',p1,p2⟩:=hpin i o' hci hcc;rw[hb]at p2;cases p2;exact h2 b n' (hl2 i _ n' p1)
  rcases hye with rfl|⟨f',rfl⟩
  .exact hlp _ hold
  generalize ydx B a x=z at hold;cases hold with
  | fm vs hvl hvr=>
   refine .fm vs hvl fun k c u h1 h2=>?_;have h3:=hvr k c u h1 h2
   match k,h1 with
   | 0,h1=>
    simp only[qas,Option.some.injEq]at h1;subst h1;exact hlp _ h3
   | k+1,h1=>simp at h1
 -- pins
 rcases hcase j with⟨i,hi,rfl⟩|hj'
 .rw [hh1 i hi]at hj;cases hq:hm' i with
  | none=>simp[hq]at hj
  | some ob=>
   simp only[hq,qav,Option.some.injEq]at hj;subst hj;rw[zci]at hcj;obtain⟨b',n',n'',p1,p2⟩:=hpin i ob hq hcj;obtain⟨zs,hz,hzc⟩:=hc.1 i ob hq hcj;obtain⟨n,hn⟩:=hs.pin (σ i) b _ hN (hmem i _ hz) (by rw[zci];exact hzc) hb;rw[hl2 i _ n' p1]at hn;cases hn;exact⟨n'',by rw[hlv2a i hi];exact p2⟩
 obtain⟨_,ob,hys,hfo⟩:=hh2 j _ hj' hj;have hcc:isC ob=true:=by
  rcases hfo with rfl|⟨xs',ys',rfl,_,_⟩|⟨e,xs',ys',rfl,_,_⟩
  .exact hcj
  .rfl
  rfl
 obtain⟨n,hn⟩:=hs.pin j b ob hN hys hcc hb;obtain⟨b2,n2,q1,_⟩:=hs.inv.obj j _ hys;rw[hn]at q1;cases q1;have hn':find j=none:=by
  cases hq:find j with
  | none=>rfl
  | some i=>obtain⟨h1,h2⟩:=hf1 _ _ hq;exact absurd h2 (hj' i h1)
 exact⟨n,by simp[lv2,hn',hj,hn]⟩
end
def yxw(P:Program)(R:World->Prop):List Deferred->World->Prop
 | [],w=>R w
 | d::ds,w=>∃ r w',d.target=.collected r/\(Instr.takeDeferred r).run P w=.ok [] w'/\yxw P R ds w'
theorem yuo{R:World->Prop}:∀ (ds:List Deferred) (w:World) (fr:Frame) (cs:List Frame),fr.mode=.returning->fr.defers=ds->F.fn fr.fn->F.room (cs.length+1+n)->yxw P R ds w ->
  ∃ w',R w'/\StepsIn (Machine.fenced P F) P (lone fr cs w) (lone { fr with defers:=[] } cs w')
 | [],w,fr,cs,hm,hd,hF,hr,h=>⟨w,h,by rw[<- hd];exact StepsIn.refl _⟩
 | d::ds,w,fr,cs,hm,hd,hF,hr,⟨r,w1,h1,h2,h3⟩=>by
  have hs:=step_collected (cs:=cs) (by rw[hm];simp) hd h1 h2;have i1:(lone fr cs w).fenced P F:=fenced_out hF hr (by rw[hm];simp) hd (fun g hg=>by rw[h1]at hg;simp[Target.leads]at hg);obtain⟨w2,g1,g2⟩:=yuo ds w1 { fr with defers:=[]++ds } cs hm rfl hF hr h3;exact⟨w2,g1,.head i1 hs g2⟩
theorem zlz{Rw:World->Prop}{tm:Array Value}(hB:B.dl=[])(fin:∀ (a:Act) (w:World),a.tmps=tm->Sim B ok0 N s lv a w->Rw w):∀ (ms:List Deferred) (a:Act) (w:World),a.tmps=tm->a.defers=ms->Sim B ok0 N s lv a w->yxw P Rw ms w
 | [],a,w,ht,hm,hs=>fin a w ht hs
 | d::ms,a,w,ht,hm,hs=>by
  obtain⟨ms',h1,hn,h2⟩:=hs.defers;rw[hB,qba,hm]at h1;subst h1;obtain⟨D,hd,hD,hge⟩:=h2 d sm;refine⟨D,_,by rw[hd],run_takeDeferred hD,?_⟩;simp only[qcq]at hn;have hsh:=Shut.put hD;have hs':=hs.shut hsh (fun k hk=>World.putObj_heap_other om) (l:=ms) ⟨ms,by rw[hB,qba],hn.2,fun d' hd'=>by
   obtain⟨D',e1,e2,e3⟩:=h2 d' (by simp[hd'])
   refine⟨D',e1,(World.putObj_heap_other fun e=>?_).trans e2,e3⟩
   subst e
   exact hn.1 (by rw[hd,<- e1];exact hd')⟩
  exact zlz hB fin ms { a with defers:=ms } _ ht rfl hs'
def bM(w:World)(lv:Live):Bse:=⟨w,yby lv,fun id=>(lv id).bind (·.1),none,[],fun _=>undef⟩
theorem xgu{args:List AV}{hs:Nat->Option LObj}{us:List Value}(hN:n=N)(hlen:(Nat.ble args.length N && Nat.ble N 1000000)=true)(hi:Inv (yfc w lv) ok0 hs lv w)(hus:ybn (yba (yfc w lv) ok0 lv w) w lv args us):
  Sim (bM w lv) ok0 N ⟨yak (yfj 0 args),hs⟩ lv { tmps:=us.toArray++Array.replicate (n - us.toArray.size) undef,defers:=[] } w:=by
 simp only[qad,qdr]at hlen;obtain⟨hlen',hbig⟩:=hlen;refine⟨hi.pinned _ _ _ _ (fun l h=>by cases h),?_,fun x y hy=>?_,⟨[],rfl,qdu,fun d hd=>by cases hd⟩,hbig,fun id b o hN hx hc hb=>?_⟩
 .simp [hN,hus.1];omega
 .simp only[ylb]at hy;have hlt:=(qaa.1 hy).1;refine⟨.inl om,?_⟩;rw[ydx,if_pos om];obtain⟨u,hu⟩:∃ u,us[x]?=some u:=⟨_,qae (by rw[hus.1];exact hlt)⟩;simp only[yfm us _ x u hu];exact hus.2 x y u hy hu
 simp only[bM]at hb;cases hl:lv id with
 | none=>simp[hl]at hb
 | some q=>obtain⟨q1,q2⟩:=q;simp[hl]at hb;subst hb;exact⟨q2,rfl⟩
theorem xkk(hT:TOK P T){hs:Nat->Option LObj}{lv':Live}{w':World}{s':SS}{a':Act}(hrs:fn.results=rs.toArray)(hcl:∀ id o,hs' id=some o->isC o=true->N<=id/\∃ o',hs id=some o'/\isC o'=true)(hi:Inv (yfc w lv) ok0 hs lv w)(hs2:Sim (bM w lv) ok0 N s' lv' a' w')(hx:yrf T s' rs=some x)(hwk:Wk x r)(hsub:∀ id o,hs' id=some o->s'.h id=some o):
  ∃ v,(results fn a'.tmps).run P w'=.ok v w'/\∃ u lv2,Ending.returned v=.returned u/\Rel (yba (yfc w lv) ok0 lv2 w') w' lv2 r u/\Inv (yfc w lv) ok0 hs' lv2 w'/\∀ id o,hs' id=some o->isC o=true->∃ b n n',lv id=some (some b,n)/\lv2 id=some (some b,n'):=by
 obtain⟨u,hu,hrun⟩:=yrg (P:=P) hT hs2 hrs hx;obtain⟨lv2,i1,i2,i3⟩:=hs2.inv.weak hsub;refine⟨u,hrun,u,lv2,rfl,hwk.rel _ _ _ _ ((hu.relive fun id b n hb _=>i2 id b n hb).keep fun g hg=>⟨i3 g hg,rfl⟩),i1.pinned _ _ _ _ (fun l h=>by cases h),fun id o hx hc=>?_⟩;obtain⟨h1,o',hy,hc'⟩:=hcl id o hx hc;obtain⟨b,n,hb,ho⟩:=hi.obj id _ hy;cases b with
 | none=>simp only[yge]at ho;rcases ho with rfl|⟨e,rfl⟩ <;> cases hc'
 | some b=>
  obtain⟨n',hn'⟩:=hs2.pin id b o h1 (hsub id _ hx) hc (by simp[bM,hb]);obtain⟨b2,n2,hb2,_⟩:=i1.obj id _ hx;have:=i2 id b2 n2 hb2;rw[hn']at this;cases this;exact⟨b,n,_,hb,hb2⟩
def bD(B:Bse)(lv:Live)(w:World)(dl:List Deferred)(gv:Nat->Value):Bse:=⟨w,yby lv,B.pin,none,dl,gv⟩
theorem Sim.rebase(hs:Sim B ok0 N s lv a w)(hlow:∀ x,1000000<=x->s.t x=none)(gv:Nat->Value):Sim (bD B lv w a.defers gv) (yba B ok0 lv w) N s lv a w:=by
 have hm:∀ b,yby lv b->B.mine b/\b < w.heap.size:=by
  rintro b ⟨id,n,hb⟩;obtain⟨_,_,h4,h5,_⟩:=hs.inv.lvat hb;exact⟨h4,h5⟩
 have hok:∀ g,yba B ok0 lv w g->yba (bD B lv w a.defers gv) (yba B ok0 lv w) lv w g:=fun g hg=>⟨.inl hg,hg.2.1,hg.2.2⟩;refine⟨⟨⟨rfl,rfl,rfl,qbf _,fun _ _ _=>rfl,hs.inv.base.glob,hs.inv.base.glob.size,fun k hk=>hs.inv.base.mineG (hm k hk).1,fun l h=>by cases h⟩,fun g hg=>hg.2.1,hs.inv.dom,hs.inv.inj,fun id x hx=>?_⟩,hs.size,fun x y hy=>?_,⟨[],rfl,qdu,fun d hd=>by cases hd⟩,hs.big,hs.pin⟩
 .obtain ⟨b,n,h1,h2⟩:=hs.inv.obj id x hx;refine⟨b,n,h1,?_⟩;cases b with
  | none=>exact h2
  | some b=>exact⟨.inl ⟨id,n,h1⟩,h2.2.1,h2.2.2.keep (fun g hg=>⟨hok g hg,rfl⟩) rfl⟩
 obtain⟨h1,h2⟩:=hs.frame x y hy;refine⟨h1,?_⟩;have hlt:x < 1000000:=by
  rcases qbh x 1000000 with h|h
  .exact h
  rw[hlow x h]at hy;cases hy
 have e:ydx (bD B lv w a.defers gv) a x=ydx B a x:=by simp[ydx,hlt]
 rw[e];exact h2.keep fun g hg=>⟨hok g hg,rfl⟩
theorem Sim.unbase{s':SS}{lv':Live}{a':Act}{w':World}{dl ds:List Deferred}{gv:Nat->Value}(hs:Sim B ok0 N s lv a w)(hrd:B.rd=none)(hs':Sim (bD B lv w dl gv) (yba B ok0 lv w) N s' lv' a' w')(hds:zgu B w' ds)(hlow:∀ x,1000000<=x->s'.t x=none):Sim B ok0 N s' lv' { a' with defers:=ds } w':=by
 have hm:∀ b,yby lv b->B.mine b:=by
  rintro b ⟨id,n,hb⟩;obtain⟨_,_,h4,h5,_⟩:=hs.inv.lvat hb;exact h4
 have hmine:∀ g,(bD B lv w dl gv).mine g->B.mine g:=by
  rintro g (h|h)
  .exact hm g h
  exact .inr (qbp hs.inv.base.size h)
 have hok:∀ g,yba (bD B lv w dl gv) (yba B ok0 lv w) lv' w' g->yba B ok0 lv' w' g:=fun g hg=>⟨by
  rcases hg.1 with h|h
  .exact h.1
  exact .inr (hmine g h),hg.2.1,hg.2.2⟩
 have hb:=hs'.inv.base;have hw:=hs.inv.base;refine⟨⟨⟨hb.os.trans hw.os,hb.tape.trans hw.tape,hb.output.trans hw.output,qbp hw.size hb.size,fun k hk hnl=>?_,hb.glob,hw.gsize,hw.lentG,fun l h=>by rw[hrd]at h;cases h⟩,hs.inv.ok0lt,hs'.inv.dom,hs'.inv.inj,fun id x hx=>?_⟩,hs'.size,fun x y hy=>?_,hds,hs'.big,hs'.pin⟩
 .refine (hb.block k (qbg hk hw.size) fun h=>?_).trans (hw.block k hk hnl);rcases hm k h with h|h
  .exact hnl h
  omega
 .obtain ⟨b,n,h1,h2⟩:=hs'.inv.obj id x hx;refine⟨b,n,h1,?_⟩;cases b with
  | none=>exact h2
  | some b=>exact⟨hmine b h2.1,h2.2.1,h2.2.2.keep (fun g hg=>⟨hok g hg,rfl⟩) rfl⟩
 obtain⟨h1,h2⟩:=hs'.frame x y hy;refine⟨h1,?_⟩;have hlt:x < 1000000:=by
  rcases qbh x 1000000 with h|h
  .exact h
  rw[hlow x h]at hy;cases hy
 have e:ydx (bD B lv w dl gv) a' x=ydx B { a' with defers:=ds } x:=by simp[ydx,hlt]
 rw[e]at h2;exact h2.keep fun g hg=>⟨hok g hg,rfl⟩
theorem yvx(hu:u≠.run){tm:Array Value}(fin:∀ (a:Act) (w:World),a.tmps=tm->Sim B ok0 N s lv a w->LeavesInM Fence.wide n P fn tm R B.dl u w):∀ (ms:List Deferred) (a:Act) (w:World),a.tmps=tm->a.defers=ms++B.dl->ms.Nodup ->
   (∀ d∈ms,∃ D,d={ target:=.collected D,args:=#[] }/\w.heap[D]?=some (.deferred (some []))/\B.w.heap.size<=D)->Sim B ok0 N s lv a w->LeavesInM Fence.wide n P fn tm R (ms++B.dl) u w
 | [],a,w,ht,hd,hn,h2,hs=>fin a w ht hs
 | d::ms,a,w,ht,hd,hn,h2,hs=>by
  obtain⟨D,hdd,hD,hge⟩:=h2 d sm;refine⟨hu,.inl ⟨D,_,by rw[hdd],run_takeDeferred hD,?_⟩⟩;simp only[qcq]at hn;have hsh:=Shut.put hD;have hrest:∀ d'∈ms,∃ D',d'={ target:=.collected D',args:=#[] }/\(w.putObj D (.deferred none)).heap[D']?=some (.deferred (some []))/\B.w.heap.size<=D':=fun d' hd'=>by
   obtain⟨D',e1,e2,e3⟩:=h2 d' (by simp[hd']);refine⟨D',e1,(World.putObj_heap_other fun e=>?_).trans e2,e3⟩;subst e;exact hn.1 (by rw[hdd,<- e1];exact hd')
  have hs':=hs.shut hsh (fun k hk=>World.putObj_heap_other om) (l:=ms++B.dl) ⟨ms,rfl,hn.2,hrest⟩;exact yvx hu fin ms { a with defers:=ms++B.dl } _ ht rfl hn.2 hrest hs'
def xjy(P:Program)(N:Nat)(B:Bse)(ok0:Nat->Prop)(Q:Option (FuncId × Nat)->Exit->SS->Prop)(e:Exit)(a':Act)(w':World):Prop:=
 (∃ s' lv',Q none e s'/\Sim B ok0 N s' lv' a' w') \/
 ∃ (g:FuncId) (vs:List Value) (d:Deferred) (s0:SS) (lv0:Live) (a0:Act) (w0:World) (s':SS) (lv':Live),Sim B ok0 N s0 lv0 a0 w0/\(∃ fv cap,d.target=.fn fv cap/\∀ w,(invoke (.fn fv cap) d.args).run P w=.ok (.enter g vs.toArray) w) /\
  Q (some (g,vs.length)) e s'/\Sim (bD B lv0 w0 (d::a0.defers) (fun x=>vs.getD (x - 1000000) undef)) (yba B ok0 lv0 w0) N s' lv' a' w'
def AF(P:Program)(N:Nat)(c:Code)(Q:Option (FuncId × Nat)->Exit->SS->Prop)(s:SS):Prop:=
 ∀ (B:Bse) (ok0:Nat->Prop) (lv:Live) (a:Act) (w:World),B.rd=none->B.dl=[]->Sim B ok0 N s lv a w->c.wpIn Fence.wide 0 P (xjy P N B ok0 Q) a w
section
variable{P:Program}{N:Nat}{Q:Option (FuncId × Nat)->Exit->SS->Prop}{s:SS}
theorem xbc{c:Code}(h:A P N c (Q none) s):AF P N c Q s:=fun B ok0 lv a w hrd hdl hs=>by
 have:=h B ok0 lv a w hs;rw[hrd]at this;exact wpIn_mono this fun e a' w' ⟨s',lv',h1,h2⟩=>.inl ⟨s',lv',h1,h2⟩
def ThenF(P:Program)(N:Nat)(y:Code)(Q:Option (FuncId × Nat)->Exit->SS->Prop):Option (FuncId × Nat)->Exit->SS->Prop
 | none,.normal,s=>AF P N y Q s
 | some D,.normal,s=>A P N y (Q (some D)) s
 | D,e,s=>Q D e s
theorem zuy{x y:Code}(h:AF P N x (ThenF P N y Q) s):AF P N (.seq x y) Q s:=by
 intro B ok0 lv a w hrd hdl hs;refine wpIn_seq (wpIn_mono (h B ok0 lv a w hrd hdl hs) fun e a' w' hp=>?_);rcases hp with⟨s',lv',h1,h2⟩|⟨g,vs,d,s0,lv0,a0,w0,s',lv',p1,p2,p3,p4⟩
 .cases e with
  | normal=>exact h1 B ok0 lv' a' w' hrd hdl h2
  | _=>exact .inl ⟨s',lv',h1,h2⟩
 cases e with
 | normal=>exact wpIn_mono (p3 _ _ lv' a' w' p4) fun e a2 w2 ⟨s2,lv2,q1,q2⟩=>.inr ⟨g,vs,d,s0,lv0,a0,w0,s2,lv2,p1,p2,q1,q2⟩
 | _=>exact .inr ⟨g,vs,d,s0,lv0,a0,w0,s',lv',p1,p2,p3,p4⟩
theorem zeh{ops:Array Oper}{Q:SS->Prop}{ok0:Nat->Prop}{Q':Exit->Act->World->Prop}{n:Nat}{rest:List Nat}(hQ:∀ s lv a w,Q s->Sim B ok0 N s lv a w->wpOpsIn (FW B.rd) n P ops Q' rest a w){l:List Oper}{s:SS}(h:Lex P N ops lf Q l s):yht l=true->∀ (k:Nat),(∀ (j:Nat) (o:Oper),l[j]?=some o->ops[k+j]?=some o)->∀ (lv:Live) (a:Act) (w:World),Sim B ok0 N s lv a w->wpOpsIn (FW B.rd) n P ops Q' (List.range' k l.length++rest) a w:=by
 induction h with
 | nil h=>intro hnd k hl lv a w hs;exact hQ _ lv a w h hs
 | @calm o l s r hw hd hy k ih=>
  intro hnd k hl lv a w hs;simp only[yht,qfg,qad,qbn]at hnd;have h0:ops[k]?=some o:=by simpa using hl 0 o rfl
  simp only[qaj,qek,qbb,wpOpsIn,h0,hs.wanted hw,if_true];exact ypa hnd.1 (znn hs hd hy Q' fun a' w' hs'=>ih hnd.2 (k+1) (fun j o' ho'=>by have:=hl (j+1) o' (by simpa using ho');rwa [show k+(j+1)=k+1+j by omega]at this) lv a' w' hs')
 | @skip o l s hw hd k ih=>
  intro hnd k hl lv a w hs;simp only[yht,qfg,qad,qbn]at hnd;have h0:ops[k]?=some o:=by simpa using hl 0 o rfl
  simp only[qaj,qek,qbb,wpOpsIn,h0,hs.wanted hw,qbj,if_false];exact⟨fun _ _=>trivial,ih hnd.2 (k+1) (fun j o' ho'=>by have:=hl (j+1) o' (by simpa using ho');rwa [show k+(j+1)=k+1+j by omega]at this) lv _ w (hs.put hd hs.inv (Below.refl _ _) (.v _))⟩
 | @loud o l s R hl' hw hy k ih=>
  intro hnd k hl lv a w hs;simp only[yht,qfg,qad,qbn]at hnd;have h0:ops[k]?=some o:=by simpa using hl 0 o rfl
  simp only[qaj,qek,qbb,wpOpsIn,h0,hs.wanted hw,if_true];refine ypa hnd.1 (Oper.wp_mono (fun a' w' ⟨s',lv',hR,hs'⟩=>?_) (hy B ok0 lv a w hs Q'));exact ih s' hR hnd.2 (k+1) (fun j o' ho'=>by have:=hl (j+1) o' (by simpa using ho');rwa [show k+(j+1)=k+1+j by omega]at this) lv' a' w' hs'
 | @split l s d b hb k ih=>
  intro hnd k hl lv a w hs;refine ih b rfl hnd k hl lv a w ?_;rw[ykh hb];exact hs
theorem ypz {id:Nat} {l:List Oper} (k:Nat) {l2:List Oper} {args:List Operand} (hk:l[k]?=some o) (h1:l.take k=l1) (h2:l.drop (k+1)=l2) (hn1:yht l1=true) (hn2:yht l2=true) (ho:o.op=.defer { callee:=.value g,args:=args.toArray,argTypes:=ats }) (hdst:yxs N o) (h:Lex P N l.toArray lf (fun s1=>yam l.toArray s1.t o=some true/\∃ f caps xs,ylj P f/\evF s1.t g=some (.fn f caps)/\evL (evF s1.t) args=some xs/\(∀ x,1000000<=x->s1.t x=none) /\
   Lex P N l.toArray lf (Q (some (f,xs.length+caps.length)) .normal) l2 ⟨fun x=>if 1000000<=x then(xs++caps)[x - 1000000]? else yee s1.t o.dst (.v undef) x,s1.h⟩) l1 s):AF P N (.region id l.toArray false) Q s:=by
 intro B ok0 lv a w hrd hdl hs;have hlt:=(qaa.1 hk).1;have hlen:l1.length=k:=by rw[<- h1,qcj];omega
 have hlen2:l2.length=l.length - k - 1:=by rw[<- h2,qdj];omega
 have hFW:FW B.rd=Fence.wide:=by rw[hrd];rfl
 refine wpIn_region ?_;have hsp:List.range l.toArray.size=List.range' 0 l1.length++(k::(List.range' (k+1) l2.length++[])):=by
  rw[qba,qdg,qgd,hlen,hlen2];have e:l.length=k+((l.length - k - 1)+1):=by omega
  conv=>lhs;rw[e]
  rw[<- List.range'_append_1,qay,qek]
 rw[hsp,<- hFW];refine zeh (fun s1 lv1 a1 w1 hq hs1=>?_) h hn1 0 (fun j o' ho'=>?_) lv a w hs
 .have h0:l.toArray[k]?=some o:=by simpa using hk
  obtain⟨hwt,f,caps,xs,hbody,hg,hx,hlow,hlex⟩:=hq;simp only[wpOpsIn,h0,hs1.wanted hwt,if_true];have hfr:=hs1.eval hg;have har:=yue (a:=a1) args xs (fun x y _ hxy=>hs1.eval hxy) hx;generalize hv:a1.eval g=v at hfr;cases hfr with
  | fn vs hl hrc=>
  let d:Deferred:={ target:=.fn (.func f) vs.toArray,args:=(args.map a1.eval).toArray }
  have hrun:(o.semAt (FW B.rd).round a1.eval).run P w1=.ok (.defer d) w1:=by
   rw[hFW];unfold Oper.semAt execOp;simp only[ho,Fence.wide,resolve,Deferred.ofValue,hv,Sem.run_bind,Sem.run_pure,Result.andThen_ok];simp[d]
  refine⟨fun _ _=>by rw[hFW];trivial,?_⟩;rw[hrun,Oper.uponIn_defer]
  let gv:Nat->Value:=fun x=>(args.map a1.eval++vs).getD (x - 1000000) undef
  have hreb:=hs1.rebase hlow gv;have hsim:Sim (bD B lv1 w1 (d::a1.defers) gv) (yba B ok0 lv1 w1) N ⟨fun x=>if 1000000<=x then(xs++caps)[x - 1000000]? else yee s1.t o.dst (.v undef) x,s1.h⟩ lv1 ({ a1 with defers:=d::a1.defers }.put o.dst undef) w1:=by
   refine⟨hreb.inv.pinned _ none _ _ (fun l h=>by cases h),?_,fun x y hy=>?_,⟨[],?_,qdu,fun d hd=>by cases hd⟩,hs1.big,hs1.pin⟩
   .cases hd:o.dst <;> simp[Act.put,hs1.size]
   .simp only at hy;split at hy
    .rename_i hge;refine⟨.inr hge,?_⟩;have e:ydx (bD B lv1 w1 (d::a1.defers) gv) ({ a1 with defers:=d::a1.defers }.put o.dst undef) x=gv x:=by simp only[ydx];rw[if_neg om];rfl
     rw[e];have hval:∃ u,(args.map a1.eval++vs)[x - 1000000]?=some u/\Rel (yba B ok0 lv1 w1) w1 lv1 y u:=by
      by_cases hxl:x - 1000000 < xs.length
      .rw [qam hxl]at hy;have hl2:x - 1000000 < (args.map a1.eval).length:=by rw[har.1];exact hxl
       exact⟨(args.map a1.eval)[x - 1000000],by rw[qam hl2,qae hl2],har.2 _ y _ hy (qae hl2)⟩
      rw[qah om]at hy;have hl2:x - 1000000 - xs.length < vs.length:=by have:=(qaa.1 hy).1;rw[hl];exact this
      exact⟨vs[x - 1000000 - xs.length],by rw[qah (by rw[har.1];omega),har.1,qae hl2],hrc _ y _ hy (qae hl2)⟩
     obtain⟨u,hu1,hu2⟩:=hval;have:gv x=u:=by simp only[gv,qac,hu1,qbu]
     rw[this];exact hu2.keep fun g hg=>⟨⟨.inl hg,hg.2.1,hg.2.2⟩,rfl⟩
    rename_i hge;have hput:=(hreb.put (d:=o.dst) (u:=undef) hdst hreb.inv (Below.refl _ _) (.v _)).frame x y hy;refine⟨hput.1,?_⟩;have e:ydx (bD B lv1 w1 (d::a1.defers) gv) ({ a1 with defers:=d::a1.defers }.put o.dst undef) x=ydx (bD B lv1 w1 a1.defers gv) (a1.put o.dst undef) x:=by
     simp only[ydx];rw[if_pos om,if_pos om];cases o.dst <;> rfl
    rw[e];exact hput.2
   cases hd:o.dst <;> rfl
  have hrest:=zeh (B:=bD B lv1 w1 (d::a1.defers) gv) (ok0:=yba B ok0 lv1 w1) (Q':=xjy P N B ok0 Q) (n:=0) (rest:=[]) (fun s2 lv2 a2 w2 hq2 hs2=>?_) hlex hn2 (k+1) (fun j o' ho'=>?_) lv1 _ w1 hsim
  .rw [hFW];exact hrest
  .refine .inr ⟨f,args.map a1.eval++vs,d,s1,lv1,a1,w1,s2,lv2,hs1,⟨.func f,vs.toArray,rfl,fun w=>?_⟩,?_,hs2⟩
   .simp only[invoke,d];rw[ygm hbody];simp
   rw[qan,har.1,hl];exact hq2
  rw[<- h2,qby]at ho';simpa using ho'
 rw[<- h1,qbc]at ho';split at ho'
 .rw [qay];simpa using ho'
 cases ho'
def zxr:Exit->Option FrameMode
 | .normal=>some .returning
 | .ret=>some .returning
 | .panic ch=>some (.panicking ch)
 | _=>none
def xju(P:Program)(T:Nat->Option Ty)(rs:List ResultVar)(r:AV)(hs':Nat->Option LObj):Option (FuncId × Nat)->Exit->SS->Prop
 | none,e,s=>xbg T rs r hs' e s
 | some (g,n),e,s=>∃ (u u':FrameMode) (args0:List AV) (hm:Nat->Option LObj) (v:AV) (hm':Nat->Option LObj) (σ:Nat->Nat) (ids:List Nat) (s2:SS),zxr e=some u/\settle u'=.returning/\args0.length=n/\(∀ i x,args0[i]?=some x->s.t (1000000+i)=some (yfz σ x))/\xjt (KD P g u u') args0 hm v hm' /\
   ((∀ i∈ids,∀ j∈ids,σ i=σ j->i=j)/\(∀ id,(hm id).isSome->id∈ids)/\(∀ id,(hm' id).isSome->id∈ids)/\(∀ id o,hm id=some o->s.h (σ id)=some (zcg σ o))/\(∀ id o,hm' id=some o->yoz ids o=true) /\
    (∀ x y,s2.t x=some y->(y=.any/\∃ z,s.t x=some z)\/(s.t x=some y/\xij σ ids hm' y))/\(∀ i∈ids,s2.h (σ i)=(hm' i).map (zcg σ))/\∀ j ob',(∀ i∈ids,σ i≠j)->s2.h j=some ob'->(∀ i∈ids,yew (σ i) ob'=false)/\∃ ob,s.h j=some ob/\ymh ob ob') /\
   (∀ x,1000000<=x->s2.t x=none)/\∃ x,yrf T s2 rs=some x/\Wk x r/\∀ id o,hs' id=some o->s2.h id=some o
theorem zwd {T:Nat → Option Ty} (hT : TOK P T) {f:FuncId} {c:Code} {args:List AV} {hs hs':Nat → Option LObj} (hf : P.funcs[f]? = some fn) (hn : (fn.name == "runtime.NumGoroutine") = false) (hb : fn.body = some c) (hN : fn.ntmps = N) (hrs : fn.results = rs.toArray) (hlen : (Nat.ble args.length N && Nat.ble N 1000000) = true) (hcl:∀ id o,hs' id=some o→isC o=true→N≤id∧∃ o',hs id=some o'∧isC o'=true) (h:AF P N c (xju P T rs r hs') ⟨yak (yfj 0 args),hs⟩):ytb P f args hs r hs':=by
 refine⟨⟨fn,hf,hn,by simp[hb]⟩,fun id o hx hc=>(hcl id o hx hc).2,fun ok0 lv w us hi hus=>?_⟩;refine(callsIn_wide (n:=0)).1 (callsIn_of_wp_marks hf hb trivial ?_);refine wpIn_mono (h _ ok0 _ _ w rfl rfl (xgu hN hlen hi hus)) fun e a' w' hp=>?_;rcases hp with⟨s',lv',hq,hs2⟩|⟨g,vs,d,s0,lv0,a0,w0,s',lv',p1,⟨fv,cap,p2,p3⟩,⟨u,u',args0,hm,v,hm',σ,ids,s2,q1,q2,q3,q4,q5,⟨c1,c2,c3,c4,c5,c6,c7,c8⟩,q6,x,q7,q8,q9⟩,p4⟩
 .cases e with
  | normal=>obtain⟨x,hx,h1,h2⟩:=hq;exact yck rfl rfl (fun a2 w2 hs3=>xkk hT hrs hcl hi hs3 hx h1 h2) _ a' w' rfl hs2
  | ret=>obtain⟨x,hx,h1,h2⟩:=hq;exact yck rfl rfl (fun a2 w2 hs3=>xkk hT hrs hcl hi hs3 hx h1 h2) _ a' w' rfl hs2
  | _=>exact hq.elim
 have hu:u≠.run:=by
  cases e <;> simp only[zxr,Option.some.injEq]at q1 <;> first|(subst q1;simp)|cases q1
 have main:LeavesInM Fence.wide 0 P fn a'.tmps (fun e w'=>∃ u lv',e=.returned u/\Rel (yba (yfc w lv) ok0 lv' w') w' lv' r u/\Inv (yfc w lv) ok0 hs' lv' w'/\∀ id o,hs' id=some o->isC o=true->∃ b n n',lv id=some (some b,n)/\lv' id=some (some b,n')) a'.defers u w':=by
  obtain⟨ms,m1,m2,m3⟩:=p4.defers;rw[m1];refine yvx hu (B:=bD (bM w lv) lv0 w0 (d::a0.defers) (fun x=>vs.getD (x - 1000000) undef)) (tm:=a'.tmps) (fun a1 w1 ht hs1=>?_) ms a' w' rfl m1 m2 m3 p4;refine⟨hu,.inr ⟨fun h=>(by cases h),fv,cap,g,vs.toArray,p2,(by rw[p2];exact p3 w1),fun _ _=>trivial,?_⟩⟩;have hvs:ybn (yba (bD (bM w lv) lv0 w0 (d::a0.defers) (fun x=>vs.getD (x - 1000000) undef)) (yba (bM w lv) ok0 lv0 w0) lv' w1) w1 lv' (args0.map (yfz σ)) vs:=by
   refine⟨by rw[qai,q3],fun i y z hy hz=>?_⟩;rw[qak]at hy;cases hx:args0[i]? with
   | none=>rw[hx]at hy;cases hy
   | some x0=>
    rw[hx]at hy;simp only[qav,Option.some.injEq]at hy;subst hy;have:=(hs1.frame _ _ (q4 i x0 hx)).2;have e:ydx (bD (bM w lv) lv0 w0 (d::a0.defers) (fun x=>vs.getD (x - 1000000) undef)) a1 (1000000+i)=z:=by
     simp only[ydx];rw[if_neg om];simp only[bD,qft,qac,hz,qbu]
    rw[e]at this;exact this
  have hcall:=lendK (K:=KD P g u u') (fun us w R R' h hk=>KD.mono h hk) hs1 hvs q5 c1 c2 c3 c4 c5 c6 c7 c8;refine CallsDIn.mono hcall fun e u2 w2 ⟨hu2,v2,lv2,he,hs2⟩=>?_;subst he hu2;simp only;rw[q2];have hds:zgu (bM w lv) w2 a0.defers:=p1.defers.same fun D hD=>by
   have hlt:=(qaz.1 hD).1;exact(hs2.inv.base.block D hlt (fun⟨id,n,hn⟩=>(p1.inv.lvat hn).choose_spec.2.2.2.notDef hD)).trans hD
  have hs3:=Sim.unbase p1 rfl hs2 hds q6;rw[<- ht];exact yck (B:=bM w lv) rfl rfl (fun a2 w3 hs4=>xkk hT hrs hcl hi hs4 q7 q8 q9) _ { a1 with defers:=a0.defers } w2 rfl hs3
 cases e <;> simp only[zxr,Option.some.injEq]at q1 <;> first|(subst q1;exact main)|cases q1
end
section
variable{P:Program}{ty:TypeId}{h:Nat->Option LObj}{ρ:Operand->Option AV}
theorem yield_eqNilYes{x:Operand}{c:Value}{ti:TypeId}{ty':TypeId}(hu:P.underlying ti=some (.interface (P.methodsAt ti)))(hx:ρ x=some (.v .nilIface))(hy:ρ (.const c)=some (.v .nilIface)):ybu P h ρ (.binOp .eql ti x (.const c) ty') ty (.v (.bool true)):=by
 refine yco (fun _ _=>by simp) (by simp[ygy,Op.operands,hx,hy,toV]) fun w=>?_;simp[execOp,yeu hx,yeu hy,eqGuard,binOp,run_equal_nil_nil w ti hu]
end
theorem callsDIn_of_wpSIn_marks{c:Code}{args:Array Value}(hf:P.funcs[f]?=some fn)(hb:fn.body=some c)(hF:F.fn f)(h:∀ (c₀:Frame) (cs:List Frame),c₀.mode=u->c.wpSIn F n P (fun e a cs' w'=>(e=.normal\/e=.ret)/\cs'={ c₀ with mode:=u' }::cs/\yxw P (fun w2=>∃ v,(results fn a.tmps).run P w2=.ok v w2/\R (.returned v) w2) a.defers w') { tmps:=args++Array.replicate (fn.ntmps - args.size) undef,defers:=[] } (c₀::cs) w):
  CallsDIn F n P f args u w fun e u2 w'=>u2=u'/\R e w':=by
 refine⟨hF,fun c₀ cs hu hroom=>?_⟩
 let b:Frame:={ (default:Frame)with fn:=f,kind:=.deferred,roundOf:=none }
 have henter:Frame.enter P f args .deferred =
   b.atR { tmps:=args++Array.replicate (fn.ntmps - args.size) undef,defers:=[] } [.code c]:=by
  simp[Frame.enter,Frame.atR,hf,hb,b]
 obtain⟨e,a',cs',w',hl,⟨he,hcs,hq⟩,harr⟩:=h c₀ cs hu b [] rfl rfl hF hroom;rw[<- henter]at harr;subst hcs;have hroom':F.room (({ c₀ with mode:=u' }::cs).length+1+n):=hroom;rcases he with rfl|rfl
 .obtain ⟨w2,⟨v,g1,g2⟩,g3⟩:=yuo (F:=F) (n:=n) a'.defers w' { b.atR a' []with mode:=.returning } ({ c₀ with mode:=u' }::cs) rfl rfl hF hroom' hq;exact⟨.returned v,u',w2,_,⟨rfl,g2⟩,StepsIn.trans (StepsIn.trans harr (.one (fenced_calm (fr:=b.atR a' []) hF hroom' rfl) (stepR_end rfl))) g3,rfl,rfl,rfl,rfl,fn,hf,g1⟩
 obtain⟨todo,hs⟩:=harr.1 rfl;obtain⟨w2,⟨v,g1,g2⟩,g3⟩:=yuo (F:=F) (n:=n) a'.defers w' { b.atR a' todo with mode:=.returning } ({ c₀ with mode:=u' }::cs) rfl rfl hF hroom' hq;exact⟨.returned v,u',w2,_,⟨rfl,g2⟩,StepsIn.trans hs g3,rfl,rfl,rfl,rfl,fn,hf,g1⟩
inductive Rec:FrameMode->Value->FrameMode->Prop
 | idle:Rec .returning .nilIface .returning
 | caught (v:Value) (older:List PanicEntry):Rec (.panicking ({ v:=v,recovered:=false }::older)) v (.panicking ({ v:=v,recovered:=true }::older))
theorem wpSIn_recover{Q:Exit->Act->List Frame->World->Prop}{c₀:Frame}{cs:List Frame}{v:Value}(hro:F.round=none)(hop:o.op=.call { callee:=.builtin .recover,args:=#[],argTypes:=ats })(hgd:o.guard=none)(hu:c₀.mode=u)(hrec:Rec u v u')(h:wpOpsIn F n P (o::l1).toArray (fun e a' w'=>Q e a' ({ c₀ with mode:=u' }::cs) w') (List.range' 1 l1.length) (a.put o.dst v) w):(Code.region id (o::l1).toArray false).wpSIn F n P Q a (c₀::cs) w:=by
 intro b k hb hr hF hroom;have hsp:List.range (o::l1).toArray.size=0::List.range' 1 l1.length:=by
  rw[qdg,qgd,qaj,qek]
 have hg0:(o::l1).toArray[0]?=some o:=by simp
 have hw:Region.wanted o (yielded (o::l1).toArray a.tmps)=true:=by simp[Region.wanted,hgd]
 have hrun:(execOp a.eval o).run P w=.ok .recover w:=by
  unfold execOp;simp only[hop,resolve,Sem.run_bind,Sem.run_pure,Result.andThen_ok,invoke,builtin]
 have habout:∀ f,o.about P w a.eval=some f->F.fn f:=by
  intro f hf;simp[Oper.about,hop,resolve,Target.leads]at hf
 have h0:(lone (b.atR a (.inRegion (o::l1).toArray (0::List.range' 1 l1.length)::k)) (c₀::cs) w).fenced P F:=fenced_oper hF hroom hg0 habout;have hg:=stepGR_op (P:=P) (b:=b) (k:=k) (cs:=c₀::cs) (w:=w) (rest:=List.range' 1 l1.length) hg0 hw;rw[hr,Oper.semAt_none]at hg;have hfin:∀ v,(b.atR a (.inRegion (o::l1).toArray (0::List.range' 1 l1.length)::k)).finish v=b.atR (a.put o.dst v) (.inRegion (o::l1).toArray (List.range' 1 l1.length)::k):=by
  intro v;rw[Frame.finish_atR,hg0];rfl
 have hk:(b.atR a (.inRegion (o::l1).toArray (0::List.range' 1 l1.length)::k)).kind=.deferred:=hb;have htr:=tryRecover_deferred hk (c₀::cs);have hroom':F.room (({ c₀ with mode:=u' }::cs).length+1+n):=hroom;obtain⟨e,a',w',hq,harr⟩:=wp_opsIn _ _ w h b k ({ c₀ with mode:=u' }::cs) (hr.trans hro.symm) hF hroom';refine⟨e,a',{ c₀ with mode:=u' }::cs,w',rfl,hq,.of_steps (.head (fenced_calm hF hroom rfl) stepR_region ?_) harr⟩;rw[hsp];refine .one h0 (step_lone_go ?_);rw[hg,<- hfin];cases hrec with
 | idle=>
  have hrc:recoverD (c₀::cs)=none:=by simp[recoverD,hu]
  have hc:({ c₀ with mode:=.returning }:Frame)=c₀:=by rw[<- hu]
  rw[hc];simp only[Frame.atR,hr]at htr ⊢;simp[stepG.apply,hrun,htr,hrc]
 | caught v older=>
  have hrc:recoverD (c₀::cs)=some (v,{ c₀ with mode:=.panicking ({ v:=v,recovered:=true }::older) }::cs):=by simp[recoverD,hu]
  simp only[Frame.atR,hr]at htr ⊢;simp[stepG.apply,hrun,htr,hrc]
theorem conKD_recover(hT:TOK P T){d:Nat}{y:Code}{args:List AV}{hs:Nat->Option LObj}{v:Value}(hf:P.funcs[f]?=some fn)(hb:fn.body=some (.seq (.region id (o::l1).toArray false) y))(hN:fn.ntmps=N)(hrs:fn.results=rs.toArray)(hlen:(Nat.ble args.length N && Nat.ble N 1000000)=true)(hcl:∀ id o,hs' id=some o->isC o=true->N<=id/\∃ o',hs id=some o'/\isC o'=true)(hop:o.op=.call { callee:=.builtin .recover,args:=#[],argTypes:=ats })(hgd:o.guard=none)(hdst:o.dst=some d)(hd:d < N)(hnd:yht l1=true)(hrec:Rec u v u')(h:Lex P N (o::l1).toArray lf (A P N y (xbg T rs r hs')) l1 ⟨yak ((d,.v v)::yfj 0 args),hs⟩):xjt (KD P f u u') args hs r hs':=by
 refine⟨fun id o hx hc=>(hcl id o hx hc).2,fun ok0 lv w us hi hus=>callsDIn_of_wpSIn_marks hf hb trivial fun c₀ cs hu=>?_⟩;have hsim:=xgu hN hlen hi hus (n:=fn.ntmps);refine wpSIn_seq (wpSIn_recover rfl hop hgd hu hrec ?_);have hput:Sim (bM w lv) ok0 N ⟨yak ((d,.v v)::yfj 0 args),hs⟩ lv (({ tmps:=us.toArray++Array.replicate (fn.ntmps - us.toArray.size) undef,defers:=[] }:Act).put o.dst v) w:=by
  have:=hsim.put (d:=o.dst) (r:=.v v) (u:=v) (fun x hx=>by rw[hdst]at hx;cases hx;exact hd) hsim.inv (Below.refl _ _) (.v _);rw[hdst]at this ⊢;rw[<- ydm];exact this
 have:=zeh (B:=bM w lv) (ok0:=ok0) (n:=0) (rest:=[]) (Q':=fun e a' w'=>Exit.thenS (y.wpSIn Fence.wide 0 P (fun e a cs' w'=>(e=.normal\/e=.ret)/\cs'={ c₀ with mode:=u' }::cs/\yxw P (fun w2=>∃ v,(results fn a.tmps).run P w2=.ok v w2/\∃ u lv',Ending.returned v=.returned u/\Rel (yba (yfc w lv) ok0 lv' w2) w2 lv' r u/\Inv (yfc w lv) ok0 hs' lv' w2/\∀ id o,hs' id=some o->isC o=true->∃ b n n',lv id=some (some b,n)/\lv' id=some (some b,n')) a.defers w'))
  (fun e a cs' w'=>(e=.normal\/e=.ret)/\cs'={ c₀ with mode:=u' }::cs/\yxw P (fun w2=>∃ v,(results fn a.tmps).run P w2=.ok v w2/\∃ u lv',Ending.returned v=.returned u/\Rel (yba (yfc w lv) ok0 lv' w2) w2 lv' r u/\Inv (yfc w lv) ok0 hs' lv' w2/\∀ id o,hs' id=some o->isC o=true->∃ b n n',lv id=some (some b,n)/\lv' id=some (some b,n')) a.defers w') e a' ({ c₀ with mode:=u' }::cs) w') (fun s1 lv1 a1 w1 hq hs1=>?_) h hnd 1 (fun j o' ho'=>by rw[qda];simpa using ho') lv _ w hput
 .rw [qba]at this;exact this
 show y.wpSIn _ _ _ _ _ _ _;refine wpSIn_of_wpIn rfl ?_;refine wpIn_mono (hq (bM w lv) ok0 lv1 a1 w1 hs1) fun e a' w' ⟨s',lv',hq2,hs2⟩=>?_;cases e with
 | normal=>obtain⟨x,hx,h1,h2⟩:=hq2;exact⟨.inl rfl,rfl,zlz (B:=bM w lv) (tm:=a'.tmps) rfl (fun a2 w2 ht hs3=>by have:=xkk hT hrs hcl hi hs3 hx h1 h2 (fn:=fn);rwa [ht]at this) _ a' w' rfl rfl hs2⟩
 | ret=>obtain⟨x,hx,h1,h2⟩:=hq2;exact⟨.inr rfl,rfl,zlz (B:=bM w lv) (tm:=a'.tmps) rfl (fun a2 w2 ht hs3=>by have:=xkk hT hrs hcl hi hs3 hx h1 h2 (fn:=fn);rwa [ht]at this) _ a' w' rfl rfl hs2⟩
 | _=>exact hq2.elim
section
variable{P:Program}{N:Nat}
end
theorem yur{ids:List Nat}:∀ {x:AV},yas x=true->yex ids x=true
 | .v _,_=>rfl
 | .any,_=>rfl
 | .one,_=>rfl
 | .sl _ _,_=>rfl
 | .dp _ _,_=>rfl
 | .mv _,_=>rfl
 | .agg cs,h=>rows (cs:=cs) h
 | .tup cs,h=>rows (cs:=cs) h
 | .fn _ cs,h=>rows (cs:=cs) h
 | .fm _ cs,h=>rows (cs:=cs) h
 where rows:∀ {cs:List AV},yas.pureL cs=true->yex.onlyL ids cs=true
 | [],_=>rfl
 | c::cs,h=>by
  simp only[yas.pureL,qad]at h;simp only[yex.onlyL,yur h.1,rows h.2,Bool.and_self]
theorem ysq:∀ (x:AV),yfz (fun i=>i) x=x
 | .v _=>rfl
 | .any=>rfl
 | .one=>rfl
 | .sl _ _=>rfl
 | .dp _ _=>rfl
 | .mv _=>rfl
 | .lp _ _=>rfl
 | .ls _ _ _=>rfl
 | .mp _=>rfl
 | .agg cs=>by simp only[yfz,rows cs]
 | .tup cs=>by simp only[yfz,rows cs]
 | .fn _ cs=>by simp only[yfz,rows cs]
 | .fm _ cs=>by simp only[yfz,rows cs]
 where rows:∀ (cs:List AV),yfz.renL (fun i=>i) cs=cs
 | []=>rfl
 | c::cs=>by simp only[yfz.renL,ysq c,rows cs]
theorem zch(o:LObj):zcg (fun i=>i) o=o:=by cases o <;> simp only[zcg,ysq.rows]
def ycl(hs:List (Nat × Option LObj)):List Nat:=hs.map (·.1)
theorem yez{hs:List (Nat × Option LObj)}:∀ {id:Nat},(yac hs id).isSome->id∈ycl hs:=by
 induction hs with
 | nil=>intro id h;cases h
 | cons x hs ih=>
  intro id h;obtain⟨k,o⟩:=x;simp only[yac]at h;cases hb:Nat.beq id k with
  | true=>simp[ycl,qaf hb]
  | false=>rw[hb]at h;simp only at h;exact qap _ (ih h)
theorem hlook_out{hs:List (Nat × Option LObj)}(h:id ∉ ycl hs):yac hs id=none:=by
 cases hq:yac hs id with
 | none=>rfl
 | some o=>exact absurd (yez (by rw[hq];rfl)) h
theorem yjz{f g:List (Nat × Option LObj)}(h:id ∉ ycl f):yac (f++g) id=yac g id:=by
 induction f with
 | nil=>rfl
 | cons x f ih=>
  obtain⟨k,o⟩:=x;simp only[ycl,qce,qaq,not_or]at h;simp only[qbb,yac];cases hb:Nat.beq id k with
  | true=>exact absurd (qaf hb) h.1
  | false=>exact ih h.2
theorem yvq{f g:List (Nat × Option LObj)}(h:id ∉ ycl g):yac (f++g) id=yac f id:=by
 induction f with
 | nil=>exact hlook_out h
 | cons x f ih=>
  obtain⟨k,o⟩:=x;simp only[qbb,yac];cases hb:Nat.beq id k with
  | true=>rfl
  | false=>exact ih
section
variable{P:Program}{N:Nat}{ops:Array Oper}{lf:Oper->Bool}{Q:SS->Prop}{t t':List (Nat × AV)}{pre hs hs':List (Nat × Option LObj)}{rest:List Oper}{d:Nat}{ty:TypeId}{pos:String}{af:Array Edge}{gd:Option (Nat × Bool)}
structure Ahead (pre hs:List (Nat × Option LObj)):Prop where
 keys:∀ i∈ycl hs,i ∉ ycl pre
 ment:∀ j ob,yac pre j=some ob->∀ i∈ycl hs,yew i ob=false
theorem zvb{args:List Operand}{ats:Array TypeId}{caps xs:List AV}{r:AV}(hc:ytb P f (xs++caps) (yac hs) r (yac hs'))(hpr:yas r=true)(hg:zcs (evF (yak t) g) f caps args)(hx:evL (evF (yak t)) args=some xs)(ha:Ahead pre (hs++hs'))(hro:∀ id o,yac hs' id=some o->yoz (ycl (hs++hs')) o=true)(ht:∀ x y,yak t' x=some y->yak t x=some y/\∀ i∈ycl (hs++hs'),ment i y=false)(hl:lf ⟨some d,.call { callee:=.value g,args:=args.toArray,argTypes:=ats },ty,pos,af,gd⟩=true)(hw:yam ops (yak t) ⟨some d,.call { callee:=.value g,args:=args.toArray,argTypes:=ats },ty,pos,af,gd⟩=some true)(hd:Nat.blt d N=true)(k:Lex P N ops lf Q rest (S ((d,r)::t') (pre++hs'))):Lex P N ops lf Q (⟨some d,.call { callee:=.value g,args:=args.toArray,argTypes:=ats },ty,pos,af,gd⟩::rest) (S t (pre++hs)):=by
 refine yef hl hw ?_ k;have hk1:∀ i,i∈ycl hs->i∈ycl (hs++hs'):=fun i hi=>by simp only[ycl,qbz,qat]at hi ⊢;exact .inl hi
 have hk2:∀ i,i∈ycl hs'->i∈ycl (hs++hs'):=fun i hi=>by simp only[ycl,qbz,qat]at hi ⊢;exact .inr hi
 refine yru (σ:=fun i=>i) (ids:=ycl (hs++hs')) rfl rfl (by simpa using hd) hg hx (by rw[show (yfz fun i=>i)=id from funext ysq];simp) hc (fun _ _ _ _ h=>h) (fun id h=>hk1 id (yez h)) (fun id h=>hk2 id (yez h)) (fun id o ho=>?_) (yur hpr) hro (fun x y hy=>?_) (fun i hi=>?_) (fun j ob' hj hob=>?_)
 .show yac (pre++hs) id=_;rw[yjz (ha.keys id (hk1 id (yez (by rw[ho];rfl)))),ho,zch]
 .simp only[S,yak]at hy;cases hb:Nat.beq x d with
  | true=>rw[hb]at hy;simp only[Option.some.injEq]at hy;exact .inl ⟨qaf hb,by rw[ysq];exact hy.symm⟩
  | false=>
   rw[hb]at hy;simp only at hy;obtain⟨h1,h2⟩:=ht x y hy;exact .inr ⟨fun e=>(by subst e;rw[qey]at hb;cases hb),.inr ⟨h1,.inl h2⟩⟩
 .show yac (pre++hs') i=_;rw[yjz (ha.keys i hi)];cases yac hs' i <;> simp[zch]
 have hob:yac (pre++hs') j=some ob':=hob;rw[yvq fun hm=>hj j (hk2 j hm) rfl]at hob;refine⟨fun i hi=>ha.ment j ob' hob i hi,ob',?_,.inl rfl⟩;show yac (pre++hs) j=_;rw[yvq fun hm=>hj j (hk1 j hm) rfl];exact hob
theorem L_callI{args:List Operand}{ats:Array TypeId}{caps xs:List AV}{r:AV}(hc:ytb P f (xs++caps) (yac hs) r (yac hs'))(hpr:yas r=true)(hg:evF (yak t) g=some (.fn f caps))(hx:evL (evF (yak t)) args=some xs)(ha:Ahead pre (hs++hs'))(hro:∀ id o,yac hs' id=some o->yoz (ycl (hs++hs')) o=true)(ht:∀ x y,yak t' x=some y->yak t x=some y/\∀ i∈ycl (hs++hs'),ment i y=false)(hl:lf ⟨some d,.call { callee:=.value g,args:=args.toArray,argTypes:=ats },ty,pos,af,gd⟩=true)(hw:yam ops (yak t) ⟨some d,.call { callee:=.value g,args:=args.toArray,argTypes:=ats },ty,pos,af,gd⟩=some true)(hd:Nat.blt d N=true)(k:Lex P N ops lf Q rest (S ((d,r)::t') (pre++hs'))):Lex P N ops lf Q (⟨some d,.call { callee:=.value g,args:=args.toArray,argTypes:=ats },ty,pos,af,gd⟩::rest) (S t (pre++hs)):=
 zvb hc hpr (.inl hg) hx ha hro ht hl hw hd k
theorem L_callIm{ats:Array TypeId}{caps:List AV}{r:AV}(hc:ytb P f caps (yac hs) r (yac hs'))(hpr:yas r=true)(hg:evF (yak t) g=some (.fm f caps))(ha:Ahead pre (hs++hs'))(hro:∀ id o,yac hs' id=some o->yoz (ycl (hs++hs')) o=true)(ht:∀ x y,yak t' x=some y->yak t x=some y/\∀ i∈ycl (hs++hs'),ment i y=false)(hl:lf ⟨some d,.call { callee:=.value g,args:=#[],argTypes:=ats },ty,pos,af,gd⟩=true)(hw:yam ops (yak t) ⟨some d,.call { callee:=.value g,args:=#[],argTypes:=ats },ty,pos,af,gd⟩=some true)(hd:Nat.blt d N=true)(k:Lex P N ops lf Q rest (S ((d,r)::t') (pre++hs'))):Lex P N ops lf Q (⟨some d,.call { callee:=.value g,args:=#[],argTypes:=ats },ty,pos,af,gd⟩::rest) (S t (pre++hs)):=
 zvb (args:=[]) (xs:=[]) hc hpr (.inr ⟨hg,rfl⟩) rfl ha hro ht hl hw hd k
end
def xnt(f:Nat->Option AV):List (Nat × AV)->Prop
 | []=>True
 | (x,y)::t=>f x=some y/\xnt f t
theorem zfz{f:Nat->Option AV}:∀ {t:List (Nat × AV)},xnt f t->∀ x y,yak t x=some y->f x=some y
 | [],_,x,y,h=>by simp[yak]at h
 | (a,z)::t,hs,x,y,h=>by
  simp only[yak]at h;cases hb:Nat.beq x a with
  | true=>rw[hb]at h;simp only[Option.some.injEq]at h;subst h;rw[qaf hb];exact hs.1
  | false=>rw[hb]at h;exact zfz hs.2 x y h
def xmy(t:List (Nat × AV)):Nat->List AV->Prop
 | _,[]=>True
 | i,x::l=>yak t (1000000+i)=some x/\xmy t (i+1) l
theorem zzc{t:List (Nat × AV)}:∀ {l:List AV} {k i:Nat} {x:AV},xmy t k l->l[i]?=some x->yak t (1000000+(k+i))=some x
 | [],k,i,x,h,hx=>by simp at hx
 | y::l,k,0,x,h,hx=>by simp only[qas,Option.some.injEq]at hx;subst hx;exact h.1
 | y::l,k,i+1,x,h,hx=>by have:=zzc h.2 (i:=i) (by simpa using hx);rwa [show k+1+i=k+(i+1) by omega]at this
theorem zie{t:List (Nat × AV)}{h:List (Nat × Option LObj)}(sg:List (Nat × Nat)){g:FuncId}{e:Exit}{args0:List AV}{hm hm' h':List (Nat × Option LObj)}{v:AV}(hmode:zxr e=some u)(hset:settle u'=.returning)(hn:args0.length=n)(ha:xmy t 0 (args0.map (yfz (yga sg))))(hc:xjt (KD P g u u') args0 (yac hm) v (yac hm'))(hk:yed (ybm sg)=true)(hv:yed (ycz sg)=true)(hd1:yyh (ybm sg) hm=true)(hd2:yyh (ybm sg) hm'=true)(hsub:yxr h (xal sg hm))(ho:yqu (ybm sg) hm'=true)(hh:∀ j ob',j ∉ ycz sg->yac h' j=some ob'->(∀ i∈ycz sg,yew i ob'=false)/\∃ ob,yac h j=some ob/\ymh ob ob')(hx:yrf T (S (ynw sg hm' (xdd t)) (yqf sg hm' sg++h')) rs=some x)(hwk:Wk x r)(hend:∀ id o,hs' id=some o->yac (yqf sg hm' sg++h') id=some o):xju P T rs r hs' (some (g,n)) e (S t h):=by
 refine⟨u,u',args0,yac hm,v,yac hm',yga sg,ybm sg,S (ynw sg hm' (xdd t)) (yqf sg hm' sg++h'),hmode,hset,hn,fun i x hx=>?_,hc,⟨zfv hv,yjd hd1,yjd hd2,ywt hsub,yly ho,fun x y hy=>?_,fun i hi=>zbi hk hv i hi,fun j ob' hj hob=>?_⟩,fun x hge=>?_,x,hx,hwk,hend⟩
 .have:=zzc ha (i:=i) (x:=yfz (yga sg) x) (by simp[hx])
  rwa [qay]at this
 .have hlow:∀ z,yak (xdd t) x=some z->yak t x=some z:=fun z hz=>by
   rw[yvy]at hz;cases hb:Nat.ble 1000000 x with
   | true=>rw[hb]at hz;cases hz
   | false=>rw[hb]at hz;exact hz
  rcases yjf hy with⟨h1,z,h2⟩|⟨h1,h2⟩
  .exact .inl ⟨h1,z,hlow z h2⟩
  exact .inr ⟨hlow y h1,yyp hk h2⟩
 .have hjv:j ∉ ycz sg:=fun hm=>by
   obtain⟨i,h1,h2⟩:=yzg hm hk;exact hj i h1 h2
  simp only[S,yop hjv]at hob;obtain⟨h1,h2⟩:=hh j ob' hjv hob;exact⟨fun i hi=>h1 _ (ymd hi),h2⟩
 show yak (ynw sg hm' (xdd t)) x=none;cases hq:yak (ynw sg hm' (xdd t)) x with
 | none=>rfl
 | some y=>
  have:∃ z,yak (xdd t) x=some z:=by
   rcases yjf hq with⟨_,z,h2⟩|⟨h1,_⟩
   .exact ⟨z,h2⟩
   exact⟨y,h1⟩
  obtain⟨z,hz⟩:=this;rw[yvy,Nat.ble_eq_true_of_le hge]at hz;cases hz
end
section
open Go.RowKit
theorem conG_of {T:Nat → Option Ty} (hT : TOK P T) {c:Code} {args:List AV} {hs hs':Nat → Option LObj} (hf : P.funcs[f]? = some fn) (hn : (fn.name == "runtime.NumGoroutine") = false) (hb : fn.body = some c) (hN : fn.ntmps = N) (hrs : fn.results = rs.toArray) (hlen : (Nat.ble args.length N && Nat.ble N 1000000) = true) (hcl:∀ id o,hs' id=some o→isC o=true→N≤id∧∃ o',hs id=some o'∧isC o'=true) (kp:List Nat) (t0:Nat→Option AV) (ht0:∀ x y,t0 x=some y→yak (yfj 0 args) x=some y∨∃ i,x=1000000+i∧args[i]?=some y) (h:A P N c (fun e s=>xbg T rs r hs' e s∧∀ i∈kp,∃ x,args[i]?=some x∧s.t (1000000+i)=some x) ⟨t0,hs⟩):xjm P f args hs r hs' kp:=by
 refine⟨⟨fn,hf,hn,by simp[hb]⟩,fun id o hx hc=>(hcl id o hx hc).2,fun ok0 lv w us hi hus=>?_⟩;simp only[qad,qdr]at hlen;obtain⟨hlen',hbig⟩:=hlen;refine(callsIn_wide (n:=0)).1 (callsIn_of_wp_marks hf hb trivial ?_);have hsim:Sim ⟨w,yby lv,fun id=>(lv id).bind (·.1),none,[],fun i=>us.getD (i - 1000000) undef⟩ ok0 N ⟨t0,hs⟩ lv { tmps:=us.toArray++Array.replicate (fn.ntmps - us.toArray.size) undef,defers:=[] } w:=by
  refine⟨hi.pinned _ _ _ _ (fun l h=>by cases h),?_,fun x y hy=>?_,⟨[],rfl,qdu,fun d hd=>by cases hd⟩,hbig,fun id b o hN hx hc hb=>?_⟩
  .simp [hN,hus.1];omega
  .rcases ht0 x y hy with hy|⟨i,rfl,hy2⟩
   .simp only[ylb]at hy;have hlt:=(qaa.1 hy).1;refine⟨.inl om,?_⟩;rw[ydx,if_pos om];obtain⟨u,hu⟩:∃ u,us[x]?=some u:=⟨_,qae (by rw[hus.1];exact hlt)⟩;simp only[yfm us _ x u hu];exact hus.2 x y u hy hu
   refine⟨.inr om,?_⟩;obtain⟨u,hu⟩:∃ u,us[i]?=some u:=⟨_,qae (by rw[hus.1];exact(qaa.1 hy2).1)⟩;rw[ydx,if_neg om];simp only[qft,qac,hu,qbu];exact hus.2 i y u hy2 hu
  simp only at hb;cases hl:lv id with
  | none=>simp[hl]at hb
  | some q=>obtain⟨q1,q2⟩:=q;simp[hl]at hb;subst hb;exact⟨q2,rfl⟩
 refine wpIn_mono (h _ ok0 _ _ w hsim) fun e a' w' ⟨s',lv',hq,hs2⟩=>?_;have fin:∀ x,yrf T s' rs=some x->Wk x r->(∀ id o,hs' id=some o->s'.h id=some o)->(∀ i∈kp,∃ x,args[i]?=some x/\s'.t (1000000+i)=some x)->∀ (a':Act) (w':World),Sim ⟨w,yby lv,fun id=>(lv id).bind (·.1),none,[],fun i=>us.getD (i - 1000000) undef⟩ ok0 N s' lv' a' w'->∃ v,(results fn a'.tmps).run P w'=.ok v w'/\∃ u lv2,Ending.returned v=.returned u/\Rel (yba (yfc w lv) ok0 lv2 w') w' lv2 r u/\Inv (yfc w lv) ok0 hs' lv2 w'/\(∀ id o,hs' id=some o->isC o=true->∃ b n n',lv id=some (some b,n)/\lv2 id=some (some b,n'))/\∀ i∈kp,∀ x v,args[i]?=some x->us[i]?=some v->Rel (yba (yfc w lv) ok0 lv2 w') w' lv2 x v:=by
  intro x hx hwk hsub hkp a' w' hs2;obtain⟨u,hu,hrun⟩:=yrg (P:=P) hT hs2 hrs hx;obtain⟨lv2,i1,i2,i3⟩:=hs2.inv.weak hsub;refine⟨u,hrun,u,lv2,rfl,hwk.rel _ _ _ _ ((hu.relive fun id b n hb _=>i2 id b n hb).keep fun g hg=>⟨i3 g hg,rfl⟩),i1.pinned _ _ _ _ (fun l h=>by cases h),fun id o hx hc=>?_,fun i hi x v hx hv=>?_⟩;rotate_left
  .obtain ⟨y,hy,ht⟩:=hkp i hi;rw[hx]at hy;cases hy;have:=(hs2.frame _ _ ht).2;rw[ydx,if_neg om]at this;simp only[qft,qac,hv,qbu]at this;exact(this.relive fun id b n hb _=>i2 id b n hb).keep fun g hg=>⟨i3 g hg,rfl⟩
  obtain⟨h1,o',hy,hc'⟩:=hcl id o hx hc;obtain⟨b,n,hb,ho⟩:=hi.obj id _ hy;cases b with
  | none=>simp only[yge]at ho;rcases ho with rfl|⟨e,rfl⟩ <;> cases hc'
  | some b=>
   obtain⟨n',hn'⟩:=hs2.pin id b o h1 (hsub id _ hx) hc (by simp[hb]);obtain⟨b2,n2,hb2,_⟩:=i1.obj id _ hx;have:=i2 id b2 n2 hb2;rw[hn']at this;cases this;exact⟨b,n,_,hb,hb2⟩
 cases e with
 | normal=>obtain⟨⟨x,hx,h1,h2⟩,h3⟩:=hq;exact yck rfl rfl (fin x hx h1 h2 h3) _ a' w' rfl hs2
 | ret=>obtain⟨⟨x,hx,h1,h2⟩,h3⟩:=hq;exact yck rfl rfl (fin x hx h1 h2 h3) _ a' w' rfl hs2
 | _=>exact hq.1.elim
section
variable{P:Program}{N:Nat}{ops:Array Oper}{lf:Oper->Bool}{Q:SS->Prop}{t t':List (Nat × AV)}{pre hs hs':List (Nat × Option LObj)}{rest:List Oper}{d:Nat}{ty:TypeId}{pos:String}{af:Array Edge}{gd:Option (Nat × Bool)}
theorem L_callG2{args:List Operand}{ats:Array TypeId}{xs:List AV}{r:AV}(kp:List Nat)(hc:xjm P f xs (yac hs) r (yac hs') kp)(hpr:yas r=true)(hg:evF (yak t) g=some (.fn f []))(hx:evL (evF (yak t)) args=some xs)(hak:∀ i∈ycl (hs++hs'),i ∉ ycl pre)(ham:∀ j ob,yac pre j=some ob->(∀ i∈ycl (hs++hs'),yew i ob=false)\/∃ ys,ob=.cells ys/\∀ y∈ys,(∀ i∈ycl (hs++hs'),ment i y=false)\/∃ i∈kp,∃ id sz len,0 < sz/\(yac hs id).isSome/\xs[i]?=some (.ls id sz len)/\y=.ls id sz len)(hro:∀ id o,yac hs' id=some o->yoz (ycl (hs++hs')) o=true)(ht:∀ x y,yak t' x=some y->yak t x=some y/\((∀ i∈ycl (hs++hs'),ment i y=false)\/∃ i∈kp,∃ id sz len,0 < sz/\(yac hs id).isSome/\xs[i]?=some (.ls id sz len)/\y=.ls id sz len))(hl:lf ⟨some d,.call { callee:=.value g,args:=args.toArray,argTypes:=ats },ty,pos,af,gd⟩=true)(hw:yam ops (yak t) ⟨some d,.call { callee:=.value g,args:=args.toArray,argTypes:=ats },ty,pos,af,gd⟩=some true)(hd:Nat.blt d N=true)(k:Lex P N ops lf Q rest (S ((d,r)::t') (pre++hs'))):Lex P N ops lf Q (⟨some d,.call { callee:=.value g,args:=args.toArray,argTypes:=ats },ty,pos,af,gd⟩::rest) (S t (pre++hs)):=by
 refine yef hl hw ?_ k;have hk1:∀ i,i∈ycl hs->i∈ycl (hs++hs'):=fun i hi=>by simp only[ycl,qbz,qat]at hi ⊢;exact .inl hi
 have hk2:∀ i,i∈ycl hs'->i∈ycl (hs++hs'):=fun i hi=>by simp only[ycl,qbz,qat]at hi ⊢;exact .inr hi
 refine zhs (σ:=fun i=>i) (ids:=ycl (hs++hs')) (caps:=[]) (args0:=xs) rfl rfl (by simpa using hd) (.inl hg) hx (by rw[show (yfz fun i=>i)=id from funext ysq];simp) hc (fun _ _ _ _ h=>h) (fun id h=>hk1 id (yez h)) (fun id h=>hk2 id (yez h)) (fun id o ho=>?_) (yur hpr) hro (fun x y hy=>?_) (fun i hi=>?_) (fun j ob' hj hob=>?_)
 .show yac (pre++hs) id=_;rw[yjz (hak id (hk1 id (yez (by rw[ho];rfl)))),ho,zch]
 .simp only[S,yak]at hy;cases hb:Nat.beq x d with
  | true=>rw[hb]at hy;simp only[Option.some.injEq]at hy;exact .inl ⟨qaf hb,by rw[ysq];exact hy.symm⟩
  | false=>
   rw[hb]at hy;simp only at hy;obtain⟨h1,h2⟩:=ht x y hy;refine .inr ⟨fun e=>(by subst e;rw[qey]at hb;cases hb),.inr ⟨h1,h2.imp .inl fun h=>.inl h⟩⟩
 .show yac (pre++hs') i=_;rw[yjz (hak i hi)];cases yac hs' i <;> simp[zch]
 have hob:yac (pre++hs') j=some ob':=hob;rw[yvq fun hm=>hj j (hk2 j hm) rfl]at hob;have e:yac (pre++hs) j=some ob':=by rw[yvq fun hm=>hj j (hk1 j hm) rfl];exact hob
 exact(ham j ob' hob).imp (fun h=>⟨h,ob',e,.inl rfl⟩) fun⟨ys,h1,h2⟩=>⟨e,ys,h1,fun y hy=>(h2 y hy).imp .inl .inl⟩
theorem L_callG{args:List Operand}{ats:Array TypeId}{xs:List AV}{r:AV}(kp:List Nat)(hc:xjm P f xs (yac hs) r (yac hs') kp)(hpr:yas r=true)(hg:evF (yak t) g=some (.fn f []))(hx:evL (evF (yak t)) args=some xs)(ha:Ahead pre (hs++hs'))(hro:∀ id o,yac hs' id=some o->yoz (ycl (hs++hs')) o=true)(ht:∀ x y,yak t' x=some y->yak t x=some y/\((∀ i∈ycl (hs++hs'),ment i y=false)\/∃ i∈kp,∃ id sz len,0 < sz/\(yac hs id).isSome/\xs[i]?=some (.ls id sz len)/\y=.ls id sz len))(hl:lf ⟨some d,.call { callee:=.value g,args:=args.toArray,argTypes:=ats },ty,pos,af,gd⟩=true)(hw:yam ops (yak t) ⟨some d,.call { callee:=.value g,args:=args.toArray,argTypes:=ats },ty,pos,af,gd⟩=some true)(hd:Nat.blt d N=true)(k:Lex P N ops lf Q rest (S ((d,r)::t') (pre++hs'))):Lex P N ops lf Q (⟨some d,.call { callee:=.value g,args:=args.toArray,argTypes:=ats },ty,pos,af,gd⟩::rest) (S t (pre++hs)):=
 L_callG2 kp hc hpr hg hx ha.keys (fun j ob h=>.inl (ha.ment j ob h)) hro ht hl hw hd k
end
end
end Go.Proofs.YtgpodcjhgdionaaGreatDoor
