/- Part 15 of the texts under TopCertificatesBoundRuns. -/
import Derived.Test.YtgpodcjhgdionaaGreatDoorCB4
import Derived.Test.YtgpodcjhgdionaaGreatDoorCB6
import Derived.Test.YtgpodcjhgdionaaGreatDoorCB7
import Derived.Test.YtgpodcjhgdionaaGreatDoorCB8
import Derived.Test.YtgpodcjhgdionaaGreatDoorCB9
import Derived.Test.YtgpodcjhgdionaaGreatDoorCB10
import Derived.Test.YtgpodcjhgdionaaGreatDoorCB11
import Derived.Test.YtgpodcjhgdionaaGreatDoorCB12
import Derived.Test.YtgpodcjhgdionaaGreatDoorCB13
import Derived.Test.YtgpodcjhgdionaaGreatDoorCB14
set_option linter.unusedVariables false
set_option maxRecDepth 100000
set_option maxHeartbeats 8000000
namespace Go.Proofs.YtgpodcjhgdionaaGreatDoor
open Go.Proofs.Tryz
variable {c:List (List Int)} {t:List (List (Int × Int))} {g:GraphD} {e:BitVec 32} {p:ProgD} {kind:Int} {α:Type} {n k v T:Nat} {s:SpcD} {R:List (List α)} {f:α->Nat}
section
open Go.RowKit
theorem range_snoc {f:Nat->Int} (j:Nat):(List.range (j+1)).map f=(List.range j).map f++[f j]:=by rw [qcr,qbu];rfl
theorem yrf {p:ProgD} {g:GraphD} {c:List (List Int)} {v:Nat} {ls:List Lk} {e:List Tm} {n:Int} (W:WalkOk p g c v ls e n) {kinds:List Int} (hk:ygx kinds=true):∀ (E:Ex),E.ok->∀ (k:Nat) (r:List Tm) (b:Bool) (port:Int),e.drop k=E.fl++r->ty kinds b E≠0->InV port->(b=true->0<=port/\port < ls.length) ->
  Con prog 177 [yfm g,yds c,i64 v,i64 port,ybk e,i64 k] (i64 ((⟨g,c,v⟩:Scn).val port E))
 | .lf t,ho,k,r,b,port,hE,ht,hp,hb=>by
  obtain ⟨hk1,hk2,hk3⟩:=ypb (show e.drop k=t::r from hE);have he:=W.he;have h17:=xmk ho;have ha0:ar t.1=0:=ho;have hnear:12<=t.1->0<=port/\port < ls.length:=fun h12=>hb (by
   cases b with
   | true=>rfl
   | false=>exact absurd (by simp only [ty];simp [zgw,h17.2];omega) ht)
  have hm:t∈e:=qab hk1;have har:=ygt t.1;rw [ha0] at har;refine ze Tryz.func177 ntmps177 Tryz.results177 ?_
  (repeat (first|refine zz ?_|refine zc (rleaf_con g W.hg c v ls W.hls t port h17 hnear W.hc (fun hx=>⟨(zke (W.ha t hm) hx).1,fun r hr=>by have:=(zke (W.ha t hm) hx).2;have:=W.hr r hr;omega⟩)) ?_))
  exact zp
 | .un t a,ho,k,r,b,port,hE,ht,hp,hb=>by
  obtain ⟨hk1,hk2,hk3⟩:=ypb (show e.drop k=t::(a.fl++r) from hE);have he:=W.he;have h17:=xml ho.1;have hka:=ypq kinds hk b (.un t a) a ho (by simp [zoz]) ht;have hll:ls.length<=24:=(W.ok.links ls (qab W.hls)).1;have hdeg:(⟨g,c,v⟩:Scn).deg=ls.length:=by simp [Scn.deg,W.hls]
  have hls:=W.hls;have har:=ygt t.1;rw [ho.1] at har;have hag:=zpy t.1;cases hagb:ykg t.1 with
  | false=>
   rw [hagb] at hag;have hna:=hagb;have hop:t.1=18\/t.1=19:=by
    have:¬ (20<=t.1/\t.1<=29):=fun h=>by rw [yqh.2 h] at hna;cases hna
    omega
   have ih:=yrf W hk a ho.2 (k+1) r b port hk2 (by simpa [hd,hna] using hka) hp hb;rw [show ((k+1:Nat):Int)=(k:Int)+1 by omega] at ih;have hin:InV ((⟨g,c,v⟩:Scn).val port a):=ypw W.ok a (fun x hx=>W.ha x (yei hk2 x hx)) hp;refine ze Tryz.func177 ntmps177 Tryz.results177 ?_
   (repeat (first|refine zz ?_|refine zc (run_con _ _ hop hin) ?_))
   refine zr ?_;exact yaf (by simp only [Scn.val];rw [if_neg (by simp [hna])])
  | true=>
   rw [hagb] at hag;have hka:ty kinds true a≠0:=by simpa [hd,hagb] using hka
   let f:Nat->Int:=fun j=>(⟨g,c,v⟩:Scn).val (j:Int) a
   have hin:∀ j:Nat,j < ls.length->InV (f j):=fun j hj=>ypw W.ok a (fun x hx=>W.ha x (yei hk2 x hx)) (zlw (n:=0) hll hj);have hop:=yqh.1 hagb;refine ze Tryz.func177 ntmps177 Tryz.results177 ?_;refine zZ ?_;refine zjz 14 14 1 rfl rfl rfl ?_;refine ycx (α:=Nat) (fun j=>[(15,i64 j),(14,.ls 14 1 j),(13,i64 t.1),(6,.lp 6 0),(1,yds c),(2,i64 v),(4,ybk e),(5,i64 k)]) (fun j=>[(14,some (.vec (((List.range j).map f).map i64))),(6,some (.cells [yah g.ids,yat g.ports]))]) (fun j=>ls.length - j) (fun j=>j<=ls.length) 0 om zs (yai (yaa rfl (yaa rfl yag))) ?_;intro j hj;refine zY ?_;refine zj ?_ ?_ <;> intro h1
   .simp at h1;have ih:=yrf W hk a ho.2 (k+1) r true (j:Int) hk2 hka (zlw (n:=0) hll h1) (fun _=>⟨om,om⟩);rw [show ((k+1:Nat):Int)=(k:Int)+1 by omega] at ih
    (repeat (first|refine zz ?_|refine ydx tok rfl rfl rfl sm rfl (by simp [yar]) so rfl rfl rfl rfl rfl ?_))
    refine ylb (j+1) om om zs (hsE ?_);rw [range_snoc,qbu];exact yic
   simp at h1;obtain rfl:j=ls.length:=by omega
   (repeat (first|with_reducible refine ydk ?_|with_reducible refine ycd ?_|refine ycy ?_|refine ymi ?_))
   refine zt ?_;refine zcp (f:=i64) (l:=(List.range ls.length).map f) 14 rfl sm rfl rfl ?_
   (repeat (first|refine zy ?_|refine zc (rfold_con t.1 ((List.range ls.length).map f) hop so (fun x hx=>by obtain ⟨j,hj,rfl⟩:=qag.1 hx;exact hin j (qca.1 hj))) ?_))
   refine zr ?_;exact yaf (by simp only [Scn.val];rw [if_pos hagb,hdeg])
 | .bi t a d,ho,k,r,b,port,hE,ht,hp,hb=>by
  have hE2:e.drop k=t::(a.fl++(d.fl++r)):=by rw [hE];simp [Ex.fl]
  obtain ⟨hk1,hk2,hk3⟩:=ypb hE2;have he:=W.he;have h17:=xmm ho.1;have hna:ykg t.1=false:=by cases h:ykg t.1 with|false=>rfl|true=>have:=yqh.1 h;omega
  have hka:=ypq kinds hk b (.bi t a d) a ho (by simp [zoz]) ht;have hkd:=ypq kinds hk b (.bi t a d) d ho (by simp [zoz]) ht;simp only [hd,hna,qdv] at hka hkd;have hk4:=yyo hk2;have ih1:=yrf W hk a ho.2.1 (k+1) _ b port hk2 hka hp hb;have ih2:=yrf W hk d ho.2.2 (k+1+a.fl.length) r b port hk4 hkd hp hb;rw [show ((k+1:Nat):Int)=(k:Int)+1 by omega] at ih1;have hin1:InV ((⟨g,c,v⟩:Scn).val port a):=ypw W.ok a (fun x hx=>W.ha x (yei hk2 x hx)) hp;have hin2:InV ((⟨g,c,v⟩:Scn).val port d):=ypw W.ok d (fun x hx=>W.ha x (yei hk4 x hx)) hp;have har:=ygt t.1;rw [ho.1] at har;have hop1:=yia e k (.bi t a d) [a] t r (d.fl++r) he hE ho (by rw [hE2];simp [flX]) (by intro X hX;obtain rfl:=qaq.1 hX;exact ho.2.1) (by rw [ho.1];simp);rw [show (k+1+(flX [a]).length)=k+1+a.fl.length by simp [flX]] at hop1;refine ze Tryz.func177 ntmps177 Tryz.results177 ?_
  (repeat (first|refine zz ?_|refine zc (rbin_con _ _ _ h17 hin1 hin2) ?_))
  exact zp
 | .tr t a d f,ho,k,r,b,port,hE,ht,hp,hb=>by
  have hE2:e.drop k=t::(a.fl++(d.fl++(f.fl++r))):=by rw [hE];simp [Ex.fl]
  obtain ⟨hk1,hk2,hk3⟩:=ypb hE2;have he:=W.he;have h17:=xmn ho.1;have hna:ykg t.1=false:=by cases h:ykg t.1 with|false=>rfl|true=>have:=yqh.1 h;omega
  have hka:=ypq kinds hk b (.tr t a d f) a ho (by simp [zoz]) ht;have hkd:=ypq kinds hk b (.tr t a d f) d ho (by simp [zoz]) ht;have hkf:=ypq kinds hk b (.tr t a d f) f ho (by simp [zoz]) ht;simp only [hd,hna,qdv] at hka hkd hkf;have hk4:=yyo hk2;have hk5:=yyo hk4;have ih1:=yrf W hk a ho.2.1 (k+1) _ b port hk2 hka hp hb;have ih2:=yrf W hk d ho.2.2.1 (k+1+a.fl.length) _ b port hk4 hkd hp hb;have ih3:=yrf W hk f ho.2.2.2 (k+1+a.fl.length+d.fl.length) r b port hk5 hkf hp hb;rw [show ((k+1:Nat):Int)=(k:Int)+1 by omega] at ih1;have har:=ygt t.1;rw [ho.1] at har;have hop1:=yia e k (.tr t a d f) [a] t r (d.fl++(f.fl++r)) he hE ho (by rw [hE2];simp [flX]) (by intro X hX;obtain rfl:=qaq.1 hX;exact ho.2.1) (by rw [ho.1];simp);rw [show (k+1+(flX [a]).length)=k+1+a.fl.length by simp [flX]] at hop1;have hop2:=yia e k (.tr t a d f) [a,d] t r (f.fl++r) he hE ho (by rw [hE2];simp [flX]) (by intro X hX;simp at hX;rcases hX with rfl|rfl <;> first|exact ho.2.1|exact ho.2.2.1) (by rw [ho.1];simp);rw [show (k+1+(flX [a,d]).length)=k+1+a.fl.length+d.fl.length by simp [flX];omega] at hop2;refine ze Tryz.func177 ntmps177 Tryz.results177 ?_;refine zZ ?_;refine zj ?_ ?_ <;> intro q5
  .refine zZ ?_;refine zr ?_;exact yaf (by simp only [Scn.val];rw [if_pos (by simpa using q5)])
  refine zZ ?_;refine zr ?_;exact yaf (by simp only [Scn.val];rw [if_neg (by simpa using q5)])
end
section
open Go.RowKit
theorem zxq (h:CfgOk p g c) (hv:v < c.length) {e:List Tm} (ht:(ofF e (ybe p) false).1≠0):Con prog 177 [yfm g,yds c,i64 v,i64 (-1),ybk e,i64 0] (i64 ((⟨g,c,v⟩:Scn).of e)):=by
 obtain ⟨E,hp,hE,ho,hfl,hk,hval,hty⟩:=xia ht rfl;obtain ⟨ls,hls⟩:=h.links hv;have W:=h.walk hls (by rw [<- h.kinds];exact hval);have hc:=yrf W hk E ho 0 [] false (-1) (by rw [hfl];simp) hty (by unfold InV yeu;omega) sm;unfold Scn.of;rw [hE];exact hc
theorem zjf (h:CfgOk p g c) (hv:v < c.length):Con prog 172 [yhb p,yfm g,yds c,i64 v] (i64 (zzk p ⟨g,c,v⟩)):=by
 have hlen:=(ycp h.prog).2.2.1;refine ze Tryz.func172 ntmps172 Tryz.results172 ?_;refine zY ?_;refine ybl (α:=Nat) (fun k=>[(9,i64 k),(4,.lp 4 0),(5,.lp 5 0),(2,yds c),(3,i64 v)]) (fun k=>[(4,some (.cells [ynt p.name,.sl 6 (p.vars.map ybq),.sl 3 (p.rules.map ybg)])),(5,some (.cells [yah g.ids,yat g.ports]))]) (fun k=>p.rules.length - k) (fun k=>k<=p.rules.length/\∀ j b,j < k->(p.rules.map fun r=>(⟨g,c,v⟩:Scn).of r.guard)[j]?=some b->b=0) 0 ⟨om,fun j b hj=>by omega⟩ zs zh ?_;intro k ⟨hk,hall⟩;refine zY ?_;refine zj ?_ ?_ <;> intro h1
 .simp at h1;obtain ⟨r,hr⟩:=ybr h1;have hat:(p.rules.map fun r=>(⟨g,c,v⟩:Scn).of r.guard)[k]?=some ((⟨g,c,v⟩:Scn).of r.guard):=by rw [qah,hr];rfl
  have ht:=zvw h.prog (qab hr)
  (repeat (first|refine zy ?_|refine zc (zxq h hv (e:=r.guard) om) ?_))
  refine zj ?_ ?_ <;> intro h2
  .refine zk ?_;exact yaf (by unfold zzk;rw [zvr hat (by simpa using h2) hall];simp)
  refine zY ?_;refine rnd (k+1) ⟨om,fun j b hj hb=>?_⟩ om zs zh;by_cases e:j=k
  .subst e;rw [hat] at hb;cases hb;simpa using h2
  exact hall j b om hb
 simp at h1;obtain rfl:k=p.rules.length:=by omega
 refine zk ?_;refine yaf ?_;unfold zzk;rw [zbr];intro a ha;obtain ⟨j,hj⟩:=qan ha;exact hall j a (by have:=(qaa.1 hj).1;simpa using this) hj
theorem yww (h:CfgOk p g c):Con prog 114 [yhb p,yfm g,yds c] (ybd (ydn p g c)):=by
 have hl:=h.len;have h24:=h.n24;refine ze Tryz.func114 ntmps114 Tryz.results114 ?_;refine zY ?_;refine ybl (α:=Nat) (fun k=>[(8,i64 k),(7,ybd (yns (yrz p g c) k)),(3,.lp 3 0),(4,.lp 4 0),(2,yds c)]) (fun k=>[(3,some (.cells [ynt p.name,.sl 6 (p.vars.map ybq),.sl 3 (p.rules.map ybg)])),(4,some (.cells [yah g.ids,yat g.ports]))]) (fun k=>c.length - k) (fun k=>k<=c.length) 0 om zs zh ?_;intro k hk;refine zY ?_;refine zj ?_ ?_ <;> intro h1
 .simp at h1
  (repeat (first|refine zy ?_|refine zc (zjf h h1) ?_))
  have hnext:∀ q,yrz p g c k=q->yns (yrz p g c) (k+1)=if q=true then yns (yrz p g c) k ||| (1#32 <<< k) else yns (yrz p g c) k:=fun q hq=>by rw [yns,hq]
  refine zj ?_ ?_ <;> intro h2
  ·(try refine zbx ?_)
   have e:=hnext true (by simpa [yrz] using h2);rw [if_pos rfl] at e;refine rnd (k+1) om om ?_ zh;rw [e];exact zs
  refine zY ?_;have e:=hnext false (by simpa [yrz] using h2);rw [if_neg sm] at e;refine rnd (k+1) om om ?_ zh;rw [e];exact zs
 simp at h1;obtain rfl:k=c.length:=by omega
 exact zkp
theorem renabled_con (h:CfgOk p g c):Con prog 62 [yhb p,yfm g,yds c] (ybd (ydn p g c)):=by
 have hm:=zat p g c h.fair h.cin;rw [h.chk] at hm;refine ze Tryz.func62 ntmps62 Tryz.results62 ?_
 (repeat (first|refine zz ?_|refine zc (yww h) ?_))
 exact zp
end
section
open Go.RowKit
def yxi (r:RuleD):Nat:=r.guard.length+(r.sets.map fun x=>x.val.length).sum
def zyg (p:ProgD):Nat:=(p.rules.map yxi).sum
theorem zyc {m:Nat}:∀ {l:List α},(∀ x∈l,f x<=m)->(l.map f).sum<=l.length * m
 | [],_=>by simp
 | a::l,h=>by
  have:=zyc (l:=l) fun x hx=>h x (by simp [hx]);have:=h a sm;simp only [qcl,List.sum_cons,qaj,qdh];omega
theorem zyh (h:ylt p=true):p.rules.length<=16/\(∀ r∈p.rules,r.guard.length<=250/\r.sets.length<=10/\∀ x∈r.sets,x.val.length<=250)/\zyg p<=44000/\∀ r∈p.rules,yxi r<=2750:=by
 unfold ylt at h;simp only [qac,decide_eq_true_eq,List.all_eq_true] at h;have hr:∀ r∈p.rules,r.guard.length<=250/\r.sets.length<=10/\∀ x∈r.sets,x.val.length<=250:=fun r hr=>by
  have:=h.2.2.2.2 r hr;unfold yqt at this;simp only [qac,decide_eq_true_eq,List.all_eq_true] at this;refine ⟨om,om,fun x hx=>?_⟩;have:=this.2.2.2 x hx;omega
 have ht:∀ r∈p.rules,yxi r<=2750:=fun r hr'=>by
  obtain ⟨h1,h2,h3⟩:=hr r hr';have:=zyc (f:=fun x:SetD=>x.val.length) h3;unfold yxi;omega
 refine ⟨h.2.2.1,hr,?_,ht⟩;have:=zyc ht;unfold zyg;omega
theorem zyd {l:List α} {x:α} (h:l[k]?=some x):((l.take (k+1)).map f).sum=((l.take k).map f).sum+f x:=by
 rw [yan h];simp
theorem zye (l:List α) (k:Nat):((l.take k).map f).sum<=(l.map f).sum:=by
 have:=congrArg (fun l=>(l.map f).sum) (qcg k l);simp only [qbu,List.sum_append] at this;omega
theorem terms_con (p:ProgD) (hl:ylt p=true):Con prog 113 [yhb p] (i64 (zyg p)):=by
 obtain ⟨h1,h2,h3,h4⟩:=zyh hl;refine ze Tryz.func113 ntmps113 Tryz.results113 ?_;refine zY ?_;refine ybl (α:=Nat) (fun k=>[(4,i64 k),(3,i64 (((p.rules.take k).map yxi).sum:Nat)),(1,.lp 1 0)]) (fun k=>[(1,some (.cells [ynt p.name,.sl 6 (p.vars.map ybq),.sl 3 (p.rules.map ybg)]))]) (fun k=>p.rules.length - k) (fun k=>k<=p.rules.length) 0 om zs zh ?_;intro k hk;have hb1:=zye (f:=yxi) p.rules k;have hb1:((p.rules.take k).map yxi).sum<=44000:=qbp hb1 h3;refine zY ?_;refine zj ?_ ?_ <;> intro q1
 .simp at q1;obtain ⟨r,hr⟩:=ybr q1;obtain ⟨g1,g2,g3⟩:=h2 r (qab hr);refine zY ?_;refine ybl (α:=Nat) (fun j=>[(5,i64 j),(4,i64 k),(3,i64 (((p.rules.take k).map yxi).sum+r.guard.length+((r.sets.take j).map fun x=>x.val.length).sum:Nat)),(1,.lp 1 0)]) (fun j=>[(1,some (.cells [ynt p.name,.sl 6 (p.vars.map ybq),.sl 3 (p.rules.map ybg)]))]) (fun j=>r.sets.length - j) (fun j=>j<=r.sets.length) 0 om ?_ zh ?_
  .refine yas rfl (yas rfl (yas (yfx rfl (yof sm)) zs))
  intro j hj;have hb2:=zye (f:=fun x:SetD=>x.val.length) r.sets j;have hb2:((r.sets.take j).map fun x=>x.val.length).sum<=2500:=qbp hb2 (qbp (zyc g3) om);refine zY ?_;refine zj ?_ ?_ <;> intro q2
  .simp at q2;obtain ⟨x,hx⟩:=ybr q2;have:=g3 x (qab hx);refine zY ?_;refine rnd (j+1) om om ?_ zh;refine yas rfl (yas rfl (yas (yfx rfl (yof ?_)) zs));rw [zyd hx];omega
  simp at q2;obtain rfl:j=r.sets.length:=by omega
  refine zY ?_;refine rnd (k+1) om om ?_ zh;refine yas rfl (yas (yfx rfl (yof ?_)) zs);rw [zyd hr,yxi,qay];omega
 simp at q1;obtain rfl:k=p.rules.length:=by omega
 refine zk ?_;exact yaf (by rw [qay];rfl)
def xkz (g:GraphD):Nat:=g.ports.foldl (fun d l=>max d l.length) 1
theorem deg_snoc {l:List (List Lk)} {x:List Lk} (h:l[k]?=some x):(l.take (k+1)).foldl (fun d l=>max d l.length) 1=max ((l.take k).foldl (fun d l=>max d l.length) 1) x.length:=by
 rw [yan h,qcu];rfl
theorem xgg {m:Nat}:∀ {l:List (List Lk)} {d:Nat},d<=m->(∀ x∈l,x.length<=m)->l.foldl (fun d l=>max d l.length) d<=m
 | [],d,h,_=>h
 | a::l,d,h,hl=>xgg (l:=l) (by have:=hl a sm;show max d a.length<=m;omega) fun x hx=>hl x (by simp [hx])
theorem degrees_con (g:GraphD) (hl:yoh g=true):Con prog 112 [yfm g] (i64 (xkz g)):=by
 obtain ⟨h1,h2,h3⟩:=(ygq g).1 hl;refine ze Tryz.func112 ntmps112 Tryz.results112 ?_;refine zY ?_;refine ybl (α:=Nat) (fun k=>[(4,i64 k),(3,i64 ((g.ports.take k).foldl (fun d l=>max d l.length) 1:Nat)),(1,.lp 1 0)]) (fun k=>[(1,some (.cells [yah g.ids,yat g.ports]))]) (fun k=>g.ports.length - k) (fun k=>k<=g.ports.length) 0 om (yas rfl (yas (yfx rfl (yof sm)) zs)) zh ?_;intro k hk;refine zY ?_;refine zj ?_ ?_ <;> intro q1
 .simp at q1;obtain ⟨ls,hls⟩:=ybr q1;refine zY ?_;refine rnd (k+1) om om ?_ zh;refine yas rfl (yas (yfx rfl (yof ?_)) zs);rw [deg_snoc hls];generalize (g.ports.take k).foldl (fun d l=>max d l.length) 1=d;split <;> omega
 simp at q1;obtain rfl:k=g.ports.length:=by omega
 refine zk ?_;exact yaf (by rw [qay];rfl)
theorem deg_pos (g:GraphD) (hl:yoh g=true):xkz g<=30:=by
 obtain ⟨h1,h2,h3⟩:=(ygq g).1 hl;exact xgg om h3
theorem prods {a b c A B C:Nat} (ha:a<=A) (hb:b<=B) (hc:c<=C):0<=(a:Int) * b/\(a:Int) * b<=(A * B:Nat)/\0<=(a:Int) * b * c/\(a:Int) * b * c<=(A * B * C:Nat)/\0<=(a:Int) * b * c * c/\(a:Int) * b * c * c<=(A * B * C * C:Nat):=by
 have h1:a * b<=A * B:=qhw ha hb;have h2:a * b * c<=A * B * C:=qhw h1 hc;have h3:a * b * c * c<=A * B * C * C:=qhw h2 hc;have e1:(a:Int) * b=((a * b:Nat):Int):=by simp
 have e2:(a:Int) * b * c=((a * b * c:Nat):Int):=by simp
 have e3:(a:Int) * b * c * c=((a * b * c * c:Nat):Int):=by simp
 rw [e3,e2,e1];omega
def zar (p:ProgD) (g:GraphD):Bool:=ylt p && yoh g && decide ((zyg p:Int) * g.ports.length * xkz g * xkz g<=100000)
theorem quick_con (p:ProgD) (g:GraphD) (hin:yio p):Con prog 60 [yhb p,yfm g] (yay (zar p g)):=by
 refine ze Tryz.func60 ntmps60 Tryz.results60 ?_
 (repeat (first|refine zy ?_|refine zc (lightP_con p hin) ?_))
 refine yam 9 rfl (fun h1=>?_) (fun h1=>?_)
 .refine zk ?_;exact yae (by simp at h1;simp [zar,h1])
 have h1:ylt p=true:=by simpa using h1
 (repeat (first|refine zy ?_|refine zc (lightGraph_con g) ?_))
 refine zj ?_ ?_ <;> intro h2
 .refine zk ?_;exact yae (by simp at h2;simp [zar,h2])
 have h2:yoh g=true:=by simpa using h2
 have hm:=prods (zyh h1).2.2.1 ((ygq g).1 h2).2.1 (deg_pos g h2)
 (repeat (first|refine zy ?_|refine zc (degrees_con g h2) ?_|refine zc (terms_con p h1) ?_))
 refine zr ?_;exact yae (by simp [zar,h1,h2])
def arB (g:GraphD) (B:BitVec 32) (v:Nat):Bool:=(g.ports.getD v []).any fun l=>B.getLsbD l.1.toNat
theorem zuo {f:α->Bool} {l:List α} {x:α} (h:l[k]?=some x):(l.take (k+1)).any f=((l.take k).any f || f x):=by
 rw [yan h];simp
end
section
open Go.RowKit
theorem zee (B:BitVec 32) (v:Nat) (hv:v < 32):Con prog 117 [ybd B,i64 v] (yay (B.getLsbD v)):=by
 refine ze Tryz.func117 ntmps117 Tryz.results117 ?_
 (try refine zb ?_)
 refine yam 7 rfl (fun h1=>?_) (fun h1=>?_)
 ·(try refine zb ?_)
  refine yam 11 rfl (fun h2=>?_) (fun h2=>?_)
  ·(try refine zb ?_)
   refine zr ?_;rw [<- ztl];exact Frz.pure
  exact absurd h2 so
 exact absurd h1 sm
end
section
open Go.RowKit
theorem ywz (kind:Int):Con prog 61 [i64 kind] (yay (decide (1<=kind) && decide (kind<=4))):=by
 refine ze Tryz.func61 ntmps61 Tryz.results61 ?_;refine zY ?_;refine yam 5 rfl (fun h1=>?_) (fun h1=>?_)
 .refine zk ?_;exact yae (by simp at h1;simp;omega)
 refine zk ?_;exact yae (by simp at h1;simp;omega)
theorem rleast15_con (B:BitVec 32):Con prog 175 [ybd B] (ybd (-B &&& B)):=by
 refine ze Tryz.func175 ntmps175 Tryz.results175 ?_;refine zY ?_;refine ybl (α:=Nat) (fun v=>[(3,i64 v),(0,ybd B)]) (fun _=>[]) (fun v=>32 - v) (fun v=>v<=32/\∀ u,u < v->B.getLsbD u=false) 0 ⟨om,fun u hu=>by omega⟩ zs yag ?_;rintro v ⟨hv,hb⟩;refine zY ?_;refine zj ?_ ?_ <;> intro q1
 .simp at q1;have hh:=zee B v om;refine zZ ?_;refine zj ?_ ?_ <;> intro q2
  .have q2:B.getLsbD v=true:=q2;have h0:B≠0#32:=fun e=>by rw [e] at q2;simp at q2
   obtain ⟨t1,t2,t3⟩:=yhc h0;have e:tzV B=v:=by
    rcases Nat.lt_trichotomy (tzV B) v with h|h|h
    .rw [hb _ h] at t2;cases t2
    .exact h
    rw [t3 v h] at q2;cases q2
   have e2:-B &&& B=1#32 <<< v:=by rw [qhs,yyw h0,e]
   (try refine zbx ?_)
   refine zr ?_;rw [e2];exact Frz.pure
  have q2:B.getLsbD v=false:=q2;refine zY ?_;exact rnd (v+1) ⟨om,fun u hu=>by
   rcases qbi u v with h|h
   .exact hb u h
   rw [show u=v by omega];exact q2⟩ om zs yag
 simp at q1;have h0:B=0#32:=by
  apply qbj;intro u hu;rw [hb u om];simp
 refine zk ?_;rw [h0];exact Frz.pure
theorem popF_succ (f:Nat->Bool) (n:Nat):yps f (n+1)=yps f n+if f n=true then 1 else 0:=by
 unfold yps;rw [qcr,qck,qao];cases h:f n <;> simp [h]
theorem rcount15_con (B:BitVec 32):Con prog 96 [ybd B] (i64 (zpw B:Nat)):=by
 refine ze Tryz.func96 ntmps96 Tryz.results96 ?_;refine zY ?_;refine ybl (α:=Nat) (fun v=>[(4,i64 v),(3,i64 (yps B.getLsbD v:Nat)),(0,ybd B)]) (fun _=>[]) (fun v=>32 - v) (fun v=>v<=32) 0 om zs yag ?_;intro v hv;refine zY ?_;refine zj ?_ ?_ <;> intro q1
 .simp at q1;have hh:=zee B v om;have hp:=zsy B.getLsbD v;have hs:=popF_succ B.getLsbD v;refine zZ ?_;refine zj ?_ ?_ <;> intro q2
  .have q2:B.getLsbD v=true:=q2;rw [if_pos q2] at hs;refine zY ?_;refine rnd (v+1) om om ?_ yag;rw [hs];exact zs
  have q2:B.getLsbD v=false:=q2;rw [if_neg (by rw [q2];simp)] at hs;refine zY ?_;refine rnd (v+1) om om ?_ yag;rw [hs];exact zs
 simp at q1;obtain rfl:v=32:=by omega
 exact zkp
theorem rsubsets_con (e:BitVec 32):Con prog 118 [ybd e] (ynn (yzq e)):=by
 have hl:=rleast15_con e;refine ze Tryz.func118 ntmps118 Tryz.results118 ?_;refine zZ ?_;refine zjz 3 60 1 rfl rfl rfl ?_;refine ycx (α:=BitVec 32 × List (BitVec 32)) (fun a=>[(4,ybd a.1),(3,.ls 60 1 a.2.length),(0,ybd e)]) (fun a=>[(60,some (.vec (a.2.map ybd)))]) (fun a=>xjo a.1) (fun a=>ysw a.1 e/\a.2++zgz e a.1=yzq e) (-e &&& e,[]) ⟨yjs e,rfl⟩ zs (yai zh) ?_;rintro ⟨x,acc⟩ ⟨hx,hacc⟩;simp only at hx hacc ⊢;refine zY ?_;refine zj ?_ ?_ <;> intro q6
 .rw [yfh] at q6;have q6:x≠0#32:=by simpa [bne] using q6
  have hfar:=zvk hx q6;rw [yzr hx q6] at hacc;have hbd:acc.length+(x::zgz e (ykq e x)).length<=4294967296:=by
   have:=congrArg List.length hacc;rw [qao] at this;rw [this];exact qbp (yrl e _ _) om
  simp only [qaj] at hbd
  (repeat (first|refine zq ?_|refine ydx tok rfl rfl rfl sm rfl (by simp [yar]) so rfl rfl rfl rfl rfl ?_))
  refine ylb (ykq e x,acc++[x]) ⟨yjm e x,by rw [qbb];exact hacc⟩ hfar (by simp only [qao];exact zs) (yai (yaa ?_ yag));show some _=some _;simp;rfl
 rw [yfh] at q6;have q6:x=0#32:=by simpa [bne] using q6
 rw [q6,yzs,qbe] at hacc;refine zk ?_;rw [<- hacc];exact yun rfl rfl
theorem rneigh01_con (g:GraphD) (hg:ych g=true) (hl:yoh g=true) (B:BitVec 32):Con prog 119 [yfm g,ybd B] (ybd (yng g B)):=by
 have hv:=yba hg;have hrv:=yzk g hl;rw [hg] at hrv;refine ze Tryz.func119 ntmps119 Tryz.results119 ?_;refine zZ ?_;refine ybl (α:=Nat) (fun k=>[(6,i64 k),(5,ybd (yns (arB g B) k)),(1,ybd B),(2,.lp 2 0)]) (fun k=>[(2,some (.cells [yah g.ids,yat g.ports]))]) (fun k=>g.ports.length - k) (fun k=>k<=g.ports.length) 0 om zs zh ?_;intro k hk;refine zY ?_;refine zj ?_ ?_ <;> intro h1
 .simp at h1;obtain ⟨ls,hls⟩:=ybr h1;have hlb:=hv.2.2.2.2.2.1 k ls hls;have hll:=ydb h1 hlb
  let W:Nat->BitVec 32:=fun j=>if (ls.take j).any (fun l=>B.getLsbD l.1.toNat)=true then yns (arB g B) k ||| (1#32 <<< k) else yns (arB g B) k
  refine zY ?_;refine ybl (α:=Nat) (fun j=>[(7,i64 j),(6,i64 k),(5,ybd (W j)),(1,ybd B),(2,.lp 2 0)]) (fun j=>[(2,some (.cells [yah g.ids,yat g.ports]))]) (fun j=>ls.length - j) (fun j=>j<=ls.length) 0 om zs zh ?_;intro j hj;refine zY ?_;refine zj ?_ ?_ <;> intro h2
  .simp at h2;obtain ⟨l,hl'⟩:=ybr h2;have hl1:=(ybp _ _ _).1 (((yck _ _ _).1 hlb).1 l (qab hl'));obtain ⟨to,wt,rfl⟩:∃ (to:Nat) (wt:Int),l=((to:Int),wt):=⟨l.1.toNat,l.2,by rw [qfd hl1.1]⟩;have hh:=zee B to (by simp at hl1;omega);refine zZ ?_;refine zj ?_ ?_ <;> intro h3
   .have h3:B.getLsbD (((to:Int),wt):Lk).1.toNat=true:=h3
    (try refine zbx ?_)
    refine rnd (j+1) om om ?_ zh;refine yas rfl (yas rfl (yas (yfx rfl ?_) zs));simp only [W];rw [zuo hl',h3,Bool.or_true,if_pos rfl];split
    .rw [qct,BitVec.or_assoc,BitVec.or_self]
    rfl
   have h3:B.getLsbD (((to:Int),wt):Lk).1.toNat=false:=h3;refine zY ?_;refine rnd (j+1) om om ?_ zh;refine yas rfl (yas rfl (yas (yfx rfl ?_) zs));simp only [W];rw [zuo hl',h3,qdv]
  simp at h2;obtain rfl:j=ls.length:=by omega
  refine zY ?_;refine rnd (k+1) om om ?_ zh;refine yas rfl (yas (yfx rfl ?_) zs);simp only [W];rw [qay,yns];have e:arB g B k=ls.any fun l=>B.getLsbD l.1.toNat:=by unfold arB;rw [qad,hls];rfl
  rw [e]
 simp at h1;obtain rfl:k=g.ports.length:=by omega
 exact zkp
theorem indep_around (hg:ych g=true) {x:BitVec 32} (hx:InN g.ports.length x):ytm g x=(yng g x &&& x == 0#32):=by
 have hv:=yba hg;have key:∀ v,v < g.ports.length->((ynk g).getD v 0#32 &&& x=0#32<->(yng g x).getLsbD v=false):=fun v hvl=>by
  obtain ⟨ls,hls⟩:=ybr hvl;have hin:=hv.2.2.2.2.2.1 v ls hls;have hn:(ynk g).getD v 0#32=zpq ls:=by simp [ynk,hls]
  have ha:(yng g x).getLsbD v=ls.any fun l=>x.getLsbD l.1.toNat:=by
   unfold yng;rw [yik _ _ _ om,decide_eq_true hvl,qfv,qad,hls];rfl
  rw [hn,ha];constructor
  .intro h;rw [qgb];intro l hl hb;have hb32:l.1.toNat < 32:=by
    rcases qbi l.1.toNat 32 with h9|h9
    .exact h9
    rw [qbs _ _ h9] at hb;cases hb
   have:=congrArg (fun X=>BitVec.getLsbD X l.1.toNat) h;simp only [qav,hb,qfl,qbf] at this;rw [zpq,ywl hb32] at this;simp only [qbf,qfa,qgb] at this;exact this l hl sm
  intro h;rw [qgb] at h;apply qbj;intro u hu;rw [qav,zpq,ywl hu,qbf,qfa];cases hxu:x.getLsbD u with
  | false=>simp
  | true=>
   rw [qfl,qgb];intro l hl e;exact h l hl (by rw [<- of_decide_eq_true e];exact hxu)
 rw [qbq,yvw,beq_iff_eq];constructor
 .intro h;apply qbj;intro u hu;rw [qav,qbf];cases hxu:x.getLsbD u with
  | false=>simp
  | true=>
   have hun:u < g.ports.length:=by
    rcases qbi u g.ports.length with h9|h9
    .exact h9
    rw [hx u h9] at hxu;cases hxu
   rw [(key u hun).1 (h u om hxu)];rfl
 intro h v h24 hxv;have hun:v < g.ports.length:=by
  rcases qbi v g.ports.length with h9|h9
  .exact h9
  rw [hx v h9] at hxv;cases hxv
 refine (key v hun).2 ?_;have:=congrArg (fun X=>BitVec.getLsbD X v) h;simpa [hxv] using this
theorem per_around (hg:ych g=true) (hk:kind=2\/kind=3) {x:BitVec 32} (he:InN g.ports.length e) (hx:ysw x e) (h0:x≠0#32):yxt g kind e x=(decide (kind=3) || yng g x &&& x == 0#32):=by
 have hxn:InN g.ports.length x:=fun u hu=>by
  cases hb:x.getLsbD u with
  | false=>rfl
  | true=>exact absurd (he u hu) (by rw [hx.bit hb];simp)
 have hx':x &&& ~~~e=0#32:=hx;unfold yxt;rw [show (x == 0#32)=false by simpa using h0,hx'];rcases hk with rfl|rfl
 .rw [indep_around hg hxn];simp
 simp
theorem zfx (e:BitVec 32):∀ (n:Nat) (x:BitVec 32),ysw x e->∀ y∈ymc e n x,ysw y e/\y≠0#32
 | 0,x,_,y,h=>by simp [ymc] at h
 | n+1,x,hx,y,h=>by
  unfold ymc at h;split at h
  .simp at h
  rename_i h0;rcases qas.1 h with rfl|h
  .exact ⟨hx,h0⟩
  exact zfx e n _ (yjm e x) y h
theorem cho_around (hg:ych g=true) (hk:kind=2\/kind=3) (he:InN g.ports.length e):znw g kind e=(yzq e).filter fun x=>decide (kind=3) || yng g x &&& x == 0#32:=by
 unfold znw;rw [if_neg om,if_neg om];refine qfz fun x hx=>?_;obtain ⟨h1,h2⟩:=zfx e _ _ (yjs e) x hx;exact per_around hg hk he h1 h2
theorem rallN_con (n:Nat) (hn:n<=24):Con prog 116 [i64 n] (ybd (yns (fun _=>true) n)):=by
 refine ze Tryz.func116 ntmps116 Tryz.results116 ?_;refine zY ?_;refine ybl (α:=Nat) (fun v=>[(4,i64 v),(3,ybd (yns (fun _=>true) v)),(0,i64 n)]) (fun _=>[]) (fun v=>n - v) (fun v=>v<=n) 0 om zs yag ?_;intro v hv;refine zY ?_;refine yam 8 rfl (fun q1=>?_) (fun q1=>?_)
 .simp at q1
  (try refine zbx ?_)
  refine yvb rfl (fun _=>?_) (fun q2=>?_)
  ·(try refine zbx ?_)
   refine rnd (v+1) om om ?_ yag;rw [show yns (fun _=>true) (v+1)=yns (fun _=>true) v ||| (1#32 <<< v) by simp [yns]];exact zs
  simp at q2;omega
 simp at q1;obtain rfl:v=n:=by omega
 exact zkp
theorem nodes_take (hv:v < 32):(List.range (v+1)).filter e.getLsbD=(List.range v).filter e.getLsbD++if e.getLsbD v=true then [v] else []:=by
 rw [qcr,qck];cases h:e.getLsbD v <;> simp [h]
theorem yvr {p:Nat->Bool} (h:∀ u,n<=u->p u=false):∀ k,(List.range (n+k)).filter p=(List.range n).filter p
 | 0=>rfl
 | k+1=>by
  rw [<- qdd,qcr,qck,yvr h k];simp [h (n+k) om]
theorem zwr (hn:n<=32) (he:InN n e):(List.range n).filter e.getLsbD=yca e:=by
 have:=yvr (p:=e.getLsbD) he (32 - n);rw [Nat.add_sub_cancel' hn] at this;exact this.symm
theorem rchoices_con (g:GraphD) (hg:ych g=true) (hl:yoh g=true) (kind:Int) (hk:1<=kind/\kind<=4) (e:BitVec 32) (he:InN g.ports.length e):Con prog 63 [yfm g,i64 kind,ybd e] (xlt (yyl g kind e)):=by
 have hv:=yba hg;have hrv:=yzk g hl;rw [hg] at hrv;have hrk:=ywz kind;rw [decide_eq_true hk.1,decide_eq_true hk.2] at hrk;have hall:=rallN_con g.ports.length hv.2.1;have hsub:e &&& ~~~(yns (fun _=>true) g.ports.length)=0#32:=by
  apply qbj;intro u hu;rw [qav,qcc,yik _ _ _ hu,qbf];rcases qbi u g.ports.length with h9|h9
  .simp [h9]
  rw [he u h9];simp
 refine ydv tok Tryz.func63 rfl rfl ntmps63 Tryz.results63 rfl (znv _) ?_
 (try refine zbz ?_)
 refine zj ?_ ?_ <;> intro q0
 .rw [yfh,hsub] at q0;simp at q0
 refine zY ?_;have hch0:yyl g kind e=if e=0#32 then some [] else if kind≠1/\kind≠4/\10 < zpw e then none else some (znw g kind e):=rfl
 refine zjz 8 60 1 rfl rfl rfl ?_;refine zj ?_ ?_ <;> intro q1
 .have k1:kind=1:=by simpa using q1
  subst k1;have hcv:yyl g 1 e=some ((yca e).map fun v=>1#32 <<< v):=by
   unfold yyl;by_cases h0:e=0#32
   .rw [if_pos h0,h0];rfl
   rw [if_neg h0,if_neg sm,znw,if_pos rfl]
  rw [hcv];refine zY ?_;refine ycx (α:=Nat) (fun v=>[(9,i64 v),(8,.ls 60 1 ((List.range v).filter e.getLsbD).length),(3,.lp 3 0),(2,ybd e)]) (fun v=>[(60,some (.vec (((List.range v).filter e.getLsbD).map fun v=>ybd (1#32 <<< v)))),(3,some (.cells [yah g.ids,yat g.ports]))]) (fun v=>g.ports.length - v) (fun v=>v<=g.ports.length) 0 om zs (yai zh) ?_;intro v hv';refine zY ?_;refine zj ?_ ?_ <;> intro q2
  .simp at q2;have hh:=zee e v om;have hnt:=nodes_take (e:=e) (show v < 32 by omega);have hnl:((List.range v).filter e.getLsbD).length<=v:=by have:=qdl e.getLsbD (List.range v);simpa using this
   refine zZ ?_;refine zj ?_ ?_ <;> intro q3
   .have q3:e.getLsbD v=true:=q3;rw [if_pos q3] at hnt
    (repeat (first|refine zbx ?_|refine ydx tok rfl rfl rfl sm rfl (by simp [yar]) so rfl rfl rfl rfl rfl ?_))
    refine ylb (v+1) om om (by rw [hnt,qao];exact zs) (yai (yaa ?_ (yaa rfl yag)));show some _=some _;rw [hnt];simp;rfl
   have q3:e.getLsbD v=false:=q3;rw [if_neg (by rw [q3];simp),qbe] at hnt;refine zY ?_;exact ylb (v+1) om om (by rw [hnt];exact zs) (hsE (by rw [hnt]))
  simp at q2;obtain rfl:v=g.ports.length:=by omega
  rw [zwr om he];refine zk ?_;exact Frz.tup2 (yun (by simp;rfl) sm) Frz.pure
 have k1:¬ kind=1:=by simpa using q1
 refine zY ?_;refine zj ?_ ?_ <;> intro q4
 .have k4:kind=4:=by simpa using q4
  subst k4;by_cases h0:e=0#32
  .rw [yyl,if_pos h0,h0];refine zk ?_;exact Frz.tup2 (yun (l:=[]) rfl rfl) Frz.pure
  rw [yyl,if_neg h0,if_neg sm,znw,if_neg om,if_pos rfl];refine zY ?_;refine zj ?_ ?_ <;> intro q5
  ·(repeat (first|refine zy ?_|refine ydx tok rfl rfl rfl rfl rfl (by simp [yar]) sm rfl rfl rfl rfl rfl ?_))
   refine zr ?_;exact Frz.tup2 (yun (l:=[e]) rfl rfl) Frz.pure
  rw [yfh] at q5;exact absurd (by simpa [bne] using q5) h0
 have k4:¬ kind=4:=by simpa using q4
 have hk23:kind=2\/kind=3:=by omega
 have hcnt:=rcount15_con e;have hsb:=rsubsets_con e;refine zZ ?_;refine zj ?_ ?_ <;> intro q5
 .have q5:10 < zpw e:=by simp at q5;omega
  have h0:e≠0#32:=fun h=>by
   rw [h,show zpw 0#32=0 from by decide +kernel] at q5;omega
  rw [yyl,if_neg h0,if_pos ⟨k1,k4,q5⟩];refine zk ?_;exact Frz.tup2 Frz.nil Frz.pure
 have q5:¬ 10 < zpw e:=by simp at q5;omega
 have hcv:yyl g kind e=some ((yzq e).filter fun x=>decide (kind=3) || yng g x &&& x == 0#32):=by
  rw [<- cho_around hg hk23 he];unfold yyl;by_cases h0:e=0#32
  .rw [if_pos h0];unfold znw;rw [if_neg k1,if_neg k4,h0,show yzq 0#32=[] by unfold yzq;rw [show -(0#32) &&& 0#32=0#32 by decide,yzs]];rfl
  rw [if_neg h0,if_neg (fun h=>q5 h.2.2)]
 rw [hcv];obtain ⟨l,hl'⟩:∃ l,yzq e=l:=⟨_,rfl⟩;rw [hl'] at hsb ⊢;have hll:l.length<=4294967296:=by rw [<- hl'];exact qbp (yrl e _ _) om
 obtain ⟨F,hF⟩:∃ F:BitVec 32->Bool,(fun x=>decide (kind=3) || yng g x &&& x == 0#32)=F:=⟨_,rfl⟩;have hFx:∀ x,F x=(decide (kind=3) || yng g x &&& x == 0#32):=fun x=>by rw [<- hF]
 rw [hF];refine zZ ?_;refine ycx (α:=Nat) (fun i=>[(11,i64 i),(10,ynn l),(8,.ls 60 1 ((l.take i).filter F).length),(3,.lp 3 0),(1,i64 kind)]) (fun i=>[(60,some (.vec (((l.take i).filter F).map ybd))),(3,some (.cells [yah g.ids,yat g.ports]))]) (fun i=>l.length - i) (fun i=>i<=l.length) 0 om zs (yai zh) ?_;intro i hi;refine zY ?_;refine zj ?_ ?_ <;> intro q6
 .simp at q6;obtain ⟨x,hx⟩:=ybr q6;have hne:=rneigh01_con g hg hl x;have hfl:((l.take i).filter F).length<=i:=qbp (qdl _ _) so;have hF2:=hFx x;have fin:∀ b:Bool,F x=b->((l.take (i+1)).filter F)=(l.take i).filter F++if b=true then [x] else []:=fun b hb=>by
   rw [yan hx,qck];cases b <;> simp [hb]
  refine zY ?_;refine yam 70 rfl (fun q7=>?_) (fun q7=>?_)
  .have q7:kind=3:=by simpa using q7
   have hb:F x=true:=by rw [hF2];simp [q7]
   have hn:=fin true hb;rw [if_pos rfl] at hn
   (repeat (first|refine zy ?_|refine ydx tok rfl rfl rfl sm rfl (by simp [yar]) so rfl rfl rfl rfl rfl ?_))
   refine ylb (i+1) om om (by rw [hn,qao];exact zs) (yai (yaa ?_ (yaa rfl yag)));show some _=some _;rw [hn];simp;rfl
  have q7:kind≠3:=by simpa using q7
  rw [decide_eq_false q7,qfa] at hF2
  (try refine zbz ?_)
  refine zj ?_ ?_ <;> intro q8
  .rw [yeq] at q8;have hn:=fin true (by rw [hF2];exact q8);rw [if_pos rfl] at hn
   (repeat (first|refine zy ?_|refine ydx tok rfl rfl rfl sm rfl (by simp [yar]) so rfl rfl rfl rfl rfl ?_))
   refine ylb (i+1) om om (by rw [hn,qao];exact zs) (yai (yaa ?_ (yaa rfl yag)));show some _=some _;rw [hn];simp;rfl
  rw [yeq] at q8;have hn:=fin false (by rw [hF2];exact q8);rw [if_neg sm,qbe] at hn;refine zY ?_;exact ylb (i+1) om om (by rw [hn];exact zs) (hsE (by rw [hn]))
 simp at q6;obtain rfl:i=l.length:=by omega
 rw [qay];refine zk ?_;exact Frz.tup2 (yun rfl rfl) Frz.pure
end
section
open Go.RowKit
def xfa:List (Int × Int)->List Int->List Int->Int
 | b::l,q::qs,z::zs=>(z - b.1) * q+xfa l qs zs
 | _,_,_=>0
theorem zxd:∀ {l:List (Int × Int)} {ds:List Int} (s P:Int),ds.length=l.length->yce s l ds * P=s * (zbe l P).2+xfa l (zbe l P).1 ds
 | [],[],s,P,_=>by simp [yce,zbe,xfa]
 | [],_::_,s,P,h=>by simp at h
 | _::_,[],s,P,h=>by simp at h
 | b::l,z::ds,s,P,h=>by
  have ih:=zxd (l:=l) (ds:=ds) (s * rgW b+z - b.1) P (by simpa using h);rw [yeo,ih];simp only [zbe,xfa];rw [show s * rgW b+z - b.1=s * rgW b+(z - b.1) by omega,qev,qez,Int.mul_comm (rgW b),Int.add_assoc];rfl
def xbc:List (List (Int × Int))->List (List Int)->List (List Int)->Int
 | r::t,q::qs,c::cs=>xfa r q c+xbc t qs cs
 | _,_,_=>0
theorem xea:∀ {t:List (List (Int × Int))} {c:List (List Int)} (s P:Int),ybu t c=true->(t.zip c).foldl (fun k q=>yce k q.1 q.2) s * P=s * (zaw t P).2+xbc t (zaw t P).1 c
 | [],c,s,P,h=>by simp [zaw,xbc]
 | _::_,[],s,P,h=>by simp [ybu] at h
 | r::t,x::c,s,P,h=>by
  obtain ⟨h1,h2⟩:=yhu.1 h;have ih:=xea (t:=t) (c:=c) (yce s r x) P h2;have hr:=zxd s (zaw t P).2 (ycg h1).1;simp only [qds,qdf];rw [ih,hr];simp only [zaw,xbc];omega
theorem zfj (h:ybu t c=true):ydc t c=xbc t (zaw t 1).1 c:=by
 have:=xea 0 1 h;rw [Int.mul_one,Int.zero_mul,Int.zero_add] at this;exact this
theorem zih {a m q:Int} {st mv pl:List Int}:∀ n,yjt (a::st) (m::mv) (q::pl) (n+1)=(m - a) * q+yjt st mv pl n
 | 0=>by simp [yjt]
 | n+1=>by
  rw [yjt,zih n,yjt];simp only [List.getD_cons_succ];omega
theorem zvb:∀ {l:List (Int × Int)} {pl st mv:List Int},pl.length=l.length->st.length=l.length->mv.length=l.length->xfa l pl mv=xfa l pl st+yjt st mv pl l.length
 | [],[],[],[],_,_,_=>by simp [xfa,yjt]
 | b::l,q::pl,a::st,m::mv,h1,h2,h3=>by
  have ih:=zvb (l:=l) (pl:=pl) (st:=st) (mv:=mv) (by simpa using h1) (by simpa using h2) (by simpa using h3);rw [qaj,zih];simp only [xfa];rw [ih];have:(m - b.1) * q=(a - b.1) * q+(m - a) * q:=by rw [<- qev];congr 1;omega
  omega
def xen (F:Nat->Int):Nat->Nat->Int
 | _,0=>0
 | k,n+1=>F k+xen F (k+1) n
theorem zqx (F:Nat->Int):∀ (n k:Nat),xen F k (n+1)=xen F k n+F (k+n)
 | 0,k=>by simp [xen]
 | n+1,k=>by
  rw [xen,zqx F n (k+1),xen,show k+1+n=k+(n+1) by omega];omega
theorem zvc {B:BitVec 32} {row:Nat->List Int} {F:Nat->Int}:∀ {t:List (List (Int × Int))} {pl c:List (List Int)} (k:Nat),pl.length=t.length->c.length=t.length->(∀ (i:Nat) r q st,t[i]?=some r->pl[i]?=some q->c[i]?=some st->q.length=r.length/\st.length=r.length/\(row (k+i)).length=r.length/\F (k+i)=if B.getLsbD (k+i)=true then yjt st (row (k+i)) q r.length else 0) ->
  xbc t pl (c.mapIdx fun i st=>if B.getLsbD (k+i)=true then row (k+i) else st)=xbc t pl c+xen F k t.length
 | [],[],[],k,_,_,_=>by simp [xbc,xen]
 | r::t,q::pl,st::c,k,h1,h2,h=>by
  obtain ⟨g1,g2,g3,g4⟩:=h 0 r q st rfl rfl rfl;have ih:=zvc (B:=B) (row:=row) (F:=F) (t:=t) (pl:=pl) (c:=c) (k+1) (by simpa using h1) (by simpa using h2) fun i r' q' st' e1 e2 e3=>by
   have:=h (i+1) r' q' st' e1 e2 e3
   rwa [show k+(i+1)=k+1+i by omega] at this
  rw [List.mapIdx_cons,qaj,xen];simp only [xbc,qdi] at g3 g4 ⊢;have e:(fun (i:Nat) (st:List Int)=>if B.getLsbD (k+(i+1))=true then row (k+(i+1)) else st)=fun i st=>if B.getLsbD (k+1+i)=true then row (k+1+i) else st:=by
   funext i st;rw [show k+(i+1)=k+1+i by omega]
  rw [e,ih,g4];split
  .rw [zvb g1 g2 g3];omega
  omega
theorem zqz {F f:Nat->Int} {p:Nat->Bool} (h:∀ v,F v=if p v=true then f v else 0):∀ n,zmh f ((List.range n).filter p)=xen F 0 n
 | 0=>rfl
 | n+1=>by
  rw [zqx,qcr,qck,qba,h n,<- zqz h n];cases hp:p n
  .simp [hp]
  rw [qdt hp,qhq,zfy];simp
theorem zpz (h:CfgOk p g c) {B:BitVec 32} (hB:ysw B (ydn p g c)) {n:Int} (hn:yci (yad p g)=(n,0)):ydc (yad p g) (ytr p g c B)=ydc (yad p g) c+zmh (yhq p g c) (yca B):=by
 have h24:=h.n24;have hl:=h.len;have ht:=ydf h.fair h.fit;have hst:=h.step B;have hin:InN g.ports.length B:=fun u hu=>by
  cases hb:B.getLsbD u with
  | false=>rfl
  | true=>
   have:=hB.bit hb;have h32:u < 32:=by
    rcases qbi u 32 with h9|h9
    .exact h9
    rw [qbs _ _ h9] at hb;cases hb
   have this:(yns (yrz p g c) c.length).getLsbD u=true:=this;rw [yik _ _ _ h32,decide_eq_false om] at this;cases this
 rw [zfj hst.table,zfj h.table];have htl:(yad p g).length=g.ports.length:=by simp [yad]
 have hd:=zvc (B:=B) (row:=zms p g c) (F:=fun v=>if B.getLsbD v=true then yhq p g c v else 0) (t:=yad p g) (pl:=yht p g) (c:=c) 0 (by simp [yht,yxg]) om fun i r q st e1 e2 e3=>by
  have hi:=(qaa.1 e3).1;obtain ⟨m1,m2⟩:=zss h hi;obtain ⟨pl,p1,p2,_⟩:=yzd ht hn e1;rw [e2] at p1;cases p1;have hrl:=yjz e1;refine ⟨p2,by rw [h.rowlen st (qab e3),hrl],by rw [qba,m1,hrl],?_⟩;rw [qba];by_cases hb:B.getLsbD i=true
  .have he:yrz p g c i=true:=by
    have this:(yns (yrz p g c) c.length).getLsbD i=true:=hB.bit hb;rw [yik _ _ _ om,qac] at this;exact this.2
   rw [if_pos hb,if_pos hb,yhq,if_pos he,qad,e3,qad,e2,hrl];rfl
  rw [if_neg hb,if_neg hb]
 simp only [qba] at hd;have hstp:(c.mapIdx fun i st=>if B.getLsbD i=true then zms p g c i else st)=ytr p g c B:=rfl;rw [hstp] at hd;show xbc (yad p g) (yht p g) _=xbc (yad p g) (yht p g) _+_;rw [hd,htl,<- zwr om hin,zqz (F:=fun v=>if B.getLsbD v=true then yhq p g c v else 0) (p:=B.getLsbD) (fun v=>rfl)]
theorem xdk:∀ {l:List (Int × Int)} {ds es:List Int},(∀ b∈l,wOk b)->ycf l ds=true->ycf l es=true->yce 0 l ds=yce 0 l es->ds=es
 | [],ds,es,_,h1,h2,_=>by
  have a:=(ycg h1).1;have b:=(ycg h2).1;rw [qaz a,qaz b]
 | b::l,[],_,_,h1,_,_=>by have:=(ycg h1).1;simp at this
 | b::l,_::_,[],_,_,h2,_=>by have:=(ycg h2).1;simp at this
 | b::l,z::ds,y::es,hw,h1,h2,he=>by
  obtain ⟨a1,a2⟩:=ygm.1 h1;obtain ⟨b1,b2⟩:=ygm.1 h2;have hwl:∀ x∈l,wOk x:=fun x hx=>hw x (qap _ hx);obtain ⟨i1,i2,i3⟩:=ymv (l:=l) (ds:=ds) (0 * rgW b+z - b.1) hwl a2;obtain ⟨j1,j2,j3⟩:=ymv (l:=l) (ds:=es) (0 * rgW b+y - b.1) hwl b2;rw [yeo,yeo,i1,j1] at he;have hp:=yor hwl;have hzy:z=y:=by
   rcases Int.lt_trichotomy z y with h|h|h
   .have:((0 * rgW b+z - b.1)+1) * yhi l<=(0 * rgW b+y - b.1) * yhi l:=qco om om;rw [qev,qen] at this;omega
   .exact h
   have:((0 * rgW b+y - b.1)+1) * yhi l<=(0 * rgW b+z - b.1) * yhi l:=qco om om;rw [qev,qen] at this;omega
  subst hzy;rw [xdk hwl a2 b2 om]
theorem xeb {d:List (List Int)} (hw:∀ b∈t.flatten,wOk b) (hc:ybu t c=true) (hd:ybu t d=true) (h:ydc t c=ydc t d):c=d:=by
 obtain ⟨c1,c2⟩:=yfd 0 hc;obtain ⟨d1,d2⟩:=yfd 0 hd;have hf:c.flatten=d.flatten:=xdk hw c2 d2 (by rw [<- c1,<- d1];exact h);have:∀ {t:List (List (Int × Int))} {c d:List (List Int)},ybu t c=true->ybu t d=true->c.flatten=d.flatten->c=d:=by
  intro t;induction t with
  | nil=>
   intro c d hc hd _;have a:c=[]:=by cases c with|nil=>rfl|cons x c=>simp [ybu] at hc
   have b:d=[]:=by cases d with|nil=>rfl|cons x d=>simp [ybu] at hd
   rw [a,b]
  | cons r t ih=>
   intro c d hc hd hf;cases c with
   | nil=>simp [ybu] at hc
   | cons x c=>
    cases d with
    | nil=>simp [ybu] at hd
    | cons y d=>
     obtain ⟨a1,a2⟩:=yhu.1 hc;obtain ⟨b1,b2⟩:=yhu.1 hd;rw [qci,qci] at hf;obtain ⟨e1,e2⟩:=List.append_inj hf (by rw [(ycg a1).1,(ycg b1).1]);rw [e1,ih a2 b2 e2]
 exact this hc hd hf
end
section
open Go.RowKit
theorem yre {b:Int × Int} {l:List (Int × Int)} {z:Int} {ds:List Int} (hw:∀ x∈l,wOk x) (h:ycf l ds=true):yce 0 (b::l) (z::ds)=(z - b.1) * yhi l+yce 0 l ds:=by
 rw [yeo,(ymv _ hw h).1,Int.zero_mul,Int.zero_add]
theorem zth {l:List (Int × Int)} (h:∀ b∈l,yua b):∀ b∈l,wOk b:=fun b hb=>by
 have:=h b hb;unfold yua at this;unfold wOk rgW;omega
theorem zuh:∀ {l:List (Int × Int)} {ds:List Int},(∀ b∈l,yua b)->ycf l ds=true->((yin l ds).1=true->yce 0 l (yin l ds).2=yce 0 l ds+1)/\((yin l ds).1=false->yce 0 l ds+1=yhi l/\yce 0 l (yin l ds).2=0)
 | [],ds,_,h=>by
  rw [qaz (ycg h).1];simp [yin,yce,yhi]
 | b::l,[],_,h=>by have:=(ycg h).1;simp at this
 | b::l,z::ds,hr,h=>by
  obtain ⟨h1,h2⟩:=ygm.1 h;have hrl:∀ x∈l,yua x:=fun x hx=>hr x (qap _ hx);have hwl:=zth hrl;obtain ⟨i1,i2⟩:=zuh hrl h2;have hs:=zdc hrl h2;have hz:=ysd.1 h1;have hrc:=yre (b:=b) (z:=z) hwl h2;unfold yin;cases ha:(yin l ds).1 with
  | true=>
   have i1:=i1 ha;simp only [if_true];refine ⟨fun _=>?_,fun h=>by cases h⟩;rw [yre hwl hs,hrc,i1];omega
  | false=>
   obtain ⟨i2,i3⟩:=i2 ha;simp only [qbl,if_false];by_cases hlt:z < b.2
   .rw [if_pos hlt];refine ⟨fun _=>?_,fun h=>by cases h⟩;rw [yre hwl hs,hrc,i3,show z+1 - b.1=(z - b.1)+1 by omega,qev,qen];omega
   rw [if_neg hlt];refine ⟨fun h=>(by cases h),fun _=>⟨?_,?_⟩⟩
   .rw [hrc,yhi,show rgW b=(z - b.1)+1 by unfold rgW;omega,qev,qen];omega
   rw [yre hwl hs,i3];simp
theorem zue:∀ {a b:List (Int × Int)} {p q:List Int},p.length=a.length->yin (a++b) (p++q)=if (yin b q).1=true then (true,p++(yin b q).2) else ((yin a p).1,(yin a p).2++(yin b q).2)
 | [],b,[],q,_=>by
  simp only [qcn,yin];split
  .rename_i h;rw [<- h]
  rename_i h;rw [show (false:Bool)=(yin b q).1 by simpa using h]
 | [],b,_::_,q,h=>by simp at h
 | _::_,b,[],q,h=>by simp at h
 | x::a,b,y::p,q,h=>by
  have ih:=zue (a:=a) (b:=b) (p:=p) (q:=q) (by simpa using h);rw [qax,qax,yin,ih];cases hb:(yin b q).1 with
  | true=>simp
  | false=>
   simp only [qbl,if_false,yin];cases ha:(yin a p).1 with
   | true=>simp
   | false=>
    simp only [qbl,if_false];split <;> simp
theorem zni:∀ {t:List (List (Int × Int))} {c:List (List Int)},ybu t c=true->(yov t c).1=(yin t.flatten c.flatten).1/\(yov t c).2.flatten=(yin t.flatten c.flatten).2
 | [],c,h=>by
  have:c=[]:=by cases c with|nil=>rfl|cons x c=>simp [ybu] at h
  rw [this];simp [yov,yin]
 | r::t,[],h=>by simp [ybu] at h
 | r::t,x::c,h=>by
  obtain ⟨h1,h2⟩:=yhu.1 h;obtain ⟨i1,i2⟩:=zni h2;rw [qci,qci,zue (ycg h1).1,yov];cases ht:(yov t c).1 with
  | true=>simp [<- i1,ht,i2]
  | false=>simp [<- i1,ht,i2]
theorem rank_adv {n:Int} (hr:∀ r∈t,∀ b∈r,yua b) (hn:yhp 1 t.flatten=some n) (hc:ybu t c=true) (hk:ydc t c+1 < n):ydc t (yov t c).2=ydc t c+1:=by
 have hrf:∀ b∈t.flatten,yua b:=fun b hb=>by
  obtain ⟨r,h1,h2⟩:=qda.1 hb;exact hr r h1 b h2
 obtain ⟨c1,c2⟩:=yfd 0 hc;obtain ⟨d1,d2⟩:=yfd 0 (zkd hr hc);obtain ⟨f1,f2⟩:=zni hc;obtain ⟨a1,a2⟩:=zuh hrf c2;have e1:ydc t c=yce 0 t.flatten c.flatten:=c1;have e2:ydc t (yov t c).2=yce 0 t.flatten (yov t c).2.flatten:=d1;rw [e2,e1,f2];cases ha:(yin t.flatten c.flatten).1 with
 | true=>exact a1 ha
 | false=>
  have:=(a2 ha).1;have hp:=ynz hn;omega
theorem rank_low (hr:∀ r∈t,∀ b∈r,yua b):ydc t (yxq t)=0:=by
 obtain ⟨c1,c2⟩:=yfd 0 (zlf hr);have e1:ydc t (yxq t)=yce 0 t.flatten (yxq t).flatten:=c1;have e2:(yxq t).flatten=t.flatten.map (·.1):=by
  unfold yxq;rw [List.map_flatten]
 rw [e1,e2];have hrf:∀ b∈t.flatten,yua b:=fun b hb=>by
  obtain ⟨r,h1,h2⟩:=qda.1 hb;exact hr r h1 b h2
 generalize t.flatten=l at hrf;clear c1 c2 e1 e2 hr;induction l with
 | nil=>rfl
 | cons b l ih=>
  have hrl:∀ x∈l,yua x:=fun x hx=>hrf x (qap _ hx);rw [qcl,yre (zth hrl) (zep hrl),ih hrl];simp
theorem yry (hr:∀ r∈t,∀ b∈r,yua b):∀ k,ybu t (ybn t k)=true
 | 0=>zlf hr
 | k+1=>zkd hr (yry hr k)
theorem yrd {n:Int} (hr:∀ r∈t,∀ b∈r,yua b) (hn:yhp 1 t.flatten=some n):∀ k:Nat,(k:Int) < n->ydc t (ybn t k)=k
 | 0,_=>rank_low hr
 | k+1,h=>by
  have ih:=yrd hr hn k om;rw [ybn,rank_adv hr hn (yry hr k) om,ih];omega
theorem xba {n:Int} (hr:∀ r∈t,∀ b∈r,yua b) (hn:yhp 1 t.flatten=some n) (hk:(k:Int) < n):(yil k t).1=ybn t k:=by
 have hw:∀ b∈t.flatten,wOk b:=zth fun b hb=>by
  obtain ⟨r,h1,h2⟩:=qda.1 hb;exact hr r h1 b h2
 exact xeb hw (zyl k om hr) (yry hr k) (by rw [rank_un om hr hn hk,yrd hr hn k hk])
theorem conf_rank {n:Int} (hr:∀ r∈t,∀ b∈r,yua b) (hn:yhp 1 t.flatten=some n) (hc:ybu t c=true) (hk:(k:Int) < n) (h:ydc t c=k):c=ybn t k:=by
 have hw:∀ b∈t.flatten,wOk b:=zth fun b hb=>by
  obtain ⟨r,h1,h2⟩:=qda.1 hb;exact hr r h1 b h2
 exact xeb hw hc (yry hr k) (by rw [h,yrd hr hn k hk])
end
section
open Go.RowKit
structure ArcsOk (e:BitVec 32) (n:Nat) (l:List ArcD):Prop where
 inM:e >>> 24=0#32
 ne:e=0#32<->l=[]
 grow:∀ (i:Nat) (a:ArcD),l[i]?=some a->(∀ b,l[i - 1]?=some b->i≠0->b.1.toNat < a.1.toNat)/\0 < a.1.toNat/\ysw a.1 e/\0<=a.2/\a.2 < n
def xbg (s:SpcD):AV:=.agg [ynn (s.map (·.1)),.sl 1 (s.map fun x=>[yda x.2])]
structure SpcOk (s:SpcD):Prop where
 pos:1<=s.length
 len:s.length<=32768
 tot:ymh s<=262144
 arcs:∀ x∈s,ArcsOk x.1 s.length x.2
theorem zra {x:BitVec 32 × List ArcD} (h:s[k]?=some x):ymh (s.take (k+1))=ymh (s.take k)+x.2.length:=by
 rw [yan h];simp [ymh]
theorem totS_app (a b:SpcD):ymh (a++b)=ymh a+ymh b:=by simp [ymh]
theorem xeg (s:SpcD) (k:Nat):ymh (s.take k)<=ymh s:=by
 have:=congrArg ymh (qcg k s);rw [totS_app] at this;omega
def yme (l:List Bool):AV:=.sl 1 (l.map fun b=>[yay b])
end
section
open Go.RowKit
theorem zjm:∀ (n:Nat) (x:BitVec 32),ysw x e->(ymc e n x).Pairwise (fun a b=>a.toNat < b.toNat)/\∀ y∈ymc e n x,x.toNat<=y.toNat
 | 0,x,_=>by simp [ymc]
 | n+1,x,hx=>by
  unfold ymc;split
  .simp
  by_cases he:x=e
  .subst he;rw [ywn,yld];simp
  obtain ⟨h1,h2⟩:=zjm n _ (yjm e x);have hg:=yyz hx he;refine ⟨List.pairwise_cons.2 ⟨fun y hy=>?_,h1⟩,fun y hy=>?_⟩
  .have:=h2 y hy;omega
  rcases qas.1 hy with rfl|hy
  .exact qbh _
  have:=h2 y hy;omega
theorem zsw (h:v < 32):(1#32 <<< v).toNat=2 ^ v:=by
 rw [qha,show (1#32).toNat=1 from rfl,Nat.shiftLeft_eq,Nat.one_mul,qef (qhr om h)]
theorem first_one (hg:ych g=true) (hk:kind=2\/kind=3) (h0:e≠0#32):yxt g kind e (-e &&& e)=true:=by
 obtain ⟨t1,t2,t3⟩:=yhc h0;have hf:-e &&& e=1#32 <<< tzV e:=by rw [qhs,yyw h0]
 have hs:(-e &&& e) &&& ~~~e=0#32:=yjs e;have hne:(-e &&& e == 0#32)=false:=by
  rw [hf,beq_eq_false_iff_ne];intro h;have:=congrArg (fun X=>BitVec.getLsbD X (tzV e)) h;simp [t1] at this
 unfold yxt;rw [hne,hs];rcases hk with rfl|rfl
 .have:ytm g (-e &&& e)=true:=yvw.2 fun v hv hb=>by
   rw [hf,yly om] at hb;have hvt:v=tzV e:=by simpa using hb
   apply qbj;intro u hu;rw [qav,hf,yly hu,qbf];by_cases hut:u=tzV e
   .rw [decide_eq_true hut,qfl];by_cases hvl:v < g.ports.length
    .obtain ⟨ls,hls⟩:=ybr hvl;have hn:(ynk g).getD v 0#32=zpq ls:=by simp [ynk,hls]
     rw [hn,zpq,ywl hu,qbf,qfa,qgb];intro l hl he;have hlk:=(ybp _ _ _).1 (((yck _ _ _).1 ((yba hg).2.2.2.2.2.1 v ls hls)).1 l hl);have:=of_decide_eq_true he;omega
    rw [qad,qcj (by rw [ywj];omega),Option.getD_none,qbf]
   rw [decide_eq_false hut,qch]
  rw [this];rfl
 rfl
theorem zkj (hg:ych g=true) (hk:1<=kind/\kind<=4) {l:List (BitVec 32)} (h:yyl g kind e=some l):l.Pairwise (fun a b=>a.toNat < b.toNat)/\(∀ a∈l,a≠0#32/\ysw a e)/\(e=0#32<->l=[]):=by
 unfold yyl at h;split at h
 .rename_i h0;cases h;simp [h0]
 rename_i h0;split at h
 .cases h
 cases h;unfold znw;by_cases k1:kind=1
 .rw [if_pos k1];refine ⟨?_,fun a ha=>?_,?_⟩
  .rw [List.pairwise_map];refine (qht _ List.pairwise_lt_range).imp_of_mem fun {a b} ha hb hab=>?_;have h1:=(ygk (B:=e)).1 ha;have h2:=(ygk (B:=e)).1 hb;rw [zsw h1.1,zsw h2.1];exact qhr om hab
  .obtain ⟨v,hv,rfl⟩:=qag.1 ha;have h1:=ygk.1 hv;refine ⟨fun h=>?_,?_⟩
   .have:=congrArg BitVec.toNat h;rw [zsw h1.1] at this;have:=Nat.pow_pos (n:=v) (show 0 < 2 by omega);simp at *
   apply qbj;intro u hu;rw [qav,yly hu,qcc,qbf];by_cases huv:u=v
   .rw [huv,h1.2];simp
   simp [huv]
  simp [h0,zez]
 rw [if_neg k1];by_cases k4:kind=4
 .rw [if_pos k4];exact ⟨sm,fun a ha=>by
   simp only [qaq] at ha
   rw [ha]
   exact ⟨h0,by unfold ysw;simp⟩,by simp [h0]⟩
 rw [if_neg k4];have hk23:kind=2\/kind=3:=by omega
 obtain ⟨g1,_⟩:=zjm (e:=e) (4294967296 - (-e &&& e).toNat) _ (yjs e);refine ⟨qht _ g1,fun a ha=>?_,?_⟩
 .obtain ⟨h1,h2⟩:=zfx e _ _ (yjs e) a (qdq.1 ha).1;exact ⟨h2,h1⟩
 have hp:=first_one hg hk23 h0;have hf0:-e &&& e≠0#32:=fun q=>by
  rw [yxt,q] at hp;simp at hp
 have hm:-e &&& e∈(yzq e).filter (yxt g kind e):=by
  refine qdq.2 ⟨?_,hp⟩;unfold yzq;rw [yzr (yjs e) hf0];exact qbk ..
 constructor
 .intro q;exact absurd q h0
 intro q;rw [q] at hm;cases hm
theorem xar:∀ {m k T:Nat} {l:SpcD},T<=262144->yth p g kind m k T=some l->l.length=m/\(∀ i,i < m->∃ x,ypu p g kind (ybn (yad p g) (k+i)) (k+i)=some x/\l[i]?=some x)/\T+ymh l<=262144
 | 0,k,T,l,hT,h=>by
  cases h;exact ⟨rfl,fun i hi=>by omega,by simpa [ymh] using hT⟩
 | m+1,k,T,l,hT,h=>by
  unfold yth at h;split at h
  .cases h
  rename_i x hx;split at h
  .cases h
  rename_i hle;obtain ⟨l',hl',rfl⟩:=qgw.1 h;obtain ⟨h1,h2,h3⟩:=xar om hl';refine ⟨by simp [h1],fun i hi=>?_,by simp only [ymh,qcl,List.sum_cons] at h3 ⊢;omega⟩;cases i with
  | zero=>exact ⟨x,hx,rfl⟩
  | succ i=>
   obtain ⟨y,hy1,hy2⟩:=h2 i om;exact ⟨y,by rw [show k+(i+1)=k+1+i by omega];exact hy1,hy2⟩
theorem ztb (h:CfgOk p g c) {n:Int} (hn:yci (yad p g)=(n,0)):0<=ydc (yad p g) c/\ydc (yad p g) c < n:=by
 have ht:=ydf h.fair h.fit;obtain ⟨q,hq,hq2⟩:=ylo (tbl:=yad p g) (by rw [hn]);rw [hn] at hq2;obtain rfl:n=q:=congrArg Prod.fst hq2;obtain ⟨c1,c2⟩:=yfd 0 h.table;have hw:∀ b∈(yad p g).flatten,wOk b:=zth fun b hb=>by
  obtain ⟨r,h1,h2⟩:=qda.1 hb;exact (ht.2 r h1).2 b h2
 obtain ⟨_,l2,l3⟩:=ymv 0 hw c2;have hp:=ynz hq;have e:ydc (yad p g) c=yce 0 (yad p g).flatten c.flatten:=c1;rw [e];omega
structure SysOk (p:ProgD) (g:GraphD) (kind:Int) (n:Nat) (s:SpcD):Prop where
 len:s.length=n
 ok:SpcOk s
 cfg:∀ k,CfgOk p g (ybn (yad p g) k)
 rank:∀ k,k < n->ydc (yad p g) (ybn (yad p g) k)=k
 uniq:∀ c k,CfgOk p g c->k < n->ydc (yad p g) c=k->c=ybn (yad p g) k
 state:∀ k,k < n->∃ l,yyl g kind (ydn p g (ybn (yad p g) k))=some l/\s[k]?=some (ydn p g (ybn (yad p g) k),l.map fun B=>(B,ydc (yad p g) (ytr p g (ybn (yad p g) k) B)))
theorem xgv (hf:Fair p g) (h0:ycn p g=0) (hk:1<=kind/\kind<=4) (hn:yci (yad p g)=((n:Int),0)) (hb:yth p g kind n 0 0=some s):SysOk p g kind n s:=by
 have hg:=(ycv.1 h0).2.1;have ht:=ydf hf h0;have hr:∀ r∈yad p g,∀ b∈r,yua b:=fun r hr=>(ht.2 r hr).2;obtain ⟨q,hq,hq2⟩:=ylo (tbl:=yad p g) (by rw [hn]);rw [hn] at hq2;obtain rfl:(n:Int)=q:=congrArg Prod.fst hq2;have hcf:=yuf hf h0;obtain ⟨b1,b2,b3⟩:=xar (Nat.zero_le _) hb;have hrk:=yrd hr hq;have hst:∀ k,k < n->∃ l,yyl g kind (ydn p g (ybn (yad p g) k))=some l/\s[k]?=some (ydn p g (ybn (yad p g) k),l.map fun B=>(B,ydc (yad p g) (ytr p g (ybn (yad p g) k) B))):=fun k hk'=>by
  obtain ⟨x,h1,h2⟩:=b2 k hk';rw [qba] at h1;unfold ypu at h1;obtain ⟨l,hl,rfl⟩:=qgw.1 h1;refine ⟨l,hl,?_⟩;rw [h2];congr 2;refine List.map_congr_left fun B hB=>?_;have hsub:=((zkj hg hk hl).2.1 B hB).2;unfold xji;rw [zpz (hcf k) hsub hn,hrk k om]
 have hlen32:(n:Int)<=32768:=by have:=yvm (yad p g);rw [hn] at this;exact this
 have hpos:1<=n:=by
  have:=ztb (hcf 0) hn;omega
 refine ⟨b1,⟨om,om,om,fun x hx=>?_⟩,hcf,fun k hk=>hrk k om,fun c k hc hk h=>conf_rank hr hq hc.table om h,hst⟩;obtain ⟨k,hkx⟩:=qan hx;have hkn:k < n:=by rw [<- b1];exact (qaa.1 hkx).1
 obtain ⟨l,hl,hs⟩:=hst k hkn;rw [hkx] at hs;cases hs;obtain ⟨g1,g2,g3⟩:=zkj hg hk hl;refine ⟨?_,by simp [g3],fun i a ha=>?_⟩
 .apply qbj;intro u hu;rw [qep,qbf];have h24:=(hcf k).n24;have hl':=(hcf k).len;rcases qbi (24+u) 32 with h9|h9
  .show (yns (yrz p g _) _).getLsbD (24+u)=false;rw [yik _ _ _ h9,decide_eq_false om];rfl
  exact qbs _ _ h9
 rw [qah] at ha;cases hB:l[i]? with
 | none=>rw [hB] at ha;cases ha
 | some B=>
  rw [hB] at ha;cases ha;obtain ⟨m1,m2⟩:=g2 B (qab hB);have hri:=ztb ((hcf k).step B) hn;refine ⟨fun b hb hi=>?_,?_,m2,hri.1,by rw [b1];exact hri.2⟩
  .rw [qah] at hb;cases hC:l[i - 1]? with
   | none=>rw [hC] at hb;cases hb
   | some C=>
    rw [hC] at hb;cases hb;have e1:=qaa.1 hB;have e2:=qaa.1 hC;have:=(qdc.1 g1) (i - 1) i e2.1 e1.1 om
    rwa [e1.2,e2.2] at this
  rcases qeq B.toNat with h9|h9
  .exact absurd (qes (by rw [h9];rfl)) m1
  exact h9
end
section
open Go.RowKit
theorem zpm (c:List (List Int)) (r:List Int):yfq (c++[r])=yfq c++[r.map i64]:=by simp [yfq]
theorem rcopy_own (c:List (List Int)) (hn:c.length<=1000) (hm:∀ r∈c,r.length<=1000):yot prog 93 [yds c] (fun _=>none) (.ls 3 1 c.length) (yac (ybs 3 1 (yfq c) [])):=by
 refine zdl tok Tryz.func93 rfl rfl ntmps93 Tryz.results93 rfl rfl ?_;refine zY ?_;refine zjz 3 3 1 rfl rfl rfl ?_;refine ycx (α:=Nat) (fun k=>[(4,i64 k),(0,yds c),(3,.ls 3 1 k)]) (fun k=>ybs 3 1 (yfq (c.take k)) []) (fun k=>c.length - k) (fun k=>k<=c.length) 0 om zs (hsE (by simp only [ybs,yfi,ypy,qff,yfq,qew];rfl)) ?_;intro k hk;refine zY ?_;refine zj ?_ ?_ <;> intro h
 .simp at h;obtain ⟨r,hr⟩:=ybr (show k < c.length by omega);have hrm:=hm r (qab hr);have htk:(yfq (c.take k)).length=k:=by simp [yfq];omega
  refine zY ?_;refine yzx tok (fam 3 k) rfl rfl rfl (by intro c hc;rw [ydj] at hc;obtain ⟨x,_,rfl⟩:=qag.1 hc;rfl) (by constructor <;> simp <;> omega) (yqq (f:=[]) rfl rfl rfl htk.symm rfl) rfl rfl rfl ?_;refine zO ?_;refine zkc tok 17 rfl rfl rfl rfl rfl rfl (yhj (ypd (ywh rfl) rfl) (yul (yde om) rfl (ypp (f:=[]) rfl rfl rfl rfl))) (ygh (by intro x hx;rcases qaq.1 hx with rfl;exact ywh rfl)) rfl rfl rfl ?_;refine zcw tok (f:=[]) (t':=[(4,i64 k),(0,yds c)]) rfl rfl rfl rfl rfl rfl rfl rfl rfl rfl htk.symm (by simp [ydj]) co (by (repeat (first|exact yxf|refine yss rfl rfl ?_))) rfl rfl rfl ?_;refine zY ?_;refine ylb (k+1) om om zs (hsE ?_);rw [yan hr,zpm,ydj];rfl
 simp at h;obtain rfl:k=c.length:=by omega
 refine zY ?_;refine ykj ⟨_,rfl,yfa _,fun id o ho=>?_⟩;rw [<- qay (l:=c)] at ho;simpa [S] using ho
end
section
open Go.RowKit
theorem rmove_con (h:CfgOk p g c) (hv:v < c.length) (hen:yrz p g c v=true):Con prog 120 [yhb p,yfm g,yds c,i64 v] (yah (zms p g c v)):=by
 obtain ⟨st,hst⟩:=ybr hv;obtain ⟨b,hb,hsb⟩:=h.row hst;have hbl:=yjz hb;have hsl:=(ycg hsb).1;have h6:=h.vars6;obtain ⟨i,r,hi,hr⟩:=ztj (p:=p) (s:=⟨g,c,v⟩) (by simpa [yrz] using hen);have hrs:r.sets.length<=1000:=(h.fair.light.2.2 r (qab hr)).2.1;have hcv:c.getD v []=st:=by rw [qad,hst];rfl
 let row:Nat->List Int:=fun j=>(r.sets.take j).foldl (xgs p (yad p g) ⟨g,c,v⟩) st
 have hrl:∀ j,(row j).length=p.vars.length:=fun j=>by simp only [row];rw [zmd];omega
 have hfi:=zjf h hv;rw [hi] at hfi;have hbring:=tbring_con p g h.fair h.fit;refine ze Tryz.func120 ntmps120 Tryz.results120 ?_
 (repeat (first|refine zz ?_|refine zcv tok rfl rfl rfl (by intro c hc;rw [ydj] at hc;obtain ⟨x,_,rfl⟩:=qag.1 hc;rfl) (by constructor <;> simp <;> omega) rfl rfl rfl rfl rfl ?_))
 refine ycx (α:=Nat) (fun j=>[(11,i64 j),(10,.sl 2 (r.sets.map zht)),(9,.ls 16 1 p.vars.length),(2,yds c),(3,i64 v),(4,.lp 4 0),(5,.lp 5 0)]) (fun j=>[(16,some (.vec ((row j).map i64))),(5,some (.cells [yah g.ids,yat g.ports])),(4,some (.cells [ynt p.name,.sl 6 (p.vars.map ybq),.sl 3 (p.rules.map ybg)]))]) (fun j=>r.sets.length - j) (fun j=>j<=r.sets.length) 0 om ?_ (yai (yaa ?_ (yaa rfl (yaa rfl yag)))) ?_
 .refine yas rfl (yas rfl (yas (yfx rfl (by rw [qal,hsl,hbl])) zs))
 .show some _=some _;rw [ydj];rfl
 intro j hj;refine zY ?_;refine zj ?_ ?_ <;> intro h1
 .simp at h1;obtain ⟨x,hx⟩:=ybr h1;have hty:=xgt h.prog (qab hr) (qab hx);obtain ⟨y,hy⟩:=ybr (show x.var.toNat < p.vars.length by omega);obtain ⟨q,hq⟩:=ybr (show x.var.toNat < b.length by omega);have hnext:row (j+1)=(row j).set x.var.toNat (yji p (yad p g) v x.var.toNat ((⟨g,c,v⟩:Scn).of x.val)):=by
   simp only [row];rw [yan hx,qcu,qdf,qhu,xgs]
  (repeat (first|refine zy ?_|refine zc (zxq h hv hty.2.2) ?_|refine zc (hbring v x.var ((⟨g,c,v⟩:Scn).of x.val) om om b q (by rw [qct];exact hb) hq) ?_))
  refine yaw tok rfl rfl rfl rfl hty.1 om rfl rfl ?_;refine yjh tok rfl rfl rfl rfl rfl rfl (by rw [qal,hrl];omega) rfl (congrArg (fun z=>yac ((16,some (LObj.vec z))::_)) (show _=(row (j+1)).map i64 by rw [qgy,hnext,qeg,qct])) rfl rfl ?_;refine zY ?_;exact ylb (j+1) om om zs (yai (yaa rfl (yaa rfl (yaa rfl yag))))
 simp at h1;obtain rfl:j=r.sets.length:=by omega
 refine zk ?_;have e:zms p g c v=row r.sets.length:=by simp only [zms,hi,qct,xih,hr,hcv,row,qay]
 rw [e];exact xbp rfl (hrl _).symm
theorem rstep_con (h:CfgOk p g c) (set:BitVec 32) (hs0:set≠0#32) (hse:ysw set (ydn p g c)):Con prog 64 [yhb p,yfm g,yds c,ybd set] (.tup [yds (ytr p g c set),i64 0]):=by
 have h24:=h.n24;have hl:=h.len;have h6:=h.vars6;have hrows:∀ r∈c,r.length<=1000:=fun r hr=>by have:=h.rowlen r hr;omega
 have hck:=yzf p g c h.fair h.cin;rw [yhv.2 ⟨h.fit,h.table⟩] at hck;have hena:=yww h;have hset:∀ v:Nat,v < c.length->set.getLsbD v=true->yrz p g c v=true:=fun v hv hb=>by
  have:(yns (yrz p g c) c.length).getLsbD v=true:=hse.bit hb;rw [yik _ _ _ om,qac] at this;exact this.2
 have hse':set &&& ~~~(ydn p g c)=0#32:=hse;refine ze Tryz.func64 ntmps64 Tryz.results64 ?_;refine zZ ?_;refine yam 22 rfl (fun q1=>?_) (fun q1=>?_)
 .rw [yeq] at q1;exact absurd (by simpa using q1) hs0
 (try refine zbz ?_)
 refine zj ?_ ?_ <;> intro q2
 .rw [yfh,hse'] at q2;simp at q2
 (repeat (first|refine zy ?_|refine zcx (rcopy_own c om hrows) rfl rfl rfl rfl rfl rfl rfl rfl rfl rfl rfl rfl rfl ?_))
 refine zco (f:=[(5,some (.cells [yah g.ids,yat g.ports])),(4,some (.cells [ynt p.name,.sl 6 (p.vars.map ybq),.sl 3 (p.rules.map ybg)]))]) (f':=[(5,some (.cells [yah g.ids,yat g.ports])),(4,some (.cells [ynt p.name,.sl 6 (p.vars.map ybq),.sl 3 (p.rules.map ybg)]))]) (M:=32) (c:=c) (t':=[(12,i64 (0:Nat)),(11,.ls 32 1 c.length),(2,yds c),(3,ybd set),(4,.lp 4 0),(5,.lp 5 0)]) rfl zs rfl rfl zh rfl rfl rfl rfl ?_;refine ycx (α:=Nat) (fun k=>[(12,i64 k),(11,.ls 32 1 c.length),(2,yds c),(3,ybd set),(4,.lp 4 0),(5,.lp 5 0)]) (fun k=>[(32,some (.vec ((zqs p g c set k).map yah))),(5,some (.cells [yah g.ids,yat g.ports])),(4,some (.cells [ynt p.name,.sl 6 (p.vars.map ybq),.sl 3 (p.rules.map ybg)]))]) (fun k=>c.length - k) (fun k=>k<=c.length) 0 om zs (hsE (by rw [zqu])) ?_;intro k hk;refine zY ?_;refine zj ?_ ?_ <;> intro h1
 .simp at h1;obtain ⟨st,hst⟩:=ybr h1;have hkl:=zme (p:=p) (g:=g) (set:=set) hk;have hh:=zee set k om;refine zZ ?_;refine zj ?_ ?_ <;> intro h2
  .have h2:set.getLsbD k=true:=h2;have hmv:=rmove_con h h1 (hset k h1 h2)
   (repeat (first|refine zz ?_|refine yaw tok rfl rfl rfl rfl om om rfl rfl ?_))
   refine yjh tok rfl rfl rfl rfl rfl rfl (by rw [qal,hkl];omega) rfl (congrArg (fun z=>yac ((32,some (LObj.vec z))::_)) (show _=(zqs p g c set (k+1)).map yah by rw [zfv hst,h2,if_pos rfl,qeg];simp)) rfl rfl ?_;refine zY ?_;exact ylb (k+1) om om zs (yai (yaa rfl (yaa rfl (yaa rfl yag))))
  have h2:set.getLsbD k=false:=h2;refine zY ?_;refine ylb (k+1) om om zs (hsE (by rw [zqt h1 h2]))
 simp at h1;obtain rfl:k=c.length:=by omega
 refine zk ?_;rw [zxx];exact Frz.tup2 (zvq rfl (by rw [yrk])) Frz.pure
end
section
open Go.RowKit
theorem zfm (p:ProgD) (g:GraphD) (c:List (List Int)) (hf:Fair p g) (hc:zru c) (h1:ycn p g=0) (hin:ybu (yad p g) c=true) (h2:(yci (yad p g)).2=0):Con prog 50 [yhb p,yfm g,yds c] (i64 (ydc (yad p g) c)):=by
 have hcl:=hc.1;have ht:=ydf hf h1;obtain ⟨q,hq,_⟩:=ylo h2;have hends:=yxh p g hf h1;generalize htb:yad p g=tbl at ht hin hq hends;have htl:=ht.1;obtain ⟨hlen,hcfg⟩:=yoz hin;refine ze Tryz.func50 ntmps50 Tryz.results50 ?_;refine zY ?_;refine ybl (α:=Nat × Int) (fun a=>[(8,i64 a.1),(7,i64 a.2),(2,yds c),(3,.lp 3 0),(4,.lp 4 0)]) (fun _=>pgF p g 3 4) (fun a=>c.length - a.1) (fun a=>a.1<=c.length/\a.2=((tbl.zip c).take a.1).foldl (fun k q=>yce k q.1 q.2) 0/\0<=a.2/\∃ m,yhp 1 (tbl.take a.1).flatten=some m/\a.2 < m/\m<=32768) (0,0) ⟨sm,rfl,sm,1,rfl,sm,sm⟩ zs zh ?_;rintro ⟨v,k⟩ ⟨hv,hk,hk0,m,hm,hkm,hm2⟩;simp only at hv hk hk0 hm hkm ⊢;refine zY ?_;refine zj ?_ ?_ <;> intro h3
 .simp at h3;obtain ⟨r,hr⟩:=ybr (show v < tbl.length by omega);obtain ⟨s,hs,hst⟩:=hcfg v r hr;obtain ⟨hsl,hsg⟩:=ycg hst;obtain ⟨hrl,hrq⟩:=ht.2 r (qab hr);have hflat:yhp 1 ((tbl.take v).flatten++(r++(tbl.drop (v+1)).flatten))=some q:=by
   rw [<- hq,<- qbb];congr 1
   conv=>rhs;rw [<- qcg (v+1) tbl,yan hr]
   simp
  refine zY ?_;refine ybl (α:=Nat × Int) (fun a=>[(9,i64 a.1),(7,i64 a.2),(8,i64 v),(2,yds c),(3,.lp 3 0),(4,.lp 4 0)]) (fun _=>pgF p g 3 4) (fun a=>r.length - a.1) (fun a=>a.1<=r.length/\a.2=((r.zip s).take a.1).foldl zxc k/\0<=a.2/\∃ m',yhp m (r.take a.1)=some m'/\a.2 < m'/\m'<=32768) (0,k) ⟨sm,rfl,hk0,m,rfl,hkm,hm2⟩ zs zh ?_;rintro ⟨x,n⟩ ⟨hx,hn,hn0,m',hm',hnm,hm2'⟩;simp only at hx hn hn0 hm' hnm ⊢;refine zY ?_;refine zj ?_ ?_ <;> intro h4
  .simp at h4;obtain ⟨b,hb⟩:=ybr (show x < r.length by omega);obtain ⟨z,hz,hz1,hz2⟩:=hsg x b hb;obtain ⟨b1,b2,b3⟩:=hrq b (qab hb);have hbd:=rank_bd (k:=n) (m:=m') (w:=b.2 - b.1+1) (d:=z - b.1) hn0 hnm om om om hm2';obtain ⟨m'',hm'',hm3⟩:∃ m'',yhp m (r.take (x+1))=some m''/\m''=m' * rgW b/\m''<=32768:=by
    have hsp:=yym hflat;obtain ⟨ma,e1,e2⟩:=hsp;rw [hm] at e1;cases e1;rw [<- qcg (x+1) r,qbb] at e2;obtain ⟨mb,e3,_⟩:=yym e2;refine ⟨mb,e3,?_⟩;rw [yan hb] at e3;obtain ⟨mc,e4,e5⟩:=yym e3;rw [hm'] at e4;cases e4;exact cntL_one e5
   (repeat (first|refine zy ?_|refine zc (hends v x r b hr hb) ?_))
   refine rnd (x+1,n * (b.2 - b.1+1)+z - b.1) ⟨by simp only;omega,?_,by simp only;omega,m'',hm'',?_,hm3.2⟩ (by simp only;omega) zs zh
   .simp only;rw [yan (yro hb hz),qcu,<- hn];rfl
   simp only;rw [hm3.1];unfold rgW;omega
  simp at h4;obtain rfl:x=r.length:=by omega
  refine zY ?_;rw [qak so] at hn;rw [qay] at hm';refine rnd (v+1,n) ⟨by simp only;omega,?_,hn0,m',?_,hnm,hm2'⟩ (by simp only;omega) zs zh
  .simp only;rw [yan (yro hr hs),qcu,<- hk];exact hn
  simp only;rw [yan hr,qea,yjj,hm];simpa using hm'
 simp at h3;obtain rfl:v=c.length:=by omega
 refine zk ?_;rw [qak so] at hk;refine yaf ?_;rw [hk];rfl
theorem rrank_con (p:ProgD) (g:GraphD) (c:List (List Int)) (hf:Fair p g) (hc:zru c):Con prog 16 [yhb p,yfm g,yds c] (xfj (rankM p g c)):=by
 refine ze Tryz.func16 ntmps16 Tryz.results16 ?_
 (repeat (first|refine zy ?_|refine zc (yzf p g c hf hc) ?_))
 refine zj ?_ ?_ <;> intro h
 .refine zk ?_;have:yib p g c≠0:=by simpa using h
  rw [rankM,if_neg this];exact Frz.pure
 have h0:yib p g c=0:=by simpa using h
 obtain ⟨h1,hin⟩:=yhv.1 h0;have hcm:yhx p g=yci (yad p g):=by rw [yhx,if_pos h1]
 have hcon:=yjd p g hf;rw [hcm] at hcon;refine zZ ?_;refine zj ?_ ?_ <;> intro h2
 .refine zk ?_;have:(yci (yad p g)).2≠0:=by simpa using h2
  rw [rankM,if_pos h0,if_neg this];exact Frz.pure
 have h2':(yci (yad p g)).2=0:=by simpa using h2
 rw [rankM,if_pos h0,if_pos h2']
 (repeat (first|refine zy ?_|refine zc (zfm p g c hf hc h1 hin h2') ?_))
 exact zp
end
section
open Go.RowKit
theorem rleast_own (p:ProgD) (g:GraphD) (hf:Fair p g) (h0:ycn p g=0):yot prog 83 [yhb p,yfm g] (fun _=>none) (.tup [.ls 7 1 (yad p g).length,i64 0]) (yac (ybs 7 1 (yfq (yxq (yad p g))) [])):=by
 have hgl:=hf.glen;have hvl:=hf.vlen;have hends:=yxh p g hf h0;have htl:(yad p g).length=g.ports.length:=by simp [yad]
 have hw:∀ (v:Nat) (r:List (Int × Int)),(yad p g)[v]?=some r->r.length=p.vars.length:=fun v r h=>yjz h;refine zdl tok Tryz.func83 rfl rfl ntmps83 Tryz.results83 rfl rfl ?_
 (repeat (first|refine zy ?_|refine zc (ywy p g hf) ?_))
 refine zj ?_ ?_ <;> intro h
 .simp [h0] at h
 refine zY ?_;generalize htb:yad p g=tbl at hends htl hw;refine zjz 7 7 1 rfl rfl rfl ?_;refine ycx (α:=Nat) (fun v=>[(8,i64 v),(7,.ls 7 1 v),(2,.lp 2 0),(3,.lp 3 0)]) (fun v=>pgF p g 2 3++ybs 7 1 (yfq ((yxq tbl).take v)) []) (fun v=>tbl.length - v) (fun v=>v<=tbl.length) 0 om zs (yai (by simp only [qff,yfq,qew,ybs,yfi,ypy,qcn];exact yaa rfl (yaa rfl (yaa rfl yag)))) ?_;intro v hv;refine zY ?_;refine zj ?_ ?_ <;> intro h3
 .simp at h3;obtain ⟨r,hr⟩:=ybr (show v < tbl.length by omega);have hrl:=hw v r hr;have htk:(yfq ((yxq tbl).take v)).length=v:=by simp [yfq,yxq];omega
  refine zY ?_;refine zjz 9 9 1 rfl rfl (ypp (f:=pgF p g 2 3) rfl rfl rfl rfl) ?_;refine ycx (α:=Nat) (fun j=>[(10,i64 j),(9,.ls 9 1 j),(8,i64 v),(7,.ls 7 1 v),(2,.lp 2 0),(3,.lp 3 0)]) (fun j=>(9,some (.vec (((r.map (·.1)).take j).map i64)))::(pgF p g 2 3++ybs 7 1 (yfq ((yxq tbl).take v)) [])) (fun j=>r.length - j) (fun j=>j<=r.length) 0 om zs (fun id o h=>h) ?_;intro j hj;refine zY ?_;refine zj ?_ ?_ <;> intro h4
  .simp at h4;obtain ⟨b,hb⟩:=ybr (show j < r.length by omega);have hlow:(r.map (·.1))[j]?=some b.1:=by rw [qah,hb];rfl
   (repeat (first|refine zy ?_|refine zc (hends v j r b hr hb) ?_|refine zmw tok (id:=9) (t':=[(10,i64 j),(8,i64 v),(7,.ls 7 1 v),(2,.lp 2 0),(3,.lp 3 0)]) rfl rfl so rfl (by intro c hc;simp at hc;subst hc;rfl) (by constructor <;> simp <;> omega) (by (repeat (first|exact yxf|refine yss rfl rfl ?_))) (ypp (f:=pgF p g 2 3) rfl rfl rfl rfl) rfl rfl rfl ?_))
   refine ylb (j+1) om om zs (hsE ?_);rw [yan hlow,qbu];rfl
  simp at h4;obtain rfl:j=r.length:=by omega
  (repeat (first|with_reducible refine ydk ?_|with_reducible refine ycd ?_|refine ycy ?_|refine ymi ?_))
  have hlr:(r.map (·.1)).take r.length=r.map (·.1):=qak sm;rw [hlr];refine A_rename 9 9 (fam 7 v) (t':=[(8,i64 v),(7,.ls 7 1 v),(2,.lp 2 0),(3,.lp 3 0)]) (h':=(fam 7 v,some (.vec ((r.map (·.1)).map i64)))::(pgF p g 2 3++ybs 7 1 (yfq ((yxq tbl).take v)) [])) rfl yaz ?_ zs yaz ?_ ?_
  .refine yqq (f:=(9,some (.vec ((r.map (·.1)).map i64)))::pgF p g 2 3) ?_ ?_ ?_ ?_ ?_
   .rfl
   .rfl
   .rfl
   .exact htk.symm
   rfl
  .intro j ob hj ho;rw [yao hj] at ho;have hj9:j≠9:=by
    rintro rfl;rw [(yer (ypp (d:=9) (f:=pgF p g 2 3) (M:=7) (extra:=[]) rfl rfl rfl rfl)).1] at ho;cases ho
   exact ⟨hj9,by rw [yao hj9];exact ho⟩
  refine zY ?_;refine zkc tok 47 rfl rfl rfl rfl rfl rfl (yhj (ypd (ywh rfl) (ypd rfl (ypd (ywh rfl) rfl))) (yul (yde om) rfl (ypp (f:=pgF p g 2 3) rfl rfl rfl rfl))) (ygh (by intro x hx;rcases qaq.1 hx with rfl;exact ywh rfl)) rfl rfl rfl ?_;refine zcw tok (f:=pgF p g 2 3) (t':=[(8,i64 v),(2,.lp 2 0),(3,.lp 3 0)]) rfl rfl rfl rfl rfl rfl rfl rfl rfl rfl htk.symm sm co (by (repeat (first|exact yxf|refine yss rfl rfl ?_))) rfl rfl rfl ?_;refine zY ?_;refine ylb (v+1) om om zs (hsE ?_);have hlv:(yxq tbl)[v]?=some (r.map (·.1)):=by rw [yxq,qah,hr];rfl
  rw [yan hlv,zpm]
 simp at h3;obtain rfl:v=tbl.length:=by omega
 refine zY ?_;refine ykj ⟨_,rfl,yfa _,fun id o ho=>?_⟩;rw [qak (by simp [yxq])];exact yyx (f:=pgF p g 2 3) rfl om rfl id o ho
end
section
open Go.RowKit
theorem zqa (p:ProgD) (g:GraphD) (k:Int) (hf:Fair p g) (h0:ycn p g=0) (hk:0<=k/\k<=1000000000):Con prog 37 [yhb p,yfm g,i64 k] (yds (yil k (yad p g)).1):=by
 have ht:=ydf hf h0;have hends:=yxh p g hf h0;have hle:=rleast_own p g hf h0;refine ze Tryz.func37 ntmps37 Tryz.results37 ?_
 (repeat (first|with_reducible refine ydk ?_|with_reducible refine ycd ?_|refine ycy ?_));refine ynb ?_;refine ybi (lf:=lfT) rfl ?_
 refine zO ?_
 (repeat (first|with_reducible refine ydk ?_|with_reducible refine ycd ?_|refine ycy ?_))
 generalize htb:yad p g=tbl at ht hends hle;have htl:=ht.1;refine xhp (t':=[(3,.lp 3 0),(4,.lp 4 0),(2,i64 k)]) (h':=pgF p g 3 4) ?_ zs zh
 (repeat (first|refine zy ?_|refine zcx hle rfl rfl rfl rfl rfl rfl rfl rfl rfl rfl rfl rfl rfl ?_))
 refine ycx (α:=Nat) (fun v=>[(9,i64 ((v:Int) - 1)),(7,.ls 16 1 tbl.length),(2,i64 (yil k (tbl.drop v)).2),(3,.lp 3 0),(4,.lp 4 0)]) (fun v=>pgF p g 3 4++ybs 16 1 (yfq (zzp k tbl v)) []) (fun v=>v) (fun v=>v<=tbl.length) tbl.length om (by rw [qcb];exact zs) (hsE (by rw [wayT_all])) ?_;intro v hv;refine zY ?_;refine zj ?_ ?_ <;> intro h3
 .simp at h3;obtain ⟨u,rfl⟩:∃ u,v=u+1:=⟨v - 1,om⟩;rw [show (((u+1:Nat):Int) - 1)=(u:Int) by omega];obtain ⟨r,hr⟩:=ybr (show u < tbl.length by omega);obtain ⟨K,hK⟩:∃ K,K=(yil k (tbl.drop (u+1))).2:=⟨_,rfl⟩;have hKb:0<=K/\K<=k:=by rw [hK];exact zmn hk.1 _ fun r hr=>(ht.2 r (qdn hr)).2
  have hrest:(ydq K r).2=(yil k (tbl.drop u)).2:=by rw [yjr hr,hK];rfl
  have hset:=wayT_set (k:=k) hr;rw [<- hK] at hset ⊢;obtain ⟨hr1,hrq⟩:=ht.2 r (qab hr);obtain ⟨A,hA⟩:∃ A,A=zzp k tbl (u+1):=⟨_,rfl⟩;have hAv:=wayT_at (k:=k) hr;have hAn:A.length=tbl.length:=by rw [hA,wayT_len]
  rw [<- hA] at hset hAv ⊢;have hpart0:(yfq A)[u]?=some ((r.map (·.1)).map i64):=by rw [zli,hAv];rfl
  have hcO:ycu (yac (pgF p g 3 4++ybs 16 1 (yfq A) []) 16)=some (yfi 16 1 0 (yfq A)++[]):=by rw [ybt (f:=pgF p g 3 4) rfl];exact ygd _
  have hcell:(yfi 16 1 0 (yfq A)++[])[(u:Int).toNat * 1]?=some (.ls (fam 16 u) 1 r.length):=by
   rw [show ((u:Int).toNat * 1)=u by simp,qbe,yel,hpart0];simp only [qar,qal,Nat.div_one,qba]
  have hrow:yac (pgF p g 3 4++ybs 16 1 (yfq A) []) (fam 16 u)=some (.vec ((r.map (·.1)).map i64)):=ylw (f:=pgF p g 3 4) rfl om hpart0
  (repeat (first|refine xfu tok rfl rfl hrow rfl rfl ?_|refine z1 ?_|refine yaw tok rfl rfl (ybt (f:=pgF p g 3 4) rfl) rfl om om rfl rfl ?_|refine yft (r:=.ls (fam 16 u) 1 r.length) tok rfl rfl rfl hcO hcell rfl rfl ?_|refine yaw tok rfl rfl hrow rfl om om rfl rfl ?_))
  refine ycx (α:=Nat) (fun x=>[(10,i64 ((x:Int) - 1)),(9,i64 u),(7,.ls 16 1 tbl.length),(2,i64 (ydq K (r.drop x)).2),(3,.lp 3 0),(4,.lp 4 0)]) (fun x=>pgF p g 3 4++ybs 16 1 (yfq (A.set u (zhd K r x))) []) (fun x=>x) (fun x=>x<=r.length) r.length om (by rw [qcb];exact zs) (hsE (by rw [wayR_all,zxt hAv])) ?_;intro x hx;refine zY ?_;refine zj ?_ ?_ <;> intro h4
  .simp at h4;obtain ⟨y,rfl⟩:∃ y,x=y+1:=⟨x - 1,om⟩;rw [show (((y+1:Nat):Int) - 1)=(y:Int) by omega];obtain ⟨b,hb⟩:=ybr (show y < r.length by omega);obtain ⟨b1,b2,b3⟩:=hrq b (qab hb);obtain ⟨L,hL⟩:∃ L,L=(ydq K (r.drop (y+1))).2:=⟨_,rfl⟩;have hLb:0<=L/\L<=K:=by rw [hL];exact yxk hKb.1 _ fun q hq=>hrq q (qdn hq)
   have hLm:=xef (w:=rgW b) hLb.1 (by unfold rgW;omega);have hLd:=xee (w:=rgW b) hLb.1 (by unfold rgW;omega);simp only [rgW] at hLm hLd;have hstep:=wayR_set (k:=K) hb;have hnext:=way_rest (k:=K) hb;rw [<- hL] at hstep hnext ⊢;have hAl:u < A.length:=by omega
   have hpart:(yfq (A.set u (zhd K r (y+1))))[u]?=some ((zhd K r (y+1)).map i64):=by rw [zli,qdy hAl];rfl
   have hpl:((zhd K r (y+1)).map i64).length=r.length:=by rw [qal,zyo]
   have hcO:ycu (yac (pgF p g 3 4++ybs 16 1 (yfq (A.set u (zhd K r (y+1)))) []) 16)=some (yfi 16 1 0 (yfq (A.set u (zhd K r (y+1))))++[]):=by rw [ybt (f:=pgF p g 3 4) rfl];exact ygd _
   have hcell:(yfi 16 1 0 (yfq (A.set u (zhd K r (y+1))))++[])[(u:Int).toNat * 1]?=some (.ls (fam 16 u) 1 r.length):=by
    rw [show ((u:Int).toNat * 1)=u by simp,qbe,yel,hpart];simp only [qar,hpl,Nat.div_one,qba]
   have hrow:yac (pgF p g 3 4++ybs 16 1 (yfq (A.set u (zhd K r (y+1)))) []) (fam 16 u)=some (.vec ((zhd K r (y+1)).map i64)):=ylw (f:=pgF p g 3 4) rfl om hpart
   (repeat (first|refine zy ?_|refine yaw tok rfl rfl (ybt (f:=pgF p g 3 4) rfl) rfl om om rfl rfl ?_|refine yft (r:=.ls (fam 16 u) 1 r.length) tok rfl rfl rfl hcO hcell rfl rfl ?_|refine yaw tok rfl rfl hrow rfl om om rfl rfl ?_|refine xep rfl rfl om rfl rfl ?_|refine zc (hends u y r b hr hb) ?_))
   refine yjh (h':=pgF p g 3 4++ybs 16 1 (yfq (A.set u (zhd K r y))) []) tok rfl rfl rfl rfl rfl hrow (by rw [hpl];simp;omega) rfl ?_ rfl rfl ?_
   .have e:((zhd K r (y+1)).map i64).set y (.v (.int .i64 (b.1+L.tmod (b.2 - b.1+1))))=(zhd K r y).map i64:=by
     rw [<- hstep,qeg];rfl
    rw [show ((y:Int).toNat * 1)=y by simp,e];refine (zlj (f:=pgF p g 3 4) rfl om hpart (by rw [hpl,qal,zyo])).trans ?_;rw [zby,zby,qhp]
   (repeat (first|refine zy ?_|refine xht rfl rfl om om om rfl rfl ?_))
   refine ylb y om om ?_ (fun id o h=>h);rw [hnext];exact zs
  simp at h4;obtain rfl:x=0:=by omega
  refine zY ?_;rw [qfh,hrest,wayR_zero,hset];refine ylb u om om zs (fun id o h=>h)
 simp at h3;obtain rfl:v=0:=by omega
 refine zk ?_;rw [wayT_zero];exact yum (f:=pgF p g 3 4) (M:=16) (n:=tbl.length) rfl rfl rfl (by rw [yxl]) rfl
theorem runrank_con (p:ProgD) (g:GraphD) (k:Int) (hf:Fair p g):Con prog 12 [yhb p,yfm g,i64 k] (pairC (unrankM p g k)):=by
 have hcon:=yjd p g hf;refine ze Tryz.func12 ntmps12 Tryz.results12 ?_;refine zZ ?_;by_cases h0:ycn p g=0
 .rw [yhx,if_pos h0,unrankM,if_pos h0];have hb:=yvm (yad p g);have hb0:0<=(yci (yad p g)).1:=by
   unfold yci;cases hc:yhp 1 (yad p g).flatten with
   | none=>simp
   | some n=>
    have ht:=ydf hf h0;have hw:∀ b∈(yad p g).flatten,wOk b:=fun b hb=>by
     obtain ⟨r,hr,hb⟩:=qda.1 hb;exact zqf ((ht.2 r hr).2 b hb)
    have e:=((zma _ 1 om om hw).1 n hc).1;have:=(zfq (yad p g).flatten 1 om om hw).1;simp only;omega
  refine zj ?_ ?_ <;> intro h1
  .refine zk ?_;rw [if_neg (by simpa using h1)];exact Frz.tup2 Frz.nil Frz.pure
  have h1':(yci (yad p g)).2=0:=by simpa using h1
  rw [if_pos h1']
  (repeat (first|refine zy ?_|refine zc (ytl _ _ _) ?_))
  refine zj ?_ ?_ <;> intro h2
  .refine zk ?_;simp [inB] at h2;rw [if_neg om];exact Frz.tup2 Frz.nil Frz.pure
  simp [inB] at h2;rw [if_pos om]
  (repeat (first|refine zy ?_|refine zc (zqa p g k hf h0 om) ?_))
  exact zp
 rw [yhx,if_neg h0,unrankM,if_neg h0];refine zj ?_ ?_ <;> intro h1
 .refine zk ?_;exact Frz.tup2 Frz.nil Frz.pure
 simp [h0] at h1
end
section
open Go.RowKit
def rbF (p:ProgD) (g:GraphD) (acc:SpcD):List (Nat × Option LObj):=[(10,some (.cells [.ls 60 1 acc.length,.ls 61 1 acc.length])),(60,some (.vec (acc.map fun x=>ybd x.1))),(61,some (.vec (acc.map fun x=>yda x.2))),(6,some (.cells [yfj,yfj])),(4,some (.cells [yah g.ids,yat g.ports])),(3,some (.cells [ynt p.name,.sl 6 (p.vars.map ybq),.sl 3 (p.rules.map ybg)]))]
theorem flatA_snoc {l:List ArcD} {a:ArcD}:yfo l++yob a=yfo (l++[a]):=by simp [yfo]
theorem rbuild_con (p:ProgD) (g:GraphD) (hf:Fair p g) (h0:ycn p g=0) (hk:1<=kind/\kind<=4) (hn:yci (yad p g)=((n:Int),0)):Con prog 25 [yhb p,yfm g,i64 kind] (zau (yth p g kind n 0 0)):=by
 have hg:=(ycv.1 h0).2.1;have hnb:(n:Int)<=32768:=by have:=yvm (yad p g);rw [hn] at this;exact this
 have hco:=yjd p g hf;rw [yhx,if_pos h0,hn] at hco;have hrk:=ywz kind;rw [decide_eq_true hk.1,decide_eq_true hk.2] at hrk;have ht:=ydf hf h0;have hr:∀ r∈yad p g,∀ b∈r,yua b:=fun r hr=>(ht.2 r hr).2;obtain ⟨q,hq,hq2⟩:=ylo (tbl:=yad p g) (by rw [hn]);rw [hn] at hq2;obtain rfl:(n:Int)=q:=congrArg Prod.fst hq2;have hcf:=yuf hf h0;refine ydv tok Tryz.func25 rfl rfl ntmps25 Tryz.results25 rfl (zfs _) ?_;refine zZ ?_;refine yvd 10 0 60 1 rfl rfl rfl rfl rfl ?_;refine yvd 10 1 61 1 rfl rfl rfl rfl rfl ?_;refine ycx (α:=SpcD) (fun a=>[(12,i64 a.length),(11,i64 (ymh a)),(10,.lp 10 0),(8,i64 n),(2,i64 kind),(3,.lp 3 0),(4,.lp 4 0),(6,.lp 6 0)]) (fun a=>rbF p g a) (fun a=>n - a.length) (fun a=>a.length<=n/\ymh a<=262144/\yth p g kind n 0 0=(yth p g kind (n - a.length) a.length (ymh a)).map (a++·)) [] ⟨sm,by simp [ymh],by simp [ymh]⟩ zs (yai (yaa rfl (yaa rfl (yaa rfl (yaa rfl (yaa rfl (yaa rfl yag))))))) ?_;intro acc ⟨hal,hT,hb⟩;obtain ⟨k,hk'⟩:∃ k,acc.length=k:=⟨_,rfl⟩;rw [hk'] at hal hb ⊢;refine zY ?_;refine zj ?_ ?_ <;> intro q1
 .have q1:k < n:=by simp at q1;omega
  obtain ⟨m,hm⟩:∃ m,n - k=m+1:=⟨n - k - 1,om⟩;rw [hm] at hb;obtain ⟨c,hc⟩:∃ c,ybn (yad p g) k=c:=⟨_,rfl⟩;have hcok:CfgOk p g c:=hc ▸ hcf k;have hrank:ydc (yad p g) c=k:=hc ▸ yrd hr hq k om;have hcon:=zqa p g k hf h0 ⟨om,om⟩;rw [xba hr hq (by omega:(k:Int) < n),hc] at hcon;have hena:=renabled_con hcok;have h24:=hcok.n24;have hclen:=hcok.len;have hE:InN g.ports.length (ydn p g c):=fun u hu=>by
   by_cases h32:u < 32
   .show (yns (yrz p g c) c.length).getLsbD u=false;rw [yik _ _ _ h32,decide_eq_false om];rfl
   exact qbs _ _ om
  have hcho:=rchoices_con g hg hf.lg kind hk (ydn p g c) hE;cases hcv:yyl g kind (ydn p g c) with
  | none=>
   rw [hcv] at hcho;have hb2:yth p g kind n 0 0=none:=by rw [hb,yth,hc,ypu,hcv];rfl
   rw [hb2];refine zZ ?_;refine zr ?_;exact Frz.tup2 yko Frz.pure
  | some l=>
   rw [hcv] at hcho;have hll:=zki hcv;obtain ⟨g1,g2,g3⟩:=zkj hg hk hcv;refine zZ ?_;refine zj ?_ ?_ <;> intro q2
   .have q2:262144 < ymh acc+l.length:=by simp at q2;omega
    have hb2:yth p g kind n 0 0=none:=by rw [hb,yth,hc,ypu,hcv];simp only [qar,qal];rw [if_pos q2];rfl
    rw [hb2];refine zk ?_;exact Frz.tup2 yko Frz.pure
   have q2:¬ 262144 < ymh acc+l.length:=by simp at q2;omega
   refine zY ?_;refine zjz 17 70 2 rfl rfl rfl ?_;obtain ⟨ar,har⟩:∃ ar,l.map (xji p g c k)=ar:=⟨_,rfl⟩;have harl:ar.length=l.length:=by rw [<- har,qal]
   have hx:ypu p g kind c k=some (ydn p g c,ar):=by rw [ypu,hcv,<- har];rfl
   have hb2:yth p g kind n 0 0=(yth p g kind m (k+1) (ymh acc+l.length)).map ((acc++[(ydn p g c,ar)])++·):=by
    rw [hb,yth,hc,hx];simp only [harl];rw [if_neg q2,qfg];congr 1;funext z;simp
   refine ycx (α:=Nat) (fun i=>[(18,i64 i),(17,.ls 70 2 i),(15,ynn l),(14,ybd (ydn p g c)),(13,yds c),(12,i64 k),(11,i64 ((ymh acc:Int)+(l.length:Int))),(10,.lp 10 0),(8,i64 n),(2,i64 kind),(3,.lp 3 0),(4,.lp 4 0),(6,.lp 6 0)]) (fun i=>(70,some (.vec (yfo (ar.take i))))::rbF p g acc) (fun i=>l.length - i) (fun i=>i<=l.length) 0 om zs (yai (yaa rfl (yaa rfl (yaa rfl (yaa rfl (yaa rfl (yaa rfl (yaa rfl yag)))))))) ?_;intro i hi;refine zY ?_;refine zj ?_ ?_ <;> intro q3
   .simp at q3;obtain ⟨B,hB⟩:=ybr q3;obtain ⟨hB1,hB2⟩:=g2 B (qab hB);have hstp:=hcok.step B;have hs:=rstep_con hcok B hB1 hB2;have hnum:=zfm p g (ytr p g c B) hf hstp.cin h0 hstp.table (by rw [hn]);rw [zpz hcok hB2 hn,hrank] at hnum;have hari:ar[i]?=some (xji p g c k B):=by rw [<- har,qah,hB];rfl
    have htk:=yan hari;have htl:(yfo (ar.take i)).length=i * 2:=by rw [zds,qcf];omega
    (repeat (first|refine zz ?_|refine ydx tok rfl rfl rfl htl rfl (by simp [yar]) so rfl rfl rfl rfl rfl ?_))
    refine ylb (i+1) om om zs (yai (yaa ?_ (yaa rfl (yaa rfl (yaa rfl (yaa rfl (yaa rfl (yaa rfl yag))))))));show some _=some _;rw [htk,<- flatA_snoc];rfl
   simp at q3;obtain rfl:i=l.length:=by omega
   rw [<- harl,qay]
   (repeat (first|with_reducible refine ydk ?_|with_reducible refine ycd ?_|refine ycy ?_|refine ymi ?_))
   refine zt ?_;refine zbh (h':=(70,some (.vec (yfo ar)))::rbF p g acc) 17 (ar.map yob) rfl rfl (by rw [qal]) (by intro r hr;obtain ⟨z,_,rfl⟩:=qag.1 hr;rfl) rfl rfl rfl ?_;have harr:rbF p g (acc++[(ydn p g c,ar)])=[(10,some (.cells [.ls 60 1 (k+1),.ls 61 1 (k+1)])),(60,some (.vec ((acc.map fun x=>ybd x.1)++[ybd (ydn p g c)]))),(61,some (.vec ((acc.map fun x=>yda x.2)++[yda ar]))),(6,some (.cells [yfj,yfj])),(4,some (.cells [yah g.ids,yat g.ports])),(3,some (.cells [ynt p.name,.sl 6 (p.vars.map ybq),.sl 3 (p.rules.map ybg)]))]:=by simp [rbF,hk']
   have hrb:rbF p g acc=[(10,some (.cells [.ls 60 1 k,.ls 61 1 k])),(60,some (.vec (acc.map fun x=>ybd x.1))),(61,some (.vec (acc.map fun x=>yda x.2))),(6,some (.cells [yfj,yfj])),(4,some (.cells [yah g.ids,yat g.ports])),(3,some (.cells [ynt p.name,.sl 6 (p.vars.map ybq),.sl 3 (p.rules.map ybg)]))]:=by simp [rbF,hk']
   have hm1:(acc.map fun x=>ybd x.1).length=k * 1:=by simp [hk']
   have hm2:(acc.map fun x=>yda x.2).length=k * 1:=by simp [hk']
   have htot:ymh (acc++[(ydn p g c,ar)])=ymh acc+ar.length:=by simp [ymh]
   rw [hrb];refine yqf (t':=[(17,yda ar),(14,ybd (ydn p g c)),(12,i64 k),(11,i64 ((ymh acc:Int)+(ar.length:Int))),(10,.lp 10 0),(8,i64 n),(2,i64 kind),(3,.lp 3 0),(4,.lp 4 0),(6,.lp 6 0)]) (h':=[(10,some (.cells [.ls 60 1 k,.ls 61 1 k])),(60,some (.vec (acc.map fun x=>ybd x.1))),(61,some (.vec (acc.map fun x=>yda x.2))),(6,some (.cells [yfj,yfj])),(4,some (.cells [yah g.ids,yat g.ports])),(3,some (.cells [ynt p.name,.sl 6 (p.vars.map ybq),.sl 3 (p.rules.map ybg)]))]) ?_ zs (yai (yaa rfl (yaa rfl (yaa rfl (yaa rfl (yaa rfl (yaa rfl yag))))))) ;refine zzv [(12,i64 k),(11,i64 ((ymh acc:Int)+(ar.length:Int))),(10,.lp 10 0),(8,i64 n),(2,i64 kind),(3,.lp 3 0),(4,.lp 4 0),(6,.lp 6 0)] (rbF p g (acc++[(ydn p g c,ar)])) ?_ fun s2 hs2=>?_
   .rw [harr];refine ybx (lf:=lf0) ysy rfl ?_
    repeat' (first
    | refine zo ?_
    | refine ydx tok rfl rfl rfl hm1 rfl (by simp [yar]) so rfl rfl rfl rfl rfl ?_
    | refine ydx tok rfl rfl rfl hm2 rfl (by simp [yar,yda]) so rfl rfl rfl rfl rfl ?_
    | exact mid zs (yaa rfl (yaa rfl (yaa rfl (yaa rfl (yaa rfl (yaa rfl yag))))))
    | exact trivial
    | refine ⟨⟨_,rfl,?_⟩,?_⟩
    | refine yau [10,11,12,13] (yab rfl (yab rfl (yab rfl (yab rfl yak)))) rfl dk ?_
    | refine yau [9,11,12,13] (yab rfl (yab rfl (yab rfl (yab rfl yak)))) rfl dk ?_
    | refine yee [0,1,2,3] 10 (yab rfl (yab rfl (yab rfl (yab rfl yak)))) rfl dk ?_
    | refine yee [5,6,7,8] 5 (yab rfl (yab rfl (yab rfl (yab rfl yak)))) rfl dk ?_
    | refine yee [5,6,8] 5 (yab rfl (yab rfl (yab rfl yak))) rfl dk ?_
    | refine yee [5,6] 5 (yab rfl (yab rfl yak)) rfl dk ?_
    | refine yee [6,7,8] 5 (yab rfl (yab rfl (yab rfl yak))) rfl dk ?_
    | refine yee [6,8] 5 (yab rfl (yab rfl yak)) rfl dk ?_
    | refine yee [6] 5 (yab rfl yak) rfl dk ?_
    | refine yee [7,8] 5 (yab rfl (yab rfl yak)) rfl dk ?_
    | refine yee [8] 5 (yab rfl yak) rfl dk ?_
    | refine yee [4] 5 (yab rfl yak) rfl dk ?_
    | refine yaq [9,10] 4 rfl dk sm ?_
    | refine yaq [4,5,7] 9 rfl dk sm ?_
    | refine yaq [4,5,8] 8 rfl dk sm ?_
    | refine yaq [4,5] 7 rfl dk sm ?_
    | refine yaq [4,6,7] 8 rfl dk sm ?_
    | refine yaq [4,6,8] 7 rfl dk sm ?_
    | refine yaq [4,6] 6 rfl dk sm ?_
    | refine yaq [4,7] 7 rfl dk sm ?_
    | refine yaq [4,8] 6 rfl dk sm ?_)
   refine ynu ?_ hs2;have e14:((ymh (acc++[(ydn p g c,ar)]):Nat):Int)=(ymh acc:Int)+(ar.length:Int):=by rw [htot];omega
   have elen:(acc++[(ydn p g c,ar)]).length=k+1:=by simp [hk']
   refine zY ?_;refine ylb (acc++[(ydn p g c,ar)]) ⟨by rw [elen];omega,by rw [htot];omega,by rw [elen,htot,show n - (k+1)=m by omega,harl];exact hb2⟩ (by rw [elen];omega) ?_ (fun id o h=>h);rw [elen,e14];exact zs
 have q1:k=n:=by simp at q1;omega
 rw [q1,qbn] at hb;have hb3:yth p g kind n 0 0=some acc:=by rw [hb];simp [yth]
 rw [hb3]
 (repeat (first|with_reducible refine ydk ?_|with_reducible refine ycd ?_|refine ycy ?_|refine ymi ?_))
 refine yeg 10 0 (acc.map fun x=>[ybd x.1]) rfl rfl rfl sm (fun row hr=>by obtain ⟨y,_,rfl⟩:=qag.1 hr;rfl) (ycz _) rfl rfl rfl rfl ?_;refine yeg 10 1 (acc.map fun x=>[yda x.2]) rfl rfl rfl sm (fun row hr=>by obtain ⟨y,_,rfl⟩:=qag.1 hr;rfl) (ycz _) rfl rfl rfl rfl ?_;refine zk ?_;have e3:zau (some acc)=.tup [.agg [.sl 1 (acc.map fun x=>[ybd x.1]),.sl 1 (acc.map fun x=>[yda x.2])],i64 0]:=by simp [zau,ynn,Function.comp_def]
 rw [e3];exact Frz.pure
end
section
open Go.RowKit
def ypm (s:SpcD) (k:Nat):List ArcD:=((s[k]?).map (·.2)).getD []
theorem zde {x:BitVec 32 × List ArcD} (h:s[k]?=some x):ypm s k=x.2:=by simp [ypm,h]
def xaf {α:Type} (R:List (List α)) (x:Nat) (k:α):List (List α):=R.set x (R.getD x []++[k])
structure RowsOk {α:Type} (n T:Nat) (q:α->Prop) (R:List (List α)):Prop where
 len:R.length=n
 row:∀ r∈R,r.length<=T/\∀ k∈r,q k
theorem RowsOk.at {q:α->Prop} (h:RowsOk n T q R) (x:Nat):(R.getD x []).length<=T/\∀ k∈R.getD x [],q k:=by
 rw [qad];cases hx:R[x]? with
 | none=>simp
 | some r=>exact h.row r (qab hx)
theorem RowsOk.add {q:α->Prop} (h:RowsOk n T q R) (x:Nat) {k:α} (hk:q k):RowsOk n (T+1) q (xaf R x k):=by
 refine ⟨by simp [xaf,h.len],fun r hr=>?_⟩;unfold xaf at hr;rcases qet hr with hr|rfl
 .obtain ⟨h1,h2⟩:=h.row r hr;exact ⟨om,h2⟩
 obtain ⟨h1,h2⟩:=h.at x;refine ⟨by simp only [qao,qhj];omega,fun j hj=>?_⟩;rcases qau.1 hj with hj|hj
 .exact h2 j hj
 simp only [qaq] at hj;rw [hj];exact hk
theorem RowsOk.nil {α:Type} (n T:Nat) (q:α->Prop):RowsOk n T q (List.replicate n []):=⟨sm,fun r hr=>by rw [List.eq_of_mem_replicate hr];simp⟩
theorem RowsOk.mono {T':Nat} {q:α->Prop} (h:RowsOk n T q R) (hT:T<=T'):RowsOk n T' q R:=⟨h.len,fun r hr=>⟨qbp (h.row r hr).1 hT,(h.row r hr).2⟩⟩
def zqq (s:SpcD) (L:List Bool) (k:Nat) (q:List Nat × List Nat):List Nat × List Nat:=
 (if !(L.getD k false) && (q.2.getD k 0+1 == (ypm s k).length) then q.1++[k] else q.1,q.2.set k (q.2.getD k 0+1))
theorem zbs {l:List α} {i j:Nat} {x d:α}:(l.set i x).getD j d=if i=j/\i < l.length then x else l.getD j d:=by
 rw [qad,qcy,qad];by_cases h:i=j
 .subst h;by_cases hi:i < l.length
  .simp [hi]
  simp [hi]
 simp [h]
structure OrdI (s:SpcD) (L:List Bool) (c:Nat) (q:List Nat × List Nat):Prop where
 elen:q.2.length=s.length
 nd:q.1.Nodup
 mem:∀ k∈q.1,k < s.length/\(L.getD k false=true\/(ypm s k).length<=q.2.getD k 0)
 bd:∀ k,q.2.getD k 0<=c
theorem OrdI.le {L:List Bool} {c:Nat} {q:List Nat × List Nat} (h:OrdI s L c q):q.1.length<=s.length:=xgo _ _ h.nd fun k hk=>(h.mem k hk).1
theorem OrdI.mono {L:List Bool} {c c':Nat} {q:List Nat × List Nat} (h:OrdI s L c q) (hc:c<=c'):OrdI s L c' q:=⟨h.elen,h.nd,h.mem,fun k=>qbp (h.bd k) hc⟩
theorem OrdI.step {s:SpcD} {L:List Bool} {c k:Nat} {q:List Nat × List Nat} (h:OrdI s L c q) (hk:k < s.length):OrdI s L (c+1) (zqq s L k q):=by
 have hup:∀ j,q.2.getD j 0<=(zqq s L k q).2.getD j 0:=fun j=>by
  unfold zqq;rw [zbs];split
  .rename_i e;rw [e.1];omega
  exact qbh _
 have hself:(zqq s L k q).2.getD k 0=q.2.getD k 0+1:=by
  unfold zqq;rw [zbs,if_pos ⟨rfl,by rw [h.elen];exact hk⟩]
 have hold:∀ j∈q.1,j < s.length/\(L.getD j false=true\/(ypm s j).length<=(zqq s L k q).2.getD j 0):=fun j hj=>by
  obtain ⟨h1,h2⟩:=h.mem j hj;exact ⟨h1,h2.imp id fun h2=>qbp h2 (hup j)⟩
 refine ⟨by unfold zqq;simp [h.elen],?_,?_,fun j=>?_⟩
 .show (if _ then _ else _:List Nat).Nodup;split
  .rename_i hc;simp only [qac,qbt,beq_iff_eq] at hc;refine qfm.2 ⟨h.nd,sm,fun x hx y hy e=>?_⟩;simp only [qaq] at hy;subst hy;subst e;rcases (h.mem _ hx).2 with g|g
   .rw [hc.1] at g;cases g
   omega
  exact h.nd
 .intro j hj;have:j∈(if !(L.getD k false) && (q.2.getD k 0+1 == (ypm s k).length) then q.1++[k] else q.1):=hj;split at this
  .rename_i hc;simp only [qac,qbt,beq_iff_eq] at hc;rcases qau.1 this with hj|hj
   .exact hold j hj
   simp only [qaq] at hj;subst hj;exact ⟨hk,.inr (by rw [hself];omega)⟩
  exact hold j this
 have:=h.bd j;unfold zqq;rw [zbs];split
 .rename_i e;have:=h.bd k;omega
 omega
structure GrI (n B:Nat) (R:List Nat):Prop where
 len:R.length=n
 bd:∀ k,R.getD k 0<=B
theorem GrI.mono {B B':Nat} {R:List Nat} (h:GrI n B R) (hB:B<=B'):GrI n B' R:=⟨h.len,fun k=>qbp (h.bd k) hB⟩
theorem GrI.step {n B:Nat} {R:List Nat} (h:GrI n B R) (k:Nat) {c x:Nat} (hc:c<=32):GrI n (B+32) (R.set k (max (R.getD k 0) (c+R.getD x 0))):=by
 refine ⟨by simp [h.len],fun j=>?_⟩;rw [zbs];have h1:=h.bd k;have h2:=h.bd x;have h3:=h.bd j;split <;> omega
end
end Go.Proofs.YtgpodcjhgdionaaGreatDoor
