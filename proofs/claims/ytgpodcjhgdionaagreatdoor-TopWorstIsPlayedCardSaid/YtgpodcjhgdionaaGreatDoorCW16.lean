/- Part 16 of the texts under TopWorstIsPlayed. -/
import Derived.Test.YtgpodcjhgdionaaGreatDoorCW5
import Derived.Test.YtgpodcjhgdionaaGreatDoorCW6
import Derived.Test.YtgpodcjhgdionaaGreatDoorCW11
import Derived.Test.YtgpodcjhgdionaaGreatDoorCW12
import Derived.Test.YtgpodcjhgdionaaGreatDoorCW13
import Derived.Test.YtgpodcjhgdionaaGreatDoorCW14
import Derived.Test.YtgpodcjhgdionaaGreatDoorCW15
set_option linter.unusedVariables false
set_option maxRecDepth 100000
namespace Go.Proofs.YtgpodcjhgdionaaGreatDoor
open Go.Proofs.Tryz
variable{L:List Bool}{s:SpcD}{g:GraphD}{c:List (List Int)}{p:ProgD}{rows:List (List AV)}{kind:Int}{n x k:Nat}{ez z:List Value}{ty:TypeId}{y:Operand}
section
open Go.RowKit
theorem sysF_some(hin:yjt p)(h:zsv p g kind L=some s):yxa p g 120=true/\L.length<=200/\ycv p g=0/\(1<=kind/\kind<=4)/\L.length=s.length/\∃ n:Nat,yce (yaf p g)=((n:Int),0)/\yth p g kind n 0 0=some s:=by
 unfold zsv at h;split at h
 .rename_i hc;cases hq:ygz 1 (yaf p g).flatten with
  | none=>rw[hq]at h;cases h
  | some n=>
   rw[hq]at h;simp only at h;cases hb:yth p g kind n.toNat 0 0 with
   | none=>rw[hb]at h;cases h
   | some s2=>
    rw[hb]at h;simp only at h;split at h
    .rename_i hl;cases h;have hp:=ynt hq;have hw:∀ b∈(yaf p g).flatten,wOk b:=zuk fun b hb=>by
      obtain⟨r,h1,h2⟩:=qdk.1 hb;have hf:Fair p g:=yzh hin hc.1;exact((ydj hf hc.2.2.2.1).2 r h1).2 b h2
     have:=yoi hw;have hn:(n.toNat:Int)=n:=qef om;exact⟨hc.1,hc.2.2.1,hc.2.2.2.1,hc.2.2.2.2,hl,n.toNat,by unfold yce;rw[hq,hn],hb⟩
    cases h
 cases h
theorem SysOk.rankM(hS:SysOk p g kind n s)(hn:yce (yaf p g)=((n:Int),0))(hx:x < n):rankM p g (ydi (yaf p g) x)=((x:Int),0):=by
 unfold Go.Proofs.YtgpodcjhgdionaaGreatDoor.rankM;rw[if_pos (hS.cfg x).chk,hn];simp only;rw[if_pos trivial,hS.rank x hx]
theorem SysOk.unrankM(hS:SysOk p g kind n s)(hf:Fair p g)(h0:ycv p g=0)(hn:yce (yaf p g)=((n:Int),0))(hk:k < n):unrankM p g k=(ydi (yaf p g) k,0):=by
 obtain⟨q,hq,hq2⟩:=yjc (tbl:=yaf p g) (by rw[hn]);rw[hn]at hq2;obtain rfl:(n:Int)=q:=congrArg Prod.fst hq2;unfold Go.Proofs.YtgpodcjhgdionaaGreatDoor.unrankM;rw[if_pos h0,hn];simp only;rw[if_pos trivial,if_pos ⟨om,om⟩,xcc (fun r hr=>((ydj hf h0).2 r hr).2) hq om]
end
set_option maxHeartbeats 8000000
section
open Go.RowKit
inductive Sch (s:SpcD) (L:List Bool) (R:List Nat):Nat->List (BitVec 32)->Prop
 | leg {k:Nat} (h:L.getD k false=true):Sch s L R k []
 | step {k:Nat} {a:ArcD} {pre post:List ArcD} {p:List (BitVec 32)} (h:L.getD k false=false) (he:ycg s k=pre++a::post) (hne:∀ b∈pre,mvA b+R.getD b.2.toNat 0≠R.getD k 0) (ha:mvA a+R.getD a.2.toNat 0=R.getD k 0) (hp:Sch s L R a.2.toNat p):Sch s L R k (a.1::p)
theorem arcs_le(h:SpcOk s)(k:Nat):(ycg s k).length<=262144:=by
 obtain⟨h1,h2,h3,h4⟩:=h;unfold ycg;cases hx:s[k]? with
 | none=>simp
 | some y=>
  have:=ykg hx;have:=yrl s (k+1);simp only[qav,qbu];omega
theorem xcs(h:SpcOk s):∀ {o:List Nat} {B:Nat} {R:List Nat},GrI s.length B R->GrI s.length (B+8388608 * o.length) (grS mvA s L o R)
 | [],B,R,hR=>hR.mono sm
 | k::o,B,R,hR=>by
  unfold grS;rw[qaj];split
  .exact (xcs h (o:=o) hR).mono om
  have h1:=xcr (cost:=mvA) (fun a=>xdx _) (k:=k) (l:=ycg s k) hR;have h2:=arcs_le h k;exact(xcs h (o:=o) h1).mono om
theorem xgw(h:SpcOk s)(hl:L.length=s.length):GrI s.length 1000000000000 (grF mvA s L):=by
 have h1:=xcs h (L:=L) (o:=ysy s L) (xgx s.length 0);have h2:=(xhg (s:=s) hl).2.2;obtain⟨g1,g2,g3,g4⟩:=h;exact h1.mono om
theorem schedule_con(h:SpcOk s)(hl:L.length=s.length)(ho:¬ (ysy s L).length < L.length)(hk:k < s.length){p:List (BitVec 32)}(hp:Sch s L (grF mvA s L) k p)(hpl:p.length<=32768):Con prog 11 [yjw s,yfv L,i64 k] (.tup [ydh p,i64 0]):=by
 have hmo:=zqq h hl;rw[xgz,if_neg ho]at hmo;have hG:=xgw h hl;obtain⟨R,hRe⟩:∃ R,grF mvA s L=R:=⟨_,rfl⟩;rw[hRe]at hmo hp hG;obtain⟨h1,h2,h3,h4⟩:=h;have e1:(s.map (·.1)).length=s.length:=qai ..;have e2:(s.map fun x=>[ybd x.2]).length=s.length:=qai ..;have e3:(L.map fun b=>[yau b]).length=L.length:=qai ..;have e4:((yhc R).map fun z=>[i64 z]).length=R.length:=by simp[yhc]
 have hRl:=hG.len;refine ze Tryz.func11 ntmps11 Tryz.results11 ?_;refine zZ ?_;refine zj ?_ ?_ <;> intro q1
 .exfalso;simp at q1;omega
 refine zY ?_;refine zcr 10 60 1 rfl rfl rfl ?_;refine ybw (α:=Nat × List (BitVec 32) × List (BitVec 32)) (fun q=>[(11,i64 q.1),(10,.ls 60 1 q.2.1.length),(8,yai (yhc R)),(3,.lp 3 0),(1,yfv L)]) (fun q=>[(60,some (.vec (q.2.1.map yav))),(3,some (xar s))]) (fun q=>q.2.2.length) (fun q=>q.1 < s.length/\Sch s L R q.1 q.2.2/\q.2.1++q.2.2=p) (k,[],p) ⟨hk,hp,rfl⟩ zs (yah (yab rfl (yab rfl yag))) ?_;rintro⟨x,d,r⟩ ⟨hx,hS,hd⟩;simp only at hx hS hd ⊢;have hdl:d.length+r.length=p.length:=by rw[<- hd,qan]
 obtain⟨b,hb⟩:=ybk (show x < L.length by omega);refine zY ?_;cases hS with
 | leg hq=>
  have hbt:b=true:=by simpa[hb]using hq
  subst hbt;refine zY ?_;rw[qba]at hd;subst hd;refine zr ?_;exact Frz.tup2 (yqo rfl rfl) Frz.pure
 | @step _ a pre post r hq he hne ha hS=>
  have hbt:b=false:=by simpa[hb]using hq
  subst hbt;obtain⟨y,hy⟩:=ybk hx;rw[ynp hy]at he;have hyg:=xmp hy;have hay:=h4 y (qab hy);have hyl:y.2.length<=262144:=by have:=ykg hy;have:=yrl s (x+1);omega
  refine zY ?_;refine ybw (α:=Nat) (fun j=>[(45,i64 j),(44,i64 y.2.length),(43,ybd y.2),(12,i64 x),(11,i64 x),(10,.ls 60 1 d.length),(8,yai (yhc R)),(3,.lp 3 0),(1,yfv L)]) (fun j=>[(60,some (.vec (d.map yav))),(3,some (xar s))]) (fun j=>pre.length - j) (fun j=>j<=pre.length) 0 om zs (hsE rfl) ?_;intro j hj;have hjl:j < y.2.length:=by rw[he];simp;omega
  obtain⟨c,hc⟩:=ybk hjl;obtain⟨B,to,rfl⟩:∃ (B:BitVec 32) (to:Nat),c=(B,(to:Int)):=⟨c.1,c.2.toNat,by
   have:=(hay.grow j c hc).2.2.2.1
   rw[qef this]⟩
  have hto:to < s.length:=by have:=(hay.grow j _ hc).2.2.2.2;simpa using this
  have hco:=zkh (B,(to:Int));have hc3:mvA (B,(to:Int))<=32:=xdx _;obtain⟨u,hu⟩:=ybk (show x < R.length by omega);obtain⟨v,hv⟩:=ybk (show to < R.length by omega);have hbv:=hG.bd to;have hug:=yyt hu;have hvg:=yyt hv;obtain⟨m,hm⟩:∃ m,mvA (B,(to:Int))=m:=⟨_,rfl⟩;simp only[qac,hv,qbu]at hbv;rw[hm]at hco hc3;refine zY ?_;refine zj ?_ ?_ <;> intro q2
  .refine zWZ ?_;refine ybg (lf:=lf0) ymj rfl ?_;refine yaz [0,1,2,3,4,5,6,7,8,9,10,11,12] (yaa rfl (yaa rfl (yaa rfl (yaa rfl (yaa rfl (yaa rfl (yaa rfl (yaa rfl (yaa rfl (yaa rfl (yaa rfl (yaa rfl (yaa rfl yal))))))))))))) rfl kf ?_;refine zWZ ?_;refine zj ?_ ?_ <;> intro q3
   .simp at q3;have hjp:j=pre.length:=by
     rcases qbh j pre.length with hlt|hge
     .exfalso;have hcp:pre[j]?=some (B,(to:Int)):=by rw[<- hc,he,qam hlt]
      have:=hne _ (qab hcp);simp only[qac,qcl,hu,hv,qbu,hm]at this;omega
     omega
    have hca:a=(B,(to:Int)):=by
     rw[he,qah om,hjp,qbm]at hc;simpa using hc
    subst hca;simp only[qcl]at hS
    (repeat (first|refine zy ?_|refine ydy tok rfl rfl rfl sm rfl (by simp[yas]) so rfl rfl rfl rfl rfl ?_))
    refine yhi (to,d++[B],r) ⟨hto,hS,by rw[<- hd];simp⟩ sm ?_ (yah (yab ?_ (yab rfl yag)))
    .simp only[qan,qgc];exact zs
    show some _=some _;simp;rfl
   simp at q3;have hjp:j < pre.length:=by
    rcases qbh j pre.length with hlt|hge
    .exact hlt
    exfalso;obtain rfl:j=pre.length:=by omega
    rw[he,qah (qbf _),qbm]at hc;have hca:a=(B,(to:Int)):=by simpa using hc
    subst hca;simp only[qac,qcl,hu,hv,qbu,hm]at ha;omega
   refine zY ?_;exact yhi (j+1) om om zs (yah (yab rfl (yab rfl yag)))
  simp at q2;omega
end
section
open Go.RowKit
inductive Dead (s:SpcD) (L:List Bool):Nat->Prop
 | leg {k:Nat} (h:L.getD k false=true):Dead s L k
 | step {k:Nat} (h1:ycg s k≠[]) (h2:∀ a∈ycg s k,Dead s L a.2.toNat):Dead s L k
def yqe(s:SpcD)(k x:Nat):Nat:=((ycg s k).filter fun a=>decide (a.2.toNat=x)).length
theorem addRow_get{α:Type}{R:List (List α)}{y:Nat}{k:α}(hx:x < R.length):(ytf R x k).getD y []=R.getD y []++if x=y then [k]else []:=by
 unfold ytf;rw[yjp];by_cases h:x=y
 .subst h;simp[hx]
 simp[h]
theorem zjv{j:Nat}:∀ {l:List ArcD} {R:List (List Nat)} (y:Nat),R.length=n->(∀ a∈l,a.2.toNat < n)->((zyx k l R).getD y []).count j=(R.getD y []).count j+(if k=j then(l.filter fun a=>decide (a.2.toNat=y)).length else 0)
 | [],R,y,_,_=>by simp[zyx]
 | a::l,R,y,hR,hl=>by
  have ha:=hl a (qbe ..);rw[zyx,zjv y (by simp[ytf,hR]) fun b hb=>hl b (qap _ hb),addRow_get om,List.count_append];by_cases hk:k=j
  .subst hk;rw[if_pos rfl,if_pos rfl];by_cases hy:a.2.toNat=y
   .rw [if_pos hy,qct (by simpa using hy)];simp;omega
   rw[if_neg hy,qcz (by simpa using hy)];simp
  rw[if_neg hk,if_neg hk];split
  .simp [hk]
  simp
theorem zjw{n:Nat}{s0:SpcD}{j:Nat}:∀ {s:SpcD} {k:Nat} {R:List (List Nat)} (y:Nat),s0.drop k=s->R.length=n->(∀ x∈s,∀ a∈x.2,a.2.toNat < n)->((xgf k s R).getD y []).count j=(R.getD y []).count j+(if k<=j then yqe s0 j y else 0)
 | [],k,R,y,hs,hR,_=>by
  rw[xgf];split
  .rename_i hk;have:s0[j]?=none:=by
    rw[qgj];have:=congrArg List.length hs;simp at this;omega
   simp[yqe,ycg,this]
  simp
 | x::s,k,R,y,hs,hR,hl=>by
  have hx:s0[k]?=some x:=by
   have:=congrArg List.head? hs;simpa[List.head?_drop]using this
  have hs':s0.drop (k+1)=s:=by
   have:=congrArg List.tail hs;simpa using this
  have hRl:(zyx k x.2 R).length=n:=by
   have:∀ (l:List ArcD) (R:List (List Nat)),(zyx k l R).length=R.length:=by
    intro l;induction l with
    | nil=>intro R;rfl
    | cons a l ih=>intro R;rw[zyx,ih];simp[ytf]
   rw[this,hR]
  rw[xgf,zjw (s0:=s0) y hs' hRl fun z hz=>hl z (qap _ hz),zjv y hR (hl x (qbe ..))];by_cases hkj:k=j
  .subst hkj;rw[if_pos rfl,if_neg om,if_pos (qbf _)];simp[yqe,ynp hx]
  rw[if_neg hkj];by_cases h2:k+1<=j
  .rw [if_pos h2,if_pos om];omega
  rw[if_neg h2,if_neg om]
theorem zrz(hs:∀ x∈s,∀ a∈x.2,a.2.toNat < s.length)(j y:Nat):((xas s).getD y []).count j=yqe s j y:=by
 have:=zjw (n:=s.length) (s0:=s) (j:=j) (s:=s) (k:=0) (R:=List.replicate s.length []) y rfl sm hs;unfold xas;rw[this];have e:(List.replicate s.length ([]:List Nat)).getD y []=[]:=by
  rw[qac,qcs];split <;> rfl
 rw[e];simp
def zhg(s:SpcD)(k:Nat)(o:List Nat):Nat:=(o.map fun x=>yqe s k x).sum
theorem znj{s:SpcD}{k:Nat}:∀ {o:List Nat},o.Nodup->zhg s k o=((ycg s k).filter fun a=>decide (a.2.toNat∈o)).length
 | [],_=>by
  have:(ycg s k).filter (fun a=>decide (a.2.toNat∈([]:List Nat)))=[]:=List.filter_eq_nil_iff.2 fun a _=>by simp
  rw[this];rfl
 | x::o,h=>by
  obtain⟨h1,h2⟩:=qcq.1 h;have ih:=znj (s:=s) (k:=k) h2;have e:zhg s k (x::o)=yqe s k x+zhg s k o:=by simp[zhg]
  rw[e,ih];unfold yqe;generalize ycg s k=l;induction l with
  | nil=>rfl
  | cons a l ih2=>
   by_cases ha:a.2.toNat=x
   .rw [qct (by simpa using ha),qcz (by simpa[ha]using h1),qct (by simp[ha]),qaj,qaj];omega
   by_cases hb:a.2.toNat∈o
   .rw [qcz (by simpa using ha),qct (by simpa using hb),qct (by simp[hb]),qaj,qaj];omega
   rw[qcz (by simpa using ha),qcz (by simpa using hb),qcz (by simp[ha,hb])];exact ih2
theorem zka{o:List Nat}:zhg s k (o++[x])=zhg s k o+yqe s k x:=by simp[zhg]
structure OrdK (s:SpcD) (L:List Bool) (P:List Nat) (r:List Nat) (q:List Nat × List Nat):Prop where
 pre:P <+: q.1
 nd:q.1.Nodup
 lt:∀ k∈q.1,k < s.length
 elen:q.2.length=s.length
 cnt:∀ k,k < s.length->q.2.getD k 0=zhg s k P+r.count k
 leg:∀ k,k < s.length->L.getD k false=true->k∈q.1
 mem:∀ k∈q.1,L.getD k false=true\/(ycg s k).length<=q.2.getD k 0
 done:∀ k,k < s.length->L.getD k false=false->ycg s k≠[]->(ycg s k).length<=q.2.getD k 0->k∈q.1
 top:∀ j k,q.1[j]?=some k->L.getD k false=false->∀ a∈ycg s k,a.2.toNat∈q.1.take j
theorem pre_next{P o:List Nat}(h:P <+: o)(hx:o[P.length]?=some x):P++[x] <+: o:=by
 obtain⟨t,rfl⟩:=h;rw[qah (qbf _),qbm]at hx;cases t with
 | nil=>simp at hx
 | cons y t=>
  simp only[qas,Option.some.injEq]at hx;subst hx;exact⟨t,sm⟩
theorem OrdK.step{s:SpcD}{L:List Bool}{P r:List Nat}{q:List Nat × List Nat}{x k:Nat}(h:OrdK s L P r q)(hP:q.1[P.length]?=some x)(hk:k < s.length)(hc:(r++[k]).count k<=yqe s k x):OrdK s L P (r++[k]) (yky s L k q)/\q.1 <+: (yky s L k q).1:=by
 have hself:(yky s L k q).2.getD k 0=q.2.getD k 0+1:=by
  unfold yky;rw[yjp,if_pos ⟨rfl,by rw[h.elen];exact hk⟩]
 have hoth:∀ j,j≠k->(yky s L k q).2.getD j 0=q.2.getD j 0:=fun j hj=>by
  unfold yky;rw[yjp,if_neg (fun e=>hj e.1.symm)]
 have helen:(yky s L k q).2.length=s.length:=by unfold yky;simp[h.elen]
 have hcnt:∀ j,j < s.length->(yky s L k q).2.getD j 0=zhg s j P+(r++[k]).count j:=fun j hj=>by
  have:=h.cnt j hj;rw[List.count_append];by_cases e:j=k
  .subst e;rw[hself,this];simp;omega
  rw[hoth j e,this,List.count_singleton,if_neg (by simpa using fun q=>e q.symm)];omega
 have hcase:((yky s L k q).1=q.1/\(L.getD k false=true\/q.2.getD k 0+1≠(ycg s k).length))\/(L.getD k false=false/\q.2.getD k 0+1=(ycg s k).length/\(yky s L k q).1=q.1++[k]):=by
  unfold yky;simp only;split
  .rename_i hc;simp only[qad,qbn,beq_iff_eq]at hc;exact .inr ⟨hc.1,hc.2,rfl⟩
  rename_i hc;refine .inl ⟨rfl,?_⟩;cases hL:L.getD k false with
  | true=>exact .inl rfl
  | false=>exact .inr fun e=>hc (by rw[hL,e];simp)
 rcases hcase with⟨e1,e2⟩|⟨hL,e2,e1⟩
 .refine ⟨⟨by rw[e1];exact h.pre,by rw[e1];exact h.nd,by rw[e1];exact h.lt,helen,hcnt,by rw[e1];exact h.leg,fun j hj=>?_,fun j hj h1 h2 h3=>?_,by rw[e1];exact h.top⟩,by rw[e1];exact List.prefix_refl _⟩
  .rw [e1]at hj;refine(h.mem j hj).imp id fun h9=>?_;by_cases e:j=k
   .subst e;rw[hself];omega
   rw[hoth j e];exact h9
  rw[e1];by_cases e:j=k
  .subst e;rw[hself]at h3;rcases e2 with e2|e2
   .rw [e2]at h1;cases h1
   exact h.done j hj h1 h2 om
  rw[hoth j e]at h3;exact h.done j hj h1 h2 h3
 have hno:k ∉ q.1:=fun hm=>by
  rcases h.mem k hm with h9|h9
  .rw [hL]at h9;cases h9
  omega
 have hpx:=pre_next h.pre hP;have hndx:(P++[x]).Nodup:=hpx.sublist.nodup h.nd;have hall:∀ a∈ycg s k,a.2.toNat∈q.1:=by
  have h1:=hcnt k hk;rw[hself,e2]at h1;have h2:=znj (s:=s) (k:=k) hndx;rw[zka]at h2;have h3:((ycg s k).filter fun a=>decide (a.2.toNat∈P++[x])).length=(ycg s k).length:=by
   have:=qcu (fun a:ArcD=>decide (a.2.toNat∈P++[x])) (ycg s k);omega
  intro a ha;have:=List.length_filter_eq_length_iff.1 h3 a ha;exact hpx.subset (of_decide_eq_true this)
 refine⟨⟨by rw[e1];exact h.pre.trans (List.prefix_append _ _),?_,fun j hj=>?_,helen,hcnt,fun j hj hl=>by rw[e1];exact qfd _ (h.leg j hj hl),fun j hj=>?_,fun j hj h1 h2 h3=>?_,fun j k' hj h1 a ha=>?_⟩,by rw[e1];exact List.prefix_append _ _⟩
 .rw [e1];refine qdl.2 ⟨h.nd,sm,fun y hy z hz e=>?_⟩;simp only[qau]at hz;rw[<- hz,<- e]at hno;exact hno hy
 .rw [e1]at hj;rcases qat.1 hj with hj|hj
  .exact h.lt j hj
  simp only[qau]at hj;rw[hj];exact hk
 .rw [e1]at hj;by_cases e:j=k
  .subst e;exact .inr (by rw[hself];omega)
  rw[hoth j e];rcases qat.1 hj with hj|hj
  .exact h.mem j hj
  simp only[qau]at hj;exact absurd hj e
 .rw [e1];by_cases e:j=k
  .rw [e];simp
  rw[hoth j e]at h3;exact qfd _ (h.done j hj h1 h2 h3)
 rw[e1]at hj ⊢;rcases qbh j q.1.length with hlt|hge
 .rw [qam hlt]at hj;rw[qei om];exact h.top j k' hj h1 a ha
 rw[qah hge]at hj;have hj0:j - q.1.length=0:=by
  have:=(qaa.1 hj).1;simp at this;omega
 rw[hj0]at hj;simp only[qas,Option.some.injEq]at hj;subst hj;rw[show j=q.1.length by omega,qei (qbf _),qaw];exact hall a ha
theorem zra{P:List Nat}{row:List Nat}(hrow:∀ k∈row,k < s.length)(hcount:∀ k,row.count k=yqe s k x):∀ {l r:List Nat} {q:List Nat × List Nat},OrdK s L P r q->q.1[P.length]?=some x->r++l=row->OrdK s L P row (zbb s L l q)/\q.1 <+: (zbb s L l q).1
 | [],r,q,h,hx,hr=>by
  rw[qba]at hr;subst hr;exact⟨h,List.prefix_refl _⟩
 | k::l,r,q,h,hx,hr=>by
  have hkm:k∈row:=by rw[<- hr];simp
  have hle:(r++[k]).count k<=yqe s k x:=by
   have h9:row=(r++[k])++l:=by rw[<- hr];simp
   have h8:=List.count_append (a:=k) (l₁:=r++[k]) (l₂:=l);rw[<- hcount,h9];omega
  obtain⟨h1,h2⟩:=h.step hx (hrow k hkm) hle;have hx':(yky s L k q).1[P.length]?=some x:=by
   obtain⟨t,ht⟩:=h2;rw[<- ht,qam (qaa.1 hx).1];exact hx
  obtain⟨g1,g2⟩:=zra (l:=l) hrow hcount h1 hx' (by rw[<- hr];simp);exact⟨g1,h2.trans g2⟩
theorem zyd{s:SpcD}{L:List Bool}(hs:∀ x∈s,∀ a∈x.2,a.2.toNat < s.length):∀ {m i:Nat} {q:List Nat × List Nat},OrdK s L (q.1.take i) [] q->s.length<=m+i->∃ q',OrdK s L q'.1 [] q'/\xfk s L (xas s) m i q=q'.1
 | 0,i,q,h,hm=>by
  have:=zre s.length _ h.nd h.lt;rw[qal om]at h;exact⟨q,h,rfl⟩
 | m+1,i,q,h,hm=>by
  unfold xfk;cases hx:q.1[i]? with
  | none=>
   rw[qal (by rw[qgj]at hx;exact hx)]at h;exact⟨q,h,rfl⟩
  | some x=>
   have hi:=(qaa.1 hx).1;have hPl:(q.1.take i).length=i:=by simp;omega
   have hr:=(xer (s:=s)).at x;obtain⟨h1,h2⟩:=zra (x:=x) (row:=(xas s).getD x []) hr.2 (fun k=>zrz hs k x) (l:=(xas s).getD x []) h (by rw[hPl];exact hx) sm;have hq:(zbb s L ((xas s).getD x []) q).1.take (i+1)=q.1.take i++[x]:=by
    obtain⟨t,ht⟩:=h2;rw[<- ht,qei om,yao hx]
   refine zyd hs (q:=zbb s L ((xas s).getD x []) q) ?_ om;rw[hq];refine⟨?_,h1.nd,h1.lt,h1.elen,fun k hk=>?_,h1.leg,h1.mem,h1.done,h1.top⟩
   .rw [<- hq];exact List.take_prefix _ _
   rw[h1.cnt k hk,zka,zrz hs k x];simp
theorem ord_start_top(hl:L.length=s.length):OrdK s L [] [] (zba 0 L,List.replicate s.length 0):=by
 have hr:∀ k,(List.replicate s.length 0).getD k 0=0:=fun k=>by
  rw[qac,qcs];split <;> rfl
 have hleg:∀ {L:List Bool} {k x:Nat},k<=x->L.getD (x - k) false=true->x∈zba k L:=by
  intro L;induction L with
  | nil=>intro k x _ h;simp at h
  | cons b L ih=>
   intro k x hk h;unfold zba;by_cases hx:x=k
   .subst hx;have:b=true:=by simpa using h
    rw[if_pos this];exact qbe ..
   have:=ih (k:=k+1) (x:=x) om (by rw[show x - k=(x - (k+1))+1 by omega]at h;exact h);split
   .exact qap _ this
   exact this
 have hall:∀ k∈zba 0 L,L.getD k false=true:=fun k hk=>by simpa using(ysj hk).2.1
 refine⟨List.nil_prefix,yoc,fun k hk=>by have:=(ysj hk).2.2;omega,sm,fun k hk=>by rw[hr];simp[zhg],fun k hk h=>hleg (Nat.zero_le _) (by simpa using h),fun k hk=>.inl (hall k hk),fun k hk h1 h2 h3=>?_,fun j k hj h1=>?_⟩
 .rw [hr]at h3;exact absurd (qax om) h2
 rw[hall k (qab hj)]at h1;cases h1
theorem xex:∀ {l m:List Nat},l.Nodup->(∀ x∈l,x∈m)->l.length<=m.length
 | [],m,_,_=>Nat.zero_le _
 | a::l,m,h,hm=>by
  obtain⟨h1,h2⟩:=qcq.1 h;have ha:=hm a (qbe ..);have:=xex (m:=m.erase a) h2 fun x hx=>(List.mem_erase_of_ne (fun e=>h1 (by rw[<- e];exact hx))).2 (hm x (qap _ hx));rw[qgo ha]at this;have:=List.length_pos_of_mem ha;rw[qaj];omega
structure OrdW (s:SpcD) (L:List Bool):Prop where
 nd:(ysy s L).Nodup
 all:∀ k,k < s.length->k∈ysy s L
 lt:∀ k∈ysy s L,k < s.length
 whole:(ysy s L).length=s.length
 top:∀ j k,(ysy s L)[j]?=some k->L.getD k false=false->∀ a∈ycg s k,a.2.toNat∈(ysy s L).take j
theorem zrd(hl:L.length=s.length)(hs:∀ x∈s,∀ a∈x.2,a.2.toNat < s.length)(hd:∀ k,k < s.length->Dead s L k):OrdW s L:=by
 obtain⟨q,h,e⟩:=zyd hs (m:=s.length) (i:=0) (q:=(zba 0 L,List.replicate s.length 0)) (by rw[qet];exact ord_start_top hl) om;have hin:∀ k,Dead s L k->k < s.length->k∈q.1:=by
  intro k hk;induction hk with
  | leg h1=>exact fun hk=>h.leg _ hk h1
  | @step k h1 h2 ih=>
   intro hk;by_cases hL:L.getD k false=true
   .exact h.leg k hk hL
   refine h.done k hk (by simpa using hL) h1 ?_;rw[h.cnt k hk,znj h.nd];have:((ycg s k).filter fun a=>decide (a.2.toNat∈q.1))=ycg s k:=qgh.2 fun a ha=>by
    have hlt:a.2.toNat < s.length:=by
     unfold ycg at ha;cases hx:s[k]? with
     | none=>rw[hx]at ha;simp at ha
     | some x=>rw[hx]at ha;exact hs x (qab hx) a ha
    exact decide_eq_true (ih a ha hlt)
   rw[this];omega
 have hq:ysy s L=q.1:=e;refine⟨hq ▸ h.nd,fun k hk=>hq ▸ hin k (hd k hk) hk,hq ▸ h.lt,?_,hq ▸ h.top⟩;have h1:=zre s.length _ h.nd h.lt;have h2:=xex (l:=List.range s.length) (m:=q.1) List.nodup_range fun x hx=>hin x (hd x (qbt.1 hx)) (qbt.1 hx);rw[qds]at h2;rw[hq];omega
end
section
open Go.RowKit
def zay(l:List ArcD)(o:List Bool):Nat:=(l.filter fun a=>o.getD a.2.toNat false).length
def zth(o:List Bool):Nat:=(o.filter id).length
def zml(s:SpcD)(k:Nat)(q:List Bool × Bool):List Bool × Bool:=
 if q.1.getD k false && (!(ycg s k).isEmpty && zay (ycg s k) q.1 == 0)then(q.1.set k false,true)else q
def yyx(s:SpcD):Nat->Nat->List Bool × Bool->List Bool × Bool
 | 0,_,q=>q
 | m+1,k,q=>yyx s m (k+1) (zml s k q)
def ysw(s:SpcD):Nat->List Bool->List Bool
 | 0,o=>o
 | f+1,o=>if (yyx s o.length 0 (o,false)).2 then ysw s f (yyx s o.length 0 (o,false)).1 else(yyx s o.length 0 (o,false)).1
def zgy(s:SpcD)(L:List Bool):List Bool:=ysw s (L.length+1) (L.map fun b=>!b)
theorem cntT_le(o:List Bool):zth o<=o.length:=qcu _ _
theorem zwc:∀ {o:List Bool} {k:Nat},o.getD k false=true->zth (o.set k false)+1=zth o
 | [],k,h=>by simp at h
 | b::o,0,h=>by
  have:b=true:=by simpa using h
  simp[zth,this]
 | b::o,k+1,h=>by
  have ih:=zwc (o:=o) (k:=k) (by simpa using h);unfold zth at ih ⊢;rw[List.set_cons_succ];cases b
  .simpa using ih
  simp only[id,qct,qaj];omega
structure PassOk (o0:List Bool) (q:List Bool × Bool):Prop where
 len:q.1.length=o0.length
 ch:q.2=true->zth q.1 < zth o0
 no:q.2=false->q.1=o0
theorem PassOk.step{s:SpcD}{o0:List Bool}{q:List Bool × Bool}(h:PassOk o0 q)(k:Nat):PassOk o0 (zml s k q):=by
 unfold zml;split
 .rename_i hc;simp only[qad]at hc;have:=zwc hc.1;have hle:zth q.1<=zth o0:=by
   cases hq:q.2 with
   | true=>exact Nat.le_of_lt (h.ch hq)
   | false=>rw[h.no hq];exact qbf _
  exact⟨by simp[h.len],fun _=>(by simp only;omega),fun e=>(by cases e)⟩
 exact h
theorem zmm{o0:List Bool}:∀ {m k:Nat} {q:List Bool × Bool},PassOk o0 q->PassOk o0 (yyx s m k q)
 | 0,k,q,h=>h
 | m+1,k,q,h=>by rw[yyx];exact zmm (h.step k)
theorem xiz(o:List Bool):PassOk o (o,false):=⟨rfl,fun h=>(by cases h),fun _=>rfl⟩
theorem yqi{s:SpcD}:∀ {f f':Nat} {o:List Bool},zth o < f->zth o < f'->ysw s f o=ysw s f' o
 | 0,f',o,h,_=>by omega
 | f+1,0,o,_,h=>by omega
 | f+1,f'+1,o,h,h'=>by
  have hp:=zmm (s:=s) (m:=o.length) (k:=0) (xiz o);unfold ysw;cases hq:(yyx s o.length 0 (o,false)).2 with
  | false=>rfl
  | true=>
   have:=hp.ch hq;simp only[if_true];exact yqi om om
end
section
open Go.RowKit
def zva(s:SpcD)(L:List Bool)(o:List Bool):Prop:=o.length=s.length/\∀ k,k < s.length->o.getD k false=false->Dead s L k
theorem arcs_in(hs:∀ x∈s,∀ a∈x.2,a.2.toNat < s.length):∀ a∈ycg s k,a.2.toNat < s.length:=fun a ha=>by
 unfold ycg at ha;cases hx:s[k]? with
 | none=>rw[hx]at ha;simp at ha
 | some x=>rw[hx]at ha;exact hs x (qab hx) a ha
theorem zva.step{s:SpcD}{L:List Bool}(hs:∀ x∈s,∀ a∈x.2,a.2.toNat < s.length){q:List Bool × Bool}(h:zva s L q.1)(k:Nat):zva s L (zml s k q).1:=by
 unfold zml;split
 .rename_i hc;simp only[qad,qbn,beq_iff_eq]at hc;refine⟨by simp[h.1],fun j hj hf=>?_⟩;rw[yjp]at hf;by_cases e:k=j
  .subst e;refine .step (fun e=>by rw[e]at hc;simp at hc) fun a ha=>h.2 _ (arcs_in hs a ha) ?_;have:=List.filter_eq_nil_iff.1 (qax hc.2.2) a ha;simpa using this
  rw[if_neg (fun x=>e x.1)]at hf;exact h.2 j hj hf
 exact h
theorem zva.pass(hs:∀ x∈s,∀ a∈x.2,a.2.toNat < s.length):∀ {m k:Nat} {q:List Bool × Bool},zva s L q.1->zva s L (yyx s m k q).1
 | 0,k,q,h=>h
 | m+1,k,q,h=>by rw[yyx];exact zva.pass hs (h.step hs k)
theorem zva.core(hs:∀ x∈s,∀ a∈x.2,a.2.toNat < s.length):∀ {f:Nat} {o:List Bool},zva s L o->zva s L (ysw s f o)
 | 0,o,h=>h
 | f+1,o,h=>by
  have:=zva.pass hs (m:=o.length) (k:=0) (q:=(o,false)) h;unfold ysw;split
  .exact zva.core hs this
  exact this
theorem core_dead(hl:L.length=s.length)(hs:∀ x∈s,∀ a∈x.2,a.2.toNat < s.length)(h:(zgy s L).any id=false):∀ k,k < s.length->Dead s L k:=by
 have h0:zva s L (L.map fun b=>!b):=⟨by simp[hl],fun k hk hf=>.leg (by
  obtain⟨b,hb⟩:∃ b,L[k]?=some b:=⟨_,qae om⟩
  simp[hb]at hf ⊢
  exact hf)⟩
 have hc:=zva.core hs (f:=L.length+1) h0;intro k hk;refine hc.2 k hk ?_;cases hb:(ysw s (L.length+1) (L.map fun b=>!b)).getD k false with
 | false=>rfl
 | true=>
  have:true∈ysw s (L.length+1) (L.map fun b=>!b):=by
   rw[qac]at hb;cases hx:(ysw s (L.length+1) (L.map fun b=>!b))[k]? with
   | none=>rw[hx]at hb;cases hb
   | some b=>rw[hx]at hb;cases hb;exact qab hx
  have:=qfo.1 h true this;simp at this
theorem zxb{cost:ArcD->Nat}{k:Nat}:∀ {l:List ArcD} {R:List Nat},k < R.length->(∀ a∈l,a.2.toNat≠k)->(zto cost k l R).length=R.length/\(∀ j,j≠k->(zto cost k l R).getD j 0=R.getD j 0)/\R.getD k 0<=(zto cost k l R).getD k 0/\(∀ a∈l,cost a+R.getD a.2.toNat 0<=(zto cost k l R).getD k 0)/\((zto cost k l R).getD k 0=R.getD k 0\/∃ a∈l,cost a+R.getD a.2.toNat 0=(zto cost k l R).getD k 0)
 | [],R,_,_=>⟨rfl,fun _ _=>rfl,qbf _,fun a ha=>(by cases ha),.inl rfl⟩
 | a::l,R,hk,hl=>by
  have ha:=hl a (qbe ..);obtain⟨R',hR'⟩:∃ R',R.set k (max (R.getD k 0) (cost a+R.getD a.2.toNat 0))=R':=⟨_,rfl⟩;have hk':R'.getD k 0=max (R.getD k 0) (cost a+R.getD a.2.toNat 0):=by rw[<- hR',yjp,if_pos ⟨rfl,hk⟩]
  have ho:∀ j,j≠k->R'.getD j 0=R.getD j 0:=fun j hj=>by rw[<- hR',yjp,if_neg (fun e=>hj e.1.symm)]
  have hlen:R'.length=R.length:=by rw[<- hR'];simp
  obtain⟨g1,g2,g3,g4,g5⟩:=zxb (cost:=cost) (l:=l) (R:=R') om fun b hb=>hl b (qap _ hb);rw[zto,hR'];refine⟨om,fun j hj=>(g2 j hj).trans (ho j hj),om,fun b hb=>?_,?_⟩
  .rcases qaq.1 hb with rfl|hb
   .omega
   have:=g4 b hb;rw[ho _ (hl b (qap _ hb))]at this;exact this
  rcases g5 with e|⟨b,hb,e⟩
  .rcases Nat.le_total (cost a+R.getD a.2.toNat 0) (R.getD k 0)with h9|h9
   .exact .inl om
   exact .inr ⟨a,qbe ..,om⟩
  rw[ho _ (hl b (qap _ hb))]at e;exact .inr ⟨b,qap _ hb,e⟩
structure GrK (s:SpcD) (L:List Bool) (cost:ArcD->Nat) (P:List Nat) (R:List Nat):Prop where
 len:R.length=s.length
 zero:∀ k,k ∉ P->R.getD k 0=0
 leg:∀ k∈P,L.getD k false=true->R.getD k 0=0
 max:∀ k∈P,L.getD k false=false->∃ a∈ycg s k,cost a+R.getD a.2.toNat 0=R.getD k 0
theorem xct{s:SpcD}{L:List Bool}{cost:ArcD->Nat}(o:List Nat)(hnd:o.Nodup)(hlt:∀ k∈o,k < s.length)(hne:∀ k,L.getD k false=false->k∈o->ycg s k≠[])(htop:∀ j k,o[j]?=some k->L.getD k false=false->∀ a∈ycg s k,a.2.toNat∈o.take j):∀ {r P:List Nat} {R:List Nat},P++r=o->GrK s L cost P R->GrK s L cost o (grS cost s L r R)
 | [],P,R,h,hg=>by rw[qba]at h;subst h;exact hg
 | k::r,P,R,h,hg=>by
  have hj:o[P.length]?=some k:=by rw[<- h,qah (qbf _),qbm];rfl
  have htk:o.take P.length=P:=by rw[<- h];simp
  have hko:k∈o:=qab hj;have hkP:k ∉ P:=fun hm=>by
   rw[<- h]at hnd;exact(qdl.1 hnd).2.2 k hm k (qbe ..) rfl
  have hnext:(P++[k])++r=o:=by rw[<- h];simp
  rw[grS];refine xct o hnd hlt hne htop hnext ?_;by_cases hL:L.getD k false=true
  .rw [if_pos hL];refine⟨hg.len,fun j hj=>hg.zero j fun hm=>hj (qfd _ hm),fun j hj h1=>?_,fun j hj h1=>?_⟩
   .rcases qat.1 hj with hj|hj
    .exact hg.leg j hj h1
    simp only[qau]at hj;subst hj;exact hg.zero _ hkP
   rcases qat.1 hj with hj|hj
   .exact hg.max j hj h1
   simp only[qau]at hj;subst hj;rw[hL]at h1;cases h1
  rw[if_neg hL];have hLf:L.getD k false=false:=by simpa using hL
  have hto:∀ a∈ycg s k,a.2.toNat∈P:=fun a ha=>by
   have:=htop P.length k hj hLf a ha
   rwa [htk]at this
  obtain⟨g1,g2,g3,g4,g5⟩:=zxb (cost:=cost) (k:=k) (l:=ycg s k) (R:=R) (by rw[hg.len];exact hlt k hko) fun a ha e=>hkP (e ▸ hto a ha);have hz:=hg.zero k hkP;refine⟨g1.trans hg.len,fun j hj=>?_,fun j hj h1=>?_,fun j hj h1=>?_⟩
  .have hjk:j≠k:=fun e=>hj (by rw[e];simp);rw[g2 j hjk];exact hg.zero j fun hm=>hj (qfd _ hm)
  .rcases qat.1 hj with hj|hj
   .have hjk:j≠k:=fun e=>hkP (e ▸ hj);rw[g2 j hjk];exact hg.leg j hj h1
   simp only[qau]at hj;subst hj;rw[hLf]at h1;cases h1
  rcases qat.1 hj with hj|hj
  .have hjk:j≠k:=fun e=>hkP (e ▸ hj);obtain⟨a,ha,e⟩:=hg.max j hj h1;refine⟨a,ha,?_⟩;obtain⟨i,hi⟩:=qao hj;have hil:=(qaa.1 hi).1;have hio:o[i]?=some j:=by rw[<- h,qam hil];exact hi
   have hak:a.2.toNat≠k:=fun e2=>by
    have:=htop i j hio h1 a ha;have h9:a.2.toNat∈P:=by
     rw[<- htk];exact(List.take_subset_take_left o om) this
    exact hkP (e2 ▸ h9)
   rw[g2 j hjk,g2 _ hak];exact e
  simp only[qau]at hj;subst hj;have hne':∀ a∈ycg s j,a.2.toNat≠j:=fun a ha e=>hkP (by have:=hto a ha;rw[e]at this;exact this);rcases g5 with e|⟨a,ha,e⟩
  .obtain ⟨a,l,hal⟩:=List.exists_cons_of_ne_nil (hne j h1 hko);have ha:a∈ycg s j:=by rw[hal];simp
   have:=g4 a ha;refine⟨a,ha,?_⟩;rw[g2 _ (hne' a ha)];omega
  exact⟨a,ha,by rw[g2 _ (hne' a ha)];exact e⟩
end
set_option maxHeartbeats 4000000
section
open Go.RowKit
variable{P:Program}{N:Nat}{ops:Array Oper}{lf:Oper->Bool}{Q:SS->Prop}
structure Ld where
 j:Nat
 d:Nat
 hs:List Nat
 z:AV
 h:List (Nat × Option LObj)
 ok:AV->Bool
def zhc(l:Ld)(base:List (Nat × AV)):List (Nat × AV):=(l.d,l.z)::ztp l.hs base
def stF(A:List (Nat × Nat × AV)):List Ld->List (Nat × AV)->List (Nat × Option LObj)->(Nat->Bool)->SS
 | [],base,h,L=>⟨ypy base A L,yac h⟩
 | l::J,base,h,L=>bif L l.j then stF A J (zhc l base) l.h L else⟨ypy base A L,yac h⟩
def xkd:List Ld->List (Nat × AV)->List (Nat × AV)
 | [],base=>base
 | l::J,base=>xkd J (zhc l base)
def xkf:List Ld->List (Nat × Option LObj)->List (Nat × Option LObj)
 | [],h=>h
 | l::J,h=>xkf J l.h
def zoa(P:Program)(N:Nat)(ops:Array Oper)(lf:Oper->Bool)(A:List (Nat × Nat × AV))(req:List (Nat × AV)):List Ld->List (Nat × AV)->List (Nat × Option LObj)->Prop
 | [],_,_=>True
 | l::J,base,h=>(∃ (oj:Oper) (tl:List (Nat × AV)),ops[l.j]?=some oj/\oj.guard=none/\lf oj=true/\tl=((A.filter fun b=>yhk ops ops.size l.j b.1).map fun b=>b.2)/\∀ t:Nat->Option AV,(∀ x y,yak base x=some y->t x=some y)->(∀ x y,yak tl x=some y->t x=some y)->(∀ x y,t x=some y->ykc x l.hs=false->l.ok y=true)->ybp P N oj ⟨t,yac h⟩ (·=⟨yee (ygh l.hs t) (some l.d) l.z,yac l.h⟩))/\zqj l.ok l.hs base=true/\(A.all fun a=>!Nat.beq a.2.1 l.d && !ykc a.2.1 l.hs && l.ok a.2.2)=true/\(req.all fun r=>!Nat.beq r.1 l.d && !ykc r.1 l.hs)=true/\(J.all fun l'=>yhk ops ops.size l'.j l.j)=true/\zoa P N ops lf A req J (zhc l base) l.h
def xln(p:List (Nat × Option LObj)->Prop):List Ld->Prop
 | []=>True
 | l::J=>p l.h/\xln p J
def Yd(P:Program)(tl:List (Nat × AV))(op:Op)(ty:TypeId)(v:AV)(h:List (Nat × Option LObj)):Prop:=∀ t:Nat->Option AV,(∀ x y,yak tl x=some y->t x=some y)->ybu P (yac h) (evF t) op ty v
theorem yaw{T:Nat->Option Ty}(hT:TOK P T){tl:List (Nat × AV)}{h:List (Nat × Option LObj)}{op:Op}{r:AV}(hr:znb T tl h op ty=some r)(hk:xda tl op=true):Yd P tl op ty r h:=fun t ht=>yuw hT ht hr hk
theorem xfg{T:Nat->Option Ty}(hT:TOK P T){tl:List (Nat × AV)}{h:List (Nat × Option LObj)}{op:Op}{z:Int}(hr:znb T tl h op ty=some (.v (.int .i64 (IntKind.i64.wrap z))))(hk:xda tl op=true)(h0:-9223372036854775808<=z/\z<=9223372036854775807):Yd P tl op ty (i64 z) h:=by
 have:=yaw hT hr hk;rw[IntWalk.i64_in z h0]at this;exact this
theorem ytq{T:Nat->Option Ty}(hT:TOK P T){tl:List (Nat × AV)}{h:List (Nat × Option LObj)}{ti e es eb sz s:Nat}{ea ag:Bool}{v:AV}{ys:List AV}(hk:T ti=some ⟨.slc e es ea eb ez,sz,ag,z⟩)(hone:ez.all Value.oneCell'=true)(hs:Nat.ble 1000000 s=false)(hv:yak tl s=some v)(hf:yyk (fun i=>some (i * es,es)) (ykx 1 (yhw ez)) [(0,v)]=some ys)(hpu:yas.pureL ys=true)(hch:ypk es 1 ys=some rows)(hlim:Nat.ble (1 * es) 16777216=true):Yd P tl (.buildSlice ti 1 #[(0,.tmp s)]) ty (.sl es rows) h:=fun t ht=>by
 refine ykl hT (parts:=[(0,.tmp s)]) hk hone ?_ hf hpu hch hlim;have:evF t (.tmp s)=some v:=by simp only[evF];rw[hs];exact ht s v hv
 simp only[evP,this]
def xbi(P:Program)(ops:Array Oper)(req:List (Nat × AV))(A0:List (Nat × Nat × AV))(J:List Ld)(h0:List (Nat × Option LObj)):List (Nat × Nat × AV)->Prop
 | []=>True
 | a::A=>(∃ (o:Oper) (tl:List (Nat × AV)),ops[a.1]?=some o/\o.dst=some a.2.1/\o.guard=none/\tl=((A0.filter fun b=>yhk ops ops.size a.1 b.1).map fun b=>b.2)++req/\Yd P tl o.op o.type a.2.2 h0/\xln (Yd P tl o.op o.type a.2.2) J)/\xbi P ops req A0 J h0 A
theorem xbi.get{req:List (Nat × AV)}{A0:List (Nat × Nat × AV)}{J:List Ld}{h0:List (Nat × Option LObj)}:∀ {A:List (Nat × Nat × AV)},xbi P ops req A0 J h0 A->∀ a∈A,∃ (o:Oper) (tl:List (Nat × AV)),ops[a.1]?=some o/\o.dst=some a.2.1/\o.guard=none/\tl=((A0.filter fun b=>yhk ops ops.size a.1 b.1).map fun b=>b.2)++req/\Yd P tl o.op o.type a.2.2 h0/\xln (Yd P tl o.op o.type a.2.2) J
 | [],_,a,h=>by cases h
 | b::A,hA,a,h=>by
  rcases qaq.1 h with rfl|h
  .exact hA.1
  exact xbi.get hA.2 a h
def yxx(base:List (Nat × AV)):List (Nat × AV)->Prop
 | []=>True
 | (x,y)::r=>yak base x=some y/\yxx base r
theorem yxx.get{base:List (Nat × AV)}:∀ {r:List (Nat × AV)},yxx base r->∀ x y,(x,y)∈r->yak base x=some y
 | [],_,x,y,h=>by cases h
 | (u,v)::r,hr,x,y,h=>by
  rcases qaq.1 h with e|h
  .cases e;exact hr.1
  exact yxx.get hr.2 x y h
theorem yxx.of{base:List (Nat × AV)}:∀ {r:List (Nat × AV)},(∀ x y,(x,y)∈r->yak base x=some y)->yxx base r
 | [],_=>trivial
 | (u,v)::r,h=>⟨h u v sm,yxx.of fun x y hx=>h x y (by simp[hx])⟩
section
variable{A:List (Nat × Nat × AV)}{req base:List (Nat × AV)}{l:Ld}
theorem zel{x:Nat}:yak (zhc l base) x=if x=l.d then some l.z else ygh l.hs (yak base) x:=by
 unfold zhc;simp only[yak];by_cases hx:x=l.d
 .subst hx;simp
 rw[show Nat.beq x l.d=false from ycp hx,if_neg hx,zek]
theorem zqt(hb:∀ a∈A,yak base a.2.1=none)(hA:(A.all fun a=>!Nat.beq a.2.1 l.d && !ykc a.2.1 l.hs && l.ok a.2.2)=true):∀ a∈A,yak (zhc l base) a.2.1=none:=fun a ha=>by
 have h:=List.all_eq_true.1 hA a ha;simp only[qad,qbn]at h;have hd:a.2.1≠l.d:=fun e=>by rw[e,qey]at h;cases h.1.1
 rw[zel,if_neg hd,ygh,h.1.2];exact hb a ha
theorem next_req(hr:yxx base req)(hq:(req.all fun r=>!Nat.beq r.1 l.d && !ykc r.1 l.hs)=true):yxx (zhc l base) req:=yxx.of fun x y hx=>by
 have h:=List.all_eq_true.1 hq (x,y) hx;simp only[qad,qbn]at h;have hd:x≠l.d:=fun e=>by rw[e,qey]at h;cases h.1
 rw[zel,if_neg hd];exact zdy (hr.get x y hx) h.2
theorem tbl_next{L:Nat->Bool}(hA:(A.all fun a=>!Nat.beq a.2.1 l.d && !ykc a.2.1 l.hs && l.ok a.2.2)=true):ypy (zhc l base) A L=yee (ygh l.hs (ypy base A L)) (some l.d) l.z:=by
 funext x;unfold ypy;simp only[yee];cases hf:A.find? (fun v=>Nat.beq v.2.1 x && L v.1)with
 | some v=>
  have h1:=qeg hf;have h2:=List.find?_some hf;simp only[qad]at h2;have h:=List.all_eq_true.1 hA v h1;simp only[qad,qbn]at h;have e:=xnk h2.1;have hd:x≠l.d:=fun e2=>by rw[e,e2,qey]at h;cases h.1.1
  rw[if_neg hd];rw[e]at h;simp only[ygh,h.1.2];simp only[hf]
 | none=>
  simp only;rw[zel];by_cases hx:x=l.d
  .rw [if_pos hx,if_pos hx]
  rw[if_neg hx,if_neg hx];simp only[ygh,hf]
end
def xmd(L:Nat->Bool):List Ld->Prop
 | []=>True
 | l::J=>(∀ l'∈J,L l'.j=true->L l.j=true)/\xmd L J
section
variable{A:List (Nat × Nat × AV)}{req:List (Nat × AV)}
theorem xes(hd:(A.map (·.2.1)).Nodup)(hi:(A.map (·.1)).Nodup){L:Nat->Bool}{a:Nat × Nat × AV}(ha:a∈A):∀ {J:List Ld} {base:List (Nat × AV)} {h:List (Nat × Option LObj)},(∀ l∈J,l.j≠a.1)->stF A J base h (fun k=>if k=a.1 then true else L k)=⟨yee (stF A J base h L).t (some a.2.1) a.2.2,(stF A J base h L).h⟩
 | [],base,h,_=>by simp only[stF];rw[znh hd hi ha]
 | l::J,base,h,hJ=>by
  unfold stF;simp only[if_neg (hJ l sm)];cases L l.j with
  | true=>exact xes hd hi ha fun l' hl'=>hJ l' (by simp[hl'])
  | false=>simp only[cond_false];rw[znh hd hi ha]
theorem stF_calm{L:Nat->Bool}{o:Oper}{tl:List (Nat × AV)}{v:AV}(hdN:(A.map (·.2.1)).Nodup)(hmem:∀ x y,yak tl x=some y->(∃ b∈A,L b.1=true/\b.2=(x,y))\/(x,y)∈req):∀ {J:List Ld} {base:List (Nat × AV)} {h:List (Nat × Option LObj)},zoa P N ops lf A req J base h->(∀ a∈A,yak base a.2.1=none)->yxx base req->Yd P tl o.op o.type v h->xln (Yd P tl o.op o.type v) J->ybu P (stF A J base h L).h (evF (stF A J base h L).t) o.op o.type v:=by
 have leaf:∀ {base:List (Nat × AV)} {h:List (Nat × Option LObj)},(∀ a∈A,yak base a.2.1=none)->yxx base req->Yd P tl o.op o.type v h->ybu P (yac h) (evF (ypy base A L)) o.op o.type v:=by
  intro base h hb hr hst;refine hst _ fun x y hx=>?_;rcases hmem x y hx with⟨b,hbA,hbL,e⟩|hx
  .have:=zsh (base:=base) hdN hbA hbL;rw[e]at this;exact this
  exact yxe hb (hr.get x y hx)
 intro J;induction J with
 | nil=>intro base h _ hb hr hst _;exact leaf hb hr hst
 | cons l J ih=>
  intro base h hJ hb hr hst hall;obtain⟨_,_,h3,h4,_,h6⟩:=hJ;unfold stF;cases L l.j with
  | true=>exact ih h6 (zqt hb h3) (next_req hr h4) hall.1 hall.2
  | false=>exact leaf hb hr hst
theorem zyy{L:Nat->Bool}{i:Nat}(hdN:(A.map (·.2.1)).Nodup)(hwA:∀ b∈A,yhk ops ops.size i b.1=true->L b.1=true)(hi:L i=false)(hiA:∀ a∈A,a.1≠i):∀ {J:List Ld} {base:List (Nat × AV)} {h:List (Nat × Option LObj)},zoa P N ops lf A req J base h->(J.map (·.j)).Nodup->xmd L J->(∀ a∈A,yak base a.2.1=none)->(∃ l∈J,l.j=i)->(∀ l∈J,yhk ops ops.size i l.j=true->L l.j=true)->∃ oj,ops[i]?=some oj/\oj.guard=none/\lf oj=true/\ybp P N oj (stF A J base h L) (·=stF A J base h (fun k=>if k=i then true else L k))
 | [],base,h,_,_,_,_,hm,_=>by obtain⟨l,hl,_⟩:=hm;cases hl
 | l::J,base,h,hJ,hnd,hord,hb,hm,hw=>by
  obtain⟨⟨oj,tl,g1,g2,g3,gt,g4⟩,h2,h3,h4,h5,h6⟩:=hJ;rw[qce,qcq]at hnd;have htb:∀ base:List (Nat × AV),ypy base A (fun k=>if k=i then true else L k)=ypy base A L:=fun base=>by
   funext x;unfold ypy;have:∀ l:List (Nat × Nat × AV),(∀ b∈l,b∈A)->l.find? (fun v=>Nat.beq v.2.1 x && (if v.1=i then true else L v.1))=l.find? (fun v=>Nat.beq v.2.1 x && L v.1):=by
    intro l hl;induction l with
    | nil=>rfl
    | cons b l ih=>rw[qfc,qfc,ih fun c hc=>hl c (by simp[hc]),if_neg (hiA b (hl b sm))]
   rw[this A fun b hb=>hb]
  by_cases hli:l.j=i
  .refine ⟨oj,hli ▸ g1,g2,g3,?_⟩;have e1:stF A (l::J) base h L=⟨ypy base A L,yac h⟩:=by unfold stF;rw[hli,hi];rfl
   have e2:stF A (l::J) base h (fun k=>if k=i then true else L k)=⟨yee (ygh l.hs (ypy base A L)) (some l.d) l.z,yac l.h⟩:=by
    unfold stF;simp only[if_pos hli,cond_true];have:stF A J (zhc l base) l.h (fun k=>if k=i then true else L k)=⟨ypy (zhc l base) A L,yac l.h⟩:=by
     cases J with
     | nil=>unfold stF;rw[htb]
     | cons l2 J=>
      have hne:l2.j≠i:=fun e=>hnd.1 (by rw[hli,<- e];simp);have hL2:L l2.j=false:=by
       cases hb2:L l2.j with
       | false=>rfl
       | true=>
        have:=hord.1 l2 sm hb2;rw[hli,hi]at this;cases this
      unfold stF;simp only[if_neg hne,hL2,cond_false];rw[htb]
    rw[this,tbl_next h3]
   rw[e1,e2];refine g4 _ (fun x y hx=>yxe hb hx) (fun x y hx=>?_) fun x y hx hmx=>?_
   .have hx:=zby hx;rw[gt]at hx;obtain⟨b,hb1,e⟩:=qag.1 hx;obtain⟨hb2,hb3⟩:=qdc.1 hb1;have:=zsh (base:=base) hdN hb2 (hwA b hb2 (by rw[<- hli];exact hb3));rw[e]at this;exact this
   unfold ypy at hx;split at hx
   .rename_i v hv;cases hx;have h:=List.all_eq_true.1 h3 v (qeg hv);simp only[qad]at h;exact h.2
   exact yun h2 x y hx hmx
  obtain⟨l2,hl2,e2⟩:=hm;have hl2J:l2∈J:=by
   rcases qaq.1 hl2 with rfl|h
   .exact absurd e2 hli
   exact h
  have hwl:yhk ops ops.size i l.j=true:=by rw[<- e2];exact List.all_eq_true.1 h5 l2 hl2J
  have hLl:=hw l sm hwl;obtain⟨o2,k1,k2,k3,k4⟩:=zyy hdN hwA hi hiA h6 hnd.2 hord.2 (zqt hb h3) ⟨l2,hl2J,e2⟩ fun l' hl'=>hw l' (by simp[hl']);refine⟨o2,k1,k2,k3,?_⟩;unfold stF;simp only[if_neg hli,hLl,cond_true];exact k4
theorem xet{L:Nat->Bool}(hA:∀ a∈A,L a.1=true):∀ {J:List Ld} {base:List (Nat × AV)} {h:List (Nat × Option LObj)},(∀ l∈J,L l.j=true)->stF A J base h L=S (A.map (fun a=>a.2)++xkd J base) (xkf J h)
 | [],base,h,_=>by simp only[stF,xkd,xkf];rw[xfd hA];rfl
 | l::J,base,h,hJ=>by
  unfold stF xkd xkf;rw[hJ l sm,cond_true];exact xet hA fun l' hl'=>hJ l' (by simp[hl'])
end
theorem Sim.anyAt{B:Bse}{ok0:Nat->Prop}{s:SS}{lv:Live}{a:Act}{w:World}(h:Sim B ok0 N s lv a w){d:Nat}(hd:d < N):Sim B ok0 N ⟨yee s.t (some d) .any,s.h⟩ lv a w:=
 ⟨h.inv,h.size,fun x y hy=>by
  simp only[yee]at hy
  split at hy
  .rename_i e
   cases hy
   exact⟨.inl (e ▸ hd),.any _⟩
  exact h.frame x y hy,h.defers,h.big,h.pin⟩
theorem ybp.noSlot{o:Oper}{s s1:SS}{d:Nat}(h:ybp P N o s (·=s1))(hd:d < N):ybp P N o s (·=⟨yee s1.t (some d) .any,s1.h⟩):=
 fun B ok0 lv a w hs Q=>Oper.wp_mono (fun a w ⟨s',lv',e,hs'⟩=>by
  subst e
  exact⟨_,lv',rfl,hs'.anyAt hd⟩) (h B ok0 lv a w hs Q)
theorem alloc_late{T:Nat->Option Ty}(hT:TOK P T){o:Oper}{elem:TypeId}{y:Ty}{d:Nat}(id:Nat){t:Nat->Option AV}{h:List (Nat × Option LObj)}(hl:∀ x y,t x=some y->ykc x []=false->(!ment id y)=true)(ho:o.op=.alloc elem)(hd:o.dst=some d)(hdN:Nat.blt d N=true)(hidN:Nat.blt id N=true)(hy:T elem=some y)(hone:y.zero.all Value.oneCell'=true)(h2:ybs id h=true):ybp P N o ⟨t,yac h⟩ (·=⟨yee (ygh [] t) (some d) (.lp id 0),yac ((id,some (.cells (yhw y.zero)))::h)⟩):=by
 have hf0:=ygc (t:=[]) (id:=id) rfl h2;rw[zbv,<- yjg];have:=yxy (N:=N) hT (s:=⟨t,yac h⟩) ho hd (by simpa using hdN) id hy hone ⟨hf0.1,fun x y hx=>by simpa using hl x y hx rfl,hf0.2.2⟩ (by simpa using hidN);rw[show yhw y.zero=y.zero.map .v from by first|rfl|(induction y.zero with|nil=>rfl|cons a l ih=>simp[yhw,ih])];exact this
theorem store_late{T:Nat->Option Ty}(hT:TOK P T){o:Oper}{ti:TypeId}{y:Ty}{d id:Nat}{a v:Operand}{u:AV}{xs cs:List AV}{t:Nat->Option AV}{h:List (Nat × Option LObj)}(ho:o.op=.store ti a v)(hd:o.dst=none)(hdN:Nat.blt d N=true)(hy:T ti=some y)(ha:evF t a=some (.lp id 0))(hv:evF t v=some u)(hcs:yec u=some cs)(hcl:cs.length=y.size)(hid:yac h id=some (.cells xs))(hxl:cs.length=xs.length):ybp P N o ⟨t,yac h⟩ (·=⟨yee (ygh [] t) (some d) .any,yac ((id,some (.cells cs))::h)⟩):=by
 rw[zbv,<- yjg];have:=(yig (N:=N) (s:=⟨t,yac h⟩) ho hd (hT _ _ hy).1 ha hv hcs hcl hid (.cells om)).noSlot (d:=d) (by simpa using hdN);simpa[hxl]using this
theorem zoo{T:Nat->Option Ty}(hT:TOK P T){o:Oper}(id:Nat){t:Nat->Option AV}{h:List (Nat × Option LObj)}{d ti e es eb sz:Nat}{ea ag:Bool}{x:Operand}(hl:∀ x y,t x=some y->ykc x []=false->(!ment id y)=true)(ho:o.op=.call { callee:=.builtin .append,args:=#[x,y],argTypes:=#[ti,ti] })(hd:o.dst=some d)(hdN:Nat.blt d N=true)(hk:T ti=some ⟨.slc e es ea eb ez,sz,ag,z⟩)(hx:evF t x=some (.v (.slice none 0 0)))(hy:evF t y=some (.sl es rows))(hcp:∀ c∈rows.flatten,yas c=true)(hlim:rows.length<=4294967296/\rows.length * eb<=140737488355328)(h2:ybs id h=true):ybp P N o ⟨t,yac h⟩ (·=⟨yee (ygh [] t) (some d) (.ls id es rows.length),yac ((id,some (.vec rows.flatten))::h)⟩):=by
 have hf0:=ygc (t:=[]) (id:=id) rfl h2;have hf:ymi (⟨t,yac h⟩:SS) id:=⟨hf0.1,fun x y hx=>by simpa using hl x y hx rfl,hf0.2.2⟩;rw[zbv,<- yjg];exact yjn hT id ho hd (by simpa using hdN) hk hx hf hy (fun ok w lv u hr=>yxb hr) hcp hlim
theorem zvp{T:Nat->Option Ty}(hT:TOK P T){o:Oper}{hs:List Nat}{t:Nat->Option AV}{h h':List (Nat × Option LObj)}{d ti e es eb sz id len:Nat}{xs:List AV}{ea ag:Bool}{x:Operand}(hl:∀ x y,t x=some y->ykc x hs=false->(!ment id y)=true)(ho:o.op=.call { callee:=.builtin .append,args:=#[x,y],argTypes:=#[ti,ti] })(hd:o.dst=some d)(hdN:Nat.blt d N=true)(hk:T ti=some ⟨.slc e es ea eb ez,sz,ag,z⟩)(hx:evF t x=some (.ls id es len))(hid:yac h id=some (.vec xs))(hxl:xs.length=len * es)(hy:evF t y=some (.sl es rows))(hcp:∀ c∈rows.flatten,yas c=true)(hlim:len+rows.length<=4294967296/\(len+rows.length) * eb<=140737488355328)(hh:yql id h=some h'):ybp P N o ⟨t,yac h⟩ (·=⟨yee (ygh hs t) (some d) (.ls id es (len+rows.length)),yac ((id,some (.vec (xs++rows.flatten)))::h')⟩):=by
 refine yll (s':=⟨ygh hs t,yac ((id,some (.vec (xs++rows.flatten)))::h')⟩) hT ho hd (by simpa using hdN) hk hx hid hxl hy (fun ok w lv u hr=>yxb hr) hcp hlim (fun x y hx=>?_) (fun x y hx=>yvp hx) (fun j ob' hj hob=>?_) ?_
 .exact (zbu hl hx).imp (fun e=>e) fun e=>⟨e.1,by simpa using e.2⟩
 .simp only[yac,ycp hj]at hob;exact yfs hh j ob' hob
 simp[yac]
theorem zoa.op{A:List (Nat × Nat × AV)}{req:List (Nat × AV)}:∀ {J:List Ld} {base:List (Nat × AV)} {h:List (Nat × Option LObj)},zoa P N ops lf A req J base h->∀ l∈J,∃ o,ops[l.j]?=some o
 | [],_,_,_,l,hl=>by cases hl
 | l0::J,_,_,hJ,l,hl=>by
  rcases qaq.1 hl with rfl|hl
  .obtain ⟨⟨o,_,ho,_⟩,_⟩:=hJ;exact⟨o,ho⟩
  exact zoa.op hJ.2.2.2.2.2 l hl
theorem zon(J:List Ld)(A:List (Nat × Nat × AV)){base req:List (Nat × AV)}{h0:List (Nat × Option LObj)}(fuel:Nat){n:Nat}{listed:Array Bool}
  (hn:n=fuel+(J.length+A.length)) (hsz:listed.size=ops.size) (hbk:zhp 0 ops.toList=true) (hW:yed (J.map (·.j)++A.map (·.1))=true) (hdn:yed (A.map (·.2.1))=true) (hfree:((J.map (·.j)++A.map (·.1)).all fun k=>!listed.getD k false)=true) (hpost:xhh ops listed (J.map (·.j)++A.map (·.1))=true)
  (hreq:yxx base req) (hnone:(A.all fun a=>(yak base a.2.1).isNone)=true) (hJ:zoa P N ops lf A req J base h0) (hA:xbi P ops req A J h0 A)
  (k:xax P N ops lf Q fuel (yha (J.map (·.j)++A.map (·.1)) listed) (S (A.map (fun a=>a.2)++xkd J base) (xkf J h0))):xax P N ops lf Q n listed (S base h0):=by
 intro hDst hcl;have hback:∀ (k:Nat) (o:Oper),ops[k]?=some o->∀ e∈o.after,Region.binds .any e=true->e.on < k:=fun k o ho e he hb=>by
  have:=yua hbk k o (by simpa using ho) e he hb;omega
 have hWn:(J.map (·.j)++A.map (·.1)).Nodup:=yhu hW;have hdN:(A.map (·.2.1)).Nodup:=yhu hdn;have hiN:(A.map (·.1)).Nodup:=(qdl.1 hWn).2.1;have hjN:(J.map (·.j)).Nodup:=(qdl.1 hWn).1;have hjA:∀ l∈J,∀ a∈A,l.j≠a.1:=fun l hl a ha=>(qdl.1 hWn).2.2 _ (qag.2 ⟨l,hl,rfl⟩) _ (qag.2 ⟨a,ha,rfl⟩);have hbn:∀ a∈A,yak base a.2.1=none:=fun a ha=>by simpa using List.all_eq_true.1 hnone a ha
 generalize hWe:J.map (·.j)++A.map (·.1)=W at *;have hWJ:∀ l∈J,l.j∈W:=fun l hl=>by rw[<- hWe];exact qfd _ (qag.2 ⟨l,hl,rfl⟩)
 have hWA:∀ a∈A,a.1∈W:=fun a ha=>by rw[<- hWe];exact qfy _ (qag.2 ⟨a,ha,rfl⟩)
 have hWc:∀ i∈W,(∃ l∈J,l.j=i)\/∃ a∈A,a.1=i:=fun i hi=>by
  rw[<- hWe]at hi;rcases qat.1 hi with h|h
  .exact .inl (by obtain⟨l,hl,e⟩:=qag.1 h;exact⟨l,hl,e⟩)
  exact .inr (by obtain⟨a,ha,e⟩:=qag.1 h;exact⟨a,ha,e⟩)
 have hlen:W.length=J.length+A.length:=by rw[<- hWe];simp
 have hWo:∀ i∈W,∃ o,ops[i]?=some o:=fun i hi=>by
  rcases hWc i hi with⟨l,hl,rfl⟩|⟨a,ha,rfl⟩
  .exact hJ.op l hl
  obtain⟨o,_,ho,_⟩:=hA.get a ha;exact⟨o,ho⟩
 have hWs:∀ i∈W,i < listed.size:=fun i hi=>by
  obtain⟨o,ho⟩:=hWo i hi;rw[hsz];exact(qaz.1 ho).1
 have main:∀ (r:Nat) (L:Nat->Bool) (lst:Array Bool),zha W L=r->lst.size=listed.size->yqc ops lst->(∀ i,i < listed.size->lst.getD i false=(listed.getD i false || (ykc i W && L i)))->(∀ i,L i=true->i∈W)->xay P N ops lf Q (fuel+r) lst (stF A J base h0 L):=by
  intro r;induction r with
  | zero=>
   intro L lst hr hsz2 hc hlst hLW;have hall:=zqe hr;have e1:lst=yha W listed:=zvu (by rw[zks,hsz2]) fun i hi=>by
    rw[hsz2]at hi;rw[hlst i hi];by_cases hiW:i∈W
    .rw [ycr.2 hiW,hall i hiW,zdb (.inr ⟨hiW,hi⟩)];simp
    rw[show ykc i W=false by rw[<- qbv,ycr];exact hiW];simp only[qdy,qdm];cases hb:listed.getD i false with
    | true=>exact(zdb (.inl hb)).symm
    | false=>
     cases hb2:(yha W listed).getD i false with
     | false=>rfl
     | true=>
      rcases ztw hb2 with h|h
      .rw [hb]at h;cases h
      exact absurd h hiW
   rw[e1,xet (fun a ha=>hall _ (hWA a ha)) fun l hl=>hall _ (hWJ l hl)];exact k hDst (e1 ▸ hc)
  | succ r ih=>
   intro L lst hr hsz2 hc hlst hLW;obtain⟨w0,hw0,hL0⟩:=zxj hr;have hget:∀ i,i < ops.size->lst[i]?=some (lst.getD i false):=fun i hi=>by
    rw[qar,qbk (show i < lst.size by omega)];rfl
   have hLl:∀ b∈W,lst.getD b false=true->L b=true:=fun b hb h2=>by
    rw[hlst b (hWs b hb),ycr.2 hb,qfe]at h2;have h3:=List.all_eq_true.1 hfree b hb;cases hlb:listed.getD b false with
    | true=>rw[hlb]at h3;cases h3
    | false=>rw[hlb,qep]at h2;exact h2
   have hdone:∀ (a b:Nat),a∈W->b∈W->yhk ops ops.size a b=true->L a=true->L b=true:=fun a b ha hb hw hLa=>by
    obtain⟨o,ho⟩:=hWo a ha;have hla:lst.getD a false=true:=by rw[hlst a (hWs a ha),ycr.2 ha,hLa];simp
    exact hLl b hb (yep hc _ _ _ o ho (fun e he hbd=>hc a o hla ho e he hbd) hw)
   have key:∀ i∈Region.ready .any ops lst,i∈W/\L i=false:=by
    intro i hi;obtain⟨g1,o,ho,g2⟩:=mem_ready.1 hi;have hlt:=(qaz.1 ho).1;have hf:lst.getD i false=false:=by
     rw[qar,hget i hlt]at g1;simpa using g1
    have hf2:=hlst i om;rw[hf]at hf2;have hf2:=qea.1 hf2.symm;have hp:=List.all_eq_true.1 hpost i (qbt.2 hlt);rw[hf2.1,qep,qck]at hp;rcases hp with hp|hp
    .rw [hp,qfe]at hf2;exact⟨ycr.1 hp,hf2.2⟩
    exfalso;have h1:=List.all_eq_true.1 hp w0 hw0;have h2:=yep hc _ _ _ o ho g2 h1;have:=hLl w0 hw0 h2;rw[hL0]at this;cases this
   refine⟨fun hnil=>?_,fun i hi=>?_⟩
   .exfalso;have hall:∀ i,i < ops.size->lst.getD i false=true:=by
     intro i;induction i using Nat.strongRecOn with
     | _ i ih2=>
      intro hi;cases hb:lst.getD i false with
      | true=>rfl
      | false=>
       have ho:ops[i]?=some (ops[i]'hi):=qbk hi;have:i∈Region.ready .any ops lst:=mem_ready.2 ⟨by rw[qar,hget i hi,hb];rfl,_,ho,fun e he hbd=>by
        have h9:=hback i _ ho e he hbd
        exact ih2 e.on h9 om⟩
       rw[hnil]at this;cases this
    have:=hLl w0 hw0 (hall w0 (by rw[<- hsz];exact hWs w0 hw0));rw[hL0]at this;cases this
   obtain⟨hiW,hiL⟩:=key i hi;have hc':=hc.set hi;obtain⟨_,o2,ho2,g2⟩:=mem_ready.1 hi;have hnext:=ih (fun k=>if k=i then true else L k) (lst.setIfInBounds i true) (by have:=zxk hWn hiW hiL;omega) (by rw[qez];exact hsz2) hc' (fun q hq=>by
    rw[qar,qbx]
    by_cases hqi:i=q
    .subst hqi
     rw[if_pos rfl,if_pos om,ycr.2 hiW];simp
    .rw [if_neg hqi,if_neg (fun e=>hqi e.symm),<- hlst q hq,qar]) (fun q hq=>by
    by_cases hqi:q=i
    .exact hqi ▸ hiW
    simp only[if_neg hqi]at hq;exact hLW q hq)
   rcases hWc i hiW with hm|⟨a,ha,rfl⟩
   .obtain ⟨oj,k1,k2,k3,k4⟩:=zyy (L:=L) hdN (fun b hb hw=>hLl b.1 (hWA b hb) (yep hc _ _ _ o2 ho2 g2 hw)) hiL (fun a ha e=>by obtain⟨l,hl,e2⟩:=hm;exact hjA l hl a ha (e2.trans e.symm)) hJ hjN (by
     clear hm hnext
     have:∀ {J':List Ld} {base:List (Nat × AV)} {h:List (Nat × Option LObj)},(∀ l∈J',l∈J)->zoa P N ops lf A req J' base h->xmd L J':=by
      intro J'
      induction J' with
      | nil=>intro _ _ _ _;trivial
      | cons l J' ih3=>intro _ _ hs hJ';exact⟨fun l' hl' h=>hdone l'.j l.j (hWJ _ (hs _ (by simp[hl']))) (hWJ _ (hs _ sm)) (List.all_eq_true.1 hJ'.2.2.2.2.1 l' hl') h,ih3 (fun x hx=>hs x (by simp[hx])) hJ'.2.2.2.2.2⟩
     exact this (fun l hl=>hl) hJ) hbn hm (fun l hl hw=>hLl l.j (hWJ l hl) (yep hc _ _ _ o2 ho2 g2 hw))
    exact zve k1 (hDst _ _ k1) k2 k3 k4 hnext
   obtain⟨o,tl,ho,hod,hog,htl,hr0,hr1⟩:=hA.get a ha;rw[ho]at ho2;cases ho2;have hmem:∀ x y,yak tl x=some y->(∃ b∈A,L b.1=true/\b.2=(x,y))\/(x,y)∈req:=fun x y hx=>by
    have hx:=zby hx;rw[htl]at hx;rcases qat.1 hx with h|h
    .obtain ⟨b,hb,e⟩:=qag.1 h;obtain⟨hb1,hb2⟩:=qdc.1 hb;exact .inl ⟨b,hb1,hLl b.1 (hWA b hb1) (yep hc _ _ _ _ ho g2 hb2),e⟩
    exact .inr h
   rw[xes hdN hiN ha fun l hl=>hjA l hl a ha,<- hod]at hnext;exact zvd (r:=a.2.2) ho (hDst _ _ ho) hog (stF_calm hdN hmem hJ hbn hreq hr0 hr1) hnext
 have:=main (J.length+A.length) (fun _=>false) listed (by unfold zha;rw[qgh.2 sm];exact hlen) rfl hcl (fun i hi=>by simp) (fun i hi=>by cases hi);have e1:stF A J base h0 (fun _=>false)=S base h0:=by
  have htb:ypy base A (fun _=>false)=yak base:=by
   funext x;unfold ypy;rw[qes.2 sm]
  cases J with
  | nil=>unfold stF;rw[htb];rfl
  | cons l J=>unfold stF;rw[htb];rfl
 rw[<- e1,hn];exact this
end
set_option maxHeartbeats 8000000
section
open Go.RowKit
theorem xcv{e:BitVec 32}(he:InN n e):e &&& ~~~(ymc (fun _=>true) n)=0#32:=by
 apply qbr;intro u hu;rw[qbi,qcy,yhm _ _ _ hu,qbs];rcases qbh u n with h9|h9
 .simp [h9]
 rw[he u h9];simp
theorem xcw{x e:BitVec 32}(he:InN n e)(hx:yzq x e):InN n x:=fun u hu=>by
 cases hb:x.getLsbD u with
 | false=>rfl
 | true=>exact absurd (he u hu) (by rw[hx.bit hb];simp)
theorem pop_one{v:Nat}(hv:v < 32):zak (1#32 <<< v)=1:=by
 unfold zak ypb;have:(List.range 32).filter (1#32 <<< v).getLsbD=(List.range 32).filter fun u=>decide (u=v):=qfm fun u hu=>by
  rw[zfb (qbt.1 hu)]
 rw[this];have:∀ v:Fin 32,((List.range 32).filter fun u=>decide (u=v.val)).length=1:=by decide
 exact this ⟨v,hv⟩
theorem rpossible_con(g:GraphD)(hg:ycf g=true)(hl:yko g=true)(kind:Int)(hk:1<=kind/\kind<=4)(e:BitVec 32)(he:InN g.ports.length e):Con prog 95 [yev g,i64 kind,yav e] (yau true):=by
 have hv:=ybe hg;have hrv:=yof g hl;rw[hg]at hrv;have hrk:=yoe kind;rw[decide_eq_true hk.1,decide_eq_true hk.2]at hrk;have hall:=zfi g.ports.length hv.2.1;have hsub:=xcv he;refine ze Tryz.func95 ntmps95 Tryz.results95 ?_
 (try refine zbz ?_)
 refine zr ?_;exact yae (by rw[yct,hsub];rfl)
theorem rindep_con(g:GraphD)(hg:ycf g=true)(hl:yko g=true)(x:BitVec 32)(hx:InN g.ports.length x):Con prog 97 [yev g,yav x] (yau (ylm g x &&& x == 0#32)):=by
 have hv:=ybe hg;have hrv:=yof g hl;rw[hg]at hrv;have hall:=zfi g.ports.length hv.2.1;have hsub:=xcv hx;have hne:=zan g hg hl x;refine ze Tryz.func97 ntmps97 Tryz.results97 ?_
 (try refine zbz ?_)
 refine zj ?_ ?_ <;> intro q0
 .rw [ydd,hsub]at q0;simp at q0
 (try refine zbz ?_)
 refine zr ?_;exact yae (yct _)
theorem rpermits_con(g:GraphD)(hg:ycf g=true)(hl:yko g=true)(kind:Int)(hk:1<=kind/\kind<=4)(e:BitVec 32)(he:InN g.ports.length e){x:BitVec 32}(hx0:x≠0#32)(hxe:yzq x e)(hx:x∈zgx g kind e):Con prog 47 [yev g,i64 kind,yav e,yav x] (yau true):=by
 have hpo:=rpossible_con g hg hl kind hk e he;have hxn:=xcw he hxe;have hsub:x &&& ~~~e=0#32:=hxe;have hco:=yrc x;have hin:=rindep_con g hg hl x hxn;refine ze Tryz.func47 ntmps47 Tryz.results47 ?_
 (try refine zbz ?_)
 refine yaj 18 rfl (fun q0=>?_) (fun q0=>?_)
 .exfalso;rw[yct]at q0;exact hx0 (by simpa using q0)
 (try refine zb ?_)
 refine zj ?_ ?_ <;> intro q1
 .exfalso;rw[ydd,hsub]at q1;simp at q1
 refine zY ?_;refine zj ?_ ?_ <;> intro k1
 .have k1:kind=1:=by simpa using k1
  have hc1:zak x=1:=by
   subst k1;rw[zgx,if_pos rfl]at hx;obtain⟨v,hv,rfl⟩:=qag.1 hx;exact pop_one (yfo.1 hv).1
  refine zZ ?_;refine zr ?_;exact yae (by rw[hc1];rfl)
 have k1:kind≠1:=by simpa using k1
 refine zY ?_;refine zj ?_ ?_ <;> intro k2
 .have k2:kind=2:=by simpa using k2
  refine zZ ?_;refine zr ?_;refine yae ?_;rw[zhx hg (.inl k2) he]at hx;have:=(qdc.1 hx).2;rw[k2]at this;simpa using this
 have k2:kind≠2:=by simpa using k2
 refine zY ?_;refine zj ?_ ?_ <;> intro k4
 .have k4:kind=4:=by simpa using k4
  rw[zgx,if_neg om,if_pos k4]at hx;have hxe':x=e:=by simpa using hx
  subst hxe';refine zk ?_;exact yae sm
 exact zkp
end
section
open Go.RowKit
theorem rbegin16_con(e:BitVec 32):Con prog 94 [yav e] (.agg (yfi (ymn e))):=by
 have hall:=ysk;refine ycx tok Tryz.func94 rfl rfl ntmps94 Tryz.results94 rfl rfl ?_
 (try refine zbz ?_)
 exact zp
theorem r16valid_con(k:CntD)(h:CntOk k):Con prog 162 [.agg (yfi k)] (yau true):=by
 obtain⟨a1,a2,a3,a4,a5,a6,a7,a8,a9⟩:=h;have hall:=ysk;have a9':k.pend &&& ~~~zzx=0#32:=a9;refine ze Tryz.func162 ntmps162 Tryz.results162 ?_;refine zY ?_;refine yaj 6 rfl (fun h1=>?_) (fun h1=>?_)
 .simp at h1;omega
 refine zY ?_;refine yaj 13 rfl (fun h2=>?_) (fun h2=>?_)
 .simp at h2;omega
 refine zY ?_;refine yaj 21 rfl (fun h3=>?_) (fun h3=>?_)
 .simp at h3;omega
 refine zY ?_;refine zj ?_ ?_ <;> intro h4
 .simp at h4;omega
 (repeat (first|refine zw ?_|fail))
 refine ybg (lf:=lf0) ymj rfl ?_;refine yaz [0,1,2,3,4,5,6,7,8,9,10,11,12,13,14,15,16,17,18,19,20,21,22,23,24,25] (yaa rfl (yaa rfl (yaa rfl (yaa rfl (yaa rfl (yaa rfl (yaa rfl (yaa rfl (yaa rfl (yaa rfl (yaa rfl (yaa rfl (yaa rfl (yaa rfl (yaa rfl (yaa rfl (yaa rfl (yaa rfl (yaa rfl (yaa rfl (yaa rfl (yaa rfl (yaa rfl (yaa rfl (yaa rfl (yaa rfl yal)))))))))))))))))))))))))) rfl kf ?_
 (repeat (first|refine zw ?_|fail))
 refine yaj 31 rfl (fun h7=>?_) (fun h7=>?_)
 ·(repeat (first|refine zw ?_|fail))
  refine yaj 38 rfl (fun h8=>?_) (fun h8=>?_)
  ·(repeat (first|refine zw ?_|fail))
   refine yaj 46 rfl (fun h9=>?_) (fun h9=>?_)
   ·(try refine zbz ?_)
    refine zr ?_;exact yae (by rw[yct,a9'];rfl)
   simp at h9;omega
  simp at h8;omega
 simp at h7;omega
theorem radd16_con(k:CntD)(h:CntOk k)(h4:k.steps < 4096){ch af:BitVec 32}(hc:ch≠0#32)(h1:InM ch)(h2:InM af):Con prog 98 [.agg (yfi k),yav ch,yav af] (.tup [.agg (yfi (zgq k ch af)),i64 0]):=by
 have hv:=r16valid_con k h;have hall:=ysk;have hco:=yrc ch;have hor:(ch ||| af) &&& ~~~zzx=0#32:=yvs fun i hi=>by rw[qgs,zeb h1 hi,zeb h2 hi];rfl
 have p1:=zuf hc;have p2:=xja h1;obtain⟨a1,a2,a3,a4,a5,a6,a7,a8,a9⟩:=h;refine ycx tok Tryz.func98 rfl rfl ntmps98 Tryz.results98 rfl rfl ?_;refine zZ ?_;refine yaj 16 rfl (fun q1=>?_) (fun q1=>?_)
 .rw [yct]at q1;exact absurd (by simpa using q1) hc
 (try refine zbz ?_)
 refine zj ?_ ?_ <;> intro q0
 .rw [ydd,hor]at q0;simp at q0
 refine zY ?_;refine zj ?_ ?_ <;> intro q2
 .simp at q2;omega
 (repeat (first|refine zw ?_|fail))
 refine ybg (lf:=lf0) ymj rfl ?_;refine yaz [0,1,2,3,4,5,6] (yaa rfl (yaa rfl (yaa rfl (yaa rfl (yaa rfl (yaa rfl (yaa rfl yal))))))) rfl kf ?_
 (try refine zbz ?_)
 refine zj ?_ ?_ <;> intro q3
 .rw [yct]at q3;have e:zgq k ch af=⟨k.steps+1,k.moves+zak ch,k.rounds+1,k.rounds+1,af⟩:=by unfold zgq;rw[if_pos (by simpa using q3)]
  rw[e];exact zkp
 rw[yct]at q3;have e:zgq k ch af=⟨k.steps+1,k.moves+zak ch,k.rounds,k.rounds+1,k.pend &&& ~~~ch &&& af⟩:=by unfold zgq;rw[if_neg (by simpa using q3)]
 rw[e];exact zkp
end
section
open Go.RowKit
theorem frz_run0{h:Nat->Option LObj}{k:CntD}{en:List (BitVec 32)}(e:rows=en.map fun B=>[yav B]):Frz h (.agg (.v (.slice none 0 0)::.sl 1 rows::ycj c::yfi k)) (.agg ([ydh [],ydh en,ycj c]++yfi k)):=by
 subst e;refine Frz.aggL rfl rfl fun i x y hx hy=>?_;have hi:=(qaa.1 hx).1;have:i=0\/i=1\/i=2\/i=3\/i=4\/i=5\/i=6\/i=7:=by simp[yfi]at hi;omega
 rcases this with rfl|rfl|rfl|rfl|rfl|rfl|rfl|rfl <;> simp only[yfi,qbb,qcw,qas,qca,Option.some.injEq]at hx hy <;> subst hx hy
 .exact Frz.nil
 all_goals exact Frz.pure
theorem rstart_con(h:CfgOk p g c):Con prog 46 [ygg p,yev g,ycj c] (yiq (zhe p g c)):=by
 have h24:=h.n24;have hl:=h.len;have h6:=h.vars6;have hrows:∀ r∈c,r.length<=1000:=fun r hr=>by have:=h.rowlen r hr;omega
 have hcopy:=zib (zrk c om hrows) (r':=ycj c) rfl (yym (f:=[]) (M:=3) (n:=c.length) rfl rfl rfl rfl rfl);have hbe:=rbegin16_con (ydc p g c);refine ycx tok Tryz.func46 rfl rfl ntmps46 Tryz.results46 rfl rfl ?_
 (repeat (first|refine zz ?_|refine zc (yre h) ?_))
 refine zr ?_;exact frz_run0 rfl
def nxB(p:ProgD)(g:GraphD)(c c':List (List Int))(w:BitVec 32)(k:CntD)(ch en:List (BitVec 32)):List (Nat × Option LObj):=[(6,some (.cells ([ydh ch,ydh en,ycj c]++yfi k))),(12,some (.cells (yfi (zgq k w (ydc p g c'))))),(8,some (.cells (yhw zhi.zero)))]
def zaj(l:List (BitVec 32)):List (List AV):=l.map fun B=>[yav B]
def xno(p:ProgD)(g:GraphD)(c c':List (List Int))(w:BitVec 32)(k:CntD)(ch en:List (BitVec 32)):List (Nat × Option LObj):=(200,some (.vec (zaj ch).flatten))::nxB p g c c' w k ch en
def xnp(p:ProgD)(g:GraphD)(c c':List (List Int))(w:BitVec 32)(k:CntD)(ch en:List (BitVec 32)):List (Nat × Option LObj):=(200,some (.vec ((zaj ch).flatten++[yav w])))::xno p g c c' w k ch en
def xnq(p:ProgD)(g:GraphD)(c c':List (List Int))(w:BitVec 32)(k:CntD)(ch en:List (BitVec 32)):List (Nat × Option LObj):=(201,some (.vec (zaj en).flatten))::xnp p g c c' w k ch en
def nxH3(p:ProgD)(g:GraphD)(c c':List (List Int))(w:BitVec 32)(k:CntD)(ch en:List (BitVec 32)):List (Nat × Option LObj):=(201,some (.vec ((zaj en).flatten++[yav (ydc p g c')])))::xnq p g c c' w k ch en
theorem yqt(l:List (BitVec 32)):(zaj l).flatten=l.map yav:=by induction l with
 | nil=>rfl
 | cons a l ih=>simp only[zaj,qce,qcc]at ih ⊢;rw[ih];rfl
theorem ymw(l:List (BitVec 32)):(zaj l).length=l.length:=qai ..
theorem zqw(l:List (BitVec 32)):∀ c∈(zaj l).flatten,yas c=true:=fun c hc=>by
 rw[yqt]at hc;obtain⟨B,_,rfl⟩:=qag.1 hc;rfl
theorem rnext_con{S0:RunD}(h:CfgOk p g S0.c)(hk:CntOk S0.k)(h4:S0.k.steps < 4096)(hcl:S0.ch.length<=4096)(hel:S0.en.length<=4097){w:BitVec 32}(hw0:w≠0#32)(hws:yzq w (ydc p g S0.c)):Con prog 48 [ygg p,yev g,yiq S0,yav w] (yiq (yxq p g S0 w)):=by
 obtain⟨c,e,k,ch,en⟩:=S0;simp only at h hk h4 hcl hel hws;have h24:=h.n24;have hst:=h.step w;have hcl0:=h.len;have hcl2:=hst.len;have hin1:InM w:=yvs fun v hv=>by
  cases hb:w.getLsbD v with
  | false=>rfl
  | true=>
   have:=zus hws hb;rw[yud om]at this;simp at this;omega
 have hin2:InM (ydc p g (yut p g c w)):=yvs fun v hv=>by
  rw[yud om];have:decide (v < (yut p g c w).length)=false:=by simp;omega
  rw[this];rfl
 have hsm:=zru h w hw0 hws;have hen:=yre hst;have had:=radd16_con k hk h4 hw0 hin1 hin2;obtain⟨c',hc'⟩:∃ c',yut p g c w=c':=⟨_,rfl⟩;have hrun:yxq p g ⟨c,e,k,ch,en⟩ w=⟨c',ydc p g c',zgq k w (ydc p g c'),ch++[w],en++[ydc p g c']⟩:=by unfold yxq;simp only[hc']
 rw[hc']at hsm hen had;rw[hrun];refine ycx tok Tryz.func48 rfl rfl ntmps48 Tryz.results48 rfl rfl ?_;refine zWZ ?_;refine yqb (t':=[(6,.lp 6 0),(3,yav w),(9,ycj c'),(11,yav (ydc p g c')),(12,.lp 12 0),(8,.lp 8 0)]) (h':=[(6,some (.cells ([ydh ch,ydh en,ycj c]++yfi k))),(12,some (.cells (yfi (zgq k w (ydc p g c'))))),(8,some (.cells (yhw zhi.zero)))]) ?_ zs (yah (yab rfl (yab rfl (yab rfl yag))));refine yzn [(8,.lp 8 0)] [(8,some (.cells ([.ls 200 1 ((zaj ch).length+1),.ls 201 1 ((zaj en).length+1),ycj c']++yfi (zgq k w (ydc p g c'))))),(200,some (.vec ((zaj ch).flatten++[yav w]))),(201,some (.vec ((zaj en).flatten++[yav (ydc p g c')])))] ?_ ?_
 .refine ybg (lf:=lf0) ymj rfl ?_;refine zon [⟨2,37,[],.ls 200 1 (zaj ch).length,xno p g c c' w k ch en,fun y=>!ment 200 y⟩,⟨5,40,[37],.ls 200 1 ((zaj ch).length+1),xnp p g c c' w k ch en,fun y=>!ment 200 y⟩,⟨8,43,[],.ls 201 1 (zaj en).length,xnq p g c c' w k ch en,fun y=>!ment 201 y⟩,⟨11,46,[43],.ls 201 1 ((zaj en).length+1),nxH3 p g c c' w k ch en,fun y=>!ment 201 y⟩]
   [(0,35,.lp 6 0),(1,36,ydh ch),(3,38,yav w),(4,39,.sl 1 [[yav w]]),(6,41,.lp 6 1),(7,42,ydh en),(9,44,yav (ydc p g c')),(10,45,.sl 1 [[yav (ydc p g c')]]),(12,47,ycj c'),(13,48,.agg (yfi (zgq k w (ydc p g c'))))]
   (req:=[(6,.lp 6 0),(3,yav w),(9,ycj c'),(11,yav (ydc p g c')),(12,.lp 12 0)]) 2 rfl rfl kf rfl rfl rfl kf ⟨rfl,rfl,rfl,rfl,rfl,trivial⟩ rfl ?_ ?_ ?_
  .refine ⟨⟨_,[(35,.lp 6 0),(36,ydh ch)],rfl,rfl,rfl,kf,fun t ht hw hl=>?_⟩,rfl,kf,kf,kf,⟨_,[(35,.lp 6 0),(36,ydh ch),(38,yav w),(39,.sl 1 [[yav w]])],rfl,rfl,rfl,kf,fun t ht hw hl=>?_⟩,rfl,kf,kf,kf,⟨_,[(35,.lp 6 0),(36,ydh ch),(38,yav w),(39,.sl 1 [[yav w]]),(41,.lp 6 1),(42,ydh en)],rfl,rfl,rfl,kf,fun t ht hw hl=>?_⟩,rfl,kf,kf,kf,⟨_,[(35,.lp 6 0),(36,ydh ch),(38,yav w),(39,.sl 1 [[yav w]]),(41,.lp 6 1),(42,ydh en),(44,yav (ydc p g c')),(45,.sl 1 [[yav (ydc p g c')]])],rfl,rfl,rfl,kf,fun t ht hw hl=>?_⟩,rfl,kf,kf,kf,trivial⟩
   .exact zoo tok 200 hl rfl rfl rfl rfl rfl (hw 36 _ rfl) (zqw ch) (by rw[ymw];constructor <;> omega) rfl
   .have h37:evF t (.tmp 37)=some (.ls 200 1 (zaj ch).length):=ht 37 _ rfl;have h39:evF t (.tmp 39)=some (.sl 1 [[yav w]]):=hw 39 _ rfl;exact zvp tok (id:=200) (xs:=(zaj ch).flatten) (len:=(zaj ch).length) hl rfl rfl rfl rfl h37 rfl (by rw[yqt,ymw];simp) h39 (by intro x hx;simp at hx;subst hx;rfl) (by rw[ymw];constructor <;> simp <;> omega) rfl
   .exact zoo tok 201 hl rfl rfl rfl rfl rfl (hw 42 _ rfl) (zqw en) (by rw[ymw];constructor <;> omega) rfl
   have h43:evF t (.tmp 43)=some (.ls 201 1 (zaj en).length):=ht 43 _ rfl;have h45:evF t (.tmp 45)=some (.sl 1 [[yav (ydc p g c')]]):=hw 45 _ rfl;exact zvp tok (id:=201) (xs:=(zaj en).flatten) (len:=(zaj en).length) hl rfl rfl rfl rfl h43 rfl (by rw[yqt,ymw];simp) h45 (by intro x hx;simp at hx;subst hx;rfl) (by rw[ymw];constructor <;> simp <;> omega) rfl
  .exact ⟨⟨_,[]++[(6,.lp 6 0),(3,yav w),(9,ycj c'),(11,yav (ydc p g c')),(12,.lp 12 0)],rfl,rfl,rfl,kf,yaw tok kf kf,yaw tok kf kf,yaw tok kf kf,yaw tok kf kf,yaw tok kf kf,trivial⟩,
    ⟨_,[(35,.lp 6 0)]++[(6,.lp 6 0),(3,yav w),(9,ycj c'),(11,yav (ydc p g c')),(12,.lp 12 0)],rfl,rfl,rfl,kf,yaw tok kf kf,yaw tok kf kf,yaw tok kf kf,yaw tok kf kf,yaw tok kf kf,trivial⟩,
    ⟨_,[]++[(6,.lp 6 0),(3,yav w),(9,ycj c'),(11,yav (ydc p g c')),(12,.lp 12 0)],rfl,rfl,rfl,kf,yaw tok kf kf,yaw tok kf kf,yaw tok kf kf,yaw tok kf kf,yaw tok kf kf,trivial⟩,
    ⟨_,[(38,yav w)]++[(6,.lp 6 0),(3,yav w),(9,ycj c'),(11,yav (ydc p g c')),(12,.lp 12 0)],rfl,rfl,rfl,kf,ytq tok rfl rfl rfl rfl rfl rfl rfl rfl,ytq tok rfl rfl rfl rfl rfl rfl rfl rfl,ytq tok rfl rfl rfl rfl rfl rfl rfl rfl,ytq tok rfl rfl rfl rfl rfl rfl rfl rfl,ytq tok rfl rfl rfl rfl rfl rfl rfl rfl,trivial⟩,
    ⟨_,[]++[(6,.lp 6 0),(3,yav w),(9,ycj c'),(11,yav (ydc p g c')),(12,.lp 12 0)],rfl,rfl,rfl,kf,yaw tok kf kf,yaw tok kf kf,yaw tok kf kf,yaw tok kf kf,yaw tok kf kf,trivial⟩,
    ⟨_,[(41,.lp 6 1)]++[(6,.lp 6 0),(3,yav w),(9,ycj c'),(11,yav (ydc p g c')),(12,.lp 12 0)],rfl,rfl,rfl,kf,yaw tok kf kf,yaw tok kf kf,yaw tok kf kf,yaw tok kf kf,yaw tok kf kf,trivial⟩,
    ⟨_,[]++[(6,.lp 6 0),(3,yav w),(9,ycj c'),(11,yav (ydc p g c')),(12,.lp 12 0)],rfl,rfl,rfl,kf,yaw tok kf kf,yaw tok kf kf,yaw tok kf kf,yaw tok kf kf,yaw tok kf kf,trivial⟩,
    ⟨_,[(44,yav (ydc p g c'))]++[(6,.lp 6 0),(3,yav w),(9,ycj c'),(11,yav (ydc p g c')),(12,.lp 12 0)],rfl,rfl,rfl,kf,ytq tok rfl rfl rfl rfl rfl rfl rfl rfl,ytq tok rfl rfl rfl rfl rfl rfl rfl rfl,ytq tok rfl rfl rfl rfl rfl rfl rfl rfl,ytq tok rfl rfl rfl rfl rfl rfl rfl rfl,ytq tok rfl rfl rfl rfl rfl rfl rfl rfl,trivial⟩,
    ⟨_,[]++[(6,.lp 6 0),(3,yav w),(9,ycj c'),(11,yav (ydc p g c')),(12,.lp 12 0)],rfl,rfl,rfl,kf,yaw tok kf kf,yaw tok kf kf,yaw tok kf kf,yaw tok kf kf,yaw tok kf kf,trivial⟩,
    ⟨_,[]++[(6,.lp 6 0),(3,yav w),(9,ycj c'),(11,yav (ydc p g c')),(12,.lp 12 0)],rfl,rfl,rfl,kf,yaw tok kf kf,yaw tok kf kf,yaw tok kf kf,yaw tok kf kf,yaw tok kf kf,trivial⟩,trivial⟩
  refine yaz [14,15] (yaa rfl (yaa rfl yal)) rfl kf ?_;refine zO ?_;refine mid zs (yab rfl (yab rfl (yab rfl yag)))
 have f1:(zaj ch).flatten++[yav w]=(ch++[w]).map yav:=by rw[yqt];simp
 have f2:(zaj en).flatten++[yav (ydc p g c')]=(en++[ydc p g c']).map yav:=by rw[yqt];simp
 have f3:(zaj ch).length+1=(ch++[w]).length:=by rw[ymw];simp
 have f4:(zaj en).length+1=(en++[ydc p g c']).length:=by rw[ymw];simp
 rw[f1,f2,f3,f4];refine yey 8 0 ((ch++[w]).map fun B=>[yav B]) rfl rfl rfl sm (fun row hr=>by obtain⟨y,_,rfl⟩:=qag.1 hr;rfl) (ydq _) rfl rfl rfl rfl ?_;refine yey 8 1 ((en++[ydc p g c']).map fun B=>[yav B]) rfl rfl rfl sm (fun row hr=>by obtain⟨y,_,rfl⟩:=qag.1 hr;rfl) (ydq _) rfl rfl rfl rfl ?_;exact zp
end
section
open Go.RowKit
inductive Goes (p:ProgD) (g:GraphD) (kind:Int):List (List Int)->List (BitVec 32)->Prop
 | nil {c:List (List Int)}:Goes p g kind c []
 | cons {c:List (List Int)} {w:BitVec 32} {ws:List (BitVec 32)} (h0:w≠0#32) (h1:yzq w (ydc p g c)) (h2:w∈zgx g kind (ydc p g c)) (k:Goes p g kind (yut p g c w) ws):Goes p g kind c (w::ws)
theorem ztj(h:CfgOk p g c):InN g.ports.length (ydc p g c):=fun u hu=>by
 have:=h.len;have:=h.n24;rw[yud om];have:decide (u < c.length)=false:=by simp;omega
 rw[this];rfl
theorem xkn{B:BitVec 32}(hn:n<=24)(h:InN n B):InM B:=yvs fun i hi=>h i om
theorem rbegin17_con(h:CfgOk p g c)(hk:1<=kind/\kind<=4)(hn:n<=4096):Con prog 45 [ygg p,yev g,i64 kind,ycj c,i64 n] (i64 0):=by
 have hck:=ysm p g c h.fair h.cin;rw[yfq.2 ⟨h.fit,h.table⟩]at hck;have hrk:=yoe kind;rw[decide_eq_true hk.1,decide_eq_true hk.2]at hrk;refine ze Tryz.func45 ntmps45 Tryz.results45 ?_;refine zZ ?_;refine zj ?_ ?_ <;> intro q1
 .simp at q1;omega
 exact zkp
theorem rplay17_con(h:CfgOk p g c)(hk:1<=kind/\kind<=4){ws:List (BitVec 32)}(hn:ws.length<=4096)(hg:Goes p g kind c ws):Con prog 15 [ygg p,yev g,i64 kind,ycj c,ydh ws] (.tup [yiq (ws.foldl (yxq p g) (zhe p g c)),i64 0]):=by
 have hbe:=rbegin17_con h hk hn;have hst:=rstart_con h;have e1:(ws.map fun B=>[yav B]).length=ws.length:=qai ..;refine ycx tok Tryz.func15 rfl rfl ntmps15 Tryz.results15 rfl rfl ?_;refine zZ ?_;refine ybw (α:=Nat × RunD) (fun a=>[(14,i64 a.1),(13,.lp 13 0),(10,.lp 10 0),(5,.lp 5 0),(6,.lp 6 0),(2,i64 kind),(4,ydh ws)]) (fun a=>[(13,some (.cells ([ydh a.2.ch,ydh a.2.en,ycj a.2.c]++yfi a.2.k))),(10,some (.cells (yhw zhi.zero))),(6,some (.cells [yai g.ids,yaq g.ports])),(5,some (.cells [ykp p.name,.sl 6 (p.vars.map ybl),.sl 3 (p.rules.map ybc)]))]) (fun a=>ws.length - a.1) (fun a=>a.1<=ws.length/\CfgOk p g a.2.c/\CntOk a.2.k/\a.2.k.steps=a.1/\a.2.ch.length=a.1/\a.2.en.length=a.1+1/\a.2.en[a.1]?=some (ydc p g a.2.c)/\Goes p g kind a.2.c (ws.drop a.1)/\(ws.drop a.1).foldl (yxq p g) a.2=ws.foldl (yxq p g) (zhe p g c)) (0,zhe p g c) ⟨by simp only;omega,h,zvv,rfl,rfl,rfl,rfl,hg,rfl⟩ zs (yah (yab rfl (yab rfl (yab rfl (yab rfl yag))))) ?_;rintro⟨i,S0⟩ ⟨hi,hS,hkk,hks,hc1,he1,hen,hgo,hfo⟩;simp only at hi hS hkk hks hc1 he1 hen hgo hfo ⊢;have hel:(S0.en.map fun B=>[yav B]).length=S0.en.length:=qai ..;refine zY ?_;refine zj ?_ ?_ <;> intro q1
 .simp at q1;obtain⟨w,hw⟩:=ybk q1;have hdr:ws.drop i=w::ws.drop (i+1):=by rw[qbl q1];congr 1;exact Option.some.inj ((qae q1).symm.trans hw)
  rw[hdr]at hgo hfo;cases hgo with
  | cons h0 h1 h2 hgo=>
   have hpe:=rpermits_con g hS.graph hS.fair.lg kind hk (ydc p g S0.c) (ztj hS) h0 h1 h2;have hnx:=rnext_con hS hkk om om om h0 h1;refine zWZ ?_;refine ybg (lf:=lf0) ymj rfl ?_;refine yaz [0,1,2,3,4,5,6,7,8,9,10,11,12] (yaa rfl (yaa rfl (yaa rfl (yaa rfl (yaa rfl (yaa rfl (yaa rfl (yaa rfl (yaa rfl (yaa rfl (yaa rfl (yaa rfl (yaa rfl yal))))))))))))) rfl kf ?_;refine zWZ ?_;refine ybg (lf:=lf0) ymj rfl ?_;refine yaz [0,1,2,3,4,5,6,7,8] (yaa rfl (yaa rfl (yaa rfl (yaa rfl (yaa rfl (yaa rfl (yaa rfl (yaa rfl (yaa rfl yal))))))))) rfl kf ?_;refine zWZ ?_;have hst2:=hS.step w;have n24:=hS.n24;have hin1:=xkn n24 (xcw (ztj hS) h1);have hin2:=xkn n24 (ztj hst2);exact yhi (i+1,yxq p g S0 w) ⟨by simp only;omega,hst2,xgo hkk om h0 hin1 hin2,by simp only[yxq,zhn,hks];omega,by simp[yxq,hc1],by simp[yxq,he1],by simp only[yxq];rw[qah om,he1,qbm];rfl,hgo,hfo⟩ (by simp only;omega) zs (yah (yab rfl (yab rfl (yab rfl (yab rfl yag)))))
 simp at q1;obtain rfl:i=ws.length:=by omega
 rw[qcb]at hfo;refine zk ?_;rw[<- hfo];exact Frz.pure
end
section
open Go.RowKit
theorem zdn{α:Type}{f:α->Prop}:∀ {l:List α},(∃ a∈l,f a)->∃ pre a post,l=pre++a::post/\f a/\∀ b∈pre,¬ f b
 | [],h=>by obtain⟨a,ha,_⟩:=h;cases ha
 | x::l,h=>by
  by_cases hx:f x
  .exact ⟨[],x,l,rfl,hx,fun b hb=>(by cases hb)⟩
  obtain⟨a,ha,hf⟩:=h;rcases qaq.1 ha with rfl|ha
  .exact absurd hf hx
  obtain⟨pre,b,post,e,h1,h2⟩:=zdn ⟨a,ha,hf⟩;refine⟨x::pre,b,post,by rw[e];rfl,h1,fun c hc=>?_⟩;rcases qaq.1 hc with rfl|hc
  .exact hx
  exact h2 c hc
def xak(p:List (BitVec 32)):Nat:=(p.map zak).sum
theorem dead_arcs(h:Dead s L k)(hL:L.getD k false=false):ycg s k≠[]:=by
 cases h with
 | leg h=>rw[hL]at h;cases h
 | step h1 h2=>exact h1
theorem sch_ex(hl:L.length=s.length)(hs:∀ x∈s,∀ a∈x.2,a.2.toNat < s.length)(hd:∀ k,k < s.length->Dead s L k):∀ k,k < s.length->∃ p,Sch s L (grF mvA s L) k p/\p.length<=s.length/\xak p=(grF mvA s L).getD k 0:=by
 have hW:=zrd hl hs hd;have hG:GrK s L mvA (ysy s L) (grF mvA s L):=xct (ysy s L) hW.nd hW.lt (fun k hL hk=>dead_arcs (hd k (hW.lt k hk)) hL) hW.top (P:=[]) sm ⟨sm,fun k _=>by rw[qac,qcs];split <;> rfl,fun k hk=>(by cases hk),fun k hk=>(by cases hk)⟩;have main:∀ j k,(ysy s L)[j]?=some k->∃ p,Sch s L (grF mvA s L) k p/\p.length<=j/\xak p=(grF mvA s L).getD k 0:=by
  intro j;induction j using Nat.strongRecOn with
  | _ j ih=>
   intro k hj;have hk:=qab hj;cases hL:L.getD k false with
   | true=>exact⟨[],.leg hL,Nat.zero_le _,(hG.leg k hk hL).symm⟩
   | false=>
    obtain⟨pre,a,post,e,h1,h2⟩:=zdn (f:=fun a=>mvA a+(grF mvA s L).getD a.2.toNat 0=(grF mvA s L).getD k 0) (hG.max k hk hL);have hto:=hW.top j k hj hL a (by rw[e];simp);obtain⟨i,hi⟩:=qao hto;have hij:i < j:=by have:=(qaa.1 hi).1;simp at this;omega
    rw[qbc,if_pos hij]at hi;obtain⟨p,g1,g2,g3⟩:=ih i hij a.2.toNat hi;refine⟨a.1::p,.step hL e h2 h1 g1,by rw[qaj];omega,?_⟩;rw[<- h1,<- g3];simp[xak,mvA]
 intro k hk;obtain⟨j,hj⟩:=qao (hW.all k hk);obtain⟨p,h1,h2,h3⟩:=main j k hj;have:=(qaa.1 hj).1;exact⟨p,h1,by have:=hW.whole;omega,h3⟩
theorem sch_plays(h:SysOk p g kind n s)(hkd:1<=kind/\kind<=4)(hn:yce (yaf p g)=((n:Int),0)){R:List Nat}:∀ {k:Nat} {ws:List (BitVec 32)},Sch s L R k ws->k < n->Goes p g kind (ydi (yaf p g) k) ws/\(∃ m,m < n/\L.getD m false=true/\∀ S0:RunD,S0.c=ydi (yaf p g) k->(ws.foldl (yxq p g) S0).c=ydi (yaf p g) m)/\(ws≠[]->L.getD k false=false/\∃ m,m < n/\L.getD m false=false/\∀ S0:RunD,S0.c=ydi (yaf p g) k->(ws.dropLast.foldl (yxq p g) S0).c=ydi (yaf p g) m):=by
 intro k ws hS;induction hS with
 | @leg k hL=>exact fun hk=>⟨.nil,⟨k,hk,hL,fun S0 e=>e⟩,fun e=>absurd rfl e⟩
 | @step k a pre post ws hL he hne ha hS ih=>
  intro hk;obtain⟨l,hcv,hst⟩:=h.state k hk;have harc:a∈l.map fun B=>(B,yda (yaf p g) (yut p g (ydi (yaf p g) k) B)):=by
   have:a∈ycg s k:=by rw[he];simp
   rw[ynp hst]at this;exact this
  obtain⟨B,hB,rfl⟩:=qag.1 harc;have hcfg:=h.cfg k;obtain⟨_,hin,_⟩:=zbk hcfg.graph hkd hcv;obtain⟨hB0,hBs⟩:=hin B hB;have hBc:B∈zgx g kind (ydc p g (ydi (yaf p g) k)):=by
   unfold yzw at hcv;split at hcv
   .cases hcv;cases hB
   split at hcv
   .cases hcv
   cases hcv;exact hB
  have hst2:=hcfg.step B;obtain⟨r0,r1⟩:=zui hst2 hn;obtain⟨to,hto⟩:∃ to:Nat,yda (yaf p g) (yut p g (ydi (yaf p g) k) B)=to:=⟨_,(qef r0).symm⟩;have hcf:=h.uniq _ to hst2 om hto;simp only[hto,qcl]at ih ⊢;obtain⟨g1,⟨m,g2,g3,g4⟩,g5⟩:=ih om;rw[<- hcf]at g1;have hrun:∀ S0:RunD,S0.c=ydi (yaf p g) k->(yxq p g S0 B).c=ydi (yaf p g) to:=fun S0 e=>by
   show yut p g S0.c B=_;rw[e,hcf]
  refine⟨.cons hB0 hBs hBc g1,⟨m,g2,g3,fun S0 e=>by rw[qcr];exact g4 _ (hrun S0 e)⟩,fun _=>⟨hL,?_⟩⟩;cases ws with
  | nil=>exact⟨k,hk,hL,fun S0 e=>e⟩
  | cons w ws=>
   obtain⟨_,m2,k1,k2,k3⟩:=g5 sm;exact⟨m2,k1,k2,fun S0 e=>by rw[List.dropLast_cons_cons,qcr];exact k3 _ (hrun S0 e)⟩
theorem zrv:∀ {ws:List (BitVec 32)} {S0:RunD},(ws.foldl (yxq p g) S0).k.moves=S0.k.moves+xak ws
 | [],S0=>by simp[xak]
 | w::ws,S0=>by
  rw[qcr,zrv (ws:=ws)];have:(yxq p g S0 w).k.moves=S0.k.moves+zak w:=by
   show (zgq _ _ _).moves=_;unfold zgq;split <;> rfl
  rw[this];simp[xak];omega
theorem zpu:∀ {ws:List (BitVec 32)} {c:List (List Int)},Goes p g kind c ws->Goes p g kind c ws.dropLast
 | [],c,h=>h
 | [w],c,h=>.nil
 | w::v::ws,c,h=>by
  cases h with
  | cons h0 h1 h2 k=>rw[List.dropLast_cons_cons];exact .cons h0 h1 h2 (zpu k)
theorem zpt(hg:ycf g=true)(hk:1<=kind/\kind<=4){ws:List (BitVec 32)}:∀ {m i:Nat} {S0:RunD},m+i=ws.length->CfgOk p g S0.c->S0.e=ydc p g S0.c->Goes p g kind S0.c (ws.drop i)->yuf p g kind (chP ws) m i S0=some ((ws.drop i).foldl (yxq p g) S0)
 | 0,i,S0,hm,_,_,_=>by rw[yuf,List.drop_of_length_le om];rfl
 | m+1,i,S0,hm,hc,he,hgo=>by
  obtain⟨w,hw⟩:=ybk (show i < ws.length by omega);have hdr:ws.drop i=w::ws.drop (i+1):=by rw[qbl om];congr 1;exact Option.some.inj ((qae (show i < ws.length by omega)).symm.trans hw)
  rw[hdr]at hgo ⊢;cases hgo with
  | cons h0 h1 h2 hgo=>
   have hch:chP ws i S0.e=(w,true):=by simp[chP,hw]
   have hper:zce g kind S0.e w=true:=by
    rw[he];unfold zgx at h2;split at h2
    .rename_i k1;obtain⟨v,hv,rfl⟩:=qag.1 h2;have hone:∀ v:Fin 32,(1#32 <<< v.val) &&& ((1#32 <<< v.val) - 1#32)=0#32:=by decide
     have h1':(1#32 <<< v) &&& ~~~(ydc p g S0.c)=0#32:=h1;have h0':((1#32 <<< v) == 0#32)=false:=by simpa using h0
     unfold zce;rw[if_pos k1,h1',h0',hone ⟨v,(yfo.1 hv).1⟩];rfl
    split at h2
    .rename_i k1 k4;have e:w=ydc p g S0.c:=by simpa using h2
     subst e;unfold zce;rw[if_neg k1,if_neg om,if_pos k4];have:(ydc p g S0.c == 0#32)=false:=by simpa using h0
     have h1':ydc p g S0.c &&& ~~~(ydc p g S0.c)=0#32:=h1;rw[this,h1'];simp
    exact(qdc.1 h2).2
   rw[yuf,hch];simp only[if_true,hper];rw[qcr];exact zpt hg hk om (hc.step w) rfl hgo
end
section
open Go.RowKit
theorem Con.toN{P:Program}{f:FuncId}{args:List AV}{x:Value}(h:Con P f args (.v x)):xjn P f args (.v x):=
 ⟨h.1,h.2.1,fun ok w us hg hok hus=>(h.2.2 ok w us hg hok hus).mono fun e w' ⟨u,h1,h2,h3⟩=>⟨u,h1,by cases h2;exact .v x,h3⟩⟩
theorem rinto_con(l:List ArcD)(o:List Bool)(hl:l.length<=262144)(ht:∀ a∈l,0<=a.2/\a.2 < o.length):Con prog 32 [ybd l,yfv o] (i64 (zay l o:Nat)):=by
 refine ze Tryz.func32 ntmps32 Tryz.results32 ?_;refine zY ?_;refine ybj (α:=Nat) (fun i=>[(6,i64 i),(5,i64 (zay (l.take i) o:Nat)),(0,ybd l),(1,yfv o)]) (fun _=>[]) (fun i=>l.length - i) (fun i=>i<=l.length) 0 om zs yag ?_;intro i hi;refine zY ?_;refine zj ?_ ?_ <;> intro q1
 .simp at q1;obtain⟨a,ha⟩:=ybk q1;have hat:=ht a (qab ha);obtain⟨B,to,rfl⟩:∃ (B:BitVec 32) (to:Nat),a=(B,(to:Int)):=⟨a.1,a.2.toNat,by rw[qef hat.1]⟩;obtain⟨b,hb⟩:=ybk (show to < o.length by simpa using hat.2);have hle:zay (l.take i) o<=i:=by unfold zay;exact qbp (qcu _ _) so
  have hs:zay (l.take (i+1)) o=zay (l.take i) o+if b=true then 1 else 0:=by
   unfold zay;rw[yao ha,qcn,qan];cases b <;> simp[hb]
  refine zY ?_;refine zj ?_ ?_ <;> intro q2
  .have q2:b=true:=q2;rw[if_pos q2]at hs;refine zY ?_;refine rnd (i+1) om om ?_ yag;rw[hs];exact zs
  have q2:b=false:=q2;rw[if_neg (by rw[q2];simp)]at hs;refine zY ?_;refine rnd (i+1) om om ?_ yag;rw[hs];exact zs
 simp at q1;obtain rfl:i=l.length:=by omega
 rw[qaw];exact zkp
theorem rbegin19_con(h:SpcOk s)(L:List Bool)(hl:L.length=s.length):Con prog 31 [yjw s,yfv L] (i64 0):=by
 have hv:=rspvalid_con h;have e1:(s.map (·.1)).length=s.length:=qai ..;refine ze Tryz.func31 ntmps31 Tryz.results31 ?_;refine zZ ?_;refine zj ?_ ?_ <;> intro q
 .simp at q;omega
 exact zkp
theorem rany_con(l:List Bool)(hl:l.length<=1000000):Con prog 8 [yfv l] (yau (l.any id)):=by
 refine ze Tryz.func8 ntmps8 Tryz.results8 ?_;refine zY ?_;refine ybj (α:=Nat) (fun i=>[(3,i64 i),(0,yfv l)]) (fun _=>[]) (fun i=>l.length - i) (fun i=>i<=l.length/\(l.take i).any id=false) 0 ⟨om,rfl⟩ zs yag ?_;rintro i ⟨hi,hn⟩;refine zY ?_;refine zj ?_ ?_ <;> intro q1
 .simp at q1;obtain⟨b,hb⟩:=ybk q1;refine zY ?_;refine zj ?_ ?_ <;> intro q2
  .have q2:b=true:=q2;refine zk ?_;exact yae (by rw[eq_comm,List.any_eq_true];exact⟨b,qab hb,q2⟩)
  have q2:b=false:=q2;refine zY ?_;exact rnd (i+1) ⟨om,by rw[yao hb,List.any_append,hn];simp[q2]⟩ om zs yag
 simp at q1;obtain rfl:i=l.length:=by omega
 rw[qaw]at hn;refine zk ?_;exact yae hn.symm
theorem zpr{h:Nat->Option LObj}{id:Nat}{l:List Bool}(hx:h id=some (.vec (l.map yau)))(hn:n=l.length):Frz h (.ls id 1 n) (yfv l):=by
 subst hn;exact Frz.ls (rows:=l.map fun z=>[yau z]) (by rw[hx];rfl) sm (by intro r hr;obtain⟨z,_,rfl⟩:=qag.1 hr;rfl) (ydq l) (by intro x hx i;obtain⟨z,_,rfl⟩:=qag.1 hx;rfl)
theorem rcore_con(h:SpcOk s)(L:List Bool)(hl:L.length=s.length):Con prog 7 [yjw s,yfv L] (.tup [yfv (zgy s L),i64 0]):=by
 have hbg:=rbegin19_con h L hl;obtain⟨h1,h2,h3,h4⟩:=h;refine ze Tryz.func7 ntmps7 Tryz.results7 ?_;refine zZ ?_;refine zcr 7 60 1 rfl rfl rfl ?_;refine ybw (α:=Nat) (fun k=>[(8,i64 k),(7,.ls 60 1 k),(2,.lp 2 0),(1,yfv L)]) (fun k=>[(60,some (.vec ((L.take k).map fun b=>yau !b))),(2,some (xar s))]) (fun k=>L.length - k) (fun k=>k<=L.length) 0 om zs (yah (yab rfl (yab rfl yag))) ?_;intro k hk;refine zY ?_;refine zj ?_ ?_ <;> intro q1
 .simp at q1;obtain⟨b,hb⟩:=ybk q1
  (repeat (first|refine zy ?_|refine ydy tok rfl rfl rfl so rfl (by simp[yas]) so rfl rfl rfl rfl rfl ?_))
  refine yhi (k+1) om om zs (yah (yab ?_ (yab rfl yag)));show some _=some _;rw[yao hb];simp;rfl
 simp at q1;obtain rfl:k=L.length:=by omega
 rw[qaw]
 (repeat (first|with_reducible refine yeo ?_|with_reducible refine ycy ?_|refine ydu ?_|refine ype ?_))
 have hR:ysw s (zth (L.map fun b=>!b)+1) (L.map fun b=>!b)=zgy s L:=by
  have:=cntT_le (L.map fun b=>!b);rw[qai]at this;exact yqi om om
 refine zt ?_;refine zY ?_;have hto:∀ (k:Nat) (x:BitVec 32 × List ArcD),s[k]?=some x->∀ a∈x.2,0<=a.2/\a.2 < s.length:=fun k x hx a ha=>by
  obtain⟨i,hi⟩:=qao ha;exact((h4 x (qab hx)).grow i a hi).2.2.2
 refine ybw (α:=List Bool × Bool) (fun q=>[(9,yau q.2),(7,.ls 60 1 s.length),(2,.lp 2 0)]) (fun q=>[(60,some (.vec (q.1.map yau))),(2,some (xar s))]) (fun q=>2 * zth q.1+if q.2=true then 1 else 0) (fun q=>q.1.length=s.length/\(q.2=true->ysw s (zth q.1+1) q.1=zgy s L)/\(q.2=false->q.1=zgy s L)) (L.map fun b=>!b,true) ⟨by simp[hl],fun _=>hR,fun e=>(by cases e)⟩ (by rw[<- hl];exact zs) (yah (yab ?_ (yab rfl yag))) ?_
 .show some _=some _;rw[qen];rfl
 rintro⟨o,ch⟩ ⟨hol,hq1,hq2⟩;simp only at hol hq1 hq2 ⊢;refine zY ?_;refine zj ?_ ?_ <;> intro c1
 .have c1:ch=true:=c1;subst c1;have hco:=hq1 rfl;rw[ysw]at hco;refine zY ?_;refine ybw (α:=Nat × List Bool × Bool) (fun q=>[(10,i64 q.1),(9,yau q.2.2),(7,.ls 60 1 s.length),(2,.lp 2 0)]) (fun q=>[(60,some (.vec (q.2.1.map yau))),(2,some (xar s))]) (fun q=>s.length - q.1) (fun q=>q.1<=s.length/\PassOk o q.2/\yyx s (s.length - q.1) q.1 q.2=yyx s o.length 0 (o,false)) (0,o,false) ⟨om,xiz o,by rw[hol];rfl⟩ zs (yah (yab rfl (yab rfl yag))) ?_;rintro⟨k,o',ch⟩ ⟨hk',hP,hF⟩;simp only at hk' hP hF ⊢;have hol':o'.length=s.length:=by have:=hP.len;simp only at this;omega
  refine zY ?_;refine zj ?_ ?_ <;> intro c2
  .simp at c2;obtain⟨m,hm⟩:∃ m,s.length - k=m+1:=⟨s.length - k - 1,om⟩;rw[hm,yyx]at hF;obtain⟨x,hx⟩:=ybk c2;obtain⟨b,hb⟩:=ybk (show k < o'.length by omega);have hbg:(o'.map yau)[k]?=some (yau b):=by rw[qak,hb];rfl
   have hxl:x.2.length<=262144:=by have:=ykg hx;have:=yrl s (k+1);omega
   have hin:=(rinto_con x.2 o' hxl (fun a ha=>by rw[hol'];exact hto k x hx a ha)).toN;have hPs:=hP.step (s:=s) k;have hpk:zml s k (o',ch)=if b && (!x.2.isEmpty && zay x.2 o' == 0)then(o'.set k false,true)else(o',ch):=by
    simp only[zml,qac,hb,qbu,ynp hx]
   (repeat (first|refine zy ?_|refine yat tok rfl rfl rfl rfl om om rfl rfl ?_|refine ydp (r:=yau b) tok rfl rfl rfl rfl (by rw[show ((k:Int).toNat * 1)=k by simp];exact hbg) rfl rfl ?_))
   have skip:(b && (!x.2.isEmpty && zay x.2 o' == 0))=false->zml s k (o',ch)=(o',ch):=fun e=>by rw[hpk,e];rfl
   refine yaj 42 rfl (fun g1=>?_) (fun g1=>?_)
   .have g1:b=true:=g1;refine zY ?_;refine yaj 51 rfl (fun g2=>?_) (fun g2=>?_)
    .have g2:x.2.isEmpty=false:=by
      simp at g2;cases hxx:x.2 with
      | nil=>rw[hxx]at g2;simp at g2
      | cons _ _=>rfl
     have hfz:zsp (yac [(60,some (LObj.vec (o'.map yau))),(2,some (xar s))]) [ybd x.2,.ls 60 1 s.length] [ybd x.2,yfv o']:=zsp.cons Frz.pure (zsp.cons (zpr rfl hol'.symm) zsp.nil)
     (repeat (first|refine zy ?_|refine zta [ybd x.2,yfv o'] hin rfl rfl hfz rfl rfl ?_))
     refine zj ?_ ?_ <;> intro g3
     .have g3:zay x.2 o'=0:=by simp at g3;omega
      have hpq:zml s k (o',ch)=(o'.set k false,true):=by rw[hpk,g1,g2,g3];rfl
      rw[hpq]at hF hPs
      (repeat (first|refine zy ?_|refine yat tok rfl rfl rfl rfl om om rfl rfl ?_))
      refine ygo tok rfl rfl rfl rfl rfl rfl so rfl (congrArg (fun z=>yac ((60,some (LObj.vec z))::_)) (show _=(o'.set k false).map yau by rw[show ((k:Int).toNat * 1)=k by simp,qdx];rfl)) rfl rfl ?_;refine zY ?_;exact yhi (k+1,o'.set k false,true) ⟨by simp only;omega,hPs,by simp only;rw[show s.length - (k+1)=m by omega];exact hF⟩ (by simp only;omega) zs (yah (yab rfl (yab rfl yag)))
     have g3:zay x.2 o'≠0:=by simp at g3;omega
     rw[skip (by simp[g3])]at hF;refine zY ?_;exact yhi (k+1,o',ch) ⟨by simp only;omega,hP,by simp only;rw[show s.length - (k+1)=m by omega];exact hF⟩ (by simp only;omega) zs (hsE rfl)
    have g2:x.2.isEmpty=true:=by
     simp at g2;cases hxx:x.2 with
     | nil=>rfl
     | cons _ _=>rw[hxx]at g2;simp at g2
    rw[skip (by simp[g2])]at hF;refine zY ?_;exact yhi (k+1,o',ch) ⟨by simp only;omega,hP,by simp only;rw[show s.length - (k+1)=m by omega];exact hF⟩ (by simp only;omega) zs (hsE rfl)
   have g1:b=false:=g1;rw[skip (by simp[g1])]at hF;refine zY ?_;exact yhi (k+1,o',ch) ⟨by simp only;omega,hP,by simp only;rw[show s.length - (k+1)=m by omega];exact hF⟩ (by simp only;omega) zs (hsE rfl)
  simp at c2;obtain rfl:k=s.length:=by omega
  rw[qbm,yyx]at hF
  (repeat (first|with_reducible refine yeo ?_|with_reducible refine ycy ?_|refine ydu ?_|refine ype ?_))
  rw[<- hF]at hco;cases ch with
  | true=>
   have hlt:=hP.ch rfl;simp only at hlt;simp only[if_true]at hco;have hN:ysw s (zth o'+1) o'=zgy s L:=by rw[<- hco];exact yqi om om
   exact yhi (Q:=fun _ _=>True) (o',true) ⟨hol',fun _=>hN,fun e=>(by cases e)⟩ (by simp only[if_true];omega) zs (hsE rfl)
  | false=>
   have he:=hP.no rfl;simp only at he;subst he;exact yhi (Q:=fun _ _=>True) (o',false) ⟨hol',fun e=>(by cases e),fun _=>hco⟩ (by simp only;simp) zs (hsE rfl)
 have c1:ch=false:=c1;subst c1;have he:=hq2 rfl;refine zk ?_;rw[<- he];exact Frz.tup2 (zpr rfl hol.symm) Frz.pure
end
section
open Go.RowKit
abbrev TL:=List (Nat × AV)
abbrev HL:=List (Nat × Option LObj)
def ynq(p:AV->Bool):List Nat->TL->TL
 | _,[]=>[]
 | seen,(s,x)::r=>match ykc s seen with
  | true=>ynq p seen r
  | false=>match p x with
   | true=>(s,x)::ynq p (s::seen) r
   | false=>ynq p (s::seen) r
theorem zdf{p:AV->Bool}:∀ {t:TL} {seen:List Nat} {s:Nat} {x:AV},(s,x)∈ynq p seen t->ykc s seen=false/\yak t s=some x
 | [],seen,s,x,h=>by simp[ynq]at h
 | (k,y)::r,seen,s,x,h=>by
  simp only[ynq]at h;split at h
  .rename_i hm;obtain⟨h1,h2⟩:=zdf h;refine⟨h1,?_⟩;simp only[yak];cases hb:Nat.beq s k with
   | true=>rw[qaf hb,hm]at h1;cases h1
   | false=>exact h2
  rename_i hm;have key:(s,x)∈ynq p (k::seen) r->ykc s seen=false/\yak ((k,y)::r) s=some x:=fun h=>by
   obtain⟨h1,h2⟩:=zdf h;simp only[ykc]at h1;cases hb:Nat.beq s k with
   | true=>rw[hb]at h1;cases h1
   | false=>rw[hb]at h1;exact⟨h1,by simp only[yak,hb];exact h2⟩
  split at h
  .rcases qaq.1 h with e|h
   .cases e;exact⟨hm,by simp[yak]⟩
   exact key h
  exact key h
theorem zze{t:TL}:∀ {l:TL},(∀ s x,(s,x)∈l->yak t s=some x)->zap t l
 | [],_=>trivial
 | (s,x)::l,h=>⟨h s x qbe,zze fun s' x' hm=>h s' x' (qap _ hm)⟩
theorem zhz(p:AV->Bool)(t:TL):zap t (ynq p [] t):=zze fun s x h=>(zdf h).2
def ylo(p:Nat->LObj->Bool):List Nat->HL->HL
 | _,[]=>[]
 | seen,(s,x)::r=>match ykc s seen with
  | true=>ylo p seen r
  | false=>match x with
   | none=>ylo p (s::seen) r
   | some o=>match p s o with
    | true=>(s,some o)::ylo p (s::seen) r
    | false=>ylo p (s::seen) r
theorem yqh{p:Nat->LObj->Bool}:∀ {t:HL} {seen:List Nat} {s:Nat} {x:Option LObj},(s,x)∈ylo p seen t->ykc s seen=false/\yac t s=x
 | [],seen,s,x,h=>by simp[ylo]at h
 | (k,y)::r,seen,s,x,h=>by
  simp only[ylo]at h;split at h
  .rename_i hm;obtain⟨h1,h2⟩:=yqh h;refine⟨h1,?_⟩;simp only[yac];cases hb:Nat.beq s k with
   | true=>rw[qaf hb,hm]at h1;cases h1
   | false=>exact h2
  rename_i hm;have key:(s,x)∈ylo p (k::seen) r->ykc s seen=false/\yac ((k,y)::r) s=x:=fun h=>by
   obtain⟨h1,h2⟩:=yqh h;simp only[ykc]at h1;cases hb:Nat.beq s k with
   | true=>rw[hb]at h1;cases h1
   | false=>rw[hb]at h1;exact⟨h1,by simp only[yac,hb];exact h2⟩
  split at h
  .exact key h
  split at h
  .rcases qaq.1 h with e|h
   .cases e;exact⟨hm,by simp[yac]⟩
   exact key h
  exact key h
theorem zzd{t:HL}:∀ {l:HL},(∀ s x,(s,x)∈l->yac t s=x)->yxr t l
 | [],_=>trivial
 | (s,x)::l,h=>⟨fun o ho=>by rw[h s x qbe,ho],zzd fun s' x' hm=>h s' x' (qap _ hm)⟩
theorem zhy(p:Nat->LObj->Bool)(t:HL):yxr t (ylo p [] t):=zzd fun s x h=>(yqh h).2
def zaz(d:Nat)(t:TL):TL:=ynq (fun x=>!ment d x) [] t
def zuc(d:Nat)(h:HL):HL:=ylo (fun i o=>!Nat.beq d i && !yew d o) [] h
theorem zmi(d:Nat)(t:TL)(h:HL):Sub (S (zaz d t) (zuc d h)) (S t h):=⟨ycd (zhz _ t),yah (zhy _ h)⟩
section
variable{P:Program}{T:Nat->Option Ty}{N:Nat}{ops:Array Oper}{lf:Oper->Bool}{Q:SS->Prop}{t:TL}{h:HL}{rest:List Oper}{op:Op}{ty:TypeId}{pos:String}{af:Array Edge}{gd:Option (Nat × Bool)}{r:AV}
theorem ybp.pre{o:Oper}{s s1:SS}{R:SS->Prop}(h:ybp P N o s1 R)(hs:Sub s1 s):ybp P N o s R:=fun B ok0 lv a w hi Q=>by
 obtain⟨lv',hi'⟩:=hi.weak hs;exact h B ok0 lv' a w hi' Q
def xmu(T:Nat->Option Ty)(t:TL)(h:HL)(ti:Nat)(x y:Operand):Option AV:=
 match T ti with
 | some ⟨.slc _ es _ _ _,_,_,_⟩=>match evF (yak t) y with
  | some (.v (.int _ (.ofNat m)))=>match evF (yak t) x with
   | some (.sl es' rows)=>match Nat.beq es' es with
    | true=>match rows[m]? with
     | some row=>some (.dp row 0)
     | none=>none
    | false=>none
   | some (.ls id es' len)=>match Nat.beq es' es && Nat.blt m len with
    | true=>match yac h id with
     | some _=>some (.lp id (m * es))
     | none=>none
    | false=>none
   | _=>none
  | _=>none
 | _=>none
theorem idxC_ok(hT:TOK P T){ti:Nat}{x:Operand}(hr:xmu T t h ti x y=some r):ybu P (yac h) (evF (yak t)) (.indexAddr ti x y) ty r:=by
 unfold xmu at hr;split at hr
 .rename_i e es ea eb ez sz ag z hk;split at hr
  .rename_i k m hy;split at hr
   .rename_i es' rows hx;split at hr
    .rename_i hb;split at hr
     .rename_i row hrow;simp only[Option.some.injEq]at hr;subst hr;obtain rfl:=qaf hb;exact ynl (hT _ _ hk).2.2 hx hy sm (by simpa using hrow)
     cases hr
    cases hr
   .rename_i id es' len hx;split at hr
    .rename_i hb;simp only[qad]at hb;split at hr
     .rename_i ob hh;simp only[Option.some.injEq]at hr;subst hr;obtain rfl:=qaf hb.1;exact yts (hT _ _ hk).2.2 hx hh hy sm (by simpa using hb.2)
     cases hr
    cases hr
   cases hr
  cases hr
 cases hr
end
end
end Go.Proofs.YtgpodcjhgdionaaGreatDoor
