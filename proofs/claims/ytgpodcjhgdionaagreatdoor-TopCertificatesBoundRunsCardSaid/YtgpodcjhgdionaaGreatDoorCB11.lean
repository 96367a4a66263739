/- Part 11 of the texts under TopCertificatesBoundRuns. -/
import Derived.Test.YtgpodcjhgdionaaGreatDoorCB4
import Derived.Test.YtgpodcjhgdionaaGreatDoorCB6
import Derived.Test.YtgpodcjhgdionaaGreatDoorCB7
import Derived.Test.YtgpodcjhgdionaaGreatDoorCB8
import Derived.Test.YtgpodcjhgdionaaGreatDoorCB9
import Derived.Test.YtgpodcjhgdionaaGreatDoorCB10
set_option linter.unusedVariables false
set_option maxRecDepth 100000
set_option maxHeartbeats 8000000
namespace Go.Proofs.YtgpodcjhgdionaaGreatDoor
open Go.Proofs.Tryz
variable {x y:Operand} {B C:BitVec 32} {c:List (List Int)} {p:ProgD} {g:GraphD} {r:List (Int × Int)} {q:Prop} {k':IntKind} {lv:Live} {w:World} {v k:Nat} {e:List Tm} {op:Int} {a:Act}
section
open Go.RowKit
theorem tend_con (l:List Tm) (k:Nat) (E:Ex) (r:List Tm) (hl:l.length<=1000) (hk:k<=1000) (hE:l.drop k=E.fl++r) (ho:E.ok):Con prog 163 [ybk l,i64 k] (i64 ((k+E.fl.length:Nat):Int)):=
 yge ⟨_,Tryz.func163,rfl,rfl⟩ fun w us ok hok hr=>by
  obtain ⟨u,v,rfl,h1,h2⟩:=yzh hr;cases h2;have e:yva 1 k l=((k+E.fl.length:Nat):Int):=by
   unfold yva;rw [hE,zse E ho 0 r,yqo];simp
  rw [<- e];exact (zoe u l k w hl (Lib.hid (yka h1 hok)) hk).mono fun e w' ⟨h1,h2⟩=>⟨h1,h2 ▸ Below.refl _ _⟩
theorem ypb {α:Type} {l:List α} {t:α} {r:List α} (h:l.drop k=t::r):l[k]?=some t/\l.drop (k+1)=r/\k < l.length:=by
 have h1:l[k]?=some t:=by
  have:=congrArg (fun l=>l[0]?) h;simpa using this
 exact ⟨h1,by rw [<- qhv,h];rfl,(qaa.1 h1).1⟩
theorem yyo {α:Type} {l:List α} {a r:List α} (h:l.drop k=a++r):l.drop (k+a.length)=r:=by
 rw [<- qfq,h,List.drop_left]
structure WalkOk (p:ProgD) (g:GraphD) (c:List (List Int)) (v:Nat) (ls:List Lk) (e:List Tm) (n:Int):Prop where
 hg:ych g=true
 hls:g.ports[v]?=some ls
 hc:c.length=g.ports.length
 hr:∀ r∈c,n<=r.length
 he:e.length<=1000
 ha:∀ t∈e,yuz n t=true
 ok:ScnOk ⟨g,c,v⟩
theorem zke {n:Int} {t:Tm} (h:yuz n t=true):t.1=5\/t.1=12->0<=t.2/\t.2 < n:=by
 intro ht;unfold yuz at h;rcases ht with e|e <;> simp [e] at h <;> omega
theorem wagg_con {ls:List Lk} {n:Int} (W:WalkOk p g c v ls e n) (t:Tm) (a:Ex) (k:Nat) (r:List Tm) (hE:e.drop k=t::(a.fl++r)) (ht:20<=t.1/\t.1<=29) (hoa:a.ok) (hin:∀ j:Nat,j < ls.length->InV ((⟨g,c,v⟩:Scn).val j a)) (H:∀ j:Nat,j < ls.length->Con prog 169 [ztv p g c v e,i64 ((k:Int)+1),i64 j] (.tup [i64 ((⟨g,c,v⟩:Scn).val j a),i64 ((k+1+a.fl.length:Nat):Int)])):
  Con prog 221 [ztv p g c v e,i64 t.1,i64 k] (.tup [i64 (zsf t.1 ((List.range ls.length).map fun j:Nat=>(⟨g,c,v⟩:Scn).val j a)),i64 ((k+1+a.fl.length:Nat):Int)]):=by
 have hv:=yba W.hg;have hls:=W.hls;have hvl:=(qaa.1 hls).1;have hlb:=hv.2.2.2.2.2.1 v ls hls;have hll:=ydb hvl hlb;have hll24:ls.length<=24:=(W.ok.links ls (qab hls)).1;have he:=W.he;obtain ⟨hk1,hk2,hk3⟩:=ypb hE;have hk4:k+1+a.fl.length<=e.length:=by
  have:=congrArg List.length hk2;rw [qcw,qao] at this;omega
 let f:Nat->Int:=fun j=>(⟨g,c,v⟩:Scn).val j a
 refine ze Tryz.func221 ntmps221 Tryz.results221 ?_;refine zY ?_;refine ybl (α:=Nat) (fun j=>[(27,i64 j),(26,i64 ls.length),(9,i64 ls.length),(8,.lp 8 0),(7,i64 (if j=0 then 0 else ((k+1+a.fl.length:Nat):Int))),(0,ztv p g c v e),(1,i64 t.1),(2,i64 k)]) (fun j=>[(8,some (.cells ((yvg f 24 j).map i64)))]) (fun j=>ls.length - j) (fun j=>j<=ls.length) 0 om zs zh ?_;intro j hj;refine zY ?_;refine zj ?_ ?_ <;> intro h
 .simp at h
  (repeat (first|refine zy ?_|refine zc (H j h) ?_))
  refine yku tok rfl rfl (by rw [yaz];rfl) (by intro h0;have:=congrArg List.length h0;simp [yyc (show j<=24 by omega)] at this) rfl om om rfl rfl ?_;refine zuc tok rfl rfl rfl rfl rfl yaz (by simp [yyc (show j<=24 by omega)];omega) rfl rfl ?_;refine xft (h':=[(8,some (.cells ((yvg f 24 (j+1)).map i64)))]) ?_ ?_
  .rw [yic,show (0+(j:Int).toNat * 1)=j by simp];have:=xao (f:=f) (show j < 24 by omega);rw [<- this]
  refine zY ?_;exact rnd (j+1) om om zs zh
 simp at h;obtain rfl:j=ls.length:=by omega
 refine zY ?_;refine yvc [(9,i64 ls.length),(8,.lp 8 0),(7,i64 ((k+1+a.fl.length:Nat):Int)),(0,ztv p g c v e),(1,i64 t.1),(2,i64 k)] [(8,some (.cells ((yvg f 24 ls.length).map i64)))] ?_ ?_
 .refine zj ?_ ?_ <;> intro h0
  .simp at h0
   (repeat (first|refine zy ?_|refine zc (tend_con e k (.un t a) r he om (by rw [hE];rfl) ⟨by unfold ar;rw [if_neg om,if_neg om,if_pos om],hoa⟩) ?_))
   refine mid ?_ zh;refine yas rfl (yas rfl (yas (yfx rfl (yof ?_)) zs));simp [Ex.fl];omega
  have h0:¬ ls=[]:=by simpa using h0
  refine zY ?_;refine mid ?_ zh;refine yas rfl (yas rfl (yas (yfx rfl (yof ?_)) zs));rw [if_neg (by intro e9;exact h0 (List.length_eq_zero_iff.1 e9))]
 refine zt ?_;refine A_freezeBoxS 8 rfl (zjd _) rfl rfl ?_;have hlen:((List.range ls.length).map f).length=ls.length:=by simp
 (repeat (first|refine zy ?_|refine L_arrslice tok rfl rfl rfl (by simp [yyc hll24]) dc om om rfl rfl ?_|refine ymj 51 (y:=yah ((List.range ls.length).map f)) rfl (by rw [qct,arr_take];rfl) ?_|refine zc (efold_con t.1 ((List.range ls.length).map f) ht (by rw [hlen];omega) (fun x hx=>by obtain ⟨j,hj,rfl⟩:=qag.1 hx;exact hin j (qca.1 hj))) ?_))
 refine zr ?_;exact Frz.tup2 (yaf rfl) (yaf rfl)
end
section
open Go.RowKit
def zoz:Ex->List Ex
 | .lf _=>[]
 | .un _ a=>[a]
 | .bi _ a b=>[a,b]
 | .tr _ a b c=>[a,b,c]
def hd:Ex->Tm
 | .lf t=>t
 | .un t _=>t
 | .bi t _ _=>t
 | .tr t _ _ _=>t
theorem ypq (kinds:List Int) (hk:ygx kinds=true) (bound:Bool) (E A:Ex) (h:E.ok) (hA:A∈zoz E) (ht:ty kinds bound E≠0):ty kinds (bound || ykg (hd E).1) A≠0:=by
 cases E with
 | lf t=>simp [zoz] at hA
 | un t a=>
  simp only [zoz,qaq] at hA;subst hA;exact (xha _ _).2.2 ht
 | bi t a b=>
  have hg:ykg t.1=false:=ytg (by have:=h.1;omega);simp only [hd,hg,qdv];have:=(xhb _ _ _).2.2 ht;simp only [zoz,qas,qdu,or_false] at hA;rcases hA with rfl|rfl
  .exact this.1
  exact this.2
 | tr t a b c=>
  have hg:ykg t.1=false:=ytg (by have:=h.1;omega);simp only [hd,hg,qdv];have:=(xhc _ _ _ (ty_bd kinds hk b bound)).2.2 ht;simp only [zoz,qas,qdu,or_false] at hA;rcases hA with rfl|rfl|rfl
  .exact this.1
  .exact this.2.1
  exact this.2.2
end
section
open Go.RowKit
theorem xmk (h:ar op=0):1<=op/\op<=17:=by unfold ar at h;repeat' split at h <;> omega
theorem xml (h:ar op=1):18<=op/\op<=29:=by unfold ar at h;repeat' split at h <;> omega
theorem xmm (h:ar op=2):30<=op/\op<=42:=by unfold ar at h;repeat' split at h <;> omega
theorem xmn (h:ar op=3):op=43:=by unfold ar at h;repeat' split at h <;> omega
theorem yqh:ykg op=true<->20<=op/\op<=29:=by simp [ykg]
theorem yei {a r:List Tm} (h:e.drop k=a++r):∀ t∈a,t∈e:=fun t ht=>by
 have:t∈e.drop k:=by rw [h];simp [ht]
 exact qdn this
theorem zlw {ls:List Lk} {n:Nat} (h:ls.length<=24) {j:Nat} (hj:j < ls.length):InV (j:Int):=by unfold InV yeu;omega
theorem yna {p:ProgD} {g:GraphD} {c:List (List Int)} {v:Nat} {ls:List Lk} {e:List Tm} {n:Int} (W:WalkOk p g c v ls e n) {kinds:List Int} (hk:ygx kinds=true):∀ (E:Ex),E.ok->∀ (k:Nat) (r:List Tm) (b:Bool) (port:Int),e.drop k=E.fl++r->ty kinds b E≠0->InV port->(b=true->0<=port/\port < ls.length) ->
  Con prog 169 [ztv p g c v e,i64 k,i64 port] (.tup [i64 ((⟨g,c,v⟩:Scn).val port E),i64 ((k+E.fl.length:Nat):Int)])
 | .lf t,ho,k,r,b,port,hE,ht,hp,hb=>by
  obtain ⟨hk1,hk2,hk3⟩:=ypb (show e.drop k=t::r from hE);have he:=W.he;have h17:=xmk ho;have hnear:12<=t.1->0<=port/\port < ls.length:=fun h12=>hb (by
   cases b with
   | true=>rfl
   | false=>exact absurd (by simp only [ty];simp [zgw,h17.2];omega) ht)
  have hm:t∈e:=qab hk1;refine ze Tryz.func169 ntmps169 Tryz.results169 ?_;refine zY ?_;refine zj ?_ ?_ <;> intro h
  ·(repeat (first|refine zy ?_|refine zc (wleaf_con p g W.hg c e v ls W.hls t port h17 hnear W.hc (fun hx=>⟨(zke (W.ha t hm) hx).1,fun r hr=>by have:=(zke (W.ha t hm) hx).2;have:=W.hr r hr;omega⟩)) ?_))
   refine zr ?_;exact Frz.tup2 (yaf rfl) (yaf (by simp [Ex.fl]))
  exact absurd (by simpa using h) om
 | .un t a,ho,k,r,b,port,hE,ht,hp,hb=>by
  obtain ⟨hk1,hk2,hk3⟩:=ypb (show e.drop k=t::(a.fl++r) from hE);have he:=W.he;have h17:=xml ho.1;have hlen:(Ex.un t a).fl.length=1+a.fl.length:=by simp [Ex.fl];omega
  have hka:=ypq kinds hk b (.un t a) a ho (by simp [zoz]) ht;have hd24:ls.length<=24:=(W.ok.links ls (qab W.hls)).1;have hdeg:(⟨g,c,v⟩:Scn).deg=ls.length:=by simp [Scn.deg,W.hls]
  refine ze Tryz.func169 ntmps169 Tryz.results169 ?_;refine zY ?_;refine zj ?_ ?_ <;> intro q1
  .exact absurd (by simpa using q1) (show ¬ t.1<=17 by omega)
  refine zY ?_;refine zj ?_ ?_ <;> intro q2
  .have hna:ykg t.1=false:=by cases h:ykg t.1 with
    | false=>rfl
    | true=>exact absurd (yqh.1 h).1 (by simp at q2;omega)
   have ih:=yna W hk a ho.2 (k+1) r b port hk2 (by simpa [hd,hna] using hka) hp hb;rw [show ((k+1:Nat):Int)=(k:Int)+1 by omega] at ih;have hin:InV ((⟨g,c,v⟩:Scn).val port a):=ypw W.ok a (fun x hx=>W.ha x (yei hk2 x hx)) hp
   (repeat (first|refine zz ?_|refine zc (eun_con _ _ hin) ?_))
   refine zr ?_;exact Frz.tup2 (yaf (by simp only [Scn.val];rw [if_neg (by simp [hna])])) (yaf (by rw [hlen];omega))
  refine zY ?_;have q2:¬ t.1<=19:=by simpa using q2
  refine zj ?_ ?_ <;> intro q3
  .have hag:ykg t.1=true:=yqh.2 om;have hka:ty kinds true a≠0:=by simpa [hd,hag] using hka
   have H:∀ j:Nat,j < ls.length->Con prog 169 [ztv p g c v e,i64 ((k:Int)+1),i64 j] (.tup [i64 ((⟨g,c,v⟩:Scn).val j a),i64 ((k+1+a.fl.length:Nat):Int)]):=fun j hj=>by
    have ih:=yna W hk a ho.2 (k+1) r true (j:Int) hk2 hka (zlw (n:=0) hd24 hj) (fun _=>⟨om,om⟩)
    rwa [show ((k+1:Nat):Int)=(k:Int)+1 by omega] at ih
   have hin:∀ j:Nat,j < ls.length->InV ((⟨g,c,v⟩:Scn).val j a):=fun j hj=>ypw W.ok a (fun x hx=>W.ha x (yei hk2 x hx)) (zlw (n:=0) hd24 hj)
   (repeat (first|refine zy ?_|refine zc (wagg_con W t a k r hE om ho.2 hin H) ?_))
   refine zr ?_;exact Frz.tup2 (yaf (by simp only [Scn.val];rw [if_pos hag,hdeg])) (yaf (by rw [hlen];omega))
  exact absurd (by simpa using q3) (show ¬ ¬ t.1<=29 by omega)
 | .bi t a d,ho,k,r,b,port,hE,ht,hp,hb=>by
  obtain ⟨hk1,hk2,hk3⟩:=ypb (show e.drop k=t::(a.fl++(d.fl++r)) by rw [hE];simp [Ex.fl]);have he:=W.he;have h17:=xmm ho.1;have hna:ykg t.1=false:=by cases h:ykg t.1 with|false=>rfl|true=>have:=yqh.1 h;omega
  have hlen:(Ex.bi t a d).fl.length=1+a.fl.length+d.fl.length:=by simp [Ex.fl];omega
  have hka:=ypq kinds hk b (.bi t a d) a ho (by simp [zoz]) ht;have hkd:=ypq kinds hk b (.bi t a d) d ho (by simp [zoz]) ht;simp only [hd,hna,qdv] at hka hkd;have hk4:=yyo hk2;have ih1:=yna W hk a ho.2.1 (k+1) _ b port hk2 hka hp hb;have ih2:=yna W hk d ho.2.2 (k+1+a.fl.length) r b port hk4 hkd hp hb;rw [show ((k+1:Nat):Int)=(k:Int)+1 by omega] at ih1;have hin1:InV ((⟨g,c,v⟩:Scn).val port a):=ypw W.ok a (fun x hx=>W.ha x (yei hk2 x hx)) hp;have hin2:InV ((⟨g,c,v⟩:Scn).val port d):=ypw W.ok d (fun x hx=>W.ha x (yei hk4 x hx)) hp;refine ze Tryz.func169 ntmps169 Tryz.results169 ?_;refine zY ?_;refine zj ?_ ?_ <;> intro q1
  .exact absurd (by simpa using q1) (show ¬ t.1<=17 by omega)
  refine zY ?_;refine zj ?_ ?_ <;> intro q2
  .exact absurd (by simpa using q2) (show ¬ t.1<=19 by omega)
  refine zY ?_;refine zj ?_ ?_ <;> intro q3
  .exact absurd (by simpa using q3) (show ¬ t.1<=29 by omega)
  refine zY ?_;refine zj ?_ ?_ <;> intro q4
  ·(repeat (first|refine zz ?_|refine zc (ebin_con _ _ _ hin1 hin2) ?_))
   refine zr ?_;exact Frz.tup2 (yaf (by simp only [Scn.val];exact biP_eq h17)) (yaf (by rw [hlen];omega))
  exact absurd (by simpa using q4) (show ¬ ¬ t.1<=42 by omega)
 | .tr t a d f,ho,k,r,b,port,hE,ht,hp,hb=>by
  obtain ⟨hk1,hk2,hk3⟩:=ypb (show e.drop k=t::(a.fl++(d.fl++(f.fl++r))) by rw [hE];simp [Ex.fl]);have he:=W.he;have h17:=xmn ho.1;have hna:ykg t.1=false:=by cases h:ykg t.1 with|false=>rfl|true=>have:=yqh.1 h;omega
  have hlen:(Ex.tr t a d f).fl.length=1+a.fl.length+d.fl.length+f.fl.length:=by simp [Ex.fl];omega
  have hka:=ypq kinds hk b (.tr t a d f) a ho (by simp [zoz]) ht;have hkd:=ypq kinds hk b (.tr t a d f) d ho (by simp [zoz]) ht;have hkf:=ypq kinds hk b (.tr t a d f) f ho (by simp [zoz]) ht;simp only [hd,hna,qdv] at hka hkd hkf;have hk4:=yyo hk2;have hk5:=yyo hk4;have ih1:=yna W hk a ho.2.1 (k+1) _ b port hk2 hka hp hb;have ih2:=yna W hk d ho.2.2.1 (k+1+a.fl.length) _ b port hk4 hkd hp hb;have ih3:=yna W hk f ho.2.2.2 (k+1+a.fl.length+d.fl.length) r b port hk5 hkf hp hb;rw [show ((k+1:Nat):Int)=(k:Int)+1 by omega] at ih1;refine ze Tryz.func169 ntmps169 Tryz.results169 ?_;refine zY ?_;refine zj ?_ ?_ <;> intro q1
  .exact absurd (by simpa using q1) (show ¬ t.1<=17 by omega)
  refine zY ?_;refine zj ?_ ?_ <;> intro q2
  .exact absurd (by simpa using q2) (show ¬ t.1<=19 by omega)
  refine zY ?_;refine zj ?_ ?_ <;> intro q3
  .exact absurd (by simpa using q3) (show ¬ t.1<=29 by omega)
  refine zY ?_;refine zj ?_ ?_ <;> intro q4
  .exact absurd (by simpa using q4) (show ¬ t.1<=42 by omega)
  refine zZ ?_;refine zj ?_ ?_ <;> intro q5
  .refine zk ?_;exact Frz.tup2 (yaf (by simp only [Scn.val];rw [if_pos (by simpa using q5)])) (yaf (by rw [hlen];omega))
  refine zk ?_;exact Frz.tup2 (yaf (by simp only [Scn.val];rw [if_neg (by simpa using q5)])) (yaf (by rw [hlen];omega))
end
section
open Go.RowKit
def ybd (B:BitVec 32):AV:=.v (.int .u32 (B.toNat:Int))
theorem yig (B:BitVec 32):BitVec.ofInt 32 (B.toNat:Int)=B:=by
 apply qes;simp
theorem zcn (B:BitVec 32):IntKind.u32.wrap (B.toNat:Int)=(B.toNat:Int):=by
 have:=B.isLt;simp only [IntKind.wrap,IntKind.signed,IntKind.bits,qdx,if_false,qbl];omega
variable {P:Program} {T:Nat->Option Ty} {N:Nat} {ops:Array Oper} {lf:Oper->Bool} {Q:SS->Prop} {t:List (Nat × AV)} {h:List (Nat × Option LObj)} {rest:List Oper} {d:Nat} {op:Op} {ty:TypeId} {pos:String} {af:Array Edge} {gd:Option (Nat × Bool)} {r:AV}
theorem orU_val (B C:BitVec 32):Op.intBits .or .u32 (B.toNat:Int) (C.toNat:Int)=pure (.int .u32 ((B ||| C).toNat:Int)):=by
 have e1:BitVec.ofInt IntKind.u32.bits (B.toNat:Int)=B:=yig B;have e2:BitVec.ofInt IntKind.u32.bits (C.toNat:Int)=C:=yig C;unfold Op.intBits;simp only [e1,e2];exact congrArg (fun z=>pure (Value.int .u32 z)) (zcn (B ||| C))
theorem andNotU_val (B C:BitVec 32):Op.intBits .andNot .u32 (B.toNat:Int) (C.toNat:Int)=pure (.int .u32 ((B &&& ~~~C).toNat:Int)):=by
 have e1:BitVec.ofInt IntKind.u32.bits (B.toNat:Int)=B:=yig B;have e2:BitVec.ofInt IntKind.u32.bits (C.toNat:Int)=C:=yig C;unfold Op.intBits;simp only [e1,e2];exact congrArg (fun z=>pure (Value.int .u32 z)) (zcn (B &&& ~~~C))
theorem yield_orU {ρ:Operand->Option AV} {hp:Nat->Option LObj} {tx ty':TypeId} (hx:ρ x=some (ybd B)) (hy:ρ y=some (ybd C)):yby P hp ρ (.binOp .or tx x y ty') ty (ybd (B ||| C)):=
 ycq (fun _ _=>by simp) (by simp [yha,Op.operands,hx,hy,toV,ybd]) fun w=>by
  have e:=orU_val B C;simp [execOp,yet hx,yet hy,eqGuard,binOp,e]
theorem yield_andNotU {ρ:Operand->Option AV} {hp:Nat->Option LObj} {tx ty':TypeId} (hx:ρ x=some (ybd B)) (hy:ρ y=some (ybd C)):yby P hp ρ (.binOp .andNot tx x y ty') ty (ybd (B &&& ~~~C)):=
 ycq (fun _ _=>by simp) (by simp [yha,Op.operands,hx,hy,toV,ybd]) fun w=>by
  have e:=andNotU_val B C;simp [execOp,yet hx,yet hy,eqGuard,binOp,e]
theorem shl_val (n:Nat):IntKind.u32.wrap (1 * 2 ^ (min n 32))=((1#32 <<< n).toNat:Int):=by
 rw [qha];simp only [IntKind.wrap,IntKind.signed,IntKind.bits,qdx,if_false,qbl,qen,Nat.shiftLeft_eq,qgr];rw [show (1 % 2 ^ 32:Nat)=1 by decide,Nat.one_mul];rcases qbi n 32 with h|h
 .rw [qfj om]
  norm_cast
 rw [Nat.min_eq_right h];have e:(2 ^ n) % 2 ^ 32=0:=Nat.mod_eq_zero_of_dvd (Nat.pow_dvd_pow 2 h);rw [e];decide
theorem yield_shlU {ρ:Operand->Option AV} {hp:Nat->Option LObj} {i:Int} {tx ty':TypeId} (hx:ρ x=some (.v (.int .u32 1))) (hy:ρ y=some (.v (.int k' i))) (hb:0<=i):yby P hp ρ (.binOp .shl tx x y ty') ty (ybd (1#32 <<< i.toNat)):=by
 have:=yield_shl (P:=P) (hp:=hp) (ty:=ty) (tx:=tx) (ty':=ty') hx hy hb
 rwa [show IntKind.u32.bits=32 from rfl,shl_val] at this
theorem xjf {tx ty':TypeId} (hx:evF (yaj t) x=some (ybd B)) (hy:evF (yaj t) y=some (ybd C)) (hw:yal ops (yaj t) ⟨some d,.binOp .or tx x y ty',ty,pos,af,gd⟩=some true) (hd:Nat.blt d N=true) (k:Lex P N ops lf Q rest (S ((d,ybd (B ||| C))::t) h)):Lex P N ops lf Q (⟨some d,.binOp .or tx x y ty',ty,pos,af,gd⟩::rest) (S t h):=
 ycl (yield_orU hx hy) hw hd k
theorem zct {tx ty':TypeId} (hx:evF (yaj t) x=some (ybd B)) (hy:evF (yaj t) y=some (ybd C)) (hw:yal ops (yaj t) ⟨some d,.binOp .andNot tx x y ty',ty,pos,af,gd⟩=some true) (hd:Nat.blt d N=true) (k:Lex P N ops lf Q rest (S ((d,ybd (B &&& ~~~C))::t) h)):Lex P N ops lf Q (⟨some d,.binOp .andNot tx x y ty',ty,pos,af,gd⟩::rest) (S t h):=
 ycl (yield_andNotU hx hy) hw hd k
theorem xfw {i:Int} {tx ty':TypeId} (hx:evF (yaj t) x=some (.v (.int .u32 1))) (hy:evF (yaj t) y=some (.v (.int k' i))) (hb:0<=i) (hw:yal ops (yaj t) ⟨some d,.binOp .shl tx x y ty',ty,pos,af,gd⟩=some true) (hd:Nat.blt d N=true) (k:Lex P N ops lf Q rest (S ((d,ybd (1#32 <<< i.toNat))::t) h)):Lex P N ops lf Q (⟨some d,.binOp .shl tx x y ty',ty,pos,af,gd⟩::rest) (S t h):=
 ycl (yield_shlU hx hy hb) hw hd k
theorem xjg (hT:TOK P T) {z:Int} (hr:ysz T t h op ty=some (.v (.int .u64 (IntKind.u64.wrap z)))) (h0:0<=z/\z<=18446744073709551615)
  (hw:yal ops (yaj t) ⟨some d,op,ty,pos,af,gd⟩=some true) (hd:Nat.blt d N=true) (k:Lex P N ops lf Q rest (S ((d,.v (.int .u64 z))::t) h)):Lex P N ops lf Q (⟨some d,op,ty,pos,af,gd⟩::rest) (S t h):=by
 have e:IntKind.u64.wrap z=z:=by
  simp only [IntKind.wrap,IntKind.signed,IntKind.bits,qdx,if_false,qbl];omega
 rw [e] at hr;exact zmx hT hr hw hd k
def yns (f:Nat->Bool):Nat->BitVec 32
 | 0=>0#32
 | n+1=>if f n=true then yns f n ||| (1#32 <<< n) else yns f n
theorem yik (f:Nat->Bool):∀ n i:Nat,i < 32->(yns f n).getLsbD i=(decide (i < n) && f i)
 | 0,i,h=>by simp [yns]
 | n+1,i,h=>by
  have ih:=yik f n i h;unfold yns;have hb:(1#32 <<< n).getLsbD i=decide (i=n):=by
   rw [qey];by_cases e:i=n
   .subst e;simp [h]
   simp [e];omega
  split
  .rename_i hf;rw [qfn,ih,hb];by_cases e:i=n
   .subst e;simp [hf]
   have:(i < n+1)<->i < n:=by omega
   simp [e,this]
  rename_i hf;rw [ih];by_cases e:i=n
  .subst e;simp [hf]
  have:(i < n+1)<->i < n:=by omega
  simp [this]
end
section
def xlv (l:List Tm):Ex:=(yfw l).getD (.lf (3,0))
def Scn.of (s:Scn) (l:List Tm):Int:=s.val (-1) (xlv l)
def zzk (p:ProgD) (s:Scn):Int:=zbc (p.rules.map fun r=>s.of r.guard) 0
def xgs (p:ProgD) (tbl:List (List (Int × Int))) (s:Scn) (st:List Int) (x:SetD):List Int:=st.set x.var.toNat (yji p tbl s.v x.var.toNat (s.of x.val))
def xih (p:ProgD) (tbl:List (List (Int × Int))) (s:Scn) (r:Nat):List Int:=(match p.rules[r]? with|some r=>r.sets|none=>[]).foldl (xgs p tbl s) (s.c.getD s.v [])
def yrz (p:ProgD) (g:GraphD) (c:List (List Int)) (v:Nat):Bool:=decide (0<=zzk p ⟨g,c,v⟩)
def ydn (p:ProgD) (g:GraphD) (c:List (List Int)):BitVec 32:=yns (yrz p g c) c.length
def zms (p:ProgD) (g:GraphD) (c:List (List Int)) (v:Nat):List Int:=xih p (yad p g) ⟨g,c,v⟩ (zzk p ⟨g,c,v⟩).toNat
def ytr (p:ProgD) (g:GraphD) (c:List (List Int)) (set:BitVec 32):List (List Int):=c.mapIdx fun v r=>if set.getLsbD v then zms p g c v else r
theorem zto {set:BitVec 32} {r:List Int} (h:c[v]?=some r):(ytr p g c set)[v]?=some (if set.getLsbD v then zms p g c v else r):=by
 simp [ytr,h]
theorem yrk {set:BitVec 32}:(ytr p g c set).length=c.length:=by simp [ytr]
structure Alike (g:GraphD) (c d:List (List Int)) (v:Nat):Prop where
 own:c[v]?=d[v]?
 near:∀ ls,g.ports[v]?=some ls->∀ l∈ls,c[l.1.toNat]?=d[l.1.toNat]?
theorem xia {l:List Tm} {kinds:List Int} {k:Int} (hk0:k≠0) (h:(ofF l kinds false).1=k):∃ E,yfw l=some E/\xlv l=E/\E.ok/\E.fl=l/\ygx kinds=true/\ycm l kinds.length=true/\ty kinds false E≠0:=by
 by_cases h6:6 < kinds.length
 .rw [zwu _ _ _ h6] at h;exact absurd h.symm hk0
 cases hk:ygx kinds
 .rw [zpt _ _ _ hk] at h;exact absurd h.symm hk0
 cases hv:ycm l kinds.length
 .rw [zfa _ _ _ hv] at h;exact absurd h.symm hk0
 obtain ⟨E,hp,ho,hfl,_⟩:=ypl hv;rw [xcr l kinds false E h6 hk hv hp] at h;by_cases ht:ty kinds false E=0
 .rw [if_pos ht] at h;exact absurd h.symm hk0
 exact ⟨E,hp,by simp [xlv,hp],ho,hfl,rfl,rfl,ht⟩
end
section
open Go.RowKit
variable {P:Program} {T:Nat->Option Ty} {N:Nat} {ops:Array Oper} {lf:Oper->Bool} {Q:SS->Prop} {t:List (Nat × AV)} {h:List (Nat × Option LObj)} {rest:List Oper} {d:Nat} {op:Op} {ty:TypeId} {pos:String} {af:Array Edge} {gd:Option (Nat × Bool)} {r:AV}
theorem zum (B C:BitVec 32):Op.intBits .and .u32 (B.toNat:Int) (C.toNat:Int)=pure (.int .u32 ((B &&& C).toNat:Int)):=by
 have e1:BitVec.ofInt IntKind.u32.bits (B.toNat:Int)=B:=yig B;have e2:BitVec.ofInt IntKind.u32.bits (C.toNat:Int)=C:=yig C;unfold Op.intBits;simp only [e1,e2];exact congrArg (fun z=>pure (Value.int .u32 z)) (zcn (B &&& C))
theorem zjx {ρ:Operand->Option AV} {hp:Nat->Option LObj} {tx ty':TypeId} (hx:ρ x=some (ybd B)) (hy:ρ y=some (ybd C)):yby P hp ρ (.binOp .and tx x y ty') ty (ybd (B &&& C)):=
 ycq (fun _ _=>by simp) (by simp [yha,Op.operands,hx,hy,toV,ybd]) fun w=>by
  have e:=zum B C;simp [execOp,yet hx,yet hy,eqGuard,binOp,e]
theorem zcu {tx ty':TypeId} (hx:evF (yaj t) x=some (ybd B)) (hy:evF (yaj t) y=some (ybd C)) (hw:yal ops (yaj t) ⟨some d,.binOp .and tx x y ty',ty,pos,af,gd⟩=some true) (hd:Nat.blt d N=true) (k:Lex P N ops lf Q rest (S ((d,ybd (B &&& C))::t) h)):Lex P N ops lf Q (⟨some d,.binOp .and tx x y ty',ty,pos,af,gd⟩::rest) (S t h):=
 ycl (zjx hx hy) hw hd k
theorem L_and1 {tx ty':TypeId} (hx:evF (yaj t) x=some (ybd B)) (hy:evF (yaj t) y=some (.v (.int .u32 1))) (hw:yal ops (yaj t) ⟨some d,.binOp .and tx x y ty',ty,pos,af,gd⟩=some true) (hd:Nat.blt d N=true) (k:Lex P N ops lf Q rest (S ((d,ybd (B &&& 1#32))::t) h)):Lex P N ops lf Q (⟨some d,.binOp .and tx x y ty',ty,pos,af,gd⟩::rest) (S t h):=
 ycl (zjx hx (C:=1#32) hy) hw hd k
theorem shr_val (B:BitVec 32) (n:Nat):((B.toNat:Int).fdiv (2 ^ (min n 32)))=((B >>> n).toNat:Int):=by
 rw [BitVec.toNat_ushiftRight,Nat.shiftRight_eq_div_pow];have hB:=B.isLt;rw [Int.fdiv_eq_ediv_of_nonneg _ (Int.le_of_lt (Int.pow_pos om))];rcases qbi n 32 with h|h
 .rw [qfj om]
  norm_cast
 rw [Nat.min_eq_right h];have:B.toNat / 2 ^ n=0:=qhb (qbg hB (Nat.pow_le_pow_right om h));rw [this];omega
theorem yield_shrU {ρ:Operand->Option AV} {hp:Nat->Option LObj} {i:Int} {tx ty':TypeId} (hx:ρ x=some (ybd B)) (hy:ρ y=some (.v (.int k' i))) (hb:0<=i):yby P hp ρ (.binOp .shr tx x y ty') ty (ybd (B >>> i.toNat)):=by
 have:=yield_shr (P:=P) (hp:=hp) (ty:=ty) (tx:=tx) (ty':=ty') hx hy hb
 rwa [show IntKind.u32.bits=32 from rfl,shr_val] at this
theorem xfx {i:Int} {tx ty':TypeId} (hx:evF (yaj t) x=some (ybd B)) (hy:evF (yaj t) y=some (.v (.int k' i))) (hb:0<=i) (hw:yal ops (yaj t) ⟨some d,.binOp .shr tx x y ty',ty,pos,af,gd⟩=some true) (hd:Nat.blt d N=true) (k:Lex P N ops lf Q rest (S ((d,ybd (B >>> i.toNat))::t) h)):Lex P N ops lf Q (⟨some d,.binOp .shr tx x y ty',ty,pos,af,gd⟩::rest) (S t h):=
 ycl (yield_shrU hx hy hb) hw hd k
theorem ztl (B:BitVec 32) (n:Nat):((((B >>> n) &&& 1#32).toNat:Int) == 1)=B.getLsbD n:=by
 have h:(B >>> n) &&& 1#32=if B.getLsbD n then 1#32 else 0#32:=by
  apply qbj;intro i hi;rw [qav,qep];by_cases e:i=0
  .subst e;cases hb:B.getLsbD n <;> simp
  have:(1#32).getLsbD i=false:=by simp [e]
  rw [this,qch];split <;> simp [e]
 rw [h];cases B.getLsbD n <;> rfl
theorem ztu (B C:BitVec 32):(((B.toNat:Int)) == (C.toNat:Int))=(B == C):=by
 rw [qbq,beq_iff_eq,beq_iff_eq];constructor
 .intro e;exact qes om
 intro e;rw [e]
theorem yeq (B:BitVec 32):(((B.toNat:Int)) == 0)=(B == 0#32):=ztu B 0#32
theorem u32_bne (B C:BitVec 32):(((B.toNat:Int)) != (C.toNat:Int))=(B != C):=by
 unfold bne;rw [ztu]
theorem yfh (B:BitVec 32):(((B.toNat:Int)) != 0)=(B != 0#32):=u32_bne B 0#32
end
section
open Go.RowKit
variable {P:Program} {T:Nat->Option Ty} {N:Nat} {ops:Array Oper} {lf:Oper->Bool} {Q:SS->Prop} {t:List (Nat × AV)} {h:List (Nat × Option LObj)} {rest:List Oper} {d:Nat} {op:Op} {ty:TypeId} {pos:String} {af:Array Edge} {gd:Option (Nat × Bool)} {r:AV}
theorem zmf (B C:BitVec 32):IntKind.u32.wrap ((B.toNat:Int) - C.toNat)=((B - C).toNat:Int):=by
 have:=B.isLt;have:=C.isLt;rw [BitVec.toNat_sub];simp only [IntKind.wrap,IntKind.signed,IntKind.bits,qdx,if_false,qbl];omega
theorem negU_val (B:BitVec 32):IntKind.u32.wrap (0 - (B.toNat:Int))=((-B).toNat:Int):=by
 have:=B.isLt;rw [qhd];simp only [IntKind.wrap,IntKind.signed,IntKind.bits,qdx,if_false,qbl];omega
theorem zrw (hT:TOK P T) {z:Int} {X:BitVec 32} (hr:ysz T t h op ty=some (.v (.int .u32 (IntKind.u32.wrap z)))) (hz:IntKind.u32.wrap z=(X.toNat:Int)) (hw:yal ops (yaj t) ⟨some d,op,ty,pos,af,gd⟩=some true) (hd:Nat.blt d N=true) (k:Lex P N ops lf Q rest (S ((d,ybd X)::t) h)):Lex P N ops lf Q (⟨some d,op,ty,pos,af,gd⟩::rest) (S t h):=by
 rw [hz] at hr;exact zmx hT hr hw hd k
theorem L_subU (hT:TOK P T) {tx ty':TypeId} (hx:evF (yaj t) x=some (ybd B)) (hy:evF (yaj t) y=some (ybd C)) (hr:ysz T t h (.binOp .sub tx x y ty') ty=some (.v (.int .u32 (IntKind.u32.wrap ((B.toNat:Int) - C.toNat))))) (hw:yal ops (yaj t) ⟨some d,.binOp .sub tx x y ty',ty,pos,af,gd⟩=some true) (hd:Nat.blt d N=true) (k:Lex P N ops lf Q rest (S ((d,ybd (B - C))::t) h)):Lex P N ops lf Q (⟨some d,.binOp .sub tx x y ty',ty,pos,af,gd⟩::rest) (S t h):=
 zrw hT hr (zmf B C) hw hd k
theorem L_sub1 (hT:TOK P T) {tx ty':TypeId} (hx:evF (yaj t) x=some (ybd B)) (hy:evF (yaj t) y=some (.v (.int .u32 1))) (hr:ysz T t h (.binOp .sub tx x y ty') ty=some (.v (.int .u32 (IntKind.u32.wrap ((B.toNat:Int) - 1))))) (hw:yal ops (yaj t) ⟨some d,.binOp .sub tx x y ty',ty,pos,af,gd⟩=some true) (hd:Nat.blt d N=true) (k:Lex P N ops lf Q rest (S ((d,ybd (B - 1#32))::t) h)):Lex P N ops lf Q (⟨some d,.binOp .sub tx x y ty',ty,pos,af,gd⟩::rest) (S t h):=
 zrw hT hr (zmf B 1#32) hw hd k
theorem L_negU (hT:TOK P T) {tx:TypeId} (hx:evF (yaj t) x=some (ybd B)) (hr:ysz T t h (.unOp .neg tx x) ty=some (.v (.int .u32 (IntKind.u32.wrap (0 - (B.toNat:Int)))))) (hw:yal ops (yaj t) ⟨some d,.unOp .neg tx x,ty,pos,af,gd⟩=some true) (hd:Nat.blt d N=true) (k:Lex P N ops lf Q rest (S ((d,ybd (-B))::t) h)):Lex P N ops lf Q (⟨some d,.unOp .neg tx x,ty,pos,af,gd⟩::rest) (S t h):=
 zrw hT hr (negU_val B) hw hd k
def xet (n:Nat):BitVec 32:=(1#32 <<< n) - 1#32
theorem zui:∀ (n:Nat),n<=24->∀ i,i < 32->(xet n).getLsbD i=decide (i < n):=by decide +kernel
end
section
open Go.RowKit
theorem z7 {p:Prop} (k:q) (h:Zk q->p:=by intro hq;(first|refine xjg tok rfl co rfl rfl ?_|refine xfw rfl rfl om rfl rfl ?_|refine xjf rfl rfl rfl rfl ?_|refine zct rfl rfl rfl rfl ?_|refine z1 ?_);exact hq.out):p:=h ⟨k⟩
theorem z6 {p:Prop} (k:q) (h:Zk q->p:=by intro hq;(first|refine xjg tok rfl co rfl rfl ?_|refine xfw rfl rfl om rfl rfl ?_|refine xfx rfl rfl om rfl rfl ?_|refine xjf rfl rfl rfl rfl ?_|refine zcu rfl rfl rfl rfl ?_|refine L_and1 rfl rfl rfl rfl ?_|refine zct rfl rfl rfl rfl ?_|refine z1 ?_);exact hq.out):p:=h ⟨k⟩
theorem z8 {p:Prop} (k:q) (h:Zk q->p:=by intro hq;(first|refine L_subU tok rfl rfl rfl rfl rfl ?_|refine L_sub1 tok rfl rfl rfl rfl rfl ?_|refine L_negU tok rfl rfl rfl rfl ?_|refine z6 ?_);exact hq.out):p:=h ⟨k⟩
theorem zbx {p:Prop} (k:q) (h:Zk q->p:=by intro hq;refine z7 ?_;(repeat refine z7 ?_);exact hq.out):p:=h ⟨k⟩
theorem zbxz {p:Prop} (k:q) (h:Zk q->p:=by intro hq;(first|refine z7 ?_|refine (yte rfl rfl (by assumption) rfl rfl ?_));(repeat (first|refine z7 ?_|refine (yte rfl rfl (by assumption) rfl rfl ?_)));exact hq.out):p:=h ⟨k⟩
theorem zb {p:Prop} (k:q) (h:Zk q->p:=by intro hq;refine z6 ?_;(repeat refine z6 ?_);exact hq.out):p:=h ⟨k⟩
theorem zbz {p:Prop} (k:q) (h:Zk q->p:=by intro hq;(first|refine z6 ?_|refine (yte rfl rfl (by assumption) rfl rfl ?_));(repeat (first|refine z6 ?_|refine (yte rfl rfl (by assumption) rfl rfl ?_)));exact hq.out):p:=h ⟨k⟩
theorem zq {p:Prop} (k:q) (h:Zk q->p:=by intro hq;refine z8 ?_;(repeat refine z8 ?_);exact hq.out):p:=h ⟨k⟩
end
section
open Go.RowKit
structure GoodP (p:ProgD):Prop where
 lim:¬ (p.vars.length=0\/6 < p.vars.length\/12 < p.rules.length)
 name:ykp p.name=true
 vnames:ygj (p.vars.map (·.name))=true
 rnames:ygj (p.rules.map (·.name))=true
 num:p.vars.all yxs=true
 form:p.rules.all (yfv · p.vars.length)=true
 type:p.rules.all (yki · (ybe p))=true
theorem yyj (h:yed p=0):GoodP p:=by
 unfold yed at h;split at h
 .omega
 split at h
 .omega
 split at h
 .omega
 split at h
 .omega
 split at h
 .omega
 rename_i h1 h2 h3 h4 h5;have h2':ygz p=true:=by simpa using h2
 unfold ygz at h2';simp only [qac] at h2';exact ⟨h1,h2'.1,h2'.2.1,h2'.2.2,by simpa using h3,by simpa using h4,by simpa using h5⟩
theorem GoodP.check (h:GoodP p):yed p=0:=by
 have hn:ygz p=true:=by unfold ygz;rw [h.name,h.vnames,h.rnames];rfl
 exact zkg h.lim hn h.num h.form h.type
end
section
open Go.RowKit
theorem zvw (h:yed p=0) {r:RuleD} (hr:r∈p.rules):(ofF r.guard (ybe p) false).1=2:=by
 have:=List.all_eq_true.1 (yyj h).type r hr;simp only [yki,qac,beq_iff_eq] at this;exact this.1
theorem xgt (h:yed p=0) {r:RuleD} (hr:r∈p.rules) {x:SetD} (hx:x∈r.sets):0<=x.var/\x.var < p.vars.length/\(ofF x.val (ybe p) false).1≠0:=by
 have h1:=List.all_eq_true.1 (yyj h).type r hr;have h2:=List.all_eq_true.1 (yyj h).form r hr;simp only [yki,qac,beq_iff_eq,List.all_eq_true] at h1;simp only [yfv,qac,decide_eq_true_eq,List.all_eq_true,ydr] at h2;have h3:=(h2.2.2.2.1 x hx).1;refine ⟨om,om,?_⟩;rw [h1.2 x hx];obtain ⟨y,hy⟩:=ybr (show x.var.toNat < p.vars.length by omega);have hk:=(yif ((ycp h).2.2.2 y (qab hy))).1;simp only [ybe,qad,qah,hy,qar,qcp];omega
def yng (g:GraphD) (B:BitVec 32):BitVec 32:=yns (fun v=>(g.ports.getD v []).any fun l=>B.getLsbD l.1.toNat) g.ports.length
theorem state_mk {s:List Int} (hl:s.length=r.length) (h:∀ (x:Nat) (b:Int × Int),r[x]?=some b->∃ z,s[x]?=some z/\b.1<=z/\z<=b.2):ycf r s=true:=by
 simp only [ycf,qac,beq_iff_eq,List.all_eq_true];refine ⟨hl,fun q hq=>?_⟩;obtain ⟨k,hk⟩:=qan hq;rw [qfp] at hk;obtain ⟨z,hz,h1,h2⟩:=h k _ hk.1;rw [hk.2] at hz;cases hz;simp [zrn,h1,h2]
theorem state_set (hf:Fair p g) (h0:ycn p g=0) (hr:(yad p g)[v]?=some r) {s:List Int} (hs:ycf r s=true) (x:Nat) (z:Int):ycf r (s.set x (yji p (yad p g) v x z))=true:=by
 obtain ⟨hl,hb⟩:=ycg hs;refine state_mk (by simp [hl]) fun y b hy=>?_;by_cases e:x=y
 .subst e;obtain ⟨ls,w,h1,h2,rfl⟩:=zga hr hy;obtain ⟨hc0,hg,hfit⟩:=ycv.1 h0;have hnum:=(ycp hc0).2.2.2 w (qab h2);have hll:=hf.glen.2.2 ls (qab h1);have hok:=fit_ok (deg:=ls.length) (hfit w (qab h2)) hnum om;refine ⟨_,qdy (by rw [hl];exact (qaa.1 hy).1),?_⟩;have e1:yji p (yad p g) v x z=yiq w.kind (yap w g ls.length).1 (yap w g ls.length).2 z:=by
   simp [yji,hr,hy,h2]
  rw [e1];exact bring_in hok.1 fun h3=>by rw [zad h3]
 obtain ⟨q,hq,h1,h2⟩:=hb y b hy;exact ⟨q,by rw [qho e];exact hq,h1,h2⟩
theorem zjj (hf:Fair p g) (h0:ycn p g=0) {s:Scn} (hr:(yad p g)[s.v]?=some r):∀ (l:List SetD) (st:List Int),ycf r st=true->ycf r (l.foldl (xgs p (yad p g) s) st)=true
 | [],st,h=>h
 | x::l,st,h=>zjj hf h0 hr l _ (state_set hf h0 hr h _ _)
theorem stp_check (hf:Fair p g) (hc:yib p g c=0) (set:BitVec 32):yib p g (ytr p g c set)=0:=by
 obtain ⟨h0,hin⟩:=yhv.1 hc;refine yhv.2 ⟨h0,?_⟩;obtain ⟨hl,hb⟩:=yoz hin;simp only [ybu,qac,beq_iff_eq,List.all_eq_true];refine ⟨by rw [yrk,hl],fun q hq=>?_⟩;obtain ⟨v,hv⟩:=qan hq;rw [qfp] at hv;obtain ⟨s,hs,hst⟩:=hb v q.1 hv.1;have e:=hv.2;rw [zto hs] at e;rw [<- Option.some.inj e];split
 .exact zjj hf h0 (s:=⟨g,c,v⟩) hv.1 _ _ (by
   show ycf q.1 (c.getD v [])=true
   rw [qad,hs];exact hst)
 exact hst
end
section
open Go.RowKit
structure CfgOk (p:ProgD) (g:GraphD) (c:List (List Int)):Prop where
 fair:Fair p g
 chk:yib p g c=0
section
variable {p:ProgD} {g:GraphD} {c:List (List Int)}
theorem CfgOk.fit (h:CfgOk p g c):ycn p g=0:=(yhv.1 h.chk).1
theorem CfgOk.prog (h:CfgOk p g c):yed p=0:=(ycv.1 h.fit).1
theorem CfgOk.graph (h:CfgOk p g c):ych g=true:=(ycv.1 h.fit).2.1
theorem CfgOk.table (h:CfgOk p g c):ybu (yad p g) c=true:=(yhv.1 h.chk).2
theorem CfgOk.len (h:CfgOk p g c):c.length=g.ports.length:=by
 have:=(yoz h.table).1;rw [this];simp [yad]
theorem CfgOk.n24 (h:CfgOk p g c):g.ports.length<=24:=(yba h.graph).2.1
theorem CfgOk.row (h:CfgOk p g c) {r:List Int} (hr:c[v]?=some r):∃ b,(yad p g)[v]?=some b/\ycf b r=true:=by
 have hv:=(qaa.1 hr).1;obtain ⟨b,hb⟩:=ybr (show v < (yad p g).length by rw [<- (yoz h.table).1];exact hv);obtain ⟨s,hs,hst⟩:=(yoz h.table).2 v b hb;rw [hr] at hs;cases hs;exact ⟨b,hb,hst⟩
theorem CfgOk.rowlen (h:CfgOk p g c):∀ r∈c,r.length=p.vars.length:=by
 intro r hr;obtain ⟨v,hv⟩:=qan hr;obtain ⟨b,hb,hst⟩:=h.row hv;rw [(ycg hst).1,yjz hb]
theorem CfgOk.vars6 (h:CfgOk p g c):1<=p.vars.length/\p.vars.length<=6:=by have:=ycp h.prog;omega
theorem CfgOk.bd (h:CfgOk p g c):∀ r∈c,∀ a∈r,-1<=a/\a<=1000000:=by
 intro r hr a ha;obtain ⟨v,hv⟩:=qan hr;obtain ⟨b,hb,hst⟩:=h.row hv;obtain ⟨x,hx⟩:=qan ha;obtain ⟨hl,hbd⟩:=ycg hst;have hxl:=(qaa.1 hx).1;obtain ⟨q,hq⟩:=ybr (show x < b.length by omega);obtain ⟨z,hz,h1,h2⟩:=hbd x q hq;rw [hx] at hz;cases hz;have:=((ydf h.fair h.fit).2 b (qab hb)).2 q (qab hq);obtain ⟨g1,g2,g3⟩:=this;omega
theorem CfgOk.cin (h:CfgOk p g c):zru c:=by
 have:=h.n24;refine ⟨by rw [h.len];omega,fun r hr=>?_⟩;have:=h.rowlen r hr;have:=h.vars6;omega
theorem CfgOk.scn (h:CfgOk p g c) (v:Nat):ScnOk ⟨g,c,v⟩:=by
 have hv:=yba h.graph;have h24:=h.n24;refine ⟨hv.2.2.2.1,by show g.ids.length<=24;omega,fun ls hls=>?_,fun r hr a ha=>?_⟩
 .obtain ⟨u,hu⟩:=qan hls;have hb:=hv.2.2.2.2.2.1 u ls hu;have hul:=(qaa.1 hu).1;have hll:ls.length < g.ports.length:=ydb hul hb;refine ⟨om,fun l hl=>?_⟩;have:=(ybp _ _ _).1 (((yck _ _ _).1 hb).1 l hl);omega
 have:=h.bd r hr a ha;unfold InV yeu;omega
theorem CfgOk.kinds (h:CfgOk p g c):(ybe p).length=p.vars.length:=by simp [ybe]
theorem CfgOk.walk (h:CfgOk p g c) {ls:List Lk} (hls:g.ports[v]?=some ls) {e:List Tm} (he:ycm e p.vars.length=true):WalkOk p g c v ls e p.vars.length:=by
 obtain ⟨E,_,_,_,h2,h3,_⟩:=ypl he;exact ⟨h.graph,hls,h.len,fun r hr=>by have:=h.rowlen r hr;omega,om,List.all_eq_true.1 h3,h.scn v⟩
theorem CfgOk.links (h:CfgOk p g c) (hv:v < c.length):∃ ls,g.ports[v]?=some ls:=ybr (by rw [<- h.len];exact hv)
end
theorem zmi (h:CfgOk p g c) (hv:v < c.length) (ht:(ofF e (ybe p) false).1≠0):Con prog 107 [yis p g,yds c,i64 v,ybk e] (i64 ((⟨g,c,v⟩:Scn).of e)):=by
 obtain ⟨E,hp,hE,ho,hfl,hk,hval,hty⟩:=xia ht rfl;obtain ⟨ls,hls⟩:=h.links hv;have W:=h.walk hls (by rw [<- h.kinds];exact hval);have hc:=yna W hk E ho 0 [] false (-1) (by rw [hfl];simp) hty (by unfold InV yeu;omega) sm;refine ze Tryz.func107 ntmps107 Tryz.results107 ?_
 (repeat (first|with_reducible refine ydk ?_|with_reducible refine ycd ?_|refine ycy ?_));refine ynb ?_;refine ybi (lf:=lfT) rfl ?_
 refine zO ?_
 (repeat (first|with_reducible refine ydk ?_|with_reducible refine ycd ?_|refine ycy ?_))
 refine ynb ?_;refine zR ?_;refine zO ?_;refine zt ?_;refine yct 9 rfl rfl rfl rfl rfl ?_;refine zZ ?_;refine zr ?_;exact yaf (by unfold Scn.of;rw [hE])
theorem sguard_con (h:CfgOk p g c) (hv:v < c.length) {i:Nat} {r:RuleD} (hr:p.rules[i]?=some r):Con prog 178 [yis p g,yds c,i64 v,i64 i] (yay ((⟨g,c,v⟩:Scn).of r.guard != 0)):=by
 have ht:=zvw h.prog (qab hr);have hc:=zmi h hv (e:=r.guard) om;have hlen:=(ycp h.prog).2.2.1;refine ze Tryz.func178 ntmps178 Tryz.results178 ?_;refine zZ ?_;refine zr ?_;exact yae rfl
end
set_option maxHeartbeats 4000000
section
open Go.RowKit
theorem yvx (xs:List AV):isC (ygy xs)=false:=by cases xs <;> rfl
theorem yez {ok:Nat->Prop} {b n:Nat} {xs:List AV}:yhl ok lv w b n (ygy xs)<->yhd ok lv w b n xs:=by
 cases xs with
 | nil=>exact ⟨fun h=>h.1,fun h=>⟨h,fun x hx=>by cases hx⟩⟩
 | cons x xs=>exact Iff.rfl
theorem ygs {B:Bse} {ok:Nat->Prop} {n:Nat} {xs:List AV} (h:ygb B ok lv w n (ygy xs) none):xs=[]:=by
 cases xs with
 | nil=>rfl
 | cons x xs=>rcases h with h|⟨e,h⟩ <;> cases h
theorem ygh {id:Nat}:∀ {xs:List AV},(∀ x∈xs,ment id x=false)->ment.mentL id xs=false
 | [],_=>rfl
 | x::xs,h=>by simp only [ment.mentL,h x sm,qfa];exact ygh fun y hy=>h y (by simp [hy])
theorem zpn {id:Nat}:∀ {xs:List AV},ment.mentL id xs=false->∀ x∈xs,ment id x=false
 | [],_,x,hx=>by cases hx
 | y::xs,h,x,hx=>by
  simp only [ment.mentL,qei] at h;rcases qas.1 hx with rfl|hx
  .exact h.1
  exact zpn h.2 x hx
variable {P:Program} {T:Nat->Option Ty} {N:Nat} {ops:Array Oper} {lf:Oper->Bool} {Q:SS->Prop} {t:List (Nat × AV)} {h:List (Nat × Option LObj)} {rest:List Oper} {d:Nat} {op:Op} {ty:TypeId} {pos:String} {af:Array Edge} {gd:Option (Nat × Bool)} {r:AV}
theorem blk_appL {B:Bse} {ok0:Nat->Prop} {w':World} {b n size len:Nat} {xs cs:List AV} {news:List Value} {c:Array Value} {e:TypeId} (g2:c.size=n) (g3:xs.length=len * size) (g4:∀ x∈xs,yea x=true) (g5:∀ (j:Nat) (x:AV) (u:Value),xs[j]?=some x->c[j]?=some u->Rel (yax B ok0 lv w) w lv x u) (hr:ybm (yax B ok0 lv w) w lv cs news) (hc:∀ x∈cs,yea x=true) (hfit:len * size+news.length<=n) (hw:w'.heap[b]?=some (.cells (c.toList.take (len * size)++news++c.toList.drop (len * size+news.length)).toArray e (0,0))) (ok':Nat->Prop) (hk:∀ g,yax B ok0 lv w g->ok' g/\w'.heap[g]?=w.heap[g]?):yhd ok' lv w' b n (xs++cs):=by
 have hl:=hr.1;refine ⟨_,e,hw,so,by simp [g3];omega,fun x hx=>?_,fun j x u hx hu=>?_⟩
 .rcases qau.1 hx with hx|hx
  .exact g4 x hx
  exact hc x hx
 simp only [qec] at hu;have e2:(c.toList.take (len * size)).length=len * size:=by simp;omega
 by_cases h1:j < len * size
 .rw [qam om] at hx;rw [qbb,qam om,qbc,if_pos h1] at hu;exact (g5 j x u hx (by simpa using hu)).keep hk
 rw [qai om,g3] at hx;have hlt:=(qaa.1 hx).1;rw [qbb,qai om,e2,qam om] at hu;exact (hr.2 _ x u hx hu).keep hk
def xmh (ok:Nat->Prop) (w:World) (lv:Live) (size m:Nat) (cs:List AV) (u:Value):Prop:=
 ∃ (ao:Option Addr) (c:Nat) (news:List Value),u=.slice ao m c/\news.length=m * size/\ybm ok w lv cs news/\(0 < m->∃ g o,ao=some ⟨g,o,none⟩/\∀ (j:Nat) (v:Value),news[j]?=some v->w.cell? ((⟨g,o,none⟩:Addr).add j)=some v)
theorem src_ls {B:Bse} {ok0:Nat->Prop} {s:SS} (hs:Sim B ok0 N s lv a w) {id2 es m:Nat} {cs:List AV} {u:Value} (hid:s.h id2=some (ygy cs)) (hl:cs.length=m * es) (hu:Rel (yax B ok0 lv w) w lv (.ls id2 es m) u):xmh (yax B ok0 lv w) w lv es m cs u/\∀ c∈cs,yea c=true:=by
 obtain ⟨bo,n,hlv,hown⟩:=hs.inv.obj id2 _ hid;cases hu with
 | ls _ hone hls=>
  have hlsv:=hls bo n hlv;cases bo with
  | none=>
   obtain rfl:=ygs hown;obtain ⟨rfl,rfl⟩:=hlsv;exact ⟨⟨none,0,[],rfl,sm,⟨rfl,fun i x u h=>by simp at h⟩,fun h=>by omega⟩,fun c hc=>by cases hc⟩
  | some b=>
   obtain ⟨cap,rfl,h1,h2,h3⟩:=hlsv;obtain ⟨_,_,ho⟩:=hown;obtain ⟨cu,e',g1,g2,g3,g4,g5⟩:=yez.1 ho;refine ⟨⟨some ⟨b,0,none⟩,cap,cu.toList.take cs.length,rfl,so,⟨so,fun j x u hx hu=>?_⟩,fun _=>⟨b,0,rfl,fun j v hj=>?_⟩⟩,g4⟩
   .have hlt:=(qaa.1 hx).1;rw [qbc,if_pos hlt] at hu;exact g5 j x u hx (by simpa using hu)
   rw [qbc] at hj;split at hj
   .rw [yml];simp only [World.cell?,g1,qba];simpa using hj
   cases hj
theorem append_worldM {B:Bse} {ok0:Nat->Prop} {s:SS} (hs:Sim B ok0 N s lv a w) {ti e es eb:Nat} {ea:Bool} {ez:List Value} (hk:yfy P ti (.slc e es ea eb ez)) {id len m:Nat} {xs cs:List AV} {v u:Value} (hid:s.h id=some (ygy xs)) (hxl:xs.length=len * es) (hv:Rel (yax B ok0 lv w) w lv (.ls id es len) v) (hsrc:xmh (yax B ok0 lv w) w lv es m cs u) (hcc:∀ c∈cs,yea c=true) (hxm:∀ c∈xs,ment id c=false) (hcp:∀ c∈cs,ment id c=false) (hlim:len+m<=4294967296/\(len+m) * eb<=140737488355328) {s':SS} (ht:∀ x y,s'.t x=some y->y=.any\/(s.t x=some y/\ment id y=false)) (hlt:∀ x y,s'.t x=some y->∃ z,s.t x=some z) (hh:∀ j ob',j≠id->s'.h j=some ob'->yeb id ob'=false/\∃ ob,s.h j=some ob/\ylg ob ob') (hid':s'.h id=some (ygy (xs++cs))):
  ∃ v' w' lv',(Builtin.append_ #[ti,ti] ty #[v,u]).run P w=.ok v' w'/\Sim B ok0 N s' lv' a w'/\Rel (yax B ok0 lv' w') w' lv' (.ls id es (len+m)) v':=by
 obtain ⟨hu,hsz,hby,hz,hzl,hpos⟩:=hk;obtain ⟨i,hi,hisz,hiby,zv,hiz,hizc⟩:∃ i,P.info? e=some i/\i.size=es/\i.bytes=eb/\∃ zv,i.zero=some zv/\zv.cells=ez.toArray:=by
  cases hi:P.info? e with
  | none=>simp [hi] at hby
  | some i=>
   have h1:=hsz.1;unfold ytf at hz;simp only [hi,qar,Option.some.injEq] at hby h1 hz;cases hzz:i.zero with
   | none=>simp [hzz] at hz
   | some zv=>simp only [hzz,qar,Option.some.injEq] at hz;exact ⟨i,rfl,h1,hby,zv,hzz,hz⟩
 obtain ⟨ao,c,news,rfl,hnl,hnr,hna⟩:=hsrc;have hcl:cs.length=m * es:=by rw [<- hnr.1,hnl]
 -- the state with the block written in place,or the same,forgets
 have forget:∀ (w':World) (lv1:Live),Sim B ok0 N ⟨s.t,yek s.h id (some (ygy (xs++cs)))⟩ lv1 a w'->∃ lv',Sim B ok0 N s' lv' a w'/\lv' id=lv1 id:=by
  intro w' lv1 h1;obtain ⟨lv',g1,g2,g3,g4⟩:=h1.forg (s':=s') (fun x y hy=>(ht x y hy).imp (fun h=>h) And.left) hlt (fun j ob' hj=>by
   by_cases hji:j=id
   .subst hji
    rw [hid'] at hj
    cases hj
    exact ⟨ygy (xs++cs),by simp [yek],.inl rfl⟩
   obtain ⟨_,ob,q1,q2⟩:=hh j ob' hji hj
   exact ⟨ob,by simp [yek,hji,q1],q2⟩)
  exact ⟨lv',g1,g3 id (by simp [hid'])⟩
 have hvs:∀ u∈news,u.oneCell'=true:=fun u hu=>by
  obtain ⟨j,hj⟩:=qan hu;obtain ⟨q,hq⟩:∃ q,cs[j]?=some q:=⟨_,qae (by have:=(qaa.1 hj).1;rw [hnr.1] at this;exact this)⟩;exact (hnr.2 j q u hq hj).oneCell (hcc q (qab hq))
 obtain ⟨bo,n,hl,hown⟩:=hs.inv.obj id _ hid;cases hv with
 | ls _ hone hls=>
  have hlsv:=hls bo n hl;by_cases hm:m=0
  .subst hm;have hcs:cs=[]:=qaz om;subst hcs;have hsame:(⟨s.t,yek s.h id (some (ygy (xs++[])))⟩:SS)=s:=by
    have:yek s.h id (some (ygy (xs++[])))=s.h:=by
     funext j;by_cases hj:j=id
     .subst hj;simp [yek,hid]
     simp [yek,hj]
    rw [this]
   obtain ⟨lv',q1,q2⟩:=forget w lv (by rw [hsame];exact hs);cases bo with
   | none=>
    obtain ⟨rfl,rfl⟩:=hlsv;refine ⟨_,w,lv',yij ti ty e i hu hi none ao 0 0 c (qbh _),q1,.ls _ rfl fun b n' hb=>?_⟩;rw [q2,hl] at hb;cases hb;exact ⟨rfl,rfl⟩
   | some b=>
    obtain ⟨cap,rfl,h1,h2,h3⟩:=hlsv;refine ⟨_,w,lv',yij ti ty e i hu hi _ ao len cap c h1,q1,.ls _ rfl fun b' n' hb=>?_⟩;rw [q2,hl] at hb;cases hb;exact ⟨cap,rfl,h1,h2,h3⟩
  obtain ⟨g,q,rfl,hcell⟩:=hna om
  -- a new block
  have grown:∀ (old:Nat) (olds:List Value),ybm (yax B ok0 lv w) w lv xs olds->old < len+m ->
    let cap:=grownCap w (len+m) old e
    let w':=w.drew.alloc (.cells (olds.toArray++news.toArray++Builtin.zeroCells zv.cells (cap - (len+m))) e)
    ∃ lv',Sim B ok0 N s' lv' a w'/\Rel (yax B ok0 lv' w') w' lv' (.ls id es (len+m)) (.slice (some ⟨w.heap.size,0,none⟩) (len+m) cap):=by
   intro old olds hor hold;have hge:=grownCap_ge w (len+m) old e;have hmx:grownCap w (len+m) old e<=maxLen:=grownCap_le_maxLen w (len+m) old e (by unfold maxLen;omega);intro cap w'
   -- first forget,id given up
   obtain ⟨lv0,q1,q2,q3,q4⟩:=hs.forg (s':=⟨s'.t,fun j=>if j=id then none else s'.h j⟩) (fun x y hy=>(ht x y hy).imp (fun h=>h) And.left) hlt (fun j ob' hj=>by
    simp only at hj
    split at hj
    .cases hj
    rename_i hji;exact (hh j ob' hji hj).2)
   have q0:Sim B ok0 N ⟨s'.t,fun j=>if j=id then none else s'.h j⟩ lv0 a w.drew:=q1.drew (Below.drew (Below.refl _ _));have hall:ybm (yax B ok0 lv0 w.drew) w.drew lv0 (xs++cs) (olds++news):=by
    refine ⟨by simp [hor.1,hnr.1],fun j x u hx hu=>?_⟩;rcases qbi j xs.length with h1|h1
    .rw [qam h1] at hx;rw [qam (by rw [hor.1];exact h1)] at hu;exact ((hor.2 j x u hx hu).relive fun id b n hb hmm=>q2 id b n hb).keep fun g hg=>⟨q4 g hg,rfl⟩
    rw [qai h1] at hx;rw [qai (by rw [hor.1];exact h1),hor.1] at hu;exact ((hnr.2 _ x u hx hu).relive fun id b n hb hmm=>q2 id b n hb).keep fun g hg=>⟨q4 g hg,rfl⟩
   have hcell':∀ x∈xs++cs,yea x=true:=by
    intro x hx;rcases qau.1 hx with hx|hx
    .cases bo with
     | none=>rw [ygs hown] at hx;cases hx
     | some b=>obtain ⟨_,_,ho⟩:=hown;obtain ⟨c,e,_,_,_,g4,_⟩:=yez.1 ho;exact g4 x hx
    exact hcc x hx
   have hm':yeb id (ygy (xs++cs))=false:=by
    rw [yiz,ywg,ygh hxm,ygh hcp];rfl
   have hfr:ynd (⟨s'.t,fun j=>if j=id then none else s'.h j⟩:SS) id:=by
    refine ⟨sm,fun x y hy=>?_,fun j ob hj=>?_⟩
    .rcases ht x y hy with rfl|⟨_,hm⟩
     .rfl
     exact hm
    simp only at hj;split at hj
    .cases hj
    rename_i hji;exact (hh j ob hji hj).1
   have hzc:(olds++news).length+(Builtin.zeroCells zv.cells (cap - (len+m))).toList.length=cap * es:=by
    have e1:=size_zeroCells zv.cells (cap - (len+m));rw [hizc] at e1;simp only [qcx,hzl] at e1;rw [hizc];simp only [Array.length_toList,qao,e1,hor.1,hxl,hnl];rw [<- qgk,<- qgk];congr 1;omega
   have hw':w'=w.drew.alloc (.cells ((olds++news)++(Builtin.zeroCells zv.cells (cap - (len+m))).toList).toArray e):=by
    simp only [w'];congr 2;simp
   have hnew:=q0.newBlock (ob:=ygy (xs++cs)) (n:=cap * es) hfr (w':=w') (by rw [hw'];exact ydu w.drew _) (by rw [hw'];simp) hm' (fun h=>by rw [yvx] at h;cases h)
    (fun ok' lv' g1 g2=>yez.2 (yyf (e:=e) hzc.symm (by rw [hw'];exact ydo w.drew _) hall hcell' ok' lv' g1 (fun i b mm hb hmm=>g2 i b mm hb (by rw [yiz];exact hmm))))
   have hs'':(⟨s'.t,yek (fun j=>if j=id then none else s'.h j) id (some (ygy (xs++cs)))⟩:SS)=s':=by
    have:yek (fun j=>if j=id then none else s'.h j) id (some (ygy (xs++cs)))=s'.h:=by
     funext j;by_cases hj:j=id
     .subst hj;simp [yek,hid']
     simp [yek,hj]
    rw [this]
   rw [hs''] at hnew;refine ⟨_,hnew,.ls _ rfl fun b n' hb=>?_⟩;simp only [yjx,if_true,Option.some.injEq,Prod.mk.injEq] at hb;obtain ⟨rfl,rfl⟩:=hb;exact ⟨cap,rfl,hge,hmx,rfl⟩
  cases bo with
  | none=>
   obtain rfl:=ygs hown;obtain ⟨rfl,rfl⟩:=hlsv;have hr:=run_append_nil (P:=P) w ti ty e i zv hu hi hiz ⟨g,q,none⟩ m c news (by rw [hisz];exact hnl) hcell om om (by have:=hlim.2;rw [hiby];simp only [qba] at this;omega);obtain ⟨lv',g1,g2⟩:=grown 0 [] ⟨rfl,fun i x u h=>by simp at h⟩ om;simp only [qba,Array.empty_append] at hr g1 g2 ⊢;exact ⟨_,_,lv',hr,g1,g2⟩
  | some b=>
   obtain ⟨cap,rfl,hlc,hmx,hcn⟩:=hlsv;obtain ⟨hb1,hb2,ho⟩:=hown;obtain ⟨cu,e',g1,g2,g3,g4,g5⟩:=yez.1 ho;by_cases hroom:len+m<=cap
   .have hfit:len * es+news.length<=cu.size:=by rw [hnl,g2,<- hcn,<- qgk];exact qej _ hroom
    have hr:=ypt (P:=P) (w:=w) ti ty e e' i hu hi b len cap cu g1 ⟨g,q,none⟩ m c news (by rw [hisz];exact hnl) hcell hvs hroom (by rw [hisz];exact hfit);rw [hisz] at hr;have hwr:=hs.write (w':=w.setRow b (cu.toList.take (len * es)++news++cu.toList.drop (len * es+news.length)).toArray) hl rfl rfl rfl sm (fun g hg=>setRow_other w b g _ hg) (ob:=ygy (xs++cs)) (fun h=>by rw [yvx] at h;cases h)
     (fun ok' hk=>yez.2 (blk_appL (w:=w) g2 hxl g4 g5 hnr hcc om (setRow_heap w b cu _ e' _ g1) ok' hk))
    obtain ⟨lv',q1,q2⟩:=forget _ _ hwr;refine ⟨_,_,lv',hr,q1,.ls _ rfl fun b' n' hb=>?_⟩;rw [q2,hl] at hb;cases hb;exact ⟨cap,rfl,hroom,hmx,hcn⟩
   have hxle:xs.length<=cu.size:=by omega
   have hor:ybm (yax B ok0 lv w) w lv xs (cu.toList.take xs.length):=⟨so,fun j x u hx hu=>by
    have hlt:=(qaa.1 hx).1
    rw [qbc,if_pos hlt] at hu
    exact g5 j x u hx (by simpa using hu)⟩
   have hr:=run_append_grow (P:=P) w ti ty e i zv hu hi hiz ⟨b,0,none⟩ len cap (cu.toList.take xs.length) (by simp [hisz];omega) (fun j v hj=>by
    rw [qbc] at hj
    split at hj
    .rw [yml];simp only [World.cell?,g1,qba];simpa using hj
    cases hj) ⟨g,q,none⟩ m c news (by rw [hisz];exact hnl) hcell om om (by rw [hiby];exact growslice_fits om hlim.2)
   obtain ⟨lv',q1,q2⟩:=grown cap _ hor om;exact ⟨_,_,lv',hr,q1,q2⟩
theorem appendM_loud (hT:TOK P T) {o:Oper} {ti e es eb sz:Nat} {ea ag:Bool} {ez z:List Value} {id id2 len m:Nat} {xs cs:List AV} {s s':SS} (ho:o.op=.call { callee:=.builtin .append,args:=#[x,y],argTypes:=#[ti,ti] }) (hd:o.dst=some d) (hdN:d < N) (hk:T ti=some ⟨.slc e es ea eb ez,sz,ag,z⟩) (hx:evF s.t x=some (.ls id es len)) (hid:s.h id=some (ygy xs)) (hxl:xs.length=len * es) (hy:evF s.t y=some (.ls id2 es m)) (hid2:s.h id2=some (ygy cs)) (hcl:cs.length=m * es) (hxm:∀ c∈xs,ment id c=false) (hcp:∀ c∈cs,ment id c=false) (hlim:len+m<=4294967296/\(len+m) * eb<=140737488355328) (ht:∀ x y,s'.t x=some y->y=.any\/(s.t x=some y/\ment id y=false)) (hlt:∀ x y,s'.t x=some y->∃ z,s.t x=some z) (hh:∀ j ob',j≠id->s'.h j=some ob'->yeb id ob'=false/\∃ ob,s.h j=some ob/\ylg ob ob') (hid':s'.h id=some (ygy (xs++cs))):
  yco P N o s (·=⟨yfk s'.t (some d) (.ls id es (len+m)),s'.h⟩):=by
 intro B ok0 lv a w hs Q;obtain ⟨h1,h2⟩:=src_ls hs hid2 hcl (hs.eval hy);obtain ⟨v',w',lv',hrun0,hs',hrel⟩:=append_worldM (ty:=o.type) hs (hT _ _ hk).2.2 hid hxl (hs.eval hx) h1 h2 hxm hcp hlim ht hlt hh hid';have hrun:(execOp a.eval o).run P w=.ok (.value v') w':=by
  simp only [execOp,ho,resolve,invoke,builtin,Sem.run_bind,Sem.run_pure,Result.andThen_ok,List.map_toArray,qcl,qew,hrun0]
 unfold Oper.wp;rw [hrun];simp only [Oper.upon,hd];exact ⟨_,lv',rfl,hs'.putOnly hdN hrel⟩
theorem buildM_loud (hT:TOK P T) {o:Oper} {ti e es eb sz len:Nat} {ea ag:Bool} {ez z:List Value} {parts:List (Nat × Operand)} {ps:List (Nat × AV)} {ys:List AV} {s:SS} (id:Nat) (ho:o.op=.buildSlice ti len parts.toArray) (hd:o.dst=some d) (hdN:d < N) (hk:T ti=some ⟨.slc e es ea eb ez,sz,ag,z⟩) (hone:ez.all Value.oneCell'=true)
  (hps:evP (evF s.t) parts=some ps) (hf:zbb (fun i=>some (i * es,es)) (ykr len (yit ez)) ps=some ys) (hlen:ys.length=len * es) (hlim:Nat.ble (len * es) 16777216=true) (hfr:ynd s id) (hm:ment.mentL id ys=false) :
  yco P N o s (·=⟨yfk s.t (some d) (.ls id es len),yek s.h id (some (ygy ys))⟩):=by
 intro B ok0 lv a w hs Q;obtain ⟨h1,h2⟩:=zkn (ok:=yax B ok0 lv w) (w:=w) (lv:=lv) (a:=a) hps fun x y hx hxy=>hs.eval hxy;obtain ⟨hu,hsz,_,hz,hzl,hpos⟩:=(hT _ _ hk).2.2;obtain ⟨zv,hz1,hz2⟩:=hz.run (w:=w);obtain ⟨out,g1,g2,g3⟩:=yvq (place':=fun i=>some (i * es,es)) (fun i p h=>h) hf (zlz (z:=ez) len om) (ywx (yrm hone) len) h1 h2;have hlim':len * es<=16777216:=by simpa using hlim
 have hle:len<=len * es:=Nat.le_mul_of_pos_right _ hpos;have hrun:(execOp a.eval o).run P w=.ok (.value (.slice (some ⟨w.heap.size,0,none⟩) len len)) (w.alloc (.cells out.toArray e)):=by
  have e':Instr.fill (fun i=>some (i * es,es)) (madeCells ez.toArray (len * es)) (parts.toArray.map fun x=>(x.1,a.eval x.2)).toList=some out.toArray:=by
   have:(madeCells ez.toArray (len * ez.length)).toList.toArray=madeCells ez.toArray (len * es):=by rw [hzl]
   rw [<- this];have e:(parts.toArray.map fun x=>(x.1,a.eval x.2)).toList=parts.map fun x=>(x.1,a.eval x.2):=by simp
   rw [e];exact g1
  unfold madeCells at e';have n1:¬ (len * es > 2 ^ 24):=by omega
  by_cases h0:len * es=0
  .have hl0:len=0:=by omega
   subst hl0;simp only [qhl,Array.range_zero',Array.map_empty] at e';simp [execOp,ho,Instr.buildSlice,run_underlying hu,(hsz.run (w:=w)).1,newRow,Array.range_zero'];simp at e';rw [e'];simp
  simp only [execOp,ho,Instr.buildSlice,Sem.run_bind,run_underlying hu,(hsz.run (w:=w)).1,Result.andThen_ok,if_neg n1,if_neg h0,hz1,hz2,Sem.run_pure,e',newRow];simp
 unfold Oper.wp;rw [hrun];simp only [Oper.upon,hd];have hnew:=hs.newBlock (ob:=ygy ys) (n:=len * es) hfr (w':=w.alloc (.cells out.toArray e)) (ydu w _) sm (by rw [yiz];exact hm) (fun h=>by rw [yvx] at h;cases h)
  (fun ok' lv' k1 k2=>yez.2 (yyf (e:=e) (extra:=[]) (by rw [g2.1,hlen];simp) (by rw [qbe];exact ydo w _) g2 g3 ok' lv' k1 fun i b mm hb hmm=>k2 i b mm hb (by rw [yiz];exact hmm)))
 refine ⟨_,_,rfl,hnew.putOnly hdN (.ls _ rfl fun b n' hb=>?_)⟩;simp only [yjx,if_true,Option.some.injEq,Prod.mk.injEq] at hb;obtain ⟨rfl,rfl⟩:=hb;exact ⟨len,rfl,qbh _,by unfold maxLen;omega,rfl⟩
theorem zkc (hT:TOK P T) {ti e es eb sz len:Nat} {ea ag:Bool} {ez z:List Value} {parts:List (Nat × Operand)} {ps:List (Nat × AV)} {ys:List AV} (id:Nat) (hk:T ti=some ⟨.slc e es ea eb ez,sz,ag,z⟩) (hone:ez.all Value.oneCell'=true)
  (hps:evP (evF (yaj t)) parts=some ps) (hf:zbb (fun i=>some (i * es,es)) (ykr len (yit ez)) ps=some ys) (hlen:ys.length=len * es) (hlim:Nat.ble (len * es) 16777216=true) (hfr:ynd (S t h) id) (hm:ment.mentL id ys=false)
  (hl:lf ⟨some d,.buildSlice ti len parts.toArray,ty,pos,af,gd⟩=true) (hw:yal ops (yaj t) ⟨some d,.buildSlice ti len parts.toArray,ty,pos,af,gd⟩=some true) (hd:Nat.blt d N=true) (k:Lex P N ops lf Q rest (S ((d,.ls id es len)::t) ((id,some (ygy ys))::h))) :
  Lex P N ops lf Q (⟨some d,.buildSlice ti len parts.toArray,ty,pos,af,gd⟩::rest) (S t h):=by
 refine yec hl hw ?_ k;have:=buildM_loud (N:=N) (s:=S t h) (P:=P) hT (o:=⟨some d,.buildSlice ti len parts.toArray,ty,pos,af,gd⟩) id rfl rfl (by simpa using hd) hk hone hps hf hlen hlim hfr hm
 rwa [show (⟨yfk (S t h).t (some d) (.ls id es len),yek (S t h).h id (some (ygy ys))⟩:SS)=S ((d,.ls id es len)::t) ((id,some (ygy ys))::h) from yuc] at this
def ztp (id:Nat) (t:List (Nat × AV)):List (Nat × AV)->Prop
 | []=>True
 | (x,y)::t'=>(yaj t x=some y/\ment id y=false)/\ztp id t t'
theorem yxf {id:Nat} {t:List (Nat × AV)}:ztp id t []:=trivial
theorem yss {id:Nat} {t:List (Nat × AV)} {x:Nat} {y:AV} {t':List (Nat × AV)} (h1:yaj t x=some y) (h2:ment id y=false) (h:ztp id t t'):ztp id t ((x,y)::t'):=⟨⟨h1,h2⟩,h⟩
theorem yop {id:Nat} {t:List (Nat × AV)}:∀ {t':List (Nat × AV)},ztp id t t'->∀ x y,yaj t' x=some y->yaj t x=some y/\ment id y=false
 | [],_,x,y,h=>by simp [yaj] at h
 | (s,z)::t',hs,x,y,h=>by
  simp only [yaj] at h;split at h
  .rename_i e;have e:x=s:=by simpa using e
   subst e;simp only [Option.some.injEq] at h;subst h;exact hs.1
  exact yop hs.2 x y h
theorem zot:∀ {f g:List (Nat × Option LObj)} {M j:Nat} {a b:Option LObj},j≠M->yac (f++(M,a)::g) j=yac (f++(M,b)::g) j
 | [],g,M,j,a,b,h=>by rw [qcn,qcn,yao h,yao h]
 | (x,o)::f,g,M,j,a,b,h=>by
  simp only [qax,yac];split
  .rfl
  exact zot h
def zwq (M:Nat):List (Nat × Option LObj)->Bool
 | []=>true
 | (_,o)::f=>(match o with
  | none=>true
  | some o=>!yeb M o) && zwq M f
theorem zex {M:Nat}:∀ {f:List (Nat × Option LObj)} {j:Nat} {ob:LObj},zwq M f=true->yac f j=some ob->yeb M ob=false
 | [],j,ob,_,h=>by simp [yac] at h
 | (x,o)::f,j,ob,hn,h=>by
  simp only [zwq,qac] at hn;simp only [yac] at h;split at h
  .subst h;simpa using hn.1
  exact zex hn.2 h
theorem ment_matC_self {M sz:Nat} (hM:M < 1000000) (k:Nat) (rows:List (List AV)):ment.mentL M (yfi M sz k rows)=false:=zet k rows fun i _ _=>yde hM
theorem zcw (hT:TOK P T) {ti e eb z0:Nat} {ea ag:Bool} {ez z:List Value} {M n d2 sz k:Nat} {r:List AV} {rows:List (List AV)} {f:List (Nat × Option LObj)} {t':List (Nat × AV)} (hk:T ti=some ⟨.slc e 1 ea eb ez,z0,ag,z⟩) (hx:evF (yaj t) x=some (.ls M 1 n)) (hy:evF (yaj t) y=some (.ls d2 1 1)) (hf:zld f=true) (hM:Nat.blt M 1000000=true) (hd2:Nat.blt d2 1000000=true) (hne:Nat.beq M d2=false) (hkey:(f.all fun x=>!Nat.beq x.1 M)=true) (hkey2:(f.all fun x=>!Nat.beq x.1 d2)=true) (hno:zwq M f=true) (hn:n=rows.length) (hr:r.length / sz=k) (hlim:n+1<=4294967296/\(n+1) * eb<=140737488355328) (ht:ztp M t t') (hl:lf ⟨some d,.call { callee:=.builtin .append,args:=#[x,y],argTypes:=#[ti,ti] },ty,pos,af,gd⟩=true) (hw:yal ops (yaj t) ⟨some d,.call { callee:=.builtin .append,args:=#[x,y],argTypes:=#[ti,ti] },ty,pos,af,gd⟩=some true) (hd:Nat.blt d N=true) (kk:Lex P N ops lf Q rest (S ((d,.ls M 1 (n+1))::t') (f++ybs M sz (rows++[r]) []))):
  Lex P N ops lf Q (⟨some d,.call { callee:=.builtin .append,args:=#[x,y],argTypes:=#[ti,ti] },ty,pos,af,gd⟩::rest) (S t ((d2,some (ygy [.ls (fam M n) sz k]))::(fam M n,some (.vec r))::(f++ybs M sz rows []))):=by
 have hM':M < 1000000:=by simpa using hM
 have hd2':d2 < 1000000:=by simpa using hd2
 have hne':M≠d2:=fun e=>by subst e;simp at hne
 have e0:yac (f++ybs M sz rows []) M=some (ygy (yfi M sz 0 rows)):=by rw [ybt hkey,qbe]
 have hadd:=mat_add (sz:=sz) (rows:=rows) (r:=r) (ex:=[.ls (fam M n) sz k]) (ex':=[]) hf hM' hn (by rw [hr]);have hat:∀ j,j≠M->yac (f++ybs M sz (rows++[r]) []) j=yac ((fam M n,some (.vec r))::(f++ybs M sz rows [])) j:=by
  intro j hj;rw [<- hadd];by_cases hj2:j=fam M n
  .subst hj2;rw [yaz,yaz]
  rw [yao hj2,yao hj2];exact zot hj
 have hnd2:yac (f++ybs M sz rows []) d2=none:=by
  rw [ybh f _ (ynj hkey2),ybs,yao (Ne.symm hne'),yiw M 0 rows fun i _=>yde hd2']
 obtain ⟨g1,g2⟩:(∀ x y,yaj t' x=some y->y=.any\/(yaj t x=some y/\ment M y=false))/\∀ x y,yaj t' x=some y->∃ z,yaj t x=some z:=⟨fun x y h=>.inr (yop ht x y h),fun x y h=>⟨y,(yop ht x y h).1⟩⟩;have e:S ((d,.ls M 1 (n+1))::t') (f++ybs M sz (rows++[r]) [])=(⟨yfk (S t' (f++ybs M sz (rows++[r]) [])).t (some d) (.ls M 1 (n+1)),(S t' (f++ybs M sz (rows++[r]) [])).h⟩:SS):=by
  unfold S;rw [ydh]
 refine yec hl hw ?_ kk;rw [e];refine appendM_loud (id:=M) (id2:=d2) (len:=n) (m:=1) (xs:=yfi M sz 0 rows) (cs:=[.ls (fam M n) sz k]) hT rfl rfl (by simpa using hd) hk hx ?_ (by rw [yem,hn];omega) hy ?_ sm (zpn (ment_matC_self hM' 0 rows)) (fun c hc=>?_) hlim g1 g2 (fun j ob' hj hob=>?_) ?_
 .simp only [S];rw [yao hne',yao (yde hM'),e0]
 .simp only [S];rw [yaz]
 .rcases qaq.1 hc with rfl
  exact ycr (Ne.symm (yde hM'))
 .simp only [S] at hob ⊢;rw [hat j hj] at hob;have hjd:j≠d2:=by
   rintro rfl;rw [yao (yde hd2'),hnd2] at hob;cases hob
  refine ⟨?_,ob',by rw [yao hjd];exact hob,.inl rfl⟩;by_cases hj2:j=fam M n
  .subst hj2;rw [yaz] at hob;cases hob;rfl
  rw [yao hj2] at hob;rcases ydi f (ybs M sz rows []) (j:=j) with h|⟨_,h⟩
  .rw [h] at hob;exact zex hno hob
  rw [h,ybs,yao hj] at hob;by_cases hb:∃ i,j=fam M i
  .obtain ⟨i,rfl⟩:=hb;have:=ylp M 0 i rows;rw [qba] at this;rw [this] at hob;cases hri:rows[i]? with
   | none=>rw [hri] at hob;cases hob
   | some q=>rw [hri] at hob;cases hob;rfl
  rw [yiw M 0 rows fun i _ e=>hb ⟨i,e⟩] at hob;cases hob
 simp only [S];rw [ybt hkey,zeq,qbe,qba,hr,hn]
theorem zmw (hT:TOK P T) {ti e es eb sz:Nat} {ea ag:Bool} {ez z:List Value} {id len:Nat} {xs:List AV} {rows:List (List AV)} {t':List (Nat × AV)} {h0:List (Nat × Option LObj)} (hk:T ti=some ⟨.slc e es ea eb ez,sz,ag,z⟩) (hx:evF (yaj t) x=some (.ls id es len)) (hxl:xs.length=len * es) (hy:evF (yaj t) y=some (.sl es rows)) (hcp:∀ c∈rows.flatten,yar c=true) (hlim:len+rows.length<=4294967296/\(len+rows.length) * eb<=140737488355328) (ht:ztp id t t') (h2:ybv id h0=true) (hl:lf ⟨some d,.call { callee:=.builtin .append,args:=#[x,y],argTypes:=#[ti,ti] },ty,pos,af,gd⟩=true) (hw:yal ops (yaj t) ⟨some d,.call { callee:=.builtin .append,args:=#[x,y],argTypes:=#[ti,ti] },ty,pos,af,gd⟩=some true) (hd:Nat.blt d N=true) (k:Lex P N ops lf Q rest (S ((d,.ls id es (len+rows.length))::t') ((id,some (.vec (xs++rows.flatten)))::h0))):
  Lex P N ops lf Q (⟨some d,.call { callee:=.builtin .append,args:=#[x,y],argTypes:=#[ti,ti] },ty,pos,af,gd⟩::rest) (S t ((id,some (.vec xs))::h0)):=by
 have e:S ((d,.ls id es (len+rows.length))::t') ((id,some (.vec (xs++rows.flatten)))::h0)=(⟨yfk (S t' ((id,some (.vec (xs++rows.flatten)))::h0)).t (some d) (.ls id es (len+rows.length)),(S t' ((id,some (.vec (xs++rows.flatten)))::h0)).h⟩:SS):=by
  unfold S;rw [ydh]
 refine yec hl hw ?_ k;rw [e];refine yow hT rfl rfl (by simpa using hd) hk hx (by simp [S,yac]) hxl hy (fun ok w lv u hr=>zfu hr) hcp hlim (fun x y h=>.inr (yop ht x y h)) (fun x y h=>⟨y,(yop ht x y h).1⟩) (fun j ob' hj hob=>?_) ?_
 .simp only [S] at hob ⊢;rw [yao hj] at hob ⊢;exact ⟨(yer h2).2 j ob' hob,ob',hob,.inl rfl⟩
 simp [S,yac]
theorem A_rename {c:Code} {Q:Exit->SS->Prop} {t t':List (Nat × AV)} {h h':List (Nat × Option LObj)} (d id new:Nat) {sz n:Nat} {r:List AV} (hd:yaj t d=some (.ls id sz n)) (hid:yac h id=some (.vec r)) (hf:ynd (S t h) new) (ht:yxu t t') (hnew:yac h' new=some (.vec r))
  (hh:∀ j ob,j≠new->yac h' j=some ob->j≠id/\yac h j=some ob) (k:A P N c Q (S ((d,.ls new sz n)::t') h')):A P N c Q (S t h):=by
 intro B ok0 lv a w hs;have hne:new≠id:=by rintro rfl;have:=hf.1;simp only [S] at this;rw [hid] at this;cases this
 let lv':Live:=fun j=>if j=new then lv id else if j=id then none else if (yac h' j).isSome then lv j else none
 have hblk:∀ j b m,lv' j=some (b,m)->(j=new/\lv id=some (b,m))\/(j≠new/\j≠id/\(yac h' j).isSome=true/\lv j=some (b,m)):=by
  intro j b m hj;simp only [lv'] at hj;split at hj
  .rename_i e;exact .inl ⟨e,hj⟩
  split at hj
  .cases hj
  split at hj
  .rename_i h1 h2 h3;exact .inr ⟨h1,h2,h3,hj⟩
  cases hj
 have hok:∀ g,yax B ok0 lv w g->yax B ok0 lv' w g:=fun g hg=>⟨hg.1,hg.2.1,fun j b m hj=>by
  rcases hblk j _ m hj with ⟨_,h⟩|⟨_,_,_,h⟩
  .exact hg.2.2 id b m h
  exact hg.2.2 j b m h⟩
 have hrel:∀ (x:AV) (u:Value),ment new x=false->Rel (yax B ok0 lv w) w lv x u->Rel (yax B ok0 lv' w) w lv' x u:=fun x u hm hr=>
  (hr.relive fun j b m hj hmj=>by
   rcases hblk j _ m hj with ⟨rfl,_⟩|⟨_,_,_,h⟩
   .rw [hm] at hmj;cases hmj
   exact h).keep fun g hg=>⟨hok g hg,rfl⟩
 have hobj:∀ (ob:LObj) (b m:Nat),yeb new ob=false->yhl (yax B ok0 lv w) lv w b m ob->yhl (yax B ok0 lv' w) lv' w b m ob:=fun ob b m hm ho=>
  (ho.relive fun j b m hj hmj=>by
   rcases hblk j _ m hj with ⟨rfl,_⟩|⟨_,_,_,h⟩
   .rw [hm] at hmj;cases hmj
   exact h).keep (fun g hg=>⟨hok g hg,rfl⟩) rfl
 refine k B ok0 lv' a w ⟨⟨hs.inv.base,hs.inv.ok0lt,fun j hj=>?_,fun i j b m m' hi hj=>?_,fun j ob hj=>?_⟩,hs.size,fun x y hy=>?_,hs.defers,hs.big,fun j b o hN hj hc hb=>?_⟩
 .simp only [S] at hj;simp only [lv'];split
  .rename_i e;subst e;rw [hnew] at hj;cases hj
  split
  .rfl
  rw [hj];rfl
 .rcases hblk i _ m hi with ⟨rfl,h1⟩|⟨a1,a2,_,h1⟩ <;> rcases hblk j _ m' hj with ⟨rfl,h2⟩|⟨b1,b2,_,h2⟩
  .rfl
  .exact absurd (hs.inv.inj _ _ _ _ _ h1 h2).symm b2
  .exact absurd (hs.inv.inj _ _ _ _ _ h1 h2) a2
  exact hs.inv.inj _ _ _ _ _ h1 h2
 .simp only [S] at hj;by_cases hjn:j=new
  .subst hjn;rw [hnew] at hj;cases hj;obtain ⟨b,m,h1,h2⟩:=hs.inv.obj id (.vec r) hid;refine ⟨b,m,by simp only [lv',if_true];exact h1,?_⟩;cases b with
   | none=>exact h2
   | some b=>exact ⟨h2.1,h2.2.1,hobj _ _ _ rfl h2.2.2⟩
  obtain ⟨hji,hj'⟩:=hh j ob hjn hj;obtain ⟨b,m,h1,h2⟩:=hs.inv.obj j ob hj';refine ⟨b,m,by simp only [lv',if_neg hjn,if_neg hji,hj];exact h1,?_⟩;cases b with
  | none=>exact h2
  | some b=>exact ⟨h2.1,h2.2.1,hobj _ _ _ (hf.2.2 j ob hj') h2.2.2⟩
 .simp only [S,yaj] at hy;split at hy
  .rename_i e;have e:x=d:=by simpa using e
   subst e;simp only [Option.some.injEq] at hy;subst hy;obtain ⟨g1,g2⟩:=hs.frame x _ hd;refine ⟨g1,?_⟩;cases g2 with
   | ls _ h1 h2=>
    refine .ls _ h1 fun b m hb=>?_;rcases hblk new b m hb with ⟨_,h⟩|⟨h,_⟩
    .exact h2 b m h
    exact absurd rfl h
  have hy':=ybo ht x y hy;obtain ⟨g1,g2⟩:=hs.frame x y hy';exact ⟨g1,hrel y _ (hf.2.1 x y hy') g2⟩
 simp only [S] at hj;by_cases hjn:j=new
 .subst hjn;rw [hnew] at hj;cases hj;cases hc
 obtain ⟨hji,hj'⟩:=hh j o hjn hj;obtain ⟨m,h1⟩:=hs.pin j b o hN hj' hc hb;exact ⟨m,by simp only [lv',if_neg hjn,if_neg hji,hj];exact h1⟩
theorem yyn {f:FuncId} {args:List AV} {r r':AV} {hs:Nat->Option LObj} (hc:yot P f args (fun _=>none) r hs) (hp:yar r'=true) (hf:Frz hs r r'):Con P f args r':=by
 refine ⟨hc.1,hp,fun ok0 w us hG hok hus=>?_⟩;have hno:∀ b,¬ ybw (fun _=>none) b:=fun b ⟨_,_,h⟩=>by cases h
 have hi:Inv (yfb w (fun _=>none)) ok0 (fun _=>none) (fun _=>none) w:=⟨⟨rfl,rfl,rfl,qbh _,fun _ _ _=>rfl,hG,hG.size,fun k h=>(hno k h).elim,fun l h=>by cases h⟩,hok,fun _ _=>rfl,(fun i j b n m h=>by cases h),(fun id x h=>by cases h)⟩;refine (hc.2.2 ok0 (fun _=>none) w us hi ⟨hus.1,fun i x u hx hu=>(hus.2 i x u hx hu).keep fun g hg=>⟨⟨.inl hg,hok g hg,fun id b n h=>by cases h⟩,rfl⟩⟩).mono ?_;rintro e w' ⟨u,lv',rfl,h1,h2,_⟩;refine ⟨u,rfl,((hf _ _ _ _ _ h2 h1).keep fun g hg=>⟨⟨?_,hg.2⟩,rfl⟩),?_⟩
 .rcases hg.1 with h|h|h
  .exact .inl h
  .exact (hno g h).elim
  exact .inr h
 have hb:=h2.base;exact ⟨hb.os,hb.tape,hb.output,hb.size,fun k hk=>hb.block k hk (hno k)⟩
theorem xfu (hT:TOK P T) {ti e es eb sz:Nat} {ea ag:Bool} {ez z0:List Value} {id z len:Nat} {ob:LObj} (hk:T ti=some ⟨.slc e es ea eb ez,sz,ag,z0⟩) (hx:evF (yaj t) x=some (.ls id z len)) (hh:yac h id=some ob) (hw:yal ops (yaj t) ⟨some d,.call { callee:=.builtin .len,args:=#[x],argTypes:=#[ti] },ty,pos,af,gd⟩=some true) (hd:Nat.blt d N=true) (k:Lex P N ops lf Q rest (S ((d,.v (.int .i64 len))::t) h)):Lex P N ops lf Q (⟨some d,.call { callee:=.builtin .len,args:=#[x],argTypes:=#[ti] },ty,pos,af,gd⟩::rest) (S t h):=
 ycl (zax (hT _ _ hk).2.2 hx hh) hw hd k
theorem ypd {id x:Nat} {y:AV} {t:List (Nat × AV)} (h1:ment id y=false) (h2:ydg id t=true):ydg id ((x,y)::t)=true:=by simp [ydg,h1,h2]
theorem yul {id i:Nat} {o:LObj} {h:List (Nat × Option LObj)} (h1:id≠i) (h2:yeb id o=false) (h3:ybv id h=true):ybv id ((i,some o)::h)=true:=by simp [ybv,ycr h1,h2,h3]
theorem ywh {d M k s n:Nat} (hd:Nat.blt d 1000000=true):ment d (.ls (fam M k) s n)=false:=ycr (Ne.symm (yde (by simpa using hd)))
end
section
open Go.RowKit
variable {P:Program} {T:Nat->Option Ty} {N:Nat} {ops:Array Oper} {lf:Oper->Bool} {Q:SS->Prop} {t:List (Nat × AV)} {h:List (Nat × Option LObj)} {rest:List Oper} {d:Nat} {ty:TypeId} {pos:String} {af:Array Edge} {gd:Option (Nat × Bool)}
theorem yco.weak {o:Oper} {s s':SS} {R:SS->Prop} (h:∀ (B:Bse) (ok0:Nat->Prop) (lv:Live) (a:Act) (w:World),Sim B ok0 N s lv a w->Sim B ok0 N s' lv a w) (k:yco P N o s' R):yco P N o s R:=
 fun B ok0 lv a w hs Q=>k B ok0 lv a w (h B ok0 lv a w hs) Q
theorem Sim.oneM {B:Bse} {ok0:Nat->Prop} {s:SS} (hs:Sim B ok0 N s lv a w) {id:Nat} {xs:List AV} (i:Nat) (hx:s.h id=some (ygy xs)):Sim B ok0 N ⟨s.t,fun j=>if j=id then some (ygy (xs.set i .one)) else s.h j⟩ lv a w:=by
 refine ⟨⟨hs.inv.base,hs.inv.ok0lt,fun j hj=>?_,hs.inv.inj,fun j x hj=>?_⟩,hs.size,hs.frame,hs.defers,hs.big,fun j b o hN hj hc hb=>?_⟩
 .simp only at hj;split at hj
  .cases hj
  exact hs.inv.dom j hj
 .simp only at hj;split at hj
  .rename_i e;subst e;simp only [Option.some.injEq] at hj;subst hj;obtain ⟨b,n,h1,h2⟩:=hs.inv.obj j _ hx;refine ⟨b,n,h1,?_⟩;cases b with
   | none=>rw [ygs h2];exact .inl rfl
   | some b=>
    obtain ⟨c,e,g1,g2,g3,g4,g5⟩:=yez.1 h2.2.2;refine ⟨h2.1,h2.2.1,yez.2 ⟨c,e,g1,g2,by rw [qfw];exact g3,fun y hy=>?_,fun k y u hy hu=>?_⟩⟩
    .rcases qet hy with hy|rfl
     .exact g4 y hy
     rfl
    rw [qcy] at hy;split at hy
    .rename_i e;subst e;split at hy
     .rename_i hlt;simp only [Option.some.injEq] at hy;subst hy;have hg:=qae hlt;exact .one _ ((g5 i _ u hg hu).oneCell (g4 _ (qfs hlt)))
     cases hy
    exact g5 k y u hy hu
  exact hs.inv.obj j x hj
 simp only at hj;split at hj
 .simp only [Option.some.injEq] at hj;subst hj;rw [yvx] at hc;cases hc
 exact hs.pin j b o hN hj hc hb
theorem zed {f:List (Nat × Option LObj)} {M j:Nat} {o ob:LObj} {rows:List (List AV)} (h:yac (f++(M,some o)::ypy M 0 rows) j=some ob):yac f j=some ob\/(j=M/\(∀ x∈f,x.1≠j)/\ob=o)\/∃ (k:Nat) (r:List AV),j=fam M k/\rows[k]?=some r/\ob=.vec r:=by
 rcases ydi f ((M,some o)::ypy M 0 rows) (j:=j) with e|⟨hne,e⟩
 .rw [e] at h;exact .inl h
 rw [e] at h;by_cases hj:j=M
 .subst hj;rw [yaz] at h;cases h;exact .inr (.inl ⟨rfl,hne,rfl⟩)
 rw [yao hj] at h;by_cases hf:∃ k,j=fam M k
 .obtain ⟨k,rfl⟩:=hf;have:=ylp M 0 k rows;rw [qba] at this;rw [this] at h;cases hr:rows[k]? with
  | none=>rw [hr] at h;cases h
  | some r=>rw [hr] at h;cases h;exact .inr (.inr ⟨k,r,rfl,hr,rfl⟩)
 rw [yiw M 0 rows fun i _ e=>hf ⟨i,e⟩] at h;cases h
theorem zle:∀ {l:List AV},yqu.lowL l=true->∀ x∈l,yqu x=true
 | y::l,h,x,hx=>by
  simp only [yqu.lowL,qac] at h;rcases qas.1 hx with rfl|hx
  .exact h.1
  exact zle h.2 x hx
theorem matC_mem {M sz:Nat} {k:Nat} {rows:List (List AV)} {x:AV} (h:x∈yfi M sz k rows):∃ i n,x=.ls (fam M (k+i)) sz n:=by
 obtain ⟨i,hi⟩:=qan h;rw [yel] at hi;cases hr:rows[i]? with
 | none=>rw [hr] at hi;cases hi
 | some r=>rw [hr] at hi;cases hi;exact ⟨i,_,rfl⟩
theorem ment_hole {M sz i:Nat} {rows:List (List AV)} {extra:List AV} (he:yqu.lowL extra=true):∀ x∈(yfi M sz 0 rows++extra).set i .one,ment (fam M i) x=false:=by
 intro x hx;obtain ⟨j,hj⟩:=qan hx;rw [qcy] at hj;split at hj
 .split at hj
  .cases hj;rfl
  cases hj
 rename_i hne;rcases qau.1 (qab hj) with hm|hm
 .have hlt:j < (yfi M sz 0 rows).length\/(yfi M sz 0 rows).length<=j:=by omega
  rcases hlt with hlt|hlt
  .rw [qam hlt,yel] at hj;cases hr:rows[j]? with
   | none=>rw [hr] at hj;cases hj
   | some r=>
    rw [hr] at hj;cases hj;exact ycr fun e=>hne (by have:=yuh e;omega)
  rw [qai hlt] at hj;exact yqu.ment (ygf M i) (zle he x (qab hj))
 exact yqu.ment (ygf M i) (zle he x hm)
theorem yco.sub {o:Oper} {s s1 s2:SS} (h:yco P N o s (·=s1)) (hs:Sub s2 s1):yco P N o s (·=s2):=
 fun B ok0 lv a w h0 Q=>Oper.wp_mono (fun a' w' ⟨s',lv',e,hs'⟩=>by
  subst e
  obtain ⟨lv'',h2⟩:=hs'.weak hs
  exact ⟨s2,lv'',rfl,h2⟩) (h B ok0 lv a w h0 Q)
theorem zal {o:Oper} {s:SS} {ti e es eb sz len M i:Nat} {ea ag:Bool} {ez z:List Value} {r:List AV} {rows news:List (List AV)} {extra:List AV} {f:List (Nat × Option LObj)} {t':Nat->Option AV} (hT:TOK P T) (ht:∀ x y,t' x=some y->y=.any\/(s.t x=some y/\ment (fam M i) y=false)) (hlt9:∀ x y,t' x=some y->∃ z,s.t x=some z) (ho:o.op=.call { callee:=.builtin .append,args:=#[x,y],argTypes:=#[ti,ti] }) (hdo:o.dst=some d) (hk:T ti=some ⟨.slc e es ea eb ez,sz,ag,z⟩) (hx:evF s.t x=some (.ls (fam M i) es len)) (hr:rows[i]?=some r) (hxl:r.length=len * es) (hy:evF s.t y=some (.sl es news)) (hcp:∀ c∈news.flatten,yar c=true) (hlim:len+news.length<=4294967296/\(len+news.length) * eb<=140737488355328) (hsh:s.h=yac (f++ybs M es rows extra)) (hf:zpj f=true) (hM:Nat.blt M 1000000=true) (hkey:(f.all fun x=>!Nat.beq x.1 M)=true) (he:yqu.lowL extra=true) (hd:Nat.blt d N=true):
  yco P N o s (·=⟨yfk t' (some d) (.ls (fam M i) es (len+news.length)),yac (f++(M,some (ygy ((yfi M es 0 rows++extra).set i .one)))::ypy M 0 (rows.set i (r++news.flatten)))⟩):=by
 have hM':M < 1000000:=by simpa using hM
 have hfl:=ysg hf;have hkn:=ynj hkey;have hlt:=(qaa.1 hr).1;generalize hys:(yfi M es 0 rows++extra).set i .one=ys;have hout:yac (f++ybs M es rows extra) M=some (ygy (yfi M es 0 rows++extra)):=ybt hkey;refine yco.weak (fun B ok0 lv a w hs=>hs.oneM i (id:=M) (by rw [hsh];exact hout)) ?_;refine yow (s':=⟨t',yac (f++(M,some (ygy ys))::ypy M 0 (rows.set i (r++news.flatten)))⟩) hT ho hdo (by simpa using hd) hk hx ?_ hxl hy (fun ok w lv u hr=>zfu hr) hcp hlim ht hlt9 (fun j ob' hj hob=>?_) ?_
 .simp only [if_neg (Ne.symm (yde (k:=i) hM')),hsh];exact ylw hfl hM' hr
 .rcases zed hob with g|⟨rfl,hne,rfl⟩|⟨k,r',rfl,hr',rfl⟩
  .obtain ⟨q1,q2⟩:=ylu hf j _ g;have hjM:j≠M:=fun e9=>by
    subst e9;have:=ybh f (ybs j es rows extra) (j:=j) hkn;rw [yew (g:=ybs j es rows extra) g] at this;rw [yex] at this;cases this;rcases ydi f [] (j:=j) with e|⟨hne,e⟩
    .have h9:∀ (f:List (Nat × Option LObj)),(∀ x∈f,x.1≠j)->yac f j=none:=fun f=>by
      induction f with
      | nil=>intro _;rfl
      | cons p f ih=>
       intro hp;obtain ⟨p1,p2⟩:=p;rw [yao (Ne.symm (hp (p1,p2) sm))];exact ih fun x hx=>hp x (by simp [hx])
     rw [h9 f hkn] at g;cases g
    rw [qbe] at e;rw [e] at g;cases g
   refine ⟨zzr.ment (ygf M i) q1,ob',?_,.inl rfl⟩;simp only [if_neg hjM,hsh];exact yew g
  .refine ⟨?_,_,by simp only [if_true];rfl,.inl (by rw [hys])⟩;rw [yiz,<- hys];exact ygh (ment_hole he)
  have hki:k≠i:=fun e=>hj (by rw [e]);refine ⟨rfl,.vec r',?_,.inl rfl⟩;simp only [if_neg (Ne.symm (yde (k:=k) hM')),hsh];rw [qho (Ne.symm hki)] at hr';exact ylw hfl hM' hr'
 show yac (f++(M,some (ygy ys))::ypy M 0 (rows.set i (r++news.flatten))) (fam M i)=_;rw [ybh f _ (fun x hx e=>by have:=yhf hfl x hx;have:=ygf M i;omega),yao (Ne.symm (yde hM'))];have:=ylp M 0 i (rows.set i (r++news.flatten));rw [qba] at this;rw [this,qdy hlt];rfl
theorem zvv {f:List (Nat × Option LObj)} {M sz i n:Nat} {rows:List (List AV)} {extra r':List AV} (hf:zld f=true) (hM:M < 1000000) (hkey:(f.all fun x=>!Nat.beq x.1 M)=true) (hi:i < rows.length) (hn:r'.length / sz=n) :
  yac ((M,some (ygy (((yfi M sz 0 rows++extra).set i .one).set i (.ls (fam M i) sz n))))::(f++(M,some (ygy ((yfi M sz 0 rows++extra).set i .one)))::ypy M 0 (rows.set i r')))=yac (f++ybs M sz (rows.set i r') extra):=by
 have hkn:=ynj hkey;have e:((yfi M sz 0 rows++extra).set i .one).set i (.ls (fam M i) sz n)=yfi M sz 0 (rows.set i r')++extra:=by
  rw [qhp,List.set_append_left _ _ (by rw [yem];exact hi)];congr 1;apply qdm;intro j;rw [qcy,yem,yel,yel,qcy];by_cases hj:i=j
  .subst hj;simp [hi,hn]
  simp [hj]
 rw [e];funext j;by_cases hj:j=M
 .subst hj;rw [yaz,ybt hkey]
 rw [yao hj];rcases ydi f ((M,some (ygy ((yfi M sz 0 rows++extra).set i .one)))::ypy M 0 (rows.set i r')) (j:=j) with g|⟨hne,g⟩
 .by_cases hf':∃ x∈f,x.1=j
  .have:∀ (f:List (Nat × Option LObj)) (g1 g2:List (Nat × Option LObj)),(∃ x∈f,x.1=j)->yac (f++g1) j=yac (f++g2) j:=by
    intro f;induction f with
    | nil=>rintro g1 g2 ⟨x,hx,_⟩;cases hx
    | cons p f ih=>
     intro g1 g2 hx;obtain ⟨p1,p2⟩:=p;by_cases hp:j=p1
     .subst hp;rw [qax,qax,yaz,yaz]
     rw [qax,qax,yao hp,yao hp];obtain ⟨x,hx,hxj⟩:=hx;rcases qas.1 hx with rfl|hx
     .exact absurd hxj.symm hp
     exact ih g1 g2 ⟨x,hx,hxj⟩
   exact this f _ _ hf'
  have hne:∀ x∈f,x.1≠j:=fun x hx e=>hf' ⟨x,hx,e⟩;rw [ybh f _ hne,ybh f _ hne,ybs,yao hj,yao hj]
 rw [g,ybh f _ hne,ybs,yao hj,yao hj]
theorem zmu {c:Code} {Q:Exit->SS->Prop} {f:List (Nat × Option LObj)} (M sz n:Nat) (hf:zpj f=true) (ht:xel t=true) (hM:Nat.blt M 1000000=true) (hkey:(f.all fun x=>!Nat.beq x.1 M)=true)
  (hh:yac h=yac (f++[(M,some (ygy (List.replicate n (.v (.slice none 0 0)))))])) (k:A P N c Q (S t (f++ybs M sz (List.replicate n []) []))):A P N c Q (S t h):=by
 rw [show S t h=S t (f++[(M,some (ygy (List.replicate n (.v (.slice none 0 0)))))]) by unfold S;rw [hh]];intro B ok0 lv a w hs;have hM':M < 1000000:=by simpa using hM
 have hfl:=ysg hf;have hkn:=ynj hkey
 let lv':Live:=fun j=>match yac (ypy M 0 (List.replicate n ([]:List AV))) j with|some _=>some (none,0)|none=>lv j
 have hlv:∀ j b m,lv' j=some (b,m)->(b=none/\m=0/\∃ i,j=fam M i)\/lv j=some (b,m):=by
  intro j b m hj;simp only [lv'] at hj;split at hj
  .rename_i ob ho;cases hj;refine .inl ⟨rfl,rfl,?_⟩;by_cases hfm:∃ k,j=fam M k
   .exact hfm
   rw [yiw M 0 _ fun i _ e=>hfm ⟨i,e⟩] at ho;cases ho
  exact .inr hj
 have hlow:∀ j,j < 1000000->lv' j=lv j:=by
  intro j hj;simp only [lv'];rw [yiw M 0 _ fun i _ e=>by have:=ygf M i;omega]
 have hok:∀ g,yax B ok0 lv w g->yax B ok0 lv' w g:=fun g hg=>⟨hg.1,hg.2.1,fun j b m hj=>by
  rcases hlv j _ m hj with ⟨h,_⟩|h
  .cases h
  exact hg.2.2 j b m h⟩
 have hre:∀ (x:AV) (u:Value),yqu x=true->Rel (yax B ok0 lv w) w lv x u->Rel (yax B ok0 lv' w) w lv' x u:=fun x u hx hr=>
  (hr.relive fun j b m hj hm=>by
   rcases hlv j b m hj with ⟨_,_,i,rfl⟩|h
   .rw [yqu.ment (ygf M i) hx] at hm;cases hm
   exact h).keep fun g hg=>⟨hok g hg,rfl⟩
 have hfam:∀ i,lv (fam M i)=none:=fun i=>hs.inv.dom _ (by
  show yac (f++_) _=none
  rw [ybh f _ (fun x hx e=>by have:=yhf hfl x hx;have:=ygf M i;omega),yao (Ne.symm (yde hM'))]
  rfl)
 refine k B ok0 lv' a w ⟨⟨hs.inv.base,hs.inv.ok0lt,fun j hj=>?_,fun i j b m q h1 h2=>?_,fun j x hj=>?_⟩,hs.size,fun x y hy=>⟨(hs.frame x y hy).1,hre y _ (ywd ht x y hy) (hs.frame x y hy).2⟩,hs.defers,hs.big,fun j b o hN hj hc hb=>?_⟩
 .simp only [S] at hj;by_cases hfm:∃ k,j=fam M k
  .obtain ⟨i,rfl⟩:=hfm;rw [zit hfl hM'] at hj;simp only [lv'];have e:=ylp M 0 i (List.replicate n ([]:List AV));rw [qba] at e;rw [e,hj];exact hfam i
  have e1:lv' j=lv j:=by
   simp only [lv'];rw [yiw M 0 _ fun i _ e=>hfm ⟨i,e⟩]
  rw [e1];refine hs.inv.dom j ?_;show yac (f++[_]) j=none;rcases ydi f [(M,some (ygy (List.replicate n (.v (.slice none 0 0)))))] (j:=j) with e|⟨hne,e⟩
  .rw [e];cases hq:yac f j with
   | none=>rfl
   | some o=>rw [yew (g:=ybs M sz (List.replicate n []) []) hq] at hj;cases hj
  rw [ybh f _ hne] at hj;rw [e];by_cases hjM:j=M
  .subst hjM;rw [yex] at hj;cases hj
  rw [yao hjM];rfl
 .rcases hlv i _ m h1 with ⟨h,_⟩|h1
  .cases h
  rcases hlv j _ q h2 with ⟨h,_⟩|h2
  .cases h
  exact hs.inv.inj i j b m q h1 h2
 .rcases zed hj with g|⟨rfl,hne,rfl⟩|⟨i,r,rfl,hr,rfl⟩
  .obtain ⟨q1,q2⟩:=ylu hf j _ g;obtain ⟨b,m,h1,h2⟩:=hs.inv.obj j x (yew g);refine ⟨b,m,by rw [hlow j q2];exact h1,?_⟩;cases b with
   | none=>exact h2
   | some b=>
    refine ⟨h2.1,h2.2.1,(h2.2.2.relive fun q b m hq hm=>?_).keep (fun g hg=>⟨hok g hg,rfl⟩) rfl⟩;rcases hlv q _ m hq with ⟨_,_,i,rfl⟩|h
    .rw [zzr.ment (ygf M i) q1] at hm;cases hm
    exact h
  .obtain ⟨b,m,h1,h2⟩:=hs.inv.obj j (ygy (List.replicate n (.v (.slice none 0 0)))) (by
    show yac (f++[_]) j=_
    rw [ybh f _ hne,yaz])
   refine ⟨b,m,by rw [hlow j hM'];exact h1,?_⟩;rw [qbe];cases b with
   | none=>
    have e:=ygs h2;cases n with
    | zero=>exact .inl rfl
    | succ n=>simp [qbo] at e
   | some b=>
    obtain ⟨c,e,g1,g2,g3,g4,g5⟩:=yez.1 h2.2.2;refine ⟨h2.1,h2.2.1,yez.2 ⟨c,e,g1,g2,by rw [yem,qdk];rw [qdk] at g3;exact g3,fun y hy=>?_,fun q y u hy hu=>?_⟩⟩
    .obtain ⟨i,m,rfl⟩:=matC_mem hy;rfl
    rw [yel,qek] at hy;split at hy
    .rename_i hlt;simp only [qar,Option.some.injEq,qeb,Nat.zero_div,qba] at hy;subst hy;have h5:=ykf (g5 q _ u (by rw [qek,if_pos hlt]) hu);subst h5;refine .ls _ rfl fun b m hb=>?_;have e:=ylp j 0 q (List.replicate n ([]:List AV));rw [qba,qek,if_pos hlt] at e;simp only [lv',e,qar] at hb;cases hb;exact ⟨rfl,rfl⟩
    cases hy
  rw [qek] at hr;split at hr
  .rename_i hlt;cases hr;refine ⟨none,0,?_,.inl rfl⟩;have e:=ylp M 0 i (List.replicate n ([]:List AV));rw [qba,qek,if_pos hlt] at e;simp only [lv',e,qar]
  cases hr
 rcases zed hj with g|⟨rfl,hne,rfl⟩|⟨i,r,rfl,hr,rfl⟩
 .obtain ⟨m,hm⟩:=hs.pin j b o hN (yew g) hc hb;exact ⟨m,by rw [hlow j (ylu hf j _ g).2];exact hm⟩
 .rw [yvx] at hc;cases hc
 cases hc
end
section
open Go.RowKit
section
variable {P:Program} {N:Nat} {ops:Array Oper} {lf:Oper->Bool} {Q:SS->Prop}
structure TwoI (vals:List (Nat × Nat × AV)) (base:List (Nat × AV)) (mem:List (Nat × LObj)) (a b ia ib ja jb:Nat) (za zb ca cb:LObj) (L:Nat->Bool) (s:SS):Prop where
 calm:∀ x∈vals,L x.1=true->s.t x.2.1=some x.2.2
 base:∀ x∈base,s.t x.1=some x.2
 mem:∀ x∈mem,s.h x.1=some x.2
 fa:L ia=false->ynd s a
 fb:L ib=false->ynd s b
 ta:L ia=true->s.t a=some (.lp a 0)
 tb:L ib=true->s.t b=some (.lp b 0)
 ha:L ia=true->s.h a=some (if L ja then ca else za)
 hb:L ib=true->s.h b=some (if L jb then cb else zb)
 oa:L ja=true->L ia=true
 ob:L jb=true->L ib=true
variable {vals:List (Nat × Nat × AV)} {base:List (Nat × AV)} {mem:List (Nat × LObj)} {a b ia ib ja jb:Nat} {za zb ca cb:LObj} {L:Nat->Bool} {s:SS}
theorem TwoI.swap (h:TwoI vals base mem a b ia ib ja jb za zb ca cb L s):TwoI vals base mem b a ib ia jb ja zb za cb ca L s:=⟨h.calm,h.base,h.mem,h.fb,h.fa,h.tb,h.ta,h.hb,h.ha,h.ob,h.oa⟩
theorem aOp_calm {K:SS->Prop} {i:Nat} {o:Oper} {r:AV} (ho:ops[i]?=some o) (hd:yxw N o) (hg:o.guard=none) (hy:yby P s.h (evF s.t) o.op o.type r) (k:K ⟨yfk s.t o.dst r,s.h⟩):aOp P N ops lf i K s:=by
 unfold aOp;simp only [ho];refine ⟨hd,.inl ⟨r,.inl ⟨?_,hy⟩,k⟩⟩;unfold yal;rw [hg]
theorem aOp_loud {K:SS->Prop} {i:Nat} {o:Oper} {s':SS} (ho:ops[i]?=some o) (hd:yxw N o) (hg:o.guard=none) (hl:lf o=true) (hy:yco P N o s (·=s')) (k:K s'):aOp P N ops lf i K s:=by
 unfold aOp;simp only [ho];refine ⟨hd,.inr ⟨hl,?_,_,hy,fun s2 e=>e ▸ k⟩⟩;unfold yal;rw [hg]
def znn:Nat->List Oper->Bool
 | _,[]=>true
 | k,o::l=>(o.after.toList.all fun e=>!(Region.binds .any e) || Nat.blt e.on k) && znn (k+1) l
theorem zdg:∀ {l:List Oper} {j:Nat},znn j l=true->∀ (k:Nat) (o:Oper),l[k]?=some o->∀ e∈o.after,Region.binds .any e=true->e.on < j+k
 | [],j,_,k,o,ho,_,_,_=>by simp at ho
 | o1::l,j,h,0,o,ho,e,he,hb=>by
  simp only [qat,Option.some.injEq] at ho;subst ho;simp only [znn,qac,List.all_eq_true] at h;have:=h.1 e (by simpa using he);simpa [hb] using this
 | o1::l,j,h,k+1,o,ho,e,he,hb=>by
  simp only [qce] at ho;simp only [znn,qac] at h;have:=zdg h.2 k o ho e he hb;omega
theorem zwh:∀ {t:List (Nat × AV)} {x:Nat} {y:AV},yaj t x=some y->(x,y)∈t
 | [],x,y,h=>by simp [yaj] at h
 | (a,b)::t,x,y,h=>by
  simp only [yaj] at h;cases hb:Nat.beq x a with
  | true=>
   rw [hb] at h;simp only [Option.some.injEq] at h;subst h;rw [qaf hb];simp
  | false=>rw [hb] at h;exact qap _ (zwh h)
end
end
end Go.Proofs.YtgpodcjhgdionaaGreatDoor
