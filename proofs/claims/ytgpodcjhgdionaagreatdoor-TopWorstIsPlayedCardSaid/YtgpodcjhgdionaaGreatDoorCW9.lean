/- Part 9 of the texts under TopWorstIsPlayed. -/
import Derived.Test.YtgpodcjhgdionaaGreatDoorCW4
import Derived.Test.YtgpodcjhgdionaaGreatDoorCW5
import Derived.Test.YtgpodcjhgdionaaGreatDoorCW6
import Derived.Test.YtgpodcjhgdionaaGreatDoorCW7
import Derived.Test.YtgpodcjhgdionaaGreatDoorCW8
set_option linter.unusedVariables false
set_option maxRecDepth 100000
set_option maxHeartbeats 8000000
namespace Go.Proofs.YtgpodcjhgdionaaGreatDoor
open Go.Proofs.Tryz
variable{g:GraphD}{α:Type}{rows:List (List AV)}{k d i n:Nat}{p:ProgD}{P:Program}{s:ByteArray}{deg:Int}{a:Act}{u:Value}{w:World}{y:VarD}{l:List α}{f:α->Bool}{x:α}
section
open Go.RowKit
theorem zbs(h:k < l.length):∃ x,l[k]?=some x:=⟨_,qae h⟩
theorem zhf(h:l[i]?=some x):l.take (i+1)=l.take i++[x]:=by
 rw[qfn,h];rfl
theorem zzw(h:l[i]?=some x):(l.take (i+1)).all f=((l.take i).all f && f x):=by
 rw[zhf h,qfa];simp
theorem xkl{f:α->AV}:∀ l:List α,(l.map fun x=>[f x]).flatten=l.map f
 | []=>rfl
 | a::l=>by simp[xkl l]
theorem set_fillK{xs:List Int}(v:Int)(hk:k < n)(hx:xs.length=k):((xs++List.replicate (n - k) 0).map i64).set ((k:Int).toNat * 1) (i64 v)=((xs++[v])++List.replicate (n - (k+1)) 0).map i64:=by
 have e:List.replicate (n - k) (0:Int)=0::List.replicate (n - (k+1)) 0:=by rw[<- qbq];congr 1;omega
 rw[e];simp[<- hx]
theorem repK(n:Nat)(x:AV):ykx n [x]=List.replicate n x:=by
 induction n with
 | zero=>rfl
 | succ n ih=>rw[qbq,<- ih];rfl
def pgK(p:ProgD):List (Nat × Option LObj):=[(1,some (.cells [ykp p.name,.sl 6 (p.vars.map ybl),.sl 3 (p.rules.map ybc)]))]
theorem kinds_con(p:ProgD)(h6:p.vars.length<=1000):Con prog 104 [ygg p] (yai (ybq p)):=by
 refine ze Tryz.func104 ntmps104 Tryz.results104 ?_
 (repeat (first|refine zy ?_|refine yph tok rfl rfl rfl rfl co rfl rfl rfl rfl rfl ?_))
 refine ybj (α:=Nat) (fun k=>[(13,i64 k),(12,i64 p.vars.length),(11,.sl 6 (p.vars.map ybl)),(3,.ls 9 1 p.vars.length)]) (fun k=>[(9,some (.vec (((ybq p).take k++List.replicate (p.vars.length - k) 0).map i64)))]) (fun k=>p.vars.length - k) (fun k=>k<=p.vars.length) 0 om zs ?_ ?_
 .refine yab ?_ yag;rw[show ykx p.vars.length (yhw [Value.int .i64 0])=(List.replicate p.vars.length 0).map i64 from(repK _ _).trans (by simp[i64])];simp[yac]
 intro k hk;refine zY ?_;refine zj ?_ ?_ <;> intro h1
 .have h1:k < p.vars.length:=by simpa using h1
  obtain⟨x,hx⟩:=zbs h1;have hkx:(ybq p)[k]?=some x.kind:=by simp[ybq,hx]
  have hkl:((ybq p).take k).length=k:=by simp[ybq];omega
  refine zY ?_;refine yat tok rfl rfl rfl rfl om om rfl rfl ?_;refine yom tok rfl rfl rfl rfl rfl rfl (by simp[ybq];omega) rfl rfl rfl ?_;refine zY ?_;refine rnd (k+1) om om zs ?_;refine yab ?_ yag;rw[zhf hkx];exact congrArg (fun x=>some (LObj.vec x)) (set_fillK x.kind h1 hkl)
 have h1:k=p.vars.length:=by simp at h1;omega
 subst h1
 repeat (first|refine ydu ?_|refine ype ?_)
 refine zbg 3 ((ybq p).map fun z=>[i64 z]) rfl rfl (by simp[ybq]) (fun row hr=>by obtain⟨a,_,rfl⟩:=qag.1 hr;rfl) (by rw[xkl,qbm,qho,qba,qal (by simp[ybq])]) rfl rfl ?_;exact zkp
theorem typed_con(r:RuleD)(kinds:List Int)(hl:zob r)(hk:kinds.length<=1000)(hvar:∀ s∈r.sets,0<=s.var/\s.var < kinds.length):Con prog 143 [.agg (ybc r),yai kinds] (yau (ykq r kinds)):=by
 obtain⟨hl1,hl2,hl3⟩:=hl;have hg:=xhf r.guard kinds false hl1;refine ze Tryz.func143 ntmps143 Tryz.results143 ?_;refine zZ ?_;refine zj ?_ ?_ <;> intro q1
 .refine zk ?_;exact yae (by rw[ykq,beq_eq_false_iff_ne.2 (by simpa using q1)];rfl)
 have q1:((ofF r.guard kinds false).1 == 2)=true:=by simpa using q1
 refine zY ?_;refine ybj (α:=Nat) (fun k=>[(23,i64 k),(22,i64 r.sets.length),(21,.sl 2 (r.sets.map zid)),(1,yai kinds)]) (fun k=>[]) (fun k=>r.sets.length - k) (fun k=>k<=r.sets.length/\(r.sets.take k).all (fun s=>(ofF s.val kinds false).1 == kinds.getD s.var.toNat 0)=true) 0 ⟨om,rfl⟩ zs yag ?_;rintro k ⟨hk1,hall⟩;refine zY ?_;refine zj ?_ ?_ <;> intro q2
 .have q2:k < r.sets.length:=by simpa using q2
  obtain⟨x,hx⟩:=zbs q2;have hxm:=qab hx;obtain⟨hv0,hv1⟩:=hvar x hxm;obtain⟨kd,hkd⟩:=zbs (show x.var.toNat < kinds.length by omega);have hgd:kinds.getD x.var.toNat 0=kd:=by rw[qac,hkd];rfl
  (repeat (first|refine zy ?_|refine zc (xhf x.val kinds false (hl3 x hxm)) ?_))
  refine zj ?_ ?_ <;> intro q3
  .refine zk ?_;exact yae (by rw[ykq,qcm.2 ⟨x,hxm,by rw[hgd];simpa using q3⟩,qci])
  refine zY ?_;exact rnd (k+1) ⟨om,by rw[zzw hx,hall,hgd];simpa using q3⟩ om zs yag
 rw[qal (by simpa using q2)]at hall;refine zk ?_;exact yae (by rw[ykq,q1,hall];rfl)
def xge{α:Type}(f:α->Value)(l:List α):List (Value × Value):=l.map fun x=>(f x,.bool true)
theorem xbw(p:Prop):∃ b:Bool,b=true<->p:=by
 by_cases h:p
 .exact ⟨true,by simp[h]⟩
 exact⟨false,by simp[h]⟩
theorem yze{f:α->Value}{b:Bool}(hf:∀ a b,f a=f b->a=b)(hb:b=true<->x∈l):Found (.bool false) (xge f l) (f x) (.bool b) b:=by
 cases b with
 | true=>exact .hit ⟨_,qag.2 ⟨x,hb.1 rfl,rfl⟩,rfl⟩ fun e he _=>by obtain⟨y,_,rfl⟩:=qag.1 he;rfl
 | false=>exact .miss fun e he hk=>by obtain⟨y,hy,rfl⟩:=qag.1 he;exact absurd (hb.2 (hf _ _ hk ▸ hy)) sm
theorem zmz{f:α->Value}(hf:∀ a b,f a=f b->a=b)(h:x ∉ l):∀ e∈xge f l,e.1≠f x:=fun e he hk=>by
 obtain⟨y,hy,rfl⟩:=qag.1 he;exact h (hf _ _ hk ▸ hy)
theorem zmy{T:TypeId}{f:α->Value}(h:∀ x∈l,∃ k,keyOf P T (f x)=some k):∀ e∈xge f l,∃ k,keyOf P T e.1=some k:=fun e he=>by
 obtain⟨y,hy,rfl⟩:=qag.1 he;exact h y hy
theorem zxv{l:List ByteArray}(hk:l[k]?=some s)(h:yku s=false):ygl l=false:=by
 obtain⟨h1,h2⟩:=qaa.1 hk;exact names_bad k h1 (by rw[h2];exact h)
theorem zcd{l:List ByteArray}{j:Nat}(hjk:j < k)(hk:l[k]?=some s)(hj:l[j]?=some s):ygl l=false:=by
 obtain⟨h1,h2⟩:=qaa.1 hk;obtain⟨h3,h4⟩:=qaa.1 hj;exact names_twice j k hjk h1 (by rw[h2,h4])
theorem zmh{l:List ByteArray}(hk:l[k]?=some s)(h:ygl (l.take k)=true)(h1:yku s=true)(h2:∀ y∈l.take k,y≠s):ygl (l.take (k+1))=true:=by
 obtain⟨h3,h4⟩:=qaa.1 hk;refine names_step k h3 h (by rw[h4];exact h1) fun hm=>?_;obtain⟨y,hy,he⟩:=qag.1 hm;exact h2 y hy (by rw[h4]at he;exact zmg he)
theorem zji(p:ProgD)(hin:yjt p)(h6:p.vars.length<=1000)(h12:p.rules.length<=1000):Con prog 140 [ygg p] (yau (ygx p)):=by
 have h0:=zet p.name;refine ze Tryz.func140 ntmps140 Tryz.results140 ?_;refine zZ ?_;refine zj ?_ ?_ <;> intro q0
 .refine zk ?_;exact yae (by rw[ygx,show yku p.name=false by simpa using q0];rfl)
 have hb:ygx p=(ygl (p.vars.map (·.name)) && ygl (p.rules.map (·.name))):=by rw[ygx,show yku p.name=true by simpa using q0];rfl
 (repeat (first|refine zy ?_|refine yuy rfl rfl rfl rfl rfl ?_))
 refine ybj (α:=Nat) (fun k=>[(17,i64 k),(16,i64 p.vars.length),(15,.sl 6 (p.vars.map ybl)),(3,.mp 13),(1,.lp 1 0)]) (fun k=>(13,some (.map (xge .string ((p.vars.map (·.name)).take k))))::pgK p) (fun k=>p.vars.length - k) (fun k=>k<=p.vars.length/\ygl ((p.vars.map (·.name)).take k)=true) 0 ⟨om,rfl⟩ zs zh ?_;rintro k ⟨hk1,hall⟩;refine zY ?_;refine zj ?_ ?_ <;> intro q1
 .have q1:k < p.vars.length:=by simpa using q1
  obtain⟨x,hx⟩:=zbs q1;have hxn:=(hin.2.1 x (qab hx)).1;have hn:=zet x.name;have hl:(p.vars.map (·.name))[k]?=some x.name:=by simp[hx]
  obtain⟨b,hm⟩:=xbw (x.name∈(p.vars.map (·.name)).take k);have hks:=zmy (l:=(p.vars.map (·.name)).take k) fun s hs=>by
   obtain⟨y,hy,rfl⟩:=qag.1 (qcv hs);exact⟨_,yny y.name (hin.2.1 y hy).1⟩
  refine zZ ?_;refine yaj 25 rfl (fun q2=>?_) (fun q2=>?_)
  .refine zk ?_;exact yae (by rw[hb,zxv hl (by simpa using q2)];rfl)
  (repeat (first|refine zy ?_|refine ylk underlying272 yox rfl rfl rfl rfl hks (yny x.name hxn) zno (yze (fun a b e=>by cases e;rfl) hm) rfl rfl ?_))
  refine zj ?_ ?_ <;> intro q3
  .refine zk ?_;obtain⟨j,hj⟩:=qao (hm.1 q3);obtain⟨hj1,hj2⟩:=qaa.1 hj;exact yae (by rw[hb,zcd (j:=j) (by simp at hj1;omega) hl (by rw[<- hj,qbc,if_pos (by simp at hj1;omega)])];rfl)
  have q3:x.name ∉ (p.vars.map (·.name)).take k:=fun h=>by rw[hm.2 h]at q3;cases q3
  (repeat (first|refine zy ?_|refine yol underlying272 yox rfl rfl rfl rfl rfl rfl hks (yny x.name hxn) (zmz (fun a b e=>by cases e;rfl) q3) rfl rfl ?_))
  refine rnd (k+1) ⟨om,zmh hl hall (by simpa using q2) fun y hy e=>q3 (e ▸ hy)⟩ om zs (yab ?_ (yab rfl yag));rw[zhf hl];exact congrArg (fun x=>some (LObj.map x)) (by simp[xge])
 rw[qal (by simpa using q1)]at hall;rw[hall]at hb
 (repeat (first|refine zy ?_|refine yuy rfl rfl rfl rfl rfl ?_))
 refine ybj (α:=Nat) (fun k=>[(39,i64 k),(38,i64 p.rules.length),(37,.sl 3 (p.rules.map ybc)),(6,.mp 35),(1,.lp 1 0)]) (fun k=>(35,some (.map (xge .string ((p.rules.map (·.name)).take k))))::pgK p) (fun k=>p.rules.length - k) (fun k=>k<=p.rules.length/\ygl ((p.rules.map (·.name)).take k)=true) 0 ⟨om,rfl⟩ zs zh ?_;rintro k ⟨hk1,hall⟩;refine zY ?_;refine zj ?_ ?_ <;> intro q1
 .have q1:k < p.rules.length:=by simpa using q1
  obtain⟨x,hx⟩:=zbs q1;have hxn:=(hin.2.2 x (qab hx)).1;have hn:=zet x.name;have hl:(p.rules.map (·.name))[k]?=some x.name:=by simp[hx]
  obtain⟨b,hm⟩:=xbw (x.name∈(p.rules.map (·.name)).take k);have hks:=zmy (l:=(p.rules.map (·.name)).take k) fun s hs=>by
   obtain⟨y,hy,rfl⟩:=qag.1 (qcv hs);exact⟨_,yny y.name (hin.2.2 y hy).1⟩
  refine zZ ?_;refine yaj 47 rfl (fun q2=>?_) (fun q2=>?_)
  .refine zk ?_;exact yae (by rw[hb,zxv hl (by simpa using q2)];rfl)
  (repeat (first|refine zy ?_|refine ylk underlying272 yox rfl rfl rfl rfl hks (yny x.name hxn) zno (yze (fun a b e=>by cases e;rfl) hm) rfl rfl ?_))
  refine zj ?_ ?_ <;> intro q3
  .refine zk ?_;obtain⟨j,hj⟩:=qao (hm.1 q3);obtain⟨hj1,hj2⟩:=qaa.1 hj;exact yae (by rw[hb,zcd (j:=j) (by simp at hj1;omega) hl (by rw[<- hj,qbc,if_pos (by simp at hj1;omega)])];rfl)
  have q3:x.name ∉ (p.rules.map (·.name)).take k:=fun h=>by rw[hm.2 h]at q3;cases q3
  (repeat (first|refine zy ?_|refine yol underlying272 yox rfl rfl rfl rfl rfl rfl hks (yny x.name hxn) (zmz (fun a b e=>by cases e;rfl) q3) rfl rfl ?_))
  refine rnd (k+1) ⟨om,zmh hl hall (by simpa using q2) fun y hy e=>q3 (e ▸ hy)⟩ om zs (yab ?_ (yab rfl yag));rw[zhf hl];exact congrArg (fun x=>some (LObj.map x)) (by simp[xge])
 rw[qal (by simpa using q1)]at hall;refine zk ?_;exact yae (by rw[hb,hall];rfl)
theorem zyz{l:List SetD}{n:Int}{x:SetD}(hx:l[k]?=some x)(h:zsu n x=false):ywy l n=false:=by
 obtain⟨h1,h2⟩:=qaa.1 hx;exact sets_bad k h1 (by rw[h2];exact h)
theorem xeu{l:List SetD}{x:SetD}(hx:l[k]?=some x)(hnd:((l.take k).map (·.var)).Nodup)(hne:∀ y∈l.take k,y.var≠x.var):((l.take (k+1)).map (·.var)).Nodup:=by
 rw[zhf hx,qbz,qdl];refine⟨hnd,sm,?_⟩;intro a ha b hb2;obtain⟨y,hy,rfl⟩:=qag.1 ha;simp at hb2;subst hb2;exact hne y hy
theorem zim(r:RuleD)(n:Nat)(hin:zod r)(hl:zob r)(hn:n<=1000):Con prog 142 [.agg (ybc r),i64 n] (yau (yfx r n)):=by
 obtain⟨hl1,hl2,hl3⟩:=hl;have hvg:=znm r.guard n hl1;refine ze Tryz.func142 ntmps142 Tryz.results142 ?_;refine zY ?_;refine yaj 12 rfl (fun q1=>?_) (fun q1=>?_)
 .refine zk ?_;exact yae (by rw[ylc,decide_eq_false (by simp at q1;simp[q1])];rfl)
 refine zY ?_;refine yaj 18 rfl (fun q2=>?_) (fun q2=>?_)
 .refine zk ?_;exact yae (by rw[ylc,show decide (r.sets.length<=6)=false from decide_eq_false (by simp at q2;omega),qdy,qci])
 refine zZ ?_;have q12:1<=r.sets.length/\r.sets.length<=6:=by
  have h:r.sets.length≠0:=fun h=>by rw[h]at q1;simp at q1
  simp at q2;omega
 have hb:yfx r n=(ycu r.guard n && ywy r.sets n):=by rw[ylc,decide_eq_true q12.1,decide_eq_true q12.2];rfl
 refine zj ?_ ?_ <;> intro q3
 .refine zk ?_;exact yae (by rw[hb,show ycu r.guard n=false by simpa using q3];rfl)
 have hb:yfx r n=ywy r.sets n:=by rw[hb,show ycu r.guard n=true by simpa using q3];rfl
 (repeat (first|refine zy ?_|refine yuy rfl rfl rfl rfl rfl ?_))
 refine ybj (α:=Nat) (fun k=>[(29,i64 k),(28,i64 r.sets.length),(27,.sl 2 (r.sets.map zid)),(5,.mp 25),(1,i64 n)]) (fun k=>[(25,some (.map (xge (.int .i64) ((r.sets.take k).map (·.var)))))]) (fun k=>r.sets.length - k) (fun k=>k<=r.sets.length/\(r.sets.take k).all (zsu n)=true/\((r.sets.take k).map (·.var)).Nodup) 0 ⟨om,rfl,sm⟩ zs zh ?_;rintro k ⟨hk1,hall,hnd⟩;refine zY ?_;refine zj ?_ ?_ <;> intro q4
 .have q4:k < r.sets.length:=by simpa using q4
  obtain⟨x,hx⟩:=zbs q4;have hxm:=qab hx;have hi:=(hin.2.2 x hxm).1;have hw:=yjm x.var 0 (n - 1);have hvx:=znm x.val n (hl3 x hxm);obtain⟨b,hm⟩:=xbw (x.var∈(r.sets.take k).map (·.var));have hks:=zmy (f:=.int .i64) (l:=(r.sets.take k).map (·.var)) fun s hs=>by
   obtain⟨y,hy,rfl⟩:=qag.1 hs;exact⟨_,xcz y.var (hin.2.2 y (qcv hy)).1⟩
  refine zZ ?_;refine yaj 39 rfl (fun q5=>?_) (fun q5=>?_)
  .refine zk ?_;exact yae (by rw[hb,zyz hx (by rw[zsu,show ydt x.var 0 (n - 1)=false by simpa using q5];rfl)])
  (repeat (first|refine zy ?_|refine ylk underlying273 zxg rfl rfl rfl rfl hks (xcz x.var hi) zno (yze (fun a b e=>by cases e;rfl) hm) rfl rfl ?_))
  refine yaj 45 rfl (fun q6=>?_) (fun q6=>?_)
  .refine zk ?_;obtain⟨y,hy,he⟩:=qag.1 (hm.1 q6);obtain⟨j,hj⟩:=qao hy;obtain⟨hj1,hj2⟩:=qaa.1 hj;simp at hj1;rw[List.getElem_take]at hj2;exact yae (by rw[hb,zjs j k om q4 (by rw[hj2,he,(qaa.1 hx).2])])
  have q6:x.var ∉ (r.sets.take k).map (·.var):=fun h=>by rw[hm.2 h]at q6;cases q6
  refine zZ ?_;refine zj ?_ ?_ <;> intro q7
  .refine zk ?_;exact yae (by rw[hb,zyz hx (by rw[zsu,show ycu x.val n=false by simpa using q7,qci])])
  have hsb:zsu n x=true:=by rw[zsu,show ydt x.var 0 (n - 1)=true by simpa using q5,show ycu x.val n=true by simpa using q7];rfl
  (repeat (first|refine zy ?_|refine yol underlying273 zxg rfl rfl rfl rfl rfl rfl hks (xcz x.var hi) (zmz (fun a b e=>by cases e;rfl) q6) rfl rfl ?_))
  refine rnd (k+1) ⟨om,by rw[zzw hx,hall,hsb];rfl,xeu hx hnd fun y hy e=>q6 (qag.2 ⟨y,hy,e⟩)⟩ om zs (yab ?_ yag);rw[zhf hx];exact congrArg (fun x=>some (LObj.map x)) (by simp[xge])
 rw[qal (by simpa using q4)]at hall hnd;refine zk ?_;exact yae (by rw[hb,ywy,hall,decide_eq_true hnd];rfl)
theorem tcheck_con(p:ProgD)(hin:yjt p)(hl:zhk p):Con prog 75 [ygg p] (i64 (yet p)):=by
 obtain⟨h6,h12,hlr⟩:=hl;have hna:=zji p hin h6 h12;have hkc:=kinds_con p h6;have hkl:(ybq p).length=p.vars.length:=by simp[ybq]
 by_cases hlim:p.vars.length=0\/6 < p.vars.length\/12 < p.rules.length
 .rw [yuc hlim];refine ze Tryz.func75 ntmps75 Tryz.results75 ?_;refine zY ?_;refine yaj 14 rfl (fun q0=>?_) (fun q0=>?_)
  .exact zkp
  refine zY ?_;refine yaj 20 rfl (fun q1=>?_) (fun q1=>?_)
  .exact zkp
  refine zY ?_;refine zj ?_ ?_ <;> intro q2
  .exact zkp
  simp at q0 q1 q2;rcases hlim with h|h|h
  .exact absurd (qax h) q0
  .omega
  omega
 refine ze Tryz.func75 ntmps75 Tryz.results75 ?_;refine zY ?_;refine yaj 14 rfl (fun q0=>?_) (fun q0=>?_)
 .exact absurd (.inl (by simpa using q0)) hlim
 refine zY ?_;refine yaj 20 rfl (fun q1=>?_) (fun q1=>?_)
 .simp at q1;omega
 refine zY ?_;refine zj ?_ ?_ <;> intro q2
 .simp at q2;omega
 refine zZ ?_;refine zj ?_ ?_ <;> intro q3
 .refine zk ?_;exact yad (by rw[yyg hlim (by simpa using q3)])
 have q3:ygx p=true:=by simpa using q3
 refine zY ?_;refine ybj (α:=Nat) (fun k=>[(32,i64 k),(31,i64 p.vars.length),(30,.sl 6 (p.vars.map ybl)),(1,.lp 1 0)]) (fun k=>pgK p) (fun k=>p.vars.length - k) (fun k=>k<=p.vars.length/\(p.vars.take k).all yxp=true) 0 ⟨om,rfl⟩ zs zh ?_;rintro k ⟨hk1,ha1⟩;refine zY ?_;refine zj ?_ ?_ <;> intro q4
 .have q4:k < p.vars.length:=by simpa using q4
  obtain⟨x,hx⟩:=zbs q4
  (repeat (first|refine zy ?_|refine zc (numbers_con x) ?_))
  refine zj ?_ ?_ <;> intro q5
  .refine zk ?_;exact yad (by rw[zdd hlim q3 (qcm.2 ⟨x,qab hx,by simpa using q5⟩)])
  refine zY ?_;exact rnd (k+1) ⟨om,by rw[zzw hx,ha1];simpa using q5⟩ om zs zh
 rw[qal (by simpa using q4)]at ha1;refine zY ?_;refine ybj (α:=Nat) (fun k=>[(43,i64 k),(42,i64 p.rules.length),(41,.sl 3 (p.rules.map ybc)),(1,.lp 1 0)]) (fun k=>pgK p) (fun k=>p.rules.length - k) (fun k=>k<=p.rules.length/\(p.rules.take k).all (yfx · p.vars.length)=true) 0 ⟨om,rfl⟩ zs zh ?_;rintro k ⟨hk1,ha2⟩;refine zY ?_;refine zj ?_ ?_ <;> intro q5
 .have q5:k < p.rules.length:=by simpa using q5
  obtain⟨x,hx⟩:=zbs q5;have hxm:=qab hx
  (repeat (first|refine zy ?_|refine zc (zim x p.vars.length (hin.2.2 x hxm) (hlr x hxm) h6) ?_))
  refine zj ?_ ?_ <;> intro q6
  .refine zk ?_;exact yad (by rw[zhv hlim q3 ha1 (qcm.2 ⟨x,hxm,by simpa using q6⟩)])
  refine zY ?_;exact rnd (k+1) ⟨om,by rw[zzw hx,ha2];simpa using q6⟩ om zs zh
 rw[qal (by simpa using q5)]at ha2;refine zZ ?_;refine ybj (α:=Nat) (fun k=>[(59,i64 k),(58,i64 p.rules.length),(57,.sl 3 (p.rules.map ybc)),(7,yai (ybq p))]) (fun k=>[]) (fun k=>p.rules.length - k) (fun k=>k<=p.rules.length/\(p.rules.take k).all (ykq · (ybq p))=true) 0 ⟨om,rfl⟩ zs yag ?_;rintro k ⟨hk1,ha3⟩;refine zY ?_;refine zj ?_ ?_ <;> intro q6
 .have q6:k < p.rules.length:=by simpa using q6
  obtain⟨x,hx⟩:=zbs q6;have hxm:=qab hx;have hfv:=zdt (List.all_eq_true.1 ha2 x hxm)
  (repeat (first|refine zy ?_|refine zc (typed_con x (ybq p) (hlr x hxm) om (fun s hs=>by rw[hkl];exact hfv s hs)) ?_))
  refine zj ?_ ?_ <;> intro q7
  .refine zk ?_;exact yad (by rw[zhw hlim q3 ha1 ha2 (qcm.2 ⟨x,hxm,by simpa using q7⟩)])
  refine zY ?_;exact rnd (k+1) ⟨om,by rw[zzw hx,ha3];simpa using q7⟩ om zs yag
 rw[qal (by simpa using q6)]at ha3;refine zk ?_;exact yad (by rw[zkv hlim q3 ha1 ha2 ha3])
theorem tvalid_con(p:ProgD)(hin:yjt p)(hl:zhk p):Con prog 103 [ygg p] (yau (yet p == 0)):=by
 have hc:=tcheck_con p hin hl;refine ze Tryz.func103 ntmps103 Tryz.results103 ?_;refine zZ ?_;exact zp
end
section
open Go.RowKit Go.Maps
def yqr(r:RuleD):Bool:=decide (r.name.size<=40) && (decide (r.sets.length<=10) && (decide (r.guard.length<=250) && r.sets.all (fun s=>decide (s.val.length<=250))))
def ylu(p:ProgD):Bool:=decide (p.name.size<=40) && (decide (p.vars.length<=10) && (decide (p.rules.length<=16) && (p.vars.all (fun x=>decide (x.name.size<=40)) && p.rules.all yqr)))
theorem zls(h:ylu p=true):zhk p:=by
 unfold ylu at h;simp only[qad,decide_eq_true_eq,List.all_eq_true]at h;refine⟨om,om,fun r hr=>?_⟩;have:=h.2.2.2.2 r hr;unfold yqr at this;simp only[qad,decide_eq_true_eq,List.all_eq_true]at this;exact⟨om,om,fun s hs=>by have:=this.2.2.2 s hs;omega⟩
end
section
open Go.RowKit
theorem ziy(l:List Tm):Con prog 171 [ybr l] (yau (decide (l.length<=250))):=by
 refine ze Tryz.func171 ntmps171 Tryz.results171 ?_;refine zk ?_;exact yae so
theorem xmi(hx:l[k]?=some x)(h:f x=false):l.all f=false:=qcm.2 ⟨x,qab hx,by simp[h]⟩
theorem lightP_con(p:ProgD)(hin:yjt p):Con prog 110 [ygg p] (yau (ylu p)):=by
 have hs0:=hin.1;refine ze Tryz.func110 ntmps110 Tryz.results110 ?_;refine zY ?_;refine yaj 11 rfl (fun q1=>?_) (fun q1=>?_)
 .refine zk ?_;exact yae (by simp at q1;rw[ylu,decide_eq_false om];rfl)
 refine zY ?_;refine yaj 17 rfl (fun q2=>?_) (fun q2=>?_)
 .refine zk ?_;exact yae (by simp at q2;rw[ylu,decide_eq_false (p:=p.vars.length<=10) om];simp)
 refine zY ?_;refine zj ?_ ?_ <;> intro q3
 .refine zk ?_;exact yae (by simp at q3;rw[ylu,decide_eq_false (p:=p.rules.length<=16) om];simp)
 simp at q1 q2 q3;have hb:ylu p=(p.vars.all (fun x=>decide (x.name.size<=40)) && p.rules.all yqr):=by rw[ylu,decide_eq_true om,decide_eq_true om,decide_eq_true om];rfl
 refine zY ?_;refine ybj (α:=Nat) (fun k=>[(3,i64 k),(1,.lp 1 0)]) (fun k=>pgK p) (fun k=>p.vars.length - k) (fun k=>k<=p.vars.length/\(p.vars.take k).all (fun x=>decide (x.name.size<=40))=true) 0 ⟨om,rfl⟩ zs zh ?_;rintro k ⟨hk1,hall⟩;refine zY ?_;refine zj ?_ ?_ <;> intro q4
 .have q4:k < p.vars.length:=by simpa using q4
  obtain⟨x,hx⟩:=zbs q4;have hxs:=(hin.2.1 x (qab hx)).1;refine zY ?_;refine zj ?_ ?_ <;> intro q5
  .refine zk ?_;exact yae (by simp at q5;rw[hb,xmi hx (decide_eq_false om)];rfl)
  refine zY ?_;exact rnd (k+1) ⟨om,by simp at q5;rw[zzw hx,hall,decide_eq_true (p:=x.name.size<=40) om];rfl⟩ om zs zh
 rw[qal (by simpa using q4)]at hall;rw[hall]at hb;refine zY ?_;refine ybj (α:=Nat) (fun k=>[(4,i64 k),(1,.lp 1 0)]) (fun k=>pgK p) (fun k=>p.rules.length - k) (fun k=>k<=p.rules.length/\(p.rules.take k).all yqr=true) 0 ⟨om,rfl⟩ zs zh ?_;rintro k ⟨hk1,hall⟩;refine zY ?_;refine zj ?_ ?_ <;> intro q4
 .have q4:k < p.rules.length:=by simpa using q4
  obtain⟨x,hx⟩:=zbs q4;have hxs:=(hin.2.2 x (qab hx)).1;have hg:=ziy x.guard;have bad:yqr x=false->false=ylu p:=fun h=>by rw[hb,xmi hx h];rfl
  refine zY ?_;refine yaj 54 rfl (fun q5=>?_) (fun q5=>?_)
  .refine zk ?_;exact yae (bad (by simp at q5;rw[yqr,decide_eq_false om];rfl))
  refine zY ?_;refine yaj 60 rfl (fun q6=>?_) (fun q6=>?_)
  .refine zk ?_;exact yae (bad (by simp at q6;rw[yqr,decide_eq_false (p:=x.sets.length<=10) om];simp))
  refine zZ ?_;refine zj ?_ ?_ <;> intro q7
  .refine zk ?_;exact yae (bad (by simp at q7;rw[yqr,decide_eq_false (p:=x.guard.length<=250) om];simp))
  simp at q5 q6 q7;have hr:yqr x=x.sets.all (fun s=>decide (s.val.length<=250)):=by rw[yqr,decide_eq_true om,decide_eq_true om,decide_eq_true om];rfl
  refine zY ?_;refine ybj (α:=Nat) (fun j=>[(6,i64 j),(4,i64 k),(5,.lp 5 0),(1,.lp 1 0)]) (fun j=>(5,some (.cells (ybc x)))::pgK p) (fun j=>x.sets.length - j) (fun j=>j<=x.sets.length/\(x.sets.take j).all (fun s=>decide (s.val.length<=250))=true) 0 ⟨om,rfl⟩ zs zh ?_;rintro j ⟨hj,hin2⟩;refine zY ?_;refine zj ?_ ?_ <;> intro q8
  .have q8:j < x.sets.length:=by simpa using q8
   obtain⟨y,hy⟩:=zbs q8;have hv:=ziy y.val;refine zZ ?_;refine zj ?_ ?_ <;> intro q9
   .refine zk ?_;exact yae (bad (by rw[hr,xmi hy (by simpa using q9)]))
   refine zY ?_;exact rnd (j+1) ⟨om,by rw[zzw hy,hin2];simpa using q9⟩ om zs zh
  rw[qal (by simpa using q8)]at hin2;refine zY ?_;exact rnd (k+1) ⟨om,by rw[zzw hx,hall,hr,hin2];rfl⟩ om zs zh
 rw[qal (by simpa using q4)]at hall;refine zk ?_;exact yae (by rw[hb,hall];rfl)
end
section
open Go.RowKit
theorem rkinds_con(p:ProgD)(h6:p.vars.length<=1000):Con prog 243 [ygg p] (yai (ybq p)):=by
 have hkl:(ybq p).length=p.vars.length:=by simp[ybq]
 refine ze Tryz.func243 ntmps243 Tryz.results243 ?_;refine zY ?_;refine zcr 3 100 1 rfl rfl rfl ?_;refine ybj (α:=Nat) (fun k=>[(4,i64 k),(3,.ls 100 1 k),(1,.lp 1 0)]) (fun k=>(100,some (.vec (((ybq p).take k).map i64)))::pgK p) (fun k=>p.vars.length - k) (fun k=>k<=p.vars.length) 0 om zs zh ?_;intro k hk;refine zY ?_;refine zj ?_ ?_ <;> intro h1
 .have h1:k < p.vars.length:=by simpa using h1
  obtain⟨x,hx⟩:=zbs h1;have hkx:(ybq p)[k]?=some x.kind:=by simp[ybq,hx]
  (repeat (first|refine zy ?_|refine ydy tok rfl rfl rfl so rfl (by simp[yas]) so rfl rfl rfl rfl rfl ?_))
  refine rnd (k+1) om om zs (yab ?_ (yab rfl yag));rw[zhf hkx,qbz];rfl
 obtain rfl:k=p.vars.length:=by simp at h1;omega
 (repeat (first|with_reducible refine yeo ?_|with_reducible refine ycy ?_|refine ydu ?_|refine ype ?_))
 rw[<- hkl,qaw];refine zns 3 rfl rfl rfl rfl ?_;exact zkp
theorem zjp(l:List Tm)(kinds:List Int)(bound:Bool)(hl:l.length<=1000)(h6:¬ 6 < kinds.length)(hkk:ygv kinds=true)(hv:ycu l kinds.length=true):Con prog 268 [ybr l,i64 0,yai kinds,yau bound] (i64 (ofF l kinds bound).1):=by
 obtain⟨E,_,ho,hf,harg,he⟩:=xhe (bound:=bound) h6 hkk hv;rw[he];exact rkindC_con l kinds hl E ho (by rw[hf];exact harg) 0 [] bound (by simp[hf])
theorem rnamed_con(p:ProgD)(hin:yjt p)(h6:p.vars.length<=1000)(h12:p.rules.length<=1000):Con prog 239 [ygg p] (yau (ygx p)):=by
 have h0:=yzc p.name;refine ze Tryz.func239 ntmps239 Tryz.results239 ?_;refine zZ ?_;refine zj ?_ ?_ <;> intro q0
 .refine zk ?_;exact yae (by rw[ygx,show yku p.name=false by simpa using q0];rfl)
 have hb:ygx p=(ygl (p.vars.map (·.name)) && ygl (p.rules.map (·.name))):=by rw[ygx,show yku p.name=true by simpa using q0];rfl
 refine zY ?_;refine ybj (α:=Nat) (fun k=>[(3,i64 k),(1,.lp 1 0)]) (fun k=>pgK p) (fun k=>p.vars.length - k) (fun k=>k<=p.vars.length/\ygl ((p.vars.map (·.name)).take k)=true) 0 ⟨om,rfl⟩ zs zh ?_;rintro k ⟨hk1,hall⟩;refine zY ?_;refine zj ?_ ?_ <;> intro q1
 .have q1:k < p.vars.length:=by simpa using q1
  obtain⟨x,hx⟩:=zbs q1;have hn:=yzc x.name;have hl:(p.vars.map (·.name))[k]?=some x.name:=by simp[hx]
  refine zY ?_;refine ybj (α:=Nat) (fun j=>[(4,i64 j),(3,i64 k),(1,.lp 1 0)]) (fun j=>pgK p) (fun j=>k - j) (fun j=>j<=k/\∀ y∈(p.vars.map (·.name)).take j,y≠x.name) 0 ⟨om,sm⟩ zs zh ?_;rintro j ⟨hj,hne⟩;refine zY ?_;refine zj ?_ ?_ <;> intro q2
  .have q2:j < k:=by simpa using q2
   obtain⟨y,hy⟩:=zbs (show j < p.vars.length by omega);have hly:(p.vars.map (·.name))[j]?=some y.name:=by simp[hy]
   refine zY ?_;refine zj ?_ ?_ <;> intro q3
   .refine zk ?_;exact yae (by rw[hb,zcd q2 hl (by rw[hly,show y.name=x.name from zmg (by rw[zxu]at q3;simpa using q3)])];rfl)
   refine zY ?_;exact rnd (j+1) ⟨om,by rw[zhf hly];intro z hz;rcases qat.1 hz with hz|hz;exact hne z hz;simp at hz;subst hz;exact fun e=>by rw[e]at q3;simp at q3⟩ om zs zh
  obtain rfl:j=k:=by simp at q2;omega
  refine zZ ?_;refine zj ?_ ?_ <;> intro q4
  .refine zk ?_;exact yae (by rw[hb,zxv hl (by simpa using q4)];rfl)
  refine zY ?_;exact rnd (j+1) ⟨om,zmh hl hall (by simpa using q4) hne⟩ om zs zh
 rw[qal (by simpa using q1)]at hall;rw[hall]at hb;refine zY ?_;refine ybj (α:=Nat) (fun k=>[(5,i64 k),(1,.lp 1 0)]) (fun k=>pgK p) (fun k=>p.rules.length - k) (fun k=>k<=p.rules.length/\ygl ((p.rules.map (·.name)).take k)=true) 0 ⟨om,rfl⟩ zs zh ?_;rintro k ⟨hk1,hall⟩;refine zY ?_;refine zj ?_ ?_ <;> intro q1
 .have q1:k < p.rules.length:=by simpa using q1
  obtain⟨x,hx⟩:=zbs q1;have hn:=yzc x.name;have hl:(p.rules.map (·.name))[k]?=some x.name:=by simp[hx]
  refine zY ?_;refine ybj (α:=Nat) (fun j=>[(6,i64 j),(5,i64 k),(1,.lp 1 0)]) (fun j=>pgK p) (fun j=>k - j) (fun j=>j<=k/\∀ y∈(p.rules.map (·.name)).take j,y≠x.name) 0 ⟨om,sm⟩ zs zh ?_;rintro j ⟨hj,hne⟩;refine zY ?_;refine zj ?_ ?_ <;> intro q2
  .have q2:j < k:=by simpa using q2
   obtain⟨y,hy⟩:=zbs (show j < p.rules.length by omega);have hly:(p.rules.map (·.name))[j]?=some y.name:=by simp[hy]
   refine zY ?_;refine zj ?_ ?_ <;> intro q3
   .refine zk ?_;exact yae (by rw[hb,zcd q2 hl (by rw[hly,show y.name=x.name from zmg (by rw[zxu]at q3;simpa using q3)])];rfl)
   refine zY ?_;exact rnd (j+1) ⟨om,by rw[zhf hly];intro z hz;rcases qat.1 hz with hz|hz;exact hne z hz;simp at hz;subst hz;exact fun e=>by rw[e]at q3;simp at q3⟩ om zs zh
  obtain rfl:j=k:=by simp at q2;omega
  refine zZ ?_;refine zj ?_ ?_ <;> intro q4
  .refine zk ?_;exact yae (by rw[hb,zxv hl (by simpa using q4)];rfl)
  refine zY ?_;exact rnd (j+1) ⟨om,zmh hl hall (by simpa using q4) hne⟩ om zs zh
 rw[qal (by simpa using q1)]at hall;refine zk ?_;exact yae (by rw[hb,hall];rfl)
theorem zrw(l:List Tm)(n:Int)(hl:l.length<=1000):Con prog 267 [ybr l,i64 n] (yau (ycu l n)):=
 ymp ⟨_,Tryz.func267,rfl,rfl⟩ fun w us ok hok hr=>by
  obtain⟨u,v,rfl,h1,h2⟩:=zfn hr;cases h2;exact rvalid_any u l n w hl (Lib.hid (yrk h1 hok))
theorem rformed_con(r:RuleD)(n:Nat)(hl:zob r)(hn:n<=1000):Con prog 241 [.agg (ybc r),i64 n] (yau (yfx r n)):=by
 obtain⟨hl1,hl2,hl3⟩:=hl;have hin1:=yqq r.sets.length 1 6;have hvg:=zrw r.guard n hl1;have hb:yfx r n=(ydt r.sets.length 1 6 && (ycu r.guard n && ywy r.sets n)):=by
  rw[ylc,<- Bool.and_assoc];congr 1;rw[qbw];simp[ydt];omega
 refine ze Tryz.func241 ntmps241 Tryz.results241 ?_;refine zZ ?_;refine yaj 12 rfl (fun q1=>?_) (fun q1=>?_)
 .refine zk ?_;exact yae (by rw[hb,show ydt r.sets.length 1 6=false by simpa using q1];rfl)
 refine zZ ?_;refine zj ?_ ?_ <;> intro q2
 .refine zk ?_;exact yae (by rw[hb,show ycu r.guard n=false by simpa using q2,qdy,qci])
 have q1:ydt r.sets.length 1 6=true:=by simpa using q1
 have q2:ycu r.guard n=true:=by simpa using q2
 rw[q1,q2]at hb;have hb:yfx r n=ywy r.sets n:=hb;refine zY ?_;refine ybj (α:=Nat) (fun k=>[(5,i64 k),(1,i64 n),(2,.lp 2 0)]) (fun k=>[(2,some (.cells (ybc r)))]) (fun k=>r.sets.length - k) (fun k=>k<=r.sets.length/\(r.sets.take k).all (zsu n)=true/\((r.sets.take k).map (·.var)).Nodup) 0 ⟨om,rfl,sm⟩ zs zh ?_;rintro k ⟨hk1,hall,hnd⟩;refine zY ?_;refine zj ?_ ?_ <;> intro q3
 .have q3:k < r.sets.length:=by simpa using q3
  obtain⟨x,hx⟩:=zbs q3;have hxm:=qab hx;have hxe:r.sets[k]=x:=(qaa.1 hx).2;have hin2:=yqq x.var 0 (n - 1);have hvx:=zrw x.val n (hl3 x hxm);refine zZ ?_;refine yaj 36 rfl (fun q4=>?_) (fun q4=>?_)
  .refine zk ?_;exact yae (by rw[hb,zyz hx (by rw[zsu,show ydt x.var 0 (n - 1)=false by simpa using q4];rfl)])
  refine zZ ?_;refine zj ?_ ?_ <;> intro q5
  .refine zk ?_;exact yae (by rw[hb,zyz hx (by rw[zsu,show ycu x.val n=false by simpa using q5,qci])])
  have hsb:zsu n x=true:=by rw[zsu,show ydt x.var 0 (n - 1)=true by simpa using q4,show ycu x.val n=true by simpa using q5];rfl
  refine zY ?_;refine ybj (α:=Nat) (fun j=>[(6,i64 j),(5,i64 k),(1,i64 n),(2,.lp 2 0)]) (fun j=>[(2,some (.cells (ybc r)))]) (fun j=>k - j) (fun j=>j<=k/\∀ y∈r.sets.take j,y.var≠x.var) 0 ⟨om,sm⟩ zs zh ?_;rintro j ⟨hj,hne⟩;refine zY ?_;refine zj ?_ ?_ <;> intro q6
  .have q6:j < k:=by simpa using q6
   obtain⟨y,hy⟩:=zbs (show j < r.sets.length by omega);have hye:r.sets[j]=y:=(qaa.1 hy).2;refine zY ?_;refine zj ?_ ?_ <;> intro q7
   .refine zk ?_;exact yae (by rw[hb,zjs j k q6 q3 (by rw[hxe,hye];simpa using q7)])
   refine zY ?_;exact rnd (j+1) ⟨om,by rw[zhf hy];intro z hz;rcases qat.1 hz with hz|hz;exact hne z hz;simp at hz;subst hz;simpa using q7⟩ om zs zh
  obtain rfl:j=k:=by simp at q6;omega
  refine zY ?_;exact rnd (j+1) ⟨om,by rw[zzw hx,hall,hsb];rfl,xeu hx hnd hne⟩ om zs zh
 rw[qal (by simpa using q3)]at hall hnd;refine zk ?_;exact yae (by rw[hb,ywy,hall,decide_eq_true hnd];rfl)
theorem rtyped_con(r:RuleD)(kinds:List Int)(hl:zob r)(h6:¬ 6 < kinds.length)(hkk:ygv kinds=true)(hf:yfx r kinds.length=true):Con prog 242 [.agg (ybc r),yai kinds] (yau (ykq r kinds)):=by
 obtain⟨hl1,hl2,hl3⟩:=hl;have hvar:=zdt hf;rw[ylc]at hf;simp only[qad,ywy,List.all_eq_true,zsu]at hf;obtain⟨_,_,hvg,hvs,_⟩:=hf;have hg:=zjp r.guard kinds false hl1 h6 hkk hvg;refine ze Tryz.func242 ntmps242 Tryz.results242 ?_;refine zZ ?_;refine zj ?_ ?_ <;> intro q1
 .refine zk ?_;exact yae (by rw[ykq,beq_eq_false_iff_ne.2 (by simpa using q1)];rfl)
 have q1:((ofF r.guard kinds false).1 == 2)=true:=by simpa using q1
 refine zY ?_;refine ybj (α:=Nat) (fun k=>[(5,i64 k),(1,yai kinds),(2,.lp 2 0)]) (fun k=>[(2,some (.cells (ybc r)))]) (fun k=>r.sets.length - k) (fun k=>k<=r.sets.length/\(r.sets.take k).all (fun s=>(ofF s.val kinds false).1 == kinds.getD s.var.toNat 0)=true) 0 ⟨om,rfl⟩ zs zh ?_;rintro k ⟨hk1,hall⟩;refine zY ?_;refine zj ?_ ?_ <;> intro q2
 .have q2:k < r.sets.length:=by simpa using q2
  obtain⟨x,hx⟩:=zbs q2;have hxm:=qab hx;obtain⟨hv0,hv1⟩:=hvar x hxm;obtain⟨kd,hkd⟩:=zbs (show x.var.toNat < kinds.length by omega);have hgd:kinds.getD x.var.toNat 0=kd:=by rw[qac,hkd];rfl
  have hxc:=zjp x.val kinds false (hl3 x hxm) h6 hkk (hvs x hxm).2;refine zZ ?_;refine zj ?_ ?_ <;> intro q3
  .refine zk ?_;exact yae (by rw[ykq,qcm.2 ⟨x,hxm,by rw[hgd];simpa using q3⟩,qci])
  refine zY ?_;exact rnd (k+1) ⟨om,by rw[zzw hx,hall,hgd];simpa using q3⟩ om zs zh
 rw[qal (by simpa using q2)]at hall;refine zk ?_;exact yae (by rw[ykq,q1,hall];rfl)
theorem rtcheck_con(p:ProgD)(hin:yjt p)(hl:zhk p):Con prog 203 [ygg p] (i64 (yet p)):=by
 obtain⟨h6,h12,hlr⟩:=hl;have hna:=rnamed_con p hin h6 h12;have hkc:=rkinds_con p h6;have hin1:=yqq p.vars.length 1 6;have hkl:(ybq p).length=p.vars.length:=by simp[ybq]
 by_cases hlim:p.vars.length=0\/6 < p.vars.length\/12 < p.rules.length
 .rw [yuc hlim];refine ze Tryz.func203 ntmps203 Tryz.results203 ?_;refine zZ ?_;refine yaj 11 rfl (fun q0=>?_) (fun q0=>?_)
  .exact zkp
  refine zY ?_;refine zj ?_ ?_ <;> intro q2
  .exact zkp
  simp[ydt]at q0 q2;omega
 refine ze Tryz.func203 ntmps203 Tryz.results203 ?_;refine zZ ?_;refine yaj 11 rfl (fun q0=>?_) (fun q0=>?_)
 .simp [ydt]at q0;omega
 refine zY ?_;refine zj ?_ ?_ <;> intro q2
 .simp at q2;omega
 refine zZ ?_;refine zj ?_ ?_ <;> intro q3
 .refine zk ?_;exact yad (by rw[yyg hlim (by simpa using q3)])
 have q3:ygx p=true:=by simpa using q3
 refine zY ?_;refine ybj (α:=Nat) (fun k=>[(3,i64 k),(1,.lp 1 0)]) (fun k=>pgK p) (fun k=>p.vars.length - k) (fun k=>k<=p.vars.length/\(p.vars.take k).all yxp=true) 0 ⟨om,rfl⟩ zs zh ?_;rintro k ⟨hk1,ha1⟩;refine zY ?_;refine zj ?_ ?_ <;> intro q4
 .have q4:k < p.vars.length:=by simpa using q4
  obtain⟨x,hx⟩:=zbs q4
  (repeat (first|refine zy ?_|refine zc (rnumbers_con x) ?_))
  refine zj ?_ ?_ <;> intro q5
  .refine zk ?_;exact yad (by rw[zdd hlim q3 (qcm.2 ⟨x,qab hx,by simpa using q5⟩)])
  refine zY ?_;exact rnd (k+1) ⟨om,by rw[zzw hx,ha1];simpa using q5⟩ om zs zh
 rw[qal (by simpa using q4)]at ha1;refine zY ?_;refine ybj (α:=Nat) (fun k=>[(4,i64 k),(1,.lp 1 0)]) (fun k=>pgK p) (fun k=>p.rules.length - k) (fun k=>k<=p.rules.length/\(p.rules.take k).all (yfx · p.vars.length)=true) 0 ⟨om,rfl⟩ zs zh ?_;rintro k ⟨hk1,ha2⟩;refine zY ?_;refine zj ?_ ?_ <;> intro q5
 .have q5:k < p.rules.length:=by simpa using q5
  obtain⟨x,hx⟩:=zbs q5;have hxm:=qab hx
  (repeat (first|refine zy ?_|refine zc (rformed_con x p.vars.length (hlr x hxm) h6) ?_))
  refine zj ?_ ?_ <;> intro q6
  .refine zk ?_;exact yad (by rw[zhv hlim q3 ha1 (qcm.2 ⟨x,hxm,by simpa using q6⟩)])
  refine zY ?_;exact rnd (k+1) ⟨om,by rw[zzw hx,ha2];simpa using q6⟩ om zs zh
 rw[qal (by simpa using q5)]at ha2;refine zY ?_;refine ybj (α:=Nat) (fun k=>[(5,i64 k),(1,.lp 1 0)]) (fun k=>pgK p) (fun k=>p.rules.length - k) (fun k=>k<=p.rules.length/\(p.rules.take k).all (ykq · (ybq p))=true) 0 ⟨om,rfl⟩ zs zh ?_;rintro k ⟨hk1,ha3⟩;refine zY ?_;refine zj ?_ ?_ <;> intro q6
 .have q6:k < p.rules.length:=by simpa using q6
  obtain⟨x,hx⟩:=zbs q6;have hxm:=qab hx;have hty:=rtyped_con x (ybq p) (hlr x hxm) om (kinds_of_num ha1) (by rw[hkl];exact List.all_eq_true.1 ha2 x hxm);refine zZ ?_;refine zj ?_ ?_ <;> intro q7
  .refine zk ?_;exact yad (by rw[zhw hlim q3 ha1 ha2 (qcm.2 ⟨x,hxm,by simpa using q7⟩)])
  refine zY ?_;exact rnd (k+1) ⟨om,by rw[zzw hx,ha3];simpa using q7⟩ om zs zh
 rw[qal (by simpa using q6)]at ha3;refine zk ?_;exact yad (by rw[zkv hlim q3 ha1 ha2 ha3])
theorem rtvalid_con(p:ProgD)(hin:yjt p)(hl:zhk p):Con prog 148 [ygg p] (yau (yet p == 0)):=by
 have hc:=rtcheck_con p hin hl;refine ze Tryz.func148 ntmps148 Tryz.results148 ?_;refine zZ ?_;exact zp
end
section
open Go.RowKit
def xiw(a b:Int):Int:=if a.tmod b < 0 then a.tmod b+b else a.tmod b
theorem modI_bd{a b:Int}(hb:0 < b):0<=xiw a b/\xiw a b < b:=by
 unfold xiw;have h1:=Int.tmod_lt_of_pos a hb;have h2:=Int.lt_tmod_of_pos a hb;split <;> omega
theorem mod_con(a b:Int)(hb:0 < b/\b<=1000000):Con prog 9 [i64 a,i64 b] (i64 (xiw a b)):=by
 have h1:=Int.tmod_lt_of_pos a hb.1;have h2:=Int.lt_tmod_of_pos a hb.1;refine ze Tryz.func9 ntmps9 Tryz.results9 ?_
 (repeat (first|refine zy ?_|refine xfn rfl rfl om rfl rfl ?_))
 refine zj ?_ ?_ <;> intro h
 .simp at h;refine zk ?_;exact yad (by unfold xiw;rw[if_pos h])
 simp at h;refine zk ?_;exact yad (by unfold xiw;rw[if_neg om])
end
section
open Go.RowKit
theorem zac(g:GraphD)(hlen:g.ids.length<=1000):Con prog 150 [yev g] (i64 (yca g.ids)):=by
 refine ze Tryz.func150 ntmps150 Tryz.results150 ?_;refine zY ?_;refine ybj (α:=Nat) (fun k=>[(4,i64 k),(3,i64 (yca (g.ids.take k))),(1,.lp 1 0)]) (fun k=>[(1,some (.cells [yai g.ids,yaq g.ports]))]) (fun k=>g.ids.length - k) (fun k=>k<=g.ids.length) 0 om zs zh ?_;intro k hk;refine zY ?_;refine zj ?_ ?_ <;> intro h
 .simp at h;obtain⟨x,hx⟩:=ybk h;refine zY ?_;refine rnd (k+1) om om ?_ zh;refine yan rfl (yan ?_ zs);rw[yjq _ _ _ hx];rfl
 simp at h;obtain rfl:k=g.ids.length:=by omega
 refine zk ?_;exact yad (by rw[qaw])
theorem max_con(ids:List Int)(hlen:ids.length<=1000)(h1:1<=ids.length)(h0:∀ x∈ids,0<=x):Con prog 159 [yai ids] (i64 (yca ids)):=by
 obtain⟨a,ha⟩:=ybk (show 0 < ids.length by omega);have ha0:=h0 a (qab ha);refine ze Tryz.func159 ntmps159 Tryz.results159 ?_;refine zY ?_;refine zj ?_ ?_ <;> intro h
 .simp at h;omega
 refine zY ?_;refine ybj (α:=Nat) (fun k=>[(4,i64 k),(3,i64 (yca (ids.take k))),(0,yai ids)]) (fun k=>[]) (fun k=>ids.length - k) (fun k=>1<=k/\k<=ids.length) 1 om ?_ zh ?_
 .refine yan rfl (yan ?_ zs);have e:yca (ids.take 1)=a:=by
   rw[yjq ids 0 a ha];simp[yca];omega
  rw[e];rfl
 intro k ⟨hk1,hk⟩;refine zY ?_;refine zj ?_ ?_ <;> intro h
 .simp at h;obtain⟨x,hx⟩:=ybk h;refine zY ?_;refine rnd (k+1) om om ?_ zh;refine yan rfl (yan ?_ zs);rw[yjq _ _ _ hx];rfl
 simp at h;obtain rfl:k=ids.length:=by omega
 refine zk ?_;exact yad (by rw[qaw])
theorem zli{h:Nat->Option LObj}{a b a' b':Int}(e1:a=a')(e2:b=b'):Frz h (.tup [.v (.int .i64 a),.v (.int .i64 b)]) (.tup [i64 a',i64 b']):=by subst e1 e2;exact Frz.pure
def xiy(q:Int × Int):AV:=.tup [i64 q.1,i64 q.2]
theorem bounds1_con(x:VarD)(g:GraphD)(v:Int)(hx:yxp x=true)(hg:ycf g=true):Con prog 158 [.agg (ybl x),yev g,i64 v] (.tup [i64 x.lo,i64 (x.hi+x.perNode * g.ports.length+x.perID * yca g.ids)]):=by
 have hf:=ybe hg;have hn:=yil hx;have ht:=zni hx hg;have hlen:(g.ids.length:Int)=g.ports.length:=by omega
 have ht2:0<=x.perNode * (g.ids.length:Int)/\x.perNode * (g.ids.length:Int)<=255 * 24:=by rw[hlen];omega
 refine ze Tryz.func158 ntmps158 Tryz.results158 ?_
 (repeat (first|refine zy ?_|refine zc (max_con g.ids om om (fun y hy=>(hf.2.2.2.1 y hy).1)) ?_))
 refine zr ?_;exact zli rfl (by rw[hlen])
theorem bounds2_con(x:VarD)(g:GraphD)(v:Int):Con prog 160 [.agg (ybl x),yev g,i64 v] (.tup [i64 0,i64 1]):=by
 refine ze Tryz.func160 ntmps160 Tryz.results160 ?_;refine zk ?_;exact zli rfl rfl
theorem bounds3_con(x:VarD)(g:GraphD)(v:Int)(ls:List Lk)(h0:0<=v)(hv:g.ports[v.toNat]?=some ls)(hl:ls.length<=1000):Con prog 161 [.agg (ybl x),yev g,i64 v] (.tup [i64 (-1),i64 (ls.length - 1)]):=by
 refine ze Tryz.func161 ntmps161 Tryz.results161 ?_;refine zk ?_;exact zli rfl rfl
theorem zhq(x:VarD)(g:GraphD)(v:Int)(ls:List Lk)(hx:yxp x=true)(hg:ycf g=true)(h0:0<=v)(hv:g.ports[v.toNat]?=some ls)(hl:ls.length<=1000) :
  Con prog 92 [.agg (ybl x),yev g,i64 v] (xiy (yar x g ls.length)):=by
 have hn:=yil hx;refine ze Tryz.func92 ntmps92 Tryz.results92 ?_;refine zY ?_;refine xbd (yrq ?_);refine zY ?_;refine yng tok rfl rfl rfl om (row:=[i64 1,.fn 158 []]) rfl rfl rfl ?_;refine zY ?_;refine zj ?_ ?_ <;> intro h1
 .simp at h1
  (repeat (first|refine zy ?_|refine zc (bounds1_con x g v hx hg) ?_))
  refine zr ?_;unfold yar;rw[if_neg om,if_neg om];exact Frz.pure
 simp at h1;refine zY ?_;refine zcx (t':=[(17,i64 1),(16,i64 3),(15,.sl 2 [[i64 1,.fn 158 []],[i64 2,.fn 160 []],[i64 3,.fn 161 []]]),(3,.lp 3 0),(4,.lp 4 0),(2,i64 v)]) (h':=[(3,some (.cells (ybl x))),(4,some (.cells [yai g.ids,yaq g.ports]))]) (yrq ?_) zs zh;refine zY ?_;refine yng tok rfl rfl rfl om (row:=[i64 2,.fn 160 []]) rfl rfl rfl ?_;refine zY ?_;refine zj ?_ ?_ <;> intro h2
 .simp at h2
  (repeat (first|refine zy ?_|refine zc (bounds2_con x g v) ?_))
  refine zr ?_;unfold yar;rw[if_pos om];exact Frz.pure
 simp at h2;refine zY ?_;refine zcx (t':=[(17,i64 2),(16,i64 3),(15,.sl 2 [[i64 1,.fn 158 []],[i64 2,.fn 160 []],[i64 3,.fn 161 []]]),(3,.lp 3 0),(4,.lp 4 0),(2,i64 v)]) (h':=[(3,some (.cells (ybl x))),(4,some (.cells [yai g.ids,yaq g.ports]))]) (yrq ?_) zs zh;refine zY ?_;refine yng tok rfl rfl rfl om (row:=[i64 3,.fn 161 []]) rfl rfl rfl ?_;refine zY ?_;refine zj ?_ ?_ <;> intro h3
 .simp at h3
  (repeat (first|refine zy ?_|refine zc (bounds3_con x g v ls h0 hv hl) ?_))
  refine zr ?_;unfold yar;rw[if_neg om,if_pos om];exact Frz.pure
 simp at h3;omega
end
section
open Go.RowKit
theorem bring_con(kind lo hi value:Int):Con prog 179 [i64 kind,.agg [i64 lo,i64 hi],i64 value] (i64 (yiy kind lo hi value)):=by
 refine ze Tryz.func179 ntmps179 Tryz.results179 ?_;refine zY ?_;refine yaj 12 rfl (fun h1=>?_) (fun h1=>?_)
 .simp at h1;refine zY ?_;refine zj ?_ ?_ <;> intro h2
  .simp at h2;refine zk ?_;exact yad (by unfold yiy;rw[if_pos ⟨h1,h2⟩])
  simp at h2;refine zY ?_;refine zj ?_ ?_ <;> intro h3
  .simp at h3;refine zk ?_;exact yad (by unfold yiy;rw[if_neg om,if_pos h3])
  simp at h3;refine zY ?_;refine zj ?_ ?_ <;> intro h4
  .simp at h4;omega
  refine zk ?_;exact yad (by unfold yiy;rw[if_neg om,if_neg h3,if_neg om])
 simp at h1;refine zY ?_;refine zj ?_ ?_ <;> intro h3
 .simp at h3;refine zk ?_;exact yad (by unfold yiy;rw[if_neg om,if_pos h3])
 simp at h3;refine zY ?_;refine zj ?_ ?_ <;> intro h4
 .refine zk ?_;exact yad (by unfold yiy;rw[if_neg om,if_neg h3,if_pos h1])
 simp at h4;omega
structure Fair (p:ProgD) (g:GraphD):Prop where
 pin:yjt p
 light:zhk p
 lg:yko g=true
theorem Fair.vlen(h:Fair p g):p.vars.length<=1000:=h.light.1
theorem Fair.glen(h:Fair p g):g.ids.length<=30/\g.ports.length<=30/\∀ l∈g.ports,l.length<=30:=(ygq g).1 h.lg
theorem xgs{v:Int}{ls:List Lk}(hv:g.ports[v.toNat]?=some ls):xfs g v=ls.length:=by
 unfold xfs;rw[qac,hv];rfl
theorem zbo(p:ProgD)(g:GraphD)(v x:Int)(ls:List Lk)(y:VarD)(hy:yxp y=true)(hg:ycf g=true)(h0:0<=v)(hv:g.ports[v.toNat]?=some ls)(hl:ls.length<=1000)(hx0:0<=x)(hx:p.vars[x.toNat]?=some y) :
  Con prog 84 [ygg p,yev g,i64 v,i64 x] (xiy (yar y g ls.length)):=by
 have hn:=yil hy;have ht:=zni hy hg;have hf:=ybe hg;refine ze Tryz.func84 ntmps84 Tryz.results84 ?_;refine zY ?_;refine zj ?_ ?_ <;> intro h1
 .simp at h1;refine zk ?_;unfold yar;rw[if_pos h1];exact Frz.pure
 simp at h1;refine zY ?_;refine zj ?_ ?_ <;> intro h2
 .simp at h2;refine zk ?_;unfold yar;rw[if_neg h1,if_pos h2];exact Frz.pure
 simp at h2
 (repeat (first|refine zy ?_|refine zc (zac g om) ?_))
 refine zr ?_;unfold yar;rw[if_neg h1,if_neg h2];exact Frz.pure
end
section
open Go.RowKit
theorem zlf(h1:yet p=0)(h2:ycf g=true)(hy:y∈p.vars)(hb:zgr g y=false):ycv p g=9:=by
 unfold ycv;rw[if_pos h1,if_pos h2,if_neg];intro h;rw[List.all_eq_true.1 h y hy]at hb;cases hb
theorem zlg(p:ProgD)(g:GraphD)(hf:Fair p g):Con prog 90 [ygg p,yev g] (i64 (ycv p g)):=by
 have hgl:=hf.glen;have hvl:=hf.vlen;refine ze Tryz.func90 ntmps90 Tryz.results90 ?_
 (repeat (first|refine zy ?_|refine zc (tvalid_con p hf.pin hf.light) ?_))
 refine zj ?_ ?_ <;> intro h1
 .simp at h1;refine zk ?_;exact yad (by unfold ycv;rw[if_neg h1])
 simp at h1
 (repeat (first|refine zy ?_|refine zc (gvalid_con g hf.lg) ?_))
 refine zj ?_ ?_ <;> intro h2
 .simp at h2;refine zk ?_;exact yad (by unfold ycv;rw[if_pos h1,if_neg (by simp[h2])])
 simp at h2;have hvf:=ybe h2;obtain⟨ls,hls⟩:=ybk (show 0 < g.ports.length by omega);have hll:=hgl.2.2 ls (qab hls);refine zY ?_;refine ybj (α:=Nat) (fun k=>[(18,i64 k),(17,i64 p.vars.length),(16,.sl 6 (p.vars.map ybl)),(2,.lp 2 0),(3,.lp 3 0)]) (fun k=>[(2,some (.cells [ykp p.name,.sl 6 (p.vars.map ybl),.sl 3 (p.rules.map ybc)])),(3,some (.cells [yai g.ids,yaq g.ports]))]) (fun k=>p.vars.length - k) (fun k=>k<=p.vars.length/\∀ y∈p.vars.take k,zgr g y=true) 0 ⟨om,sm⟩ zs zh ?_;intro k ⟨hk,hok⟩;refine zY ?_;refine zj ?_ ?_ <;> intro h
 .simp at h;obtain⟨y,hy⟩:=ybk h;have hym:=qab hy;have hnum:=(ycn h1).2.2.2 y hym;have hbd:=yvh (deg:=(ls.length:Int)) hnum h2 om;have hstep:zgr g y=true->∀ z∈p.vars.take (k+1),zgr g z=true:=by
   intro hfy z hz;rw[yhj hy]at hz;rcases qat.1 hz with hz|hz
   .exact hok z hz
   simp at hz;subst hz;exact hfy
  refine zY ?_;refine zj ?_ ?_ <;> intro h3
  .simp at h3;refine zY ?_;refine rnd (k+1) ⟨om,hstep (by simp[zgr,h3])⟩ om zs zh
  simp at h3;have hsame:yar y g ls.length=yar y g 0:=by unfold yar;rw[if_neg om,if_neg om,if_neg om,if_neg om]
  (repeat (first|refine zy ?_|refine zc (zhq y g 0 ls hnum h2 om hls om) ?_))
  refine yaj 34 rfl (fun h4=>?_) (fun h4=>?_)
  .simp at h4;refine zk ?_;exact yad (zlf h1 h2 hym (by rw[hsame]at h4;simp[zgr,h3];omega)).symm
  simp at h4;refine zY ?_;refine zj ?_ ?_ <;> intro h5
  .simp at h5;refine zk ?_;exact yad (zlf h1 h2 hym (by rw[hsame]at h5;simp[zgr,h3];omega)).symm
  simp at h5;refine zY ?_;refine rnd (k+1) ⟨om,hstep (by rw[hsame]at h4 h5;simp[zgr,h3];omega)⟩ om zs zh
 simp at h;obtain rfl:k=p.vars.length:=by omega
 rw[qaw]at hok;refine zk ?_;exact yad (ydk.2 ⟨h1,h2,hok⟩).symm
theorem yww(p:ProgD)(g:GraphD)(hf:Fair p g):Con prog 81 [ygg p,yev g] (i64 (ycv p g)):=by
 have hgl:=hf.glen;have hvl:=hf.vlen;refine ze Tryz.func81 ntmps81 Tryz.results81 ?_
 (repeat (first|refine zy ?_|refine zc (rtvalid_con p hf.pin hf.light) ?_))
 refine zj ?_ ?_ <;> intro h1
 .simp at h1;refine zk ?_;exact yad (by unfold ycv;rw[if_neg h1])
 simp at h1
 (repeat (first|refine zy ?_|refine zc (yof g hf.lg) ?_))
 refine zj ?_ ?_ <;> intro h2
 .simp at h2;refine zk ?_;exact yad (by unfold ycv;rw[if_pos h1,if_neg (by simp[h2])])
 simp at h2;have hvf:=ybe h2;obtain⟨ls,hls⟩:=ybk (show 0 < g.ports.length by omega);have hll:=hgl.2.2 ls (qab hls);refine zY ?_;refine ybj (α:=Nat) (fun k=>[(5,i64 k),(2,.lp 2 0),(3,.lp 3 0)]) (fun k=>[(2,some (.cells [ykp p.name,.sl 6 (p.vars.map ybl),.sl 3 (p.rules.map ybc)])),(3,some (.cells [yai g.ids,yaq g.ports]))]) (fun k=>p.vars.length - k) (fun k=>k<=p.vars.length/\∀ y∈p.vars.take k,zgr g y=true) 0 ⟨om,sm⟩ zs zh ?_;intro k ⟨hk,hok⟩;refine zY ?_;refine zj ?_ ?_ <;> intro h
 .simp at h;obtain⟨y,hy⟩:=ybk h;have hym:=qab hy;have hnum:=(ycn h1).2.2.2 y hym;have hbd:=yvh (deg:=(ls.length:Int)) hnum h2 om;have hstep:zgr g y=true->∀ z∈p.vars.take (k+1),zgr g z=true:=by
   intro hfy z hz;rw[yhj hy]at hz;rcases qat.1 hz with hz|hz
   .exact hok z hz
   simp at hz;subst hz;exact hfy
  (repeat (first|refine zy ?_|refine zc (zbo p g 0 k ls y hnum h2 om hls om om (by simpa using hy)) ?_))
  refine yaj 35 rfl (fun h3=>?_) (fun h3=>?_)
  .simp at h3;have hsame:yar y g ls.length=yar y g 0:=by unfold yar;rw[if_neg om,if_neg om,if_neg om,if_neg om]
   (repeat (first|refine zy ?_|refine zc (ypm _ _ _) ?_))
   refine zj ?_ ?_ <;> intro h4
   .simp [inB]at h4;refine zk ?_;exact yad (zlf h1 h2 hym (by rw[hsame]at h4;simp[zgr,h3];omega)).symm
   simp[inB]at h4;refine zY ?_;refine rnd (k+1) ⟨om,hstep (by rw[hsame]at h4;simp[zgr,h3];omega)⟩ om zs zh
  simp at h3;refine zY ?_;refine rnd (k+1) ⟨om,hstep (by simp[zgr,h3])⟩ om zs zh
 simp at h;obtain rfl:k=p.vars.length:=by omega
 rw[qaw]at hok;refine zk ?_;exact yad (ydk.2 ⟨h1,h2,hok⟩).symm
theorem rthere_con(p:ProgD)(g:GraphD)(v x:Int)(hf:Fair p g):Con prog 149 [ygg p,yev g,i64 v,i64 x] (yau (ycv p g == 0 && xjj p g v x)):=by
 have hgl:=hf.glen;have hvl:=hf.vlen;refine ze Tryz.func149 ntmps149 Tryz.results149 ?_
 (repeat (first|refine zy ?_|refine zc (yww p g hf) ?_))
 refine yaj 13 rfl (fun h1=>?_) (fun h1=>?_)
 .simp at h1
  (repeat (first|refine zy ?_|refine zc (ypm _ _ _) ?_))
  refine yaj 21 rfl (fun h2=>?_) (fun h2=>?_)
  .simp [inB]at h2
   (repeat (first|refine zy ?_|refine zc (ypm _ _ _) ?_))
   refine zr ?_;exact yae (by rw[qbw,qad,yxh,inB_iff];simp[h1];omega)
  simp[inB]at h2;refine zk ?_;exact yae (by rw[eq_comm,<- qbv,qad,yxh];omega)
 simp at h1;refine zk ?_;exact yae (by simp[h1])
theorem rbring_eq{kind lo hi value:Int}(hk:kind=3->lo=-1)(h:kind≠3->lo<=hi):(if hi < (if lo > value then lo else value)then hi else(if lo > value then lo else value))=yiy kind lo hi value\/(kind=3/\¬ (lo<=value/\value<=hi)):=by
 unfold yiy;by_cases h3:kind=3
 .by_cases h4:lo<=value/\value<=hi
  .left;rw[if_pos h4];split <;> (try split) <;> omega
  exact .inr ⟨h3,h4⟩
 have:=h h3;left;by_cases h4:lo<=value/\value<=hi
 .rw [if_pos h4];split <;> (try split) <;> omega
 rw[if_neg h4,if_neg h3];by_cases h5:value < lo
 .rw [if_pos h5];split <;> (try split) <;> omega
 rw[if_neg h5];split <;> (try split) <;> omega
theorem rbring_con(p:ProgD)(g:GraphD)(v x value:Int)(ls:List Lk)(y:VarD)(hy:yxp y=true)(hg:ycf g=true)(hfit:zgr g y=true)(h0:0<=v)(hv:g.ports[v.toNat]?=some ls)(hl:ls.length<=30)(hx0:0<=x)(hx:p.vars[x.toNat]?=some y) :
  Con prog 176 [ygg p,yev g,i64 v,i64 x,i64 value] (i64 (yiy y.kind (yar y g ls.length).1 (yar y g ls.length).2 value)):=by
 have hn:=yil hy;have hb:=zwr (deg:=(ls.length:Int)) hfit hy om;have he:=rbring_eq (kind:=y.kind) (lo:=(yar y g ls.length).1) (hi:=(yar y g ls.length).2) (value:=value) (fun h=>by unfold yar;rw[if_neg om,if_pos h]) (fun h=>by rw[if_neg h]at hb;omega);refine ze Tryz.func176 ntmps176 Tryz.results176 ?_
 (repeat (first|refine zy ?_|refine zc (zbo p g v x ls y hy hg h0 hv om hx0 hx) ?_))
 refine yaj 28 rfl (fun h1=>?_) (fun h1=>?_)
 .simp at h1
  (repeat (first|refine zy ?_|refine zc (ypm _ _ _) ?_))
  refine zj ?_ ?_ <;> intro h2
  .simp [inB]at h2;refine zk ?_;exact yad (by unfold yiy;rw[if_neg om,if_pos h1])
  simp[inB]at h2;refine zk ?_;refine yad ?_;rcases he with he|he
  .exact he
  exact absurd h2 he.2
 simp at h1;refine zk ?_;refine yad ?_;rcases he with he|he
 .exact he
 exact absurd he.1 h1
end
section
open Go.RowKit
theorem size_next(hy:p.vars[k]?=some y):(p.vars.take (k+1)).foldl (ygt g deg) 1=ygt g deg ((p.vars.take k).foldl (ygt g deg) 1) y:=by
 rw[yhj hy,qcx,qcr,qhp]
theorem size_mul(h:ycv p g=0)(hd:0<=deg/\deg<=30)(k:Nat)(hy:y∈p.vars):
  0<=(p.vars.take k).foldl (ygt g deg) 1/\(p.vars.take k).foldl (ygt g deg) 1<=1073741824/\0<=(p.vars.take k).foldl (ygt g deg) 1 * ((yar y g deg).2 - (yar y g deg).1+1)/\(p.vars.take k).foldl (ygt g deg) 1 * ((yar y g deg).2 - (yar y g deg).1+1)<=1073741824 * 4096:=by
 obtain⟨hc,hg,hfit⟩:=ydk.1 h;have hn:=(ycn hc).2.2.2;have hs:=xen (g:=g) hd (p.vars.take k) 1 (fun x hx=>hn x (qcv hx)) (fun x hx=>hfit x (qcv hx)) om om;have hb:=zwr (deg:=deg) (hfit y hy) (hn y hy) hd;have hw:0<=(yar y g deg).2 - (yar y g deg).1+1:=by split at hb <;> omega
 have:=xdm hs.1 hs.2 hw hb.2;exact⟨hs.1,hs.2,this⟩
theorem rsize_con(p:ProgD)(g:GraphD)(v:Int)(hf:Fair p g):Con prog 82 [ygg p,yev g,i64 v] (i64 (xaq p g v)):=by
 have hgl:=hf.glen;have hvl:=hf.vlen;refine ze Tryz.func82 ntmps82 Tryz.results82 ?_
 (repeat (first|refine zy ?_|refine zc (rthere_con p g v 0 hf) ?_))
 refine zj ?_ ?_ <;> intro h1
 .simp at h1;refine zk ?_;refine yad ?_;unfold xaq;split
  .rename_i h2;have:=ycn (ydk.1 h2).1;rw[if_neg];intro hv;rcases h1 with h|h
   .exact absurd h2 h
   rw[<- qbv,yxh]at h;omega
  rfl
 simp at h1;obtain⟨h1,hth⟩:=h1;rw[yxh]at hth;obtain⟨hc,hg,hfit⟩:=ydk.1 h1;have hvf:=ybe hg;have hn:=(ycn hc).2.2.2;obtain⟨ls,hls⟩:=ybk (show v.toNat < g.ports.length by omega);have hll:=hgl.2.2 ls (qab hls);refine zY ?_;refine ybj (α:=Nat) (fun k=>[(8,i64 k),(7,i64 ((p.vars.take k).foldl (ygt g ls.length) 1)),(2,i64 v),(3,.lp 3 0),(4,.lp 4 0)]) (fun k=>[(3,some (.cells [ykp p.name,.sl 6 (p.vars.map ybl),.sl 3 (p.rules.map ybc)])),(4,some (.cells [yai g.ids,yaq g.ports]))]) (fun k=>p.vars.length - k) (fun k=>k<=p.vars.length) 0 om zs zh ?_;intro k hk;refine zY ?_;refine zj ?_ ?_ <;> intro h
 .simp at h;obtain⟨y,hy⟩:=ybk h;have hym:=qab hy;have hbd:=yvh (deg:=(ls.length:Int)) (hn y hym) hg om;have hm:=size_mul (deg:=(ls.length:Int)) h1 om k hym
  (repeat (first|refine zy ?_|refine zc (zbo p g v k ls y (hn y hym) hg om hls om om (by simpa using hy)) ?_))
  refine rnd (k+1) om om ?_ zh;refine yan rfl (yan ?_ zs);rw[size_next hy];rfl
 simp at h;obtain rfl:k=p.vars.length:=by omega
 refine zk ?_;refine yad ?_;unfold xaq;rw[if_pos h1,if_pos om,xgs hls,qaw]
end
section
open Go.RowKit
end
section
open Go.RowKit
theorem fit_ok{x:VarD}(hf:zgr g x=true)(hx:yxp x=true)(hd:0<=deg/\deg<=30):(yar x g deg).1<=(yar x g deg).2/\(yar x g deg).2 - (yar x g deg).1+1<=4096:=by
 have h1:=yil hx;unfold zgr at hf;unfold yar at hf ⊢;rcases h1.1 with hk|hk|hk
 .simp [hk]at hf ⊢;omega
 .simp [hk]
 simp[hk];omega
theorem bring_in{k lo hi a:Int}(h:lo<=hi)(h3:k=3->lo=-1):lo<=yiy k lo hi a/\yiy k lo hi a<=hi:=by
 unfold yiy;split
 .omega
 split
 .omega
 split <;> omega
theorem yzu{x:VarD}(h:x.kind=3):yar x g deg=(-1,deg - 1):=by unfold yar;rw[if_neg om,if_pos h]
end
section
open Go.RowKit
def yfl(l:List (Int × Int)):List AV:=(l.map yiv).flatten
theorem zdp(l:List (Int × Int)):(yfl l).length=2 * l.length:=by
 unfold yfl;rw[zmv (k:=2) (fun x=>rfl)];omega
theorem zpl:∀ {l:List (Int × Int)} {i:Nat} {y:Int × Int},i < l.length->((yfl l).set (i * 2) (i64 y.1)).set (i * 2+1) (i64 y.2)=yfl (l.set i y)
 | [],i,y,h=>by simp at h
 | (a,b)::l,0,y,h=>by simp[yfl,yiv]
 | (a,b)::l,i+1,y,h=>by
  have ih:=zpl (l:=l) (i:=i) (y:=y) (by simpa using h);have e:yfl ((a,b)::l)=i64 a::i64 b::yfl l:=by simp[yfl,yiv]
  rw[List.set_cons_succ,e,show (i+1) * 2=i * 2+1+1 by omega,show i * 2+1+1+1=i * 2+1+1+1 from rfl];simp only[List.set_cons_succ];rw[ih];simp[yfl,yiv]
theorem xnr:∀ n:Nat,ykx n [i64 0,i64 0]=yfl (List.replicate n (0,0))
 | 0=>rfl
 | n+1=>by simp[ykx,xnr n,qbq,yfl,yiv]
def yaf(p:ProgD)(g:GraphD):List (List (Int × Int)):=g.ports.map fun ls=>p.vars.map fun y=>yar y g ls.length
def tF(p:ProgD)(g:GraphD):List (Nat × Option LObj):=[(3,some (.cells [yai g.ids,yaq g.ports])),(2,some (.cells [ykp p.name,.sl 6 (p.vars.map ybl),.sl 3 (p.rules.map ybc)]))]
def tF8(p:ProgD)(g:GraphD)(y:VarD):List (Nat × Option LObj):=(8,some (.cells (ybl y)))::tF p g
theorem yqb{N:Nat}{c:Code}{Q:Exit->SS->Prop}{t t':List (Nat × AV)}{h h':List (Nat × Option LObj)}(k:A P N c Q (S t' h'))(h1:zap t t')(h2:∀ id o,yac h' id=some o->yac h id=some o):A P N c Q (S t h):=ypf k ⟨ycd h1,h2⟩
theorem xbe{N:Nat}{x:Code}{Q:Exit->SS->Prop}{s:SS}(t0:List (Nat × AV))(h0:List (Nat × Option LObj))(k1:A P N x (Mid t0 h0) s)(k2:∀ s',Sub (S t0 h0) s'->Q .normal s'):A P N x Q s:=
 k1.mono fun e s ⟨he,hs⟩=>by subst he;exact k2 s hs
theorem yoh(p:ProgD)(g:GraphD)(hf:Fair p g)(h0:ycv p g=0):Con prog 43 [ygg p,yev g] (yeh (yaf p g)):=by
 have hgl:=hf.glen;have hvl:=hf.vlen;obtain⟨hc0,hg,hfit⟩:=ydk.1 h0;have hvf:=ybe hg;have htl:(yaf p g).length=g.ids.length:=by simp[yaf];omega
 refine ze Tryz.func43 ntmps43 Tryz.results43 ?_
 (repeat (first|refine zy ?_|refine yph tok rfl rfl rfl rfl co rfl rfl rfl rfl rfl ?_))
 refine ytu 12 (List.replicate g.ids.length ygd) rfl (zym _ _) ?_;refine ybw (α:=Nat) (fun k=>[(15,i64 k),(14,i64 g.ids.length),(5,.ls 12 1 g.ids.length),(2,.lp 2 0),(3,.lp 3 0)]) (fun k=>tF p g++ybz 12 2 ((yaf p g).take k |>.map yfl) (List.replicate (g.ids.length - k) ygd)) (fun k=>g.ids.length - k) (fun k=>k<=g.ids.length) 0 om zs (yah (by simp only[qet,qex,ybz,yfe,ypl,qcw,qhh];exact zh)) ?_;intro k hk;refine zY ?_;refine zj ?_ ?_ <;> intro h
 .simp at h;obtain⟨ls,hls⟩:=ybk (show k < g.ports.length by omega);have hll:=hgl.2.2 ls (qab hls);have htk:(((yaf p g).take k).map yfl).length=k:=by simp;omega
  (repeat (first|refine zy ?_|refine xbl tok (fam 12 k) rfl rfl rfl rfl co (yqn (f:=tF p g) rfl rfl rfl htk.symm (zlx ygd rfl _)) rfl rfl rfl ?_))
  refine yat tok rfl rfl (by rw[yap (ydg om)];exact ybo rfl) rfl om om rfl rfl ?_;refine yon tok rfl rfl rfl rfl rfl (by rw[yap (ydg om)];exact ybo rfl) (by rw[qan,ydz,htk,qdw];simp;omega) rfl rfl ?_;refine xfm (h':=tF p g++ybz 12 2 (((yaf p g).take k).map yfl++[yfl (List.replicate p.vars.length (0,0))]) (List.replicate (g.ids.length - (k+1)) ygd)) ?_ ?_
  .have hrep:ykx p.vars.length (yhw [Value.int .i64 0,Value.int .i64 0])=yfl (List.replicate p.vars.length (0,0)):=xnr _;have hex:List.replicate (g.ids.length - k) ygd=ygd::List.replicate (g.ids.length - (k+1)) ygd:=by rw[<- qbq];congr 1;omega
   rw[show ((k:Int).toNat * 1)=k by simp];exact ztv (M:=12) (sz:=2) (f:=tF p g) (a:=ygd) rfl rfl rfl htk.symm (by rw[hrep,zdp];simp) hex (by rw[hrep])
  refine zY ?_;refine ybw (α:=Nat) (fun j=>[(28,i64 j),(27,i64 p.vars.length),(26,.sl 6 (p.vars.map ybl)),(6,i64 k),(15,i64 k),(14,i64 g.ids.length),(5,.ls 12 1 g.ids.length),(2,.lp 2 0),(3,.lp 3 0)]) (fun j=>tF p g++ybz 12 2 (((yaf p g).take k).map yfl++[yfl ((p.vars.map fun y=>yar y g ls.length).take j++List.replicate (p.vars.length - j) (0,0))]) (List.replicate (g.ids.length - (k+1)) ygd)) (fun j=>p.vars.length - j) (fun j=>j<=p.vars.length) 0 om zs (hsE sm) ?_;intro j hj;refine zY ?_;refine zj ?_ ?_ <;> intro h2
  .simp at h2;obtain⟨y,hy⟩:=ybk (show j < p.vars.length by omega)
   (repeat (first|refine zw ?_|refine zkn tok rfl rfl rfl (yqm (f:=tF p g) rfl rfl rfl (zme _ _ rfl _)) rfl rfl rfl ?_))
   -- ROUND
   have hyn:yxp y=true:=(ycn hc0).2.2.2 y (qab hy);obtain⟨hlow8,houter⟩:zlu (tF8 p g y)=true/\((tF8 p g y).all fun x=>!Nat.beq x.1 12)=true:=⟨rfl,rfl⟩;obtain⟨flat,hflat⟩:∃ flat,yfl ((p.vars.map fun y=>yar y g ls.length).take j++List.replicate (p.vars.length - j) (0,0))=flat:=⟨_,rfl⟩;have hpart:(((yaf p g).take k).map yfl++[yfl ((p.vars.map fun y=>yar y g ls.length).take j++List.replicate (p.vars.length - j) (0,0))])[k]?=some flat:=by
    rw[qah om,htk,qbm,<- hflat];rfl
   have hpl:flat.length=2 * p.vars.length:=by rw[<- hflat,zdp];simp;omega
   have hfin:∀ (a b:Nat),a=j * 2->b=j * 2+1->yac ((fam 12 k,some (.vec ((flat.set a (i64 (yar y g ls.length).1)).set b (i64 (yar y g ls.length).2))))::(fam 12 k,some (.vec (flat.set a (i64 (yar y g ls.length).1))))::(tF8 p g y++ybz 12 2 (((yaf p g).take k).map yfl++[yfl ((p.vars.map fun y=>yar y g ls.length).take j++List.replicate (p.vars.length - j) (0,0))]) (List.replicate (g.ids.length - (k+1)) ygd)))=yac (tF8 p g y++ybz 12 2 (((yaf p g).take k).map yfl++[yfl ((p.vars.map fun y=>yar y g ls.length).take (j+1)++List.replicate (p.vars.length - (j+1)) (0,0))]) (List.replicate (g.ids.length - (k+1)) ygd)):=by
    rintro _ _ rfl rfl;have e:(flat.set (j * 2) (i64 (yar y g ls.length).1)).set (j * 2+1) (i64 (yar y g ls.length).2)=yfl ((p.vars.map fun y=>yar y g ls.length).take (j+1)++List.replicate (p.vars.length - (j+1)) (0,0)):=by
     rw[<- hflat,zpl so,zyu sm (by rw[qak,hy];rfl)]
    rw[e,yhg];refine(zmb hlow8 om hpart (by rw[hpl,zdp];simp;omega)).trans ?_;rw[zyv htk]
   have hcO:ycw (yac (tF8 p g y++ybz 12 2 (((yaf p g).take k).map yfl++[yfl ((p.vars.map fun y=>yar y g ls.length).take j++List.replicate (p.vars.length - j) (0,0))]) (List.replicate (g.ids.length - (k+1)) ygd)) 12)=some (yfe 12 2 0 (((yaf p g).take k).map yfl++[yfl ((p.vars.map fun y=>yar y g ls.length).take j++List.replicate (p.vars.length - j) (0,0))])++(List.replicate (g.ids.length - (k+1)) ygd)):=by rw[ybo houter];exact yfg _
   have hcell:(yfe 12 2 0 (((yaf p g).take k).map yfl++[yfl ((p.vars.map fun y=>yar y g ls.length).take j++List.replicate (p.vars.length - j) (0,0))])++(List.replicate (g.ids.length - (k+1)) ygd))[(k:Int).toNat * 1]?=some (.ls (fam 12 k) 2 p.vars.length):=by
    rw[show ((k:Int).toNat * 1)=k by simp,qam (by rw[ydz];simp;omega),yej,hpart];simp only[qav,hpl,qay];congr 2;omega
   have hpne:flat≠[]:=by intro h0;rw[h0]at hpl;simp at hpl;omega
   refine yqb (t':=[(7,i64 j),(8,.lp 8 0),(6,i64 k),(5,.ls 12 1 g.ids.length),(28,i64 j),(27,i64 p.vars.length),(26,.sl 6 (p.vars.map ybl)),(15,i64 k),(14,i64 g.ids.length),(2,.lp 2 0),(3,.lp 3 0)]) (h':=tF8 p g y++ybz 12 2 (((yaf p g).take k).map yfl++[yfl ((p.vars.map fun y=>yar y g ls.length).take j++List.replicate (p.vars.length - j) (0,0))]) (List.replicate (g.ids.length - (k+1)) ygd)) ?_ zs (hsE yhg);refine xbe [(7,i64 j),(8,.lp 8 0),(6,i64 k),(5,.ls 12 1 g.ids.length),(28,i64 j),(27,i64 p.vars.length),(26,.sl 6 (p.vars.map ybl)),(15,i64 k),(14,i64 g.ids.length),(2,.lp 2 0),(3,.lp 3 0)] (tF8 p g y++ybz 12 2 (((yaf p g).take k).map yfl++[yfl ((p.vars.map fun y=>yar y g ls.length).take (j+1)++List.replicate (p.vars.length - (j+1)) (0,0))]) (List.replicate (g.ids.length - (k+1)) ygd)) ?_ fun s2 hs2=>ypf ?_ hs2
   focus
    refine ybg (lf:=lf0) ymj rfl ?_
    refine yeq [0,1,2,3,4,5,6,7,8,10,11,12,13,14,15,17,18] 6 (yaa rfl (yaa rfl (yaa rfl (yaa rfl (yaa rfl (yaa rfl (yaa rfl (yaa rfl (yaa rfl (yaa rfl (yaa rfl (yaa rfl (yaa rfl (yaa rfl (yaa rfl (yaa rfl (yaa rfl yal))))))))))))))))) rfl kf ?_
    repeat' (first
     | refine zo ?_
     | refine yat tok rfl rfl (by first|exact ybb|exact ylx hlow8 om hpart|exact ybo houter) rfl om om rfl rfl ?_
     | refine ydp (r:=.ls (fam 12 k) 2 p.vars.length) tok rfl rfl rfl hcO hcell rfl rfl ?_
     | refine zc (zhq y g k ls hyn hg om (by simpa using hls) om) ?_
     | refine yiz tok rfl rfl (by first|(rw[ybb];rfl)|(rw[ylx hlow8 om hpart];rfl)) (by first|exact hpne|(intro h0;exact hpne (by simpa using h0))) rfl dc dc rfl rfl ?_
     | refine yom tok rfl rfl rfl rfl rfl (by first|exact ybb|exact ylx hlow8 om hpart) (by first|omega|(rw[qfk];omega)) rfl rfl rfl ?_
     | exact⟨rfl,ycd zs,hsE (hfin _ _ sm sm)⟩
     | exact trivial
     | refine⟨⟨_,rfl,?_⟩,?_⟩
     | refine yaz [16,20,21,22] (yaa rfl (yaa rfl (yaa rfl (yaa rfl yal)))) rfl dk ?_
     | refine yaz [16,21,22] (yaa rfl (yaa rfl (yaa rfl yal))) rfl dk ?_
     | refine yaz [19,21,22] (yaa rfl (yaa rfl (yaa rfl yal))) rfl dk ?_
     | refine yaz [20,21,22] (yaa rfl (yaa rfl (yaa rfl yal))) rfl dk ?_
     | refine yaz [9,16,20,21,22] (yaa rfl (yaa rfl (yaa rfl (yaa rfl (yaa rfl yal))))) rfl dk ?_
     | refine yaz [9,20,21,22] (yaa rfl (yaa rfl (yaa rfl (yaa rfl yal)))) rfl dk ?_
     | refine yax [16,19,20] _ rfl dk sm ?_
     | refine yax [9,16,19] _ rfl dk sm ?_
     | refine yax [19,20] _ rfl dk sm ?_
     | refine yax [16,19] _ rfl dk sm ?_
     | refine yax [9,19] _ rfl dk sm ?_)
   refine zY ?_;exact yhi (j+1) om om zs (hsM (f:=tF8 p g y) (f':=tF p g) (yab rfl (yab rfl yag)) hlow8 rfl houter)
  simp at h2;obtain rfl:j=p.vars.length:=by omega
  refine zY ?_;refine yhi (k+1) om om zs (hsE ?_);have hrow:(yaf p g)[k]?=some (p.vars.map fun y=>yar y g ls.length):=by simp[yaf,hls]
  rw[yao hrow];simp[qal]
 simp at h;obtain rfl:k=g.ids.length:=by omega
 refine zk ?_;have e1:(yaf p g).take g.ids.length=yaf p g:=qal om;have e2:List.replicate (g.ids.length - g.ids.length) ygd=[]:=by simp
 rw[e1,e2];have:=Frz.mat (f:=tF p g) (M:=12) (sz:=2) (rows:=(yaf p g).map yfl) (els:=(yaf p g).map fun r=>r.map yiv) rfl rfl rfl om (by intro r hr e he;obtain⟨r0,_,rfl⟩:=qag.1 hr;obtain⟨q,_,rfl⟩:=qag.1 he;rfl) (n:=g.ids.length) (by simp[htl]) (by simp[yfl,Function.comp_def]);simpa[S,yeh,Function.comp_def]using this
end
section
open Go.RowKit
def zss(r:Int × Int)(v:Int):Bool:=decide (r.1<=v) && decide (v<=r.2)
def ych(rs:List (Int × Int))(vs:List Int):Bool:=vs.length == rs.length && (rs.zip vs).all fun x=>zss x.1 x.2
theorem ynn{β:Type}{m:List β}{a:α}{b:β}(h1:l[k]?=some a)(h2:m[k]?=some b):(l.zip m)[k]?=some (a,b):=by
 rw[qfq];exact⟨h1,h2⟩
theorem yuz(hx:l[k]?=some x)(h:(l.take k).all f=true)(hf:f x=true):(l.take (k+1)).all f=true:=by
 rw[yao hx,qfa,h];simp[hf]
theorem yrr(hx:l[k]?=some x)(hf:f x=false):l.all f=false:=by
 rw[qcm];exact⟨x,qab hx,by simp[hf]⟩
theorem state_con(rs:List (Int × Int))(vs:List Int)(hv:vs.length<=1000000):Con prog 157 [.sl 2 (rs.map yiv),yai vs] (yau (ych rs vs)):=by
 refine ze Tryz.func157 ntmps157 Tryz.results157 ?_;refine zY ?_;refine zj ?_ ?_ <;> intro h
 .refine zk ?_;refine yae ?_;have:vs.length≠rs.length:=by intro e;simp[e]at h
  simp[ych,this]
 have hl:vs.length=rs.length:=by simp at h;omega
 refine zY ?_;refine ybj (α:=Nat) (fun k=>[(14,i64 k),(13,i64 vs.length),(12,yai vs),(0,.sl 2 (rs.map yiv))]) (fun k=>[]) (fun k=>vs.length - k) (fun k=>k<=vs.length/\((rs.zip vs).take k).all (fun x=>zss x.1 x.2)=true) 0 ⟨om,rfl⟩ zs zh ?_;intro k ⟨hk,hok⟩;refine zY ?_;refine zj ?_ ?_ <;> intro h1
 .simp at h1;obtain⟨v,hvk⟩:=ybk (show k < vs.length by omega);obtain⟨r,hrk⟩:=ybk (show k < rs.length by omega);have hz:=ynn hrk hvk;refine zY ?_;refine yaj 26 rfl (fun h2=>?_) (fun h2=>?_)
  .refine zk ?_;refine yae ?_;simp at h2;rw[ych,yrr hz (by simp[zss];omega),qci]
  refine zY ?_;refine zj ?_ ?_ <;> intro h3
  .refine zk ?_;refine yae ?_;simp at h2 h3;rw[ych,yrr hz (by simp[zss];omega),qci]
  refine zY ?_;simp at h2 h3;exact rnd (k+1) ⟨om,yuz hz hok (by simp[zss];omega)⟩ om zs zh
 simp at h1;obtain rfl:k=vs.length:=by omega
 refine zk ?_;refine yae ?_;rw[qal so]at hok;simp[ych,hl,hok]
def ybx(tbl:List (List (Int × Int)))(c:List (List Int)):Bool:=c.length == tbl.length && (tbl.zip c).all fun x=>ych x.1 x.2
def znu(c:List (List Int)):Prop:=c.length<=1000000/\∀ r∈c,r.length<=1000000
theorem within_con(tbl:List (List (Int × Int)))(c:List (List Int))(hc:znu c)(ht:tbl.length<=1000000):Con prog 91 [yeh tbl,ycj c] (yau (ybx tbl c)):=by
 have hcl:=hc.1;refine ze Tryz.func91 ntmps91 Tryz.results91 ?_;refine zY ?_;refine zj ?_ ?_ <;> intro h
 .refine zk ?_;refine yae ?_;have:c.length≠tbl.length:=by intro e;simp[e]at h
  simp[ybx,this]
 have hl:c.length=tbl.length:=by simp at h;omega
 refine zY ?_;refine ybj (α:=Nat) (fun k=>[(14,i64 k),(13,i64 tbl.length),(12,yeh tbl),(1,ycj c)]) (fun k=>[]) (fun k=>tbl.length - k) (fun k=>k<=tbl.length/\((tbl.zip c).take k).all (fun x=>ych x.1 x.2)=true) 0 ⟨om,rfl⟩ zs zh ?_;intro k ⟨hk,hok⟩;refine zY ?_;refine zj ?_ ?_ <;> intro h1
 .simp at h1;obtain⟨r,hrk⟩:=ybk (show k < tbl.length by omega);obtain⟨v,hvk⟩:=ybk (show k < c.length by omega);have hz:=ynn hrk hvk
  (repeat (first|refine zy ?_|refine zc (state_con r v (hc.2 v (qab hvk))) ?_))
  refine zj ?_ ?_ <;> intro h2
  .refine zk ?_;refine yae ?_;simp at h2;rw[ybx,yrr hz h2,qci]
  refine zY ?_;simp at h2;exact rnd (k+1) ⟨om,yuz hz hok h2⟩ om zs zh
 simp at h1;obtain rfl:k=tbl.length:=by omega
 refine zk ?_;refine yae ?_;rw[qal so]at hok;simp[ybx,hl,hok]
theorem cfg_of_fair(hf:Fair p g):(yaf p g).length<=1000000/\∀ r∈yaf p g,r.length<=1000:=by
 have h1:=hf.glen.2.1;have h2:=hf.vlen;refine⟨by simp[yaf];omega,fun r hr=>?_⟩;obtain⟨ls,_,rfl⟩:=qag.1 hr;simpa using h2
def yhf(p:ProgD)(g:GraphD)(c:List (List Int)):Int:=if ycv p g=0 then if ybx (yaf p g) c=true then 0 else 10 else ycv p g
theorem zjd(p:ProgD)(g:GraphD)(c:List (List Int))(hf:Fair p g)(hc:znu c):Con prog 42 [ygg p,yev g,ycj c] (i64 (yhf p g c)):=by
 refine ze Tryz.func42 ntmps42 Tryz.results42 ?_
 (repeat (first|refine zy ?_|refine zc (zlg p g hf) ?_))
 refine zj ?_ ?_ <;> intro h
 .refine zk ?_;have:ycv p g≠0:=by simpa using h
  exact yad (by simp[yhf,this])
 have h0:ycv p g=0:=by simpa using h
 (repeat (first|refine zy ?_|refine zc (yoh p g hf h0) ?_|refine zc (within_con (yaf p g) c hc (cfg_of_fair hf).1) ?_))
 refine zj ?_ ?_ <;> intro h1
 .simp at h1;refine zk ?_;exact yad (by simp[yhf,h0,h1])
 simp at h1;refine zk ?_;exact yad (by simp[yhf,h0,h1])
end
section
open Go.RowKit
def ygz:Int->List (Int × Int)->Option Int
 | n,[]=>some n
 | n,r::rs=>if 32768 < n * (r.2 - r.1+1)then none else ygz (n * (r.2 - r.1+1)) rs
theorem yih:∀ (n:Int) (a b:List (Int × Int)),ygz n (a++b)=(ygz n a).bind fun m=>ygz m b
 | n,[],b=>rfl
 | n,r::rs,b=>by
  simp only[qbb,ygz];split
  .rfl
  exact yih _ rs b
def yce(tbl:List (List (Int × Int))):Int × Int:=match ygz 1 tbl.flatten with
 | some n=>(n,0)
 | none=>(0,3)
def ytx(q:Int × Int):Prop:=-1<=q.1/\q.1<=q.2/\q.2<=1000000
def xbn(tbl:List (List (Int × Int))):Prop:=tbl.length<=1000/\∀ r∈tbl,r.length<=1000/\∀ q∈r,ytx q
theorem xdj{n w:Int}(h1:1<=n)(h2:n<=32768)(h3:1<=w)(h4:w<=1000002):1<=n * w/\n * w<=32768 * 1000002:=
 ⟨by have:=qfz h1 h3 om om;simpa using this,qfz h2 h4 om om⟩
def zue(q:Int × Int):AV:=.tup [i64 q.1,i64 q.2]
theorem zpa(tbl:List (List (Int × Int)))(ht:xbn tbl):Con prog 44 [yeh tbl] (zue (yce tbl)):=by
 have htl:=ht.1;refine ze Tryz.func44 ntmps44 Tryz.results44 ?_;refine zY ?_;refine ybj (α:=Nat × Int) (fun q=>[(11,i64 q.1),(10,i64 tbl.length),(9,yeh tbl),(4,i64 q.2)]) (fun q=>[]) (fun q=>tbl.length - q.1) (fun q=>q.1<=tbl.length/\1<=q.2/\q.2<=32768/\ygz 1 (tbl.take q.1).flatten=some q.2) (0,1) ⟨sm,sm,sm,rfl⟩ zs zh ?_;rintro⟨k,n⟩ ⟨hk,hn1,hn2,hn⟩;simp only at hk hn1 hn2 hn ⊢;refine zY ?_;refine zj ?_ ?_ <;> intro h1
 .simp at h1;obtain⟨r,hrk⟩:=ybk (show k < tbl.length by omega);obtain⟨hrl,hrq⟩:=ht.2 r (qab hrk);refine zY ?_;refine ybj (α:=Nat × Int) (fun q=>[(17,i64 q.1),(16,i64 r.length),(15,.sl 2 (r.map yiv)),(4,i64 q.2),(11,i64 k),(10,i64 tbl.length),(9,yeh tbl)]) (fun q=>[]) (fun q=>r.length - q.1) (fun q=>q.1<=r.length/\1<=q.2/\q.2<=32768/\ygz n (r.take q.1)=some q.2) (0,n) ⟨sm,hn1,hn2,rfl⟩ zs zh ?_;rintro⟨j,m⟩ ⟨hj,hm1,hm2,hm⟩;simp only at hj hm1 hm2 hm ⊢;refine zY ?_;refine zj ?_ ?_ <;> intro h2
  .simp at h2;obtain⟨q,hqj⟩:=ybk (show j < r.length by omega);obtain⟨q1,q2,q3⟩:=hrq q (qab hqj);have hbd:=xdj (w:=q.2 - q.1+1) hm1 hm2 om om;refine zY ?_;have hstep:ygz n (r.take (j+1))=ygz m [q]:=by rw[yao hqj,yih,hm];rfl
   refine zj ?_ ?_ <;> intro h3
   .refine zk ?_;simp at h3;have e:ygz 1 tbl.flatten=none:=by
     have hsplit:tbl.flatten=(tbl.take k).flatten++(r.take (j+1)++(r.drop (j+1)++(tbl.drop (k+1)).flatten)):=by
      conv=>lhs;rw[<- qcd (k+1) tbl,yao hrk]
      rw[qdq,qdq,qbd];congr 1;rw[<- qbd,qcd];simp
     rw[hsplit,yih,hn,qej,yih,hstep];simp[ygz,h3]
    simp only[yce,e];exact Frz.pure
   refine zY ?_;simp at h3;refine rnd (j+1,m * (q.2 - q.1+1)) ⟨by simp only;omega,hbd.1,by simp only;omega,?_⟩ (by simp only;omega) zs zh;rw[hstep];simp only[ygz];rw[if_neg om]
  simp at h2;obtain rfl:j=r.length:=by omega
  refine zY ?_;refine rnd (k+1,m) ⟨by simp only;omega,hm1,hm2,?_⟩ (by simp only;omega) zs zh;rw[qaw]at hm;simp only;rw[yao hrk,qdq,yih,hn];simpa using hm
 simp at h1;obtain rfl:k=tbl.length:=by omega
 refine zk ?_;rw[qaw]at hn;simp only[yce,hn];exact Frz.pure
theorem ydj(hf:Fair p g)(h0:ycv p g=0):xbn (yaf p g):=by
 obtain⟨hc0,hg,hfit⟩:=ydk.1 h0;have hvf:=ybe hg;refine⟨by simp[yaf];omega,fun r hr=>?_⟩;obtain⟨ls,hls,rfl⟩:=qag.1 hr;have hll:=hf.glen.2.2 ls hls;refine⟨by simpa using hf.vlen,fun q hq=>?_⟩;obtain⟨y,hy,rfl⟩:=qag.1 hq;have hn:=(ycn hc0).2.2.2 y hy;have hb:=yvh (deg:=ls.length) hn hg om;have hl:=zwr (deg:=ls.length) (hfit y hy) hn om;refine⟨hb.1,?_,om⟩;by_cases hk:y.kind=3
 .rw [yzu hk];simp only;omega
 rw[if_neg hk]at hl;omega
def yia(p:ProgD)(g:GraphD):Int × Int:=if ycv p g=0 then yce (yaf p g)else(0,ycv p g)
theorem mcount_con(p:ProgD)(g:GraphD)(hf:Fair p g):Con prog 65 [ygg p,yev g] (zue (yia p g)):=by
 refine ze Tryz.func65 ntmps65 Tryz.results65 ?_
 (repeat (first|refine zy ?_|refine zc (zlg p g hf) ?_))
 refine zj ?_ ?_ <;> intro h
 .refine zk ?_;have:ycv p g≠0:=by simpa using h
  rw[yia,if_neg this];exact Frz.pure
 have h0:ycv p g=0:=by simpa using h
 (repeat (first|refine zy ?_|refine zc (yoh p g hf h0) ?_|refine zc (zpa (yaf p g) (ydj hf h0)) ?_))
 refine zr ?_;rw[yia,if_pos h0];exact Frz.pure
end
set_option maxHeartbeats 4000000
section
open Go.RowKit
def yhp(val:List AV->AV)(rows:List (List AV)):List (List AV):=(List.range rows.length).map fun(k:Nat)=>[i64 ((rows.length:Int) - 1 - (k:Int)),val (rows.getD (rows.length - 1 - k) [])]
theorem yhq(val:List AV->AV)(rows:List (List AV)):(yhp val rows).length=rows.length:=by simp[yhp]
theorem yln{val:List AV->AV}{el:List AV}(h:(yhp val rows)[k]?=some el):k < rows.length/\∃ row,rows[rows.length - 1 - k]?=some row/\el=[i64 ((rows.length:Int) - 1 - k),val row]:=by
 have hk:k < rows.length:=by have:=(qaa.1 h).1;rwa [yhq]at this
 obtain⟨row,hrow⟩:∃ row,rows[rows.length - 1 - k]?=some row:=⟨_,qae om⟩;refine⟨hk,row,hrow,?_⟩;simp only[yhp,qak,qcf hk,qav,Option.some.injEq,qac,hrow,qbu]at h;exact h.symm
theorem yel(h:d < a.tmps.size):(a.put (some d) u).eval (.tmp d)=u:=by
 simp[Act.put,Act.eval,Array.getD,h]
theorem yma{x:Nat}(h:x≠d):(a.put (some d) u).eval (.tmp x)=a.eval (.tmp x):=by
 simp only[Act.put,Act.eval,qar,qbx];rw[if_neg om]
theorem ymq{v:Value}:a.eval (.const v)=v:=rfl
theorem ymz:(a.put (some d) u).tmps.size=a.tmps.size:=by simp[Act.put]
theorem yid{d:Option Nat}:(a.put d u).defers=a.defers:=by cases d <;> rfl
theorem ymx{ops:Array Oper}{Q:Exit->Act->World->Prop}{rest:List Nat}{o:Oper}(u:Value)(hlt:d < a.tmps.size)(ho:ops[i]?=some o)(hdst:o.dst=some d)(hg:o.guard=none)(hd:yow o.op=false)(hr:(execOp a.eval o).run P w=.ok (.value u) w)(k:∀ a':Act,a'.tmps.size=a.tmps.size->a'.defers=a.defers->a'.eval (.tmp d)=u->(∀ x,x≠d->a'.eval (.tmp x)=a.eval (.tmp x))->wpOpsIn Fence.wide n P ops Q rest a' w):wpOpsIn Fence.wide n P ops Q (i::rest) a w:=
 opI u ho hg hd hr (by rw[hdst];exact k _ ymz yid (yel hlt) fun x hx=>yma hx)
theorem zms{ok:Nat->Prop}{lv:Live}{a:AV}{cs:List Value}(h:ybn ok w lv [a] cs):∃ u,cs=[u]/\Rel ok w lv a u:=by
 match cs,h.1 with
 | [u],_=>exact⟨u,rfl,h.2 0 _ _ rfl rfl⟩
theorem zju{ok:Nat->Prop}{lv:Live}{size:Nat}{v:Value}(h:Rel ok w lv (.sl size rows) v):∃ ad cap,v=.slice ad rows.length cap/\∀ (i:Nat) (row:List AV),rows[i]?=some row->∃ g q,ad=some ⟨g,q,none⟩/\ok g/\yok ok w (fun _=>none) g (q+i * size) row:=by
 cases h with
 | sl ad cap u g q hn hc ha hsz hg hcell hrel=>
  refine⟨ad,cap,rfl,fun i row hrow=>?_⟩;obtain⟨rfl,hok⟩:=hg (by intro h;simp[h]at hrow);exact⟨g,q,rfl,hok,fun j x hx=>⟨(hcell i j row x hrow hx).2,_,(hcell i j row x hrow hx).1,hrel i j row x hrow hx⟩⟩
theorem backO_iter(rows:List (List AV))(val:List AV->AV)(hval:∀ row∈rows,ztn false 1 row=some (val row)):zkl prog 182 [.dp [.sl 1 rows] 0] (yhp val rows):=by
 refine⟨⟨_,Tryz.func182,rfl,rfl⟩,fun l ok W us J X hok hcaps hJ hJg hXg hround h0=>?_⟩;obtain⟨pv,rfl,hp⟩:=zms hcaps;obtain⟨pg,po,hpv,hpok,hpc⟩:=yor hp;rw[qdv]at hpv;subst hpv;obtain⟨_,sv,hsv,hsr⟩:=hpc 0 (.sl 1 rows) rfl;obtain⟨ad,cap,rfl,hrows⟩:=zju hsr;rw[qdv]at hsv;have hcell:∀ {k W'},J k W'->W'.cell? ⟨pg,po,none⟩=some (.slice ad rows.length cap):=fun hj=>(World.cell?_of_block (w:=W) ((hJ _ _ hj).2 pg hpok)).trans hsv;have hload:∀ {W':World},W'.cell? ⟨pg,po,none⟩=some (.slice ad rows.length cap)->(loadVar 100 ⟨pg,po,none⟩).run prog W'=.ok (.slice ad rows.length cap) W':=by
  intro W' hc;obtain⟨u,h1,h2⟩:=ymt (P:=prog) (ok:=fun _=>True) (w:=W') (lv:=fun _=>none) (g:=pg) (o:=po) (xs:=[.v (.slice ad rows.length cap)]) (t:=100) (s:=1) (ag:=false) (r:=.v (.slice ad rows.length cap)) (tok _ _ (show TT 100=some _ from rfl)).1 (fun j x hx=>by
   match j with
   | 0=>simp only[qas,Option.some.injEq]at hx;subst hx;exact⟨rfl,_,hc,.v _⟩
   | j+1=>simp at hx) rfl
  cases h2;exact h1
 have hkind:=(tok _ _ (show TT 100=some _ from rfl)).2.2;refine callsIn_of_wp Tryz.func182 rfl trivial ?_;rw[ntmps182];refine wpIn_seq (wpIn_region ?_);rw[show (#[Value.func (.yield l) #[] #[]]++[Value.pointer (some ⟨pg,po,none⟩)].toArray:Array Value)=[Value.func (.yield l) #[] #[],Value.pointer (some ⟨pg,po,none⟩)].toArray by simp];generalize ha:({ tmps:=[Value.func (.yield l) #[] #[],Value.pointer (some ⟨pg,po,none⟩)].toArray++Array.replicate (19 - [Value.func (.yield l) #[] #[],Value.pointer (some ⟨pg,po,none⟩)].toArray.size) undef,defers:=[] }:Act)=a0;have hs0:a0.tmps.size=19:=by rw[<- ha];simp only[Array.size_append,qhj,qdg,qaj,qew]
 have e0:a0.eval (.tmp 0)=.func (.yield l) #[] #[]:=by rw[<- ha];simp only[Act.eval];exact yfm [Value.func (.yield l) #[] #[],Value.pointer (some ⟨pg,po,none⟩)] _ 0 _ rfl
 have e1:a0.eval (.tmp 1)=.pointer (some ⟨pg,po,none⟩):=by rw[<- ha];simp only[Act.eval];exact yfm [Value.func (.yield l) #[] #[],Value.pointer (some ⟨pg,po,none⟩)] _ 1 _ rfl
 have hd0:a0.defers=[]:=by rw[<- ha]
 clear ha;refine ymx (d:=4) (.slice ad rows.length cap) om rfl rfl rfl rfl (by simp[execOp,e1,Instr.loadAt,Instr.sureAddr,hload (hcell h0)]) fun a1 s1 d1 q1 n1=>?_;refine ymx (d:=5) (.int .i64 rows.length) om rfl rfl rfl rfl (by simp[execOp,resolve,invoke,builtin,Builtin.len_,q1,run_underlying hkind.1,goInt]) fun a2 s2 d2 q2 n2=>?_;have hcap:rows.length<=9223372036854775807:=by
  cases hsr with
  | sl ad cap u g q hn hc=>unfold maxLen at hc;omega
 refine ymx (d:=6) (.int .i64 ((rows.length:Int) - 1)) om rfl rfl rfl rfl (by simp[execOp,q2,ymq,eqGuard,binOp,Op.intArith,IntWalk.i64_in ((rows.length:Int) - 1) om]) fun a3 s3 d3 q3 n3=>?_;refine ymx (d:=3) (.int .i64 ((rows.length:Int) - 1)) om rfl rfl rfl rfl (by simp[execOp,q3]) fun a4 s4 d4 q4 n4=>?_;refine wpIn_block (wpIn_loop (fun a w=>∃ k,k<=rows.length/\J k w/\a.tmps.size=19/\a.defers=[]/\a.eval (.tmp 0)=.func (.yield l) #[] #[]/\a.eval (.tmp 1)=.pointer (some ⟨pg,po,none⟩)/\a.eval (.tmp 3)=.int .i64 ((rows.length:Int) - 1 - k)) (fun a w=>(intOf (a.eval (.tmp 3))+1).toNat) ⟨0,om,h0,om,by rw[d4,d3,d2,d1,hd0],by rw[n4 0 sm,n3 0 sm,n2 0 sm,n1 0 sm,e0],by rw[n4 1 sm,n3 1 sm,n2 1 sm,n1 1 sm,e1],by rw[q4];simp⟩ ?_);clear e0 e1 hs0 hd0 s1 d1 q1 n1 s2 d2 q2 n2 s3 d3 q3 n3 s4 d4 q4 n4 a0 a1 a2 a3 a4;rintro a0 w ⟨k,hk,hj,hs0,hd0,e0,e1,e3⟩;refine wpIn_seq (wpIn_seq (wpIn_region ?_));refine ymx (d:=7) _ om rfl rfl rfl rfl (by simp[execOp,e3];rfl) fun a1 s1 d1 q1 n1=>?_;refine ymx (d:=8) (.bool (decide (0<=(rows.length:Int) - 1 - k))) om rfl rfl rfl rfl (by simp[execOp,q1,ymq,eqGuard,binOp,Op.intCmp]) fun a2 s2 d2 q2 n2=>?_;refine wpIn_cond_split q2 (fun hb=>?_) (fun hb=>?_)
 .simp only[decide_eq_true_eq]at hb;refine wpIn_skip ?_;have hcl:=hcell hj;obtain⟨i,hi⟩:∃ i:Nat,(rows.length:Int) - 1 - k=i:=⟨rows.length - 1 - k,om⟩;have hik:i=rows.length - 1 - k:=by omega
  obtain⟨row,hrow⟩:∃ row,rows[i]?=some row:=⟨_,qae om⟩;obtain⟨g,q,rfl,hgok,hcells⟩:=hrows i row hrow;have hcells':yok ok w (fun _=>none) g (q+i * 1) row:=fun j x hx=>by
   obtain⟨c1,u,c2,c3⟩:=hcells j x hx;exact⟨c1,u,(World.cell?_of_block (w:=W) ((hJ _ _ hj).2 g hgok)).trans c2,c3.keep fun g' hg'=>⟨hg',(hJ _ _ hj).2 g' hg'⟩⟩
  obtain⟨uv,hu1,hu2⟩:=ymt (P:=prog) (tok _ _ (show TT 103=some _ from rfl)).1 hcells' (hval row (qab hrow));refine wpIn_seq (wpIn_block (wpIn_seq (wpIn_region ?_)));refine ymx (d:=11) (.func (.yield l) #[] #[]) om rfl rfl rfl rfl (by simp[execOp,n2,n1,e0]) fun a3 s3 d3 q3 n3=>?_;refine ymx (d:=12) (.int .i64 i) om rfl rfl rfl rfl (by simp[execOp,n3,n2,n1,e3,hi]) fun a4 s4 d4 q4 n4=>?_;refine ymx (d:=13) (.slice (some ⟨g,q,none⟩) rows.length cap) om rfl rfl rfl rfl (by simp[execOp,n4,n3,n2,n1,e1,Instr.loadAt,Instr.sureAddr,hload hcl]) fun a5 s5 d5 q5 n5=>?_;refine ymx (d:=14) (.int .i64 i) om rfl rfl rfl rfl (by simp[execOp,n5,n4,n3,n2,n1,e3,hi]) fun a6 s6 d6 q6 n6=>?_;obtain⟨z,hz⟩:∃ z,q+i * 1=z:=⟨_,rfl⟩;rw[hz]at hu1;refine ymx (d:=15) (.pointer (some ⟨g,z,none⟩)) om rfl rfl rfl rfl (by
   have hrun:=yvu (P:=prog) (w:=w) (cap:=cap) (k:=.i64) hkind.1 hkind.2.1 g q rfl (i:=(i:Int)) (len:=rows.length) om om
   simp only[qcl,hz]at hrun
   simp[execOp,n6,q5,q6,hrun]) fun a7 s7 d7 q7 n7=>?_
  refine ymx (d:=16) uv om rfl rfl rfl rfl (by simp[execOp,q7,Instr.loadAt,Instr.sureAddr,hu1]) fun a8 s8 d8 q8 n8=>?_;have hel:(yhp val rows)[k]?=some [i64 ((rows.length:Int) - 1 - k),val row]:=by
   have hkl:k < (yhp val rows).length:=by rw[yhq];omega
   obtain⟨el,hel⟩:∃ el,(yhp val rows)[k]?=some el:=⟨_,qae hkl⟩;obtain⟨_,row',hr',rfl⟩:=yln hel;rw[<- hik,hrow]at hr';cases hr';exact hel
  have hy:=hround k _ [.int .i64 i,uv] w hel hj ⟨rfl,fun j x u hx hu=>by
   match j with
   | 0=>simp only[qas,Option.some.injEq]at hx hu;subst hx hu;rw[hi];exact .v _
   | 1=>simp only[qca,qas,Option.some.injEq]at hx hu;subst hx hu;exact hu2
   | j+2=>simp at hx⟩
  refine zfc (g:=.tmp 11) (args:=#[.tmp 12,.tmp 16]) rfl rfl rfl (by rw[n8 11 sm,n7 11 sm,n6 11 sm,n5 11 sm,n4 11 sm,q3]) (R:=fun e W'=>(e=.returned (.bool true)/\J (k+1) W')\/(e=.returned (.bool false)/\X W')) (by
   have e12:a8.eval (.tmp 12)=.int .i64 i:=by rw[n8 12 sm,n7 12 sm,n6 12 sm,n5 12 sm,q4]
   simpa[e12,q8]using hy) fun e w' hR=>?_
  have e0':a8.eval (.tmp 0)=.func (.yield l) #[] #[]:=by rw[n8 0 sm,n7 0 sm,n6 0 sm,n5 0 sm,n4 0 sm,n3 0 sm,n2 0 sm,n1 0 sm,e0]
  have e1':a8.eval (.tmp 1)=.pointer (some ⟨pg,po,none⟩):=by rw[n8 1 sm,n7 1 sm,n6 1 sm,n5 1 sm,n4 1 sm,n3 1 sm,n2 1 sm,n1 1 sm,e1]
  have e3':a8.eval (.tmp 3)=.int .i64 ((rows.length:Int) - 1 - k):=by rw[n8 3 sm,n7 3 sm,n6 3 sm,n5 3 sm,n4 3 sm,n3 3 sm,n2 3 sm,n1 3 sm,e3]
  have hd8:a8.defers=[]:=by rw[d8,d7,d6,d5,d4,d3,d2,d1,hd0]
  have hs8:a8.tmps.size=19:=by omega
  rcases hR with⟨rfl,hj1⟩|⟨rfl,hx⟩
  .refine ⟨_,rfl,?_⟩;show wpOpsIn _ _ _ _ _ _ (a8.put (some 17) (.bool true)) w';have s9:(a8.put (some 17) (.bool true)).tmps.size=19:=by rw[ymz,hs8]
   have d9:(a8.put (some 17) (.bool true)).defers=[]:=by rw[yid,hd8]
   have q9:(a8.put (some 17) (.bool true)).eval (.tmp 17)=.bool true:=yel om;have n9:∀ x,x≠17->(a8.put (some 17) (.bool true)).eval (.tmp x)=a8.eval (.tmp x):=fun x hx=>yma hx;generalize a8.put (some 17) (.bool true)=a9 at s9 d9 q9 n9 ⊢;refine ymx (d:=18) (.bool false) om rfl rfl rfl rfl (by simp[execOp,q9,Op.unary]) fun a10 s10 d10 q10 n10=>?_;refine wpIn_cond_false q10 (wpIn_skip ?_);refine wpIn_region ?_;refine ymx (d:=9) _ om rfl rfl rfl rfl (by simp[execOp,n10,n9,e3'];rfl) fun a11 s11 d11 q11 n11=>?_;refine ymx (d:=10) (.int .i64 ((rows.length:Int) - 1 - k - 1)) om rfl rfl rfl rfl (by simp[execOp,q11,ymq,eqGuard,binOp,Op.intArith,IntWalk.i64_in ((rows.length:Int) - 1 - k - 1) om]) fun a12 s12 d12 q12 n12=>?_;refine ymx (d:=3) (.int .i64 ((rows.length:Int) - 1 - k - 1)) om rfl rfl rfl rfl (by simp[execOp,q12]) fun a13 s13 d13 q13 n13=>?_;refine⟨⟨k+1,om,hj1,om,by rw[d13,d12,d11,d10,d9],by rw[n13 0 sm,n12 0 sm,n11 0 sm,n10 0 sm,n9 0 sm,e0'],by rw[n13 1 sm,n12 1 sm,n11 1 sm,n10 1 sm,n9 1 sm,e1'],by rw[q13];congr 1;omega⟩,?_⟩;rw[q13,e3];simp only[intOf];omega
  refine⟨_,rfl,?_⟩;show wpOpsIn _ _ _ _ _ _ (a8.put (some 17) (.bool false)) w';have s9:(a8.put (some 17) (.bool false)).tmps.size=19:=by rw[ymz,hs8]
  have d9:(a8.put (some 17) (.bool false)).defers=[]:=by rw[yid,hd8]
  have q9:(a8.put (some 17) (.bool false)).eval (.tmp 17)=.bool false:=yel om;generalize a8.put (some 17) (.bool false)=a9 at s9 d9 q9 ⊢;refine ymx (d:=18) (.bool true) om rfl rfl rfl rfl (by simp[execOp,q9,Op.unary]) fun a10 s10 d10 q10 n10=>?_;refine wpIn_cond_true q10 (wpIn_ret ?_);refine⟨?_,.tuple #[],?_,⟨_,rfl⟩,.inr hx⟩
  .show a10.defers=[];rw[d10,d9]
  simp[results,Tryz.results182]
 simp only[decide_eq_false_iff_not]at hb;obtain rfl:k=rows.length:=by omega
 refine wpIn_exit ?_;refine⟨?_,.tuple #[],?_,⟨_,rfl⟩,.inl ?_⟩
 .show a2.defers=[];rw[d2,d1,hd0]
 .simp [results,Tryz.results182]
 rw[yhq];exact hj
theorem backI_iter(rows:List (List AV))(val:List AV->AV)(hval:∀ row∈rows,ztn true 2 row=some (val row)):zkl prog 183 [.dp [.sl 2 rows] 0] (yhp val rows):=by
 refine⟨⟨_,Tryz.func183,rfl,rfl⟩,fun l ok W us J X hok hcaps hJ hJg hXg hround h0=>?_⟩;obtain⟨pv,rfl,hp⟩:=zms hcaps;obtain⟨pg,po,hpv,hpok,hpc⟩:=yor hp;rw[qdv]at hpv;subst hpv;obtain⟨_,sv,hsv,hsr⟩:=hpc 0 (.sl 2 rows) rfl;obtain⟨ad,cap,rfl,hrows⟩:=zju hsr;rw[qdv]at hsv;have hcell:∀ {k W'},J k W'->W'.cell? ⟨pg,po,none⟩=some (.slice ad rows.length cap):=fun hj=>(World.cell?_of_block (w:=W) ((hJ _ _ hj).2 pg hpok)).trans hsv;have hload:∀ {W':World},W'.cell? ⟨pg,po,none⟩=some (.slice ad rows.length cap)->(loadVar 103 ⟨pg,po,none⟩).run prog W'=.ok (.slice ad rows.length cap) W':=by
  intro W' hc;obtain⟨u,h1,h2⟩:=ymt (P:=prog) (ok:=fun _=>True) (w:=W') (lv:=fun _=>none) (g:=pg) (o:=po) (xs:=[.v (.slice ad rows.length cap)]) (t:=103) (s:=1) (ag:=false) (r:=.v (.slice ad rows.length cap)) (tok _ _ (show TT 103=some _ from rfl)).1 (fun j x hx=>by
   match j with
   | 0=>simp only[qas,Option.some.injEq]at hx;subst hx;exact⟨rfl,_,hc,.v _⟩
   | j+1=>simp at hx) rfl
  cases h2;exact h1
 have hkind:=(tok _ _ (show TT 103=some _ from rfl)).2.2;refine callsIn_of_wp Tryz.func183 rfl trivial ?_;rw[ntmps183];refine wpIn_seq (wpIn_region ?_);rw[show (#[Value.func (.yield l) #[] #[]]++[Value.pointer (some ⟨pg,po,none⟩)].toArray:Array Value)=[Value.func (.yield l) #[] #[],Value.pointer (some ⟨pg,po,none⟩)].toArray by simp];generalize ha:({ tmps:=[Value.func (.yield l) #[] #[],Value.pointer (some ⟨pg,po,none⟩)].toArray++Array.replicate (19 - [Value.func (.yield l) #[] #[],Value.pointer (some ⟨pg,po,none⟩)].toArray.size) undef,defers:=[] }:Act)=a0;have hs0:a0.tmps.size=19:=by rw[<- ha];simp only[Array.size_append,qhj,qdg,qaj,qew]
 have e0:a0.eval (.tmp 0)=.func (.yield l) #[] #[]:=by rw[<- ha];simp only[Act.eval];exact yfm [Value.func (.yield l) #[] #[],Value.pointer (some ⟨pg,po,none⟩)] _ 0 _ rfl
 have e1:a0.eval (.tmp 1)=.pointer (some ⟨pg,po,none⟩):=by rw[<- ha];simp only[Act.eval];exact yfm [Value.func (.yield l) #[] #[],Value.pointer (some ⟨pg,po,none⟩)] _ 1 _ rfl
 have hd0:a0.defers=[]:=by rw[<- ha]
 clear ha;refine ymx (d:=4) (.slice ad rows.length cap) om rfl rfl rfl rfl (by simp[execOp,e1,Instr.loadAt,Instr.sureAddr,hload (hcell h0)]) fun a1 s1 d1 q1 n1=>?_;refine ymx (d:=5) (.int .i64 rows.length) om rfl rfl rfl rfl (by simp[execOp,resolve,invoke,builtin,Builtin.len_,q1,run_underlying hkind.1,goInt]) fun a2 s2 d2 q2 n2=>?_;have hcap:rows.length<=9223372036854775807:=by
  cases hsr with
  | sl ad cap u g q hn hc=>unfold maxLen at hc;omega
 refine ymx (d:=6) (.int .i64 ((rows.length:Int) - 1)) om rfl rfl rfl rfl (by simp[execOp,q2,ymq,eqGuard,binOp,Op.intArith,IntWalk.i64_in ((rows.length:Int) - 1) om]) fun a3 s3 d3 q3 n3=>?_;refine ymx (d:=3) (.int .i64 ((rows.length:Int) - 1)) om rfl rfl rfl rfl (by simp[execOp,q3]) fun a4 s4 d4 q4 n4=>?_;refine wpIn_block (wpIn_loop (fun a w=>∃ k,k<=rows.length/\J k w/\a.tmps.size=19/\a.defers=[]/\a.eval (.tmp 0)=.func (.yield l) #[] #[]/\a.eval (.tmp 1)=.pointer (some ⟨pg,po,none⟩)/\a.eval (.tmp 3)=.int .i64 ((rows.length:Int) - 1 - k)) (fun a w=>(intOf (a.eval (.tmp 3))+1).toNat) ⟨0,om,h0,om,by rw[d4,d3,d2,d1,hd0],by rw[n4 0 sm,n3 0 sm,n2 0 sm,n1 0 sm,e0],by rw[n4 1 sm,n3 1 sm,n2 1 sm,n1 1 sm,e1],by rw[q4];simp⟩ ?_);clear e0 e1 hs0 hd0 s1 d1 q1 n1 s2 d2 q2 n2 s3 d3 q3 n3 s4 d4 q4 n4 a0 a1 a2 a3 a4;rintro a0 w ⟨k,hk,hj,hs0,hd0,e0,e1,e3⟩;refine wpIn_seq (wpIn_seq (wpIn_region ?_));refine ymx (d:=7) _ om rfl rfl rfl rfl (by simp[execOp,e3];rfl) fun a1 s1 d1 q1 n1=>?_;refine ymx (d:=8) (.bool (decide (0<=(rows.length:Int) - 1 - k))) om rfl rfl rfl rfl (by simp[execOp,q1,ymq,eqGuard,binOp,Op.intCmp]) fun a2 s2 d2 q2 n2=>?_;refine wpIn_cond_split q2 (fun hb=>?_) (fun hb=>?_)
 .simp only[decide_eq_true_eq]at hb;refine wpIn_skip ?_;have hcl:=hcell hj;obtain⟨i,hi⟩:∃ i:Nat,(rows.length:Int) - 1 - k=i:=⟨rows.length - 1 - k,om⟩;have hik:i=rows.length - 1 - k:=by omega
  obtain⟨row,hrow⟩:∃ row,rows[i]?=some row:=⟨_,qae om⟩;obtain⟨g,q,rfl,hgok,hcells⟩:=hrows i row hrow;have hcells':yok ok w (fun _=>none) g (q+i * 2) row:=fun j x hx=>by
   obtain⟨c1,u,c2,c3⟩:=hcells j x hx;exact⟨c1,u,(World.cell?_of_block (w:=W) ((hJ _ _ hj).2 g hgok)).trans c2,c3.keep fun g' hg'=>⟨hg',(hJ _ _ hj).2 g' hg'⟩⟩
  obtain⟨uv,hu1,hu2⟩:=ymt (P:=prog) (tok _ _ (show TT 104=some _ from rfl)).1 hcells' (hval row (qab hrow));refine wpIn_seq (wpIn_block (wpIn_seq (wpIn_region ?_)));refine ymx (d:=11) (.func (.yield l) #[] #[]) om rfl rfl rfl rfl (by simp[execOp,n2,n1,e0]) fun a3 s3 d3 q3 n3=>?_;refine ymx (d:=12) (.int .i64 i) om rfl rfl rfl rfl (by simp[execOp,n3,n2,n1,e3,hi]) fun a4 s4 d4 q4 n4=>?_;refine ymx (d:=13) (.slice (some ⟨g,q,none⟩) rows.length cap) om rfl rfl rfl rfl (by simp[execOp,n4,n3,n2,n1,e1,Instr.loadAt,Instr.sureAddr,hload hcl]) fun a5 s5 d5 q5 n5=>?_;refine ymx (d:=14) (.int .i64 i) om rfl rfl rfl rfl (by simp[execOp,n5,n4,n3,n2,n1,e3,hi]) fun a6 s6 d6 q6 n6=>?_;obtain⟨z,hz⟩:∃ z,q+i * 2=z:=⟨_,rfl⟩;rw[hz]at hu1;refine ymx (d:=15) (.pointer (some ⟨g,z,none⟩)) om rfl rfl rfl rfl (by
   have hrun:=yvu (P:=prog) (w:=w) (cap:=cap) (k:=.i64) hkind.1 hkind.2.1 g q rfl (i:=(i:Int)) (len:=rows.length) om om
   simp only[qcl,hz]at hrun
   simp[execOp,n6,q5,q6,hrun]) fun a7 s7 d7 q7 n7=>?_
  refine ymx (d:=16) uv om rfl rfl rfl rfl (by simp[execOp,q7,Instr.loadAt,Instr.sureAddr,hu1]) fun a8 s8 d8 q8 n8=>?_;have hel:(yhp val rows)[k]?=some [i64 ((rows.length:Int) - 1 - k),val row]:=by
   have hkl:k < (yhp val rows).length:=by rw[yhq];omega
   obtain⟨el,hel⟩:∃ el,(yhp val rows)[k]?=some el:=⟨_,qae hkl⟩;obtain⟨_,row',hr',rfl⟩:=yln hel;rw[<- hik,hrow]at hr';cases hr';exact hel
  have hy:=hround k _ [.int .i64 i,uv] w hel hj ⟨rfl,fun j x u hx hu=>by
   match j with
   | 0=>simp only[qas,Option.some.injEq]at hx hu;subst hx hu;rw[hi];exact .v _
   | 1=>simp only[qca,qas,Option.some.injEq]at hx hu;subst hx hu;exact hu2
   | j+2=>simp at hx⟩
  refine zfc (g:=.tmp 11) (args:=#[.tmp 12,.tmp 16]) rfl rfl rfl (by rw[n8 11 sm,n7 11 sm,n6 11 sm,n5 11 sm,n4 11 sm,q3]) (R:=fun e W'=>(e=.returned (.bool true)/\J (k+1) W')\/(e=.returned (.bool false)/\X W')) (by
   have e12:a8.eval (.tmp 12)=.int .i64 i:=by rw[n8 12 sm,n7 12 sm,n6 12 sm,n5 12 sm,q4]
   simpa[e12,q8]using hy) fun e w' hR=>?_
  have e0':a8.eval (.tmp 0)=.func (.yield l) #[] #[]:=by rw[n8 0 sm,n7 0 sm,n6 0 sm,n5 0 sm,n4 0 sm,n3 0 sm,n2 0 sm,n1 0 sm,e0]
  have e1':a8.eval (.tmp 1)=.pointer (some ⟨pg,po,none⟩):=by rw[n8 1 sm,n7 1 sm,n6 1 sm,n5 1 sm,n4 1 sm,n3 1 sm,n2 1 sm,n1 1 sm,e1]
  have e3':a8.eval (.tmp 3)=.int .i64 ((rows.length:Int) - 1 - k):=by rw[n8 3 sm,n7 3 sm,n6 3 sm,n5 3 sm,n4 3 sm,n3 3 sm,n2 3 sm,n1 3 sm,e3]
  have hd8:a8.defers=[]:=by rw[d8,d7,d6,d5,d4,d3,d2,d1,hd0]
  have hs8:a8.tmps.size=19:=by omega
  rcases hR with⟨rfl,hj1⟩|⟨rfl,hx⟩
  .refine ⟨_,rfl,?_⟩;show wpOpsIn _ _ _ _ _ _ (a8.put (some 17) (.bool true)) w';have s9:(a8.put (some 17) (.bool true)).tmps.size=19:=by rw[ymz,hs8]
   have d9:(a8.put (some 17) (.bool true)).defers=[]:=by rw[yid,hd8]
   have q9:(a8.put (some 17) (.bool true)).eval (.tmp 17)=.bool true:=yel om;have n9:∀ x,x≠17->(a8.put (some 17) (.bool true)).eval (.tmp x)=a8.eval (.tmp x):=fun x hx=>yma hx;generalize a8.put (some 17) (.bool true)=a9 at s9 d9 q9 n9 ⊢;refine ymx (d:=18) (.bool false) om rfl rfl rfl rfl (by simp[execOp,q9,Op.unary]) fun a10 s10 d10 q10 n10=>?_;refine wpIn_cond_false q10 (wpIn_skip ?_);refine wpIn_region ?_;refine ymx (d:=9) _ om rfl rfl rfl rfl (by simp[execOp,n10,n9,e3'];rfl) fun a11 s11 d11 q11 n11=>?_;refine ymx (d:=10) (.int .i64 ((rows.length:Int) - 1 - k - 1)) om rfl rfl rfl rfl (by simp[execOp,q11,ymq,eqGuard,binOp,Op.intArith,IntWalk.i64_in ((rows.length:Int) - 1 - k - 1) om]) fun a12 s12 d12 q12 n12=>?_;refine ymx (d:=3) (.int .i64 ((rows.length:Int) - 1 - k - 1)) om rfl rfl rfl rfl (by simp[execOp,q12]) fun a13 s13 d13 q13 n13=>?_;refine⟨⟨k+1,om,hj1,om,by rw[d13,d12,d11,d10,d9],by rw[n13 0 sm,n12 0 sm,n11 0 sm,n10 0 sm,n9 0 sm,e0'],by rw[n13 1 sm,n12 1 sm,n11 1 sm,n10 1 sm,n9 1 sm,e1'],by rw[q13];congr 1;omega⟩,?_⟩;rw[q13,e3];simp only[intOf];omega
  refine⟨_,rfl,?_⟩;show wpOpsIn _ _ _ _ _ _ (a8.put (some 17) (.bool false)) w';have s9:(a8.put (some 17) (.bool false)).tmps.size=19:=by rw[ymz,hs8]
  have d9:(a8.put (some 17) (.bool false)).defers=[]:=by rw[yid,hd8]
  have q9:(a8.put (some 17) (.bool false)).eval (.tmp 17)=.bool false:=yel om;generalize a8.put (some 17) (.bool false)=a9 at s9 d9 q9 ⊢;refine ymx (d:=18) (.bool true) om rfl rfl rfl rfl (by simp[execOp,q9,Op.unary]) fun a10 s10 d10 q10 n10=>?_;refine wpIn_cond_true q10 (wpIn_ret ?_);refine⟨?_,.tuple #[],?_,⟨_,rfl⟩,.inr hx⟩
  .show a10.defers=[];rw[d10,d9]
  simp[results,Tryz.results183]
 simp only[decide_eq_false_iff_not]at hb;obtain rfl:k=rows.length:=by omega
 refine wpIn_exit ?_;refine⟨?_,.tuple #[],?_,⟨_,rfl⟩,.inl ?_⟩
 .show a2.defers=[];rw[d2,d1,hd0]
 .simp [results,Tryz.results183]
 rw[yhq];exact hj
end
set_option maxHeartbeats 8000000
section
open Go.RowKit
theorem backO_con(rows:List (List AV)):Con prog 127 [.sl 1 rows] (.fn 182 [.dp [.sl 1 rows] 0]):=by
 refine ze Tryz.func127 ntmps127 Tryz.results127 ?_;refine zk ?_;exact Frz.fn1 (Frz.box rfl rfl)
theorem backI_con(rows:List (List AV)):Con prog 128 [.sl 2 rows] (.fn 183 [.dp [.sl 2 rows] 0]):=by
 refine ze Tryz.func128 ntmps128 Tryz.results128 ?_;refine zk ?_;exact Frz.fn1 (Frz.box rfl rfl)
def yxo(tbl:List (List (Int × Int))):List (List Int):=tbl.map fun r=>r.map (·.1)
def xkp(tbl:List (List (Int × Int)))(i j:Nat):Int:=((tbl.getD i []).getD j (0,0)).1
theorem least1_con(tbl:List (List (Int × Int)))(i j:Nat)(r:List (Int × Int))(hr:tbl[i]?=some r)(hj:j < r.length):Con prog 122 [i64 i,i64 j,.dp [yeh tbl] 0] (i64 (xkp tbl i j)):=by
 obtain⟨q,hq⟩:=ybk hj;refine ze Tryz.func122 ntmps122 Tryz.results122 ?_;refine zk ?_;exact yad (by simp[xkp,hr,hq])
theorem built_low(tbl:List (List (Int × Int))):ykm tbl (xkp tbl)=yek (yxo tbl):=by
 apply qdt;intro i;simp only[yek,yxo,qen,qak];cases hr:tbl[i]? with
 | none=>simp[ykm,hr]
 | some r=>
  rw[zhr hr];simp only[qav,Option.some.injEq,Function.comp];apply qdt;intro j;simp only[qak];by_cases hj:j < r.length
  .obtain ⟨q,hq⟩:=ybk hj;rw[qcf hj,hq];simp[xkp,hr,hq]
  rw[qch (by simpa using hj),qch om];rfl
def xkr(q:List (List Int) × Int):AV:=.tup [ycj q.1,i64 q.2]
theorem yym{f:List (Nat × Option LObj)}{M:Nat}{c:List (List Int)}(hf:zlu f=true)(hM:Nat.blt M 1000000=true)(hk:(f.all fun x=>!Nat.beq x.1 M)=true)(hn:n=c.length)(hr:rows=yek c):Frz (yac (f++ybz M 1 rows [])) (.ls M 1 n) (ycj c):=by
 subst hn hr;have:=Frz.mat (f:=f) (M:=M) (sz:=1) (rows:=yek c) (els:=c.map fun r=>r.map fun x=>[i64 x]) hf hM hk om (by intro r hr e he;obtain⟨r0,_,rfl⟩:=qag.1 hr;obtain⟨q,_,rfl⟩:=qag.1 he;rfl) (n:=c.length) sm (by simp only[yek,qen];congr 1;funext r;exact(ydo r).symm);simpa[ycj,yai,Function.comp_def]using this
end
end Go.Proofs.YtgpodcjhgdionaaGreatDoor
