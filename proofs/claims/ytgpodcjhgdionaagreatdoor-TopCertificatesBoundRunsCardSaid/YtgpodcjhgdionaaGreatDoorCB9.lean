/- Part 9 of the texts under TopCertificatesBoundRuns. -/
import Derived.Test.YtgpodcjhgdionaaGreatDoorCB4
import Derived.Test.YtgpodcjhgdionaaGreatDoorCB6
import Derived.Test.YtgpodcjhgdionaaGreatDoorCB7
import Derived.Test.YtgpodcjhgdionaaGreatDoorCB8
set_option linter.unusedVariables false
set_option maxRecDepth 100000
set_option maxHeartbeats 8000000
namespace Go.Proofs.YtgpodcjhgdionaaGreatDoor
open Go.Proofs.Tryz
variable {h:Nat->Option LObj} {g:GraphD} {α:Type} {Q:Exit->SS->Prop} {k id i N:Nat} {p:ProgD} {xs:List AV} {P:Program} {s:ByteArray} {deg a:Int} {c:Code} {y:VarD} {l:List α} {f:α->Bool} {x:α}
section
open Go.RowKit
theorem zbt (h:k < l.length):∃ x,l[k]?=some x:=⟨_,qae h⟩
theorem zha (h:l[i]?=some x):l.take (i+1)=l.take i++[x]:=by
 rw [qga,h];rfl
theorem zys (h:l[i]?=some x):(l.take (i+1)).all f=((l.take i).all f && f x):=by
 rw [zha h,qel];simp
theorem xjq {f:α->AV}:∀ l:List α,(l.map fun x=>[f x]).flatten=l.map f
 | []=>rfl
 | a::l=>by simp [xjq l]
theorem set_fillK {xs:List Int} {n:Nat} (v:Int) (hk:k < n) (hx:xs.length=k):((xs++List.replicate (n - k) 0).map i64).set ((k:Int).toNat * 1) (i64 v)=((xs++[v])++List.replicate (n - (k+1)) 0).map i64:=by
 have e:List.replicate (n - k) (0:Int)=0::List.replicate (n - (k+1)) 0:=by rw [<- qbo];congr 1;omega
 rw [e];simp [<- hx]
theorem repK (n:Nat) (x:AV):ykr n [x]=List.replicate n x:=by
 induction n with
 | zero=>rfl
 | succ n ih=>rw [qbo,<- ih];rfl
def pgK (p:ProgD):List (Nat × Option LObj):=[(1,some (.cells [ynt p.name,.sl 6 (p.vars.map ybq),.sl 3 (p.rules.map ybg)]))]
theorem zpa (p:ProgD) (h6:p.vars.length<=1000):Con prog 104 [yhb p] (yah (ybe p)):=by
 refine ze Tryz.func104 ntmps104 Tryz.results104 ?_
 (repeat (first|refine zy ?_|refine yqg tok rfl rfl rfl rfl co rfl rfl rfl rfl rfl ?_))
 refine ybl (α:=Nat) (fun k=>[(13,i64 k),(12,i64 p.vars.length),(11,.sl 6 (p.vars.map ybq)),(3,.ls 9 1 p.vars.length)]) (fun k=>[(9,some (.vec (((ybe p).take k++List.replicate (p.vars.length - k) 0).map i64)))]) (fun k=>p.vars.length - k) (fun k=>k<=p.vars.length) 0 om zs ?_ ?_
 .refine yaa ?_ yag;rw [show ykr p.vars.length (yit [Value.int .i64 0])=(List.replicate p.vars.length 0).map i64 from (repK _ _).trans (by simp [i64])];simp [yac]
 intro k hk;refine zY ?_;refine zj ?_ ?_ <;> intro h1
 .have h1:k < p.vars.length:=by simpa using h1
  obtain ⟨x,hx⟩:=zbt h1;have hkx:(ybe p)[k]?=some x.kind:=by simp [ybe,hx]
  have hkl:((ybe p).take k).length=k:=by simp [ybe];omega
  refine zY ?_;refine yaw tok rfl rfl rfl rfl om om rfl rfl ?_;refine ykk tok rfl rfl rfl rfl rfl rfl (by simp [ybe];omega) rfl rfl rfl ?_;refine zY ?_;refine rnd (k+1) om om zs ?_;refine yaa ?_ yag;rw [zha hkx];exact congrArg (fun x=>some (LObj.vec x)) (set_fillK x.kind h1 hkl)
 have h1:k=p.vars.length:=by simp at h1;omega
 subst h1
 repeat (first|refine ycy ?_|refine ymi ?_)
 refine zbh 3 ((ybe p).map fun z=>[i64 z]) rfl rfl (by simp [ybe]) (fun row hr=>by obtain ⟨a,_,rfl⟩:=qag.1 hr;rfl) (by rw [xjq,qbn,qgm,qbe,qak (by simp [ybe])]) rfl rfl ?_;exact zkp
theorem xcs (l:List Tm) (kinds:List Int) (bound:Bool) (hl:l.length<=1000):Con prog 106 [ybk l,yah kinds,yay bound] (.tup [i64 (ofF l kinds bound).1,i64 (ofF l kinds bound).2]):=
 ⟨⟨_,Tryz.func106,rfl,rfl⟩,rfl,fun ok0 w us hG hok hr=>by
  obtain ⟨u,v,x,rfl,h1,h2,h3⟩:=relAll3 hr
  cases h3
  refine (of_any u v l kinds bound w hl (Lib.hid (yka h1 hok)) (Lib.hid (ints_of_rel h2 hok))).mono fun e w' ⟨he,hb⟩=>⟨_,he,?_,hb⟩
  refine Rel.tup [.int .i64 (ofF l kinds bound).1,.int .i64 (ofF l kinds bound).2] rfl fun i c u hc hu=>?_
  match i with
  | 0=>simp at hc hu;subst hc hu;exact .v _
  | 1=>simp at hc hu;subst hc hu;exact .v _
  | i+2=>simp at hc⟩
theorem typed_con (r:RuleD) (kinds:List Int) (hl:zna r) (hk:kinds.length<=1000) (hvar:∀ s∈r.sets,0<=s.var/\s.var < kinds.length):Con prog 143 [.agg (ybg r),yah kinds] (yay (yki r kinds)):=by
 obtain ⟨hl1,hl2,hl3⟩:=hl;have hg:=xcs r.guard kinds false hl1;refine ze Tryz.func143 ntmps143 Tryz.results143 ?_;refine zZ ?_;refine zj ?_ ?_ <;> intro q1
 .refine zk ?_;exact yae (by rw [yki,beq_eq_false_iff_ne.2 (by simpa using q1)];rfl)
 have q1:((ofF r.guard kinds false).1 == 2)=true:=by simpa using q1
 refine zY ?_;refine ybl (α:=Nat) (fun k=>[(23,i64 k),(22,i64 r.sets.length),(21,.sl 2 (r.sets.map zht)),(1,yah kinds)]) (fun k=>[]) (fun k=>r.sets.length - k) (fun k=>k<=r.sets.length/\(r.sets.take k).all (fun s=>(ofF s.val kinds false).1 == kinds.getD s.var.toNat 0)=true) 0 ⟨om,rfl⟩ zs yag ?_;rintro k ⟨hk1,hall⟩;refine zY ?_;refine zj ?_ ?_ <;> intro q2
 .have q2:k < r.sets.length:=by simpa using q2
  obtain ⟨x,hx⟩:=zbt q2;have hxm:=qab hx;obtain ⟨hv0,hv1⟩:=hvar x hxm;obtain ⟨kd,hkd⟩:=zbt (show x.var.toNat < kinds.length by omega);have hgd:kinds.getD x.var.toNat 0=kd:=by rw [qad,hkd];rfl
  (repeat (first|refine zy ?_|refine zc (xcs x.val kinds false (hl3 x hxm)) ?_))
  refine zj ?_ ?_ <;> intro q3
  .refine zk ?_;exact yae (by rw [yki,qcd.2 ⟨x,hxm,by rw [hgd];simpa using q3⟩,qch])
  refine zY ?_;exact rnd (k+1) ⟨om,by rw [zys hx,hall,hgd];simpa using q3⟩ om zs yag
 rw [qak (by simpa using q2)] at hall;refine zk ?_;exact yae (by rw [yki,q1,hall];rfl)
def xfm {α:Type} (f:α->Value) (l:List α):List (Value × Value):=l.map fun x=>(f x,.bool true)
theorem xat (p:Prop):∃ b:Bool,b=true<->p:=by
 by_cases h:p
 .exact ⟨true,by simp [h]⟩
 exact ⟨false,by simp [h]⟩
theorem yzm {f:α->Value} {b:Bool} (hf:∀ a b,f a=f b->a=b) (hb:b=true<->x∈l):Found (.bool false) (xfm f l) (f x) (.bool b) b:=by
 cases b with
 | true=>exact .hit ⟨_,qag.2 ⟨x,hb.1 rfl,rfl⟩,rfl⟩ fun e he _=>by obtain ⟨y,_,rfl⟩:=qag.1 he;rfl
 | false=>exact .miss fun e he hk=>by obtain ⟨y,hy,rfl⟩:=qag.1 he;exact absurd (hb.2 (hf _ _ hk ▸ hy)) sm
theorem zmc {f:α->Value} (hf:∀ a b,f a=f b->a=b) (h:x ∉ l):∀ e∈xfm f l,e.1≠f x:=fun e he hk=>by
 obtain ⟨y,hy,rfl⟩:=qag.1 he;exact h (hf _ _ hk ▸ hy)
theorem zmb {T:TypeId} {f:α->Value} (h:∀ x∈l,∃ k,keyOf P T (f x)=some k):∀ e∈xfm f l,∃ k,keyOf P T e.1=some k:=fun e he=>by
 obtain ⟨y,hy,rfl⟩:=qag.1 he;exact h y hy
theorem zwp {l:List ByteArray} (hk:l[k]?=some s) (h:ykp s=false):ygj l=false:=by
 obtain ⟨h1,h2⟩:=qaa.1 hk;exact names_bad k h1 (by rw [h2];exact h)
theorem zca {l:List ByteArray} {j:Nat} (hjk:j < k) (hk:l[k]?=some s) (hj:l[j]?=some s):ygj l=false:=by
 obtain ⟨h1,h2⟩:=qaa.1 hk;obtain ⟨h3,h4⟩:=qaa.1 hj;exact names_twice j k hjk h1 (by rw [h2,h4])
theorem zlo {l:List ByteArray} (hk:l[k]?=some s) (h:ygj (l.take k)=true) (h1:ykp s=true) (h2:∀ y∈l.take k,y≠s):ygj (l.take (k+1))=true:=by
 obtain ⟨h3,h4⟩:=qaa.1 hk;refine names_step k h3 h (by rw [h4];exact h1) fun hm=>?_;obtain ⟨y,hy,he⟩:=qag.1 hm;exact h2 y hy (by rw [h4] at he;exact zln he)
theorem ziz (p:ProgD) (hin:yio p) (h6:p.vars.length<=1000) (h12:p.rules.length<=1000):Con prog 140 [yhb p] (yay (ygz p)):=by
 have h0:=zev p.name;refine ze Tryz.func140 ntmps140 Tryz.results140 ?_;refine zZ ?_;refine zj ?_ ?_ <;> intro q0
 .refine zk ?_;exact yae (by rw [ygz,show ykp p.name=false by simpa using q0];rfl)
 have hb:ygz p=(ygj (p.vars.map (·.name)) && ygj (p.rules.map (·.name))):=by rw [ygz,show ykp p.name=true by simpa using q0];rfl
 (repeat (first|refine zy ?_|refine yve rfl rfl rfl rfl rfl ?_))
 refine ybl (α:=Nat) (fun k=>[(17,i64 k),(16,i64 p.vars.length),(15,.sl 6 (p.vars.map ybq)),(3,.mp 13),(1,.lp 1 0)]) (fun k=>(13,some (.map (xfm .string ((p.vars.map (·.name)).take k))))::pgK p) (fun k=>p.vars.length - k) (fun k=>k<=p.vars.length/\ygj ((p.vars.map (·.name)).take k)=true) 0 ⟨om,rfl⟩ zs zh ?_;rintro k ⟨hk1,hall⟩;refine zY ?_;refine zj ?_ ?_ <;> intro q1
 .have q1:k < p.vars.length:=by simpa using q1
  obtain ⟨x,hx⟩:=zbt q1;have hxn:=(hin.2.1 x (qab hx)).1;have hn:=zev x.name;have hl:(p.vars.map (·.name))[k]?=some x.name:=by simp [hx]
  obtain ⟨b,hm⟩:=xat (x.name∈(p.vars.map (·.name)).take k);have hks:=zmb (l:=(p.vars.map (·.name)).take k) fun s hs=>by
   obtain ⟨y,hy,rfl⟩:=qag.1 (qcs hs);exact ⟨_,yog y.name (hin.2.1 y hy).1⟩
  refine zZ ?_;refine yam 25 rfl (fun q2=>?_) (fun q2=>?_)
  .refine zk ?_;exact yae (by rw [hb,zwp hl (by simpa using q2)];rfl)
  (repeat (first|refine zy ?_|refine yli underlying272 ypf rfl rfl rfl rfl hks (yog x.name hxn) zmq (yzm (fun a b e=>by cases e;rfl) hm) rfl rfl ?_))
  refine zj ?_ ?_ <;> intro q3
  .refine zk ?_;obtain ⟨j,hj⟩:=qan (hm.1 q3);obtain ⟨hj1,hj2⟩:=qaa.1 hj;exact yae (by rw [hb,zca (j:=j) (by simp at hj1;omega) hl (by rw [<- hj,qbc,if_pos (by simp at hj1;omega)])];rfl)
  have q3:x.name ∉ (p.vars.map (·.name)).take k:=fun h=>by rw [hm.2 h] at q3;cases q3
  (repeat (first|refine zy ?_|refine you underlying272 ypf rfl rfl rfl rfl rfl rfl hks (yog x.name hxn) (zmc (fun a b e=>by cases e;rfl) q3) rfl rfl ?_))
  refine rnd (k+1) ⟨om,zlo hl hall (by simpa using q2) fun y hy e=>q3 (e ▸ hy)⟩ om zs (yaa ?_ (yaa rfl yag));rw [zha hl];exact congrArg (fun x=>some (LObj.map x)) (by simp [xfm])
 rw [qak (by simpa using q1)] at hall;rw [hall] at hb
 (repeat (first|refine zy ?_|refine yve rfl rfl rfl rfl rfl ?_))
 refine ybl (α:=Nat) (fun k=>[(39,i64 k),(38,i64 p.rules.length),(37,.sl 3 (p.rules.map ybg)),(6,.mp 35),(1,.lp 1 0)]) (fun k=>(35,some (.map (xfm .string ((p.rules.map (·.name)).take k))))::pgK p) (fun k=>p.rules.length - k) (fun k=>k<=p.rules.length/\ygj ((p.rules.map (·.name)).take k)=true) 0 ⟨om,rfl⟩ zs zh ?_;rintro k ⟨hk1,hall⟩;refine zY ?_;refine zj ?_ ?_ <;> intro q1
 .have q1:k < p.rules.length:=by simpa using q1
  obtain ⟨x,hx⟩:=zbt q1;have hxn:=(hin.2.2 x (qab hx)).1;have hn:=zev x.name;have hl:(p.rules.map (·.name))[k]?=some x.name:=by simp [hx]
  obtain ⟨b,hm⟩:=xat (x.name∈(p.rules.map (·.name)).take k);have hks:=zmb (l:=(p.rules.map (·.name)).take k) fun s hs=>by
   obtain ⟨y,hy,rfl⟩:=qag.1 (qcs hs);exact ⟨_,yog y.name (hin.2.2 y hy).1⟩
  refine zZ ?_;refine yam 47 rfl (fun q2=>?_) (fun q2=>?_)
  .refine zk ?_;exact yae (by rw [hb,zwp hl (by simpa using q2)];rfl)
  (repeat (first|refine zy ?_|refine yli underlying272 ypf rfl rfl rfl rfl hks (yog x.name hxn) zmq (yzm (fun a b e=>by cases e;rfl) hm) rfl rfl ?_))
  refine zj ?_ ?_ <;> intro q3
  .refine zk ?_;obtain ⟨j,hj⟩:=qan (hm.1 q3);obtain ⟨hj1,hj2⟩:=qaa.1 hj;exact yae (by rw [hb,zca (j:=j) (by simp at hj1;omega) hl (by rw [<- hj,qbc,if_pos (by simp at hj1;omega)])];rfl)
  have q3:x.name ∉ (p.rules.map (·.name)).take k:=fun h=>by rw [hm.2 h] at q3;cases q3
  (repeat (first|refine zy ?_|refine you underlying272 ypf rfl rfl rfl rfl rfl rfl hks (yog x.name hxn) (zmc (fun a b e=>by cases e;rfl) q3) rfl rfl ?_))
  refine rnd (k+1) ⟨om,zlo hl hall (by simpa using q2) fun y hy e=>q3 (e ▸ hy)⟩ om zs (yaa ?_ (yaa rfl yag));rw [zha hl];exact congrArg (fun x=>some (LObj.map x)) (by simp [xfm])
 rw [qak (by simpa using q1)] at hall;refine zk ?_;exact yae (by rw [hb,hall];rfl)
theorem zmo (l:List Tm) (n:Int) (hl:l.length<=1000):Con prog 105 [ybk l,i64 n] (yay (ycm l n)):=
 yge ⟨_,Tryz.func105,rfl,rfl⟩ fun w us ok hok hr=>by
  obtain ⟨u,v,rfl,h1,h2⟩:=yzh hr;cases h2;exact yxm u l n w hl (Lib.hid (yka h1 hok))
theorem zxu {l:List SetD} {n:Int} {x:SetD} (hx:l[k]?=some x) (h:zrp n x=false):yxb l n=false:=by
 obtain ⟨h1,h2⟩:=qaa.1 hx;exact sets_bad k h1 (by rw [h2];exact h)
theorem xdu {l:List SetD} {x:SetD} (hx:l[k]?=some x) (hnd:((l.take k).map (·.var)).Nodup) (hne:∀ y∈l.take k,y.var≠x.var):((l.take (k+1)).map (·.var)).Nodup:=by
 rw [zha hx,qbu,qfm];refine ⟨hnd,sm,?_⟩;intro a ha b hb2;obtain ⟨y,hy,rfl⟩:=qag.1 ha;simp at hb2;subst hb2;exact hne y hy
theorem zic (r:RuleD) (n:Nat) (hin:znc r) (hl:zna r) (hn:n<=1000):Con prog 142 [.agg (ybg r),i64 n] (yay (yfv r n)):=by
 obtain ⟨hl1,hl2,hl3⟩:=hl;have hvg:=zmo r.guard n hl1;refine ze Tryz.func142 ntmps142 Tryz.results142 ?_;refine zY ?_;refine yam 12 rfl (fun q1=>?_) (fun q1=>?_)
 .refine zk ?_;exact yae (by rw [ykx,decide_eq_false (by simp at q1;simp [q1])];rfl)
 refine zY ?_;refine yam 18 rfl (fun q2=>?_) (fun q2=>?_)
 .refine zk ?_;exact yae (by rw [ykx,show decide (r.sets.length<=6)=false from decide_eq_false (by simp at q2;omega),qdx,qch])
 refine zZ ?_;have q12:1<=r.sets.length/\r.sets.length<=6:=by
  have h:r.sets.length≠0:=fun h=>by rw [h] at q1;simp at q1
  simp at q2;omega
 have hb:yfv r n=(ycm r.guard n && yxb r.sets n):=by rw [ykx,decide_eq_true q12.1,decide_eq_true q12.2];rfl
 refine zj ?_ ?_ <;> intro q3
 .refine zk ?_;exact yae (by rw [hb,show ycm r.guard n=false by simpa using q3];rfl)
 have hb:yfv r n=yxb r.sets n:=by rw [hb,show ycm r.guard n=true by simpa using q3];rfl
 (repeat (first|refine zy ?_|refine yve rfl rfl rfl rfl rfl ?_))
 refine ybl (α:=Nat) (fun k=>[(29,i64 k),(28,i64 r.sets.length),(27,.sl 2 (r.sets.map zht)),(5,.mp 25),(1,i64 n)]) (fun k=>[(25,some (.map (xfm (.int .i64) ((r.sets.take k).map (·.var)))))]) (fun k=>r.sets.length - k) (fun k=>k<=r.sets.length/\(r.sets.take k).all (zrp n)=true/\((r.sets.take k).map (·.var)).Nodup) 0 ⟨om,rfl,sm⟩ zs zh ?_;rintro k ⟨hk1,hall,hnd⟩;refine zY ?_;refine zj ?_ ?_ <;> intro q4
 .have q4:k < r.sets.length:=by simpa using q4
  obtain ⟨x,hx⟩:=zbt q4;have hxm:=qab hx;have hi:=(hin.2.2 x hxm).1;have hw:=yjg x.var 0 (n - 1);have hvx:=zmo x.val n (hl3 x hxm);obtain ⟨b,hm⟩:=xat (x.var∈(r.sets.take k).map (·.var));have hks:=zmb (f:=.int .i64) (l:=(r.sets.take k).map (·.var)) fun s hs=>by
   obtain ⟨y,hy,rfl⟩:=qag.1 hs;exact ⟨_,xbv y.var (hin.2.2 y (qcs hy)).1⟩
  refine zZ ?_;refine yam 39 rfl (fun q5=>?_) (fun q5=>?_)
  .refine zk ?_;exact yae (by rw [hb,zxu hx (by rw [zrp,show ydr x.var 0 (n - 1)=false by simpa using q5];rfl)])
  (repeat (first|refine zy ?_|refine yli underlying273 zwb rfl rfl rfl rfl hks (xbv x.var hi) zmq (yzm (fun a b e=>by cases e;rfl) hm) rfl rfl ?_))
  refine yam 45 rfl (fun q6=>?_) (fun q6=>?_)
  .refine zk ?_;obtain ⟨y,hy,he⟩:=qag.1 (hm.1 q6);obtain ⟨j,hj⟩:=qan hy;obtain ⟨hj1,hj2⟩:=qaa.1 hj;simp at hj1;rw [List.getElem_take] at hj2;exact yae (by rw [hb,zjk j k om q4 (by rw [hj2,he,(qaa.1 hx).2])])
  have q6:x.var ∉ (r.sets.take k).map (·.var):=fun h=>by rw [hm.2 h] at q6;cases q6
  refine zZ ?_;refine zj ?_ ?_ <;> intro q7
  .refine zk ?_;exact yae (by rw [hb,zxu hx (by rw [zrp,show ycm x.val n=false by simpa using q7,qch])])
  have hsb:zrp n x=true:=by rw [zrp,show ydr x.var 0 (n - 1)=true by simpa using q5,show ycm x.val n=true by simpa using q7];rfl
  (repeat (first|refine zy ?_|refine you underlying273 zwb rfl rfl rfl rfl rfl rfl hks (xbv x.var hi) (zmc (fun a b e=>by cases e;rfl) q6) rfl rfl ?_))
  refine rnd (k+1) ⟨om,by rw [zys hx,hall,hsb];rfl,xdu hx hnd fun y hy e=>q6 (qag.2 ⟨y,hy,e⟩)⟩ om zs (yaa ?_ yag);rw [zha hx];exact congrArg (fun x=>some (LObj.map x)) (by simp [xfm])
 rw [qak (by simpa using q4)] at hall hnd;refine zk ?_;exact yae (by rw [hb,yxb,hall,decide_eq_true hnd];rfl)
theorem tcheck_con (p:ProgD) (hin:yio p) (hl:zcy p):Con prog 75 [yhb p] (i64 (yed p)):=by
 obtain ⟨h6,h12,hlr⟩:=hl;have hna:=ziz p hin h6 h12;have hkc:=zpa p h6;have hkl:(ybe p).length=p.vars.length:=by simp [ybe]
 by_cases hlim:p.vars.length=0\/6 < p.vars.length\/12 < p.rules.length
 .rw [yue hlim];refine ze Tryz.func75 ntmps75 Tryz.results75 ?_;refine zY ?_;refine yam 14 rfl (fun q0=>?_) (fun q0=>?_)
  .exact zkp
  refine zY ?_;refine yam 20 rfl (fun q1=>?_) (fun q1=>?_)
  .exact zkp
  refine zY ?_;refine zj ?_ ?_ <;> intro q2
  .exact zkp
  simp at q0 q1 q2;rcases hlim with h|h|h
  .exact absurd (qaz h) q0
  .omega
  omega
 refine ze Tryz.func75 ntmps75 Tryz.results75 ?_;refine zY ?_;refine yam 14 rfl (fun q0=>?_) (fun q0=>?_)
 .exact absurd (.inl (by simpa using q0)) hlim
 refine zY ?_;refine yam 20 rfl (fun q1=>?_) (fun q1=>?_)
 .simp at q1;omega
 refine zY ?_;refine zj ?_ ?_ <;> intro q2
 .simp at q2;omega
 refine zZ ?_;refine zj ?_ ?_ <;> intro q3
 .refine zk ?_;exact yaf (by rw [yyk hlim (by simpa using q3)])
 have q3:ygz p=true:=by simpa using q3
 refine zY ?_;refine ybl (α:=Nat) (fun k=>[(32,i64 k),(31,i64 p.vars.length),(30,.sl 6 (p.vars.map ybq)),(1,.lp 1 0)]) (fun k=>pgK p) (fun k=>p.vars.length - k) (fun k=>k<=p.vars.length/\(p.vars.take k).all yxs=true) 0 ⟨om,rfl⟩ zs zh ?_;rintro k ⟨hk1,ha1⟩;refine zY ?_;refine zj ?_ ?_ <;> intro q4
 .have q4:k < p.vars.length:=by simpa using q4
  obtain ⟨x,hx⟩:=zbt q4
  (repeat (first|refine zy ?_|refine zc (numbers_con x) ?_))
  refine zj ?_ ?_ <;> intro q5
  .refine zk ?_;exact yaf (by rw [zdh hlim q3 (qcd.2 ⟨x,qab hx,by simpa using q5⟩)])
  refine zY ?_;exact rnd (k+1) ⟨om,by rw [zys hx,ha1];simpa using q5⟩ om zs zh
 rw [qak (by simpa using q4)] at ha1;refine zY ?_;refine ybl (α:=Nat) (fun k=>[(43,i64 k),(42,i64 p.rules.length),(41,.sl 3 (p.rules.map ybg)),(1,.lp 1 0)]) (fun k=>pgK p) (fun k=>p.rules.length - k) (fun k=>k<=p.rules.length/\(p.rules.take k).all (yfv · p.vars.length)=true) 0 ⟨om,rfl⟩ zs zh ?_;rintro k ⟨hk1,ha2⟩;refine zY ?_;refine zj ?_ ?_ <;> intro q5
 .have q5:k < p.rules.length:=by simpa using q5
  obtain ⟨x,hx⟩:=zbt q5;have hxm:=qab hx
  (repeat (first|refine zy ?_|refine zc (zic x p.vars.length (hin.2.2 x hxm) (hlr x hxm) h6) ?_))
  refine zj ?_ ?_ <;> intro q6
  .refine zk ?_;exact yaf (by rw [zhm hlim q3 ha1 (qcd.2 ⟨x,hxm,by simpa using q6⟩)])
  refine zY ?_;exact rnd (k+1) ⟨om,by rw [zys hx,ha2];simpa using q6⟩ om zs zh
 rw [qak (by simpa using q5)] at ha2;refine zZ ?_;refine ybl (α:=Nat) (fun k=>[(59,i64 k),(58,i64 p.rules.length),(57,.sl 3 (p.rules.map ybg)),(7,yah (ybe p))]) (fun k=>[]) (fun k=>p.rules.length - k) (fun k=>k<=p.rules.length/\(p.rules.take k).all (yki · (ybe p))=true) 0 ⟨om,rfl⟩ zs yag ?_;rintro k ⟨hk1,ha3⟩;refine zY ?_;refine zj ?_ ?_ <;> intro q6
 .have q6:k < p.rules.length:=by simpa using q6
  obtain ⟨x,hx⟩:=zbt q6;have hxm:=qab hx;have hfv:=zdz (List.all_eq_true.1 ha2 x hxm)
  (repeat (first|refine zy ?_|refine zc (typed_con x (ybe p) (hlr x hxm) om (fun s hs=>by rw [hkl];exact hfv s hs)) ?_))
  refine zj ?_ ?_ <;> intro q7
  .refine zk ?_;exact yaf (by rw [zhn hlim q3 ha1 ha2 (qcd.2 ⟨x,hxm,by simpa using q7⟩)])
  refine zY ?_;exact rnd (k+1) ⟨om,by rw [zys hx,ha3];simpa using q7⟩ om zs yag
 rw [qak (by simpa using q6)] at ha3;refine zk ?_;exact yaf (by rw [zkg hlim q3 ha1 ha2 ha3])
theorem zjp (p:ProgD) (hin:yio p) (hl:zcy p):Con prog 103 [yhb p] (yay (yed p == 0)):=by
 have hc:=tcheck_con p hin hl;refine ze Tryz.func103 ntmps103 Tryz.results103 ?_;refine zZ ?_;exact zp
end
section
open Go.RowKit Go.Maps
def yqt (r:RuleD):Bool:=decide (r.name.size<=40) && (decide (r.sets.length<=10) && (decide (r.guard.length<=250) && r.sets.all (fun s=>decide (s.val.length<=250))))
def ylt (p:ProgD):Bool:=decide (p.name.size<=40) && (decide (p.vars.length<=10) && (decide (p.rules.length<=16) && (p.vars.all (fun x=>decide (x.name.size<=40)) && p.rules.all yqt)))
theorem zlb (h:ylt p=true):zcy p:=by
 unfold ylt at h;simp only [qac,decide_eq_true_eq,List.all_eq_true] at h;refine ⟨om,om,fun r hr=>?_⟩;have:=h.2.2.2.2 r hr;unfold yqt at this;simp only [qac,decide_eq_true_eq,List.all_eq_true] at this;exact ⟨om,om,fun s hs=>by have:=this.2.2.2 s hs;omega⟩
end
section
open Go.RowKit
theorem zio (l:List Tm):Con prog 171 [ybk l] (yay (decide (l.length<=250))):=by
 refine ze Tryz.func171 ntmps171 Tryz.results171 ?_;refine zk ?_;exact yae so
theorem xlo (hx:l[k]?=some x) (h:f x=false):l.all f=false:=qcd.2 ⟨x,qab hx,by simp [h]⟩
theorem lightP_con (p:ProgD) (hin:yio p):Con prog 110 [yhb p] (yay (ylt p)):=by
 have hs0:=hin.1;refine ze Tryz.func110 ntmps110 Tryz.results110 ?_;refine zY ?_;refine yam 11 rfl (fun q1=>?_) (fun q1=>?_)
 .refine zk ?_;exact yae (by simp at q1;rw [ylt,decide_eq_false om];rfl)
 refine zY ?_;refine yam 17 rfl (fun q2=>?_) (fun q2=>?_)
 .refine zk ?_;exact yae (by simp at q2;rw [ylt,decide_eq_false (p:=p.vars.length<=10) om];simp)
 refine zY ?_;refine zj ?_ ?_ <;> intro q3
 .refine zk ?_;exact yae (by simp at q3;rw [ylt,decide_eq_false (p:=p.rules.length<=16) om];simp)
 simp at q1 q2 q3;have hb:ylt p=(p.vars.all (fun x=>decide (x.name.size<=40)) && p.rules.all yqt):=by rw [ylt,decide_eq_true om,decide_eq_true om,decide_eq_true om];rfl
 refine zY ?_;refine ybl (α:=Nat) (fun k=>[(3,i64 k),(1,.lp 1 0)]) (fun k=>pgK p) (fun k=>p.vars.length - k) (fun k=>k<=p.vars.length/\(p.vars.take k).all (fun x=>decide (x.name.size<=40))=true) 0 ⟨om,rfl⟩ zs zh ?_;rintro k ⟨hk1,hall⟩;refine zY ?_;refine zj ?_ ?_ <;> intro q4
 .have q4:k < p.vars.length:=by simpa using q4
  obtain ⟨x,hx⟩:=zbt q4;have hxs:=(hin.2.1 x (qab hx)).1;refine zY ?_;refine zj ?_ ?_ <;> intro q5
  .refine zk ?_;exact yae (by simp at q5;rw [hb,xlo hx (decide_eq_false om)];rfl)
  refine zY ?_;exact rnd (k+1) ⟨om,by simp at q5;rw [zys hx,hall,decide_eq_true (p:=x.name.size<=40) om];rfl⟩ om zs zh
 rw [qak (by simpa using q4)] at hall;rw [hall] at hb;refine zY ?_;refine ybl (α:=Nat) (fun k=>[(4,i64 k),(1,.lp 1 0)]) (fun k=>pgK p) (fun k=>p.rules.length - k) (fun k=>k<=p.rules.length/\(p.rules.take k).all yqt=true) 0 ⟨om,rfl⟩ zs zh ?_;rintro k ⟨hk1,hall⟩;refine zY ?_;refine zj ?_ ?_ <;> intro q4
 .have q4:k < p.rules.length:=by simpa using q4
  obtain ⟨x,hx⟩:=zbt q4;have hxs:=(hin.2.2 x (qab hx)).1;have hg:=zio x.guard;have bad:yqt x=false->false=ylt p:=fun h=>by rw [hb,xlo hx h];rfl
  refine zY ?_;refine yam 54 rfl (fun q5=>?_) (fun q5=>?_)
  .refine zk ?_;exact yae (bad (by simp at q5;rw [yqt,decide_eq_false om];rfl))
  refine zY ?_;refine yam 60 rfl (fun q6=>?_) (fun q6=>?_)
  .refine zk ?_;exact yae (bad (by simp at q6;rw [yqt,decide_eq_false (p:=x.sets.length<=10) om];simp))
  refine zZ ?_;refine zj ?_ ?_ <;> intro q7
  .refine zk ?_;exact yae (bad (by simp at q7;rw [yqt,decide_eq_false (p:=x.guard.length<=250) om];simp))
  simp at q5 q6 q7;have hr:yqt x=x.sets.all (fun s=>decide (s.val.length<=250)):=by rw [yqt,decide_eq_true om,decide_eq_true om,decide_eq_true om];rfl
  refine zY ?_;refine ybl (α:=Nat) (fun j=>[(6,i64 j),(4,i64 k),(5,.lp 5 0),(1,.lp 1 0)]) (fun j=>(5,some (.cells (ybg x)))::pgK p) (fun j=>x.sets.length - j) (fun j=>j<=x.sets.length/\(x.sets.take j).all (fun s=>decide (s.val.length<=250))=true) 0 ⟨om,rfl⟩ zs zh ?_;rintro j ⟨hj,hin2⟩;refine zY ?_;refine zj ?_ ?_ <;> intro q8
  .have q8:j < x.sets.length:=by simpa using q8
   obtain ⟨y,hy⟩:=zbt q8;have hv:=zio y.val;refine zZ ?_;refine zj ?_ ?_ <;> intro q9
   .refine zk ?_;exact yae (bad (by rw [hr,xlo hy (by simpa using q9)]))
   refine zY ?_;exact rnd (j+1) ⟨om,by rw [zys hy,hin2];simpa using q9⟩ om zs zh
  rw [qak (by simpa using q8)] at hin2;refine zY ?_;exact rnd (k+1) ⟨om,by rw [zys hx,hall,hr,hin2];rfl⟩ om zs zh
 rw [qak (by simpa using q4)] at hall;refine zk ?_;exact yae (by rw [hb,hall];rfl)
end
section
open Go.RowKit
theorem zpy (op:Int):Con prog 225 [i64 op] (yay (ykg op)):=
 yge ⟨_,Tryz.func225,rfl,rfl⟩ fun w us ok hok hr=>by
  obtain ⟨u,rfl,h1⟩:=ztc hr;cases h1;exact (ytp op w).mono fun e w' ⟨h1,h2⟩=>⟨h1,h2 ▸ Below.refl _ _⟩
theorem ygt (op:Int):Con prog 223 [i64 op] (i64 (ar op)):=
 yge ⟨_,Tryz.func223,rfl,rfl⟩ fun w us ok hok hr=>by
  obtain ⟨u,rfl,h1⟩:=ztc hr;cases h1;exact (yom op w).mono fun e w' ⟨h1,h2⟩=>⟨h1,h2 ▸ Below.refl _ _⟩
theorem zxh (l:List Tm) (k:Nat) (E:Ex) (r:List Tm) (hl:l.length<=1000) (hk:k<=1000) (hE:l.drop k=E.fl++r) (ho:E.ok):Con prog 257 [ybk l,i64 k] (i64 ((k+E.fl.length:Nat):Int)):=
 yge ⟨_,Tryz.func257,rfl,rfl⟩ fun w us ok hok hr=>by
  obtain ⟨u,v,rfl,h1,h2⟩:=yzh hr;cases h2;have e:yva 1 k l=((k+E.fl.length:Nat):Int):=by
   unfold yva;rw [hE,zse E ho 0 r,yqo];simp
  rw [<- e];exact (zte u l k w hl (Lib.hid (yka h1 hok)) hk).mono fun e w' ⟨h1,h2⟩=>⟨h1,h2 ▸ Below.refl _ _⟩
def flX (Xs:List Ex):List Tm:=Xs.flatMap Ex.fl
theorem flX_next {Xs:List Ex} {X:Ex} (h:Xs[i]?=some X):flX (Xs.take (i+1))=flX (Xs.take i)++X.fl:=by
 unfold flX;rw [yhh h];simp
theorem flX_split {Xs:List Ex} {X:Ex} (h:Xs[i]?=some X):flX Xs=flX (Xs.take i)++(X.fl++flX (Xs.drop (i+1))):=by
 have hi:=(qaa.1 h).1;have e:Xs=Xs.take i++X::Xs.drop (i+1):=by
  rw [<- (qaa.1 h).2,List.getElem_cons_drop,qcg]
 unfold flX
 conv=>lhs;rw [e]
 simp
theorem yia (l:List Tm) (p:Nat) (E:Ex) (Xs:List Ex) (t:Tm) (r r1:List Tm) (hl:l.length<=1000) (hE:l.drop p=E.fl++r) (ho:E.ok) (hA:l.drop p=t::(flX Xs++r1)) (hX:∀ X∈Xs,X.ok) (har:Xs.length < ar t.1):Con prog 229 [ybk l,i64 p,i64 (Xs.length:Nat)] (i64 ((p+1+(flX Xs).length:Nat):Int)):=by
 have hlen:=congrArg List.length hA;rw [qcw] at hlen;simp only [qaj,qao] at hlen;have hpt:l[p]?=some t:=by
  have:=congrArg (fun l=>l[0]?) hA;simpa using this
 have hd:l.drop (p+1)=flX Xs++r1:=by rw [<- qhv,hA];rfl
 have h1:=zxh l p E r hl om hE ho;have hxl:Xs.length<=3:=by have:=zyt t.1;omega
 refine ze Tryz.func229 ntmps229 Tryz.results229 ?_;refine zZ ?_;refine yam 13 rfl (fun h9=>absurd h9 so) (fun _=>?_);refine zY ?_;refine yam 17 rfl (fun h9=>absurd h9 sm) (fun _=>?_)
 (repeat (first|refine zy ?_|refine yne tok rfl rfl rfl om (xdl hpt) rfl rfl ?_|refine zc (ygt t.1) ?_))
 refine yvb rfl (fun h9=>absurd h9 so) (fun _=>?_);refine zY ?_;refine ybl (α:=Nat) (fun i=>[(8,i64 i),(7,i64 ((p+1+(flX (Xs.take i)).length:Nat):Int)),(2,i64 (Xs.length:Nat)),(0,ybk l)]) (fun i=>[]) (fun i=>Xs.length - i) (fun i=>i<=Xs.length) 0 om zs yag ?_;intro i hi;refine zY ?_;refine zj ?_ ?_ <;> intro h2
 .have h2:i < Xs.length:=by simpa using h2
  obtain ⟨X,hXi⟩:=ybr h2;have hs:=flX_split hXi;have hlx:=congrArg List.length hs;simp only [qao] at hlx;have hq:l.drop (p+1+(flX (Xs.take i)).length)=X.fl++(flX (Xs.drop (i+1))++r1):=by
   rw [<- qfq,hd,hs];simp
  have h3:=zxh l _ X _ hl om hq (hX X (qab hXi));refine zZ ?_;refine rnd (i+1) om om ?_ yag;refine yas rfl (yas (yfx rfl (yof ?_)) zs);rw [flX_next hXi,qao];omega
 have h2:Xs.length<=i:=by simpa using h2
 refine zk ?_;exact yaf (by rw [qak h2])
end
section
open Go.RowKit
theorem rsingleK_con (op a:Int) (h1:18<=op) (h2:op<=29):Con prog 287 [i64 op,i64 a] (i64 (ty1 op a)):=by
 refine ze Tryz.func287 ntmps287 Tryz.results287 ?_
 repeat' (first|refine zz ?_|refine zg (fun _=>?_) fun _=>?_|refine zu (fun _=>?_) fun _=>?_|refine zj (fun _=>?_) fun _=>?_|(refine zr ?_;exact yaf (by simp_all [ty1]))|(exfalso;simp_all;done))
theorem rdoubleK_con (op a b:Int) (h1:30<=op) (h2:op<=42):Con prog 288 [i64 op,i64 a,i64 b] (i64 (ty2 op a b)):=by
 refine ze Tryz.func288 ntmps288 Tryz.results288 ?_
 repeat' (first|refine zz ?_|refine zg (fun _=>?_) fun _=>?_|refine zu (fun _=>?_) fun _=>?_|refine zj (fun _=>?_) fun _=>?_|(refine zr ?_;exact yaf (by simp_all [ty2] <;> omega))|(exfalso;simp_all;done))
theorem getD_kd {kinds:List Int} {kd:Int} (h:kinds[i]?=some kd):kinds.getD i 0=kd:=by rw [qad,h];rfl
theorem rleafK_con (kinds:List Int) (t:Tm) (bound:Bool) (h1:ar t.1=0) (hx:yuz kinds.length t=true):Con prog 286 [.agg (ykd t),yah kinds,yay bound] (i64 (if zgw t.1 && !bound then 0 else ymp kinds t)):=by
 obtain ⟨h1,h2⟩:=xan h1;have hl:=zuq hx;by_cases hop:t.1=5\/t.1=12
 .obtain ⟨g1,g2⟩:=hl hop;obtain ⟨kd,hkd⟩:=ybr (show t.2.toNat < kinds.length by omega);have hgd:=getD_kd hkd;refine ze Tryz.func286 ntmps286 Tryz.results286 ?_
  repeat' (first|refine zz ?_|refine zg (fun _=>?_) fun _=>?_|refine zu (fun _=>?_) fun _=>?_|refine zj (fun _=>?_) fun _=>?_|(refine zr ?_;exact yaf (by simp_all [zgw,ymp] <;> omega))|(exfalso;simp_all;done))
 refine ze Tryz.func286 ntmps286 Tryz.results286 ?_
 repeat' (first|refine zz ?_|refine zg (fun _=>?_) fun _=>?_|refine zu (fun _=>?_) fun _=>?_|refine zj (fun _=>?_) fun _=>?_|(refine zr ?_;exact yaf (by simp_all [zgw,ymp] <;> omega))|(exfalso;simp_all;done))
theorem rkindC_con (l:List Tm) (kinds:List Int) (hl:l.length<=1000) (E:Ex):E.ok->(∀ t∈E.fl,yuz kinds.length t=true)->∀ (p:Nat) (r:List Tm) (bound:Bool),l.drop p=E.fl++r->Con prog 268 [ybk l,i64 p,yah kinds,yay bound] (i64 (ty kinds bound E)):=by
 induction E with
 | lf t=>
  intro h ha p r bound hd;obtain ⟨hp,hpt,_⟩:=ymn hd;have har:=ygt t.1;rw [show ar t.1=0 from h] at har;have hlf:=rleafK_con kinds t bound h (ha t (by simp [Ex.fl]));refine ze Tryz.func268 ntmps268 Tryz.results268 ?_
  repeat' (first|refine zz ?_|refine zg (fun _=>?_) fun _=>?_|refine zu (fun _=>?_) fun _=>?_|refine zj (fun _=>?_) fun _=>?_|(refine zr ?_;exact yaf rfl)|(exfalso;simp_all;done))
 | un t a iha=>
  intro h ha p r bound hd;obtain ⟨hp,hpt,hd1⟩:=ymn hd;have har:=ygt t.1;rw [h.1] at har;have hag:=zpy t.1;have ih:=iha h.2 (fun t ht=>ha t (by simp [Ex.fl,ht])) (p+1) r (bound || ykg t.1) hd1;have hs:=rsingleK_con t.1 (ty kinds (bound || ykg t.1) a) (xal h.1).1 (xal h.1).2;cases bound
  all_goals
   refine ze Tryz.func268 ntmps268 Tryz.results268 ?_
   repeat' (first|refine zz ?_|refine zg (fun _=>?_) fun _=>?_|refine zu (fun _=>?_) fun _=>?_|refine zj (fun _=>?_) fun _=>?_|(refine zr ?_;exact yaf rfl)|(exfalso;simp_all;done))
 | bi t a b iha ihb=>
  intro h ha p r bound hd;have hE:=hd;obtain ⟨hp,hpt,hd1⟩:=ymn hd;have hd1:l.drop (p+1)=a.fl++(b.fl++r):=by rw [<- qbb];exact hd1
  have har:=ygt t.1;rw [h.1] at har;have ih1:=iha h.2.1 (fun t ht=>ha t (by simp [Ex.fl,ht])) (p+1) _ bound hd1;have ho:=yia l p (.bi t a b) [a] t r (b.fl++r) hl hE h (by rw [hE];simp [Ex.fl,flX]) (by simp [h.2.1]) (by rw [h.1];simp);have ih2:=ihb h.2.2 (fun t ht=>ha t (by simp [Ex.fl,ht])) (p+1+(flX [a]).length) r bound (by simp only [flX,qdb,qhc,qbe];exact zdm hd1);have hs:=rdoubleK_con t.1 (ty kinds bound a) (ty kinds bound b) (xam h.1).1 (xam h.1).2;refine ze Tryz.func268 ntmps268 Tryz.results268 ?_
  repeat' (first|refine zz ?_|refine zg (fun _=>?_) fun _=>?_|refine zu (fun _=>?_) fun _=>?_|refine zj (fun _=>?_) fun _=>?_|(refine zr ?_;exact yaf rfl)|(exfalso;simp_all;done))
 | tr t a b c iha ihb ihc=>
  intro h ha p r bound hd;have hE:=hd;obtain ⟨hp,hpt,hd1⟩:=ymn hd;have hd1:l.drop (p+1)=a.fl++(b.fl++(c.fl++r)):=by rw [show a.fl++(b.fl++(c.fl++r))=(a.fl++(b.fl++c.fl))++r by simp];exact hd1
  have har:=ygt t.1;rw [h.1] at har;have hd2:=zdm hd1;have ih1:=iha h.2.1 (fun t ht=>ha t (by simp [Ex.fl,ht])) (p+1) _ bound hd1;have ho1:=yia l p (.tr t a b c) [a] t r (b.fl++(c.fl++r)) hl hE h (by rw [hE];simp [Ex.fl,flX]) (by simp [h.2.1]) (by rw [h.1];simp);have ih2:=ihb h.2.2.1 (fun t ht=>ha t (by simp [Ex.fl,ht])) (p+1+(flX [a]).length) _ bound (by simp only [flX,qdb,qhc,qbe];exact hd2);have ho2:=yia l p (.tr t a b c) [a,b] t r (c.fl++r) hl hE h (by rw [hE];simp [Ex.fl,flX]) (by simp [h.2.1,h.2.2.1]) (by rw [h.1];simp);have ih3:=ihc h.2.2.2 (fun t ht=>ha t (by simp [Ex.fl,ht])) (p+1+(flX [a,b]).length) r bound (by simp only [flX,qdb,qhc,qbe,qao,<- qdd];exact zdm hd2);refine ze Tryz.func268 ntmps268 Tryz.results268 ?_
  repeat' (first|refine zz ?_|refine zg (fun _=>?_) fun _=>?_|refine zu (fun _=>?_) fun _=>?_|refine zj (fun _=>?_) fun _=>?_|(refine zr ?_;exact yaf (by simp_all [ty,ty3]))|(exfalso;simp_all;done))
end
section
open Go.RowKit
theorem ycz {f:α->AV}:∀ l:List α,(l.map fun x=>[f x]).flatten=l.map f
 | []=>rfl
 | a::l=>by simp [ycz l]
theorem zcp {t:List (Nat × AV)} {t':List (Nat × AV)} {h0 h':List (Nat × Option LObj)} {f:α->AV} (d:Nat) {n:Nat} (hd:yaj t d=some (.ls id 1 n)) (hn:n=l.length) (ht:yvt id t=some t') (hh:ysx id h0=some h') (k:A P N c Q (S ((d,.sl 1 (l.map fun x=>[f x]))::t') ((id,none)::h'))):A P N c Q (S t ((id,some (.vec (l.map f)))::h0)):=by
 subst hn;refine zbh (h':=(id,some (.vec (l.map f)))::h') d (l.map fun x=>[f x]) hd yaz sm (by intro r hr;obtain ⟨z,_,rfl⟩:=qag.1 hr;rfl) (ycz l) ht ?_ ?_
 .simp only [ysx,hh];rfl
 rw [show S ((d,AV.sl 1 (l.map fun x=>[f x]))::t') ((id,none)::(id,some (LObj.vec (l.map f)))::h')=S ((d,AV.sl 1 (l.map fun x=>[f x]))::t') ((id,none)::h') by unfold S;rw [yic]];exact k
theorem Frz.aggL {ys:List AV} (hl:xs.length=ys.length) (hc:ys.all yea=true) (hf:∀ (i:Nat) (x y:AV),xs[i]?=some x->ys[i]?=some y->Frz h x y):Frz h (.agg xs) (.agg ys):=by
 intro B ok0 lv w u hi hr;cases hr with
 | agg vs hvl _ hrr=>
  refine .agg vs (hvl.trans hl) (fun c hcm=>List.all_eq_true.1 hc c hcm) fun i c v hcc hv=>?_;obtain ⟨x,hx⟩:∃ x,xs[i]?=some x:=⟨_,qae (by have:=(qaa.1 hcc).1;omega)⟩;exact hf i x c hx hcc B ok0 lv w v hi (hrr i x v hx hv)
end
section
open Go.RowKit
theorem rkinds_con (p:ProgD) (h6:p.vars.length<=1000):Con prog 243 [yhb p] (yah (ybe p)):=by
 have hkl:(ybe p).length=p.vars.length:=by simp [ybe]
 refine ze Tryz.func243 ntmps243 Tryz.results243 ?_;refine zY ?_;refine zjz 3 100 1 rfl rfl rfl ?_;refine ybl (α:=Nat) (fun k=>[(4,i64 k),(3,.ls 100 1 k),(1,.lp 1 0)]) (fun k=>(100,some (.vec (((ybe p).take k).map i64)))::pgK p) (fun k=>p.vars.length - k) (fun k=>k<=p.vars.length) 0 om zs zh ?_;intro k hk;refine zY ?_;refine zj ?_ ?_ <;> intro h1
 .have h1:k < p.vars.length:=by simpa using h1
  obtain ⟨x,hx⟩:=zbt h1;have hkx:(ybe p)[k]?=some x.kind:=by simp [ybe,hx]
  (repeat (first|refine zy ?_|refine ydx tok rfl rfl rfl so rfl (by simp [yar]) so rfl rfl rfl rfl rfl ?_))
  refine rnd (k+1) om om zs (yaa ?_ (yaa rfl yag));rw [zha hkx,qbu];rfl
 obtain rfl:k=p.vars.length:=by simp at h1;omega
 (repeat (first|with_reducible refine ydk ?_|with_reducible refine ycd ?_|refine ycy ?_|refine ymi ?_))
 rw [<- hkl,qay];refine zcp 3 rfl rfl rfl rfl ?_;exact zkp
theorem zjg (l:List Tm) (kinds:List Int) (bound:Bool) (hl:l.length<=1000) (h6:¬ 6 < kinds.length) (hkk:ygx kinds=true) (hv:ycm l kinds.length=true):Con prog 268 [ybk l,i64 0,yah kinds,yay bound] (i64 (ofF l kinds bound).1):=by
 obtain ⟨E,_,ho,hf,harg,he⟩:=ofF_ty (bound:=bound) h6 hkk hv;rw [he];exact rkindC_con l kinds hl E ho (by rw [hf];exact harg) 0 [] bound (by simp [hf])
theorem rnamed_con (p:ProgD) (hin:yio p) (h6:p.vars.length<=1000) (h12:p.rules.length<=1000):Con prog 239 [yhb p] (yay (ygz p)):=by
 have h0:=yzj p.name;refine ze Tryz.func239 ntmps239 Tryz.results239 ?_;refine zZ ?_;refine zj ?_ ?_ <;> intro q0
 .refine zk ?_;exact yae (by rw [ygz,show ykp p.name=false by simpa using q0];rfl)
 have hb:ygz p=(ygj (p.vars.map (·.name)) && ygj (p.rules.map (·.name))):=by rw [ygz,show ykp p.name=true by simpa using q0];rfl
 refine zY ?_;refine ybl (α:=Nat) (fun k=>[(3,i64 k),(1,.lp 1 0)]) (fun k=>pgK p) (fun k=>p.vars.length - k) (fun k=>k<=p.vars.length/\ygj ((p.vars.map (·.name)).take k)=true) 0 ⟨om,rfl⟩ zs zh ?_;rintro k ⟨hk1,hall⟩;refine zY ?_;refine zj ?_ ?_ <;> intro q1
 .have q1:k < p.vars.length:=by simpa using q1
  obtain ⟨x,hx⟩:=zbt q1;have hn:=yzj x.name;have hl:(p.vars.map (·.name))[k]?=some x.name:=by simp [hx]
  refine zY ?_;refine ybl (α:=Nat) (fun j=>[(4,i64 j),(3,i64 k),(1,.lp 1 0)]) (fun j=>pgK p) (fun j=>k - j) (fun j=>j<=k/\∀ y∈(p.vars.map (·.name)).take j,y≠x.name) 0 ⟨om,sm⟩ zs zh ?_;rintro j ⟨hj,hne⟩;refine zY ?_;refine zj ?_ ?_ <;> intro q2
  .have q2:j < k:=by simpa using q2
   obtain ⟨y,hy⟩:=zbt (show j < p.vars.length by omega);have hly:(p.vars.map (·.name))[j]?=some y.name:=by simp [hy]
   refine zY ?_;refine zj ?_ ?_ <;> intro q3
   .refine zk ?_;exact yae (by rw [hb,zca q2 hl (by rw [hly,show y.name=x.name from zln (by rw [zwo] at q3;simpa using q3)])];rfl)
   refine zY ?_;exact rnd (j+1) ⟨om,by rw [zha hly];intro z hz;rcases qau.1 hz with hz|hz;exact hne z hz;simp at hz;subst hz;exact fun e=>by rw [e] at q3;simp at q3⟩ om zs zh
  obtain rfl:j=k:=by simp at q2;omega
  refine zZ ?_;refine zj ?_ ?_ <;> intro q4
  .refine zk ?_;exact yae (by rw [hb,zwp hl (by simpa using q4)];rfl)
  refine zY ?_;exact rnd (j+1) ⟨om,zlo hl hall (by simpa using q4) hne⟩ om zs zh
 rw [qak (by simpa using q1)] at hall;rw [hall] at hb;refine zY ?_;refine ybl (α:=Nat) (fun k=>[(5,i64 k),(1,.lp 1 0)]) (fun k=>pgK p) (fun k=>p.rules.length - k) (fun k=>k<=p.rules.length/\ygj ((p.rules.map (·.name)).take k)=true) 0 ⟨om,rfl⟩ zs zh ?_;rintro k ⟨hk1,hall⟩;refine zY ?_;refine zj ?_ ?_ <;> intro q1
 .have q1:k < p.rules.length:=by simpa using q1
  obtain ⟨x,hx⟩:=zbt q1;have hn:=yzj x.name;have hl:(p.rules.map (·.name))[k]?=some x.name:=by simp [hx]
  refine zY ?_;refine ybl (α:=Nat) (fun j=>[(6,i64 j),(5,i64 k),(1,.lp 1 0)]) (fun j=>pgK p) (fun j=>k - j) (fun j=>j<=k/\∀ y∈(p.rules.map (·.name)).take j,y≠x.name) 0 ⟨om,sm⟩ zs zh ?_;rintro j ⟨hj,hne⟩;refine zY ?_;refine zj ?_ ?_ <;> intro q2
  .have q2:j < k:=by simpa using q2
   obtain ⟨y,hy⟩:=zbt (show j < p.rules.length by omega);have hly:(p.rules.map (·.name))[j]?=some y.name:=by simp [hy]
   refine zY ?_;refine zj ?_ ?_ <;> intro q3
   .refine zk ?_;exact yae (by rw [hb,zca q2 hl (by rw [hly,show y.name=x.name from zln (by rw [zwo] at q3;simpa using q3)])];rfl)
   refine zY ?_;exact rnd (j+1) ⟨om,by rw [zha hly];intro z hz;rcases qau.1 hz with hz|hz;exact hne z hz;simp at hz;subst hz;exact fun e=>by rw [e] at q3;simp at q3⟩ om zs zh
  obtain rfl:j=k:=by simp at q2;omega
  refine zZ ?_;refine zj ?_ ?_ <;> intro q4
  .refine zk ?_;exact yae (by rw [hb,zwp hl (by simpa using q4)];rfl)
  refine zY ?_;exact rnd (j+1) ⟨om,zlo hl hall (by simpa using q4) hne⟩ om zs zh
 rw [qak (by simpa using q1)] at hall;refine zk ?_;exact yae (by rw [hb,hall];rfl)
theorem zqm (l:List Tm) (n:Int) (hl:l.length<=1000):Con prog 267 [ybk l,i64 n] (yay (ycm l n)):=
 yge ⟨_,Tryz.func267,rfl,rfl⟩ fun w us ok hok hr=>by
  obtain ⟨u,v,rfl,h1,h2⟩:=yzh hr;cases h2;exact rvalid_any u l n w hl (Lib.hid (yka h1 hok))
theorem rformed_con (r:RuleD) (n:Nat) (hl:zna r) (hn:n<=1000):Con prog 241 [.agg (ybg r),i64 n] (yay (yfv r n)):=by
 obtain ⟨hl1,hl2,hl3⟩:=hl;have hin1:=yqr r.sets.length 1 6;have hvg:=zqm r.guard n hl1;have hb:yfv r n=(ydr r.sets.length 1 6 && (ycm r.guard n && yxb r.sets n)):=by
  rw [ykx,<- Bool.and_assoc];congr 1;rw [qbq];simp [ydr];omega
 refine ze Tryz.func241 ntmps241 Tryz.results241 ?_;refine zZ ?_;refine yam 12 rfl (fun q1=>?_) (fun q1=>?_)
 .refine zk ?_;exact yae (by rw [hb,show ydr r.sets.length 1 6=false by simpa using q1];rfl)
 refine zZ ?_;refine zj ?_ ?_ <;> intro q2
 .refine zk ?_;exact yae (by rw [hb,show ycm r.guard n=false by simpa using q2,qdx,qch])
 have q1:ydr r.sets.length 1 6=true:=by simpa using q1
 have q2:ycm r.guard n=true:=by simpa using q2
 rw [q1,q2] at hb;have hb:yfv r n=yxb r.sets n:=hb;refine zY ?_;refine ybl (α:=Nat) (fun k=>[(5,i64 k),(1,i64 n),(2,.lp 2 0)]) (fun k=>[(2,some (.cells (ybg r)))]) (fun k=>r.sets.length - k) (fun k=>k<=r.sets.length/\(r.sets.take k).all (zrp n)=true/\((r.sets.take k).map (·.var)).Nodup) 0 ⟨om,rfl,sm⟩ zs zh ?_;rintro k ⟨hk1,hall,hnd⟩;refine zY ?_;refine zj ?_ ?_ <;> intro q3
 .have q3:k < r.sets.length:=by simpa using q3
  obtain ⟨x,hx⟩:=zbt q3;have hxm:=qab hx;have hxe:r.sets[k]=x:=(qaa.1 hx).2;have hin2:=yqr x.var 0 (n - 1);have hvx:=zqm x.val n (hl3 x hxm);refine zZ ?_;refine yam 36 rfl (fun q4=>?_) (fun q4=>?_)
  .refine zk ?_;exact yae (by rw [hb,zxu hx (by rw [zrp,show ydr x.var 0 (n - 1)=false by simpa using q4];rfl)])
  refine zZ ?_;refine zj ?_ ?_ <;> intro q5
  .refine zk ?_;exact yae (by rw [hb,zxu hx (by rw [zrp,show ycm x.val n=false by simpa using q5,qch])])
  have hsb:zrp n x=true:=by rw [zrp,show ydr x.var 0 (n - 1)=true by simpa using q4,show ycm x.val n=true by simpa using q5];rfl
  refine zY ?_;refine ybl (α:=Nat) (fun j=>[(6,i64 j),(5,i64 k),(1,i64 n),(2,.lp 2 0)]) (fun j=>[(2,some (.cells (ybg r)))]) (fun j=>k - j) (fun j=>j<=k/\∀ y∈r.sets.take j,y.var≠x.var) 0 ⟨om,sm⟩ zs zh ?_;rintro j ⟨hj,hne⟩;refine zY ?_;refine zj ?_ ?_ <;> intro q6
  .have q6:j < k:=by simpa using q6
   obtain ⟨y,hy⟩:=zbt (show j < r.sets.length by omega);have hye:r.sets[j]=y:=(qaa.1 hy).2;refine zY ?_;refine zj ?_ ?_ <;> intro q7
   .refine zk ?_;exact yae (by rw [hb,zjk j k q6 q3 (by rw [hxe,hye];simpa using q7)])
   refine zY ?_;exact rnd (j+1) ⟨om,by rw [zha hy];intro z hz;rcases qau.1 hz with hz|hz;exact hne z hz;simp at hz;subst hz;simpa using q7⟩ om zs zh
  obtain rfl:j=k:=by simp at q6;omega
  refine zY ?_;exact rnd (j+1) ⟨om,by rw [zys hx,hall,hsb];rfl,xdu hx hnd hne⟩ om zs zh
 rw [qak (by simpa using q3)] at hall hnd;refine zk ?_;exact yae (by rw [hb,yxb,hall,decide_eq_true hnd];rfl)
theorem rtyped_con (r:RuleD) (kinds:List Int) (hl:zna r) (h6:¬ 6 < kinds.length) (hkk:ygx kinds=true) (hf:yfv r kinds.length=true):Con prog 242 [.agg (ybg r),yah kinds] (yay (yki r kinds)):=by
 obtain ⟨hl1,hl2,hl3⟩:=hl;have hvar:=zdz hf;rw [ykx] at hf;simp only [qac,yxb,List.all_eq_true,zrp] at hf;obtain ⟨_,_,hvg,hvs,_⟩:=hf;have hg:=zjg r.guard kinds false hl1 h6 hkk hvg;refine ze Tryz.func242 ntmps242 Tryz.results242 ?_;refine zZ ?_;refine zj ?_ ?_ <;> intro q1
 .refine zk ?_;exact yae (by rw [yki,beq_eq_false_iff_ne.2 (by simpa using q1)];rfl)
 have q1:((ofF r.guard kinds false).1 == 2)=true:=by simpa using q1
 refine zY ?_;refine ybl (α:=Nat) (fun k=>[(5,i64 k),(1,yah kinds),(2,.lp 2 0)]) (fun k=>[(2,some (.cells (ybg r)))]) (fun k=>r.sets.length - k) (fun k=>k<=r.sets.length/\(r.sets.take k).all (fun s=>(ofF s.val kinds false).1 == kinds.getD s.var.toNat 0)=true) 0 ⟨om,rfl⟩ zs zh ?_;rintro k ⟨hk1,hall⟩;refine zY ?_;refine zj ?_ ?_ <;> intro q2
 .have q2:k < r.sets.length:=by simpa using q2
  obtain ⟨x,hx⟩:=zbt q2;have hxm:=qab hx;obtain ⟨hv0,hv1⟩:=hvar x hxm;obtain ⟨kd,hkd⟩:=zbt (show x.var.toNat < kinds.length by omega);have hgd:kinds.getD x.var.toNat 0=kd:=by rw [qad,hkd];rfl
  have hxc:=zjg x.val kinds false (hl3 x hxm) h6 hkk (hvs x hxm).2;refine zZ ?_;refine zj ?_ ?_ <;> intro q3
  .refine zk ?_;exact yae (by rw [yki,qcd.2 ⟨x,hxm,by rw [hgd];simpa using q3⟩,qch])
  refine zY ?_;exact rnd (k+1) ⟨om,by rw [zys hx,hall,hgd];simpa using q3⟩ om zs zh
 rw [qak (by simpa using q2)] at hall;refine zk ?_;exact yae (by rw [yki,q1,hall];rfl)
theorem rtcheck_con (p:ProgD) (hin:yio p) (hl:zcy p):Con prog 203 [yhb p] (i64 (yed p)):=by
 obtain ⟨h6,h12,hlr⟩:=hl;have hna:=rnamed_con p hin h6 h12;have hkc:=rkinds_con p h6;have hin1:=yqr p.vars.length 1 6;have hkl:(ybe p).length=p.vars.length:=by simp [ybe]
 by_cases hlim:p.vars.length=0\/6 < p.vars.length\/12 < p.rules.length
 .rw [yue hlim];refine ze Tryz.func203 ntmps203 Tryz.results203 ?_;refine zZ ?_;refine yam 11 rfl (fun q0=>?_) (fun q0=>?_)
  .exact zkp
  refine zY ?_;refine zj ?_ ?_ <;> intro q2
  .exact zkp
  simp [ydr] at q0 q2;omega
 refine ze Tryz.func203 ntmps203 Tryz.results203 ?_;refine zZ ?_;refine yam 11 rfl (fun q0=>?_) (fun q0=>?_)
 .simp [ydr] at q0;omega
 refine zY ?_;refine zj ?_ ?_ <;> intro q2
 .simp at q2;omega
 refine zZ ?_;refine zj ?_ ?_ <;> intro q3
 .refine zk ?_;exact yaf (by rw [yyk hlim (by simpa using q3)])
 have q3:ygz p=true:=by simpa using q3
 refine zY ?_;refine ybl (α:=Nat) (fun k=>[(3,i64 k),(1,.lp 1 0)]) (fun k=>pgK p) (fun k=>p.vars.length - k) (fun k=>k<=p.vars.length/\(p.vars.take k).all yxs=true) 0 ⟨om,rfl⟩ zs zh ?_;rintro k ⟨hk1,ha1⟩;refine zY ?_;refine zj ?_ ?_ <;> intro q4
 .have q4:k < p.vars.length:=by simpa using q4
  obtain ⟨x,hx⟩:=zbt q4
  (repeat (first|refine zy ?_|refine zc (rnumbers_con x) ?_))
  refine zj ?_ ?_ <;> intro q5
  .refine zk ?_;exact yaf (by rw [zdh hlim q3 (qcd.2 ⟨x,qab hx,by simpa using q5⟩)])
  refine zY ?_;exact rnd (k+1) ⟨om,by rw [zys hx,ha1];simpa using q5⟩ om zs zh
 rw [qak (by simpa using q4)] at ha1;refine zY ?_;refine ybl (α:=Nat) (fun k=>[(4,i64 k),(1,.lp 1 0)]) (fun k=>pgK p) (fun k=>p.rules.length - k) (fun k=>k<=p.rules.length/\(p.rules.take k).all (yfv · p.vars.length)=true) 0 ⟨om,rfl⟩ zs zh ?_;rintro k ⟨hk1,ha2⟩;refine zY ?_;refine zj ?_ ?_ <;> intro q5
 .have q5:k < p.rules.length:=by simpa using q5
  obtain ⟨x,hx⟩:=zbt q5;have hxm:=qab hx
  (repeat (first|refine zy ?_|refine zc (rformed_con x p.vars.length (hlr x hxm) h6) ?_))
  refine zj ?_ ?_ <;> intro q6
  .refine zk ?_;exact yaf (by rw [zhm hlim q3 ha1 (qcd.2 ⟨x,hxm,by simpa using q6⟩)])
  refine zY ?_;exact rnd (k+1) ⟨om,by rw [zys hx,ha2];simpa using q6⟩ om zs zh
 rw [qak (by simpa using q5)] at ha2;refine zY ?_;refine ybl (α:=Nat) (fun k=>[(5,i64 k),(1,.lp 1 0)]) (fun k=>pgK p) (fun k=>p.rules.length - k) (fun k=>k<=p.rules.length/\(p.rules.take k).all (yki · (ybe p))=true) 0 ⟨om,rfl⟩ zs zh ?_;rintro k ⟨hk1,ha3⟩;refine zY ?_;refine zj ?_ ?_ <;> intro q6
 .have q6:k < p.rules.length:=by simpa using q6
  obtain ⟨x,hx⟩:=zbt q6;have hxm:=qab hx;have hty:=rtyped_con x (ybe p) (hlr x hxm) om (kinds_of_num ha1) (by rw [hkl];exact List.all_eq_true.1 ha2 x hxm);refine zZ ?_;refine zj ?_ ?_ <;> intro q7
  .refine zk ?_;exact yaf (by rw [zhn hlim q3 ha1 ha2 (qcd.2 ⟨x,hxm,by simpa using q7⟩)])
  refine zY ?_;exact rnd (k+1) ⟨om,by rw [zys hx,ha3];simpa using q7⟩ om zs zh
 rw [qak (by simpa using q6)] at ha3;refine zk ?_;exact yaf (by rw [zkg hlim q3 ha1 ha2 ha3])
theorem rtvalid_con (p:ProgD) (hin:yio p) (hl:zcy p):Con prog 148 [yhb p] (yay (yed p == 0)):=by
 have hc:=rtcheck_con p hin hl;refine ze Tryz.func148 ntmps148 Tryz.results148 ?_;refine zZ ?_;exact zp
end
section
open Go.RowKit
def xig (a b:Int):Int:=if a.tmod b < 0 then a.tmod b+b else a.tmod b
theorem modI_bd {b:Int} (hb:0 < b):0<=xig a b/\xig a b < b:=by
 unfold xig;have h1:=Int.tmod_lt_of_pos a hb;have h2:=Int.lt_tmod_of_pos a hb;split <;> omega
theorem mod_con (a b:Int) (hb:0 < b/\b<=1000000):Con prog 9 [i64 a,i64 b] (i64 (xig a b)):=by
 have h1:=Int.tmod_lt_of_pos a hb.1;have h2:=Int.lt_tmod_of_pos a hb.1;refine ze Tryz.func9 ntmps9 Tryz.results9 ?_
 (repeat (first|refine zy ?_|refine xep rfl rfl om rfl rfl ?_))
 refine zj ?_ ?_ <;> intro h
 .simp at h;refine zk ?_;exact yaf (by unfold xig;rw [if_pos h])
 simp at h;refine zk ?_;exact yaf (by unfold xig;rw [if_neg om])
end
section
open Go.RowKit
theorem zak (g:GraphD) (hlen:g.ids.length<=1000):Con prog 150 [yfm g] (i64 (ybz g.ids)):=by
 refine ze Tryz.func150 ntmps150 Tryz.results150 ?_;refine zY ?_;refine ybl (α:=Nat) (fun k=>[(4,i64 k),(3,i64 (ybz (g.ids.take k))),(1,.lp 1 0)]) (fun k=>[(1,some (.cells [yah g.ids,yat g.ports]))]) (fun k=>g.ids.length - k) (fun k=>k<=g.ids.length) 0 om zs zh ?_;intro k hk;refine zY ?_;refine zj ?_ ?_ <;> intro h
 .simp at h;obtain ⟨x,hx⟩:=ybr h;refine zY ?_;refine rnd (k+1) om om ?_ zh;refine yas rfl (yas ?_ zs);rw [yjk _ _ _ hx];rfl
 simp at h;obtain rfl:k=g.ids.length:=by omega
 refine zk ?_;exact yaf (by rw [qay])
theorem max_con (ids:List Int) (hlen:ids.length<=1000) (h1:1<=ids.length) (h0:∀ x∈ids,0<=x):Con prog 159 [yah ids] (i64 (ybz ids)):=by
 obtain ⟨a,ha⟩:=ybr (show 0 < ids.length by omega);have ha0:=h0 a (qab ha);refine ze Tryz.func159 ntmps159 Tryz.results159 ?_;refine zY ?_;refine zj ?_ ?_ <;> intro h
 .simp at h;omega
 refine zY ?_;refine ybl (α:=Nat) (fun k=>[(4,i64 k),(3,i64 (ybz (ids.take k))),(0,yah ids)]) (fun k=>[]) (fun k=>ids.length - k) (fun k=>1<=k/\k<=ids.length) 1 om ?_ zh ?_
 .refine yas rfl (yas ?_ zs);have e:ybz (ids.take 1)=a:=by
   rw [yjk ids 0 a ha];simp [ybz];omega
  rw [e];rfl
 intro k ⟨hk1,hk⟩;refine zY ?_;refine zj ?_ ?_ <;> intro h
 .simp at h;obtain ⟨x,hx⟩:=ybr h;refine zY ?_;refine rnd (k+1) om om ?_ zh;refine yas rfl (yas ?_ zs);rw [yjk _ _ _ hx];rfl
 simp at h;obtain rfl:k=ids.length:=by omega
 refine zk ?_;exact yaf (by rw [qay])
theorem zkv {b a' b':Int} (e1:a=a') (e2:b=b'):Frz h (.tup [.v (.int .i64 a),.v (.int .i64 b)]) (.tup [i64 a',i64 b']):=by subst e1 e2;exact Frz.pure
def xii (q:Int × Int):AV:=.tup [i64 q.1,i64 q.2]
theorem bounds1_con (x:VarD) (g:GraphD) (v:Int) (hx:yxs x=true) (hg:ych g=true):Con prog 158 [.agg (ybq x),yfm g,i64 v] (.tup [i64 x.lo,i64 (x.hi+x.perNode * g.ports.length+x.perID * ybz g.ids)]):=by
 have hf:=yba hg;have hn:=yif hx;have ht:=zml hx hg;have hlen:(g.ids.length:Int)=g.ports.length:=by omega
 have ht2:0<=x.perNode * (g.ids.length:Int)/\x.perNode * (g.ids.length:Int)<=255 * 24:=by rw [hlen];omega
 refine ze Tryz.func158 ntmps158 Tryz.results158 ?_
 (repeat (first|refine zy ?_|refine zc (max_con g.ids om om (fun y hy=>(hf.2.2.2.1 y hy).1)) ?_))
 refine zr ?_;exact zkv rfl (by rw [hlen])
theorem bounds2_con (x:VarD) (g:GraphD) (v:Int):Con prog 160 [.agg (ybq x),yfm g,i64 v] (.tup [i64 0,i64 1]):=by
 refine ze Tryz.func160 ntmps160 Tryz.results160 ?_;refine zk ?_;exact zkv rfl rfl
theorem bounds3_con (x:VarD) (g:GraphD) (v:Int) (ls:List Lk) (h0:0<=v) (hv:g.ports[v.toNat]?=some ls) (hl:ls.length<=1000):Con prog 161 [.agg (ybq x),yfm g,i64 v] (.tup [i64 (-1),i64 (ls.length - 1)]):=by
 refine ze Tryz.func161 ntmps161 Tryz.results161 ?_;refine zk ?_;exact zkv rfl rfl
theorem zhj (x:VarD) (g:GraphD) (v:Int) (ls:List Lk) (hx:yxs x=true) (hg:ych g=true) (h0:0<=v) (hv:g.ports[v.toNat]?=some ls) (hl:ls.length<=1000) :
  Con prog 92 [.agg (ybq x),yfm g,i64 v] (xii (yap x g ls.length)):=by
 have hn:=yif hx;refine ze Tryz.func92 ntmps92 Tryz.results92 ?_;refine zY ?_;refine zzu (yrs ?_);refine zY ?_;refine yne tok rfl rfl rfl om (row:=[i64 1,.fn 158 []]) rfl rfl rfl ?_;refine zY ?_;refine zj ?_ ?_ <;> intro h1
 .simp at h1
  (repeat (first|refine zy ?_|refine zc (bounds1_con x g v hx hg) ?_))
  refine zr ?_;unfold yap;rw [if_neg om,if_neg om];exact Frz.pure
 simp at h1;refine zY ?_;refine zcz (t':=[(17,i64 1),(16,i64 3),(15,.sl 2 [[i64 1,.fn 158 []],[i64 2,.fn 160 []],[i64 3,.fn 161 []]]),(3,.lp 3 0),(4,.lp 4 0),(2,i64 v)]) (h':=[(3,some (.cells (ybq x))),(4,some (.cells [yah g.ids,yat g.ports]))]) (yrs ?_) zs zh;refine zY ?_;refine yne tok rfl rfl rfl om (row:=[i64 2,.fn 160 []]) rfl rfl rfl ?_;refine zY ?_;refine zj ?_ ?_ <;> intro h2
 .simp at h2
  (repeat (first|refine zy ?_|refine zc (bounds2_con x g v) ?_))
  refine zr ?_;unfold yap;rw [if_pos om];exact Frz.pure
 simp at h2;refine zY ?_;refine zcz (t':=[(17,i64 2),(16,i64 3),(15,.sl 2 [[i64 1,.fn 158 []],[i64 2,.fn 160 []],[i64 3,.fn 161 []]]),(3,.lp 3 0),(4,.lp 4 0),(2,i64 v)]) (h':=[(3,some (.cells (ybq x))),(4,some (.cells [yah g.ids,yat g.ports]))]) (yrs ?_) zs zh;refine zY ?_;refine yne tok rfl rfl rfl om (row:=[i64 3,.fn 161 []]) rfl rfl rfl ?_;refine zY ?_;refine zj ?_ ?_ <;> intro h3
 .simp at h3
  (repeat (first|refine zy ?_|refine zc (bounds3_con x g v ls h0 hv hl) ?_))
  refine zr ?_;unfold yap;rw [if_neg om,if_pos om];exact Frz.pure
 simp at h3;omega
end
section
open Go.RowKit
theorem bring_con (kind lo hi value:Int):Con prog 179 [i64 kind,.agg [i64 lo,i64 hi],i64 value] (i64 (yiq kind lo hi value)):=by
 refine ze Tryz.func179 ntmps179 Tryz.results179 ?_;refine zY ?_;refine yam 12 rfl (fun h1=>?_) (fun h1=>?_)
 .simp at h1;refine zY ?_;refine zj ?_ ?_ <;> intro h2
  .simp at h2;refine zk ?_;exact yaf (by unfold yiq;rw [if_pos ⟨h1,h2⟩])
  simp at h2;refine zY ?_;refine zj ?_ ?_ <;> intro h3
  .simp at h3;refine zk ?_;exact yaf (by unfold yiq;rw [if_neg om,if_pos h3])
  simp at h3;refine zY ?_;refine zj ?_ ?_ <;> intro h4
  .simp at h4;omega
  refine zk ?_;exact yaf (by unfold yiq;rw [if_neg om,if_neg h3,if_neg om])
 simp at h1;refine zY ?_;refine zj ?_ ?_ <;> intro h3
 .simp at h3;refine zk ?_;exact yaf (by unfold yiq;rw [if_neg om,if_pos h3])
 simp at h3;refine zY ?_;refine zj ?_ ?_ <;> intro h4
 .refine zk ?_;exact yaf (by unfold yiq;rw [if_neg om,if_neg h3,if_pos h1])
 simp at h4;omega
structure Fair (p:ProgD) (g:GraphD):Prop where
 pin:yio p
 light:zcy p
 lg:yoh g=true
theorem Fair.vlen (h:Fair p g):p.vars.length<=1000:=h.light.1
theorem Fair.glen (h:Fair p g):g.ids.length<=30/\g.ports.length<=30/\∀ l∈g.ports,l.length<=30:=(ygq g).1 h.lg
theorem xgf {v:Int} {ls:List Lk} (hv:g.ports[v.toNat]?=some ls):xez g v=ls.length:=by
 unfold xez;rw [qad,hv];rfl
theorem zbo (p:ProgD) (g:GraphD) (v x:Int) (ls:List Lk) (y:VarD) (hy:yxs y=true) (hg:ych g=true) (h0:0<=v) (hv:g.ports[v.toNat]?=some ls) (hl:ls.length<=1000) (hx0:0<=x) (hx:p.vars[x.toNat]?=some y) :
  Con prog 84 [yhb p,yfm g,i64 v,i64 x] (xii (yap y g ls.length)):=by
 have hn:=yif hy;have ht:=zml hy hg;have hf:=yba hg;refine ze Tryz.func84 ntmps84 Tryz.results84 ?_;refine zY ?_;refine zj ?_ ?_ <;> intro h1
 .simp at h1;refine zk ?_;unfold yap;rw [if_pos h1];exact Frz.pure
 simp at h1;refine zY ?_;refine zj ?_ ?_ <;> intro h2
 .simp at h2;refine zk ?_;unfold yap;rw [if_neg h1,if_pos h2];exact Frz.pure
 simp at h2
 (repeat (first|refine zy ?_|refine zc (zak g om) ?_))
 refine zr ?_;unfold yap;rw [if_neg h1,if_neg h2];exact Frz.pure
end
section
open Go.RowKit
theorem zkr (h1:yed p=0) (h2:ych g=true) (hy:y∈p.vars) (hb:zgq g y=false):ycn p g=9:=by
 unfold ycn;rw [if_pos h1,if_pos h2,if_neg];intro h;rw [List.all_eq_true.1 h y hy] at hb;cases hb
theorem zks (p:ProgD) (g:GraphD) (hf:Fair p g):Con prog 90 [yhb p,yfm g] (i64 (ycn p g)):=by
 have hgl:=hf.glen;have hvl:=hf.vlen;refine ze Tryz.func90 ntmps90 Tryz.results90 ?_
 (repeat (first|refine zy ?_|refine zc (zjp p hf.pin hf.light) ?_))
 refine zj ?_ ?_ <;> intro h1
 .simp at h1;refine zk ?_;exact yaf (by unfold ycn;rw [if_neg h1])
 simp at h1
 (repeat (first|refine zy ?_|refine zc (gvalid_con g hf.lg) ?_))
 refine zj ?_ ?_ <;> intro h2
 .simp at h2;refine zk ?_;exact yaf (by unfold ycn;rw [if_pos h1,if_neg (by simp [h2])])
 simp at h2;have hvf:=yba h2;obtain ⟨ls,hls⟩:=ybr (show 0 < g.ports.length by omega);have hll:=hgl.2.2 ls (qab hls);refine zY ?_;refine ybl (α:=Nat) (fun k=>[(18,i64 k),(17,i64 p.vars.length),(16,.sl 6 (p.vars.map ybq)),(2,.lp 2 0),(3,.lp 3 0)]) (fun k=>[(2,some (.cells [ynt p.name,.sl 6 (p.vars.map ybq),.sl 3 (p.rules.map ybg)])),(3,some (.cells [yah g.ids,yat g.ports]))]) (fun k=>p.vars.length - k) (fun k=>k<=p.vars.length/\∀ y∈p.vars.take k,zgq g y=true) 0 ⟨om,sm⟩ zs zh ?_;intro k ⟨hk,hok⟩;refine zY ?_;refine zj ?_ ?_ <;> intro h
 .simp at h;obtain ⟨y,hy⟩:=ybr h;have hym:=qab hy;have hnum:=(ycp h1).2.2.2 y hym;have hbd:=yvl (deg:=(ls.length:Int)) hnum h2 om;have hstep:zgq g y=true->∀ z∈p.vars.take (k+1),zgq g z=true:=by
   intro hfy z hz;rw [yhh hy] at hz;rcases qau.1 hz with hz|hz
   .exact hok z hz
   simp at hz;subst hz;exact hfy
  refine zY ?_;refine zj ?_ ?_ <;> intro h3
  .simp at h3;refine zY ?_;refine rnd (k+1) ⟨om,hstep (by simp [zgq,h3])⟩ om zs zh
  simp at h3;have hsame:yap y g ls.length=yap y g 0:=by unfold yap;rw [if_neg om,if_neg om,if_neg om,if_neg om]
  (repeat (first|refine zy ?_|refine zc (zhj y g 0 ls hnum h2 om hls om) ?_))
  refine yam 34 rfl (fun h4=>?_) (fun h4=>?_)
  .simp at h4;refine zk ?_;exact yaf (zkr h1 h2 hym (by rw [hsame] at h4;simp [zgq,h3];omega)).symm
  simp at h4;refine zY ?_;refine zj ?_ ?_ <;> intro h5
  .simp at h5;refine zk ?_;exact yaf (zkr h1 h2 hym (by rw [hsame] at h5;simp [zgq,h3];omega)).symm
  simp at h5;refine zY ?_;refine rnd (k+1) ⟨om,hstep (by rw [hsame] at h4 h5;simp [zgq,h3];omega)⟩ om zs zh
 simp at h;obtain rfl:k=p.vars.length:=by omega
 rw [qay] at hok;refine zk ?_;exact yaf (ycv.2 ⟨h1,h2,hok⟩).symm
theorem ywy (p:ProgD) (g:GraphD) (hf:Fair p g):Con prog 81 [yhb p,yfm g] (i64 (ycn p g)):=by
 have hgl:=hf.glen;have hvl:=hf.vlen;refine ze Tryz.func81 ntmps81 Tryz.results81 ?_
 (repeat (first|refine zy ?_|refine zc (rtvalid_con p hf.pin hf.light) ?_))
 refine zj ?_ ?_ <;> intro h1
 .simp at h1;refine zk ?_;exact yaf (by unfold ycn;rw [if_neg h1])
 simp at h1
 (repeat (first|refine zy ?_|refine zc (yzk g hf.lg) ?_))
 refine zj ?_ ?_ <;> intro h2
 .simp at h2;refine zk ?_;exact yaf (by unfold ycn;rw [if_pos h1,if_neg (by simp [h2])])
 simp at h2;have hvf:=yba h2;obtain ⟨ls,hls⟩:=ybr (show 0 < g.ports.length by omega);have hll:=hgl.2.2 ls (qab hls);refine zY ?_;refine ybl (α:=Nat) (fun k=>[(5,i64 k),(2,.lp 2 0),(3,.lp 3 0)]) (fun k=>[(2,some (.cells [ynt p.name,.sl 6 (p.vars.map ybq),.sl 3 (p.rules.map ybg)])),(3,some (.cells [yah g.ids,yat g.ports]))]) (fun k=>p.vars.length - k) (fun k=>k<=p.vars.length/\∀ y∈p.vars.take k,zgq g y=true) 0 ⟨om,sm⟩ zs zh ?_;intro k ⟨hk,hok⟩;refine zY ?_;refine zj ?_ ?_ <;> intro h
 .simp at h;obtain ⟨y,hy⟩:=ybr h;have hym:=qab hy;have hnum:=(ycp h1).2.2.2 y hym;have hbd:=yvl (deg:=(ls.length:Int)) hnum h2 om;have hstep:zgq g y=true->∀ z∈p.vars.take (k+1),zgq g z=true:=by
   intro hfy z hz;rw [yhh hy] at hz;rcases qau.1 hz with hz|hz
   .exact hok z hz
   simp at hz;subst hz;exact hfy
  (repeat (first|refine zy ?_|refine zc (zbo p g 0 k ls y hnum h2 om hls om om (by simpa using hy)) ?_))
  refine yam 35 rfl (fun h3=>?_) (fun h3=>?_)
  .simp at h3;have hsame:yap y g ls.length=yap y g 0:=by unfold yap;rw [if_neg om,if_neg om,if_neg om,if_neg om]
   (repeat (first|refine zy ?_|refine zc (ytl _ _ _) ?_))
   refine zj ?_ ?_ <;> intro h4
   .simp [inB] at h4;refine zk ?_;exact yaf (zkr h1 h2 hym (by rw [hsame] at h4;simp [zgq,h3];omega)).symm
   simp [inB] at h4;refine zY ?_;refine rnd (k+1) ⟨om,hstep (by rw [hsame] at h4;simp [zgq,h3];omega)⟩ om zs zh
  simp at h3;refine zY ?_;refine rnd (k+1) ⟨om,hstep (by simp [zgq,h3])⟩ om zs zh
 simp at h;obtain rfl:k=p.vars.length:=by omega
 rw [qay] at hok;refine zk ?_;exact yaf (ycv.2 ⟨h1,h2,hok⟩).symm
theorem rthere_con (p:ProgD) (g:GraphD) (v x:Int) (hf:Fair p g):Con prog 149 [yhb p,yfm g,i64 v,i64 x] (yay (ycn p g == 0 && xiq p g v x)):=by
 have hgl:=hf.glen;have hvl:=hf.vlen;refine ze Tryz.func149 ntmps149 Tryz.results149 ?_
 (repeat (first|refine zy ?_|refine zc (ywy p g hf) ?_))
 refine yam 13 rfl (fun h1=>?_) (fun h1=>?_)
 .simp at h1
  (repeat (first|refine zy ?_|refine zc (ytl _ _ _) ?_))
  refine yam 21 rfl (fun h2=>?_) (fun h2=>?_)
  .simp [inB] at h2
   (repeat (first|refine zy ?_|refine zc (ytl _ _ _) ?_))
   refine zr ?_;exact yae (by rw [qbq,qac,yxj,inB_iff];simp [h1];omega)
  simp [inB] at h2;refine zk ?_;exact yae (by rw [eq_comm,<- qbv,qac,yxj];omega)
 simp at h1;refine zk ?_;exact yae (by simp [h1])
theorem rbring_eq {kind lo hi value:Int} (hk:kind=3->lo=-1) (h:kind≠3->lo<=hi):(if hi < (if lo > value then lo else value) then hi else (if lo > value then lo else value))=yiq kind lo hi value\/(kind=3/\¬ (lo<=value/\value<=hi)):=by
 unfold yiq;by_cases h3:kind=3
 .by_cases h4:lo<=value/\value<=hi
  .left;rw [if_pos h4];split <;> (try split) <;> omega
  exact .inr ⟨h3,h4⟩
 have:=h h3;left;by_cases h4:lo<=value/\value<=hi
 .rw [if_pos h4];split <;> (try split) <;> omega
 rw [if_neg h4,if_neg h3];by_cases h5:value < lo
 .rw [if_pos h5];split <;> (try split) <;> omega
 rw [if_neg h5];split <;> (try split) <;> omega
theorem rbring_con (p:ProgD) (g:GraphD) (v x value:Int) (ls:List Lk) (y:VarD) (hy:yxs y=true) (hg:ych g=true) (hfit:zgq g y=true) (h0:0<=v) (hv:g.ports[v.toNat]?=some ls) (hl:ls.length<=30) (hx0:0<=x) (hx:p.vars[x.toNat]?=some y) :
  Con prog 176 [yhb p,yfm g,i64 v,i64 x,i64 value] (i64 (yiq y.kind (yap y g ls.length).1 (yap y g ls.length).2 value)):=by
 have hn:=yif hy;have hb:=zvn (deg:=(ls.length:Int)) hfit hy om;have he:=rbring_eq (kind:=y.kind) (lo:=(yap y g ls.length).1) (hi:=(yap y g ls.length).2) (value:=value) (fun h=>by unfold yap;rw [if_neg om,if_pos h]) (fun h=>by rw [if_neg h] at hb;omega);refine ze Tryz.func176 ntmps176 Tryz.results176 ?_
 (repeat (first|refine zy ?_|refine zc (zbo p g v x ls y hy hg h0 hv om hx0 hx) ?_))
 refine yam 28 rfl (fun h1=>?_) (fun h1=>?_)
 .simp at h1
  (repeat (first|refine zy ?_|refine zc (ytl _ _ _) ?_))
  refine zj ?_ ?_ <;> intro h2
  .simp [inB] at h2;refine zk ?_;exact yaf (by unfold yiq;rw [if_neg om,if_pos h1])
  simp [inB] at h2;refine zk ?_;refine yaf ?_;rcases he with he|he
  .exact he
  exact absurd h2 he.2
 simp at h1;refine zk ?_;refine yaf ?_;rcases he with he|he
 .exact he
 exact absurd he.1 h1
end
section
open Go.RowKit
theorem size_next (hy:p.vars[k]?=some y):(p.vars.take (k+1)).foldl (ygv g deg) 1=ygv g deg ((p.vars.take k).foldl (ygv g deg) 1) y:=by
 rw [yhh hy,qcu,qdf,qhu]
theorem size_mul (h:ycn p g=0) (hd:0<=deg/\deg<=30) (k:Nat) (hy:y∈p.vars):
  0<=(p.vars.take k).foldl (ygv g deg) 1/\(p.vars.take k).foldl (ygv g deg) 1<=1073741824/\0<=(p.vars.take k).foldl (ygv g deg) 1 * ((yap y g deg).2 - (yap y g deg).1+1)/\(p.vars.take k).foldl (ygv g deg) 1 * ((yap y g deg).2 - (yap y g deg).1+1)<=1073741824 * 4096:=by
 obtain ⟨hc,hg,hfit⟩:=ycv.1 h;have hn:=(ycp hc).2.2.2;have hs:=xds (g:=g) hd (p.vars.take k) 1 (fun x hx=>hn x (qcs hx)) (fun x hx=>hfit x (qcs hx)) om om;have hb:=zvn (deg:=deg) (hfit y hy) (hn y hy) hd;have hw:0<=(yap y g deg).2 - (yap y g deg).1+1:=by split at hb <;> omega
 have:=xci hs.1 hs.2 hw hb.2;exact ⟨hs.1,hs.2,this⟩
theorem rsize_con (p:ProgD) (g:GraphD) (v:Int) (hf:Fair p g):Con prog 82 [yhb p,yfm g,i64 v] (i64 (zzl p g v)):=by
 have hgl:=hf.glen;have hvl:=hf.vlen;refine ze Tryz.func82 ntmps82 Tryz.results82 ?_
 (repeat (first|refine zy ?_|refine zc (rthere_con p g v 0 hf) ?_))
 refine zj ?_ ?_ <;> intro h1
 .simp at h1;refine zk ?_;refine yaf ?_;unfold zzl;split
  .rename_i h2;have:=ycp (ycv.1 h2).1;rw [if_neg];intro hv;rcases h1 with h|h
   .exact absurd h2 h
   rw [<- qbv,yxj] at h;omega
  rfl
 simp at h1;obtain ⟨h1,hth⟩:=h1;rw [yxj] at hth;obtain ⟨hc,hg,hfit⟩:=ycv.1 h1;have hvf:=yba hg;have hn:=(ycp hc).2.2.2;obtain ⟨ls,hls⟩:=ybr (show v.toNat < g.ports.length by omega);have hll:=hgl.2.2 ls (qab hls);refine zY ?_;refine ybl (α:=Nat) (fun k=>[(8,i64 k),(7,i64 ((p.vars.take k).foldl (ygv g ls.length) 1)),(2,i64 v),(3,.lp 3 0),(4,.lp 4 0)]) (fun k=>[(3,some (.cells [ynt p.name,.sl 6 (p.vars.map ybq),.sl 3 (p.rules.map ybg)])),(4,some (.cells [yah g.ids,yat g.ports]))]) (fun k=>p.vars.length - k) (fun k=>k<=p.vars.length) 0 om zs zh ?_;intro k hk;refine zY ?_;refine zj ?_ ?_ <;> intro h
 .simp at h;obtain ⟨y,hy⟩:=ybr h;have hym:=qab hy;have hbd:=yvl (deg:=(ls.length:Int)) (hn y hym) hg om;have hm:=size_mul (deg:=(ls.length:Int)) h1 om k hym
  (repeat (first|refine zy ?_|refine zc (zbo p g v k ls y (hn y hym) hg om hls om om (by simpa using hy)) ?_))
  refine rnd (k+1) om om ?_ zh;refine yas rfl (yas ?_ zs);rw [size_next hy];rfl
 simp at h;obtain rfl:k=p.vars.length:=by omega
 refine zk ?_;refine yaf ?_;unfold zzl;rw [if_pos h1,if_pos om,xgf hls,qay]
end
section
open Go.RowKit
end
section
open Go.RowKit
theorem fit_ok {x:VarD} (hf:zgq g x=true) (hx:yxs x=true) (hd:0<=deg/\deg<=30):(yap x g deg).1<=(yap x g deg).2/\(yap x g deg).2 - (yap x g deg).1+1<=4096:=by
 have h1:=yif hx;unfold zgq at hf;unfold yap at hf ⊢;rcases h1.1 with hk|hk|hk
 .simp [hk] at hf ⊢;omega
 .simp [hk]
 simp [hk];omega
theorem bring_in {k lo hi:Int} (h:lo<=hi) (h3:k=3->lo=-1):lo<=yiq k lo hi a/\yiq k lo hi a<=hi:=by
 unfold yiq;split
 .omega
 split
 .omega
 split <;> omega
theorem zad {x:VarD} (h:x.kind=3):yap x g deg=(-1,deg - 1):=by unfold yap;rw [if_neg om,if_pos h]
end
section
open Go.RowKit
def yfp (l:List (Int × Int)):List AV:=(l.map yiv).flatten
theorem zdt (l:List (Int × Int)):(yfp l).length=2 * l.length:=by
 unfold yfp;rw [zcj (k:=2) (fun x=>rfl)];omega
theorem zoj:∀ {l:List (Int × Int)} {i:Nat} {y:Int × Int},i < l.length->((yfp l).set (i * 2) (i64 y.1)).set (i * 2+1) (i64 y.2)=yfp (l.set i y)
 | [],i,y,h=>by simp at h
 | (a,b)::l,0,y,h=>by simp [yfp,yiv]
 | (a,b)::l,i+1,y,h=>by
  have ih:=zoj (l:=l) (i:=i) (y:=y) (by simpa using h);have e:yfp ((a,b)::l)=i64 a::i64 b::yfp l:=by simp [yfp,yiv]
  rw [List.set_cons_succ,e,show (i+1) * 2=i * 2+1+1 by omega,show i * 2+1+1+1=i * 2+1+1+1 from rfl];simp only [List.set_cons_succ];rw [ih];simp [yfp,yiv]
theorem xmr:∀ n:Nat,ykr n [i64 0,i64 0]=yfp (List.replicate n (0,0))
 | 0=>rfl
 | n+1=>by simp [ykr,xmr n,qbo,yfp,yiv]
def yad (p:ProgD) (g:GraphD):List (List (Int × Int)):=g.ports.map fun ls=>p.vars.map fun y=>yap y g ls.length
def tF (p:ProgD) (g:GraphD):List (Nat × Option LObj):=[(3,some (.cells [yah g.ids,yat g.ports])),(2,some (.cells [ynt p.name,.sl 6 (p.vars.map ybq),.sl 3 (p.rules.map ybg)]))]
def tF8 (p:ProgD) (g:GraphD) (y:VarD):List (Nat × Option LObj):=(8,some (.cells (ybq y)))::tF p g
theorem yqf {t t':List (Nat × AV)} {h h':List (Nat × Option LObj)} (k:A P N c Q (S t' h')) (h1:yxu t t') (h2:∀ id o,yac h' id=some o->yac h id=some o):A P N c Q (S t h):=ynu k ⟨ybo h1,h2⟩
theorem zzv {x:Code} {s:SS} (t0:List (Nat × AV)) (h0:List (Nat × Option LObj)) (k1:A P N x (Mid t0 h0) s) (k2:∀ s',Sub (S t0 h0) s'->Q .normal s'):A P N x Q s:=
 k1.mono fun e s ⟨he,hs⟩=>by subst he;exact k2 s hs
theorem yoq (p:ProgD) (g:GraphD) (hf:Fair p g) (h0:ycn p g=0):Con prog 43 [yhb p,yfm g] (ydl (yad p g)):=by
 have hgl:=hf.glen;have hvl:=hf.vlen;obtain ⟨hc0,hg,hfit⟩:=ycv.1 h0;have hvf:=yba hg;have htl:(yad p g).length=g.ids.length:=by simp [yad];omega
 refine ze Tryz.func43 ntmps43 Tryz.results43 ?_
 (repeat (first|refine zy ?_|refine yqg tok rfl rfl rfl rfl co rfl rfl rfl rfl rfl ?_))
 refine yxv 12 (List.replicate g.ids.length yfj) rfl (zxi _ _) ?_;refine ycx (α:=Nat) (fun k=>[(15,i64 k),(14,i64 g.ids.length),(5,.ls 12 1 g.ids.length),(2,.lp 2 0),(3,.lp 3 0)]) (fun k=>tF p g++ybs 12 2 ((yad p g).take k |>.map yfp) (List.replicate (g.ids.length - k) yfj)) (fun k=>g.ids.length - k) (fun k=>k<=g.ids.length) 0 om zs (yai (by simp only [qff,qew,ybs,yfi,ypy,qcn,qhm];exact zh)) ?_;intro k hk;refine zY ?_;refine zj ?_ ?_ <;> intro h
 .simp at h;obtain ⟨ls,hls⟩:=ybr (show k < g.ports.length by omega);have hll:=hgl.2.2 ls (qab hls);have htk:(((yad p g).take k).map yfp).length=k:=by simp;omega
  (repeat (first|refine zy ?_|refine xab tok (fam 12 k) rfl rfl rfl rfl co (yqq (f:=tF p g) rfl rfl rfl htk.symm (zlg yfj rfl _)) rfl rfl rfl ?_))
  refine yaw tok rfl rfl (by rw [yao (yde om)];exact ybt rfl) rfl om om rfl rfl ?_;refine yrr tok rfl rfl rfl rfl rfl (by rw [yao (yde om)];exact ybt rfl) (by rw [qao,yem,htk,qdk];simp;omega) rfl rfl ?_;refine xft (h':=tF p g++ybs 12 2 (((yad p g).take k).map yfp++[yfp (List.replicate p.vars.length (0,0))]) (List.replicate (g.ids.length - (k+1)) yfj)) ?_ ?_
  .have hrep:ykr p.vars.length (yit [Value.int .i64 0,Value.int .i64 0])=yfp (List.replicate p.vars.length (0,0)):=xmr _;have hex:List.replicate (g.ids.length - k) yfj=yfj::List.replicate (g.ids.length - (k+1)) yfj:=by rw [<- qbo];congr 1;omega
   rw [show ((k:Int).toNat * 1)=k by simp];exact zsq (M:=12) (sz:=2) (f:=tF p g) (a:=yfj) rfl rfl rfl htk.symm (by rw [hrep,zdt];simp) hex (by rw [hrep])
  refine zY ?_;refine ycx (α:=Nat) (fun j=>[(28,i64 j),(27,i64 p.vars.length),(26,.sl 6 (p.vars.map ybq)),(6,i64 k),(15,i64 k),(14,i64 g.ids.length),(5,.ls 12 1 g.ids.length),(2,.lp 2 0),(3,.lp 3 0)]) (fun j=>tF p g++ybs 12 2 (((yad p g).take k).map yfp++[yfp ((p.vars.map fun y=>yap y g ls.length).take j++List.replicate (p.vars.length - j) (0,0))]) (List.replicate (g.ids.length - (k+1)) yfj)) (fun j=>p.vars.length - j) (fun j=>j<=p.vars.length) 0 om zs (hsE sm) ?_;intro j hj;refine zY ?_;refine zj ?_ ?_ <;> intro h2
  .simp at h2;obtain ⟨y,hy⟩:=ybr (show j < p.vars.length by omega)
   (repeat (first|refine zw ?_|refine zkb tok rfl rfl rfl (ypp (f:=tF p g) rfl rfl rfl (zlm _ _ rfl _)) rfl rfl rfl ?_))
   -- ROUND
   have hyn:yxs y=true:=(ycp hc0).2.2.2 y (qab hy);obtain ⟨hlow8,houter⟩:zld (tF8 p g y)=true/\((tF8 p g y).all fun x=>!Nat.beq x.1 12)=true:=⟨rfl,rfl⟩;obtain ⟨flat,hflat⟩:∃ flat,yfp ((p.vars.map fun y=>yap y g ls.length).take j++List.replicate (p.vars.length - j) (0,0))=flat:=⟨_,rfl⟩;have hpart:(((yad p g).take k).map yfp++[yfp ((p.vars.map fun y=>yap y g ls.length).take j++List.replicate (p.vars.length - j) (0,0))])[k]?=some flat:=by
    rw [qai om,htk,qbn,<- hflat];rfl
   have hpl:flat.length=2 * p.vars.length:=by rw [<- hflat,zdt];simp;omega
   have hfin:∀ (a b:Nat),a=j * 2->b=j * 2+1->yac ((fam 12 k,some (.vec ((flat.set a (i64 (yap y g ls.length).1)).set b (i64 (yap y g ls.length).2))))::(fam 12 k,some (.vec (flat.set a (i64 (yap y g ls.length).1))))::(tF8 p g y++ybs 12 2 (((yad p g).take k).map yfp++[yfp ((p.vars.map fun y=>yap y g ls.length).take j++List.replicate (p.vars.length - j) (0,0))]) (List.replicate (g.ids.length - (k+1)) yfj)))=yac (tF8 p g y++ybs 12 2 (((yad p g).take k).map yfp++[yfp ((p.vars.map fun y=>yap y g ls.length).take (j+1)++List.replicate (p.vars.length - (j+1)) (0,0))]) (List.replicate (g.ids.length - (k+1)) yfj)):=by
    rintro _ _ rfl rfl;have e:(flat.set (j * 2) (i64 (yap y g ls.length).1)).set (j * 2+1) (i64 (yap y g ls.length).2)=yfp ((p.vars.map fun y=>yap y g ls.length).take (j+1)++List.replicate (p.vars.length - (j+1)) (0,0)):=by
     rw [<- hflat,zoj so,zxr sm (by rw [qah,hy];rfl)]
    rw [e,yic];refine (zlj hlow8 om hpart (by rw [hpl,zdt];simp;omega)).trans ?_;rw [zxs htk]
   have hcO:ycu (yac (tF8 p g y++ybs 12 2 (((yad p g).take k).map yfp++[yfp ((p.vars.map fun y=>yap y g ls.length).take j++List.replicate (p.vars.length - j) (0,0))]) (List.replicate (g.ids.length - (k+1)) yfj)) 12)=some (yfi 12 2 0 (((yad p g).take k).map yfp++[yfp ((p.vars.map fun y=>yap y g ls.length).take j++List.replicate (p.vars.length - j) (0,0))])++(List.replicate (g.ids.length - (k+1)) yfj)):=by rw [ybt houter];exact ygd _
   have hcell:(yfi 12 2 0 (((yad p g).take k).map yfp++[yfp ((p.vars.map fun y=>yap y g ls.length).take j++List.replicate (p.vars.length - j) (0,0))])++(List.replicate (g.ids.length - (k+1)) yfj))[(k:Int).toNat * 1]?=some (.ls (fam 12 k) 2 p.vars.length):=by
    rw [show ((k:Int).toNat * 1)=k by simp,qam (by rw [yem];simp;omega),yel,hpart];simp only [qar,hpl,qba];congr 2;omega
   have hpne:flat≠[]:=by intro h0;rw [h0] at hpl;simp at hpl;omega
   refine yqf (t':=[(7,i64 j),(8,.lp 8 0),(6,i64 k),(5,.ls 12 1 g.ids.length),(28,i64 j),(27,i64 p.vars.length),(26,.sl 6 (p.vars.map ybq)),(15,i64 k),(14,i64 g.ids.length),(2,.lp 2 0),(3,.lp 3 0)]) (h':=tF8 p g y++ybs 12 2 (((yad p g).take k).map yfp++[yfp ((p.vars.map fun y=>yap y g ls.length).take j++List.replicate (p.vars.length - j) (0,0))]) (List.replicate (g.ids.length - (k+1)) yfj)) ?_ zs (hsE yic);refine zzv [(7,i64 j),(8,.lp 8 0),(6,i64 k),(5,.ls 12 1 g.ids.length),(28,i64 j),(27,i64 p.vars.length),(26,.sl 6 (p.vars.map ybq)),(15,i64 k),(14,i64 g.ids.length),(2,.lp 2 0),(3,.lp 3 0)] (tF8 p g y++ybs 12 2 (((yad p g).take k).map yfp++[yfp ((p.vars.map fun y=>yap y g ls.length).take (j+1)++List.replicate (p.vars.length - (j+1)) (0,0))]) (List.replicate (g.ids.length - (k+1)) yfj)) ?_ fun s2 hs2=>ynu ?_ hs2
   focus
    refine ybx (lf:=lf0) ysy rfl ?_
    refine yee [0,1,2,3,4,5,6,7,8,10,11,12,13,14,15,17,18] 6 (yab rfl (yab rfl (yab rfl (yab rfl (yab rfl (yab rfl (yab rfl (yab rfl (yab rfl (yab rfl (yab rfl (yab rfl (yab rfl (yab rfl (yab rfl (yab rfl (yab rfl yak))))))))))))))))) rfl kf ?_
    repeat' (first
     | refine zo ?_
     | refine yaw tok rfl rfl (by first|exact yaz|exact ylw hlow8 om hpart|exact ybt houter) rfl om om rfl rfl ?_
     | refine yft (r:=.ls (fam 12 k) 2 p.vars.length) tok rfl rfl rfl hcO hcell rfl rfl ?_
     | refine zc (zhj y g k ls hyn hg om (by simpa using hls) om) ?_
     | refine yku tok rfl rfl (by first|(rw [yaz];rfl)|(rw [ylw hlow8 om hpart];rfl)) (by first|exact hpne|(intro h0;exact hpne (by simpa using h0))) rfl dc dc rfl rfl ?_
     | refine ykk tok rfl rfl rfl rfl rfl (by first|exact yaz|exact ylw hlow8 om hpart) (by first|omega|(rw [qfw];omega)) rfl rfl rfl ?_
     | exact ⟨rfl,ybo zs,hsE (hfin _ _ sm sm)⟩
     | exact trivial
     | refine ⟨⟨_,rfl,?_⟩,?_⟩
     | refine yau [16,20,21,22] (yab rfl (yab rfl (yab rfl (yab rfl yak)))) rfl dk ?_
     | refine yau [16,21,22] (yab rfl (yab rfl (yab rfl yak))) rfl dk ?_
     | refine yau [19,21,22] (yab rfl (yab rfl (yab rfl yak))) rfl dk ?_
     | refine yau [20,21,22] (yab rfl (yab rfl (yab rfl yak))) rfl dk ?_
     | refine yau [9,16,20,21,22] (yab rfl (yab rfl (yab rfl (yab rfl (yab rfl yak))))) rfl dk ?_
     | refine yau [9,20,21,22] (yab rfl (yab rfl (yab rfl (yab rfl yak)))) rfl dk ?_
     | refine yaq [16,19,20] _ rfl dk sm ?_
     | refine yaq [9,16,19] _ rfl dk sm ?_
     | refine yaq [19,20] _ rfl dk sm ?_
     | refine yaq [16,19] _ rfl dk sm ?_
     | refine yaq [9,19] _ rfl dk sm ?_)
   refine zY ?_;exact ylb (j+1) om om zs (hsM (f:=tF8 p g y) (f':=tF p g) (yaa rfl (yaa rfl yag)) hlow8 rfl houter)
  simp at h2;obtain rfl:j=p.vars.length:=by omega
  refine zY ?_;refine ylb (k+1) om om zs (hsE ?_);have hrow:(yad p g)[k]?=some (p.vars.map fun y=>yap y g ls.length):=by simp [yad,hls]
  rw [yan hrow];simp [qak]
 simp at h;obtain rfl:k=g.ids.length:=by omega
 refine zk ?_;have e1:(yad p g).take g.ids.length=yad p g:=qak om;have e2:List.replicate (g.ids.length - g.ids.length) yfj=[]:=by simp
 rw [e1,e2];have:=Frz.mat (f:=tF p g) (M:=12) (sz:=2) (rows:=(yad p g).map yfp) (els:=(yad p g).map fun r=>r.map yiv) rfl rfl rfl om (by intro r hr e he;obtain ⟨r0,_,rfl⟩:=qag.1 hr;obtain ⟨q,_,rfl⟩:=qag.1 he;rfl) (n:=g.ids.length) (by simp [htl]) (by simp [yfp,Function.comp_def]);simpa [S,ydl,Function.comp_def] using this
end
section
open Go.RowKit
def zrn (r:Int × Int) (v:Int):Bool:=decide (r.1<=v) && decide (v<=r.2)
def ycf (rs:List (Int × Int)) (vs:List Int):Bool:=vs.length == rs.length && (rs.zip vs).all fun x=>zrn x.1 x.2
theorem yro {β:Type} {m:List β} {a:α} {b:β} (h1:l[k]?=some a) (h2:m[k]?=some b):(l.zip m)[k]?=some (a,b):=by
 rw [qfp];exact ⟨h1,h2⟩
theorem yvf (hx:l[k]?=some x) (h:(l.take k).all f=true) (hf:f x=true):(l.take (k+1)).all f=true:=by
 rw [yan hx,qel,h];simp [hf]
theorem yrt (hx:l[k]?=some x) (hf:f x=false):l.all f=false:=by
 rw [qcd];exact ⟨x,qab hx,by simp [hf]⟩
theorem state_con (rs:List (Int × Int)) (vs:List Int) (hv:vs.length<=1000000):Con prog 157 [.sl 2 (rs.map yiv),yah vs] (yay (ycf rs vs)):=by
 refine ze Tryz.func157 ntmps157 Tryz.results157 ?_;refine zY ?_;refine zj ?_ ?_ <;> intro h
 .refine zk ?_;refine yae ?_;have:vs.length≠rs.length:=by intro e;simp [e] at h
  simp [ycf,this]
 have hl:vs.length=rs.length:=by simp at h;omega
 refine zY ?_;refine ybl (α:=Nat) (fun k=>[(14,i64 k),(13,i64 vs.length),(12,yah vs),(0,.sl 2 (rs.map yiv))]) (fun k=>[]) (fun k=>vs.length - k) (fun k=>k<=vs.length/\((rs.zip vs).take k).all (fun x=>zrn x.1 x.2)=true) 0 ⟨om,rfl⟩ zs zh ?_;intro k ⟨hk,hok⟩;refine zY ?_;refine zj ?_ ?_ <;> intro h1
 .simp at h1;obtain ⟨v,hvk⟩:=ybr (show k < vs.length by omega);obtain ⟨r,hrk⟩:=ybr (show k < rs.length by omega);have hz:=yro hrk hvk;refine zY ?_;refine yam 26 rfl (fun h2=>?_) (fun h2=>?_)
  .refine zk ?_;refine yae ?_;simp at h2;rw [ycf,yrt hz (by simp [zrn];omega),qch]
  refine zY ?_;refine zj ?_ ?_ <;> intro h3
  .refine zk ?_;refine yae ?_;simp at h2 h3;rw [ycf,yrt hz (by simp [zrn];omega),qch]
  refine zY ?_;simp at h2 h3;exact rnd (k+1) ⟨om,yvf hz hok (by simp [zrn];omega)⟩ om zs zh
 simp at h1;obtain rfl:k=vs.length:=by omega
 refine zk ?_;refine yae ?_;rw [qak so] at hok;simp [ycf,hl,hok]
def ybu (tbl:List (List (Int × Int))) (c:List (List Int)):Bool:=c.length == tbl.length && (tbl.zip c).all fun x=>ycf x.1 x.2
def zru (c:List (List Int)):Prop:=c.length<=1000000/\∀ r∈c,r.length<=1000000
theorem within_con (tbl:List (List (Int × Int))) (c:List (List Int)) (hc:zru c) (ht:tbl.length<=1000000):Con prog 91 [ydl tbl,yds c] (yay (ybu tbl c)):=by
 have hcl:=hc.1;refine ze Tryz.func91 ntmps91 Tryz.results91 ?_;refine zY ?_;refine zj ?_ ?_ <;> intro h
 .refine zk ?_;refine yae ?_;have:c.length≠tbl.length:=by intro e;simp [e] at h
  simp [ybu,this]
 have hl:c.length=tbl.length:=by simp at h;omega
 refine zY ?_;refine ybl (α:=Nat) (fun k=>[(14,i64 k),(13,i64 tbl.length),(12,ydl tbl),(1,yds c)]) (fun k=>[]) (fun k=>tbl.length - k) (fun k=>k<=tbl.length/\((tbl.zip c).take k).all (fun x=>ycf x.1 x.2)=true) 0 ⟨om,rfl⟩ zs zh ?_;intro k ⟨hk,hok⟩;refine zY ?_;refine zj ?_ ?_ <;> intro h1
 .simp at h1;obtain ⟨r,hrk⟩:=ybr (show k < tbl.length by omega);obtain ⟨v,hvk⟩:=ybr (show k < c.length by omega);have hz:=yro hrk hvk
  (repeat (first|refine zy ?_|refine zc (state_con r v (hc.2 v (qab hvk))) ?_))
  refine zj ?_ ?_ <;> intro h2
  .refine zk ?_;refine yae ?_;simp at h2;rw [ybu,yrt hz h2,qch]
  refine zY ?_;simp at h2;exact rnd (k+1) ⟨om,yvf hz hok h2⟩ om zs zh
 simp at h1;obtain rfl:k=tbl.length:=by omega
 refine zk ?_;refine yae ?_;rw [qak so] at hok;simp [ybu,hl,hok]
theorem cfg_of_fair (hf:Fair p g):(yad p g).length<=1000000/\∀ r∈yad p g,r.length<=1000:=by
 have h1:=hf.glen.2.1;have h2:=hf.vlen;refine ⟨by simp [yad];omega,fun r hr=>?_⟩;obtain ⟨ls,_,rfl⟩:=qag.1 hr;simpa using h2
def yib (p:ProgD) (g:GraphD) (c:List (List Int)):Int:=if ycn p g=0 then if ybu (yad p g) c=true then 0 else 10 else ycn p g
theorem ziu (p:ProgD) (g:GraphD) (c:List (List Int)) (hf:Fair p g) (hc:zru c):Con prog 42 [yhb p,yfm g,yds c] (i64 (yib p g c)):=by
 refine ze Tryz.func42 ntmps42 Tryz.results42 ?_
 (repeat (first|refine zy ?_|refine zc (zks p g hf) ?_))
 refine zj ?_ ?_ <;> intro h
 .refine zk ?_;have:ycn p g≠0:=by simpa using h
  exact yaf (by simp [yib,this])
 have h0:ycn p g=0:=by simpa using h
 (repeat (first|refine zy ?_|refine zc (yoq p g hf h0) ?_|refine zc (within_con (yad p g) c hc (cfg_of_fair hf).1) ?_))
 refine zj ?_ ?_ <;> intro h1
 .simp at h1;refine zk ?_;exact yaf (by simp [yib,h0,h1])
 simp at h1;refine zk ?_;exact yaf (by simp [yib,h0,h1])
end
section
open Go.RowKit
def yhp:Int->List (Int × Int)->Option Int
 | n,[]=>some n
 | n,r::rs=>if 32768 < n * (r.2 - r.1+1) then none else yhp (n * (r.2 - r.1+1)) rs
theorem yjj:∀ (n:Int) (a b:List (Int × Int)),yhp n (a++b)=(yhp n a).bind fun m=>yhp m b
 | n,[],b=>rfl
 | n,r::rs,b=>by
  simp only [qax,yhp];split
  .rfl
  exact yjj _ rs b
def yci (tbl:List (List (Int × Int))):Int × Int:=match yhp 1 tbl.flatten with
 | some n=>(n,0)
 | none=>(0,3)
def yua (q:Int × Int):Prop:=-1<=q.1/\q.1<=q.2/\q.2<=1000000
def xae (tbl:List (List (Int × Int))):Prop:=tbl.length<=1000/\∀ r∈tbl,r.length<=1000/\∀ q∈r,yua q
theorem xcf {n w:Int} (h1:1<=n) (h2:n<=32768) (h3:1<=w) (h4:w<=1000002):1<=n * w/\n * w<=32768 * 1000002:=
 ⟨by have:=qge h1 h3 om om;simpa using this,qge h2 h4 om om⟩
def xfj (q:Int × Int):AV:=.tup [i64 q.1,i64 q.2]
theorem count_con (tbl:List (List (Int × Int))) (ht:xae tbl):Con prog 44 [ydl tbl] (xfj (yci tbl)):=by
 have htl:=ht.1;refine ze Tryz.func44 ntmps44 Tryz.results44 ?_;refine zY ?_;refine ybl (α:=Nat × Int) (fun q=>[(11,i64 q.1),(10,i64 tbl.length),(9,ydl tbl),(4,i64 q.2)]) (fun q=>[]) (fun q=>tbl.length - q.1) (fun q=>q.1<=tbl.length/\1<=q.2/\q.2<=32768/\yhp 1 (tbl.take q.1).flatten=some q.2) (0,1) ⟨sm,sm,sm,rfl⟩ zs zh ?_;rintro ⟨k,n⟩ ⟨hk,hn1,hn2,hn⟩;simp only at hk hn1 hn2 hn ⊢;refine zY ?_;refine zj ?_ ?_ <;> intro h1
 .simp at h1;obtain ⟨r,hrk⟩:=ybr (show k < tbl.length by omega);obtain ⟨hrl,hrq⟩:=ht.2 r (qab hrk);refine zY ?_;refine ybl (α:=Nat × Int) (fun q=>[(17,i64 q.1),(16,i64 r.length),(15,.sl 2 (r.map yiv)),(4,i64 q.2),(11,i64 k),(10,i64 tbl.length),(9,ydl tbl)]) (fun q=>[]) (fun q=>r.length - q.1) (fun q=>q.1<=r.length/\1<=q.2/\q.2<=32768/\yhp n (r.take q.1)=some q.2) (0,n) ⟨sm,hn1,hn2,rfl⟩ zs zh ?_;rintro ⟨j,m⟩ ⟨hj,hm1,hm2,hm⟩;simp only at hj hm1 hm2 hm ⊢;refine zY ?_;refine zj ?_ ?_ <;> intro h2
  .simp at h2;obtain ⟨q,hqj⟩:=ybr (show j < r.length by omega);obtain ⟨q1,q2,q3⟩:=hrq q (qab hqj);have hbd:=xcf (w:=q.2 - q.1+1) hm1 hm2 om om;refine zY ?_;have hstep:yhp n (r.take (j+1))=yhp m [q]:=by rw [yan hqj,yjj,hm];rfl
   refine zj ?_ ?_ <;> intro h3
   .refine zk ?_;simp at h3;have e:yhp 1 tbl.flatten=none:=by
     have hsplit:tbl.flatten=(tbl.take k).flatten++(r.take (j+1)++(r.drop (j+1)++(tbl.drop (k+1)).flatten)):=by
      conv=>lhs;rw [<- qcg (k+1) tbl,yan hrk]
      rw [qea,qea,qbb];congr 1;rw [<- qbb,qcg];simp
     rw [hsplit,yjj,hn,qed,yjj,hstep];simp [yhp,h3]
    simp only [yci,e];exact Frz.pure
   refine zY ?_;simp at h3;refine rnd (j+1,m * (q.2 - q.1+1)) ⟨by simp only;omega,hbd.1,by simp only;omega,?_⟩ (by simp only;omega) zs zh;rw [hstep];simp only [yhp];rw [if_neg om]
  simp at h2;obtain rfl:j=r.length:=by omega
  refine zY ?_;refine rnd (k+1,m) ⟨by simp only;omega,hm1,hm2,?_⟩ (by simp only;omega) zs zh;rw [qay] at hm;simp only;rw [yan hrk,qea,yjj,hn];simpa using hm
 simp at h1;obtain rfl:k=tbl.length:=by omega
 refine zk ?_;rw [qay] at hn;simp only [yci,hn];exact Frz.pure
theorem ydf (hf:Fair p g) (h0:ycn p g=0):xae (yad p g):=by
 obtain ⟨hc0,hg,hfit⟩:=ycv.1 h0;have hvf:=yba hg;refine ⟨by simp [yad];omega,fun r hr=>?_⟩;obtain ⟨ls,hls,rfl⟩:=qag.1 hr;have hll:=hf.glen.2.2 ls hls;refine ⟨by simpa using hf.vlen,fun q hq=>?_⟩;obtain ⟨y,hy,rfl⟩:=qag.1 hq;have hn:=(ycp hc0).2.2.2 y hy;have hb:=yvl (deg:=ls.length) hn hg om;have hl:=zvn (deg:=ls.length) (hfit y hy) hn om;refine ⟨hb.1,?_,om⟩;by_cases hk:y.kind=3
 .rw [zad hk];simp only;omega
 rw [if_neg hk] at hl;omega
def yhx (p:ProgD) (g:GraphD):Int × Int:=if ycn p g=0 then yci (yad p g) else (0,ycn p g)
theorem mcount_con (p:ProgD) (g:GraphD) (hf:Fair p g):Con prog 65 [yhb p,yfm g] (xfj (yhx p g)):=by
 refine ze Tryz.func65 ntmps65 Tryz.results65 ?_
 (repeat (first|refine zy ?_|refine zc (zks p g hf) ?_))
 refine zj ?_ ?_ <;> intro h
 .refine zk ?_;have:ycn p g≠0:=by simpa using h
  rw [yhx,if_neg this];exact Frz.pure
 have h0:ycn p g=0:=by simpa using h
 (repeat (first|refine zy ?_|refine zc (yoq p g hf h0) ?_|refine zc (count_con (yad p g) (ydf hf h0)) ?_))
 refine zr ?_;rw [yhx,if_pos h0];exact Frz.pure
end
set_option maxHeartbeats 4000000
section
open Go.RowKit
theorem znp {off:Nat} {B:Bse} {ok0:Nat->Prop} {lv:Live} {w:World} {u:Value} (hi:Inv B ok0 h lv w) (hx:h id=some (.cells xs)) (hr:Rel (yax B ok0 lv w) w lv (.lp id off) u) (hp:yar.pureL xs=true) (ok':Nat->Prop) (hk1:∀ g,yax B ok0 lv w g->ok' g) (hk2:∀ b n,lv id=some (some b,n)->ok' b):Rel ok' w (fun _=>none) (.dp xs off) u:=by
 obtain ⟨b,n,h1,rfl,h2⟩:=yho hi (by rw [hx];rfl) (.inr hx) hr;have:=Rel.dp (ok:=ok') (w:=w) (lv:=fun _=>none) (row:=xs) (off:=off) b 0 (fun j=>(w.cell? ⟨b,0+j,none⟩).getD undef) (hk2 b n h1) (fun j c hc=>?_) (fun j c hc=>?_)
 .rwa [qba] at this
 .obtain ⟨q1,v,q2,_⟩:=h2 j c hc;exact ⟨by rw [q2];rfl,q1⟩
 obtain ⟨_,v,q2,q3⟩:=h2 j c hc;rw [q2];exact (q3.relive fun id b n hb _=>by cases hb).keep fun g hg=>⟨hk1 g hg,rfl⟩
theorem Frz.box {off:Nat} (hx:h id=some (.cells xs)) (hp:yar.pureL xs=true):Frz h (.lp id off) (.dp xs off):=
 fun B ok0 lv w u hi hr=>znp hi hx hr hp _ (fun g hg=>⟨hg.1,hg.2.1⟩) fun b n hb=>by obtain ⟨_,_,h1,h2,_⟩:=hi.lvat hb;exact ⟨.inr h1,h2⟩
theorem Frz.fn {h:Nat->Option LObj} {f:Nat} {xs ys:List AV} (hl:xs.length=ys.length) (hf:∀ (i:Nat) (x y:AV),xs[i]?=some x->ys[i]?=some y->Frz h x y):Frz h (.fn f xs) (.fn f ys):=by
 intro B ok0 lv w u hi hr;cases hr with
 | fn vs hvl hrr=>
  refine .fn vs (hvl.trans hl) fun i c v hc hv=>?_;obtain ⟨x,hx⟩:∃ x,xs[i]?=some x:=⟨_,qae (by have:=(qaa.1 hc).1;omega)⟩;exact hf i x c hx hc B ok0 lv w v hi (hrr i x v hx hv)
theorem Frz.fn1 {f:Nat} {x y:AV} (hf:Frz h x y):Frz h (.fn f [x]) (.fn f [y]):=
 Frz.fn rfl fun i a b ha hb=>by
  match i with
  | 0=>simp only [qat,Option.some.injEq] at ha hb;subst ha hb;exact hf
  | i+1=>simp at ha
variable {P:Program} {N:Nat} {t:List (Nat × AV)} {h:List (Nat × Option LObj)}
theorem Sim.freezeBox {B:Bse} {ok0:Nat->Prop} {s:SS} {lv:Live} {a:Act} {w:World} (hs:Sim B ok0 N s lv a w) {d id off:Nat} {xs:List AV} (hd:s.t d=some (.lp id off)) (hx:s.h id=some (.cells xs)) (hp:yar.pureL xs=true)
  {s':SS} (ht:∀ x y,s'.t x=some y->y=.any\/s.t x=some y) (hlt:∀ x y,s'.t x=some y->∃ z,s.t x=some z) (hid:s'.h id=none) (hh:∀ j ob',s'.h j=some ob'->∃ ob,s.h j=some ob/\ylg ob ob'):∃ lv',Sim B ok0 N ⟨yfk s'.t (some d) (.dp xs off),s'.h⟩ lv' a w:=by
 obtain ⟨lv',h1,h2,h3,h4⟩:=hs.forg ht hlt hh;refine ⟨lv',?_⟩;have hdN:=(hs.frame d _ hd).1;have hr:=znp hs.inv hx (hs.frame d _ hd).2 hp (yax B ok0 lv' w) h4 (fun b n hb=>?_)
 .have hrl:Rel (yax B ok0 lv' w) w lv' (.dp xs off) (ydw B a d):=hr.relive fun i b n _ hm=>by simp [ment] at hm
  refine ⟨h1.inv,h1.size,fun x y hy=>?_,h1.defers,h1.big,h1.pin⟩;simp only [yfk] at hy;split at hy
  .rename_i e;subst e;simp only [Option.some.injEq] at hy;subst hy;exact ⟨hdN,hrl⟩
  exact h1.frame x y hy
 obtain ⟨_,_,g1,g2,_⟩:=hs.inv.lvat hb;refine ⟨.inr g1,g2,fun j b' m hj he=>?_⟩;subst he;have:=hs.inv.inj j id b' m n (h2 j _ m hj) hb;subst this;rw [h1.inv.dom j hid] at hj;cases hj
theorem yct {t':List (Nat × AV)} {h':List (Nat × Option LObj)} (d:Nat) {id off:Nat} {xs:List AV} (hd:yaj t d=some (.lp id off)) (hx:yac h id=some (.cells xs)) (hp:yar.pureL xs=true) (ht:yvt id t=some t') (hh:ysx id h=some h') (k:A P N c Q (S ((d,.dp xs off)::t') ((id,none)::h'))):A P N c Q (S t h):=by
 intro B ok0 lv a w hs;obtain ⟨g1,g2⟩:=yhy ht;obtain ⟨lv',hs'⟩:=hs.freezeBox (s':=S t' ((id,none)::h')) hd hx hp (fun x y hy=>(g1 x y hy).imp (fun h=>h) And.left) g2 (by simp [S,yac]) (fun j ob' hj=>by
  simp only [S,yac] at hj
  split at hj
  .cases hj
  exact (ygp hh j ob' hj).2)
 rw [show (⟨yfk (S t' ((id,none)::h')).t (some d) (.dp xs off),(S t' ((id,none)::h')).h⟩:SS)=S ((d,.dp xs off)::t') ((id,none)::h') by unfold S;rw [ydh]] at hs';exact k B ok0 lv' a w hs'
end
end Go.Proofs.YtgpodcjhgdionaaGreatDoor
