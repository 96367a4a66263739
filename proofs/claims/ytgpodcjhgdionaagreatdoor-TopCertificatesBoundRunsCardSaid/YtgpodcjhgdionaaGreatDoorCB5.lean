/- Part 5 of the texts under TopCertificatesBoundRuns. -/
import Derived.Lib.AppendStr
import Derived.Lib.UnsafeStr
import Derived.Lib.Builder
import Derived.Laws.Externs
import Derived.Laws.Pointers
import Derived.LaidEqlPtr
import Derived.RangeFuncNested
import Derived.RangeFuncSeq
import Derived.Test.YtgpodcjhgdionaaGreatDoorCB4
set_option linter.unusedVariables false
namespace Go.Proofs.YtgpodcjhgdionaaGreatDoor
open Go.Proofs.Tryz
variable {hs':List (Nat × Option LObj)} {sg:List (Nat × Nat)} {h:Nat->Option LObj} {ok0:Nat->Prop} {ats:Array TypeId} {args:List Operand} {w W1 w':World} {ids:List Nat} {lv lv':Live} {caps xs:List AV} {g:Operand} {pin:Nat->Option Nat} {t0:List (Nat × AV)} {f:FuncId} {dl:List Deferred} {B:Bse} {σ:Nat->Nat} {Q:Exit->SS->Prop} {rd:Option Nat} {gv:Nat->Value} {i l b n:Nat} {o:Oper} {P:Program} {r:AV} {s:SS}
section
open Go.RowKit
variable {x:LObj}
def yfg (σ:Nat->Nat):AV->AV
 | .lp id off=>.lp (σ id) off
 | .ls id s n=>.ls (σ id) s n
 | .mp id=>.mp (σ id)
 | .agg cs=>.agg (renL cs)
 | .tup cs=>.tup (renL cs)
 | .fn f cs=>.fn f (renL cs)
 | .fm f cs=>.fm f (renL cs)
 | x=>x
 where renL:List AV->List AV
 | []=>[]
 | c::cs=>yfg σ c::renL cs
theorem ycs (σ:Nat->Nat):∀ cs,yfg.renL σ cs=cs.map (yfg σ)
 | []=>rfl
 | c::cs=>by simp [yfg.renL,ycs σ cs]
def yen (ids:List Nat):AV->Bool
 | .lp id _=>ids.contains id
 | .ls id _ _=>ids.contains id
 | .mp id=>ids.contains id
 | .agg cs=>onlyL cs
 | .tup cs=>onlyL cs
 | .fn _ cs=>onlyL cs
 | .fm _ cs=>onlyL cs
 | _=>true
 where onlyL:List AV->Bool
 | []=>true
 | c::cs=>yen ids c && onlyL cs
def zce (σ:Nat->Nat):LObj->LObj
 | .cells xs=>.cells (yfg.renL σ xs)
 | .tcells e xs=>.tcells e (yfg.renL σ xs)
 | .mcells xs=>.mcells (yfg.renL σ xs)
 | o=>o
def ypg (ids:List Nat):LObj->Bool
 | .cells xs=>yen.onlyL ids xs
 | .tcells _ xs=>yen.onlyL ids xs
 | .mcells xs=>yen.onlyL ids xs
 | _=>true
theorem yjq (σ:Nat->Nat) (x:AV):yea (yfg σ x)=yea x:=by cases x <;> rfl
section
variable {ok:Nat->Prop} {w:World} {lv lv1:Live} {σ:Nat->Nat}
theorem Rel.unren (hl:∀ id b n,lv1 id=some (b,n)->lv (σ id)=some (b,n)):∀ {x:AV} {u:Value},Rel ok w lv (yfg σ x) u->Rel ok w lv1 x u
 | .v _,u,h=>by cases h;exact .v _
 | .any,u,h=>.any u
 | .one,u,h=>by cases h with|one _ h1=>exact .one _ h1
 | .sl s rows,u,h=>by cases h with|sl a cap u g o hn hc ha hr hg hcell hrel=>exact .sl a cap u g o hn hc ha hr hg hcell hrel
 | .dp row off,u,h=>by cases h with|dp g o u hg hcell hrel=>exact .dp g o u hg hcell hrel
 | .mv es,u,h=>by cases h with|mv b hg hm=>exact .mv b hg hm
 | .lp id off,u,h=>by cases h with|lp _ h1 h2=>exact .lp _ h1 fun b n hb=>h2 b n (hl id _ n hb)
 | .ls id s n,u,h=>by cases h with|ls _ h1 h2=>exact .ls _ h1 fun b n hb=>h2 b n (hl id _ n hb)
 | .mp id,u,h=>by cases h with|mp _ h1 h2=>exact .mp _ h1 fun b n hb=>h2 b n (hl id _ n hb)
 | .agg cs,u,h=>by
  cases h with
  | agg vs hlen hc hr=>
   exact .agg vs (by rw [hlen,ycs];simp) (fun c hm=>by rw [<- yjq σ];exact hc _ (by rw [ycs];exact qcz hm)) (rows hr)
 | .tup cs,u,h=>by
  cases h with
  | tup vs hlen hr=>exact .tup vs (by rw [hlen,ycs];simp) (rows hr)
 | .fn f cs,u,h=>by
  cases h with
  | fn vs hlen hr=>exact .fn vs (by rw [hlen,ycs];simp) (rows hr)
 | .fm f cs,u,h=>by
  cases h with
  | fm vs hlen hr=>exact .fm vs (by rw [hlen,ycs];simp) (rows hr)
 where rows:∀ {cs:List AV} {vs:List Value},(∀ (i:Nat) (c:AV) (u:Value),(yfg.renL σ cs)[i]?=some c->vs[i]?=some u->Rel ok w lv c u)->∀ (i:Nat) (c:AV) (u:Value),cs[i]?=some c->vs[i]?=some u->Rel ok w lv1 c u
 | [],vs,_,i,c,u,hc,_=>by simp at hc
 | d::cs,[],_,i,c,u,_,hu=>by simp at hu
 | d::cs,q::vs,h,0,c,u,hc,hu=>by
  simp at hc hu;subst hc hu;exact Rel.unren hl (h 0 _ _ rfl rfl)
 | d::cs,q::vs,h,i+1,c,u,hc,hu=>rows (fun j c u h1 h2=>h (j+1) c u (by simpa [yfg.renL] using h1) (by simpa using h2)) i c u (by simpa using hc) (by simpa using hu)
theorem Rel.ren {ids:List Nat} (hl:∀ id b n,id∈ids->lv (σ id)=some (b,n)->lv1 id=some (b,n)):∀ {x:AV} {u:Value},yen ids x=true->Rel ok w lv1 x u->Rel ok w lv (yfg σ x) u
 | .v _,u,_,h=>by cases h;exact .v _
 | .any,u,_,h=>.any u
 | .one,u,_,h=>by cases h with|one _ h1=>exact .one _ h1
 | .sl s rows,u,_,h=>by cases h with|sl a cap u g o hn hc ha hr hg hcell hrel=>exact .sl a cap u g o hn hc ha hr hg hcell hrel
 | .dp row off,u,_,h=>by cases h with|dp g o u hg hcell hrel=>exact .dp g o u hg hcell hrel
 | .mv es,u,_,h=>by cases h with|mv b hg hm=>exact .mv b hg hm
 | .lp id off,u,ho,h=>by cases h with|lp _ h1 h2=>exact .lp _ h1 fun b n hb=>h2 b n (hl id _ n (by simpa [yen] using ho) hb)
 | .ls id s n,u,ho,h=>by cases h with|ls _ h1 h2=>exact .ls _ h1 fun b n hb=>h2 b n (hl id _ n (by simpa [yen] using ho) hb)
 | .mp id,u,ho,h=>by cases h with|mp _ h1 h2=>exact .mp _ h1 fun b n hb=>h2 b n (hl id _ n (by simpa [yen] using ho) hb)
 | .agg cs,u,ho,h=>by
  cases h with
  | agg vs hlen hc hr=>
   refine .agg vs (by rw [hlen,ycs];simp) (fun c hm=>?_) (rows ho hr);rw [ycs] at hm;obtain ⟨y,hy,rfl⟩:=qag.1 hm;rw [yjq];exact hc y hy
 | .tup cs,u,ho,h=>by
  cases h with
  | tup vs hlen hr=>exact .tup vs (by rw [hlen,ycs];simp) (rows ho hr)
 | .fn f cs,u,ho,h=>by
  cases h with
  | fn vs hlen hr=>exact .fn vs (by rw [hlen,ycs];simp) (rows ho hr)
 | .fm f cs,u,ho,h=>by
  cases h with
  | fm vs hlen hr=>exact .fm vs (by rw [hlen,ycs];simp) (rows ho hr)
 where rows:∀ {cs:List AV} {vs:List Value},yen.onlyL ids cs=true->(∀ (i:Nat) (c:AV) (u:Value),cs[i]?=some c->vs[i]?=some u->Rel ok w lv1 c u)->∀ (i:Nat) (c:AV) (u:Value),(yfg.renL σ cs)[i]?=some c->vs[i]?=some u->Rel ok w lv c u
 | [],vs,_,_,i,c,u,hc,_=>by simp [yfg.renL] at hc
 | d::cs,[],_,_,i,c,u,_,hu=>by simp at hu
 | d::cs,q::vs,ho,h,0,c,u,hc,hu=>by
  simp only [yen.onlyL,qac] at ho;simp [yfg.renL] at hc hu;subst hc hu;exact Rel.ren hl ho.1 (h 0 _ _ rfl rfl)
 | d::cs,q::vs,ho,h,i+1,c,u,hc,hu=>by
  simp only [yen.onlyL,qac] at ho;exact rows ho.2 (fun j c u h1 h2=>h (j+1) c u (by simpa using h1) (by simpa using h2)) i c u (by simpa [yfg.renL] using hc) (by simpa using hu)
end
def ybw (lv:Live) (b:Nat):Prop:=∃ id n,lv id=some (some b,n)
def yfb (w:World) (lv:Live):Bse:=⟨w,ybw lv,fun _=>none,none,[],fun _=>undef⟩
def yot (P:Program) (f:FuncId) (args:List AV) (hs:Nat->Option LObj) (r:AV) (hs':Nat->Option LObj):Prop:=
 ylh P f/\(∀ id o,hs' id=some o->isC o=true->∃ o',hs id=some o'/\isC o'=true)/\∀ (ok0:Nat->Prop) (lv:Live) (w:World) (us:List Value),Inv (yfb w lv) ok0 hs lv w->ybm (yax (yfb w lv) ok0 lv w) w lv args us ->
  Calls P f us.toArray w fun e w'=>∃ u lv',e=.returned u/\Rel (yax (yfb w lv) ok0 lv' w') w' lv' r u/\Inv (yfb w lv) ok0 hs' lv' w'/\∀ id o,hs' id=some o->isC o=true->∃ b n n',lv id=some (some b,n)/\lv' id=some (some b,n')
theorem Inv.pinned (hi:Inv B ok0 h lv w) (p:Nat->Option Nat) (rd:Option Nat) (dl:List Deferred) (gv:Nat->Value) (hrd:∀ l,rd=some l->(∃ r,B.w.heap[l]?=some (.loop r))/\¬ B.lent l):Inv ⟨B.w,B.lent,p,rd,dl,gv⟩ ok0 h lv w:=
 ⟨⟨hi.base.os,hi.base.tape,hi.base.output,hi.base.size,hi.base.block,hi.base.glob,hi.base.gsize,hi.base.lentG,hrd⟩,hi.ok0lt,hi.dom,hi.inj,fun id x hx=>by
  obtain ⟨b,n,h1,h2⟩:=hi.obj id x hx
  refine ⟨b,n,h1,?_⟩
  cases b with
  | none=>exact h2
  | some b=>exact h2⟩
def zzw (T:Nat->Option Ty) (rs:List ResultVar) (r:AV) (hs':Nat->Option LObj):Exit->SS->Prop
 | .normal,s=>∃ x,yrh T s rs=some x/\Wk x r/\∀ id o,hs' id=some o->s.h id=some o
 | .ret,s=>∃ x,yrh T s rs=some x/\Wk x r/\∀ id o,hs' id=some o->s.h id=some o
 | _,_=>False
theorem ynh {T:Nat → Option Ty} (hT : TOK P T) {fn:Func} {c:Code} {N:Nat} {rs:List ResultVar} {args:List AV} {hs hs':Nat → Option LObj} (hf : P.funcs[f]? = some fn) (hn : (fn.name == "runtime.NumGoroutine") = false) (hb : fn.body = some c) (hN : fn.ntmps = N) (hrs : fn.results = rs.toArray) (hlen : (Nat.ble args.length N && Nat.ble N 1000000) = true) (hcl:∀ id o,hs' id=some o→isC o=true→N≤id∧∃ o',hs id=some o'∧isC o'=true) (h:A P N c (zzw T rs r hs') ⟨yaj (yfn 0 args),hs⟩):yot P f args hs r hs':=by
 refine ⟨⟨fn,hf,hn,by simp [hb]⟩,fun id o hx hc=>(hcl id o hx hc).2,fun ok0 lv w us hi hus=>?_⟩;simp only [qac,qdj] at hlen;obtain ⟨hlen',hbig⟩:=hlen;refine (callsIn_wide (n:=0)).1 (callsIn_of_wp_marks hf hb trivial ?_);have hsim:Sim ⟨w,ybw lv,fun id=>(lv id).bind (·.1),none,[],fun _=>undef⟩ ok0 N ⟨yaj (yfn 0 args),hs⟩ lv { tmps:=us.toArray++Array.replicate (fn.ntmps - us.toArray.size) undef,defers:=[] } w:=by
  refine ⟨hi.pinned _ _ _ _ (fun l h=>by cases h),?_,fun x y hy=>?_,⟨[],rfl,qdp,fun d hd=>by cases hd⟩,hbig,fun id b o hN hx hc hb=>?_⟩
  .simp [hN,hus.1];omega
  .simp only [ykw] at hy;have hlt:=(qaa.1 hy).1;refine ⟨.inl om,?_⟩;rw [ydw,if_pos om];obtain ⟨u,hu⟩:∃ u,us[x]?=some u:=⟨_,qae (by rw [hus.1];exact hlt)⟩;simp only [yej us _ x u hu];exact hus.2 x y u hy hu
  simp only at hb;cases hl:lv id with
  | none=>simp [hl] at hb
  | some q=>obtain ⟨q1,q2⟩:=q;simp [hl] at hb;subst hb;exact ⟨q2,rfl⟩
 refine wpIn_mono (h _ ok0 _ _ w hsim) fun e a' w' ⟨s',lv',hq,hs2⟩=>?_;have fin:∀ x,yrh T s' rs=some x->Wk x r->(∀ id o,hs' id=some o->s'.h id=some o)->∀ (a':Act) (w':World),Sim ⟨w,ybw lv,fun id=>(lv id).bind (·.1),none,[],fun _=>undef⟩ ok0 N s' lv' a' w'->∃ v,(results fn a'.tmps).run P w'=.ok v w'/\∃ u lv2,Ending.returned v=.returned u/\Rel (yax (yfb w lv) ok0 lv2 w') w' lv2 r u/\Inv (yfb w lv) ok0 hs' lv2 w'/\∀ id o,hs' id=some o->isC o=true->∃ b n n',lv id=some (some b,n)/\lv2 id=some (some b,n'):=by
  intro x hx hwk hsub a' w' hs2;obtain ⟨u,hu,hrun⟩:=yri (P:=P) hT hs2 hrs hx;obtain ⟨lv2,i1,i2,i3⟩:=hs2.inv.weak hsub;refine ⟨u,hrun,u,lv2,rfl,hwk.rel _ _ _ _ ((hu.relive fun id b n hb _=>i2 id b n hb).keep fun g hg=>⟨i3 g hg,rfl⟩),i1.pinned _ _ _ _ (fun l h=>by cases h),fun id o hx hc=>?_⟩;obtain ⟨h1,o',hy,hc'⟩:=hcl id o hx hc;obtain ⟨b,n,hb,ho⟩:=hi.obj id _ hy;cases b with
  | none=>simp only [ygb] at ho;rcases ho with rfl|⟨e,rfl⟩ <;> cases hc'
  | some b=>
   obtain ⟨n',hn'⟩:=hs2.pin id b o h1 (hsub id _ hx) hc (by simp [hb]);obtain ⟨b2,n2,hb2,_⟩:=i1.obj id _ hx;have:=i2 id b2 n2 hb2;rw [hn'] at this;cases this;exact ⟨b,n,_,hb,hb2⟩
 cases e with
 | normal=>obtain ⟨x,hx,h1,h2⟩:=hq;exact ycj rfl rfl (fin x hx h1 h2) _ a' w' rfl hs2
 | ret=>obtain ⟨x,hx,h1,h2⟩:=hq;exact ycj rfl rfl (fin x hx h1 h2) _ a' w' rfl hs2
 | _=>exact hq.elim
theorem yhl.unren {ok ok':Nat->Prop} {lv1:Live} (hl:∀ id b n,lv1 id=some (b,n)->lv (σ id)=some (b,n)) (hk:∀ g,ok g->ok' g) (h:yhl ok lv w b n (zce σ x)):yhl ok' lv1 w b n x:=by
 cases x with
 | cells xs=>
  obtain ⟨c,e,g1,g2,g3,g4,g5⟩:=h;rw [ycs] at g3 g4 g5;refine ⟨c,e,g1,g2,by simpa using g3,fun y hy=>by rw [<- yjq σ];exact g4 _ (qcz hy),fun j y u hy hu=>?_⟩;exact (Rel.unren hl (g5 j (yfg σ y) u (by simp [hy]) hu)).keep fun g hg=>⟨hk g hg,rfl⟩
 | vec xs=>
  obtain ⟨⟨c,e,g1,g2,g3,g4,g5⟩,hp⟩:=h;exact ⟨⟨c,e,g1,g2,g3,g4,fun j y u hy hu=>((g5 j y u hy hu).relive fun id b n _ hm=>by rw [yar.ment (hp y (qab hy))] at hm;cases hm).keep fun g hg=>⟨hk g hg,rfl⟩⟩,hp⟩
 | map es=>exact h
 | iter es left cur=>exact ytc.keep h (fun g hg=>⟨hk g hg,rfl⟩) rfl
 | siter s pos=>exact h
 | tcells e xs=>
  obtain ⟨⟨c,e',g1,g2,g3,g4,g5⟩,hsh⟩:=h;rw [ycs] at g3 g4 g5 hsh;exact ⟨⟨c,e',g1,g2,by simpa using g3,fun y hy=>by rw [<- yjq σ];exact g4 _ (qcz hy),fun j y u hy hu=>(Rel.unren hl (g5 j (yfg σ y) u (by simp [hy]) hu)).keep fun g hg=>⟨hk g hg,rfl⟩⟩,by simpa using hsh⟩
 | tvec e xs=>
  obtain ⟨⟨c,e',g1,g2,g3,g4,g5⟩,hp,hsh⟩:=h;exact ⟨⟨c,e',g1,g2,g3,g4,fun j y u hy hu=>((g5 j y u hy hu).relive fun id b n _ hm=>by rw [yar.ment (hp y (qab hy))] at hm;cases hm).keep fun g hg=>⟨hk g hg,rfl⟩⟩,hp,hsh⟩
 | mcells xs=>
  obtain ⟨c,e,g1,g2,g3,g4,g5⟩:=h;rw [ycs] at g3 g4 g5;refine ⟨c,e,g1,g2,by simpa using g3,fun y hy=>by rw [<- yjq σ];exact g4 _ (qcz hy),fun j y u hy hu=>?_⟩;exact (Rel.unren hl (g5 j (yfg σ y) u (by simp [hy]) hu)).keep fun g hg=>⟨hk g hg,rfl⟩
theorem yhl.ren {ok ok':Nat->Prop} {lv1:Live} (hl:∀ id b n,id∈ids->lv (σ id)=some (b,n)->lv1 id=some (b,n)) (ho:ypg ids x=true) (hk:∀ g,ok g->ok' g) (h:yhl ok lv1 w b n x):yhl ok' lv w b n (zce σ x):=by
 cases x with
 | cells xs=>
  obtain ⟨c,e,g1,g2,g3,g4,g5⟩:=h;refine ⟨c,e,g1,g2,by rw [ycs];simpa using g3,fun y hy=>?_,fun j y u hy hu=>?_⟩
  .rw [ycs] at hy;obtain ⟨z,hz,rfl⟩:=qag.1 hy;rw [yjq];exact g4 z hz
  exact (Rel.ren.rows (vs:=c.toList) hl ho (fun j y u hy hu=>g5 j y u hy (by simpa using hu)) j y u hy (by simpa using hu)).keep fun g hg=>⟨hk g hg,rfl⟩
 | vec xs=>
  obtain ⟨⟨c,e,g1,g2,g3,g4,g5⟩,hp⟩:=h;exact ⟨⟨c,e,g1,g2,g3,g4,fun j y u hy hu=>((g5 j y u hy hu).relive fun id b n _ hm=>by rw [yar.ment (hp y (qab hy))] at hm;cases hm).keep fun g hg=>⟨hk g hg,rfl⟩⟩,hp⟩
 | map es=>exact h
 | iter es left cur=>exact ytc.keep h (fun g hg=>⟨hk g hg,rfl⟩) rfl
 | siter s pos=>exact h
 | tcells e xs=>
  obtain ⟨⟨c,e',g1,g2,g3,g4,g5⟩,hsh⟩:=h;refine ⟨⟨c,e',g1,g2,by rw [ycs];simpa using g3,fun y hy=>?_,fun j y u hy hu=>?_⟩,by rw [ycs];simpa using hsh⟩
  .rw [ycs] at hy;obtain ⟨z,hz,rfl⟩:=qag.1 hy;rw [yjq];exact g4 z hz
  exact (Rel.ren.rows (vs:=c.toList) hl ho (fun j y u hy hu=>g5 j y u hy (by simpa using hu)) j y u hy (by simpa using hu)).keep fun g hg=>⟨hk g hg,rfl⟩
 | tvec e xs=>
  obtain ⟨⟨c,e',g1,g2,g3,g4,g5⟩,hp,hsh⟩:=h;exact ⟨⟨c,e',g1,g2,g3,g4,fun j y u hy hu=>((g5 j y u hy hu).relive fun id b n _ hm=>by rw [yar.ment (hp y (qab hy))] at hm;cases hm).keep fun g hg=>⟨hk g hg,rfl⟩⟩,hp,hsh⟩
 | mcells xs=>
  obtain ⟨c,e,g1,g2,g3,g4,g5⟩:=h;refine ⟨c,e,g1,g2,by rw [ycs];simpa using g3,fun y hy=>?_,fun j y u hy hu=>?_⟩
  .rw [ycs] at hy;obtain ⟨z,hz,rfl⟩:=qag.1 hy;rw [yjq];exact g4 z hz
  exact (Rel.ren.rows (vs:=c.toList) hl ho (fun j y u hy hu=>g5 j y u hy (by simpa using hu)) j y u hy (by simpa using hu)).keep fun g hg=>⟨hk g hg,rfl⟩
theorem zcg (σ:Nat->Nat) (x:LObj):isC (zce σ x)=isC x:=by cases x <;> rfl
theorem zxg (h:zce σ x=.vec []\/∃ e,zce σ x=.tvec e []):x=.vec []\/∃ e,x=.tvec e []:=by
 cases x <;> simp_all [zce]
def xit (P:Program) (f:FuncId) (args:List AV) (hs:Nat->Option LObj) (r:AV) (hs':Nat->Option LObj) (kp:List Nat):Prop:=
 ylh P f/\(∀ id o,hs' id=some o->isC o=true->∃ o',hs id=some o'/\isC o'=true)/\∀ (ok0:Nat->Prop) (lv:Live) (w:World) (us:List Value),Inv (yfb w lv) ok0 hs lv w->ybm (yax (yfb w lv) ok0 lv w) w lv args us ->
  Calls P f us.toArray w fun e w'=>∃ u lv',e=.returned u/\Rel (yax (yfb w lv) ok0 lv' w') w' lv' r u/\Inv (yfb w lv) ok0 hs' lv' w'/\(∀ id o,hs' id=some o->isC o=true->∃ b n n',lv id=some (some b,n)/\lv' id=some (some b,n')) /\
   ∀ i∈kp,∀ x v,args[i]?=some x->us[i]?=some v->Rel (yax (yfb w lv) ok0 lv' w') w' lv' x v
theorem yot.toG {args:List AV} {hs hs':Nat->Option LObj} (h:yot P f args hs r hs'):xit P f args hs r hs' []:=
 ⟨h.1,h.2.1,fun ok0 lv w us hi hus=>(h.2.2 ok0 lv w us hi hus).mono fun e w' ⟨u,lv',h1,h2,h3,h4⟩=>⟨u,lv',h1,h2,h3,h4,fun i hi=>by cases hi⟩⟩
def xeo (σ:Nat->Nat) (ids:List Nat) (hm':Nat->Option LObj) (y:AV):Prop:=∃ f cs,y=.fn f cs/\∀ c∈cs,∃ i∈ids,∃ off o,c=.lp (σ i) off/\hm' i=some o/\isC o=true
def xfs (σ:Nat->Nat) (ids:List Nat) (hm':Nat->Option LObj) (y:AV):Prop:=(∀ i∈ids,ment (σ i) y=false)\/∃ i∈ids,∃ off o,(y=.lp (σ i) off\/∃ f,y=.fm f [.lp (σ i) off])/\hm' i=some o/\isC o=true
set_option maxHeartbeats 4000000
section
variable {P:Program} {N:Nat}
def yzw (y:Option AV) (f:FuncId) (caps:List AV) (args:List Operand):Prop:=y=some (.fn f caps)\/(y=some (.fm f caps)/\args=[])
theorem callee_run {ok0:Nat->Prop} {a:Act} (hs:Sim B ok0 N s lv a w) (ho:o.op=.call { callee:=.value g,args:=args.toArray,argTypes:=ats }) (hb:ylh P f) (hg:yzw (evF s.t g) f caps args):
  ∃ vs:List Value,vs.length=caps.length/\(∀ (i:Nat) (c:AV) (u:Value),caps[i]?=some c->vs[i]?=some u->Rel (yax B ok0 lv w) w lv c u)/\(execOp a.eval o).run P w=.ok (.enter f (args.map a.eval++vs).toArray) w:=by
 rcases hg with hg|⟨hg,rfl⟩
 .have hfr:=hs.eval hg;generalize hv:a.eval g=v at hfr;cases hfr with
  | fn vs hl hrc=>
  refine ⟨vs,hl,hrc,?_⟩;unfold execOp;simp only [ho,resolve,Deferred.ofValue,hv,Sem.run_bind,Sem.run_pure,Result.andThen_ok,invoke];rw [ygl hb];simp
 have hfr:=hs.eval hg;generalize hv:a.eval g=v at hfr;cases hfr with
 | fm vs hl hrc=>
 refine ⟨vs,hl,hrc,?_⟩;unfold execOp;simp only [ho,resolve,Deferred.ofValue,hv,Sem.run_bind,Sem.run_pure,Result.andThen_ok,invoke];rw [ygl hb];simp
theorem yyg {args0:List AV} {hm hm':Nat->Option LObj} {σ:Nat->Nat} {ids:List Nat} {d:Nat} {s2:SS} (ho:o.op=.call { callee:=.value g,args:=args.toArray,argTypes:=ats }) (hd:o.dst=some d) (hdN:d < N) (hg:yzw (evF s.t g) f caps args) (hx:evL (evF s.t) args=some xs) (hargs:xs++caps=args0.map (yfg σ)) {kp:List Nat} (hc:xit P f args0 hm r hm' kp) (hinj:∀ i∈ids,∀ j∈ids,σ i=σ j->i=j) (hdom:∀ id,(hm id).isSome->id∈ids) (hdom':∀ id,(hm' id).isSome->id∈ids) (hmem:∀ id o,hm id=some o->s.h (σ id)=some (zce σ o)) (hr:yen ids r=true) (hro:∀ id o,hm' id=some o->ypg ids o=true) (ht:∀ x y,s2.t x=some y->(x=d/\y=yfg σ r)\/(x≠d/\((y=.any/\∃ z,s.t x=some z)\/(s.t x=some y/\(xfs σ ids hm' y\/(∃ i∈kp,∃ id sz len,0 < sz/\(hm id).isSome/\args0[i]?=some (.ls id sz len)/\y=.ls (σ id) sz len)\/xeo σ ids hm' y))))) (hh1:∀ i∈ids,s2.h (σ i)=(hm' i).map (zce σ)) (hh2:∀ j ob',(∀ i∈ids,σ i≠j)->s2.h j=some ob'->((∀ i∈ids,yeb (σ i) ob'=false)/\∃ ob,s.h j=some ob/\ylg ob ob')\/(s.h j=some ob'/\∃ xs,ob'=.cells xs/\∀ x∈xs,xfs σ ids hm' x\/(∃ i∈kp,∃ id sz len,0 < sz/\(hm id).isSome/\args0[i]?=some (.ls id sz len)/\x=.ls (σ id) sz len)\/xeo σ ids hm' x)):yco P N o s (·=s2):=by
 intro B ok0 lv a w hs Q;have har:=yug (a:=a) args xs (fun x y _ hxy=>hs.eval hxy) hx;obtain ⟨vs,hl,hrc,hrun⟩:=callee_run hs ho hc.1 hg
 let lv1:Live:=fun id=>if id∈ids/\(hm id).isSome then lv (σ id) else none
 have hl1:∀ id b n,lv1 id=some (b,n)->id∈ids/\(hm id).isSome/\lv (σ id)=some (b,n):=by
  intro id b n hb;simp only [lv1] at hb;split at hb
  .rename_i h;exact ⟨h.1,h.2,hb⟩
  cases hb
 have hl2:∀ id b n,lv1 id=some (b,n)->lv (σ id)=some (b,n):=fun id b n h=>(hl1 id b n h).2.2;have hmine:∀ b,ybw lv1 b->B.mine b/\b < w.heap.size/\∃ i∈ids,∃ n,lv (σ i)=some (some b,n):=by
  rintro b ⟨id,n,hb⟩;obtain ⟨h1,h2,h3⟩:=hl1 id _ n hb;obtain ⟨_,_,h4,h5,_⟩:=hs.inv.lvat h3;exact ⟨h4,h5,id,h1,n,h3⟩
 have hok1:∀ g,yax B ok0 lv w g->yax (yfb w lv1) (yax B ok0 lv w) lv1 w g:=fun g hg=>⟨.inl hg,hg.2.1,fun id b n hb=>hg.2.2 (σ id) b n (hl2 id _ n hb)⟩;have hinv:Inv (yfb w lv1) (yax B ok0 lv w) hm lv1 w:=by
  refine ⟨⟨rfl,rfl,rfl,qbh _,fun _ _ _=>rfl,hs.inv.base.glob,hs.inv.base.glob.size,fun k hk=>hs.inv.base.mineG (hmine k hk).1,fun l h=>by cases h⟩,fun g hg=>hg.2.1,fun id hid=>by simp [lv1,hid],fun i j b n m h1 h2=>?_,fun id x hx=>?_⟩
  .obtain ⟨q1,_,q2⟩:=hl1 _ _ _ h1;obtain ⟨r1,_,r2⟩:=hl1 _ _ _ h2;exact hinj i q1 j r1 (hs.inv.inj _ _ b n m q2 r2)
  obtain ⟨b,n,h1,h2⟩:=hs.inv.obj (σ id) _ (hmem id x hx);have hlv:lv1 id=some (b,n):=by simp [lv1,hdom id (by simp [hx]),hx,h1]
  refine ⟨b,n,hlv,?_⟩;cases b with
  | none=>exact zxg h2
  | some b=>exact ⟨.inl ⟨id,n,hlv⟩,h2.2.1,yhl.unren hl2 hok1 h2.2.2⟩
 have hall:ybm (yax (yfb w lv1) (yax B ok0 lv w) lv1 w) w lv1 args0 (args.map a.eval++vs):=by
  have hlen:(args.map a.eval++vs).length=args0.length:=by
   have:=congrArg List.length hargs;simp only [qao,qal] at this ⊢;have:=har.1;simp at this;omega
  refine ⟨hlen,fun i x u hx hu=>?_⟩;have hxi:(xs++caps)[i]?=some (yfg σ x):=by rw [hargs];simp [hx]
  have hrel:Rel (yax B ok0 lv w) w lv (yfg σ x) u:=by
   by_cases hlt:i < xs.length
   .rw [qam hlt] at hxi;rw [qam (by rw [har.1];exact hlt)] at hu;exact har.2 i _ u hxi hu
   rw [qai om] at hxi;rw [qai (by rw [har.1];omega),har.1] at hu;exact hrc _ _ u hxi hu
  exact (Rel.unren hl2 hrel).keep fun g hg=>⟨hok1 g hg,rfl⟩
 unfold Oper.wp;rw [hrun];refine (hc.2.2 (yax B ok0 lv w) lv1 w (args.map a.eval++vs) hinv hall).mono fun e w' ⟨u,lv3,he,hu,hi3,hpin,hkp⟩=>?_;subst he;simp only [hd];have hb3:=hi3.base
 -- the blocks that are not lent stay
 have hstay:∀ k,k < w.heap.size->(∀ i∈ids,∀ n,lv (σ i)≠some (some k,n))->w'.heap[k]?=w.heap[k]?:=by
  intro k hk hn;exact hb3.block k hk fun hlent=>by
   obtain ⟨_,_,i,hi,n,hn'⟩:=hmine k hlent;exact hn i hi n hn'
 have hsz:w.heap.size<=w'.heap.size:=hb3.size;have hmine3:∀ id b n,lv3 id=some (some b,n)->B.mine b/\b < w'.heap.size/\(w.heap.size<=b\/∃ i∈ids,∃ n,lv (σ i)=some (some b,n)):=by
  intro id b n hb;obtain ⟨_,_,q1,q2,_⟩:=hi3.lvat hb;rcases q1 with q1|q1
  .have:=hmine b q1;exact ⟨this.1,q2,.inr this.2.2⟩
  exact ⟨.inr (qbp hs.inv.base.size q1),q2,.inl q1⟩
 have hid3:∀ id b n,lv3 id=some (b,n)->id∈ids:=fun id b n hb=>by
  cases hq:hm' id with
  | none=>rw [hi3.dom id hq] at hb;cases hb
  | some o=>exact hdom' id (by simp [hq])
 let find:Nat->Option Nat:=fun j=>ids.find? fun i=>σ i == j
 have hf1:∀ j i,find j=some i->i∈ids/\σ i=j:=fun j i h=>⟨qeu h,by simpa using List.find?_some h⟩;have hf2:∀ i∈ids,find (σ i)=some i:=fun i hi=>by
  cases hq:find (σ i) with
  | none=>
   have:=qdr.1 hq i hi;simp at this
  | some k=>obtain ⟨h1,h2⟩:=hf1 _ _ hq;rw [hinj k h1 i hi h2]
 have hf3:∀ j,find j=none->∀ i∈ids,σ i≠j:=fun j h i hi e=>by
  have:=qdr.1 h i hi;simp [e] at this
 let lv2:Live:=fun j=>match find j with
  | some i=>lv3 i
  | none=>if (s2.h j).isSome then lv j else none
 have hlv2a:∀ i∈ids,lv2 (σ i)=lv3 i:=fun i hi=>by simp only [lv2,hf2 i hi]
 have hlv2b:∀ j,(∀ i∈ids,σ i≠j)->∀ b n,lv2 j=some (b,n)->lv j=some (b,n)/\(s2.h j).isSome:=by
  intro j hj b n hb;have hn:find j=none:=by
   cases hq:find j with
   | none=>rfl
   | some i=>obtain ⟨h1,h2⟩:=hf1 _ _ hq;exact absurd h2 (hj i h1)
  simp only [lv2,hn] at hb;split at hb
  .rename_i h;exact ⟨hb,h⟩
  cases hb
 have hcase:∀ j,(∃ i∈ids,σ i=j)\/∀ i∈ids,σ i≠j:=fun j=>by
  cases hq:find j with
  | none=>exact .inr (hf3 j hq)
  | some i=>obtain ⟨h1,h2⟩:=hf1 _ _ hq;exact .inl ⟨i,h1,h2⟩
 have hok2:∀ g,yax B ok0 lv w g->yax B ok0 lv2 w' g/\w'.heap[g]?=w.heap[g]?:=by
  intro g hg;refine ⟨⟨hg.1,qbg hg.2.1 hsz,fun j b n hb=>?_⟩,hstay g hg.2.1 fun i _ n hn=>hg.2.2 _ _ n hn rfl⟩;rcases hcase j with ⟨i,hi,rfl⟩|hj
  .rw [hlv2a i hi] at hb;rcases (hmine3 i b n hb).2.2 with h|⟨i',_,n',h⟩
   .have:=hg.2.1;omega
   exact hg.2.2 _ _ n' h
  exact hg.2.2 j b n (hlv2b j hj _ n hb).1
 have hok3:∀ g,yax (yfb w lv1) (yax B ok0 lv w) lv3 w' g->yax B ok0 lv2 w' g:=by
  intro g hg;refine ⟨?_,hg.2.1,fun j b n hb=>?_⟩
  .rcases hg.1 with h|h|h
   .exact h.1
   .exact .inr (hmine g h).1
   exact .inr (.inr (qbp hs.inv.base.size h))
  rcases hcase j with ⟨i,hi,rfl⟩|hj
  .rw [hlv2a i hi] at hb;exact hg.2.2 i b n hb
  obtain ⟨hb',_⟩:=hlv2b j hj _ n hb;have hlt:=hs.inv.lvlt hb';rintro rfl;rcases hg.1 with h|h|h
  .exact h.2.2 j b n hb' rfl
  .obtain ⟨_,_,i,hi,n',hn'⟩:=hmine b h;exact hj i hi (hs.inv.inj _ _ b n' n hn' hb')
  simp only [yfb] at h;omega
 have hren:∀ id b n,id∈ids->lv2 (σ id)=some (b,n)->lv3 id=some (b,n):=fun id b n hi hb=>by rwa [hlv2a id hi] at hb
 have hframe:∀ (y:AV) (z:Value),(∀ i∈ids,ment (σ i) y=false)->Rel (yax B ok0 lv w) w lv y z->Rel (yax B ok0 lv2 w') w' lv2 y z:=by
  intro y z hy hz;refine (hz.relive fun j b n hb hm=>?_).keep hok2;rcases hcase j with ⟨i,hi,rfl⟩|hj
  .rw [hy i hi] at hm;cases hm
  exact (hlv2b j hj b n hb).1
 have hkeep:∀ (y:AV) (z:Value),(xfs σ ids hm' y\/(∃ i∈kp,∃ id sz len,0 < sz/\(hm id).isSome/\args0[i]?=some (.ls id sz len)/\y=.ls (σ id) sz len)\/xeo σ ids hm' y)->Rel (yax B ok0 lv w) w lv y z->Rel (yax B ok0 lv2 w') w' lv2 y z:=by
  intro y z hk hold;have hlp:∀ i∈ids,∀ off o',hm' i=some o'->isC o'=true->∀ z:Value,Rel (yax B ok0 lv w) w lv (.lp (σ i) off) z->Rel (yax B ok0 lv2 w') w' lv2 (.lp (σ i) off) z:=fun i hi off o' hci hcc z hz=>by
   cases hz with
   | lp _ h1 h2=>
    refine .lp _ h1 fun b n hb=>?_;rw [hlv2a i hi] at hb;obtain ⟨b',n',n'',p1,p2⟩:=hpin i o' hci hcc;rw [hb] at p2;cases p2;exact h2 b n' (hl2 i _ n' p1)
  rcases hk with hk|⟨i,hi,id,sz,len,h0,hsome,ha,rfl⟩|⟨f',cs,rfl,hcs⟩
  rotate_left
  .obtain ⟨ui,hui⟩:∃ ui,(args.map a.eval++vs)[i]?=some ui:=⟨_,qae (by rw [hall.1];exact (qaa.1 ha).1)⟩;have hid:=hdom id hsome;obtain ⟨ob,hob⟩:=qgp.1 hsome;obtain ⟨b,n,g1,_⟩:=hs.inv.obj (σ id) _ (hmem id ob hob);have g2:lv1 id=some (b,n):=by simp only [lv1];rw [if_pos ⟨hid,hsome⟩];exact g1
   have hv:z=ui:=by
    have q1:=hall.2 i _ ui ha hui;cases hold with
    | ls _ _ p1=>
     cases q1 with
     | ls _ _ p2=>
      have r1:=p1 b n g1;have r2:=p2 b n g2;cases b with
      | none=>exact r1.1.trans r2.1.symm
      | some b=>
       obtain ⟨c1,e1,_,_,m1⟩:=r1;obtain ⟨c2,e2,_,_,m2⟩:=r2;have:c1=c2:=Nat.eq_of_mul_eq_mul_right h0 (m1.trans m2.symm);rw [e1,e2,this]
   rw [hv];exact (Rel.ren hren (by simp [yen,hid]) (hkp i hi _ ui ha hui)).keep fun g hg=>⟨hok3 g hg,rfl⟩
  .cases hold with
   | fn vs hvl hvr=>
    exact .fn vs hvl fun k c u h1 h2=>by
     obtain ⟨i,hi,off,o',rfl,p1,p2⟩:=hcs c (qab h1);exact hlp i hi off o' p1 p2 _ (hvr k _ u h1 h2)
  rcases hk with hk|⟨i,hi,off,o',hye,hci,hcc⟩
  .exact hframe y _ hk hold
  rcases hye with rfl|⟨f',rfl⟩
  .exact hlp i hi off o' hci hcc _ hold
  cases hold with
  | fm vs hvl hvr=>
   refine .fm vs hvl fun k c u h1 h2=>?_;have h3:=hvr k c u h1 h2
   match k,h1 with
   | 0,h1=>
    simp only [qat,Option.some.injEq] at h1;subst h1;exact hlp i hi off o' hci hcc _ h3
   | k+1,h1=>simp at h1
 refine ⟨s2,lv2,rfl,⟨⟨?_,hs.inv.ok0lt,fun j hj=>?_,fun i j b n m h1 h2=>?_,fun j x hx=>?_⟩,by simp [Act.put,hs.size],fun x y hy=>?_,hs.defers.same (fun g hg=>(hstay g (qbd.1 hg).1 fun i hi n hn=>(hs.inv.lvat hn).choose_spec.2.2.2.notDef hg).trans hg),hs.big,fun j b ws hN hj hcj hb=>?_⟩⟩
 .-- base
  refine ⟨hb3.os.trans hs.inv.base.os,hb3.tape.trans hs.inv.base.tape,hb3.output.trans hs.inv.base.output,qbp hs.inv.base.size hsz,fun k hk hnl=>?_,hb3.glob,hs.inv.base.gsize,hs.inv.base.lentG,hs.inv.base.rdok⟩;refine (hstay k (qbg hk hs.inv.base.size) fun i hi n hn=>?_).trans (hs.inv.base.block k hk hnl);obtain ⟨_,_,q1,_,_⟩:=hs.inv.lvat hn;rcases q1 with q1|q1
  .exact hnl q1
  omega
 .-- dom
  rcases hcase j with ⟨i,hi,rfl⟩|hj'
  .rw [hlv2a i hi];refine hi3.dom i ?_;rw [hh1 i hi] at hj;cases hq:hm' i with
   | none=>rfl
   | some o=>simp [hq] at hj
  cases hq:lv2 j with
  | none=>rfl
  | some q=>obtain ⟨q1,q2⟩:=q;have:=(hlv2b j hj' q1 q2 hq).2;simp [hj] at this
 .-- inj
  rcases hcase i with ⟨i',hi,rfl⟩|hi <;> rcases hcase j with ⟨j',hj,rfl⟩|hj
  .rw [hlv2a i' hi] at h1;rw [hlv2a j' hj] at h2;rw [hi3.inj i' j' b n m h1 h2]
  .rw [hlv2a i' hi] at h1;have h2':=(hlv2b j hj _ m h2).1;have:=hs.inv.lvlt h2';rcases (hmine3 i' b n h1).2.2 with h|⟨k,hk,n',h⟩
   .omega
   exact absurd (hs.inv.inj _ _ b n' m h h2') (hj k hk)
  .rw [hlv2a j' hj] at h2;have h1':=(hlv2b i hi _ n h1).1;have:=hs.inv.lvlt h1';rcases (hmine3 j' b m h2).2.2 with h|⟨k,hk,n',h⟩
   .omega
   exact absurd (hs.inv.inj _ _ b n' n h h1') (hi k hk)
  exact hs.inv.inj i j b n m (hlv2b i hi _ n h1).1 (hlv2b j hj _ m h2).1
 .-- objects
  rcases hcase j with ⟨i,hi,rfl⟩|hj
  .rw [hh1 i hi] at hx;cases hq:hm' i with
   | none=>simp [hq] at hx
   | some ob=>
    simp only [hq,qar,Option.some.injEq] at hx;subst hx;obtain ⟨b,n,q1,q2⟩:=hi3.obj i ob hq;refine ⟨b,n,by rw [hlv2a i hi];exact q1,?_⟩;cases b with
    | none=>
     simp only [ygb] at q2 ⊢;rcases q2 with rfl|⟨e,rfl⟩
     .exact .inl rfl
     exact .inr ⟨e,rfl⟩
    | some b=>
     exact ⟨(hmine3 i b n q1).1,q2.2.1,yhl.ren hren (hro i ob hq) hok3 q2.2.2⟩
  have hlv2x:∀ b n,lv j=some (b,n)->lv2 j=some (b,n):=fun b n q1=>by
   have hn:find j=none:=by
    cases hq:find j with
    | none=>rfl
    | some i=>obtain ⟨h1,h2⟩:=hf1 _ _ hq;exact absurd h2 (hj i h1)
   simp [lv2,hn,hx,q1]
  rcases hh2 j x hj hx with ⟨hm1,ob,hob,hfo⟩|⟨hob,zs,rfl,hzs⟩
  rotate_left
  .obtain ⟨b,n,q1,q2⟩:=hs.inv.obj j _ hob;refine ⟨b,n,hlv2x b n q1,?_⟩;cases b with
   | none=>exact q2
   | some b=>
    obtain ⟨q3,q4,c,e,g1,g2,g3,g4,g5⟩:=q2;have hbk:w'.heap[b]?=w.heap[b]?:=hstay b q4 fun i hi n' hn'=>hj i hi (hs.inv.inj _ _ b n' n hn' q1);refine ⟨q3,qbg q4 hsz,c,e,by rw [hbk];exact g1,g2,g3,g4,fun k y z hy hz=>?_⟩;exact hkeep y z (hzs y (qab hy)) (g5 k y z hy hz)
  obtain ⟨b,n,q1,q2⟩:=hs.inv.obj j ob hob;have hlv2:lv2 j=some (b,n):=hlv2x b n q1;refine ⟨b,n,hlv2,?_⟩;cases b with
  | none=>
   simp only [ygb] at q2 ⊢;rcases hfo with rfl|⟨_,_,rfl,_⟩|⟨_,_,_,rfl,_⟩
   .exact q2
   .simp at q2
   simp at q2
  | some b=>
   obtain ⟨q3,q4,q5⟩:=q2;have hbk:w'.heap[b]?=w.heap[b]?:=hstay b q4 fun i hi n' hn'=>hj i hi (hs.inv.inj _ _ b n' n hn' q1);refine ⟨q3,qbg q4 hsz,?_⟩;rcases hfo with rfl|⟨zs,ys,rfl,rfl,hyl,hyz⟩|⟨te,zs,ys,rfl,rfl,hyl,hyz⟩
   .refine (q5.relive (lv':=lv2) fun k b' n' hb' hmk=>?_).keep hok2 hbk;rcases hcase k with ⟨i,hi,rfl⟩|hk
    .rw [hm1 i hi] at hmk;cases hmk
    exact (hlv2b k hk b' n' hb').1
   .obtain ⟨c,e,g1,g2,g3,g4,g5⟩:=q5;refine ⟨c,e,by rw [hbk];exact g1,g2,om,fun y hy=>?_,fun k y z hy hz=>?_⟩
    .obtain ⟨k,hk⟩:=qan hy;obtain ⟨x,hx⟩:∃ x,zs[k]?=some x:=⟨_,qae (by have:=(qaa.1 hk).1;omega)⟩;rcases hyz k x y hx hk with rfl|rfl
     .exact g4 _ (qab hx)
     rfl
    obtain ⟨x,hx⟩:∃ x,zs[k]?=some x:=⟨_,qae (by have:=(qaa.1 hy).1;omega)⟩;rcases hyz k x y hx hy with rfl|rfl
    .refine hframe _ z (fun i hi=>?_) (g5 k _ z hx hz);exact ygg hy (hm1 i hi)
    exact .one _ ((g5 k x z hx hz).oneCell (g4 x (qab hx)))
   obtain ⟨⟨c,e,g1,g2,g3,g4,g5⟩,hsh⟩:=q5;refine ⟨⟨c,e,by rw [hbk];exact g1,g2,om,fun y hy=>?_,fun k y z hy hz=>?_⟩,by rw [hyl];exact (yjn hbk).trans hsh⟩
   .obtain ⟨k,hk⟩:=qan hy;obtain ⟨x,hx⟩:∃ x,zs[k]?=some x:=⟨_,qae (by have:=(qaa.1 hk).1;omega)⟩;rcases hyz k x y hx hk with rfl|rfl
    .exact g4 _ (qab hx)
    rfl
   obtain ⟨x,hx⟩:∃ x,zs[k]?=some x:=⟨_,qae (by have:=(qaa.1 hy).1;omega)⟩;rcases hyz k x y hx hy with rfl|rfl
   .refine hframe _ z (fun i hi=>?_) (g5 k _ z hx hz);exact ygg hy (hm1 i hi)
   exact .one _ ((g5 k x z hx hz).oneCell (g4 x (qab hx)))
 .-- frame
  rcases ht x y hy with ⟨rfl,rfl⟩|⟨hxd,hxy⟩
  .have hbig:=hs.big;refine ⟨.inl hdN,?_⟩;rw [ydw,if_pos (qbg hdN hbig)];simp only [Act.put];rw [show (a.tmps.setIfInBounds x u).getD x undef=u by simp [Array.getD,hs.size,hdN]];exact (Rel.ren hren hr hu).keep fun g hg=>⟨hok3 g hg,rfl⟩
  have hval:ydw B (a.put (some d) u) x=ydw B a x:=by
   unfold ydw;split
   .simp only [Act.put,qaw,qbz];rw [if_neg om]
   rfl
  rw [hval];rcases hxy with ⟨rfl,z,hz⟩|⟨hz,hk⟩
  .exact ⟨(hs.frame x z hz).1,.any _⟩
  refine ⟨(hs.frame x y hz).1,?_⟩;have hold:=(hs.frame x y hz).2;exact hkeep _ _ hk hold
 -- pins
 rcases hcase j with ⟨i,hi,rfl⟩|hj'
 .rw [hh1 i hi] at hj;cases hq:hm' i with
  | none=>simp [hq] at hj
  | some ob=>
   simp only [hq,qar,Option.some.injEq] at hj;subst hj;rw [zcg] at hcj;obtain ⟨b',n',n'',p1,p2⟩:=hpin i ob hq hcj;obtain ⟨zs,hz,hzc⟩:=hc.2.1 i ob hq hcj;obtain ⟨n,hn⟩:=hs.pin (σ i) b _ hN (hmem i _ hz) (by rw [zcg];exact hzc) hb;rw [hl2 i _ n' p1] at hn;cases hn;exact ⟨n'',by rw [hlv2a i hi];exact p2⟩
 obtain ⟨ob,hys,hcc⟩:∃ ob,s.h j=some ob/\isC ob=true:=by
  rcases hh2 j _ hj' hj with ⟨_,ob,hys,hfo⟩|⟨hys,_⟩
  .refine ⟨ob,hys,?_⟩;rcases hfo with rfl|⟨xs',ys',rfl,_,_⟩|⟨e,xs',ys',rfl,_,_⟩
   .exact hcj
   .rfl
   rfl
  exact ⟨_,hys,hcj⟩
 obtain ⟨n,hn⟩:=hs.pin j b ob hN hys hcc hb;obtain ⟨b2,n2,q1,_⟩:=hs.inv.obj j _ hys;rw [hn] at q1;cases q1;have hn':find j=none:=by
  cases hq:find j with
  | none=>rfl
  | some i=>obtain ⟨h1,h2⟩:=hf1 _ _ hq;exact absurd h2 (hj' i h1)
 exact ⟨n,by simp [lv2,hn',hj,hn]⟩
theorem yrw {args0:List AV} {hm hm':Nat->Option LObj} {σ:Nat->Nat} {ids:List Nat} {d:Nat} {s2:SS} (ho:o.op=.call { callee:=.value g,args:=args.toArray,argTypes:=ats }) (hd:o.dst=some d) (hdN:d < N) (hg:yzw (evF s.t g) f caps args) (hx:evL (evF s.t) args=some xs) (hargs:xs++caps=args0.map (yfg σ)) (hc:yot P f args0 hm r hm') (hinj:∀ i∈ids,∀ j∈ids,σ i=σ j->i=j) (hdom:∀ id,(hm id).isSome->id∈ids) (hdom':∀ id,(hm' id).isSome->id∈ids) (hmem:∀ id o,hm id=some o->s.h (σ id)=some (zce σ o)) (hr:yen ids r=true) (hro:∀ id o,hm' id=some o->ypg ids o=true) (ht:∀ x y,s2.t x=some y->(x=d/\y=yfg σ r)\/(x≠d/\((y=.any/\∃ z,s.t x=some z)\/(s.t x=some y/\xfs σ ids hm' y)))) (hh1:∀ i∈ids,s2.h (σ i)=(hm' i).map (zce σ)) (hh2:∀ j ob',(∀ i∈ids,σ i≠j)->s2.h j=some ob'->(∀ i∈ids,yeb (σ i) ob'=false)/\∃ ob,s.h j=some ob/\ylg ob ob'):yco P N o s (·=s2):=
 yyg ho hd hdN hg hx hargs (kp:=[]) hc.toG hinj hdom hdom' hmem hr hro (fun x y h=>(ht x y h).imp id fun ⟨h1,h2⟩=>⟨h1,h2.imp id fun ⟨h3,h4⟩=>⟨h3,.inl h4⟩⟩) hh1 fun j ob' h1 h2=>.inl (hh2 j ob' h1 h2)
end
def yep:List (Nat × Nat)->Nat->Nat
 | [],i=>i
 | (k,j)::sg,i=>match Nat.beq i k with
  | true=>j
  | false=>yep sg i
def ybb:List (Nat × Nat)->List Nat
 | []=>[]
 | (k,_)::sg=>k::ybb sg
def ycc:List (Nat × Nat)->List Nat
 | []=>[]
 | (_,j)::sg=>j::ycc sg
def ynr (i:Nat):List Nat->Bool
 | []=>false
 | k::l=>match Nat.beq i k with
  | true=>true
  | false=>ynr i l
def ydm:List Nat->Bool
 | []=>true
 | k::l=>match ynr k l with
  | true=>false
  | false=>ydm l
theorem ydy:∀ {l:List Nat},ynr i l=true<->i∈l
 | []=>by simp [ynr]
 | k::l=>by
  simp only [ynr,qas];cases h:Nat.beq i k with
  | true=>simp [qaf h]
  | false=>
   have:i≠k:=fun e=>by subst e;simp at h
   simp [this,ydy (l:=l)]
theorem yjy (h:i∈ybb sg):yep sg i∈ycc sg:=by
 induction sg with
 | nil=>simp [ybb] at h
 | cons q sg ih=>
  obtain ⟨k,j⟩:=q;simp only [yep,ycc];cases hb:Nat.beq i k with
  | true=>simp
  | false=>
   have hne:i≠k:=fun e=>by subst e;simp at hb
   simp only [ybb,qas,hne,false_or] at h;simp [ih h]
theorem yxd (h:ydm (ycc sg)=true):∀ i∈ybb sg,∀ j∈ybb sg,yep sg i=yep sg j->i=j:=by
 induction sg with
 | nil=>intro i hi;simp [ybb] at hi
 | cons q sg ih=>
  obtain ⟨k,v⟩:=q;simp only [ycc,ydm] at h;cases hv:ynr v (ycc sg) with
  | true=>simp [hv] at h
  | false=>
   simp only [hv] at h;have hnv:v ∉ ycc sg:=fun hm=>by rw [ydy.2 hm] at hv;cases hv
   intro i hi j hj he;simp only [yep] at he;cases hik:Nat.beq i k <;> cases hjk:Nat.beq j k <;> simp only [hik,hjk] at he
   .have h1:i≠k:=fun e=>by subst e;simp at hik
    have h2:j≠k:=fun e=>by subst e;simp at hjk
    simp only [ybb,qas,h1,h2,false_or] at hi hj;exact ih h i hi j hj he
   .have h1:i≠k:=fun e=>by subst e;simp at hik
    simp only [ybb,qas,h1,false_or] at hi;exact absurd (he ▸ yjy hi) hnv
   .have h2:j≠k:=fun e=>by subst e;simp at hjk
    simp only [ybb,qas,h2,false_or] at hj;exact absurd (he ▸ yjy hj) hnv
   rw [qaf hik,qaf hjk]
theorem ysr {j:Nat} (h:j∈ycc sg) (hk:ydm (ybb sg)=true):∃ i∈ybb sg,yep sg i=j:=by
 induction sg with
 | nil=>simp [ycc] at h
 | cons q sg ih=>
  obtain ⟨k,v⟩:=q;simp only [ybb,ydm] at hk;cases hm:ynr k (ybb sg) with
  | true=>simp [hm] at hk
  | false=>
   simp only [hm] at hk;simp only [ycc,qas] at h;rcases h with rfl|h
   .exact ⟨k,by simp [ybb],by simp [yep]⟩
   obtain ⟨i,hi,he⟩:=ih h hk;refine ⟨i,by simp [ybb,hi],?_⟩;have:i≠k:=fun e=>by subst e;rw [ydy.2 hi] at hm;cases hm
   simp only [yep,ycr this];exact he
def yqm (ids:List Nat):List (Nat × Option LObj)->Bool
 | []=>true
 | (k,_)::h=>ynr k ids && yqm ids h
theorem ygo:∀ {h:List (Nat × Option LObj)},yqm ids h=true->∀ id,(yac h id).isSome->id∈ids
 | [],_,id,hs=>by simp [yac] at hs
 | (k,o)::h,hd,id,hs=>by
  simp only [yqm,qac] at hd;simp only [yac] at hs;cases hb:Nat.beq id k with
  | true=>rw [qaf hb];exact ydy.1 hd.1
  | false=>simp only [hb] at hs;exact ygo hd.2 id hs
def ztd (sg:List (Nat × Nat)):List (Nat × Option LObj)->List (Nat × Option LObj)
 | []=>[]
 | (k,some o)::h=>(yep sg k,some (zce (yep sg) o))::ztd sg h
 | (k,none)::h=>(yep sg k,none)::ztd sg h
theorem ysq {h:List (Nat × Option LObj)}:∀ {hs:List (Nat × Option LObj)},yts h (ztd sg hs)->∀ id o,yac hs id=some o->yac h (yep sg id)=some (zce (yep sg) o)
 | [],_,id,o,hl=>by simp [yac] at hl
 | (k,x)::hs,hsub,id,o,hl=>by
  simp only [yac] at hl;cases hb:Nat.beq id k with
  | true=>
   simp only [hb] at hl;subst hl;rw [qaf hb];simp only [ztd,yts] at hsub;exact hsub.1 _ rfl
  | false=>
   simp only [hb] at hl;cases x with
   | none=>simp only [ztd,yts] at hsub;exact ysq hsub.2 id o hl
   | some x=>simp only [ztd,yts] at hsub;exact ysq hsub.2 id o hl
def yok (ids:List Nat):List (Nat × Option LObj)->Bool
 | []=>true
 | (_,some o)::h=>ypg ids o && yok ids h
 | (_,none)::h=>yok ids h
theorem yja:∀ {h:List (Nat × Option LObj)},yok ids h=true->∀ id o,yac h id=some o->ypg ids o=true
 | [],_,id,o,hl=>by simp [yac] at hl
 | (k,x)::h,ho,id,o,hl=>by
  simp only [yac] at hl;cases hb:Nat.beq id k with
  | true=>
   simp only [hb] at hl;subst hl;simp only [yok,qac] at ho;exact ho.1
  | false=>
   simp only [hb] at hl;cases x with
   | none=>exact yja (by simpa [yok] using ho) id o hl
   | some x=>simp only [yok,qac] at ho;exact yja ho.2 id o hl
def yox (sg:List (Nat × Nat)) (hs':List (Nat × Option LObj)):List (Nat × Nat)->List (Nat × Option LObj)
 | []=>[]
 | (k,j)::r=>(j,match yac hs' k with
  | some o=>some (zce (yep sg) o)
  | none=>none)::yox sg hs' r
theorem yvh {h:List (Nat × Option LObj)}:∀ {l:List (Nat × Nat)},ydm (ybb l)=true->ydm (ycc l)=true->∀ i∈ybb l,yac (yox sg hs' l++h) (yep l i)=(yac hs' i).map (zce (yep sg))
 | [],_,_,i,hi=>by simp [ybb] at hi
 | (k,j)::l,h1,h2,i,hi=>by
  simp only [ybb,ydm] at h1;cases hm:ynr k (ybb l) with
  | true=>simp [hm] at h1
  | false=>
  simp only [hm] at h1;simp only [ycc,ydm] at h2;cases hm2:ynr j (ycc l) with
  | true=>simp [hm2] at h2
  | false=>
  simp only [hm2] at h2;simp only [yep];cases hb:Nat.beq i k with
  | true=>
   have e:=qaf hb;subst e;simp only [yox,qax,yac,qgc];cases yac hs' i <;> rfl
  | false=>
   have hne:i≠k:=fun e=>by subst e;simp at hb
   simp only [ybb,qas,hne,false_or] at hi;have hv:=yjy hi;have hnj:yep l i≠j:=fun e=>by rw [e] at hv;rw [ydy.2 hv] at hm2;cases hm2
   simp only [yox,qax,yac,ycr hnj];exact yvh h1 h2 i hi
theorem yll {h:List (Nat × Option LObj)}:∀ {l:List (Nat × Nat)} {j:Nat},j ∉ ycc l->yac (yox sg hs' l++h) j=yac h j
 | [],j,_=>rfl
 | (k,v)::l,j,hj=>by
  simp only [ycc,qas,not_or] at hj;simp only [yox,qax,yac,ycr hj.1];exact yll hj.2
def zai:List Nat->List (Nat × Option LObj)->Option (List (Nat × Option LObj))
 | [],h=>some h
 | i::l,h=>match ysx i h with
  | some h'=>zai l h'
  | none=>none
theorem ylg.trans {a b c:LObj} (h1:ylg a b) (h2:ylg b c):ylg a c:=by
 rcases h1 with rfl|⟨xs,ys,rfl,rfl,hl,hxy⟩|⟨te,xs,ys,rfl,rfl,hl,hxy⟩
 .exact h2
 .rcases h2 with rfl|⟨xs',zs,e,rfl,hl',hyz⟩|⟨_,_,_,e,_⟩
  .exact .inr (.inl ⟨xs,ys,rfl,rfl,hl,hxy⟩)
  .cases e;refine .inr (.inl ⟨xs,zs,rfl,rfl,om,fun j x z hx hz=>?_⟩);obtain ⟨y,hy⟩:∃ y,ys[j]?=some y:=⟨_,qae (by have:=(qaa.1 hx).1;omega)⟩;rcases hyz j y z hy hz with rfl|rfl
   .exact hxy j x _ hx hy
   exact .inr rfl
  cases e
 rcases h2 with rfl|⟨_,_,e,_⟩|⟨te',xs',zs,e,rfl,hl',hyz⟩
 .exact .inr (.inr ⟨te,xs,ys,rfl,rfl,hl,hxy⟩)
 .cases e
 cases e;refine .inr (.inr ⟨te,xs,zs,rfl,rfl,om,fun j x z hx hz=>?_⟩);obtain ⟨y,hy⟩:∃ y,ys[j]?=some y:=⟨_,qae (by have:=(qaa.1 hx).1;omega)⟩;rcases hyz j y z hy hz with rfl|rfl
 .exact hxy j x _ hx hy
 exact .inr rfl
theorem zwj:∀ {zs:List AV},ment.mentL i zs=true->∃ (j:Nat) (z:AV),zs[j]?=some z/\ment i z=true
 | [],h=>by simp [ment.mentL] at h
 | z::zs,h=>by
  simp only [ment.mentL,qcm] at h;rcases h with h|h
  .exact ⟨0,z,rfl,h⟩
  obtain ⟨j,y,h1,h2⟩:=zwj h;exact ⟨j+1,y,by simpa using h1,h2⟩
theorem ziv {ys:List AV} (hl:ys.length=xs.length) (hxy:∀ (j:Nat) (x y:AV),xs[j]?=some x->ys[j]?=some y->y=x\/y=.one) (hm:ment.mentL i xs=false):ment.mentL i ys=false:=by
 cases hq:ment.mentL i ys with
 | false=>rfl
 | true=>
  exfalso;obtain ⟨j,y,hy,hmy⟩:=zwj hq;obtain ⟨x,hx⟩:∃ x,xs[j]?=some x:=⟨_,qae (by have:=(qaa.1 hy).1;omega)⟩;rcases hxy j x y hx hy with rfl|rfl
  .rw [ygg hx hm] at hmy;cases hmy
  simp [ment] at hmy
theorem forgO_ment {a b:LObj} (h:ylg a b) (hm:yeb i a=false):yeb i b=false:=by
 rcases h with rfl|⟨xs,ys,rfl,rfl,hl,hxy⟩|⟨te,xs,ys,rfl,rfl,hl,hxy⟩
 .exact hm
 .exact ziv hl hxy hm
 exact ziv hl hxy hm
theorem yuj:∀ {l:List Nat} {h h':List (Nat × Option LObj)},zai l h=some h'->∀ j ob',yac h' j=some ob'->(∀ i∈l,yeb i ob'=false)/\∃ ob,yac h j=some ob/\ylg ob ob'
 | [],h,h',he,j,ob',hj=>by simp only [zai,Option.some.injEq] at he;subst he;exact ⟨sm,ob',hj,.inl rfl⟩
 | i::l,h,h',he,j,ob',hj=>by
  simp only [zai] at he;split at he
  .rename_i h1 hh;obtain ⟨g1,ob1,g2,g3⟩:=yuj he j ob' hj;obtain ⟨g4,ob,g5,g6⟩:=ygp hh j ob1 g2;refine ⟨fun k hk=>?_,ob,g5,g6.trans g3⟩;rcases qas.1 hk with rfl|hk
   .exact forgO_ment g3 g4
   exact g1 k hk
  cases he
def zes (l:List Nat) (y:AV):Bool:=match l with
 | []=>false
 | i::l=>match ment i y with
  | true=>true
  | false=>zes l y
theorem zao:∀ {l:List Nat} {y:AV},zes l y=false->∀ i∈l,ment i y=false
 | [],y,_,i,hi=>by simp at hi
 | k::l,y,h,i,hi=>by
  simp only [zes] at h;cases hk:ment k y with
  | true=>simp [hk] at h
  | false=>
   simp only [hk] at h;rcases qas.1 hi with rfl|hi
   .exact hk
   exact zao h i hi
def zsk:Option LObj->Bool
 | some o=>isC o
 | none=>false
def zdr (hs':List (Nat × Option LObj)) (j:Nat):List (Nat × Nat)->Bool
 | []=>false
 | (k,v)::l=>match Nat.beq v j with
  | true=>zsk (yac hs' k)
  | false=>zdr hs' j l
theorem ypc {j:Nat}:∀ {l:List (Nat × Nat)},ydm (ybb l)=true->zdr hs' j l=true->∃ i∈ybb l,yep l i=j/\∃ o,yac hs' i=some o/\isC o=true
 | [],_,h=>by simp [zdr] at h
 | (k,v)::l,hn,h=>by
  simp only [ybb,ydm] at hn;cases hm:ynr k (ybb l) with
  | true=>simp [hm] at hn
  | false=>
  simp only [hm] at hn;simp only [zdr] at h;cases hb:Nat.beq v j with
  | true=>
   simp only [hb] at h;refine ⟨k,by simp [ybb],by simp [yep,qaf hb],?_⟩;cases hq:yac hs' k with
   | none=>simp [hq,zsk] at h
   | some o=>exact ⟨o,rfl,by simpa [hq,zsk] using h⟩
  | false=>
   simp only [hb] at h;obtain ⟨i,h1,h2,h3⟩:=ypc hn h;refine ⟨i,by simp [ybb,h1],?_,h3⟩;have:i≠k:=fun e=>by subst e;rw [ydy.2 h1] at hm;cases hm
   simp only [yep,ycr this];exact h2
def zsl (sg:List (Nat × Nat)) (hs':List (Nat × Option LObj)) (y:AV):Bool:=match zes (ycc sg) y with
 | false=>true
 | true=>match y with
  | .lp j _=>zdr hs' j sg
  | .fm _ [.lp j _]=>zdr hs' j sg
  | _=>false
def yod (sg:List (Nat × Nat)) (hs':List (Nat × Option LObj)):List (Nat × AV)->List (Nat × AV)
 | []=>[]
 | (s,x)::t=>match zsl sg hs' x with
  | true=>(s,x)::yod sg hs' t
  | false=>(s,.any)::yod sg hs' t
theorem yse {y:AV} (hn:ydm (ybb sg)=true) (h:zsl sg hs' y=true):xfs (yep sg) (ybb sg) (yac hs') y:=by
 unfold zsl at h;cases hm:zes (ycc sg) y with
 | false=>exact .inl fun i hi=>zao hm _ (yjy hi)
 | true=>
  simp only [hm] at h;split at h
  .rename_i j off;obtain ⟨i,h1,h2,o,h3,h4⟩:=ypc hn h;exact .inr ⟨i,h1,off,o,.inl (by rw [h2]),h3,h4⟩
  .rename_i f j off;obtain ⟨i,h1,h2,o,h3,h4⟩:=ypc hn h;exact .inr ⟨i,h1,off,o,.inr ⟨f,by rw [h2]⟩,h3,h4⟩
  cases h
theorem yix:∀ {t:List (Nat × AV)} {x:Nat} {y:AV},yaj (yod sg hs' t) x=some y->(y=.any/\∃ z,yaj t x=some z)\/(yaj t x=some y/\zsl sg hs' y=true)
 | [],x,y,h=>by simp [yod,yaj] at h
 | (s,z)::t,x,y,h=>by
  simp only [yod] at h;cases hk:zsl sg hs' z with
  | true=>
   simp only [hk,yaj] at h ⊢;cases hb:Nat.beq x s with
   | true=>simp only [hb,Option.some.injEq] at h ⊢;subst h;exact .inr ⟨rfl,hk⟩
   | false=>simp only [hb] at h ⊢;exact yix h
  | false=>
   simp only [hk,yaj] at h ⊢;cases hb:Nat.beq x s with
   | true=>simp only [hb,Option.some.injEq] at h ⊢;subst h;exact .inl ⟨rfl,z,rfl⟩
   | false=>simp only [hb] at h ⊢;exact yix h
section
variable {P:Program} {T:Nat->Option Ty} {N:Nat} {ops:Array Oper} {lf:Oper->Bool} {Q:SS->Prop} {t:List (Nat × AV)} {h:List (Nat × Option LObj)} {rest:List Oper} {d:Nat} {ty:TypeId} {pos:String} {af:Array Edge} {gd:Option (Nat × Bool)} {r:AV}
def zkk (l:List Nat):List (Nat × Option LObj)->List (Nat × Option LObj)
 | []=>[]
 | (k,o)::h=>match ynr k l with
  | true=>zkk l h
  | false=>(k,o)::zkk l h
theorem yvn {l:List Nat} {j:Nat} (hj:j ∉ l):∀ h:List (Nat × Option LObj),yac (zkk l h) j=yac h j
 | []=>rfl
 | (k,o)::h=>by
  simp only [zkk];cases hm:ynr k l with
  | true=>
   have hk:Nat.beq j k=false:=ycr fun e=>hj (e ▸ ydy.1 hm);simp only [yac,hk];exact yvn hj h
  | false=>
   simp only [yac];cases Nat.beq j k with
   | true=>rfl
   | false=>exact yvn hj h
theorem L_callMG (sg:List (Nat × Nat)) {args:List Operand} {ats:Array TypeId} {caps xs args0:List AV} {hs hs' h':List (Nat × Option LObj)} (hc:yot P f args0 (yac hs) r (yac hs')) (hg:yzw (evF (yaj t) g) f caps args) (hx:evL (evF (yaj t)) args=some xs) (hargs:xs++caps=args0.map (yfg (yep sg))) (hk:ydm (ybb sg)=true) (hv:ydm (ycc sg)=true) (hd1:yqm (ybb sg) hs=true) (hd2:yqm (ybb sg) hs'=true) (hsub:yts h (ztd sg hs)) (hr:yen (ybb sg) r=true) (ho:yok (ybb sg) hs'=true) (hh:zai (ycc sg) (zkk (ycc sg) h)=some h') (hl:lf ⟨some d,.call { callee:=.value g,args:=args.toArray,argTypes:=ats },ty,pos,af,gd⟩=true) (hw:yal ops (yaj t) ⟨some d,.call { callee:=.value g,args:=args.toArray,argTypes:=ats },ty,pos,af,gd⟩=some true) (hd:Nat.blt d N=true) (k:Lex P N ops lf Q rest (S ((d,yfg (yep sg) r)::yod sg hs' t) (yox sg hs' sg++h'))):Lex P N ops lf Q (⟨some d,.call { callee:=.value g,args:=args.toArray,argTypes:=ats },ty,pos,af,gd⟩::rest) (S t h):=by
 refine yec hl hw ?_ k;refine yrw (σ:=yep sg) (ids:=ybb sg) rfl rfl (by simpa using hd) hg hx hargs hc (yxd hv) (ygo hd1) (ygo hd2) (ysq hsub) hr (yja ho) (fun x y hy=>?_) (fun i hi=>yvh hk hv i hi) (fun j ob' hj hob=>?_)
 .simp only [S,yaj] at hy;cases hb:Nat.beq x d with
  | true=>simp only [hb,Option.some.injEq] at hy;exact .inl ⟨qaf hb,hy.symm⟩
  | false=>
   simp only [hb] at hy;refine .inr ⟨fun e=>by subst e;simp at hb,?_⟩;rcases yix hy with hq|⟨h1,h2⟩
   .exact .inl hq
   exact .inr ⟨h1,yse hk h2⟩
 have hjv:j ∉ ycc sg:=fun hm=>by
  obtain ⟨i,h1,h2⟩:=ysr hm hk;exact hj i h1 h2
 simp only [S,yll hjv] at hob;obtain ⟨h1,h2⟩:=yuj hh j ob' hob;rw [yvn hjv] at h2;exact ⟨fun i hi=>h1 _ (yjy hi),h2⟩
theorem yxy (sg:List (Nat × Nat)) {args:List Operand} {ats:Array TypeId} {caps xs args0:List AV} {hs hs' h':List (Nat × Option LObj)} (hc:yot P f args0 (yac hs) r (yac hs')) (hg:evF (yaj t) g=some (.fn f caps)) (hx:evL (evF (yaj t)) args=some xs) (hargs:xs++caps=args0.map (yfg (yep sg))) (hk:ydm (ybb sg)=true) (hv:ydm (ycc sg)=true) (hd1:yqm (ybb sg) hs=true) (hd2:yqm (ybb sg) hs'=true) (hsub:yts h (ztd sg hs)) (hr:yen (ybb sg) r=true) (ho:yok (ybb sg) hs'=true) (hh:zai (ycc sg) (zkk (ycc sg) h)=some h') (hl:lf ⟨some d,.call { callee:=.value g,args:=args.toArray,argTypes:=ats },ty,pos,af,gd⟩=true) (hw:yal ops (yaj t) ⟨some d,.call { callee:=.value g,args:=args.toArray,argTypes:=ats },ty,pos,af,gd⟩=some true) (hd:Nat.blt d N=true) (k:Lex P N ops lf Q rest (S ((d,yfg (yep sg) r)::yod sg hs' t) (yox sg hs' sg++h'))):Lex P N ops lf Q (⟨some d,.call { callee:=.value g,args:=args.toArray,argTypes:=ats },ty,pos,af,gd⟩::rest) (S t h):=
 L_callMG sg hc (.inl hg) hx hargs hk hv hd1 hd2 hsub hr ho hh hl hw hd k
end
end
section
open Go.RowKit
section
variable {P:Program} {T:Nat->Option Ty} {N:Nat} {ops:Array Oper} {lf:Oper->Bool} {Q:SS->Prop} {t:List (Nat × AV)} {h:List (Nat × Option LObj)} {rest:List Oper} {d:Nat} {op:Op} {ty:TypeId} {pos:String} {af:Array Edge} {gd:Option (Nat × Bool)} {r:AV}
theorem ynq {ρ:Operand->Option AV} {hp:Nat->Option LObj} {x:Operand} {id off:Nat} {xs:List AV} (hx:ρ x=some (.lp id off)) (hh:yti (hp id)=some xs):yby P hp ρ (.nilCheck x) ty (.lp id off):=
 yav fun B ok0 lv w a o ho hty hi' hops=>by
  have hr:=hops x _ (by simp [Op.operands]) hx;obtain ⟨g1,g2⟩:=ygc hh;obtain ⟨b,n,hb,hu,_⟩:=yho hi' g1 g2 hr;exact ⟨a.eval x,by simp [execOp,ho,hu],hr⟩
theorem yxz {x:Operand} {id off:Nat} {xs:List AV} (hx:evF (yaj t) x=some (.lp id off)) (hh:yti (yac h id)=some xs) (hw:yal ops (yaj t) ⟨some d,.nilCheck x,ty,pos,af,gd⟩=some true) (hd:Nat.blt d N=true) (k:Lex P N ops lf Q rest (S ((d,.lp id off)::t) h)):Lex P N ops lf Q (⟨some d,.nilCheck x,ty,pos,af,gd⟩::rest) (S t h):=
 ycl (ynq hx hh) hw hd k
end
end
set_option maxHeartbeats 4000000
section
open Go.RowKit
theorem Inv.mineOf (hi:Inv B ok0 h lv w) (hb:ybw lv b):B.mine b/\b < w.heap.size:=by
 obtain ⟨id,n,h⟩:=hb;obtain ⟨_,_,h1,h2,_⟩:=hi.lvat h;exact ⟨h1,h2⟩
theorem Inv.rebase (hi:Inv B ok0 h lv w) (hG:zba W1) (hsz:w.heap.size<=W1.heap.size) (hok:∀ g,yax B ok0 lv w g->W1.heap[g]?=w.heap[g]?) (hlv:∀ b,ybw lv b->W1.heap[b]?=w.heap[b]?) (pin:Nat->Option Nat) (rd:Option Nat) (dl:List Deferred) (gv:Nat->Value) (hrd:∀ l,rd=some l->(∃ r,W1.heap[l]?=some (.loop r))/\¬ ybw lv l):Inv ⟨W1,ybw lv,pin,rd,dl,gv⟩ (yax B ok0 lv w) h lv W1:=by
 have hk:∀ g,yax B ok0 lv w g->yax ⟨W1,ybw lv,pin,rd,dl,gv⟩ (yax B ok0 lv w) lv W1 g/\W1.heap[g]?=w.heap[g]?:=fun g hg=>⟨⟨.inl hg,qbg hg.2.1 hsz,hg.2.2⟩,hok g hg⟩;refine ⟨⟨rfl,rfl,rfl,qbh _,fun _ _ _=>rfl,hG,hG.size,fun k hk=>hi.base.mineG (hi.mineOf hk).1,hrd⟩,fun g hg=>qbg hg.2.1 hsz,hi.dom,hi.inj,fun id x hx=>?_⟩;obtain ⟨b,n,h1,h2⟩:=hi.obj id x hx;refine ⟨b,n,h1,?_⟩;cases b with
 | none=>exact h2
 | some b=>exact ⟨.inl ⟨id,n,h1⟩,qbg h2.2.1 hsz,h2.2.2.keep hk (hlv b ⟨id,n,h1⟩)⟩
theorem ok_back (h0:Inv B ok0 h lv w) (hsz:w.heap.size<=W1.heap.size) {g:Nat} (hg:yax ⟨W1,ybw lv,pin,rd,dl,gv⟩ (yax B ok0 lv w) lv' w' g):ok0 g\/B.mine g:=by
 rcases hg.1 with h|h|h
 .exact h.1
 .exact .inr (h0.mineOf h).1
 exact .inr (.inr (by have:=h0.base.size;simp only at h;omega))
theorem Inv.back (h0:Inv B ok0 h lv w) (hsz:w.heap.size<=W1.heap.size) {h':Nat->Option LObj} (hi:Inv ⟨W1,ybw lv,pin,rd,dl,gv⟩ (yax B ok0 lv w) h' lv' w') {W2:World} (hB:Based B W2) (hsz2:w'.heap.size<=W2.heap.size) (hok:∀ g,yax ⟨W1,ybw lv,pin,rd,dl,gv⟩ (yax B ok0 lv w) lv' w' g->W2.heap[g]?=w'.heap[g]?) (hlv:∀ b,ybw lv' b->W2.heap[b]?=w'.heap[b]?):
  Inv B ok0 h' lv' W2/\∀ g,yax ⟨W1,ybw lv,pin,rd,dl,gv⟩ (yax B ok0 lv w) lv' w' g->yax B ok0 lv' W2 g/\W2.heap[g]?=w'.heap[g]?:=by
 have hk:∀ g,yax ⟨W1,ybw lv,pin,rd,dl,gv⟩ (yax B ok0 lv w) lv' w' g->yax B ok0 lv' W2 g/\W2.heap[g]?=w'.heap[g]?:=fun g hg=>⟨⟨ok_back h0 hsz hg,qbg hg.2.1 hsz2,hg.2.2⟩,hok g hg⟩;refine ⟨⟨hB,h0.ok0lt,hi.dom,hi.inj,fun id x hx=>?_⟩,hk⟩;obtain ⟨b,n,h1,h2⟩:=hi.obj id x hx;refine ⟨b,n,h1,?_⟩;cases b with
 | none=>exact h2
 | some b=>
  refine ⟨?_,qbg h2.2.1 hsz2,h2.2.2.keep hk (hlv b ⟨id,n,h1⟩)⟩;rcases h2.1 with h3|h3
  .exact (h0.mineOf h3).1
  exact .inr (by have:=h0.base.size;simp only at h3;omega)
theorem live_back {h':Nat->Option LObj} (hi:Inv ⟨W1,ybw lv,pin,rd,dl,gv⟩ ok0 h' lv' w') (hb:ybw lv' b):ybw lv b\/W1.heap.size<=b:=(hi.mineOf hb).1
def zcs (P:Program) (f:FuncId) (caps:List AV) (els:List (List AV)):Prop:=
 ylh P f/\∀ (l:Nat) (ok:Nat->Prop) (W:World) (us:List Value) (J:Nat->World->Prop) (X:World->Prop),(∀ g,ok g->g < W.heap.size)->ybm ok W (fun _=>none) caps us ->
  (∀ k W',J k W'->W.heap.size<=W'.heap.size/\∀ g,ok g->W'.heap[g]?=W.heap[g]?)->(∀ k W1 W2,J k W1->Below W1.heap.size W1 W2->J k W2)->(∀ W1 W2,X W1->Below W1.heap.size W1 W2->X W2) ->
  (∀ k el vs W1,els[k]?=some el->J k W1->ybm ok W1 (fun _=>none) el vs->YieldAt Fence.wide 0 P l vs.toArray W1 fun e W'=>(e=.returned (.bool true)/\J (k+1) W')\/(e=.returned (.bool false)/\X W')) ->
  J 0 W->CallsIn Fence.wide 0 P f (#[.func (.yield l) #[] #[]]++us.toArray) W fun e W'=>(∃ v,e=.returned v)/\(J els.length W'\/X W')
theorem zvp:∀ (ps:List Nat) (vs:List Value) (tm:Array Value),ps.length=vs.length->ps.Nodup->(∀ p∈ps,p < tm.size) ->
  ((ps.zip vs).foldl (fun t (x:Nat × Value)=>t.setIfInBounds x.1 x.2) tm).size=tm.size/\(∀ x,x ∉ ps->((ps.zip vs).foldl (fun t (x:Nat × Value)=>t.setIfInBounds x.1 x.2) tm).getD x undef=tm.getD x undef) /\
   ∀ (j p:Nat) (v:Value),ps[j]?=some p->vs[j]?=some v->((ps.zip vs).foldl (fun t (x:Nat × Value)=>t.setIfInBounds x.1 x.2) tm).getD p undef=v
 | [],[],tm,_,_,_=>⟨rfl,fun _ _=>rfl,fun j p v h=>by simp at h⟩
 | p::ps,v::vs,tm,hl,hn,hlt=>by
  simp only [qde] at hn;obtain ⟨h1,h2,h3⟩:=zvp ps vs (tm.setIfInBounds p v) (by simpa using hl) hn.2 (fun q hq=>by simpa using hlt q (by simp [hq]));have hset:∀ x,x≠p->(tm.setIfInBounds p v).getD x undef=tm.getD x undef:=fun x hx=>by
   simp only [qaw,qbz];rw [if_neg om]
  simp only [qds,qdf];refine ⟨by rw [h1];simp,fun x hx=>?_,fun j q u hj hu=>?_⟩
  .simp only [qas,not_or] at hx;rw [h2 x hx.2,hset x hx.1]
  cases j with
  | zero=>
   simp only [qat,Option.some.injEq] at hj hu;subst hj hu;rw [h2 p hn.1];have:=hlt p sm;simp [Array.getD,this]
  | succ j=>exact h3 j q u (by simpa using hj) (by simpa using hu)
 | [],_::_,_,h,_,_=>by simp at h
 | _::_,[],_,h,_,_=>by simp at h
theorem zlc:∀ {ps:List Nat} {el:List AV} {x:Nat} {y:AV},yaj (ps.zip el) x=some y->∃ j:Nat,ps[j]?=some x/\el[j]?=some y
 | [],_,x,y,h=>by simp [yaj] at h
 | _::_,[],x,y,h=>by simp [yaj] at h
 | p::ps,e::el,x,y,h=>by
  simp only [qds,yaj] at h;cases hb:Nat.beq x p with
  | true=>
   simp only [hb,Option.some.injEq] at h;exact ⟨0,by simp [qaf hb],by simp [h]⟩
  | false=>
   simp only [hb] at h;obtain ⟨j,h1,h2⟩:=zlc h;exact ⟨j+1,by simpa using h1,by simpa using h2⟩
theorem ywc:∀ {ps:List Nat} {el:List AV} {x:Nat},ps.length=el.length->yaj (ps.zip el) x=none->x ∉ ps
 | [],_,x,_,_=>by simp
 | _::_,[],x,hl,_=>by simp at hl
 | p::ps,e::el,x,hl,h=>by
  simp only [qds,yaj] at h;cases hb:Nat.beq x p with
  | true=>simp [hb] at h
  | false=>
   simp only [hb] at h;simp only [qas,not_or];exact ⟨fun e=>by subst e;simp at hb,ywc (by simpa using hl) h⟩
def zas (t0:Nat->Option AV) (ps:List Nat) (el:List AV) (x:Nat):Option AV:=
 match Nat.ble 1000000 x with
 | true=>t0 (x - 1000000)
 | false=>match yaj (ps.zip el) x with
  | some y=>some y
  | none=>t0 x
def xek (t0:Nat->Option AV) (hk:Nat->Nat->Option LObj) (k:Nat) (Q:Exit->SS->Prop):Exit->SS->Prop
 | .normal,s=>(∀ x y,t0 x=some y->s.t (x+1000000)=some y)/\∀ id o,hk (k+1) id=some o->s.h id=some o
 | .ret,s=>∃ hx:Nat->Option LObj,(∀ x y,t0 x=some y->s.t (x+1000000)=some y)/\(∀ id o,hx id=some o->s.h id=some o)/\Q .ret ⟨t0,hx⟩
 | .exit i,s=>∃ hx:Nat->Option LObj,(∀ x y,t0 x=some y->s.t (x+1000000)=some y)/\(∀ id o,hx id=some o->s.h id=some o)/\Q (.exit i) ⟨t0,hx⟩
 | _,_=>False
theorem ypi {o:Obj} (h:w.heap[l]?=some o):w.putObj l o=w:=by
 have:w.heap.setIfInBounds l o=w.heap:=by
  apply qgq;intro i;rw [qbz];split
  .rename_i e;subst e;split
   .exact h.symm
   rename_i hlt;rw [qdw om]
  rfl
 unfold World.putObj;rw [this]
theorem yrc {o o':Obj}:(w.putObj l o).putObj l o'=w.putObj l o':=by
 unfold World.putObj;simp only [World.mk.injEq,and_true];apply qgq;intro i;simp only [qbz,qfr];split <;> rfl
theorem zbu (h:zba w) {o:Obj} (hl:GN<=l):zba (w.putObj l o):=
 h.keep (fun k hk=>World.putObj_heap_other om) sm
section
variable {P:Program} {N:Nat} {g:Operand} {ps:List Nat} {assign body:Code} {Q:Exit->SS->Prop} {s:SS} {gf:Nat} {caps:List AV} {els:List (List AV)}
def yim (B:Bse) (Bx:Bse) (okx:Nat->Prop) (N l:Nat) (rec:LoopState->Option Code->Loop) (t0:Nat->Option AV) (vt:Nat->Value) (o:Loop) (h:Nat->Option LObj) (W:World):Prop:=
 W.heap[l]?=some (.loop o)/\∃ lv',Inv Bx okx h lv' (W.putObj l (.loop (rec .ready none)))/\(∀ x y,t0 x=some y->Rel (yax Bx okx lv' (W.putObj l (.loop (rec .ready none)))) (W.putObj l (.loop (rec .ready none))) lv' y (vt x)) /\
  ∀ id b o,N<=id->h id=some o->isC o=true->B.pin id=some b->∃ n,lv' id=some (some b,n)
theorem yim.grow {Bx:Bse} {okx:Nat->Prop} {N l:Nat} {rec:LoopState->Option Code->Loop} {t0:Nat->Option AV} {vt:Nat->Value} {o:Loop} {h:Nat->Option LObj} {W W2:World} (hK:yim B Bx okx N l rec t0 vt o h W) (hb:Below W.heap.size W W2):yim B Bx okx N l rec t0 vt o h W2:=by
 obtain ⟨h1,lv',h2,h3,h4⟩:=hK;have hlt:=(qbd.1 h1).1;have hb':Below (W.putObj l (.loop (rec .ready none))).heap.size (W.putObj l (.loop (rec .ready none))) (W2.putObj l (.loop (rec .ready none))):=by
  refine ⟨hb.os,hb.tape,hb.output,by simpa using hb.size,fun k hk=>?_⟩;by_cases e:k=l
  .subst e;rw [World.putObj_heap_same hlt,World.putObj_heap_same (qbg hlt hb.size)]
  rw [World.putObj_heap_other e,World.putObj_heap_other e];exact hb.block k (by simpa using hk)
 exact ⟨(hb.block l hlt).trans h1,lv',h2.grow hb',fun x y hx=>(h3 x y hx).grow hb',h4⟩
theorem yyu {ok0:Nat->Prop} {h:Nat->Option LObj} (hi:Inv B ok0 h lv w) {l:Nat} (h1:¬ B.mine l) {b:Nat} (hb:ybw lv b):b≠l:=by
 rintro rfl;exact h1 (hi.mineOf hb).1
theorem round_K {Bx:Bse} {okx:Nat->Prop} {l:Nat} {rec:LoopState->Option Code->Loop} {t0:Nat->Option AV} {tm:Array Value} {vt:Nat->Value} {fn:FuncId} (hrec:∀ st pe,(rec st pe).state=st/\(rec st pe).pending=pe/\∀ st' pe',{ rec st pe with state:=st',pending:=pe' }=rec st' pe') (hl:Bx.w.heap[l]?=some (.loop (rec .ready none))) (hlx:¬ Bx.lent l) (hlk:¬ okx l) (hdis:∀ g,okx g->¬ Bx.lent g) (hlg:GN<=l) (htm:tm.size=N) (hvt:∀ x,x < 1000000->vt x=tm.getD x undef) (hbig:N<=1000000) (hps:∀ p∈ps,p < N) (hpn:ps.Nodup) (ht0:∀ x y,t0 x=some y->x < N\/1000000<=x) {hk:Nat->Nat->Option LObj} {k:Nat} {el:List AV} (hel:el.length=ps.length/\yar.pureL el=true) (round:A P N assign (fun e s1=>e=.normal/\A P N body (xek t0 hk k Q) s1) ⟨zas t0 ps el,hk k⟩) {vs:List Value} {W:World} (hK:yim B Bx okx N l rec t0 vt (rec .ready none) (hk k) W) (hvs:ybm okx W (fun _=>none) el vs):
  RoundIn Fence.wide 0 P l fn ((ps.toArray.zip vs.toArray).foldl (fun tmps (x:Nat × Value)=>tmps.setIfInBounds x.1 x.2) tm) assign body W fun e W'=>
   (e=.returned (.bool true)/\yim B Bx okx N l rec t0 vt (rec .ready none) (hk (k+1)) W') \/
   (e=.returned (.bool false)/\∃ c h,((c=.ret/\Q .ret ⟨t0,h⟩)\/∃ i,c=.exit i/\Q (.exit i) ⟨t0,h⟩)/\yim B Bx okx N l rec t0 vt (rec .done (some c)) h W'):=by
 obtain ⟨hWl,lv1,i1,f1,p1⟩:=hK;rw [ypi hWl] at i1 f1;have hlt:=(qbd.1 hWl).1;have hltx:=(qbd.1 hl).1;have hmx:¬ Bx.mine l:=fun h=>by rcases h with h|h;exact hlx h;omega
 have hnl1:∀ b,ybw lv1 b->b≠l:=fun b hb=>yyu i1 hmx hb;have hnok1:∀ g,yax Bx okx lv1 W g->g≠l:=fun g hg e=>by subst e;rcases hg.1 with h|h;exact hlk h;exact hmx h
 obtain ⟨hvl,hvr⟩:=hvs;obtain ⟨z1,z2,z3⟩:=zvp ps vs tm (by rw [hvl,hel.1]) hpn (fun p hp=>by rw [htm];exact hps p hp);have hfold:(ps.toArray.zip vs.toArray).foldl (fun tmps (x:Nat × Value)=>tmps.setIfInBounds x.1 x.2) tm=(ps.zip vs).foldl (fun t (x:Nat × Value)=>t.setIfInBounds x.1 x.2) tm:=by
  rw [List.zip_toArray,List.foldl_toArray]
 rw [hfold];generalize (ps.zip vs).foldl (fun t (x:Nat × Value)=>t.setIfInBounds x.1 x.2) tm=tr at z1 z2 z3;have j1:=i1.rebase (W1:=W) i1.base.glob (qbh _) (fun _ _=>rfl) (fun _ _=>rfl) B.pin (some l) [] (fun x=>vt (x - 1000000)) (fun l' h=>by cases h;exact ⟨⟨_,hWl⟩,fun h=>hnl1 l h rfl⟩);have up1:∀ g,yax Bx okx lv1 W g->yax ⟨W,ybw lv1,B.pin,some l,[],fun x=>vt (x - 1000000)⟩ (yax Bx okx lv1 W) lv1 W g:=fun g hg=>⟨.inl hg,hg.2.1,hg.2.2⟩;have s1:Sim ⟨W,ybw lv1,B.pin,some l,[],fun x=>vt (x - 1000000)⟩ (yax Bx okx lv1 W) N ⟨zas t0 ps el,hk k⟩ lv1 { tmps:=tr,defers:=[] } W:=by
  refine ⟨j1,by simp only;rw [z1,htm],fun x y hy=>?_,⟨[],rfl,qdp,fun d hd=>by cases hd⟩,hbig,p1⟩;unfold zas at hy;cases hb:Nat.ble 1000000 x with
  | true=>
   simp only [hb] at hy;have hx:1000000<=x:=by simpa using hb
   refine ⟨.inr hx,?_⟩;rw [ydw,if_neg om];exact (f1 _ y hy).keep fun g hg=>⟨up1 g hg,rfl⟩
  | false=>
   simp only [hb] at hy;have hx:=xfg hb;cases hz:yaj (ps.zip el) x with
   | some y'=>
    simp only [hz,Option.some.injEq] at hy;subst hy;obtain ⟨j,hj1,hj2⟩:=zlc hz;have hpx:=hps x (qab hj1);refine ⟨.inl hpx,?_⟩;obtain ⟨u,hu⟩:∃ u,vs[j]?=some u:=⟨_,qae (by rw [hvl];exact (qaa.1 hj2).1)⟩;rw [ydw,if_pos hx];simp only;rw [z3 j x u hj1 hu];have hp:yar y'=true:=ylz hel.2 y' (qab hj2);refine ((hvr j y' u hj2 hu).relive (fun id b n _ hm=>by rw [yar.ment hp] at hm;cases hm)).keep fun g hg=>⟨up1 g ⟨.inl hg,qbg (i1.ok0lt g hg) i1.base.size,fun id b n hb e=>?_⟩,rfl⟩;subst e;rcases (i1.mineOf ⟨id,n,hb⟩).1 with h|h
    .exact hdis b hg h
    have:=i1.ok0lt b hg;omega
   | none=>
    simp only [hz] at hy;have hxN:x < N:=(ht0 x y hy).resolve_right om;refine ⟨.inl hxN,?_⟩;rw [ydw,if_pos hx];simp only;rw [z2 x (ywc hel.1.symm hz),<- hvt x hx];exact (f1 x y hy).keep fun g hg=>⟨up1 g hg,rfl⟩
 have hA:=round _ _ _ _ _ s1;refine roundIn_of_wpIn trivial (wpIn_mono hA ?_);rintro e a2 W2 ⟨s2,lv2,⟨rfl,hbody⟩,h2⟩;have hW2l:W2.heap[l]?=some (.loop (rec .ready none)):=(h2.inv.base.block l hlt fun h=>hnl1 l h rfl).trans hWl;have hsz2:W.heap.size<=W2.heap.size:=h2.inv.base.size;have hm2:¬ Bse.mine ⟨W,ybw lv1,B.pin,some l,[],fun x=>vt (x - 1000000)⟩ l:=fun h=>by rcases h with h|h;exact hnl1 l h rfl;simp only at h;omega
 have hnl2:∀ b,ybw lv2 b->b≠l:=fun b hb=>yyu h2.inv hm2 hb;have hnok2:∀ g,yax ⟨W,ybw lv1,B.pin,some l,[],fun x=>vt (x - 1000000)⟩ (yax Bx okx lv1 W) lv2 W2 g->g≠l:=fun g hg e=>by subst e;rcases hg.1 with h|h;exact hnok1 _ h rfl;exact hm2 h
 refine ⟨_,run_beginRound hW2l (hrec _ _).1,?_⟩;rw [(hrec _ _).2.2,(hrec _ _).2.1];generalize hW3:W2.putObj l (.loop (rec .busy none))=W3;have hW3l:W3.heap[l]?=some (.loop (rec .busy none)):=by rw [<- hW3];exact World.putObj_heap_same om
 have hW3o:∀ k,k≠l->W3.heap[k]?=W2.heap[k]?:=fun k hk=>by rw [<- hW3];exact World.putObj_heap_other hk
 have hW3s:W3.heap.size=W2.heap.size:=by rw [<- hW3];simp
 have j3:=h2.inv.rebase (W1:=W3) (by rw [<- hW3];exact zbu h2.inv.base.glob hlg) om (fun g hg=>hW3o g (hnok2 g hg)) (fun b hb=>hW3o b (hnl2 b hb)) B.pin (some l) a2.defers (fun x=>vt (x - 1000000)) (fun l' h=>by cases h;exact ⟨⟨_,hW3l⟩,fun h=>hnl2 l h rfl⟩);have up3:∀ g,yax ⟨W,ybw lv1,B.pin,some l,[],fun x=>vt (x - 1000000)⟩ (yax Bx okx lv1 W) lv2 W2 g->yax ⟨W3,ybw lv2,B.pin,some l,a2.defers,fun x=>vt (x - 1000000)⟩ (yax ⟨W,ybw lv1,B.pin,some l,[],fun x=>vt (x - 1000000)⟩ (yax Bx okx lv1 W) lv2 W2) lv2 W3 g/\W3.heap[g]?=W2.heap[g]?:=
  fun g hg=>⟨⟨.inl hg,by rw [hW3s];exact hg.2.1,hg.2.2⟩,hW3o g (hnok2 g hg)⟩
 have s3:Sim ⟨W3,ybw lv2,B.pin,some l,a2.defers,fun x=>vt (x - 1000000)⟩ (yax ⟨W,ybw lv1,B.pin,some l,[],fun x=>vt (x - 1000000)⟩ (yax Bx okx lv1 W) lv2 W2) N s2 lv2 a2 W3:=
  ⟨j3,h2.size,fun x y hx=>⟨(h2.frame x y hx).1,(h2.frame x y hx).2.keep up3⟩,⟨[],rfl,qdp,fun d hd=>by cases hd⟩,hbig,h2.pin⟩
 refine wpIn_mono (hbody _ _ _ _ _ s3) ?_;rintro e a4 W4 ⟨s4,lv4,hq,h4⟩;have hlt3:l < W3.heap.size:=by omega
 have hW4l:W4.heap[l]?=some (.loop (rec .busy none)):=(h4.inv.base.block l hlt3 fun h=>hnl2 l h rfl).trans hW3l;have hsz4:W3.heap.size<=W4.heap.size:=h4.inv.base.size;have fin:∀ (h':Nat->Option LObj) (st:LoopState) (pe:Option Code),(∀ x y,t0 x=some y->s4.t (x+1000000)=some y)->(∀ id o,h' id=some o->s4.h id=some o)->yim B Bx okx N l rec t0 vt (rec st pe) h' (W4.putObj l (.loop (rec st pe))):=by
  intro h' st pe hgt hsub;refine ⟨World.putObj_heap_same om,?_⟩;rw [yrc];obtain ⟨lv5,i5,sub5,ok5⟩:=h4.inv.weak hsub;generalize hW5:W4.putObj l (.loop (rec .ready none))=W5;have hW5l:W5.heap[l]?=some (.loop (rec .ready none)):=by rw [<- hW5];exact World.putObj_heap_same om
  have hW5o:∀ k,k≠l->W5.heap[k]?=W4.heap[k]?:=fun k hk=>by rw [<- hW5];exact World.putObj_heap_other hk
  have hW5s:W5.heap.size=W4.heap.size:=by rw [<- hW5];simp
  have hm3:¬ Bse.mine ⟨W3,ybw lv2,B.pin,some l,a2.defers,fun x=>vt (x - 1000000)⟩ l:=fun h=>by rcases h with h|h;exact hnl2 l h rfl;simp only at h;omega
  have hG5:zba W5:=by rw [<- hW5];exact zbu h4.inv.base.glob hlg
  have hb1:Based ⟨W,ybw lv1,B.pin,some l,[],fun x=>vt (x - 1000000)⟩ W5:=by
   have b4:=h4.inv.base;have b2:=h2.inv.base;have e5:W5.os=W4.os/\W5.tape=W4.tape/\W5.output=W4.output:=by rw [<- hW5];exact ⟨rfl,rfl,rfl⟩
   have e3:W3.os=W2.os/\W3.tape=W2.tape/\W3.output=W2.output:=by rw [<- hW3];exact ⟨rfl,rfl,rfl⟩
   refine ⟨e5.1.trans (b4.os.trans (e3.1.trans b2.os)),e5.2.1.trans (b4.tape.trans (e3.2.1.trans b2.tape)),e5.2.2.trans (b4.output.trans (e3.2.2.trans b2.output)),by simp only;omega,fun k hk hnl=>?_,hG5,b2.gsize,b2.lentG,b2.rdok⟩;by_cases e:k=l
   .subst e;exact hW5l.trans hWl.symm
   refine (hW5o k e).trans ((b4.block k (by simp only at hk ⊢;omega) fun h=>?_).trans ((hW3o k e).trans (b2.block k hk hnl)));rcases live_back h2.inv h with h'|h'
   .exact hnl h'
   simp only at hk;omega
  obtain ⟨k1,k2⟩:=Inv.back h2.inv om i5 hb1 om (fun g hg=>hW5o g fun e=>by
   subst e
   rcases hg.1 with h|h
   .exact hnok2 _ h rfl
   exact hm3 h) (fun b hb=>hW5o b (yyu i5 hm3 hb))
  have hbx:Based Bx W5:=by
   have bx:=i1.base;refine ⟨hb1.os.trans bx.os,hb1.tape.trans bx.tape,hb1.output.trans bx.output,qbp bx.size hb1.size,fun k hk hnl=>?_,hG5,bx.gsize,bx.lentG,bx.rdok⟩;refine (hb1.block k (qbg hk bx.size) fun h=>?_).trans (bx.block k hk hnl);rcases (i1.mineOf h).1 with h'|h'
   .exact hnl h'
   omega
  obtain ⟨q1,q2⟩:=Inv.back i1 (qbh _) k1 hbx (qbh _) (fun _ _=>rfl) (fun _ _=>rfl);refine ⟨lv5,q1,fun x y hx=>?_,fun id b o hN hx hc hb=>?_⟩
  .have hf:=(h4.frame _ _ (hgt x y hx)).2;rw [ydw,if_neg om] at hf;simp only [Nat.add_sub_cancel] at hf;have hf5:=(hf.relive fun id b n hb _=>sub5 id b n hb).keep (fun g hg=>⟨ok5 g hg,rfl⟩);exact (hf5.keep k2).keep q2
  obtain ⟨n,hn⟩:=h4.pin id b o hN (hsub id o hx) hc hb;obtain ⟨b',n',g1,_⟩:=i5.obj id _ hx;have:=sub5 id b' n' g1;rw [hn] at this;cases this;exact ⟨n,g1⟩
 cases e with
 | normal=>
  refine ⟨_,_,run_endRound none hW4l,.inl ⟨rfl,?_⟩⟩;rw [(hrec _ _).2.2];exact fin _ .ready none hq.1 hq.2
 | ret=>
  obtain ⟨hx,g1,g2,g3⟩:=hq;refine ⟨_,_,run_endRound (some .ret) hW4l,.inr ⟨rfl,.ret,hx,.inl ⟨rfl,g3⟩,?_⟩⟩;rw [(hrec _ _).2.2];exact fin _ .done (some .ret) g1 g2
 | exit i=>
  obtain ⟨hx,g1,g2,g3⟩:=hq;refine ⟨_,_,run_endRound (some (.exit i)) hW4l,.inr ⟨rfl,.exit i,hx,.inr ⟨i,rfl,g3⟩,?_⟩⟩;rw [(hrec _ _).2.2];exact fin _ .done (some (.exit i)) g1 g2
 | goto l=>exact hq.elim
 | panic c=>exact hq.elim
 | outgrown=>exact hq.elim
theorem Inv.weakC {ok0:Nat->Prop} {h h':Nat->Option LObj} {ids:List Nat} (hi:Inv B ok0 h lv w) (hh:∀ id o,h' id=some o->h id=some o\/id∈ids/\∃ x xs,o=.cells (x::xs)/\h id=some (.vec (x::xs))):
  ∃ lv',Inv B ok0 h' lv' w/\(∀ id b n,lv' id=some (b,n)->lv id=some (b,n))/\∀ g,yax B ok0 lv w g->yax B ok0 lv' w g:=by
 obtain ⟨lv',h1,h2,h3⟩:=hi.weak (h':=fun i=>match h' i with|none=>none|some _=>h i) fun i o ho=>by
  split at ho
  .cases ho
  exact ho
 refine ⟨lv',⟨h1.base,h1.ok0lt,fun id hn=>h1.dom id (by simp [hn]),h1.inj,fun id o ho=>?_⟩,h2,h3⟩;rcases hh id o ho with e|⟨_,x,xs,rfl,e⟩
 .exact h1.obj id o (by simp only [ho];exact e)
 obtain ⟨b,n,q1,q2⟩:=h1.obj id (.vec (x::xs)) (by simp only [ho];exact e);refine ⟨b,n,q1,?_⟩;cases b with
 | none=>simp [ygb] at q2
 | some b=>exact ⟨q2.1,q2.2.1,q2.2.2.1⟩
def xjv (lv:Live) (ids:List Nat) (p:Nat->Option Nat) (x:Nat):Option Nat:=
 match ynr x ids with
 | true=>match lv x with
  | some (some b,_)=>some b
  | _=>none
 | false=>p x
structure LoopAt (P:Program) (N:Nat) (ps:List Nat) (assign body:Code) (Q:Exit->SS->Prop) (t0:Nat->Option AV) (caps:List AV) (ids:List Nat) (B Bx:Bse) (okx:Nat->Prop) (l:Nat) (rec:LoopState->Option Code->Loop) (vt:Nat->Value) (lv:Live) (lb:List Value) (W1:World):Prop where
 okLt:∀ g,okx g->g < W1.heap.size
 len:lb.length=caps.length
 caps:∀ (i:Nat) (c:AV) (u:Value),caps[i]?=some c->lb[i]?=some u->Rel okx W1 lv c u
 pin:∀ id∈ids,∃ b n,lv id=some (some b,n)/\B.pin id=some b
 pinx:∀ x,Bx.pin x=none
 mx:¬ Bx.mine l
 gl:GN<=l
 keep:∀ o h W',yim B Bx okx N l rec t0 vt o h W'->W1.heap.size<=W'.heap.size/\∀ g,okx g->W'.heap[g]?=W1.heap[g]?
 yield:∀ (hk:Nat->Nat->Option LObj) (k:Nat) (el:List AV) (vs:List Value) (W:World),(el.length=ps.length/\yar.pureL el=true)->A P N assign (fun e s1=>e=.normal/\A P N body (xek t0 hk k Q) s1) ⟨zas t0 ps el,hk k⟩->yim B Bx okx N l rec t0 vt (rec .ready none) (hk k) W->ybm okx W (fun _=>none) el vs ->
  YieldAt Fence.wide 0 P l vs.toArray W fun e W'=>(e=.returned (.bool true)/\yim B Bx okx N l rec t0 vt (rec .ready none) (hk (k+1)) W')\/(e=.returned (.bool false)/\∃ c h,((c=.ret/\Q .ret ⟨t0,h⟩)\/∃ i,c=.exit i/\Q (.exit i) ⟨t0,h⟩)/\yim B Bx okx N l rec t0 vt (rec .done (some c)) h W')
theorem zty (ids:List Nat) (hgv:evF s.t g=some (.fn gf caps)) (hbody:ylh P gf) (hps:∀ p∈ps,p < N) (hpn:ps.Nodup) (t0:Nat->Option AV) (ht0:∀ x y,t0 x=some y->s.t x=some y/\(x < N\/1000000<=x))
  (H0 HE:Nat->Option LObj) (h0:∀ id o,H0 id=some o->s.h id=some o\/id∈ids/\∃ x xs,o=.cells (x::xs)/\s.h id=some (.vec (x::xs))) (hids:∀ id∈ids,N<=id/\∃ xs,H0 id=some (.cells xs))
  (Q':Exit->SS->Prop) (hQ:∀ e h,Q' e ⟨t0,h⟩->∃ h',(∀ i o,h' i=some o->h i=some o/\i ∉ ids)/\Q e ⟨t0,h'⟩)
  (hcall:∀ (B Bx:Bse) (okx:Nat->Prop) (l:Nat) (rec:LoopState->Option Code->Loop) (vt:Nat->Value) (lv:Live) (lb:List Value) (W1:World),LoopAt P N ps assign body Q' t0 caps ids B Bx okx l rec vt lv lb W1->yim B Bx okx N l rec t0 vt (rec .ready none) H0 W1 ->
   CallsIn Fence.wide 0 P gf (#[.func (.yield l) #[] #[]]++lb.toArray) W1 fun e W'=>(∃ v,e=.returned v)/\(yim B Bx okx N l rec t0 vt (rec .ready none) HE W'\/∃ (c:Code) (h:Nat->Option LObj),((c=.ret/\Q' .ret ⟨t0,h⟩)\/∃ i,c=.exit i/\Q' (.exit i) ⟨t0,h⟩)/\yim B Bx okx N l rec t0 vt (rec .done (some c)) h W'))
  (done:Q' .normal ⟨t0,HE⟩):A P N (.rangeFunc g ps.toArray assign body) Q s:=by
 intro B ok0 lvs a w hs;have hfr:=hs.eval hgv;generalize hv:a.eval g=v at hfr;cases hfr with
 | fn lb hl hr=>
 obtain ⟨lv,hi,hsub,hok⟩:=hs.inv.weakC h0;have hbig:=hs.big;have hframe0:∀ x y,t0 x=some y->Rel (yax B ok0 lv w) w lv y (ydw B a x):=by
  intro x y hx;obtain ⟨g1,g2⟩:=ht0 x y hx;have:=(hs.frame x y g1).2;exact (this.relive fun id b n hb _=>hsub id b n hb).keep fun g hg=>⟨hok g hg,rfl⟩
 have hcaps:∀ (i:Nat) (c:AV) (u:Value),caps[i]?=some c->lb[i]?=some u->Rel (yax B ok0 lv w) w lv c u:=fun i c u h1 h2=>((hr i c u h1 h2).relive (fun id b n hb _=>hsub id b n hb)).keep fun g hg=>⟨hok g hg,rfl⟩;have hpin0:∀ id b o,N<=id->H0 id=some o->isC o=true->id ∉ ids->B.pin id=some b->∃ n,lv id=some (some b,n):=by
  intro id b o hN hx hc hni hb;obtain ⟨n,hn⟩:=hs.pin id b o hN ((h0 id o hx).resolve_right fun h=>hni h.1) hc hb;obtain ⟨b',n',g1,_⟩:=hi.obj id _ hx;have:=hsub id b' n' g1;rw [hn] at this;cases this;exact ⟨n,g1⟩
 obtain ⟨Bp,hBp⟩:∃ Bp:Bse,Bp.pin=xjv lv ids B.pin:=⟨⟨B.w,B.lent,xjv lv ids B.pin,B.rd,B.dl,B.gv⟩,rfl⟩;have hpins:∀ id b o,N<=id->H0 id=some o->isC o=true->Bp.pin id=some b->∃ n,lv id=some (some b,n):=by
  intro id b o hN hx hc hb;rw [hBp,xjv] at hb;split at hb
  .split at hb
   .rename_i b' n hlv;cases hb;exact ⟨n,hlv⟩
   cases hb
  rename_i hm;exact hpin0 id b o hN hx hc (fun h=>by rw [ydy.2 h] at hm;cases hm) hb
 have hpinB:∀ id b,id ∉ ids->B.pin id=some b->Bp.pin id=some b:=by
  intro id b hni hb;rw [hBp,xjv];split
  .rename_i hm;exact absurd (ydy.1 hm) hni
  exact hb
 refine wpIn_rangeFunc fun fn hfn=>?_;obtain ⟨l,mark,W1,D0,henter,hgrow,hl1,hlw,hmark⟩:∃ (l:Nat) (mark:List Deferred) (W1:World) (D0:Nat),
   (Instr.enterLoop fn a.tmps ps.toArray assign body (FW B.rd).round).run P w=.ok (l,mark) W1/\Below w.heap.size w W1/\W1.heap[l]?=some (.loop ({ state:=.ready,pending:=none,fn,tmps:=a.tmps,params:=ps.toArray,assign,body,defers:=D0 }:Loop))/\w.heap.size<=l /\
   (mark=[]\/∃ D,mark=[{ target:=.collected D,args:=#[] }]/\W1.heap[D]?=some (.deferred (some []))/\w.heap.size<=D/\D≠l):=by
  cases hrd:B.rd with
  | none=>
   refine ⟨_,_,_,w.heap.size,run_enterLoop_outer _ _ _ _ _,((Below.refl _ w).alloc (qbh _) _).alloc sm _,?_,om,.inr ⟨_,rfl,?_,qbh _,om⟩⟩
   .have:=World.alloc_heap_new (w.alloc (.deferred (some []))) (.loop { state:=.ready,pending:=none,fn,tmps:=a.tmps,params:=ps.toArray,assign,body,defers:=w.heap.size })
    rwa [World.size_alloc] at this
   exact (Below.heap_alloc _ _ _ sm).trans (World.alloc_heap_new w _)
  | some l0=>
   obtain ⟨⟨r0,hr0⟩,hnl⟩:=hs.inv.base.rdok l0 hrd;have hr1:w.heap[l0]?=some (.loop r0):=(hs.inv.base.block l0 (qbd.1 hr0).1 hnl).trans hr0;exact ⟨_,_,_,r0.defers,run_enterLoop_inner hr1 _ _ _ _ _,(Below.refl _ w).alloc (qbh _) _,World.alloc_heap_new w _,qbh _,.inl rfl⟩
 obtain ⟨rec,hrecd⟩:∃ rec:LoopState->Option Code->Loop,rec=fun st pe=>({ state:=st,pending:=pe,fn,tmps:=a.tmps,params:=ps.toArray,assign,body,defers:=D0 }:Loop):=⟨_,rfl⟩;have hrec:∀ st pe,(rec st pe).state=st/\(rec st pe).pending=pe/\∀ st' pe',{ rec st pe with state:=st',pending:=pe' }=rec st' pe':=fun st pe=>by subst hrecd;exact ⟨rfl,rfl,fun _ _=>rfl⟩
 have hl1':W1.heap[l]?=some (.loop (rec .ready none)):=by rw [hrecd];exact hl1
 have hG1:zba W1:=(hi.base.grow hgrow).glob;have hGN:GN<=w.heap.size:=qbp hi.base.gsize hi.base.size;have hltw:∀ b,ybw lv b->b < w.heap.size:=fun b hb=>(hi.mineOf hb).2;have hlt1:=(qbd.1 hl1').1;have j1:=hi.rebase hG1 hgrow.size (fun g hg=>hgrow.block g hg.2.1) (fun b hb=>hgrow.block b (hltw b hb)) (fun _=>none) none [] (fun _=>undef) (fun l h=>by cases h);have hnlive:∀ g,yax B ok0 lv w g->¬ ybw lv g:=fun g hg ⟨id,n,h⟩=>hg.2.2 id g n h rfl;refine ⟨l,mark,W1,{ target:=.fn (.func gf) lb.toArray,args:=#[.func (.yield l) #[] #[]] },W1,gf,#[.func (.yield l) #[] #[]]++lb.toArray,W1,henter,?_,fun _ _=>trivial,?_,fun hc=>(by cases hc),?_⟩
 .simp only [resolve,hv];simp [go_sem]
 .simp [invoke,go_sem,ygl hbody]
 have hK0:yim Bp ⟨W1,ybw lv,fun _=>none,none,[],fun _=>undef⟩ (yax B ok0 lv w) N l rec t0 (ydw B a) (rec .ready none) H0 W1:=by
  refine ⟨hl1',lv,?_,fun x y hx=>?_,hpins⟩
  .rw [ypi hl1'];exact j1
  rw [ypi hl1'];exact (hframe0 x y hx).keep fun g hg=>⟨⟨.inl hg,qbg hg.2.1 hgrow.size,hg.2.2⟩,hgrow.block g hg.2.1⟩
 have hback:∀ (o:Loop) (h:Nat->Option LObj) (W:World),yim Bp ⟨W1,ybw lv,fun _=>none,none,[],fun _=>undef⟩ (yax B ok0 lv w) N l rec t0 (ydw B a) o h W->∀ h':Nat->Option LObj,(∀ i o,h' i=some o->h i=some o/\i ∉ ids)->∃ lv',Sim B ok0 N ⟨t0,h'⟩ lv' { a with defers:=mark++a.defers } (W.putObj l (.loop { o with state:=.exhausted })):=by
  rintro o h W ⟨hWl,lv',i1,f1,p1⟩ h' hh';have hlt:=(qbd.1 hWl).1;have b1:=i1.base;generalize hW5:W.putObj l (.loop { o with state:=.exhausted })=W5;have hW5o:∀ k,k≠l->W5.heap[k]?=(W.putObj l (.loop (rec .ready none))).heap[k]?:=fun k hk=>by rw [<- hW5,World.putObj_heap_other hk,World.putObj_heap_other hk]
  have hW5s:W5.heap.size=(W.putObj l (.loop (rec .ready none))).heap.size:=by rw [<- hW5];simp
  have hG5:zba W5:=by
   have:=zbu (o:=.loop { o with state:=.exhausted }) b1.glob (l:=l) om
   rwa [yrc,hW5] at this
  have e5:W5.os=W.os/\W5.tape=W.tape/\W5.output=W.output:=by rw [<- hW5];exact ⟨rfl,rfl,rfl⟩
  have hold:∀ k,k < w.heap.size->¬ ybw lv k->W5.heap[k]?=w.heap[k]?:=fun k hk hn=>(hW5o k om).trans ((b1.block k (qbg hk hgrow.size) hn).trans (hgrow.block k hk));have hbB:Based B W5:=by
   refine ⟨e5.1.trans (b1.os.trans (hgrow.os.trans hi.base.os)),e5.2.1.trans (b1.tape.trans (hgrow.tape.trans hi.base.tape)),e5.2.2.trans (b1.output.trans (hgrow.output.trans hi.base.output)),?_,fun k hk hnl=>?_,hG5,hi.base.gsize,hi.base.lentG,hi.base.rdok⟩
   .rw [hW5s];exact qbp hi.base.size (qbp hgrow.size b1.size)
   refine (hold k (qbg hk hi.base.size) fun hb=>?_).trans (hi.base.block k hk hnl);rcases (hi.mineOf hb).1 with h'|h'
   .exact hnl h'
   omega
  have hmx:¬ Bse.mine ⟨W1,ybw lv,fun _=>none,none,[],fun _=>undef⟩ l:=fun h=>by rcases h with h|h;exact absurd (hltw l h) om;simp only at h;omega
  obtain ⟨k1,k2⟩:=Inv.back hi hgrow.size i1 hbB om (fun g hg=>hW5o g fun e=>by
   subst e
   rcases hg.1 with h|h
   .have:=h.2.1;omega
   exact hmx h) (fun b hb=>hW5o b (yyu i1 hmx hb))
  obtain ⟨lv2,k3,k4,k5⟩:=k1.weak (h':=h') fun i o ho=>(hh' i o ho).1;refine ⟨lv2,k3,hs.size,fun x y hx=>⟨(ht0 x y hx).2,?_⟩,?_,hbig,fun id b o hN hx hc hb=>?_⟩
  .exact (((f1 x y hx).keep k2).relive fun id b n hb _=>k4 id b n hb).keep fun g hg=>⟨k5 g hg,rfl⟩
  rotate_left
  .obtain ⟨n,hn⟩:=p1 id b o hN (hh' id o hx).1 hc (hpinB id b (hh' id o hx).2 hb);obtain ⟨b',n',g1,_⟩:=k3.obj id _ hx;have:=k4 id b' n' g1;rw [hn] at this;cases this;exact ⟨n,g1⟩
  obtain ⟨ms,g1,g2,g3⟩:=hs.defers;have hm:∀ d∈ms,∃ D,d={ target:=.collected D,args:=#[] }/\W5.heap[D]?=some (.deferred (some []))/\B.w.heap.size<=D/\D < w.heap.size:=by
   intro d hd;obtain ⟨D,q1,q2,q3⟩:=g3 d hd;have hDlt:=(qbd.1 q2).1;exact ⟨D,q1,(hold D hDlt fun ⟨id,n,h⟩=>(hi.lvat h).choose_spec.2.2.2.notDef q2).trans q2,q3,hDlt⟩
  refine ⟨mark++ms,by simp only;rw [g1,qbb],?_,fun d hd=>?_⟩
  .rcases hmark with rfl|⟨D,rfl,_,hD,_⟩
   .simpa using g2
   simp only [qax,qcn,qde];refine ⟨fun hin=>?_,g2⟩;obtain ⟨D',q1,_,_,q4⟩:=hm _ hin;simp only [Deferred.mk.injEq,Target.collected.injEq,and_true] at q1;omega
  rcases qau.1 hd with hd|hd
  .rcases hmark with rfl|⟨D,rfl,hD1,hD2,hD3⟩
   .cases hd
   simp only [qaq] at hd;refine ⟨D,hd,?_,qbp hi.base.size hD2⟩;exact (hW5o D hD3).trans ((b1.block D (qbd.1 hD1).1 fun h=>by have:=hltw D h;omega).trans hD1)
  obtain ⟨D,q1,q2,q3,_⟩:=hm d hd;exact ⟨D,q1,q2,q3⟩
 have hmx1:¬ Bse.mine ⟨W1,ybw lv,fun _=>none,none,[],fun _=>undef⟩ l:=fun h=>by rcases h with h|h;exact absurd (hltw l h) om;simp only at h;omega
 have hcall:=hcall Bp ⟨W1,ybw lv,fun _=>none,none,[],fun _=>undef⟩ (yax B ok0 lv w) l rec (ydw B a) lv lb W1 ⟨fun g hg=>qbg hg.2.1 hgrow.size,hl,fun i x u hx hu=>(hcaps i x u hx hu).keep fun g hg=>⟨hg,hgrow.block g hg.2.1⟩,fun id hid=>?_,fun _=>rfl,hmx1,om,fun o h W' hK=>?_,fun hk k el vs W2 hel' round hK hvs=>?_⟩ hK0
 .have hcall':CallsIn (FW B.rd) (0 - 1) P gf (#[.func (.yield l) #[] #[]]++lb.toArray) W1 _:=hcall;refine hcall'.mono ?_;rintro e W' ⟨⟨v,rfl⟩,hK|⟨c,h,hc,hK⟩⟩
  .obtain ⟨h',hh',done⟩:=hQ _ _ done;obtain ⟨lv',hsim⟩:=hback _ _ _ hK h' hh';refine ⟨none,W'.putObj l (.loop { rec .ready none with state:=.exhausted }),?_,⟨_,lv',done,hsim⟩⟩;exact (run_endLoop (P:=P) hK.1 (by rw [(hrec _ _).1];simp)).trans (congrArg (fun x=>Result.ok x (W'.putObj l (.loop { rec .ready none with state:=.exhausted }))) (hrec _ _).2.1)
  have hc':∃ h',(∀ i o,h' i=some o->h i=some o/\i ∉ ids)/\((c=.ret/\Q .ret ⟨t0,h'⟩)\/∃ i,c=.exit i/\Q (.exit i) ⟨t0,h'⟩):=by
   rcases hc with ⟨rfl,hq⟩|⟨i,rfl,hq⟩
   .obtain ⟨h',hh',q⟩:=hQ _ _ hq;exact ⟨h',hh',.inl ⟨rfl,q⟩⟩
   obtain ⟨h',hh',q⟩:=hQ _ _ hq;exact ⟨h',hh',.inr ⟨i,rfl,q⟩⟩
  obtain ⟨h',hh',hc⟩:=hc';obtain ⟨lv',hsim⟩:=hback _ _ _ hK h' hh';refine ⟨some c,W'.putObj l (.loop { rec .done (some c) with state:=.exhausted }),?_,?_⟩
  .exact (run_endLoop (P:=P) hK.1 (by rw [(hrec _ _).1];simp)).trans (congrArg (fun x=>Result.ok x (W'.putObj l (.loop { rec .done (some c) with state:=.exhausted }))) (hrec _ _).2.1)
  rcases hc with ⟨rfl,hq⟩|⟨i,rfl,hq⟩
  .exact wpIn_ret ⟨_,lv',hq,hsim⟩
  exact wpIn_exit ⟨_,lv',hq,hsim⟩
 .obtain ⟨hN,xs,hx⟩:=hids id hid;obtain ⟨b,n,g1,g2⟩:=hi.obj id _ hx;cases b with
  | none=>simp [ygb] at g2
  | some b=>exact ⟨b,n,g1,by rw [hBp,xjv,ydy.2 hid,g1]⟩
 .obtain ⟨_,lv',hI,_,_⟩:=hK;have hb:=hI.base;refine ⟨by simpa using hb.size,fun g hg=>?_⟩;have hne:g≠l:=by have:=hg.2.1;omega
  rw [<- World.putObj_heap_other (w:=W') (o:=.loop (rec .ready none)) hne];exact hb.block g (qbg hg.2.1 hgrow.size) (hnlive g hg)
 refine ⟨fn,_,assign,body,?_,round_K hrec hl1' (fun h=>by have:=hltw l h;omega) (fun h=>by have:=h.2.1;omega) (fun g hg=>hnlive g hg) om hs.size (fun x hx=>by rw [ydw,if_pos hx]) hbig hps hpn (fun x y hx=>(ht0 x y hx).2) hel' round hK hvs⟩;have:=run_yield (P:=P) (args:=vs.toArray) hK.1 (by rw [hrecd];simp [hvs.1,hel'.1]);rw [hrecd] at this;exact this
theorem A_rangeF (hgv:evF s.t g=some (.fn gf caps)) (hit:zcs P gf caps els) (hpe:∀ el∈els,el.length=ps.length/\yar.pureL el=true) (hps:∀ p∈ps,p < N) (hpn:ps.Nodup) (t0:Nat->Option AV) (ht0:∀ x y,t0 x=some y->s.t x=some y/\(x < N\/1000000<=x))
  (hk:Nat->Nat->Option LObj) (h0:∀ id o,hk 0 id=some o->s.h id=some o) (round:∀ k el,els[k]?=some el->A P N assign (fun e s1=>e=.normal/\A P N body (xek t0 hk k Q) s1) ⟨zas t0 ps el,hk k⟩)
  (done:Q .normal ⟨t0,hk els.length⟩):A P N (.rangeFunc g ps.toArray assign body) Q s:=
 zty [] hgv hit.1 hps hpn t0 ht0 (hk 0) (hk els.length) (fun id o h=>.inl (h0 id o h)) (fun id h=>by cases h) Q (fun e h hq=>⟨h,fun i o ho=>⟨ho,sm⟩,hq⟩) (fun B Bx okx l rec vt lv lb W1 hL hK0=>hit.2 l okx W1 lb (fun k W=>yim B Bx okx N l rec t0 vt (rec .ready none) (hk k) W)
  (fun W=>∃ (c:Code) (h:Nat->Option LObj),((c=.ret/\Q .ret ⟨t0,h⟩)\/∃ i,c=.exit i/\Q (.exit i) ⟨t0,h⟩)/\yim B Bx okx N l rec t0 vt (rec .done (some c)) h W)
  hL.okLt ⟨hL.len,fun i x u hx hu=>(hL.caps i x u hx hu).relive fun id b n hb _=>by cases hb⟩ (fun k W' hK=>hL.keep _ _ _ hK) (fun k W2 W3 hK hb=>hK.grow hb) (fun W2 W3 ⟨c,h,hc,hK⟩ hb=>⟨c,h,hc,hK.grow hb⟩) (fun k el vs W2 hel hK hvs=>hL.yield hk k el vs W2 (hpe el (qab hel)) (round k el hel) hK hvs) hK0) done
end
end
section
open Go.RowKit
def zdf:List (Nat × AV)->List (Nat × AV)
 | []=>[]
 | (x,y)::t=>(x+1000000,y)::zdf t
theorem ykz:∀ (t:List (Nat × AV)) (x:Nat),yaj (zdf t) (x+1000000)=yaj t x
 | [],x=>rfl
 | (a,y)::t,x=>by
  simp only [zdf,yaj];have e:Nat.beq (x+1000000) (a+1000000)=Nat.beq x a:=by
   cases h:Nat.beq x a with
   | true=>rw [qaf h];simp
   | false=>
    refine ycr fun e=>?_;obtain rfl:x=a:=by omega
    simp at h
  rw [e];cases Nat.beq x a with
  | true=>rfl
  | false=>exact ykz t x
theorem ytn:∀ {t:List (Nat × AV)} {x:Nat} {y:AV},yaj (zdf t) x=some y->1000000<=x
 | [],x,y,h=>by simp [zdf,yaj] at h
 | (a,z)::t,x,y,h=>by
  simp only [zdf,yaj] at h;cases hb:Nat.beq x (a+1000000) with
  | true=>have:=qaf hb;omega
  | false=>simp only [hb] at h;exact ytn h
theorem zem:∀ {a b:List (Nat × AV)} {x:Nat},yaj (a++b) x=match yaj a x with|some y=>some y|none=>yaj b x
 | [],b,x=>rfl
 | (d,r)::a,b,x=>by
  simp only [qax,yaj];cases Nat.beq x d with
  | true=>rfl
  | false=>exact zem
def zpk (n:Nat):List Nat->Bool
 | []=>true
 | x::t=>Nat.blt x n && zpk n t
theorem ysi:∀ {t:List Nat},zpk n t=true->∀ x∈t,x < n
 | [],_,x,h=>by cases h
 | a::t,hl,x,h=>by
  simp only [zpk,qac,qhk] at hl;rcases qas.1 h with rfl|h
  .exact hl.1
  exact ysi hl.2 x h
theorem ylx:∀ {l:List Nat},ydm l=true->l.Nodup
 | [],_=>qdp
 | k::l,h=>by
  simp only [ydm] at h;cases hm:ynr k l with
  | true=>simp [hm] at h
  | false=>
   simp only [hm] at h;exact qde.2 ⟨fun hin=>(by rw [ydy.2 hin] at hm;cases hm),ylx h⟩
def xby:List (Nat × AV)->List (Nat × AV)
 | []=>[]
 | (x,y)::t=>match Nat.ble 1000000 x with
  | true=>xby t
  | false=>(x,y)::xby t
theorem ywb:∀ {t:List (Nat × AV)} {x:Nat},yaj (xby t) x=match Nat.ble 1000000 x with|true=>none|false=>yaj t x
 | [],x=>by cases h:Nat.ble 1000000 x <;> rfl
 | (a,z)::t,x=>by
  have ih:=ywb (t:=t) (x:=x);simp only [xby];cases ha:Nat.ble 1000000 a with
  | true=>
   simp only;rw [ih];cases hx:Nat.ble 1000000 x with
   | true=>rfl
   | false=>
    simp only [yaj];rw [ycr (fun e=>by subst e;rw [ha] at hx;cases hx)]
  | false=>
   simp only [yaj];cases hb:Nat.beq x a with
   | true=>rw [qaf hb,ha]
   | false=>simp only;rw [ih]
def zox (n:Nat):List (Nat × AV)->Bool
 | []=>true
 | (x,_)::t=>(Nat.blt x n || Nat.ble 1000000 x) && zox n t
theorem yuo:∀ {t:List (Nat × AV)},zox n t=true->∀ x y,yaj t x=some y->x < n\/1000000<=x
 | [],_,x,y,h=>by simp [yaj] at h
 | (a,z)::t,hl,x,y,h=>by
  simp only [zox,qac,qcm,qhk,qdj] at hl;simp only [yaj] at h;cases hb:Nat.beq x a with
  | true=>rw [qaf hb];exact hl.1
  | false=>simp only [hb] at h;exact yuo hl.2 x y h
def zxm (ps:List Nat) (el:List AV) (t0:List (Nat × AV)):List (Nat × AV):=ps.zip el++(xby t0++zdf t0)
theorem zfn {ps:List Nat} {el:List AV} {x:Nat} {y:AV} (hps:zpk 1000000 ps=true) (hx:yaj (zxm ps el t0) x=some y):zas (yaj t0) ps el x=some y:=by
 simp only [zxm,zem,ywb] at hx;unfold zas;cases hb:Nat.ble 1000000 x with
 | true=>
  have hx1:1000000<=x:=by simpa using hb
  simp only;cases hz:yaj (ps.zip el) x with
  | some y'=>
   obtain ⟨j,hj,_⟩:=zlc hz;have:=ysi hps x (qab hj);omega
  | none=>
   simp only [hz,hb] at hx;have:=ykz t0 (x - 1000000);rw [show x - 1000000+1000000=x by omega] at this;rw [<- this];exact hx
 | false=>
  simp only;have hx1:=xfg hb;cases hz:yaj (ps.zip el) x with
  | some y'=>simp only [hz] at hx;exact hx
  | none=>
   simp only [hz,hb] at hx;simp only;cases hz2:yaj t0 x with
   | some y'=>simp only [hz2] at hx;exact hx
   | none=>simp only [hz2] at hx;have:=ytn hx;omega
theorem zcq {N:Nat} {ps:List Nat} {assign body:Code} {t:List (Nat × AV)} {h:List (Nat × Option LObj)} {gf:Nat} {els:List (List AV)} (hgv:evF (yaj t) g=some (.fn gf caps)) (hit:zcs P gf caps els) (hpe:∀ el∈els,el.length=ps.length/\yar.pureL el=true) (hps:(zpk N ps && (ydm ps && zpk 1000000 ps))=true) (t0:List (Nat × AV)) (ht0:yxu t t0) (hlt:zox N t0=true) (hk:Nat->List (Nat × Option LObj)) (h0:∀ id o,yac (hk 0) id=some o->yac h id=some o) (round:∀ k el,els[k]?=some el->A P N assign (fun e s1=>e=.normal/\A P N body (xek (yaj t0) (fun k=>yac (hk k)) k Q) s1) (S (zxm ps el t0) (hk k))) (done:Q .normal (S t0 (hk els.length))):A P N (.rangeFunc g ps.toArray assign body) Q (S t h):=by
 simp only [qac] at hps;refine A_rangeF hgv hit hpe (ysi hps.1) (ylx hps.2.1) (yaj t0) (fun x y hx=>⟨ybo ht0 x y hx,yuo hlt x y hx⟩) (fun k=>yac (hk k)) h0 (fun k el hel=>?_) done;exact ynu (round k el hel) ⟨fun x y hx=>zfn hps.2.2 hx,fun id o ho=>ho⟩
theorem xdg {t1:List (Nat × AV)} {hk:Nat->List (Nat × Option LObj)} {h1:List (Nat × Option LObj)} {k:Nat} (g1:yxu t1 (zdf t0)) (g2:∀ id o,yac (hk (k+1)) id=some o->yac h1 id=some o):xek (yaj t0) (fun k=>yac (hk k)) k Q .normal (S t1 h1):=
 ⟨fun x y hx=>ybo g1 _ y (by rw [ykz];exact hx),g2⟩
theorem zxl {t1:List (Nat × AV)} {hk:Nat->List (Nat × Option LObj)} {h1:List (Nat × Option LObj)} {k:Nat} (hx:List (Nat × Option LObj)) (g1:yxu t1 (zdf t0)) (g2:yts h1 hx) (hq:Q .ret (S t0 hx)):xek (yaj t0) (fun k=>yac (hk k)) k Q .ret (S t1 h1):=
 ⟨yac hx,fun x y hx=>ybo g1 _ y (by rw [ykz];exact hx),yai g2,hq⟩
section
variable {P:Program} {n:Nat} {ops:Array Oper} {Q:Exit->Act->World->Prop} {a:Act} {w:World}
theorem opI {i:Nat} {rest:List Nat} {o:Oper} (u:Value) (ho:ops[i]?=some o) (hg:o.guard=none) (hd:yni o.op=false) (hr:(execOp a.eval o).run P w=.ok (.value u) w) (k:wpOpsIn Fence.wide n P ops Q rest (a.put o.dst u) w):wpOpsIn Fence.wide n P ops Q (i::rest) a w:=by
 have hw:Region.wanted o (yielded ops a.tmps)=true:=by simp [Region.wanted,hg]
 simp only [wpOpsIn,ho,hw,if_true];refine ynl (rd:=none) hd ?_;unfold Oper.wp;rw [hr];exact k
theorem zfc {i:Nat} {rest:List Nat} {o:Oper} {args:Array Operand} {ats:Array TypeId} {l:Nat} {R:Ending->World->Prop} (ho:ops[i]?=some o) (hg:o.guard=none) (hop:o.op=.call { callee:=.value g,args:=args,argTypes:=ats }) (hv:a.eval g=.func (.yield l) #[] #[]) (hy:YieldAt Fence.wide 0 P l (args.map a.eval) w R) (k:∀ e w',R e w'->∃ u,e=.returned u/\wpOpsIn Fence.wide n P ops Q rest (a.put o.dst u) w'):wpOpsIn Fence.wide n P ops Q (i::rest) a w:=by
 have hw:Region.wanted o (yielded ops a.tmps)=true:=by simp [Region.wanted,hg]
 simp only [wpOpsIn,ho,hw,if_true];obtain ⟨fn,tmps,assign,body,hrun,hround⟩:=hy;refine ⟨fun _ _=>trivial,?_⟩;have hrun2:(o.semAt (Fence.wide).round a.eval).run P w=.ok (.round l fn tmps assign body) w:=by
  show (execOp a.eval o).run P w=_;unfold execOp;simp only [hop,resolve,Deferred.ofValue,hv,Sem.run_bind,Sem.run_pure,Result.andThen_ok,invoke];simpa using hrun
 rw [hrun2];refine ⟨fun hc=>(by cases hc),?_⟩;have hround':RoundIn Fence.wide (n - 1) P l fn tmps assign body w R:=⟨trivial,fun c cs _=>hround.2 c cs (room_wide _)⟩;refine hround'.mono fun e w' hR=>?_;obtain ⟨u,rfl,hk⟩:=k e w' hR;exact hk
end
end
end Go.Proofs.YtgpodcjhgdionaaGreatDoor
