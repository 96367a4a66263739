/- Part 5 of the texts under TopWorstIsPlayed. -/
import Derived.Lib.AppendStr
import Derived.Lib.UnsafeStr
import Derived.Lib.Builder
import Derived.Laws.Externs
import Derived.Laws.Pointers
import Derived.LaidEqlPtr
import Derived.RangeFuncNested
import Derived.RangeFuncSeq
import Derived.Test.YtgpodcjhgdionaaGreatDoorCW4
set_option linter.unusedVariables false
namespace Go.Proofs.YtgpodcjhgdionaaGreatDoor
open Go.Proofs.Tryz
variable{hs':List (Nat × Option LObj)}{sg:List (Nat × Nat)}{h:Nat->Option LObj}{ok0:Nat->Prop}{ats:Array TypeId}{args:List Operand}{w W1 w':World}{ids:List Nat}{lv lv':Live}{caps xs:List AV}{g:Operand}{pin:Nat->Option Nat}{f:FuncId}{dl:List Deferred}{B:Bse}{σ:Nat->Nat}{rd:Option Nat}{gv:Nat->Value}{i l b n:Nat}{o:Oper}{P:Program}{r:AV}{s:SS}
section
open Go.RowKit
variable{x:LObj}
def yfz(σ:Nat->Nat):AV->AV
 | .lp id off=>.lp (σ id) off
 | .ls id s n=>.ls (σ id) s n
 | .mp id=>.mp (σ id)
 | .agg cs=>.agg (renL cs)
 | .tup cs=>.tup (renL cs)
 | .fn f cs=>.fn f (renL cs)
 | .fm f cs=>.fm f (renL cs)
 | x=>x
 where renL:List AV->List AV
 | []=>[]
 | c::cs=>yfz σ c::renL cs
theorem ycs(σ:Nat->Nat):∀ cs,yfz.renL σ cs=cs.map (yfz σ)
 | []=>rfl
 | c::cs=>by simp[yfz.renL,ycs σ cs]
def yex(ids:List Nat):AV->Bool
 | .lp id _=>ids.contains id
 | .ls id _ _=>ids.contains id
 | .mp id=>ids.contains id
 | .agg cs=>onlyL cs
 | .tup cs=>onlyL cs
 | .fn _ cs=>onlyL cs
 | .fm _ cs=>onlyL cs
 | _=>true
 where onlyL:List AV->Bool
 | []=>true
 | c::cs=>yex ids c && onlyL cs
def zcg(σ:Nat->Nat):LObj->LObj
 | .cells xs=>.cells (yfz.renL σ xs)
 | .tcells e xs=>.tcells e (yfz.renL σ xs)
 | .mcells xs=>.mcells (yfz.renL σ xs)
 | o=>o
def yoz(ids:List Nat):LObj->Bool
 | .cells xs=>yex.onlyL ids xs
 | .tcells _ xs=>yex.onlyL ids xs
 | .mcells xs=>yex.onlyL ids xs
 | _=>true
theorem yju(σ:Nat->Nat)(x:AV):yeb (yfz σ x)=yeb x:=by cases x <;> rfl
section
variable{ok:Nat->Prop}{w:World}{lv lv1:Live}{σ:Nat->Nat}
theorem Rel.unren(hl:∀ id b n,lv1 id=some (b,n)->lv (σ id)=some (b,n)):∀ {x:AV} {u:Value},Rel ok w lv (yfz σ x) u->Rel ok w lv1 x u
 | .v _,u,h=>by cases h;exact .v _
 | .any,u,h=>.any u
 | .one,u,h=>by cases h with|one _ h1=>exact .one _ h1
 | .sl s rows,u,h=>by cases h with|sl a cap u g o hn hc ha hr hg hcell hrel=>exact .sl a cap u g o hn hc ha hr hg hcell hrel
 | .dp row off,u,h=>by cases h with|dp g o u hg hcell hrel=>exact .dp g o u hg hcell hrel
 | .mv es,u,h=>by cases h with|mv b hg hm=>exact .mv b hg hm
 | .lp id off,u,h=>by cases h with|lp _ h1 h2=>exact .lp _ h1 fun b n hb=>h2 b n (hl id _ n hb)
 | .ls id s n,u,h=>by cases h with|ls _ h1 h2=>exact .ls _ h1 fun b n hb=>h2 b n (hl id _ n hb)
 | .mp id,u,h=>by cases h with|mp _ h1 h2=>exact .mp _ h1 fun b n hb=>h2 b n (hl id _ n hb)
 | .agg cs,u,h=>by
  cases h with
  | agg vs hlen hc hr=>
   exact .agg vs (by rw[hlen,ycs];simp) (fun c hm=>by rw[<- yju σ];exact hc _ (by rw[ycs];exact qde hm)) (rows hr)
 | .tup cs,u,h=>by
  cases h with
  | tup vs hlen hr=>exact .tup vs (by rw[hlen,ycs];simp) (rows hr)
 | .fn f cs,u,h=>by
  cases h with
  | fn vs hlen hr=>exact .fn vs (by rw[hlen,ycs];simp) (rows hr)
 | .fm f cs,u,h=>by
  cases h with
  | fm vs hlen hr=>exact .fm vs (by rw[hlen,ycs];simp) (rows hr)
 where rows:∀ {cs:List AV} {vs:List Value},(∀ (i:Nat) (c:AV) (u:Value),(yfz.renL σ cs)[i]?=some c->vs[i]?=some u->Rel ok w lv c u)->∀ (i:Nat) (c:AV) (u:Value),cs[i]?=some c->vs[i]?=some u->Rel ok w lv1 c u
 | [],vs,_,i,c,u,hc,_=>by simp at hc
 | d::cs,[],_,i,c,u,_,hu=>by simp at hu
 | d::cs,q::vs,h,0,c,u,hc,hu=>by
  simp at hc hu;subst hc hu;exact Rel.unren hl (h 0 _ _ rfl rfl)
 | d::cs,q::vs,h,i+1,c,u,hc,hu=>rows (fun j c u h1 h2=>h (j+1) c u (by simpa[yfz.renL]using h1) (by simpa using h2)) i c u (by simpa using hc) (by simpa using hu)
theorem Rel.ren{ids:List Nat}(hl:∀ id b n,id∈ids->lv (σ id)=some (b,n)->lv1 id=some (b,n)):∀ {x:AV} {u:Value},yex ids x=true->Rel ok w lv1 x u->Rel ok w lv (yfz σ x) u
 | .v _,u,_,h=>by cases h;exact .v _
 | .any,u,_,h=>.any u
 | .one,u,_,h=>by cases h with|one _ h1=>exact .one _ h1
 | .sl s rows,u,_,h=>by cases h with|sl a cap u g o hn hc ha hr hg hcell hrel=>exact .sl a cap u g o hn hc ha hr hg hcell hrel
 | .dp row off,u,_,h=>by cases h with|dp g o u hg hcell hrel=>exact .dp g o u hg hcell hrel
 | .mv es,u,_,h=>by cases h with|mv b hg hm=>exact .mv b hg hm
 | .lp id off,u,ho,h=>by cases h with|lp _ h1 h2=>exact .lp _ h1 fun b n hb=>h2 b n (hl id _ n (by simpa[yex]using ho) hb)
 | .ls id s n,u,ho,h=>by cases h with|ls _ h1 h2=>exact .ls _ h1 fun b n hb=>h2 b n (hl id _ n (by simpa[yex]using ho) hb)
 | .mp id,u,ho,h=>by cases h with|mp _ h1 h2=>exact .mp _ h1 fun b n hb=>h2 b n (hl id _ n (by simpa[yex]using ho) hb)
 | .agg cs,u,ho,h=>by
  cases h with
  | agg vs hlen hc hr=>
   refine .agg vs (by rw[hlen,ycs];simp) (fun c hm=>?_) (rows ho hr);rw[ycs]at hm;obtain⟨y,hy,rfl⟩:=qag.1 hm;rw[yju];exact hc y hy
 | .tup cs,u,ho,h=>by
  cases h with
  | tup vs hlen hr=>exact .tup vs (by rw[hlen,ycs];simp) (rows ho hr)
 | .fn f cs,u,ho,h=>by
  cases h with
  | fn vs hlen hr=>exact .fn vs (by rw[hlen,ycs];simp) (rows ho hr)
 | .fm f cs,u,ho,h=>by
  cases h with
  | fm vs hlen hr=>exact .fm vs (by rw[hlen,ycs];simp) (rows ho hr)
 where rows:∀ {cs:List AV} {vs:List Value},yex.onlyL ids cs=true->(∀ (i:Nat) (c:AV) (u:Value),cs[i]?=some c->vs[i]?=some u->Rel ok w lv1 c u)->∀ (i:Nat) (c:AV) (u:Value),(yfz.renL σ cs)[i]?=some c->vs[i]?=some u->Rel ok w lv c u
 | [],vs,_,_,i,c,u,hc,_=>by simp[yfz.renL]at hc
 | d::cs,[],_,_,i,c,u,_,hu=>by simp at hu
 | d::cs,q::vs,ho,h,0,c,u,hc,hu=>by
  simp only[yex.onlyL,qad]at ho;simp[yfz.renL]at hc hu;subst hc hu;exact Rel.ren hl ho.1 (h 0 _ _ rfl rfl)
 | d::cs,q::vs,ho,h,i+1,c,u,hc,hu=>by
  simp only[yex.onlyL,qad]at ho;exact rows ho.2 (fun j c u h1 h2=>h (j+1) c u (by simpa using h1) (by simpa using h2)) i c u (by simpa[yfz.renL]using hc) (by simpa using hu)
end
def yby(lv:Live)(b:Nat):Prop:=∃ id n,lv id=some (some b,n)
def yfc(w:World)(lv:Live):Bse:=⟨w,yby lv,fun _=>none,none,[],fun _=>undef⟩
def ytb(P:Program)(f:FuncId)(args:List AV)(hs:Nat->Option LObj)(r:AV)(hs':Nat->Option LObj):Prop:=
 ylj P f/\(∀ id o,hs' id=some o->isC o=true->∃ o',hs id=some o'/\isC o'=true)/\∀ (ok0:Nat->Prop) (lv:Live) (w:World) (us:List Value),Inv (yfc w lv) ok0 hs lv w->ybn (yba (yfc w lv) ok0 lv w) w lv args us ->
  Calls P f us.toArray w fun e w'=>∃ u lv',e=.returned u/\Rel (yba (yfc w lv) ok0 lv' w') w' lv' r u/\Inv (yfc w lv) ok0 hs' lv' w'/\∀ id o,hs' id=some o->isC o=true->∃ b n n',lv id=some (some b,n)/\lv' id=some (some b,n')
theorem Inv.pinned(hi:Inv B ok0 h lv w)(p:Nat->Option Nat)(rd:Option Nat)(dl:List Deferred)(gv:Nat->Value)(hrd:∀ l,rd=some l->(∃ r,B.w.heap[l]?=some (.loop r))/\¬ B.lent l):Inv ⟨B.w,B.lent,p,rd,dl,gv⟩ ok0 h lv w:=
 ⟨⟨hi.base.os,hi.base.tape,hi.base.output,hi.base.size,hi.base.block,hi.base.glob,hi.base.gsize,hi.base.lentG,hrd⟩,hi.ok0lt,hi.dom,hi.inj,fun id x hx=>by
  obtain⟨b,n,h1,h2⟩:=hi.obj id x hx
  refine⟨b,n,h1,?_⟩
  cases b with
  | none=>exact h2
  | some b=>exact h2⟩
def xbg(T:Nat->Option Ty)(rs:List ResultVar)(r:AV)(hs':Nat->Option LObj):Exit->SS->Prop
 | .normal,s=>∃ x,yrf T s rs=some x/\Wk x r/\∀ id o,hs' id=some o->s.h id=some o
 | .ret,s=>∃ x,yrf T s rs=some x/\Wk x r/\∀ id o,hs' id=some o->s.h id=some o
 | _,_=>False
theorem zdh {T:Nat → Option Ty} (hT : TOK P T) {fn:Func} {c:Code} {N:Nat} {rs:List ResultVar} {args:List AV} {hs hs':Nat → Option LObj} (hf : P.funcs[f]? = some fn) (hn : (fn.name == "runtime.NumGoroutine") = false) (hb : fn.body = some c) (hN : fn.ntmps = N) (hrs : fn.results = rs.toArray) (hlen : (Nat.ble args.length N && Nat.ble N 1000000) = true) (hcl:∀ id o,hs' id=some o→isC o=true→N≤id∧∃ o',hs id=some o'∧isC o'=true) (h:A P N c (xbg T rs r hs') ⟨yak (yfj 0 args),hs⟩):ytb P f args hs r hs':=by
 refine⟨⟨fn,hf,hn,by simp[hb]⟩,fun id o hx hc=>(hcl id o hx hc).2,fun ok0 lv w us hi hus=>?_⟩;simp only[qad,qdr]at hlen;obtain⟨hlen',hbig⟩:=hlen;refine(callsIn_wide (n:=0)).1 (callsIn_of_wp_marks hf hb trivial ?_);have hsim:Sim ⟨w,yby lv,fun id=>(lv id).bind (·.1),none,[],fun _=>undef⟩ ok0 N ⟨yak (yfj 0 args),hs⟩ lv { tmps:=us.toArray++Array.replicate (fn.ntmps - us.toArray.size) undef,defers:=[] } w:=by
  refine⟨hi.pinned _ _ _ _ (fun l h=>by cases h),?_,fun x y hy=>?_,⟨[],rfl,qdu,fun d hd=>by cases hd⟩,hbig,fun id b o hN hx hc hb=>?_⟩
  .simp [hN,hus.1];omega
  .simp only[ylb]at hy;have hlt:=(qaa.1 hy).1;refine⟨.inl om,?_⟩;rw[ydx,if_pos om];obtain⟨u,hu⟩:∃ u,us[x]?=some u:=⟨_,qae (by rw[hus.1];exact hlt)⟩;simp only[yfm us _ x u hu];exact hus.2 x y u hy hu
  simp only at hb;cases hl:lv id with
  | none=>simp[hl]at hb
  | some q=>obtain⟨q1,q2⟩:=q;simp[hl]at hb;subst hb;exact⟨q2,rfl⟩
 refine wpIn_mono (h _ ok0 _ _ w hsim) fun e a' w' ⟨s',lv',hq,hs2⟩=>?_;have fin:∀ x,yrf T s' rs=some x->Wk x r->(∀ id o,hs' id=some o->s'.h id=some o)->∀ (a':Act) (w':World),Sim ⟨w,yby lv,fun id=>(lv id).bind (·.1),none,[],fun _=>undef⟩ ok0 N s' lv' a' w'->∃ v,(results fn a'.tmps).run P w'=.ok v w'/\∃ u lv2,Ending.returned v=.returned u/\Rel (yba (yfc w lv) ok0 lv2 w') w' lv2 r u/\Inv (yfc w lv) ok0 hs' lv2 w'/\∀ id o,hs' id=some o->isC o=true->∃ b n n',lv id=some (some b,n)/\lv2 id=some (some b,n'):=by
  intro x hx hwk hsub a' w' hs2;obtain⟨u,hu,hrun⟩:=yrg (P:=P) hT hs2 hrs hx;obtain⟨lv2,i1,i2,i3⟩:=hs2.inv.weak hsub;refine⟨u,hrun,u,lv2,rfl,hwk.rel _ _ _ _ ((hu.relive fun id b n hb _=>i2 id b n hb).keep fun g hg=>⟨i3 g hg,rfl⟩),i1.pinned _ _ _ _ (fun l h=>by cases h),fun id o hx hc=>?_⟩;obtain⟨h1,o',hy,hc'⟩:=hcl id o hx hc;obtain⟨b,n,hb,ho⟩:=hi.obj id _ hy;cases b with
  | none=>simp only[yge]at ho;rcases ho with rfl|⟨e,rfl⟩ <;> cases hc'
  | some b=>
   obtain⟨n',hn'⟩:=hs2.pin id b o h1 (hsub id _ hx) hc (by simp[hb]);obtain⟨b2,n2,hb2,_⟩:=i1.obj id _ hx;have:=i2 id b2 n2 hb2;rw[hn']at this;cases this;exact⟨b,n,_,hb,hb2⟩
 cases e with
 | normal=>obtain⟨x,hx,h1,h2⟩:=hq;exact yck rfl rfl (fin x hx h1 h2) _ a' w' rfl hs2
 | ret=>obtain⟨x,hx,h1,h2⟩:=hq;exact yck rfl rfl (fin x hx h1 h2) _ a' w' rfl hs2
 | _=>exact hq.elim
theorem yho.unren{ok ok':Nat->Prop}{lv1:Live}(hl:∀ id b n,lv1 id=some (b,n)->lv (σ id)=some (b,n))(hk:∀ g,ok g->ok' g)(h:yho ok lv w b n (zcg σ x)):yho ok' lv1 w b n x:=by
 cases x with
 | cells xs=>
  obtain⟨c,e,g1,g2,g3,g4,g5⟩:=h;rw[ycs]at g3 g4 g5;refine⟨c,e,g1,g2,by simpa using g3,fun y hy=>by rw[<- yju σ];exact g4 _ (qde hy),fun j y u hy hu=>?_⟩;exact(Rel.unren hl (g5 j (yfz σ y) u (by simp[hy]) hu)).keep fun g hg=>⟨hk g hg,rfl⟩
 | vec xs=>
  obtain⟨⟨c,e,g1,g2,g3,g4,g5⟩,hp⟩:=h;exact⟨⟨c,e,g1,g2,g3,g4,fun j y u hy hu=>((g5 j y u hy hu).relive fun id b n _ hm=>by rw[yas.ment (hp y (qab hy))]at hm;cases hm).keep fun g hg=>⟨hk g hg,rfl⟩⟩,hp⟩
 | map es=>exact h
 | iter es left cur=>exact ytc.keep h (fun g hg=>⟨hk g hg,rfl⟩) rfl
 | siter s pos=>exact h
 | tcells e xs=>
  obtain⟨⟨c,e',g1,g2,g3,g4,g5⟩,hsh⟩:=h;rw[ycs]at g3 g4 g5 hsh;exact⟨⟨c,e',g1,g2,by simpa using g3,fun y hy=>by rw[<- yju σ];exact g4 _ (qde hy),fun j y u hy hu=>(Rel.unren hl (g5 j (yfz σ y) u (by simp[hy]) hu)).keep fun g hg=>⟨hk g hg,rfl⟩⟩,by simpa using hsh⟩
 | tvec e xs=>
  obtain⟨⟨c,e',g1,g2,g3,g4,g5⟩,hp,hsh⟩:=h;exact⟨⟨c,e',g1,g2,g3,g4,fun j y u hy hu=>((g5 j y u hy hu).relive fun id b n _ hm=>by rw[yas.ment (hp y (qab hy))]at hm;cases hm).keep fun g hg=>⟨hk g hg,rfl⟩⟩,hp,hsh⟩
 | mcells xs=>
  obtain⟨c,e,g1,g2,g3,g4,g5⟩:=h;rw[ycs]at g3 g4 g5;refine⟨c,e,g1,g2,by simpa using g3,fun y hy=>by rw[<- yju σ];exact g4 _ (qde hy),fun j y u hy hu=>?_⟩;exact(Rel.unren hl (g5 j (yfz σ y) u (by simp[hy]) hu)).keep fun g hg=>⟨hk g hg,rfl⟩
theorem yho.ren{ok ok':Nat->Prop}{lv1:Live}(hl:∀ id b n,id∈ids->lv (σ id)=some (b,n)->lv1 id=some (b,n))(ho:yoz ids x=true)(hk:∀ g,ok g->ok' g)(h:yho ok lv1 w b n x):yho ok' lv w b n (zcg σ x):=by
 cases x with
 | cells xs=>
  obtain⟨c,e,g1,g2,g3,g4,g5⟩:=h;refine⟨c,e,g1,g2,by rw[ycs];simpa using g3,fun y hy=>?_,fun j y u hy hu=>?_⟩
  .rw [ycs]at hy;obtain⟨z,hz,rfl⟩:=qag.1 hy;rw[yju];exact g4 z hz
  exact(Rel.ren.rows (vs:=c.toList) hl ho (fun j y u hy hu=>g5 j y u hy (by simpa using hu)) j y u hy (by simpa using hu)).keep fun g hg=>⟨hk g hg,rfl⟩
 | vec xs=>
  obtain⟨⟨c,e,g1,g2,g3,g4,g5⟩,hp⟩:=h;exact⟨⟨c,e,g1,g2,g3,g4,fun j y u hy hu=>((g5 j y u hy hu).relive fun id b n _ hm=>by rw[yas.ment (hp y (qab hy))]at hm;cases hm).keep fun g hg=>⟨hk g hg,rfl⟩⟩,hp⟩
 | map es=>exact h
 | iter es left cur=>exact ytc.keep h (fun g hg=>⟨hk g hg,rfl⟩) rfl
 | siter s pos=>exact h
 | tcells e xs=>
  obtain⟨⟨c,e',g1,g2,g3,g4,g5⟩,hsh⟩:=h;refine⟨⟨c,e',g1,g2,by rw[ycs];simpa using g3,fun y hy=>?_,fun j y u hy hu=>?_⟩,by rw[ycs];simpa using hsh⟩
  .rw [ycs]at hy;obtain⟨z,hz,rfl⟩:=qag.1 hy;rw[yju];exact g4 z hz
  exact(Rel.ren.rows (vs:=c.toList) hl ho (fun j y u hy hu=>g5 j y u hy (by simpa using hu)) j y u hy (by simpa using hu)).keep fun g hg=>⟨hk g hg,rfl⟩
 | tvec e xs=>
  obtain⟨⟨c,e',g1,g2,g3,g4,g5⟩,hp,hsh⟩:=h;exact⟨⟨c,e',g1,g2,g3,g4,fun j y u hy hu=>((g5 j y u hy hu).relive fun id b n _ hm=>by rw[yas.ment (hp y (qab hy))]at hm;cases hm).keep fun g hg=>⟨hk g hg,rfl⟩⟩,hp,hsh⟩
 | mcells xs=>
  obtain⟨c,e,g1,g2,g3,g4,g5⟩:=h;refine⟨c,e,g1,g2,by rw[ycs];simpa using g3,fun y hy=>?_,fun j y u hy hu=>?_⟩
  .rw [ycs]at hy;obtain⟨z,hz,rfl⟩:=qag.1 hy;rw[yju];exact g4 z hz
  exact(Rel.ren.rows (vs:=c.toList) hl ho (fun j y u hy hu=>g5 j y u hy (by simpa using hu)) j y u hy (by simpa using hu)).keep fun g hg=>⟨hk g hg,rfl⟩
theorem zci(σ:Nat->Nat)(x:LObj):isC (zcg σ x)=isC x:=by cases x <;> rfl
theorem zyk(h:zcg σ x=.vec []\/∃ e,zcg σ x=.tvec e []):x=.vec []\/∃ e,x=.tvec e []:=by
 cases x <;> simp_all[zcg]
def xjm(P:Program)(f:FuncId)(args:List AV)(hs:Nat->Option LObj)(r:AV)(hs':Nat->Option LObj)(kp:List Nat):Prop:=
 ylj P f/\(∀ id o,hs' id=some o->isC o=true->∃ o',hs id=some o'/\isC o'=true)/\∀ (ok0:Nat->Prop) (lv:Live) (w:World) (us:List Value),Inv (yfc w lv) ok0 hs lv w->ybn (yba (yfc w lv) ok0 lv w) w lv args us ->
  Calls P f us.toArray w fun e w'=>∃ u lv',e=.returned u/\Rel (yba (yfc w lv) ok0 lv' w') w' lv' r u/\Inv (yfc w lv) ok0 hs' lv' w'/\(∀ id o,hs' id=some o->isC o=true->∃ b n n',lv id=some (some b,n)/\lv' id=some (some b,n')) /\
   ∀ i∈kp,∀ x v,args[i]?=some x->us[i]?=some v->Rel (yba (yfc w lv) ok0 lv' w') w' lv' x v
theorem ytb.toG{args:List AV}{hs hs':Nat->Option LObj}(h:ytb P f args hs r hs'):xjm P f args hs r hs' []:=
 ⟨h.1,h.2.1,fun ok0 lv w us hi hus=>(h.2.2 ok0 lv w us hi hus).mono fun e w' ⟨u,lv',h1,h2,h3,h4⟩=>⟨u,lv',h1,h2,h3,h4,fun i hi=>by cases hi⟩⟩
def xik(σ:Nat->Nat)(ids:List Nat)(hm':Nat->Option LObj)(y:AV):Prop:=∃ f cs,y=.fn f cs/\∀ c∈cs,∃ i∈ids,∃ off o,c=.lp (σ i) off/\hm' i=some o/\isC o=true
def xij(σ:Nat->Nat)(ids:List Nat)(hm':Nat->Option LObj)(y:AV):Prop:=(∀ i∈ids,ment (σ i) y=false)\/∃ i∈ids,∃ off o,(y=.lp (σ i) off\/∃ f,y=.fm f [.lp (σ i) off])/\hm' i=some o/\isC o=true
set_option maxHeartbeats 4000000
section
variable{P:Program}{N:Nat}
def zcs(y:Option AV)(f:FuncId)(caps:List AV)(args:List Operand):Prop:=y=some (.fn f caps)\/(y=some (.fm f caps)/\args=[])
theorem callee_run{ok0:Nat->Prop}{a:Act}(hs:Sim B ok0 N s lv a w)(ho:o.op=.call { callee:=.value g,args:=args.toArray,argTypes:=ats })(hb:ylj P f)(hg:zcs (evF s.t g) f caps args):
  ∃ vs:List Value,vs.length=caps.length/\(∀ (i:Nat) (c:AV) (u:Value),caps[i]?=some c->vs[i]?=some u->Rel (yba B ok0 lv w) w lv c u)/\(execOp a.eval o).run P w=.ok (.enter f (args.map a.eval++vs).toArray) w:=by
 rcases hg with hg|⟨hg,rfl⟩
 .have hfr:=hs.eval hg;generalize hv:a.eval g=v at hfr;cases hfr with
  | fn vs hl hrc=>
  refine⟨vs,hl,hrc,?_⟩;unfold execOp;simp only[ho,resolve,Deferred.ofValue,hv,Sem.run_bind,Sem.run_pure,Result.andThen_ok,invoke];rw[ygm hb];simp
 have hfr:=hs.eval hg;generalize hv:a.eval g=v at hfr;cases hfr with
 | fm vs hl hrc=>
 refine⟨vs,hl,hrc,?_⟩;unfold execOp;simp only[ho,resolve,Deferred.ofValue,hv,Sem.run_bind,Sem.run_pure,Result.andThen_ok,invoke];rw[ygm hb];simp
theorem zhs{args0:List AV}{hm hm':Nat->Option LObj}{σ:Nat->Nat}{ids:List Nat}{d:Nat}{s2:SS}(ho:o.op=.call { callee:=.value g,args:=args.toArray,argTypes:=ats })(hd:o.dst=some d)(hdN:d < N)(hg:zcs (evF s.t g) f caps args)(hx:evL (evF s.t) args=some xs)(hargs:xs++caps=args0.map (yfz σ)){kp:List Nat}(hc:xjm P f args0 hm r hm' kp)(hinj:∀ i∈ids,∀ j∈ids,σ i=σ j->i=j)(hdom:∀ id,(hm id).isSome->id∈ids)(hdom':∀ id,(hm' id).isSome->id∈ids)(hmem:∀ id o,hm id=some o->s.h (σ id)=some (zcg σ o))(hr:yex ids r=true)(hro:∀ id o,hm' id=some o->yoz ids o=true)(ht:∀ x y,s2.t x=some y->(x=d/\y=yfz σ r)\/(x≠d/\((y=.any/\∃ z,s.t x=some z)\/(s.t x=some y/\(xij σ ids hm' y\/(∃ i∈kp,∃ id sz len,0 < sz/\(hm id).isSome/\args0[i]?=some (.ls id sz len)/\y=.ls (σ id) sz len)\/xik σ ids hm' y)))))(hh1:∀ i∈ids,s2.h (σ i)=(hm' i).map (zcg σ))(hh2:∀ j ob',(∀ i∈ids,σ i≠j)->s2.h j=some ob'->((∀ i∈ids,yew (σ i) ob'=false)/\∃ ob,s.h j=some ob/\ymh ob ob')\/(s.h j=some ob'/\∃ xs,ob'=.cells xs/\∀ x∈xs,xij σ ids hm' x\/(∃ i∈kp,∃ id sz len,0 < sz/\(hm id).isSome/\args0[i]?=some (.ls id sz len)/\x=.ls (σ id) sz len)\/xik σ ids hm' x)):ybp P N o s (·=s2):=by
 intro B ok0 lv a w hs Q;have har:=yue (a:=a) args xs (fun x y _ hxy=>hs.eval hxy) hx;obtain⟨vs,hl,hrc,hrun⟩:=callee_run hs ho hc.1 hg
 let lv1:Live:=fun id=>if id∈ids/\(hm id).isSome then lv (σ id)else none
 have hl1:∀ id b n,lv1 id=some (b,n)->id∈ids/\(hm id).isSome/\lv (σ id)=some (b,n):=by
  intro id b n hb;simp only[lv1]at hb;split at hb
  .rename_i h;exact⟨h.1,h.2,hb⟩
  cases hb
 have hl2:∀ id b n,lv1 id=some (b,n)->lv (σ id)=some (b,n):=fun id b n h=>(hl1 id b n h).2.2;have hmine:∀ b,yby lv1 b->B.mine b/\b < w.heap.size/\∃ i∈ids,∃ n,lv (σ i)=some (some b,n):=by
  rintro b ⟨id,n,hb⟩;obtain⟨h1,h2,h3⟩:=hl1 id _ n hb;obtain⟨_,_,h4,h5,_⟩:=hs.inv.lvat h3;exact⟨h4,h5,id,h1,n,h3⟩
 have hok1:∀ g,yba B ok0 lv w g->yba (yfc w lv1) (yba B ok0 lv w) lv1 w g:=fun g hg=>⟨.inl hg,hg.2.1,fun id b n hb=>hg.2.2 (σ id) b n (hl2 id _ n hb)⟩;have hinv:Inv (yfc w lv1) (yba B ok0 lv w) hm lv1 w:=by
  refine⟨⟨rfl,rfl,rfl,qbf _,fun _ _ _=>rfl,hs.inv.base.glob,hs.inv.base.glob.size,fun k hk=>hs.inv.base.mineG (hmine k hk).1,fun l h=>by cases h⟩,fun g hg=>hg.2.1,fun id hid=>by simp[lv1,hid],fun i j b n m h1 h2=>?_,fun id x hx=>?_⟩
  .obtain ⟨q1,_,q2⟩:=hl1 _ _ _ h1;obtain⟨r1,_,r2⟩:=hl1 _ _ _ h2;exact hinj i q1 j r1 (hs.inv.inj _ _ b n m q2 r2)
  obtain⟨b,n,h1,h2⟩:=hs.inv.obj (σ id) _ (hmem id x hx);have hlv:lv1 id=some (b,n):=by simp[lv1,hdom id (by simp[hx]),hx,h1]
  refine⟨b,n,hlv,?_⟩;cases b with
  | none=>exact zyk h2
  | some b=>exact⟨.inl ⟨id,n,hlv⟩,h2.2.1,yho.unren hl2 hok1 h2.2.2⟩
 have hall:ybn (yba (yfc w lv1) (yba B ok0 lv w) lv1 w) w lv1 args0 (args.map a.eval++vs):=by
  have hlen:(args.map a.eval++vs).length=args0.length:=by
   have:=congrArg List.length hargs;simp only[qan,qai]at this ⊢;have:=har.1;simp at this;omega
  refine⟨hlen,fun i x u hx hu=>?_⟩;have hxi:(xs++caps)[i]?=some (yfz σ x):=by rw[hargs];simp[hx]
  have hrel:Rel (yba B ok0 lv w) w lv (yfz σ x) u:=by
   by_cases hlt:i < xs.length
   .rw [qam hlt]at hxi;rw[qam (by rw[har.1];exact hlt)]at hu;exact har.2 i _ u hxi hu
   rw[qah om]at hxi;rw[qah (by rw[har.1];omega),har.1]at hu;exact hrc _ _ u hxi hu
  exact(Rel.unren hl2 hrel).keep fun g hg=>⟨hok1 g hg,rfl⟩
 unfold Oper.wp;rw[hrun];refine(hc.2.2 (yba B ok0 lv w) lv1 w (args.map a.eval++vs) hinv hall).mono fun e w' ⟨u,lv3,he,hu,hi3,hpin,hkp⟩=>?_;subst he;simp only[hd];have hb3:=hi3.base
 -- the blocks that are not lent stay
 have hstay:∀ k,k < w.heap.size->(∀ i∈ids,∀ n,lv (σ i)≠some (some k,n))->w'.heap[k]?=w.heap[k]?:=by
  intro k hk hn;exact hb3.block k hk fun hlent=>by
   obtain⟨_,_,i,hi,n,hn'⟩:=hmine k hlent;exact hn i hi n hn'
 have hsz:w.heap.size<=w'.heap.size:=hb3.size;have hmine3:∀ id b n,lv3 id=some (some b,n)->B.mine b/\b < w'.heap.size/\(w.heap.size<=b\/∃ i∈ids,∃ n,lv (σ i)=some (some b,n)):=by
  intro id b n hb;obtain⟨_,_,q1,q2,_⟩:=hi3.lvat hb;rcases q1 with q1|q1
  .have:=hmine b q1;exact⟨this.1,q2,.inr this.2.2⟩
  exact⟨.inr (qbp hs.inv.base.size q1),q2,.inl q1⟩
 have hid3:∀ id b n,lv3 id=some (b,n)->id∈ids:=fun id b n hb=>by
  cases hq:hm' id with
  | none=>rw[hi3.dom id hq]at hb;cases hb
  | some o=>exact hdom' id (by simp[hq])
 let find:Nat->Option Nat:=fun j=>ids.find? fun i=>σ i == j
 have hf1:∀ j i,find j=some i->i∈ids/\σ i=j:=fun j i h=>⟨qeg h,by simpa using List.find?_some h⟩;have hf2:∀ i∈ids,find (σ i)=some i:=fun i hi=>by
  cases hq:find (σ i)with
  | none=>
   have:=qes.1 hq i hi;simp at this
  | some k=>obtain⟨h1,h2⟩:=hf1 _ _ hq;rw[hinj k h1 i hi h2]
 have hf3:∀ j,find j=none->∀ i∈ids,σ i≠j:=fun j h i hi e=>by
  have:=qes.1 h i hi;simp[e]at this
 let lv2:Live:=fun j=>match find j with
  | some i=>lv3 i
  | none=>if (s2.h j).isSome then lv j else none
 have hlv2a:∀ i∈ids,lv2 (σ i)=lv3 i:=fun i hi=>by simp only[lv2,hf2 i hi]
 have hlv2b:∀ j,(∀ i∈ids,σ i≠j)->∀ b n,lv2 j=some (b,n)->lv j=some (b,n)/\(s2.h j).isSome:=by
  intro j hj b n hb;have hn:find j=none:=by
   cases hq:find j with
   | none=>rfl
   | some i=>obtain⟨h1,h2⟩:=hf1 _ _ hq;exact absurd h2 (hj i h1)
  simp only[lv2,hn]at hb;split at hb
  .rename_i h;exact⟨hb,h⟩
  cases hb
 have hcase:∀ j,(∃ i∈ids,σ i=j)\/∀ i∈ids,σ i≠j:=fun j=>by
  cases hq:find j with
  | none=>exact .inr (hf3 j hq)
  | some i=>obtain⟨h1,h2⟩:=hf1 _ _ hq;exact .inl ⟨i,h1,h2⟩
 have hok2:∀ g,yba B ok0 lv w g->yba B ok0 lv2 w' g/\w'.heap[g]?=w.heap[g]?:=by
  intro g hg;refine⟨⟨hg.1,qbg hg.2.1 hsz,fun j b n hb=>?_⟩,hstay g hg.2.1 fun i _ n hn=>hg.2.2 _ _ n hn rfl⟩;rcases hcase j with⟨i,hi,rfl⟩|hj
  .rw [hlv2a i hi]at hb;rcases (hmine3 i b n hb).2.2 with h|⟨i',_,n',h⟩
   .have:=hg.2.1;omega
   exact hg.2.2 _ _ n' h
  exact hg.2.2 j b n (hlv2b j hj _ n hb).1
 have hok3:∀ g,yba (yfc w lv1) (yba B ok0 lv w) lv3 w' g->yba B ok0 lv2 w' g:=by
  intro g hg;refine⟨?_,hg.2.1,fun j b n hb=>?_⟩
  .rcases hg.1 with h|h|h
   .exact h.1
   .exact .inr (hmine g h).1
   exact .inr (.inr (qbp hs.inv.base.size h))
  rcases hcase j with⟨i,hi,rfl⟩|hj
  .rw [hlv2a i hi]at hb;exact hg.2.2 i b n hb
  obtain⟨hb',_⟩:=hlv2b j hj _ n hb;have hlt:=hs.inv.lvlt hb';rintro rfl;rcases hg.1 with h|h|h
  .exact h.2.2 j b n hb' rfl
  .obtain ⟨_,_,i,hi,n',hn'⟩:=hmine b h;exact hj i hi (hs.inv.inj _ _ b n' n hn' hb')
  simp only[yfc]at h;omega
 have hren:∀ id b n,id∈ids->lv2 (σ id)=some (b,n)->lv3 id=some (b,n):=fun id b n hi hb=>by rwa [hlv2a id hi]at hb
 have hframe:∀ (y:AV) (z:Value),(∀ i∈ids,ment (σ i) y=false)->Rel (yba B ok0 lv w) w lv y z->Rel (yba B ok0 lv2 w') w' lv2 y z:=by
  intro y z hy hz;refine(hz.relive fun j b n hb hm=>?_).keep hok2;rcases hcase j with⟨i,hi,rfl⟩|hj
  .rw [hy i hi]at hm;cases hm
  exact(hlv2b j hj b n hb).1
 have hkeep:∀ (y:AV) (z:Value),(xij σ ids hm' y\/(∃ i∈kp,∃ id sz len,0 < sz/\(hm id).isSome/\args0[i]?=some (.ls id sz len)/\y=.ls (σ id) sz len)\/xik σ ids hm' y)->Rel (yba B ok0 lv w) w lv y z->Rel (yba B ok0 lv2 w') w' lv2 y z:=by
  intro y z hk hold;have hlp:∀ i∈ids,∀ off o',hm' i=some o'->isC o'=true->∀ z:Value,Rel (yba B ok0 lv w) w lv (.lp (σ i) off) z->Rel (yba B ok0 lv2 w') w' lv2 (.lp (σ i) off) z:=fun i hi off o' hci hcc z hz=>by
   cases hz with
   | lp _ h1 h2=>
    refine .lp _ h1 fun b n hb=>?_;rw[hlv2a i hi]at hb;obtain⟨b',n',n'',p1,p2⟩:=hpin i o' hci hcc;rw[hb]at p2;cases p2;exact h2 b n' (hl2 i _ n' p1)
  rcases hk with hk|⟨i,hi,id,sz,len,h0,hsome,ha,rfl⟩|⟨f',cs,rfl,hcs⟩
  rotate_left
  .obtain ⟨ui,hui⟩:∃ ui,(args.map a.eval++vs)[i]?=some ui:=⟨_,qae (by rw[hall.1];exact(qaa.1 ha).1)⟩;have hid:=hdom id hsome;obtain⟨ob,hob⟩:=qgm.1 hsome;obtain⟨b,n,g1,_⟩:=hs.inv.obj (σ id) _ (hmem id ob hob);have g2:lv1 id=some (b,n):=by simp only[lv1];rw[if_pos ⟨hid,hsome⟩];exact g1
   have hv:z=ui:=by
    have q1:=hall.2 i _ ui ha hui;cases hold with
    | ls _ _ p1=>
     cases q1 with
     | ls _ _ p2=>
      have r1:=p1 b n g1;have r2:=p2 b n g2;cases b with
      | none=>exact r1.1.trans r2.1.symm
      | some b=>
       obtain⟨c1,e1,_,_,m1⟩:=r1;obtain⟨c2,e2,_,_,m2⟩:=r2;have:c1=c2:=Nat.eq_of_mul_eq_mul_right h0 (m1.trans m2.symm);rw[e1,e2,this]
   rw[hv];exact(Rel.ren hren (by simp[yex,hid]) (hkp i hi _ ui ha hui)).keep fun g hg=>⟨hok3 g hg,rfl⟩
  .cases hold with
   | fn vs hvl hvr=>
    exact .fn vs hvl fun k c u h1 h2=>by
     obtain⟨i,hi,off,o',rfl,p1,p2⟩:=hcs c (qab h1);exact hlp i hi off o' p1 p2 _ (hvr k _ u h1 h2)
  rcases hk with hk|⟨i,hi,off,o',hye,hci,hcc⟩
  .exact hframe y _ hk hold
  rcases hye with rfl|⟨f',rfl⟩
  .exact hlp i hi off o' hci hcc _ hold
  cases hold with
  | fm vs hvl hvr=>
   refine .fm vs hvl fun k c u h1 h2=>?_;have h3:=hvr k c u h1 h2
   match k,h1 with
   | 0,h1=>
    simp only[qas,Option.some.injEq]at h1;subst h1;exact hlp i hi off o' hci hcc _ h3
   | k+1,h1=>simp at h1
 refine⟨s2,lv2,rfl,⟨⟨?_,hs.inv.ok0lt,fun j hj=>?_,fun i j b n m h1 h2=>?_,fun j x hx=>?_⟩,by simp[Act.put,hs.size],fun x y hy=>?_,hs.defers.same (fun g hg=>(hstay g (qaz.1 hg).1 fun i hi n hn=>(hs.inv.lvat hn).choose_spec.2.2.2.notDef hg).trans hg),hs.big,fun j b ws hN hj hcj hb=>?_⟩⟩
 .-- base
  refine⟨hb3.os.trans hs.inv.base.os,hb3.tape.trans hs.inv.base.tape,hb3.output.trans hs.inv.base.output,qbp hs.inv.base.size hsz,fun k hk hnl=>?_,hb3.glob,hs.inv.base.gsize,hs.inv.base.lentG,hs.inv.base.rdok⟩;refine(hstay k (qbg hk hs.inv.base.size) fun i hi n hn=>?_).trans (hs.inv.base.block k hk hnl);obtain⟨_,_,q1,_,_⟩:=hs.inv.lvat hn;rcases q1 with q1|q1
  .exact hnl q1
  omega
 .-- dom
  rcases hcase j with⟨i,hi,rfl⟩|hj'
  .rw [hlv2a i hi];refine hi3.dom i ?_;rw[hh1 i hi]at hj;cases hq:hm' i with
   | none=>rfl
   | some o=>simp[hq]at hj
  cases hq:lv2 j with
  | none=>rfl
  | some q=>obtain⟨q1,q2⟩:=q;have:=(hlv2b j hj' q1 q2 hq).2;simp[hj]at this
 .-- inj
  rcases hcase i with⟨i',hi,rfl⟩|hi <;> rcases hcase j with⟨j',hj,rfl⟩|hj
  .rw [hlv2a i' hi]at h1;rw[hlv2a j' hj]at h2;rw[hi3.inj i' j' b n m h1 h2]
  .rw [hlv2a i' hi]at h1;have h2':=(hlv2b j hj _ m h2).1;have:=hs.inv.lvlt h2';rcases (hmine3 i' b n h1).2.2 with h|⟨k,hk,n',h⟩
   .omega
   exact absurd (hs.inv.inj _ _ b n' m h h2') (hj k hk)
  .rw [hlv2a j' hj]at h2;have h1':=(hlv2b i hi _ n h1).1;have:=hs.inv.lvlt h1';rcases (hmine3 j' b m h2).2.2 with h|⟨k,hk,n',h⟩
   .omega
   exact absurd (hs.inv.inj _ _ b n' n h h1') (hi k hk)
  exact hs.inv.inj i j b n m (hlv2b i hi _ n h1).1 (hlv2b j hj _ m h2).1
 .-- objects
  rcases hcase j with⟨i,hi,rfl⟩|hj
  .rw [hh1 i hi]at hx;cases hq:hm' i with
   | none=>simp[hq]at hx
   | some ob=>
    simp only[hq,qav,Option.some.injEq]at hx;subst hx;obtain⟨b,n,q1,q2⟩:=hi3.obj i ob hq;refine⟨b,n,by rw[hlv2a i hi];exact q1,?_⟩;cases b with
    | none=>
     simp only[yge]at q2 ⊢;rcases q2 with rfl|⟨e,rfl⟩
     .exact .inl rfl
     exact .inr ⟨e,rfl⟩
    | some b=>
     exact⟨(hmine3 i b n q1).1,q2.2.1,yho.ren hren (hro i ob hq) hok3 q2.2.2⟩
  have hlv2x:∀ b n,lv j=some (b,n)->lv2 j=some (b,n):=fun b n q1=>by
   have hn:find j=none:=by
    cases hq:find j with
    | none=>rfl
    | some i=>obtain⟨h1,h2⟩:=hf1 _ _ hq;exact absurd h2 (hj i h1)
   simp[lv2,hn,hx,q1]
  rcases hh2 j x hj hx with⟨hm1,ob,hob,hfo⟩|⟨hob,zs,rfl,hzs⟩
  rotate_left
  .obtain ⟨b,n,q1,q2⟩:=hs.inv.obj j _ hob;refine⟨b,n,hlv2x b n q1,?_⟩;cases b with
   | none=>exact q2
   | some b=>
    obtain⟨q3,q4,c,e,g1,g2,g3,g4,g5⟩:=q2;have hbk:w'.heap[b]?=w.heap[b]?:=hstay b q4 fun i hi n' hn'=>hj i hi (hs.inv.inj _ _ b n' n hn' q1);refine⟨q3,qbg q4 hsz,c,e,by rw[hbk];exact g1,g2,g3,g4,fun k y z hy hz=>?_⟩;exact hkeep y z (hzs y (qab hy)) (g5 k y z hy hz)
  obtain⟨b,n,q1,q2⟩:=hs.inv.obj j ob hob;have hlv2:lv2 j=some (b,n):=hlv2x b n q1;refine⟨b,n,hlv2,?_⟩;cases b with
  | none=>
   simp only[yge]at q2 ⊢;rcases hfo with rfl|⟨_,_,rfl,_⟩|⟨_,_,_,rfl,_⟩
   .exact q2
   .simp at q2
   simp at q2
  | some b=>
   obtain⟨q3,q4,q5⟩:=q2;have hbk:w'.heap[b]?=w.heap[b]?:=hstay b q4 fun i hi n' hn'=>hj i hi (hs.inv.inj _ _ b n' n hn' q1);refine⟨q3,qbg q4 hsz,?_⟩;rcases hfo with rfl|⟨zs,ys,rfl,rfl,hyl,hyz⟩|⟨te,zs,ys,rfl,rfl,hyl,hyz⟩
   .refine (q5.relive (lv':=lv2) fun k b' n' hb' hmk=>?_).keep hok2 hbk;rcases hcase k with⟨i,hi,rfl⟩|hk
    .rw [hm1 i hi]at hmk;cases hmk
    exact(hlv2b k hk b' n' hb').1
   .obtain ⟨c,e,g1,g2,g3,g4,g5⟩:=q5;refine⟨c,e,by rw[hbk];exact g1,g2,om,fun y hy=>?_,fun k y z hy hz=>?_⟩
    .obtain ⟨k,hk⟩:=qao hy;obtain⟨x,hx⟩:∃ x,zs[k]?=some x:=⟨_,qae (by have:=(qaa.1 hk).1;omega)⟩;rcases hyz k x y hx hk with rfl|rfl
     .exact g4 _ (qab hx)
     rfl
    obtain⟨x,hx⟩:∃ x,zs[k]?=some x:=⟨_,qae (by have:=(qaa.1 hy).1;omega)⟩;rcases hyz k x y hx hy with rfl|rfl
    .refine hframe _ z (fun i hi=>?_) (g5 k _ z hx hz);exact ygj hy (hm1 i hi)
    exact .one _ ((g5 k x z hx hz).oneCell (g4 x (qab hx)))
   obtain⟨⟨c,e,g1,g2,g3,g4,g5⟩,hsh⟩:=q5;refine⟨⟨c,e,by rw[hbk];exact g1,g2,om,fun y hy=>?_,fun k y z hy hz=>?_⟩,by rw[hyl];exact(yjr hbk).trans hsh⟩
   .obtain ⟨k,hk⟩:=qao hy;obtain⟨x,hx⟩:∃ x,zs[k]?=some x:=⟨_,qae (by have:=(qaa.1 hk).1;omega)⟩;rcases hyz k x y hx hk with rfl|rfl
    .exact g4 _ (qab hx)
    rfl
   obtain⟨x,hx⟩:∃ x,zs[k]?=some x:=⟨_,qae (by have:=(qaa.1 hy).1;omega)⟩;rcases hyz k x y hx hy with rfl|rfl
   .refine hframe _ z (fun i hi=>?_) (g5 k _ z hx hz);exact ygj hy (hm1 i hi)
   exact .one _ ((g5 k x z hx hz).oneCell (g4 x (qab hx)))
 .-- frame
  rcases ht x y hy with⟨rfl,rfl⟩|⟨hxd,hxy⟩
  .have hbig:=hs.big;refine⟨.inl hdN,?_⟩;rw[ydx,if_pos (qbg hdN hbig)];simp only[Act.put];rw[show (a.tmps.setIfInBounds x u).getD x undef=u by simp[Array.getD,hs.size,hdN]];exact(Rel.ren hren hr hu).keep fun g hg=>⟨hok3 g hg,rfl⟩
  have hval:ydx B (a.put (some d) u) x=ydx B a x:=by
   unfold ydx;split
   .simp only[Act.put,qar,qbx];rw[if_neg om]
   rfl
  rw[hval];rcases hxy with⟨rfl,z,hz⟩|⟨hz,hk⟩
  .exact ⟨(hs.frame x z hz).1,.any _⟩
  refine⟨(hs.frame x y hz).1,?_⟩;have hold:=(hs.frame x y hz).2;exact hkeep _ _ hk hold
 -- pins
 rcases hcase j with⟨i,hi,rfl⟩|hj'
 .rw [hh1 i hi]at hj;cases hq:hm' i with
  | none=>simp[hq]at hj
  | some ob=>
   simp only[hq,qav,Option.some.injEq]at hj;subst hj;rw[zci]at hcj;obtain⟨b',n',n'',p1,p2⟩:=hpin i ob hq hcj;obtain⟨zs,hz,hzc⟩:=hc.2.1 i ob hq hcj;obtain⟨n,hn⟩:=hs.pin (σ i) b _ hN (hmem i _ hz) (by rw[zci];exact hzc) hb;rw[hl2 i _ n' p1]at hn;cases hn;exact⟨n'',by rw[hlv2a i hi];exact p2⟩
 obtain⟨ob,hys,hcc⟩:∃ ob,s.h j=some ob/\isC ob=true:=by
  rcases hh2 j _ hj' hj with⟨_,ob,hys,hfo⟩|⟨hys,_⟩
  .refine ⟨ob,hys,?_⟩;rcases hfo with rfl|⟨xs',ys',rfl,_,_⟩|⟨e,xs',ys',rfl,_,_⟩
   .exact hcj
   .rfl
   rfl
  exact⟨_,hys,hcj⟩
 obtain⟨n,hn⟩:=hs.pin j b ob hN hys hcc hb;obtain⟨b2,n2,q1,_⟩:=hs.inv.obj j _ hys;rw[hn]at q1;cases q1;have hn':find j=none:=by
  cases hq:find j with
  | none=>rfl
  | some i=>obtain⟨h1,h2⟩:=hf1 _ _ hq;exact absurd h2 (hj' i h1)
 exact⟨n,by simp[lv2,hn',hj,hn]⟩
theorem yru{args0:List AV}{hm hm':Nat->Option LObj}{σ:Nat->Nat}{ids:List Nat}{d:Nat}{s2:SS}(ho:o.op=.call { callee:=.value g,args:=args.toArray,argTypes:=ats })(hd:o.dst=some d)(hdN:d < N)(hg:zcs (evF s.t g) f caps args)(hx:evL (evF s.t) args=some xs)(hargs:xs++caps=args0.map (yfz σ))(hc:ytb P f args0 hm r hm')(hinj:∀ i∈ids,∀ j∈ids,σ i=σ j->i=j)(hdom:∀ id,(hm id).isSome->id∈ids)(hdom':∀ id,(hm' id).isSome->id∈ids)(hmem:∀ id o,hm id=some o->s.h (σ id)=some (zcg σ o))(hr:yex ids r=true)(hro:∀ id o,hm' id=some o->yoz ids o=true)(ht:∀ x y,s2.t x=some y->(x=d/\y=yfz σ r)\/(x≠d/\((y=.any/\∃ z,s.t x=some z)\/(s.t x=some y/\xij σ ids hm' y))))(hh1:∀ i∈ids,s2.h (σ i)=(hm' i).map (zcg σ))(hh2:∀ j ob',(∀ i∈ids,σ i≠j)->s2.h j=some ob'->(∀ i∈ids,yew (σ i) ob'=false)/\∃ ob,s.h j=some ob/\ymh ob ob'):ybp P N o s (·=s2):=
 zhs ho hd hdN hg hx hargs (kp:=[]) hc.toG hinj hdom hdom' hmem hr hro (fun x y h=>(ht x y h).imp id fun⟨h1,h2⟩=>⟨h1,h2.imp id fun⟨h3,h4⟩=>⟨h3,.inl h4⟩⟩) hh1 fun j ob' h1 h2=>.inl (hh2 j ob' h1 h2)
end
def yga:List (Nat × Nat)->Nat->Nat
 | [],i=>i
 | (k,j)::sg,i=>match Nat.beq i k with
  | true=>j
  | false=>yga sg i
def ybm:List (Nat × Nat)->List Nat
 | []=>[]
 | (k,_)::sg=>k::ybm sg
def ycz:List (Nat × Nat)->List Nat
 | []=>[]
 | (_,j)::sg=>j::ycz sg
def ykc(i:Nat):List Nat->Bool
 | []=>false
 | k::l=>match Nat.beq i k with
  | true=>true
  | false=>ykc i l
def yed:List Nat->Bool
 | []=>true
 | k::l=>match ykc k l with
  | true=>false
  | false=>yed l
theorem ycr:∀ {l:List Nat},ykc i l=true<->i∈l
 | []=>by simp[ykc]
 | k::l=>by
  simp only[ykc,qaq];cases h:Nat.beq i k with
  | true=>simp[qaf h]
  | false=>
   have:i≠k:=fun e=>by subst e;simp at h
   simp[this,ycr (l:=l)]
theorem ymd(h:i∈ybm sg):yga sg i∈ycz sg:=by
 induction sg with
 | nil=>simp[ybm]at h
 | cons q sg ih=>
  obtain⟨k,j⟩:=q;simp only[yga,ycz];cases hb:Nat.beq i k with
  | true=>simp
  | false=>
   have hne:i≠k:=fun e=>by subst e;simp at hb
   simp only[ybm,qaq,hne,false_or]at h;simp[ih h]
theorem zfv(h:yed (ycz sg)=true):∀ i∈ybm sg,∀ j∈ybm sg,yga sg i=yga sg j->i=j:=by
 induction sg with
 | nil=>intro i hi;simp[ybm]at hi
 | cons q sg ih=>
  obtain⟨k,v⟩:=q;simp only[ycz,yed]at h;cases hv:ykc v (ycz sg)with
  | true=>simp[hv]at h
  | false=>
   simp only[hv]at h;have hnv:v ∉ ycz sg:=fun hm=>by rw[ycr.2 hm]at hv;cases hv
   intro i hi j hj he;simp only[yga]at he;cases hik:Nat.beq i k <;> cases hjk:Nat.beq j k <;> simp only[hik,hjk]at he
   .have h1:i≠k:=fun e=>by subst e;simp at hik
    have h2:j≠k:=fun e=>by subst e;simp at hjk
    simp only[ybm,qaq,h1,h2,false_or]at hi hj;exact ih h i hi j hj he
   .have h1:i≠k:=fun e=>by subst e;simp at hik
    simp only[ybm,qaq,h1,false_or]at hi;exact absurd (he ▸ ymd hi) hnv
   .have h2:j≠k:=fun e=>by subst e;simp at hjk
    simp only[ybm,qaq,h2,false_or]at hj;exact absurd (he ▸ ymd hj) hnv
   rw[qaf hik,qaf hjk]
theorem yzg{j:Nat}(h:j∈ycz sg)(hk:yed (ybm sg)=true):∃ i∈ybm sg,yga sg i=j:=by
 induction sg with
 | nil=>simp[ycz]at h
 | cons q sg ih=>
  obtain⟨k,v⟩:=q;simp only[ybm,yed]at hk;cases hm:ykc k (ybm sg)with
  | true=>simp[hm]at hk
  | false=>
   simp only[hm]at hk;simp only[ycz,qaq]at h;rcases h with rfl|h
   .exact ⟨k,by simp[ybm],by simp[yga]⟩
   obtain⟨i,hi,he⟩:=ih h hk;refine⟨i,by simp[ybm,hi],?_⟩;have:i≠k:=fun e=>by subst e;rw[ycr.2 hi]at hm;cases hm
   simp only[yga,ycp this];exact he
def yyh(ids:List Nat):List (Nat × Option LObj)->Bool
 | []=>true
 | (k,_)::h=>ykc k ids && yyh ids h
theorem yjd:∀ {h:List (Nat × Option LObj)},yyh ids h=true->∀ id,(yac h id).isSome->id∈ids
 | [],_,id,hs=>by simp[yac]at hs
 | (k,o)::h,hd,id,hs=>by
  simp only[yyh,qad]at hd;simp only[yac]at hs;cases hb:Nat.beq id k with
  | true=>rw[qaf hb];exact ycr.1 hd.1
  | false=>simp only[hb]at hs;exact yjd hd.2 id hs
def xal(sg:List (Nat × Nat)):List (Nat × Option LObj)->List (Nat × Option LObj)
 | []=>[]
 | (k,some o)::h=>(yga sg k,some (zcg (yga sg) o))::xal sg h
 | (k,none)::h=>(yga sg k,none)::xal sg h
theorem ywt{h:List (Nat × Option LObj)}:∀ {hs:List (Nat × Option LObj)},yxr h (xal sg hs)->∀ id o,yac hs id=some o->yac h (yga sg id)=some (zcg (yga sg) o)
 | [],_,id,o,hl=>by simp[yac]at hl
 | (k,x)::hs,hsub,id,o,hl=>by
  simp only[yac]at hl;cases hb:Nat.beq id k with
  | true=>
   simp only[hb]at hl;subst hl;rw[qaf hb];simp only[xal,yxr]at hsub;exact hsub.1 _ rfl
  | false=>
   simp only[hb]at hl;cases x with
   | none=>simp only[xal,yxr]at hsub;exact ywt hsub.2 id o hl
   | some x=>simp only[xal,yxr]at hsub;exact ywt hsub.2 id o hl
def yqu(ids:List Nat):List (Nat × Option LObj)->Bool
 | []=>true
 | (_,some o)::h=>yoz ids o && yqu ids h
 | (_,none)::h=>yqu ids h
theorem yly:∀ {h:List (Nat × Option LObj)},yqu ids h=true->∀ id o,yac h id=some o->yoz ids o=true
 | [],_,id,o,hl=>by simp[yac]at hl
 | (k,x)::h,ho,id,o,hl=>by
  simp only[yac]at hl;cases hb:Nat.beq id k with
  | true=>
   simp only[hb]at hl;subst hl;simp only[yqu,qad]at ho;exact ho.1
  | false=>
   simp only[hb]at hl;cases x with
   | none=>exact yly (by simpa[yqu]using ho) id o hl
   | some x=>simp only[yqu,qad]at ho;exact yly ho.2 id o hl
def yqf(sg:List (Nat × Nat))(hs':List (Nat × Option LObj)):List (Nat × Nat)->List (Nat × Option LObj)
 | []=>[]
 | (k,j)::r=>(j,match yac hs' k with
  | some o=>some (zcg (yga sg) o)
  | none=>none)::yqf sg hs' r
theorem zbi{h:List (Nat × Option LObj)}:∀ {l:List (Nat × Nat)},yed (ybm l)=true->yed (ycz l)=true->∀ i∈ybm l,yac (yqf sg hs' l++h) (yga l i)=(yac hs' i).map (zcg (yga sg))
 | [],_,_,i,hi=>by simp[ybm]at hi
 | (k,j)::l,h1,h2,i,hi=>by
  simp only[ybm,yed]at h1;cases hm:ykc k (ybm l)with
  | true=>simp[hm]at h1
  | false=>
  simp only[hm]at h1;simp only[ycz,yed]at h2;cases hm2:ykc j (ycz l)with
  | true=>simp[hm2]at h2
  | false=>
  simp only[hm2]at h2;simp only[yga];cases hb:Nat.beq i k with
  | true=>
   have e:=qaf hb;subst e;simp only[yqf,qbb,yac,qey];cases yac hs' i <;> rfl
  | false=>
   have hne:i≠k:=fun e=>by subst e;simp at hb
   simp only[ybm,qaq,hne,false_or]at hi;have hv:=ymd hi;have hnj:yga l i≠j:=fun e=>by rw[e]at hv;rw[ycr.2 hv]at hm2;cases hm2
   simp only[yqf,qbb,yac,ycp hnj];exact zbi h1 h2 i hi
theorem yop{h:List (Nat × Option LObj)}:∀ {l:List (Nat × Nat)} {j:Nat},j ∉ ycz l->yac (yqf sg hs' l++h) j=yac h j
 | [],j,_=>rfl
 | (k,v)::l,j,hj=>by
  simp only[ycz,qaq,not_or]at hj;simp only[yqf,qbb,yac,ycp hj.1];exact yop hj.2
def zaa:List Nat->List (Nat × Option LObj)->Option (List (Nat × Option LObj))
 | [],h=>some h
 | i::l,h=>match yql i h with
  | some h'=>zaa l h'
  | none=>none
theorem ymh.trans{a b c:LObj}(h1:ymh a b)(h2:ymh b c):ymh a c:=by
 rcases h1 with rfl|⟨xs,ys,rfl,rfl,hl,hxy⟩|⟨te,xs,ys,rfl,rfl,hl,hxy⟩
 .exact h2
 .rcases h2 with rfl|⟨xs',zs,e,rfl,hl',hyz⟩|⟨_,_,_,e,_⟩
  .exact .inr (.inl ⟨xs,ys,rfl,rfl,hl,hxy⟩)
  .cases e;refine .inr (.inl ⟨xs,zs,rfl,rfl,om,fun j x z hx hz=>?_⟩);obtain⟨y,hy⟩:∃ y,ys[j]?=some y:=⟨_,qae (by have:=(qaa.1 hx).1;omega)⟩;rcases hyz j y z hy hz with rfl|rfl
   .exact hxy j x _ hx hy
   exact .inr rfl
  cases e
 rcases h2 with rfl|⟨_,_,e,_⟩|⟨te',xs',zs,e,rfl,hl',hyz⟩
 .exact .inr (.inr ⟨te,xs,ys,rfl,rfl,hl,hxy⟩)
 .cases e
 cases e;refine .inr (.inr ⟨te,xs,zs,rfl,rfl,om,fun j x z hx hz=>?_⟩);obtain⟨y,hy⟩:∃ y,ys[j]?=some y:=⟨_,qae (by have:=(qaa.1 hx).1;omega)⟩;rcases hyz j y z hy hz with rfl|rfl
 .exact hxy j x _ hx hy
 exact .inr rfl
theorem zxo:∀ {zs:List AV},ment.mentL i zs=true->∃ (j:Nat) (z:AV),zs[j]?=some z/\ment i z=true
 | [],h=>by simp[ment.mentL]at h
 | z::zs,h=>by
  simp only[ment.mentL,qck]at h;rcases h with h|h
  .exact ⟨0,z,rfl,h⟩
  obtain⟨j,y,h1,h2⟩:=zxo h;exact⟨j+1,y,by simpa using h1,h2⟩
theorem zje{ys:List AV}(hl:ys.length=xs.length)(hxy:∀ (j:Nat) (x y:AV),xs[j]?=some x->ys[j]?=some y->y=x\/y=.one)(hm:ment.mentL i xs=false):ment.mentL i ys=false:=by
 cases hq:ment.mentL i ys with
 | false=>rfl
 | true=>
  exfalso;obtain⟨j,y,hy,hmy⟩:=zxo hq;obtain⟨x,hx⟩:∃ x,xs[j]?=some x:=⟨_,qae (by have:=(qaa.1 hy).1;omega)⟩;rcases hxy j x y hx hy with rfl|rfl
  .rw [ygj hx hm]at hmy;cases hmy
  simp[ment]at hmy
theorem forgO_ment{a b:LObj}(h:ymh a b)(hm:yew i a=false):yew i b=false:=by
 rcases h with rfl|⟨xs,ys,rfl,rfl,hl,hxy⟩|⟨te,xs,ys,rfl,rfl,hl,hxy⟩
 .exact hm
 .exact zje hl hxy hm
 exact zje hl hxy hm
theorem yuj:∀ {l:List Nat} {h h':List (Nat × Option LObj)},zaa l h=some h'->∀ j ob',yac h' j=some ob'->(∀ i∈l,yew i ob'=false)/\∃ ob,yac h j=some ob/\ymh ob ob'
 | [],h,h',he,j,ob',hj=>by simp only[zaa,Option.some.injEq]at he;subst he;exact⟨sm,ob',hj,.inl rfl⟩
 | i::l,h,h',he,j,ob',hj=>by
  simp only[zaa]at he;split at he
  .rename_i h1 hh;obtain⟨g1,ob1,g2,g3⟩:=yuj he j ob' hj;obtain⟨g4,ob,g5,g6⟩:=yfs hh j ob1 g2;refine⟨fun k hk=>?_,ob,g5,g6.trans g3⟩;rcases qaq.1 hk with rfl|hk
   .exact forgO_ment g3 g4
   exact g1 k hk
  cases he
def zeq(l:List Nat)(y:AV):Bool:=match l with
 | []=>false
 | i::l=>match ment i y with
  | true=>true
  | false=>zeq l y
theorem zag:∀ {l:List Nat} {y:AV},zeq l y=false->∀ i∈l,ment i y=false
 | [],y,_,i,hi=>by simp at hi
 | k::l,y,h,i,hi=>by
  simp only[zeq]at h;cases hk:ment k y with
  | true=>simp[hk]at h
  | false=>
   simp only[hk]at h;rcases qaq.1 hi with rfl|hi
   .exact hk
   exact zag h i hi
def ztr:Option LObj->Bool
 | some o=>isC o
 | none=>false
def zii(hs':List (Nat × Option LObj))(j:Nat):List (Nat × Nat)->Bool
 | []=>false
 | (k,v)::l=>match Nat.beq v j with
  | true=>ztr (yac hs' k)
  | false=>zii hs' j l
theorem yuh{j:Nat}:∀ {l:List (Nat × Nat)},yed (ybm l)=true->zii hs' j l=true->∃ i∈ybm l,yga l i=j/\∃ o,yac hs' i=some o/\isC o=true
 | [],_,h=>by simp[zii]at h
 | (k,v)::l,hn,h=>by
  simp only[ybm,yed]at hn;cases hm:ykc k (ybm l)with
  | true=>simp[hm]at hn
  | false=>
  simp only[hm]at hn;simp only[zii]at h;cases hb:Nat.beq v j with
  | true=>
   simp only[hb]at h;refine⟨k,by simp[ybm],by simp[yga,qaf hb],?_⟩;cases hq:yac hs' k with
   | none=>simp[hq,ztr]at h
   | some o=>exact⟨o,rfl,by simpa[hq,ztr]using h⟩
  | false=>
   simp only[hb]at h;obtain⟨i,h1,h2,h3⟩:=yuh hn h;refine⟨i,by simp[ybm,h1],?_,h3⟩;have:i≠k:=fun e=>by subst e;rw[ycr.2 h1]at hm;cases hm
   simp only[yga,ycp this];exact h2
def xcy(sg:List (Nat × Nat))(hs':List (Nat × Option LObj))(y:AV):Bool:=match zeq (ycz sg) y with
 | false=>true
 | true=>match y with
  | .lp j _=>zii hs' j sg
  | .fm _ [.lp j _]=>zii hs' j sg
  | _=>false
def ynw(sg:List (Nat × Nat))(hs':List (Nat × Option LObj)):List (Nat × AV)->List (Nat × AV)
 | []=>[]
 | (s,x)::t=>match xcy sg hs' x with
  | true=>(s,x)::ynw sg hs' t
  | false=>(s,.any)::ynw sg hs' t
theorem yyp{y:AV}(hn:yed (ybm sg)=true)(h:xcy sg hs' y=true):xij (yga sg) (ybm sg) (yac hs') y:=by
 unfold xcy at h;cases hm:zeq (ycz sg) y with
 | false=>exact .inl fun i hi=>zag hm _ (ymd hi)
 | true=>
  simp only[hm]at h;split at h
  .rename_i j off;obtain⟨i,h1,h2,o,h3,h4⟩:=yuh hn h;exact .inr ⟨i,h1,off,o,.inl (by rw[h2]),h3,h4⟩
  .rename_i f j off;obtain⟨i,h1,h2,o,h3,h4⟩:=yuh hn h;exact .inr ⟨i,h1,off,o,.inr ⟨f,by rw[h2]⟩,h3,h4⟩
  cases h
theorem yjf:∀ {t:List (Nat × AV)} {x:Nat} {y:AV},yak (ynw sg hs' t) x=some y->(y=.any/\∃ z,yak t x=some z)\/(yak t x=some y/\xcy sg hs' y=true)
 | [],x,y,h=>by simp[ynw,yak]at h
 | (s,z)::t,x,y,h=>by
  simp only[ynw]at h;cases hk:xcy sg hs' z with
  | true=>
   simp only[hk,yak]at h ⊢;cases hb:Nat.beq x s with
   | true=>simp only[hb,Option.some.injEq]at h ⊢;subst h;exact .inr ⟨rfl,hk⟩
   | false=>simp only[hb]at h ⊢;exact yjf h
  | false=>
   simp only[hk,yak]at h ⊢;cases hb:Nat.beq x s with
   | true=>simp only[hb,Option.some.injEq]at h ⊢;subst h;exact .inl ⟨rfl,z,rfl⟩
   | false=>simp only[hb]at h ⊢;exact yjf h
section
variable{P:Program}{T:Nat->Option Ty}{N:Nat}{ops:Array Oper}{lf:Oper->Bool}{Q:SS->Prop}{t:List (Nat × AV)}{h:List (Nat × Option LObj)}{rest:List Oper}{d:Nat}{ty:TypeId}{pos:String}{af:Array Edge}{gd:Option (Nat × Bool)}{r:AV}
def zpc(l:List Nat):List (Nat × Option LObj)->List (Nat × Option LObj)
 | []=>[]
 | (k,o)::h=>match ykc k l with
  | true=>zpc l h
  | false=>(k,o)::zpc l h
theorem zbn{l:List Nat}{j:Nat}(hj:j ∉ l):∀ h:List (Nat × Option LObj),yac (zpc l h) j=yac h j
 | []=>rfl
 | (k,o)::h=>by
  simp only[zpc];cases hm:ykc k l with
  | true=>
   have hk:Nat.beq j k=false:=ycp fun e=>hj (e ▸ ycr.1 hm);simp only[yac,hk];exact zbn hj h
  | false=>
   simp only[yac];cases Nat.beq j k with
   | true=>rfl
   | false=>exact zbn hj h
theorem L_callMG(sg:List (Nat × Nat)){args:List Operand}{ats:Array TypeId}{caps xs args0:List AV}{hs hs' h':List (Nat × Option LObj)}(hc:ytb P f args0 (yac hs) r (yac hs'))(hg:zcs (evF (yak t) g) f caps args)(hx:evL (evF (yak t)) args=some xs)(hargs:xs++caps=args0.map (yfz (yga sg)))(hk:yed (ybm sg)=true)(hv:yed (ycz sg)=true)(hd1:yyh (ybm sg) hs=true)(hd2:yyh (ybm sg) hs'=true)(hsub:yxr h (xal sg hs))(hr:yex (ybm sg) r=true)(ho:yqu (ybm sg) hs'=true)(hh:zaa (ycz sg) (zpc (ycz sg) h)=some h')(hl:lf ⟨some d,.call { callee:=.value g,args:=args.toArray,argTypes:=ats },ty,pos,af,gd⟩=true)(hw:yam ops (yak t) ⟨some d,.call { callee:=.value g,args:=args.toArray,argTypes:=ats },ty,pos,af,gd⟩=some true)(hd:Nat.blt d N=true)(k:Lex P N ops lf Q rest (S ((d,yfz (yga sg) r)::ynw sg hs' t) (yqf sg hs' sg++h'))):Lex P N ops lf Q (⟨some d,.call { callee:=.value g,args:=args.toArray,argTypes:=ats },ty,pos,af,gd⟩::rest) (S t h):=by
 refine yef hl hw ?_ k;refine yru (σ:=yga sg) (ids:=ybm sg) rfl rfl (by simpa using hd) hg hx hargs hc (zfv hv) (yjd hd1) (yjd hd2) (ywt hsub) hr (yly ho) (fun x y hy=>?_) (fun i hi=>zbi hk hv i hi) (fun j ob' hj hob=>?_)
 .simp only[S,yak]at hy;cases hb:Nat.beq x d with
  | true=>simp only[hb,Option.some.injEq]at hy;exact .inl ⟨qaf hb,hy.symm⟩
  | false=>
   simp only[hb]at hy;refine .inr ⟨fun e=>by subst e;simp at hb,?_⟩;rcases yjf hy with hq|⟨h1,h2⟩
   .exact .inl hq
   exact .inr ⟨h1,yyp hk h2⟩
 have hjv:j ∉ ycz sg:=fun hm=>by
  obtain⟨i,h1,h2⟩:=yzg hm hk;exact hj i h1 h2
 simp only[S,yop hjv]at hob;obtain⟨h1,h2⟩:=yuj hh j ob' hob;rw[zbn hjv]at h2;exact⟨fun i hi=>h1 _ (ymd hi),h2⟩
theorem yxu(sg:List (Nat × Nat)){args:List Operand}{ats:Array TypeId}{caps xs args0:List AV}{hs hs' h':List (Nat × Option LObj)}(hc:ytb P f args0 (yac hs) r (yac hs'))(hg:evF (yak t) g=some (.fn f caps))(hx:evL (evF (yak t)) args=some xs)(hargs:xs++caps=args0.map (yfz (yga sg)))(hk:yed (ybm sg)=true)(hv:yed (ycz sg)=true)(hd1:yyh (ybm sg) hs=true)(hd2:yyh (ybm sg) hs'=true)(hsub:yxr h (xal sg hs))(hr:yex (ybm sg) r=true)(ho:yqu (ybm sg) hs'=true)(hh:zaa (ycz sg) (zpc (ycz sg) h)=some h')(hl:lf ⟨some d,.call { callee:=.value g,args:=args.toArray,argTypes:=ats },ty,pos,af,gd⟩=true)(hw:yam ops (yak t) ⟨some d,.call { callee:=.value g,args:=args.toArray,argTypes:=ats },ty,pos,af,gd⟩=some true)(hd:Nat.blt d N=true)(k:Lex P N ops lf Q rest (S ((d,yfz (yga sg) r)::ynw sg hs' t) (yqf sg hs' sg++h'))):Lex P N ops lf Q (⟨some d,.call { callee:=.value g,args:=args.toArray,argTypes:=ats },ty,pos,af,gd⟩::rest) (S t h):=
 L_callMG sg hc (.inl hg) hx hargs hk hv hd1 hd2 hsub hr ho hh hl hw hd k
end
end
section
open Go.RowKit
section
variable{P:Program}{T:Nat->Option Ty}{N:Nat}{ops:Array Oper}{lf:Oper->Bool}{Q:SS->Prop}{t:List (Nat × AV)}{h:List (Nat × Option LObj)}{rest:List Oper}{d:Nat}{op:Op}{ty:TypeId}{pos:String}{af:Array Edge}{gd:Option (Nat × Bool)}{r:AV}
theorem ynm{ρ:Operand->Option AV}{hp:Nat->Option LObj}{x:Operand}{id off:Nat}{xs:List AV}(hx:ρ x=some (.lp id off))(hh:yti (hp id)=some xs):ybu P hp ρ (.nilCheck x) ty (.lp id off):=
 yay fun B ok0 lv w a o ho hty hi' hops=>by
  have hr:=hops x _ (by simp[Op.operands]) hx;obtain⟨g1,g2⟩:=ygf hh;obtain⟨b,n,hb,hu,_⟩:=yhr hi' g1 g2 hr;exact⟨a.eval x,by simp[execOp,ho,hu],hr⟩
theorem yxv{x:Operand}{id off:Nat}{xs:List AV}(hx:evF (yak t) x=some (.lp id off))(hh:yti (yac h id)=some xs)(hw:yam ops (yak t) ⟨some d,.nilCheck x,ty,pos,af,gd⟩=some true)(hd:Nat.blt d N=true)(k:Lex P N ops lf Q rest (S ((d,.lp id off)::t) h)):Lex P N ops lf Q (⟨some d,.nilCheck x,ty,pos,af,gd⟩::rest) (S t h):=
 ycm (ynm hx hh) hw hd k
end
end
set_option maxHeartbeats 4000000
section
open Go.RowKit
theorem Inv.mineOf(hi:Inv B ok0 h lv w)(hb:yby lv b):B.mine b/\b < w.heap.size:=by
 obtain⟨id,n,h⟩:=hb;obtain⟨_,_,h1,h2,_⟩:=hi.lvat h;exact⟨h1,h2⟩
theorem Inv.rebase(hi:Inv B ok0 h lv w)(hG:zaw W1)(hsz:w.heap.size<=W1.heap.size)(hok:∀ g,yba B ok0 lv w g->W1.heap[g]?=w.heap[g]?)(hlv:∀ b,yby lv b->W1.heap[b]?=w.heap[b]?)(pin:Nat->Option Nat)(rd:Option Nat)(dl:List Deferred)(gv:Nat->Value)(hrd:∀ l,rd=some l->(∃ r,W1.heap[l]?=some (.loop r))/\¬ yby lv l):Inv ⟨W1,yby lv,pin,rd,dl,gv⟩ (yba B ok0 lv w) h lv W1:=by
 have hk:∀ g,yba B ok0 lv w g->yba ⟨W1,yby lv,pin,rd,dl,gv⟩ (yba B ok0 lv w) lv W1 g/\W1.heap[g]?=w.heap[g]?:=fun g hg=>⟨⟨.inl hg,qbg hg.2.1 hsz,hg.2.2⟩,hok g hg⟩;refine⟨⟨rfl,rfl,rfl,qbf _,fun _ _ _=>rfl,hG,hG.size,fun k hk=>hi.base.mineG (hi.mineOf hk).1,hrd⟩,fun g hg=>qbg hg.2.1 hsz,hi.dom,hi.inj,fun id x hx=>?_⟩;obtain⟨b,n,h1,h2⟩:=hi.obj id x hx;refine⟨b,n,h1,?_⟩;cases b with
 | none=>exact h2
 | some b=>exact⟨.inl ⟨id,n,h1⟩,qbg h2.2.1 hsz,h2.2.2.keep hk (hlv b ⟨id,n,h1⟩)⟩
theorem ok_back(h0:Inv B ok0 h lv w)(hsz:w.heap.size<=W1.heap.size){g:Nat}(hg:yba ⟨W1,yby lv,pin,rd,dl,gv⟩ (yba B ok0 lv w) lv' w' g):ok0 g\/B.mine g:=by
 rcases hg.1 with h|h|h
 .exact h.1
 .exact .inr (h0.mineOf h).1
 exact .inr (.inr (by have:=h0.base.size;simp only at h;omega))
theorem Inv.back(h0:Inv B ok0 h lv w)(hsz:w.heap.size<=W1.heap.size){h':Nat->Option LObj}(hi:Inv ⟨W1,yby lv,pin,rd,dl,gv⟩ (yba B ok0 lv w) h' lv' w'){W2:World}(hB:Based B W2)(hsz2:w'.heap.size<=W2.heap.size)(hok:∀ g,yba ⟨W1,yby lv,pin,rd,dl,gv⟩ (yba B ok0 lv w) lv' w' g->W2.heap[g]?=w'.heap[g]?)(hlv:∀ b,yby lv' b->W2.heap[b]?=w'.heap[b]?):
  Inv B ok0 h' lv' W2/\∀ g,yba ⟨W1,yby lv,pin,rd,dl,gv⟩ (yba B ok0 lv w) lv' w' g->yba B ok0 lv' W2 g/\W2.heap[g]?=w'.heap[g]?:=by
 have hk:∀ g,yba ⟨W1,yby lv,pin,rd,dl,gv⟩ (yba B ok0 lv w) lv' w' g->yba B ok0 lv' W2 g/\W2.heap[g]?=w'.heap[g]?:=fun g hg=>⟨⟨ok_back h0 hsz hg,qbg hg.2.1 hsz2,hg.2.2⟩,hok g hg⟩;refine⟨⟨hB,h0.ok0lt,hi.dom,hi.inj,fun id x hx=>?_⟩,hk⟩;obtain⟨b,n,h1,h2⟩:=hi.obj id x hx;refine⟨b,n,h1,?_⟩;cases b with
 | none=>exact h2
 | some b=>
  refine⟨?_,qbg h2.2.1 hsz2,h2.2.2.keep hk (hlv b ⟨id,n,h1⟩)⟩;rcases h2.1 with h3|h3
  .exact (h0.mineOf h3).1
  exact .inr (by have:=h0.base.size;simp only at h3;omega)
theorem live_back{h':Nat->Option LObj}(hi:Inv ⟨W1,yby lv,pin,rd,dl,gv⟩ ok0 h' lv' w')(hb:yby lv' b):yby lv b\/W1.heap.size<=b:=(hi.mineOf hb).1
def zkl(P:Program)(f:FuncId)(caps:List AV)(els:List (List AV)):Prop:=
 ylj P f/\∀ (l:Nat) (ok:Nat->Prop) (W:World) (us:List Value) (J:Nat->World->Prop) (X:World->Prop),(∀ g,ok g->g < W.heap.size)->ybn ok W (fun _=>none) caps us ->
  (∀ k W',J k W'->W.heap.size<=W'.heap.size/\∀ g,ok g->W'.heap[g]?=W.heap[g]?)->(∀ k W1 W2,J k W1->Below W1.heap.size W1 W2->J k W2)->(∀ W1 W2,X W1->Below W1.heap.size W1 W2->X W2) ->
  (∀ k el vs W1,els[k]?=some el->J k W1->ybn ok W1 (fun _=>none) el vs->YieldAt Fence.wide 0 P l vs.toArray W1 fun e W'=>(e=.returned (.bool true)/\J (k+1) W')\/(e=.returned (.bool false)/\X W')) ->
  J 0 W->CallsIn Fence.wide 0 P f (#[.func (.yield l) #[] #[]]++us.toArray) W fun e W'=>(∃ v,e=.returned v)/\(J els.length W'\/X W')
theorem zwv:∀ (ps:List Nat) (vs:List Value) (tm:Array Value),ps.length=vs.length->ps.Nodup->(∀ p∈ps,p < tm.size) ->
  ((ps.zip vs).foldl (fun t (x:Nat × Value)=>t.setIfInBounds x.1 x.2) tm).size=tm.size/\(∀ x,x ∉ ps->((ps.zip vs).foldl (fun t (x:Nat × Value)=>t.setIfInBounds x.1 x.2) tm).getD x undef=tm.getD x undef) /\
   ∀ (j p:Nat) (v:Value),ps[j]?=some p->vs[j]?=some v->((ps.zip vs).foldl (fun t (x:Nat × Value)=>t.setIfInBounds x.1 x.2) tm).getD p undef=v
 | [],[],tm,_,_,_=>⟨rfl,fun _ _=>rfl,fun j p v h=>by simp at h⟩
 | p::ps,v::vs,tm,hl,hn,hlt=>by
  simp only[qcq]at hn;obtain⟨h1,h2,h3⟩:=zwv ps vs (tm.setIfInBounds p v) (by simpa using hl) hn.2 (fun q hq=>by simpa using hlt q (by simp[hq]));have hset:∀ x,x≠p->(tm.setIfInBounds p v).getD x undef=tm.getD x undef:=fun x hx=>by
   simp only[qar,qbx];rw[if_neg om]
  simp only[qdz,qcr];refine⟨by rw[h1];simp,fun x hx=>?_,fun j q u hj hu=>?_⟩
  .simp only[qaq,not_or]at hx;rw[h2 x hx.2,hset x hx.1]
  cases j with
  | zero=>
   simp only[qas,Option.some.injEq]at hj hu;subst hj hu;rw[h2 p hn.1];have:=hlt p sm;simp[Array.getD,this]
  | succ j=>exact h3 j q u (by simpa using hj) (by simpa using hu)
 | [],_::_,_,h,_,_=>by simp at h
 | _::_,[],_,h,_,_=>by simp at h
theorem zlt:∀ {ps:List Nat} {el:List AV} {x:Nat} {y:AV},yak (ps.zip el) x=some y->∃ j:Nat,ps[j]?=some x/\el[j]?=some y
 | [],_,x,y,h=>by simp[yak]at h
 | _::_,[],x,y,h=>by simp[yak]at h
 | p::ps,e::el,x,y,h=>by
  simp only[qdz,yak]at h;cases hb:Nat.beq x p with
  | true=>
   simp only[hb,Option.some.injEq]at h;exact⟨0,by simp[qaf hb],by simp[h]⟩
  | false=>
   simp only[hb]at h;obtain⟨j,h1,h2⟩:=zlt h;exact⟨j+1,by simpa using h1,by simpa using h2⟩
theorem yvz:∀ {ps:List Nat} {el:List AV} {x:Nat},ps.length=el.length->yak (ps.zip el) x=none->x ∉ ps
 | [],_,x,_,_=>by simp
 | _::_,[],x,hl,_=>by simp at hl
 | p::ps,e::el,x,hl,h=>by
  simp only[qdz,yak]at h;cases hb:Nat.beq x p with
  | true=>simp[hb]at h
  | false=>
   simp only[hb]at h;simp only[qaq,not_or];exact⟨fun e=>by subst e;simp at hb,yvz (by simpa using hl) h⟩
def zao(t0:Nat->Option AV)(ps:List Nat)(el:List AV)(x:Nat):Option AV:=
 match Nat.ble 1000000 x with
 | true=>t0 (x - 1000000)
 | false=>match yak (ps.zip el) x with
  | some y=>some y
  | none=>t0 x
def xfo(t0:Nat->Option AV)(hk:Nat->Nat->Option LObj)(k:Nat)(Q:Exit->SS->Prop):Exit->SS->Prop
 | .normal,s=>(∀ x y,t0 x=some y->s.t (x+1000000)=some y)/\∀ id o,hk (k+1) id=some o->s.h id=some o
 | .ret,s=>∃ hx:Nat->Option LObj,(∀ x y,t0 x=some y->s.t (x+1000000)=some y)/\(∀ id o,hx id=some o->s.h id=some o)/\Q .ret ⟨t0,hx⟩
 | .exit i,s=>∃ hx:Nat->Option LObj,(∀ x y,t0 x=some y->s.t (x+1000000)=some y)/\(∀ id o,hx id=some o->s.h id=some o)/\Q (.exit i) ⟨t0,hx⟩
 | _,_=>False
theorem ypc{o:Obj}(h:w.heap[l]?=some o):w.putObj l o=w:=by
 have:w.heap.setIfInBounds l o=w.heap:=by
  apply qgn;intro i;rw[qbx];split
  .rename_i e;subst e;split
   .exact h.symm
   rename_i hlt;rw[qed om]
  rfl
 unfold World.putObj;rw[this]
theorem yqy{o o':Obj}:(w.putObj l o).putObj l o'=w.putObj l o':=by
 unfold World.putObj;simp only[World.mk.injEq,and_true];apply qgn;intro i;simp only[qbx,qez];split <;> rfl
theorem zbt(h:zaw w){o:Obj}(hl:GN<=l):zaw (w.putObj l o):=
 h.keep (fun k hk=>World.putObj_heap_other om) sm
section
variable{P:Program}{N:Nat}{g:Operand}{ps:List Nat}{assign body:Code}{Q:Exit->SS->Prop}{s:SS}{gf:Nat}{caps:List AV}{els:List (List AV)}
def yis(B:Bse)(Bx:Bse)(okx:Nat->Prop)(N l:Nat)(rec:LoopState->Option Code->Loop)(t0:Nat->Option AV)(vt:Nat->Value)(o:Loop)(h:Nat->Option LObj)(W:World):Prop:=
 W.heap[l]?=some (.loop o)/\∃ lv',Inv Bx okx h lv' (W.putObj l (.loop (rec .ready none)))/\(∀ x y,t0 x=some y->Rel (yba Bx okx lv' (W.putObj l (.loop (rec .ready none)))) (W.putObj l (.loop (rec .ready none))) lv' y (vt x)) /\
  ∀ id b o,N<=id->h id=some o->isC o=true->B.pin id=some b->∃ n,lv' id=some (some b,n)
theorem yis.grow{Bx:Bse}{okx:Nat->Prop}{N l:Nat}{rec:LoopState->Option Code->Loop}{t0:Nat->Option AV}{vt:Nat->Value}{o:Loop}{h:Nat->Option LObj}{W W2:World}(hK:yis B Bx okx N l rec t0 vt o h W)(hb:Below W.heap.size W W2):yis B Bx okx N l rec t0 vt o h W2:=by
 obtain⟨h1,lv',h2,h3,h4⟩:=hK;have hlt:=(qaz.1 h1).1;have hb':Below (W.putObj l (.loop (rec .ready none))).heap.size (W.putObj l (.loop (rec .ready none))) (W2.putObj l (.loop (rec .ready none))):=by
  refine⟨hb.os,hb.tape,hb.output,by simpa using hb.size,fun k hk=>?_⟩;by_cases e:k=l
  .subst e;rw[World.putObj_heap_same hlt,World.putObj_heap_same (qbg hlt hb.size)]
  rw[World.putObj_heap_other e,World.putObj_heap_other e];exact hb.block k (by simpa using hk)
 exact⟨(hb.block l hlt).trans h1,lv',h2.grow hb',fun x y hx=>(h3 x y hx).grow hb',h4⟩
theorem yyq{ok0:Nat->Prop}{h:Nat->Option LObj}(hi:Inv B ok0 h lv w){l:Nat}(h1:¬ B.mine l){b:Nat}(hb:yby lv b):b≠l:=by
 rintro rfl;exact h1 (hi.mineOf hb).1
theorem round_K{Bx:Bse}{okx:Nat->Prop}{l:Nat}{rec:LoopState->Option Code->Loop}{t0:Nat->Option AV}{tm:Array Value}{vt:Nat->Value}{fn:FuncId}(hrec:∀ st pe,(rec st pe).state=st/\(rec st pe).pending=pe/\∀ st' pe',{ rec st pe with state:=st',pending:=pe' }=rec st' pe')(hl:Bx.w.heap[l]?=some (.loop (rec .ready none)))(hlx:¬ Bx.lent l)(hlk:¬ okx l)(hdis:∀ g,okx g->¬ Bx.lent g)(hlg:GN<=l)(htm:tm.size=N)(hvt:∀ x,x < 1000000->vt x=tm.getD x undef)(hbig:N<=1000000)(hps:∀ p∈ps,p < N)(hpn:ps.Nodup)(ht0:∀ x y,t0 x=some y->x < N\/1000000<=x){hk:Nat->Nat->Option LObj}{k:Nat}{el:List AV}(hel:el.length=ps.length/\yas.pureL el=true)(round:A P N assign (fun e s1=>e=.normal/\A P N body (xfo t0 hk k Q) s1) ⟨zao t0 ps el,hk k⟩){vs:List Value}{W:World}(hK:yis B Bx okx N l rec t0 vt (rec .ready none) (hk k) W)(hvs:ybn okx W (fun _=>none) el vs):
  RoundIn Fence.wide 0 P l fn ((ps.toArray.zip vs.toArray).foldl (fun tmps (x:Nat × Value)=>tmps.setIfInBounds x.1 x.2) tm) assign body W fun e W'=>
   (e=.returned (.bool true)/\yis B Bx okx N l rec t0 vt (rec .ready none) (hk (k+1)) W') \/
   (e=.returned (.bool false)/\∃ c h,((c=.ret/\Q .ret ⟨t0,h⟩)\/∃ i,c=.exit i/\Q (.exit i) ⟨t0,h⟩)/\yis B Bx okx N l rec t0 vt (rec .done (some c)) h W'):=by
 obtain⟨hWl,lv1,i1,f1,p1⟩:=hK;rw[ypc hWl]at i1 f1;have hlt:=(qaz.1 hWl).1;have hltx:=(qaz.1 hl).1;have hmx:¬ Bx.mine l:=fun h=>by rcases h with h|h;exact hlx h;omega
 have hnl1:∀ b,yby lv1 b->b≠l:=fun b hb=>yyq i1 hmx hb;have hnok1:∀ g,yba Bx okx lv1 W g->g≠l:=fun g hg e=>by subst e;rcases hg.1 with h|h;exact hlk h;exact hmx h
 obtain⟨hvl,hvr⟩:=hvs;obtain⟨z1,z2,z3⟩:=zwv ps vs tm (by rw[hvl,hel.1]) hpn (fun p hp=>by rw[htm];exact hps p hp);have hfold:(ps.toArray.zip vs.toArray).foldl (fun tmps (x:Nat × Value)=>tmps.setIfInBounds x.1 x.2) tm=(ps.zip vs).foldl (fun t (x:Nat × Value)=>t.setIfInBounds x.1 x.2) tm:=by
  rw[List.zip_toArray,List.foldl_toArray]
 rw[hfold];generalize (ps.zip vs).foldl (fun t (x:Nat × Value)=>t.setIfInBounds x.1 x.2) tm=tr at z1 z2 z3;have j1:=i1.rebase (W1:=W) i1.base.glob (qbf _) (fun _ _=>rfl) (fun _ _=>rfl) B.pin (some l) [] (fun x=>vt (x - 1000000)) (fun l' h=>by cases h;exact⟨⟨_,hWl⟩,fun h=>hnl1 l h rfl⟩);have up1:∀ g,yba Bx okx lv1 W g->yba ⟨W,yby lv1,B.pin,some l,[],fun x=>vt (x - 1000000)⟩ (yba Bx okx lv1 W) lv1 W g:=fun g hg=>⟨.inl hg,hg.2.1,hg.2.2⟩;have s1:Sim ⟨W,yby lv1,B.pin,some l,[],fun x=>vt (x - 1000000)⟩ (yba Bx okx lv1 W) N ⟨zao t0 ps el,hk k⟩ lv1 { tmps:=tr,defers:=[] } W:=by
  refine⟨j1,by simp only;rw[z1,htm],fun x y hy=>?_,⟨[],rfl,qdu,fun d hd=>by cases hd⟩,hbig,p1⟩;unfold zao at hy;cases hb:Nat.ble 1000000 x with
  | true=>
   simp only[hb]at hy;have hx:1000000<=x:=by simpa using hb
   refine⟨.inr hx,?_⟩;rw[ydx,if_neg om];exact(f1 _ y hy).keep fun g hg=>⟨up1 g hg,rfl⟩
  | false=>
   simp only[hb]at hy;have hx:=xfz hb;cases hz:yak (ps.zip el) x with
   | some y'=>
    simp only[hz,Option.some.injEq]at hy;subst hy;obtain⟨j,hj1,hj2⟩:=zlt hz;have hpx:=hps x (qab hj1);refine⟨.inl hpx,?_⟩;obtain⟨u,hu⟩:∃ u,vs[j]?=some u:=⟨_,qae (by rw[hvl];exact(qaa.1 hj2).1)⟩;rw[ydx,if_pos hx];simp only;rw[z3 j x u hj1 hu];have hp:yas y'=true:=ylz hel.2 y' (qab hj2);refine((hvr j y' u hj2 hu).relive (fun id b n _ hm=>by rw[yas.ment hp]at hm;cases hm)).keep fun g hg=>⟨up1 g ⟨.inl hg,qbg (i1.ok0lt g hg) i1.base.size,fun id b n hb e=>?_⟩,rfl⟩;subst e;rcases (i1.mineOf ⟨id,n,hb⟩).1 with h|h
    .exact hdis b hg h
    have:=i1.ok0lt b hg;omega
   | none=>
    simp only[hz]at hy;have hxN:x < N:=(ht0 x y hy).resolve_right om;refine⟨.inl hxN,?_⟩;rw[ydx,if_pos hx];simp only;rw[z2 x (yvz hel.1.symm hz),<- hvt x hx];exact(f1 x y hy).keep fun g hg=>⟨up1 g hg,rfl⟩
 have hA:=round _ _ _ _ _ s1;refine roundIn_of_wpIn trivial (wpIn_mono hA ?_);rintro e a2 W2 ⟨s2,lv2,⟨rfl,hbody⟩,h2⟩;have hW2l:W2.heap[l]?=some (.loop (rec .ready none)):=(h2.inv.base.block l hlt fun h=>hnl1 l h rfl).trans hWl;have hsz2:W.heap.size<=W2.heap.size:=h2.inv.base.size;have hm2:¬ Bse.mine ⟨W,yby lv1,B.pin,some l,[],fun x=>vt (x - 1000000)⟩ l:=fun h=>by rcases h with h|h;exact hnl1 l h rfl;simp only at h;omega
 have hnl2:∀ b,yby lv2 b->b≠l:=fun b hb=>yyq h2.inv hm2 hb;have hnok2:∀ g,yba ⟨W,yby lv1,B.pin,some l,[],fun x=>vt (x - 1000000)⟩ (yba Bx okx lv1 W) lv2 W2 g->g≠l:=fun g hg e=>by subst e;rcases hg.1 with h|h;exact hnok1 _ h rfl;exact hm2 h
 refine⟨_,run_beginRound hW2l (hrec _ _).1,?_⟩;rw[(hrec _ _).2.2,(hrec _ _).2.1];generalize hW3:W2.putObj l (.loop (rec .busy none))=W3;have hW3l:W3.heap[l]?=some (.loop (rec .busy none)):=by rw[<- hW3];exact World.putObj_heap_same om
 have hW3o:∀ k,k≠l->W3.heap[k]?=W2.heap[k]?:=fun k hk=>by rw[<- hW3];exact World.putObj_heap_other hk
 have hW3s:W3.heap.size=W2.heap.size:=by rw[<- hW3];simp
 have j3:=h2.inv.rebase (W1:=W3) (by rw[<- hW3];exact zbt h2.inv.base.glob hlg) om (fun g hg=>hW3o g (hnok2 g hg)) (fun b hb=>hW3o b (hnl2 b hb)) B.pin (some l) a2.defers (fun x=>vt (x - 1000000)) (fun l' h=>by cases h;exact⟨⟨_,hW3l⟩,fun h=>hnl2 l h rfl⟩);have up3:∀ g,yba ⟨W,yby lv1,B.pin,some l,[],fun x=>vt (x - 1000000)⟩ (yba Bx okx lv1 W) lv2 W2 g->yba ⟨W3,yby lv2,B.pin,some l,a2.defers,fun x=>vt (x - 1000000)⟩ (yba ⟨W,yby lv1,B.pin,some l,[],fun x=>vt (x - 1000000)⟩ (yba Bx okx lv1 W) lv2 W2) lv2 W3 g/\W3.heap[g]?=W2.heap[g]?:=
  fun g hg=>⟨⟨.inl hg,by rw[hW3s];exact hg.2.1,hg.2.2⟩,hW3o g (hnok2 g hg)⟩
 have s3:Sim ⟨W3,yby lv2,B.pin,some l,a2.defers,fun x=>vt (x - 1000000)⟩ (yba ⟨W,yby lv1,B.pin,some l,[],fun x=>vt (x - 1000000)⟩ (yba Bx okx lv1 W) lv2 W2) N s2 lv2 a2 W3:=
  ⟨j3,h2.size,fun x y hx=>⟨(h2.frame x y hx).1,(h2.frame x y hx).2.keep up3⟩,⟨[],rfl,qdu,fun d hd=>by cases hd⟩,hbig,h2.pin⟩
 refine wpIn_mono (hbody _ _ _ _ _ s3) ?_;rintro e a4 W4 ⟨s4,lv4,hq,h4⟩;have hlt3:l < W3.heap.size:=by omega
 have hW4l:W4.heap[l]?=some (.loop (rec .busy none)):=(h4.inv.base.block l hlt3 fun h=>hnl2 l h rfl).trans hW3l;have hsz4:W3.heap.size<=W4.heap.size:=h4.inv.base.size;have fin:∀ (h':Nat->Option LObj) (st:LoopState) (pe:Option Code),(∀ x y,t0 x=some y->s4.t (x+1000000)=some y)->(∀ id o,h' id=some o->s4.h id=some o)->yis B Bx okx N l rec t0 vt (rec st pe) h' (W4.putObj l (.loop (rec st pe))):=by
  intro h' st pe hgt hsub;refine⟨World.putObj_heap_same om,?_⟩;rw[yqy];obtain⟨lv5,i5,sub5,ok5⟩:=h4.inv.weak hsub;generalize hW5:W4.putObj l (.loop (rec .ready none))=W5;have hW5l:W5.heap[l]?=some (.loop (rec .ready none)):=by rw[<- hW5];exact World.putObj_heap_same om
  have hW5o:∀ k,k≠l->W5.heap[k]?=W4.heap[k]?:=fun k hk=>by rw[<- hW5];exact World.putObj_heap_other hk
  have hW5s:W5.heap.size=W4.heap.size:=by rw[<- hW5];simp
  have hm3:¬ Bse.mine ⟨W3,yby lv2,B.pin,some l,a2.defers,fun x=>vt (x - 1000000)⟩ l:=fun h=>by rcases h with h|h;exact hnl2 l h rfl;simp only at h;omega
  have hG5:zaw W5:=by rw[<- hW5];exact zbt h4.inv.base.glob hlg
  have hb1:Based ⟨W,yby lv1,B.pin,some l,[],fun x=>vt (x - 1000000)⟩ W5:=by
   have b4:=h4.inv.base;have b2:=h2.inv.base;have e5:W5.os=W4.os/\W5.tape=W4.tape/\W5.output=W4.output:=by rw[<- hW5];exact⟨rfl,rfl,rfl⟩
   have e3:W3.os=W2.os/\W3.tape=W2.tape/\W3.output=W2.output:=by rw[<- hW3];exact⟨rfl,rfl,rfl⟩
   refine⟨e5.1.trans (b4.os.trans (e3.1.trans b2.os)),e5.2.1.trans (b4.tape.trans (e3.2.1.trans b2.tape)),e5.2.2.trans (b4.output.trans (e3.2.2.trans b2.output)),by simp only;omega,fun k hk hnl=>?_,hG5,b2.gsize,b2.lentG,b2.rdok⟩;by_cases e:k=l
   .subst e;exact hW5l.trans hWl.symm
   refine(hW5o k e).trans ((b4.block k (by simp only at hk ⊢;omega) fun h=>?_).trans ((hW3o k e).trans (b2.block k hk hnl)));rcases live_back h2.inv h with h'|h'
   .exact hnl h'
   simp only at hk;omega
  obtain⟨k1,k2⟩:=Inv.back h2.inv om i5 hb1 om (fun g hg=>hW5o g fun e=>by
   subst e
   rcases hg.1 with h|h
   .exact hnok2 _ h rfl
   exact hm3 h) (fun b hb=>hW5o b (yyq i5 hm3 hb))
  have hbx:Based Bx W5:=by
   have bx:=i1.base;refine⟨hb1.os.trans bx.os,hb1.tape.trans bx.tape,hb1.output.trans bx.output,qbp bx.size hb1.size,fun k hk hnl=>?_,hG5,bx.gsize,bx.lentG,bx.rdok⟩;refine(hb1.block k (qbg hk bx.size) fun h=>?_).trans (bx.block k hk hnl);rcases (i1.mineOf h).1 with h'|h'
   .exact hnl h'
   omega
  obtain⟨q1,q2⟩:=Inv.back i1 (qbf _) k1 hbx (qbf _) (fun _ _=>rfl) (fun _ _=>rfl);refine⟨lv5,q1,fun x y hx=>?_,fun id b o hN hx hc hb=>?_⟩
  .have hf:=(h4.frame _ _ (hgt x y hx)).2;rw[ydx,if_neg om]at hf;simp only[Nat.add_sub_cancel]at hf;have hf5:=(hf.relive fun id b n hb _=>sub5 id b n hb).keep (fun g hg=>⟨ok5 g hg,rfl⟩);exact(hf5.keep k2).keep q2
  obtain⟨n,hn⟩:=h4.pin id b o hN (hsub id o hx) hc hb;obtain⟨b',n',g1,_⟩:=i5.obj id _ hx;have:=sub5 id b' n' g1;rw[hn]at this;cases this;exact⟨n,g1⟩
 cases e with
 | normal=>
  refine⟨_,_,run_endRound none hW4l,.inl ⟨rfl,?_⟩⟩;rw[(hrec _ _).2.2];exact fin _ .ready none hq.1 hq.2
 | ret=>
  obtain⟨hx,g1,g2,g3⟩:=hq;refine⟨_,_,run_endRound (some .ret) hW4l,.inr ⟨rfl,.ret,hx,.inl ⟨rfl,g3⟩,?_⟩⟩;rw[(hrec _ _).2.2];exact fin _ .done (some .ret) g1 g2
 | exit i=>
  obtain⟨hx,g1,g2,g3⟩:=hq;refine⟨_,_,run_endRound (some (.exit i)) hW4l,.inr ⟨rfl,.exit i,hx,.inr ⟨i,rfl,g3⟩,?_⟩⟩;rw[(hrec _ _).2.2];exact fin _ .done (some (.exit i)) g1 g2
 | goto l=>exact hq.elim
 | panic c=>exact hq.elim
 | outgrown=>exact hq.elim
theorem Inv.weakC{ok0:Nat->Prop}{h h':Nat->Option LObj}{ids:List Nat}(hi:Inv B ok0 h lv w)(hh:∀ id o,h' id=some o->h id=some o\/id∈ids/\∃ x xs,o=.cells (x::xs)/\h id=some (.vec (x::xs))):
  ∃ lv',Inv B ok0 h' lv' w/\(∀ id b n,lv' id=some (b,n)->lv id=some (b,n))/\∀ g,yba B ok0 lv w g->yba B ok0 lv' w g:=by
 obtain⟨lv',h1,h2,h3⟩:=hi.weak (h':=fun i=>match h' i with|none=>none|some _=>h i) fun i o ho=>by
  split at ho
  .cases ho
  exact ho
 refine⟨lv',⟨h1.base,h1.ok0lt,fun id hn=>h1.dom id (by simp[hn]),h1.inj,fun id o ho=>?_⟩,h2,h3⟩;rcases hh id o ho with e|⟨_,x,xs,rfl,e⟩
 .exact h1.obj id o (by simp only[ho];exact e)
 obtain⟨b,n,q1,q2⟩:=h1.obj id (.vec (x::xs)) (by simp only[ho];exact e);refine⟨b,n,q1,?_⟩;cases b with
 | none=>simp[yge]at q2
 | some b=>exact⟨q2.1,q2.2.1,q2.2.2.1⟩
def xks(lv:Live)(ids:List Nat)(p:Nat->Option Nat)(x:Nat):Option Nat:=
 match ykc x ids with
 | true=>match lv x with
  | some (some b,_)=>some b
  | _=>none
 | false=>p x
structure LoopAt (P:Program) (N:Nat) (ps:List Nat) (assign body:Code) (Q:Exit->SS->Prop) (t0:Nat->Option AV) (caps:List AV) (ids:List Nat) (B Bx:Bse) (okx:Nat->Prop) (l:Nat) (rec:LoopState->Option Code->Loop) (vt:Nat->Value) (lv:Live) (lb:List Value) (W1:World):Prop where
 okLt:∀ g,okx g->g < W1.heap.size
 len:lb.length=caps.length
 caps:∀ (i:Nat) (c:AV) (u:Value),caps[i]?=some c->lb[i]?=some u->Rel okx W1 lv c u
 pin:∀ id∈ids,∃ b n,lv id=some (some b,n)/\B.pin id=some b
 pinx:∀ x,Bx.pin x=none
 mx:¬ Bx.mine l
 gl:GN<=l
 keep:∀ o h W',yis B Bx okx N l rec t0 vt o h W'->W1.heap.size<=W'.heap.size/\∀ g,okx g->W'.heap[g]?=W1.heap[g]?
 yield:∀ (hk:Nat->Nat->Option LObj) (k:Nat) (el:List AV) (vs:List Value) (W:World),(el.length=ps.length/\yas.pureL el=true)->A P N assign (fun e s1=>e=.normal/\A P N body (xfo t0 hk k Q) s1) ⟨zao t0 ps el,hk k⟩->yis B Bx okx N l rec t0 vt (rec .ready none) (hk k) W->ybn okx W (fun _=>none) el vs ->
  YieldAt Fence.wide 0 P l vs.toArray W fun e W'=>(e=.returned (.bool true)/\yis B Bx okx N l rec t0 vt (rec .ready none) (hk (k+1)) W')\/(e=.returned (.bool false)/\∃ c h,((c=.ret/\Q .ret ⟨t0,h⟩)\/∃ i,c=.exit i/\Q (.exit i) ⟨t0,h⟩)/\yis B Bx okx N l rec t0 vt (rec .done (some c)) h W')
theorem zuz(ids:List Nat)(hgv:evF s.t g=some (.fn gf caps))(hbody:ylj P gf)(hps:∀ p∈ps,p < N)(hpn:ps.Nodup)(t0:Nat->Option AV)(ht0:∀ x y,t0 x=some y->s.t x=some y/\(x < N\/1000000<=x))
  (H0 HE:Nat->Option LObj) (h0:∀ id o,H0 id=some o->s.h id=some o\/id∈ids/\∃ x xs,o=.cells (x::xs)/\s.h id=some (.vec (x::xs))) (hids:∀ id∈ids,N<=id/\∃ xs,H0 id=some (.cells xs))
  (Q':Exit->SS->Prop) (hQ:∀ e h,Q' e ⟨t0,h⟩->∃ h',(∀ i o,h' i=some o->h i=some o/\i ∉ ids)/\Q e ⟨t0,h'⟩)
  (hcall:∀ (B Bx:Bse) (okx:Nat->Prop) (l:Nat) (rec:LoopState->Option Code->Loop) (vt:Nat->Value) (lv:Live) (lb:List Value) (W1:World),LoopAt P N ps assign body Q' t0 caps ids B Bx okx l rec vt lv lb W1->yis B Bx okx N l rec t0 vt (rec .ready none) H0 W1 ->
   CallsIn Fence.wide 0 P gf (#[.func (.yield l) #[] #[]]++lb.toArray) W1 fun e W'=>(∃ v,e=.returned v)/\(yis B Bx okx N l rec t0 vt (rec .ready none) HE W'\/∃ (c:Code) (h:Nat->Option LObj),((c=.ret/\Q' .ret ⟨t0,h⟩)\/∃ i,c=.exit i/\Q' (.exit i) ⟨t0,h⟩)/\yis B Bx okx N l rec t0 vt (rec .done (some c)) h W'))
  (done:Q' .normal ⟨t0,HE⟩):A P N (.rangeFunc g ps.toArray assign body) Q s:=by
 intro B ok0 lvs a w hs;have hfr:=hs.eval hgv;generalize hv:a.eval g=v at hfr;cases hfr with
 | fn lb hl hr=>
 obtain⟨lv,hi,hsub,hok⟩:=hs.inv.weakC h0;have hbig:=hs.big;have hframe0:∀ x y,t0 x=some y->Rel (yba B ok0 lv w) w lv y (ydx B a x):=by
  intro x y hx;obtain⟨g1,g2⟩:=ht0 x y hx;have:=(hs.frame x y g1).2;exact(this.relive fun id b n hb _=>hsub id b n hb).keep fun g hg=>⟨hok g hg,rfl⟩
 have hcaps:∀ (i:Nat) (c:AV) (u:Value),caps[i]?=some c->lb[i]?=some u->Rel (yba B ok0 lv w) w lv c u:=fun i c u h1 h2=>((hr i c u h1 h2).relive (fun id b n hb _=>hsub id b n hb)).keep fun g hg=>⟨hok g hg,rfl⟩;have hpin0:∀ id b o,N<=id->H0 id=some o->isC o=true->id ∉ ids->B.pin id=some b->∃ n,lv id=some (some b,n):=by
  intro id b o hN hx hc hni hb;obtain⟨n,hn⟩:=hs.pin id b o hN ((h0 id o hx).resolve_right fun h=>hni h.1) hc hb;obtain⟨b',n',g1,_⟩:=hi.obj id _ hx;have:=hsub id b' n' g1;rw[hn]at this;cases this;exact⟨n,g1⟩
 obtain⟨Bp,hBp⟩:∃ Bp:Bse,Bp.pin=xks lv ids B.pin:=⟨⟨B.w,B.lent,xks lv ids B.pin,B.rd,B.dl,B.gv⟩,rfl⟩;have hpins:∀ id b o,N<=id->H0 id=some o->isC o=true->Bp.pin id=some b->∃ n,lv id=some (some b,n):=by
  intro id b o hN hx hc hb;rw[hBp,xks]at hb;split at hb
  .split at hb
   .rename_i b' n hlv;cases hb;exact⟨n,hlv⟩
   cases hb
  rename_i hm;exact hpin0 id b o hN hx hc (fun h=>by rw[ycr.2 h]at hm;cases hm) hb
 have hpinB:∀ id b,id ∉ ids->B.pin id=some b->Bp.pin id=some b:=by
  intro id b hni hb;rw[hBp,xks];split
  .rename_i hm;exact absurd (ycr.1 hm) hni
  exact hb
 refine wpIn_rangeFunc fun fn hfn=>?_;obtain⟨l,mark,W1,D0,henter,hgrow,hl1,hlw,hmark⟩:∃ (l:Nat) (mark:List Deferred) (W1:World) (D0:Nat),
   (Instr.enterLoop fn a.tmps ps.toArray assign body (FW B.rd).round).run P w=.ok (l,mark) W1/\Below w.heap.size w W1/\W1.heap[l]?=some (.loop ({ state:=.ready,pending:=none,fn,tmps:=a.tmps,params:=ps.toArray,assign,body,defers:=D0 }:Loop))/\w.heap.size<=l /\
   (mark=[]\/∃ D,mark=[{ target:=.collected D,args:=#[] }]/\W1.heap[D]?=some (.deferred (some []))/\w.heap.size<=D/\D≠l):=by
  cases hrd:B.rd with
  | none=>
   refine⟨_,_,_,w.heap.size,run_enterLoop_outer _ _ _ _ _,((Below.refl _ w).alloc (qbf _) _).alloc sm _,?_,om,.inr ⟨_,rfl,?_,qbf _,om⟩⟩
   .have:=World.alloc_heap_new (w.alloc (.deferred (some []))) (.loop { state:=.ready,pending:=none,fn,tmps:=a.tmps,params:=ps.toArray,assign,body,defers:=w.heap.size })
    rwa [World.size_alloc]at this
   exact(Below.heap_alloc _ _ _ sm).trans (World.alloc_heap_new w _)
  | some l0=>
   obtain⟨⟨r0,hr0⟩,hnl⟩:=hs.inv.base.rdok l0 hrd;have hr1:w.heap[l0]?=some (.loop r0):=(hs.inv.base.block l0 (qaz.1 hr0).1 hnl).trans hr0;exact⟨_,_,_,r0.defers,run_enterLoop_inner hr1 _ _ _ _ _,(Below.refl _ w).alloc (qbf _) _,World.alloc_heap_new w _,qbf _,.inl rfl⟩
 obtain⟨rec,hrecd⟩:∃ rec:LoopState->Option Code->Loop,rec=fun st pe=>({ state:=st,pending:=pe,fn,tmps:=a.tmps,params:=ps.toArray,assign,body,defers:=D0 }:Loop):=⟨_,rfl⟩;have hrec:∀ st pe,(rec st pe).state=st/\(rec st pe).pending=pe/\∀ st' pe',{ rec st pe with state:=st',pending:=pe' }=rec st' pe':=fun st pe=>by subst hrecd;exact⟨rfl,rfl,fun _ _=>rfl⟩
 have hl1':W1.heap[l]?=some (.loop (rec .ready none)):=by rw[hrecd];exact hl1
 have hG1:zaw W1:=(hi.base.grow hgrow).glob;have hGN:GN<=w.heap.size:=qbp hi.base.gsize hi.base.size;have hltw:∀ b,yby lv b->b < w.heap.size:=fun b hb=>(hi.mineOf hb).2;have hlt1:=(qaz.1 hl1').1;have j1:=hi.rebase hG1 hgrow.size (fun g hg=>hgrow.block g hg.2.1) (fun b hb=>hgrow.block b (hltw b hb)) (fun _=>none) none [] (fun _=>undef) (fun l h=>by cases h);have hnlive:∀ g,yba B ok0 lv w g->¬ yby lv g:=fun g hg ⟨id,n,h⟩=>hg.2.2 id g n h rfl;refine⟨l,mark,W1,{ target:=.fn (.func gf) lb.toArray,args:=#[.func (.yield l) #[] #[]] },W1,gf,#[.func (.yield l) #[] #[]]++lb.toArray,W1,henter,?_,fun _ _=>trivial,?_,fun hc=>(by cases hc),?_⟩
 .simp only[resolve,hv];simp[go_sem]
 .simp [invoke,go_sem,ygm hbody]
 have hK0:yis Bp ⟨W1,yby lv,fun _=>none,none,[],fun _=>undef⟩ (yba B ok0 lv w) N l rec t0 (ydx B a) (rec .ready none) H0 W1:=by
  refine⟨hl1',lv,?_,fun x y hx=>?_,hpins⟩
  .rw [ypc hl1'];exact j1
  rw[ypc hl1'];exact(hframe0 x y hx).keep fun g hg=>⟨⟨.inl hg,qbg hg.2.1 hgrow.size,hg.2.2⟩,hgrow.block g hg.2.1⟩
 have hback:∀ (o:Loop) (h:Nat->Option LObj) (W:World),yis Bp ⟨W1,yby lv,fun _=>none,none,[],fun _=>undef⟩ (yba B ok0 lv w) N l rec t0 (ydx B a) o h W->∀ h':Nat->Option LObj,(∀ i o,h' i=some o->h i=some o/\i ∉ ids)->∃ lv',Sim B ok0 N ⟨t0,h'⟩ lv' { a with defers:=mark++a.defers } (W.putObj l (.loop { o with state:=.exhausted })):=by
  rintro o h W ⟨hWl,lv',i1,f1,p1⟩ h' hh';have hlt:=(qaz.1 hWl).1;have b1:=i1.base;generalize hW5:W.putObj l (.loop { o with state:=.exhausted })=W5;have hW5o:∀ k,k≠l->W5.heap[k]?=(W.putObj l (.loop (rec .ready none))).heap[k]?:=fun k hk=>by rw[<- hW5,World.putObj_heap_other hk,World.putObj_heap_other hk]
  have hW5s:W5.heap.size=(W.putObj l (.loop (rec .ready none))).heap.size:=by rw[<- hW5];simp
  have hG5:zaw W5:=by
   have:=zbt (o:=.loop { o with state:=.exhausted }) b1.glob (l:=l) om
   rwa [yqy,hW5]at this
  have e5:W5.os=W.os/\W5.tape=W.tape/\W5.output=W.output:=by rw[<- hW5];exact⟨rfl,rfl,rfl⟩
  have hold:∀ k,k < w.heap.size->¬ yby lv k->W5.heap[k]?=w.heap[k]?:=fun k hk hn=>(hW5o k om).trans ((b1.block k (qbg hk hgrow.size) hn).trans (hgrow.block k hk));have hbB:Based B W5:=by
   refine⟨e5.1.trans (b1.os.trans (hgrow.os.trans hi.base.os)),e5.2.1.trans (b1.tape.trans (hgrow.tape.trans hi.base.tape)),e5.2.2.trans (b1.output.trans (hgrow.output.trans hi.base.output)),?_,fun k hk hnl=>?_,hG5,hi.base.gsize,hi.base.lentG,hi.base.rdok⟩
   .rw [hW5s];exact qbp hi.base.size (qbp hgrow.size b1.size)
   refine(hold k (qbg hk hi.base.size) fun hb=>?_).trans (hi.base.block k hk hnl);rcases (hi.mineOf hb).1 with h'|h'
   .exact hnl h'
   omega
  have hmx:¬ Bse.mine ⟨W1,yby lv,fun _=>none,none,[],fun _=>undef⟩ l:=fun h=>by rcases h with h|h;exact absurd (hltw l h) om;simp only at h;omega
  obtain⟨k1,k2⟩:=Inv.back hi hgrow.size i1 hbB om (fun g hg=>hW5o g fun e=>by
   subst e
   rcases hg.1 with h|h
   .have:=h.2.1;omega
   exact hmx h) (fun b hb=>hW5o b (yyq i1 hmx hb))
  obtain⟨lv2,k3,k4,k5⟩:=k1.weak (h':=h') fun i o ho=>(hh' i o ho).1;refine⟨lv2,k3,hs.size,fun x y hx=>⟨(ht0 x y hx).2,?_⟩,?_,hbig,fun id b o hN hx hc hb=>?_⟩
  .exact (((f1 x y hx).keep k2).relive fun id b n hb _=>k4 id b n hb).keep fun g hg=>⟨k5 g hg,rfl⟩
  rotate_left
  .obtain ⟨n,hn⟩:=p1 id b o hN (hh' id o hx).1 hc (hpinB id b (hh' id o hx).2 hb);obtain⟨b',n',g1,_⟩:=k3.obj id _ hx;have:=k4 id b' n' g1;rw[hn]at this;cases this;exact⟨n,g1⟩
  obtain⟨ms,g1,g2,g3⟩:=hs.defers;have hm:∀ d∈ms,∃ D,d={ target:=.collected D,args:=#[] }/\W5.heap[D]?=some (.deferred (some []))/\B.w.heap.size<=D/\D < w.heap.size:=by
   intro d hd;obtain⟨D,q1,q2,q3⟩:=g3 d hd;have hDlt:=(qaz.1 q2).1;exact⟨D,q1,(hold D hDlt fun⟨id,n,h⟩=>(hi.lvat h).choose_spec.2.2.2.notDef q2).trans q2,q3,hDlt⟩
  refine⟨mark++ms,by simp only;rw[g1,qbd],?_,fun d hd=>?_⟩
  .rcases hmark with rfl|⟨D,rfl,_,hD,_⟩
   .simpa using g2
   simp only[qbb,qcw,qcq];refine⟨fun hin=>?_,g2⟩;obtain⟨D',q1,_,_,q4⟩:=hm _ hin;simp only[Deferred.mk.injEq,Target.collected.injEq,and_true]at q1;omega
  rcases qat.1 hd with hd|hd
  .rcases hmark with rfl|⟨D,rfl,hD1,hD2,hD3⟩
   .cases hd
   simp only[qau]at hd;refine⟨D,hd,?_,qbp hi.base.size hD2⟩;exact(hW5o D hD3).trans ((b1.block D (qaz.1 hD1).1 fun h=>by have:=hltw D h;omega).trans hD1)
  obtain⟨D,q1,q2,q3,_⟩:=hm d hd;exact⟨D,q1,q2,q3⟩
 have hmx1:¬ Bse.mine ⟨W1,yby lv,fun _=>none,none,[],fun _=>undef⟩ l:=fun h=>by rcases h with h|h;exact absurd (hltw l h) om;simp only at h;omega
 have hcall:=hcall Bp ⟨W1,yby lv,fun _=>none,none,[],fun _=>undef⟩ (yba B ok0 lv w) l rec (ydx B a) lv lb W1 ⟨fun g hg=>qbg hg.2.1 hgrow.size,hl,fun i x u hx hu=>(hcaps i x u hx hu).keep fun g hg=>⟨hg,hgrow.block g hg.2.1⟩,fun id hid=>?_,fun _=>rfl,hmx1,om,fun o h W' hK=>?_,fun hk k el vs W2 hel' round hK hvs=>?_⟩ hK0
 .have hcall':CallsIn (FW B.rd) (0 - 1) P gf (#[.func (.yield l) #[] #[]]++lb.toArray) W1 _:=hcall;refine hcall'.mono ?_;rintro e W' ⟨⟨v,rfl⟩,hK|⟨c,h,hc,hK⟩⟩
  .obtain ⟨h',hh',done⟩:=hQ _ _ done;obtain⟨lv',hsim⟩:=hback _ _ _ hK h' hh';refine⟨none,W'.putObj l (.loop { rec .ready none with state:=.exhausted }),?_,⟨_,lv',done,hsim⟩⟩;exact(run_endLoop (P:=P) hK.1 (by rw[(hrec _ _).1];simp)).trans (congrArg (fun x=>Result.ok x (W'.putObj l (.loop { rec .ready none with state:=.exhausted }))) (hrec _ _).2.1)
  have hc':∃ h',(∀ i o,h' i=some o->h i=some o/\i ∉ ids)/\((c=.ret/\Q .ret ⟨t0,h'⟩)\/∃ i,c=.exit i/\Q (.exit i) ⟨t0,h'⟩):=by
   rcases hc with⟨rfl,hq⟩|⟨i,rfl,hq⟩
   .obtain ⟨h',hh',q⟩:=hQ _ _ hq;exact⟨h',hh',.inl ⟨rfl,q⟩⟩
   obtain⟨h',hh',q⟩:=hQ _ _ hq;exact⟨h',hh',.inr ⟨i,rfl,q⟩⟩
  obtain⟨h',hh',hc⟩:=hc';obtain⟨lv',hsim⟩:=hback _ _ _ hK h' hh';refine⟨some c,W'.putObj l (.loop { rec .done (some c)with state:=.exhausted }),?_,?_⟩
  .exact (run_endLoop (P:=P) hK.1 (by rw[(hrec _ _).1];simp)).trans (congrArg (fun x=>Result.ok x (W'.putObj l (.loop { rec .done (some c)with state:=.exhausted }))) (hrec _ _).2.1)
  rcases hc with⟨rfl,hq⟩|⟨i,rfl,hq⟩
  .exact wpIn_ret ⟨_,lv',hq,hsim⟩
  exact wpIn_exit ⟨_,lv',hq,hsim⟩
 .obtain ⟨hN,xs,hx⟩:=hids id hid;obtain⟨b,n,g1,g2⟩:=hi.obj id _ hx;cases b with
  | none=>simp[yge]at g2
  | some b=>exact⟨b,n,g1,by rw[hBp,xks,ycr.2 hid,g1]⟩
 .obtain ⟨_,lv',hI,_,_⟩:=hK;have hb:=hI.base;refine⟨by simpa using hb.size,fun g hg=>?_⟩;have hne:g≠l:=by have:=hg.2.1;omega
  rw[<- World.putObj_heap_other (w:=W') (o:=.loop (rec .ready none)) hne];exact hb.block g (qbg hg.2.1 hgrow.size) (hnlive g hg)
 refine⟨fn,_,assign,body,?_,round_K hrec hl1' (fun h=>by have:=hltw l h;omega) (fun h=>by have:=h.2.1;omega) (fun g hg=>hnlive g hg) om hs.size (fun x hx=>by rw[ydx,if_pos hx]) hbig hps hpn (fun x y hx=>(ht0 x y hx).2) hel' round hK hvs⟩;have:=run_yield (P:=P) (args:=vs.toArray) hK.1 (by rw[hrecd];simp[hvs.1,hel'.1]);rw[hrecd]at this;exact this
theorem A_rangeF(hgv:evF s.t g=some (.fn gf caps))(hit:zkl P gf caps els)(hpe:∀ el∈els,el.length=ps.length/\yas.pureL el=true)(hps:∀ p∈ps,p < N)(hpn:ps.Nodup)(t0:Nat->Option AV)(ht0:∀ x y,t0 x=some y->s.t x=some y/\(x < N\/1000000<=x))
  (hk:Nat->Nat->Option LObj) (h0:∀ id o,hk 0 id=some o->s.h id=some o) (round:∀ k el,els[k]?=some el->A P N assign (fun e s1=>e=.normal/\A P N body (xfo t0 hk k Q) s1) ⟨zao t0 ps el,hk k⟩)
  (done:Q .normal ⟨t0,hk els.length⟩):A P N (.rangeFunc g ps.toArray assign body) Q s:=
 zuz [] hgv hit.1 hps hpn t0 ht0 (hk 0) (hk els.length) (fun id o h=>.inl (h0 id o h)) (fun id h=>by cases h) Q (fun e h hq=>⟨h,fun i o ho=>⟨ho,sm⟩,hq⟩) (fun B Bx okx l rec vt lv lb W1 hL hK0=>hit.2 l okx W1 lb (fun k W=>yis B Bx okx N l rec t0 vt (rec .ready none) (hk k) W)
  (fun W=>∃ (c:Code) (h:Nat->Option LObj),((c=.ret/\Q .ret ⟨t0,h⟩)\/∃ i,c=.exit i/\Q (.exit i) ⟨t0,h⟩)/\yis B Bx okx N l rec t0 vt (rec .done (some c)) h W)
  hL.okLt ⟨hL.len,fun i x u hx hu=>(hL.caps i x u hx hu).relive fun id b n hb _=>by cases hb⟩ (fun k W' hK=>hL.keep _ _ _ hK) (fun k W2 W3 hK hb=>hK.grow hb) (fun W2 W3 ⟨c,h,hc,hK⟩ hb=>⟨c,h,hc,hK.grow hb⟩) (fun k el vs W2 hel hK hvs=>hL.yield hk k el vs W2 (hpe el (qab hel)) (round k el hel) hK hvs) hK0) done
end
end
section
open Go.RowKit
def zgw:List (Nat × AV)->List (Nat × AV)
 | []=>[]
 | (x,y)::t=>(x+1000000,y)::zgw t
theorem yoa:∀ (t:List (Nat × AV)) (x:Nat),yak (zgw t) (x+1000000)=yak t x
 | [],x=>rfl
 | (a,y)::t,x=>by
  simp only[zgw,yak];have e:Nat.beq (x+1000000) (a+1000000)=Nat.beq x a:=by
   cases h:Nat.beq x a with
   | true=>rw[qaf h];simp
   | false=>
    refine ycp fun e=>?_;obtain rfl:x=a:=by omega
    simp at h
  rw[e];cases Nat.beq x a with
  | true=>rfl
  | false=>exact yoa t x
theorem ytm:∀ {t:List (Nat × AV)} {x:Nat} {y:AV},yak (zgw t) x=some y->1000000<=x
 | [],x,y,h=>by simp[zgw,yak]at h
 | (a,z)::t,x,y,h=>by
  simp only[zgw,yak]at h;cases hb:Nat.beq x (a+1000000)with
  | true=>have:=qaf hb;omega
  | false=>simp only[hb]at h;exact ytm h
theorem zej:∀ {a b:List (Nat × AV)} {x:Nat},yak (a++b) x=match yak a x with|some y=>some y|none=>yak b x
 | [],b,x=>rfl
 | (d,r)::a,b,x=>by
  simp only[qbb,yak];cases Nat.beq x d with
  | true=>rfl
  | false=>exact zej
def zql(n:Nat):List Nat->Bool
 | []=>true
 | x::t=>Nat.blt x n && zql n t
theorem yse:∀ {t:List Nat},zql n t=true->∀ x∈t,x < n
 | [],_,x,h=>by cases h
 | a::t,hl,x,h=>by
  simp only[zql,qad,qhf]at hl;rcases qaq.1 h with rfl|h
  .exact hl.1
  exact yse hl.2 x h
theorem yhu:∀ {l:List Nat},yed l=true->l.Nodup
 | [],_=>qdu
 | k::l,h=>by
  simp only[yed]at h;cases hm:ykc k l with
  | true=>simp[hm]at h
  | false=>
   simp only[hm]at h;exact qcq.2 ⟨fun hin=>(by rw[ycr.2 hin]at hm;cases hm),yhu h⟩
def xdd:List (Nat × AV)->List (Nat × AV)
 | []=>[]
 | (x,y)::t=>match Nat.ble 1000000 x with
  | true=>xdd t
  | false=>(x,y)::xdd t
theorem yvy:∀ {t:List (Nat × AV)} {x:Nat},yak (xdd t) x=match Nat.ble 1000000 x with|true=>none|false=>yak t x
 | [],x=>by cases h:Nat.ble 1000000 x <;> rfl
 | (a,z)::t,x=>by
  have ih:=yvy (t:=t) (x:=x);simp only[xdd];cases ha:Nat.ble 1000000 a with
  | true=>
   simp only;rw[ih];cases hx:Nat.ble 1000000 x with
   | true=>rfl
   | false=>
    simp only[yak];rw[ycp (fun e=>by subst e;rw[ha]at hx;cases hx)]
  | false=>
   simp only[yak];cases hb:Nat.beq x a with
   | true=>rw[qaf hb,ha]
   | false=>simp only;rw[ih]
def zqa(n:Nat):List (Nat × AV)->Bool
 | []=>true
 | (x,_)::t=>(Nat.blt x n || Nat.ble 1000000 x) && zqa n t
theorem yul:∀ {t:List (Nat × AV)},zqa n t=true->∀ x y,yak t x=some y->x < n\/1000000<=x
 | [],_,x,y,h=>by simp[yak]at h
 | (a,z)::t,hl,x,y,h=>by
  simp only[zqa,qad,qck,qhf,qdr]at hl;simp only[yak]at h;cases hb:Nat.beq x a with
  | true=>rw[qaf hb];exact hl.1
  | false=>simp only[hb]at h;exact yul hl.2 x y h
def zyp(ps:List Nat)(el:List AV)(t0:List (Nat × AV)):List (Nat × AV):=ps.zip el++(xdd t0++zgw t0)
theorem zfq{ps:List Nat}{el:List AV}{t0:List (Nat × AV)}{x:Nat}{y:AV}(hps:zql 1000000 ps=true)(hx:yak (zyp ps el t0) x=some y):zao (yak t0) ps el x=some y:=by
 simp only[zyp,zej,yvy]at hx;unfold zao;cases hb:Nat.ble 1000000 x with
 | true=>
  have hx1:1000000<=x:=by simpa using hb
  simp only;cases hz:yak (ps.zip el) x with
  | some y'=>
   obtain⟨j,hj,_⟩:=zlt hz;have:=yse hps x (qab hj);omega
  | none=>
   simp only[hz,hb]at hx;have:=yoa t0 (x - 1000000);rw[show x - 1000000+1000000=x by omega]at this;rw[<- this];exact hx
 | false=>
  simp only;have hx1:=xfz hb;cases hz:yak (ps.zip el) x with
  | some y'=>simp only[hz]at hx;exact hx
  | none=>
   simp only[hz,hb]at hx;simp only;cases hz2:yak t0 x with
   | some y'=>simp only[hz2]at hx;exact hx
   | none=>simp only[hz2]at hx;have:=ytm hx;omega
theorem xbf{N:Nat}{ps:List Nat}{assign body:Code}{Q:Exit->SS->Prop}{t:List (Nat × AV)}{h:List (Nat × Option LObj)}{gf:Nat}{els:List (List AV)}(hgv:evF (yak t) g=some (.fn gf caps))(hit:zkl P gf caps els)(hpe:∀ el∈els,el.length=ps.length/\yas.pureL el=true)(hps:(zql N ps && (yed ps && zql 1000000 ps))=true)(t0:List (Nat × AV))(ht0:zap t t0)(hlt:zqa N t0=true)(hk:Nat->List (Nat × Option LObj))(h0:∀ id o,yac (hk 0) id=some o->yac h id=some o)(round:∀ k el,els[k]?=some el->A P N assign (fun e s1=>e=.normal/\A P N body (xfo (yak t0) (fun k=>yac (hk k)) k Q) s1) (S (zyp ps el t0) (hk k)))(done:Q .normal (S t0 (hk els.length))):A P N (.rangeFunc g ps.toArray assign body) Q (S t h):=by
 simp only[qad]at hps;refine A_rangeF hgv hit hpe (yse hps.1) (yhu hps.2.1) (yak t0) (fun x y hx=>⟨ycd ht0 x y hx,yul hlt x y hx⟩) (fun k=>yac (hk k)) h0 (fun k el hel=>?_) done;exact ypf (round k el hel) ⟨fun x y hx=>zfq hps.2.2 hx,fun id o ho=>ho⟩
theorem xhi{t0 t1:List (Nat × AV)}{hk:Nat->List (Nat × Option LObj)}{h1:List (Nat × Option LObj)}{k:Nat}{Q:Exit->SS->Prop}(g1:zap t1 (zgw t0))(g2:∀ id o,yac (hk (k+1)) id=some o->yac h1 id=some o):xfo (yak t0) (fun k=>yac (hk k)) k Q .normal (S t1 h1):=
 ⟨fun x y hx=>ycd g1 _ y (by rw[yoa];exact hx),g2⟩
section
variable{P:Program}{n:Nat}{ops:Array Oper}{Q:Exit->Act->World->Prop}{a:Act}{w:World}
theorem opI{i:Nat}{rest:List Nat}{o:Oper}(u:Value)(ho:ops[i]?=some o)(hg:o.guard=none)(hd:yow o.op=false)(hr:(execOp a.eval o).run P w=.ok (.value u) w)(k:wpOpsIn Fence.wide n P ops Q rest (a.put o.dst u) w):wpOpsIn Fence.wide n P ops Q (i::rest) a w:=by
 have hw:Region.wanted o (yielded ops a.tmps)=true:=by simp[Region.wanted,hg]
 simp only[wpOpsIn,ho,hw,if_true];refine ypa (rd:=none) hd ?_;unfold Oper.wp;rw[hr];exact k
theorem zfc{i:Nat}{rest:List Nat}{o:Oper}{args:Array Operand}{ats:Array TypeId}{l:Nat}{R:Ending->World->Prop}(ho:ops[i]?=some o)(hg:o.guard=none)(hop:o.op=.call { callee:=.value g,args:=args,argTypes:=ats })(hv:a.eval g=.func (.yield l) #[] #[])(hy:YieldAt Fence.wide 0 P l (args.map a.eval) w R)(k:∀ e w',R e w'->∃ u,e=.returned u/\wpOpsIn Fence.wide n P ops Q rest (a.put o.dst u) w'):wpOpsIn Fence.wide n P ops Q (i::rest) a w:=by
 have hw:Region.wanted o (yielded ops a.tmps)=true:=by simp[Region.wanted,hg]
 simp only[wpOpsIn,ho,hw,if_true];obtain⟨fn,tmps,assign,body,hrun,hround⟩:=hy;refine⟨fun _ _=>trivial,?_⟩;have hrun2:(o.semAt (Fence.wide).round a.eval).run P w=.ok (.round l fn tmps assign body) w:=by
  show (execOp a.eval o).run P w=_;unfold execOp;simp only[hop,resolve,Deferred.ofValue,hv,Sem.run_bind,Sem.run_pure,Result.andThen_ok,invoke];simpa using hrun
 rw[hrun2];refine⟨fun hc=>(by cases hc),?_⟩;have hround':RoundIn Fence.wide (n - 1) P l fn tmps assign body w R:=⟨trivial,fun c cs _=>hround.2 c cs (room_wide _)⟩;refine hround'.mono fun e w' hR=>?_;obtain⟨u,rfl,hk⟩:=k e w' hR;exact hk
end
end
end Go.Proofs.YtgpodcjhgdionaaGreatDoor
