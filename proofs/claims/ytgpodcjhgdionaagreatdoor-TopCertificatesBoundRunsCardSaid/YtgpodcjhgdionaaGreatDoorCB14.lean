/- Part 14 of the texts under TopCertificatesBoundRuns. -/
import Derived.RecoverIn
import Derived.WideLaws
import Derived.Test.YtgpodcjhgdionaaGreatDoorCB5
import Derived.Test.YtgpodcjhgdionaaGreatDoorCB9
import Derived.Test.YtgpodcjhgdionaaGreatDoorCB10
import Derived.Test.YtgpodcjhgdionaaGreatDoorCB11
import Derived.Test.YtgpodcjhgdionaaGreatDoorCB13
set_option linter.unusedVariables false
set_option maxHeartbeats 4000000
namespace Go.Proofs.YtgpodcjhgdionaaGreatDoor
open Go.Proofs.Tryz
variable {ats:Array TypeId} {r:List (List (Int × Int))} {P:Program} {ok0:Nat->Prop} {rs:List ResultVar} {f:FuncId} {zs:List (List Int)} {u u':FrameMode} {R:Ending->World->Prop} {hs':Nat->Option LObj} {w:World} {n N id x i:Nat} {lv:Live} {T:Nat->Option Ty} {fn:Func} {lf:Oper->Bool} {l1:List Oper} {z:List Int} {c:Code} {B:Bse} {s:SS} {F:Fence} {a:Act} {o:Oper}
section
open Go.RowKit
abbrev Runs:=Array Value->World->(Ending->World->Prop)->Prop
def xjb (K:Runs) (args:List AV) (hs:Nat->Option LObj) (r:AV) (hs':Nat->Option LObj):Prop:=
 (∀ id o,hs' id=some o->isC o=true->∃ o',hs id=some o'/\isC o'=true)/\∀ (ok0:Nat->Prop) (lv:Live) (w:World) (us:List Value),Inv (yfb w lv) ok0 hs lv w->ybm (yax (yfb w lv) ok0 lv w) w lv args us ->
  K us.toArray w fun e w'=>∃ u lv',e=.returned u/\Rel (yax (yfb w lv) ok0 lv' w') w' lv' r u/\Inv (yfb w lv) ok0 hs' lv' w'/\∀ id o,hs' id=some o->isC o=true->∃ b n n',lv id=some (some b,n)/\lv' id=some (some b,n')
def KD (P:Program) (f:FuncId) (u u':FrameMode):Runs:=fun us w R=>CallsDIn Fence.wide 0 P f us u w fun e u2 w'=>u2=u'/\R e w'
theorem KD.mono {us:Array Value} {R':Ending->World->Prop} (h:∀ e w',R e w'->R' e w') (hk:KD P f u u' us w R):KD P f u u' us w R':=
 CallsDIn.mono hk fun e u2 w' ⟨h1,h2⟩=>⟨h1,h _ _ h2⟩
section
variable {P:Program} {N:Nat}
theorem lendK {K:Runs} (hK:∀ (us:Array Value) (w:World) (R R':Ending->World->Prop),(∀ e w',R e w'->R' e w')->K us w R->K us w R') {args0:List AV} {hm hm':Nat->Option LObj} {r:AV} {σ:Nat->Nat} {ids:List Nat} {s2:SS} {ok0:Nat->Prop} {vs:List Value} (hs:Sim B ok0 N s lv a w) (hvs:ybm (yax B ok0 lv w) w lv (args0.map (yfg σ)) vs) (hc:xjb K args0 hm r hm') (hinj:∀ i∈ids,∀ j∈ids,σ i=σ j->i=j) (hdom:∀ id,(hm id).isSome->id∈ids) (hdom':∀ id,(hm' id).isSome->id∈ids) (hmem:∀ id o,hm id=some o->s.h (σ id)=some (zce σ o)) (hro:∀ id o,hm' id=some o->ypg ids o=true) (ht:∀ x y,s2.t x=some y->(y=.any/\∃ z,s.t x=some z)\/(s.t x=some y/\xfs σ ids hm' y)) (hh1:∀ i∈ids,s2.h (σ i)=(hm' i).map (zce σ)) (hh2:∀ j ob',(∀ i∈ids,σ i≠j)->s2.h j=some ob'->(∀ i∈ids,yeb (σ i) ob'=false)/\∃ ob,s.h j=some ob/\ylg ob ob'):K vs.toArray w fun e w'=>∃ u lv2,e=.returned u/\Sim B ok0 N s2 lv2 a w':=by
 let lv1:Live:=fun id=>if id∈ids/\(hm id).isSome then lv (σ id) else none
 have hl1:∀ id b n,lv1 id=some (b,n)->id∈ids/\(hm id).isSome/\lv (σ id)=some (b,n):=by
  intro id b n hb;simp only [lv1] at hb;split at hb
  .rename_i h;exact ⟨h.1,h.2,hb⟩
  cases hb
 have hl2:∀ id b n,lv1 id=some (b,n)->lv (σ id)=some (b,n):=fun id b n h=>(hl1 id b n h).2.2;have hmine:∀ b,ybw lv1 b->B.mine b/\b < w.heap.size/\∃ i∈ids,∃ n,lv (σ i)=some (some b,n):=by
  rintro b ⟨id,n,hb⟩;obtain ⟨h1,h2,h3⟩:=hl1 id _ n hb;obtain ⟨_,_,h4,h5,_⟩:=hs.inv.lvat h3;exact ⟨h4,h5,id,h1,n,h3⟩
 have hok1:∀ g,yax B ok0 lv w g->yax (yfb w lv1) (yax B ok0 lv w) lv1 w g:=fun g hg=>⟨.inl hg,hg.2.1,fun id b n hb=>hg.2.2 (σ id) b n (hl2 id _ n hb)⟩;have hinv:Inv (yfb w lv1) (yax B ok0 lv w) hm lv1 w:=by
  refine ⟨⟨rfl,rfl,rfl,qbh _,fun _ _ _=>rfl,hs.inv.base.glob,hs.inv.base.glob.size,fun k hk=>hs.inv.base.mineG (hmine k hk).1,fun l h=>by cases h⟩,fun g hg=>hg.2.1,fun id hid=>by simp [lv1,hid],fun i j b n m h1 h2=>?_,fun id x hx=>?_⟩
  .obtain ⟨q1,_,q2⟩:=hl1 _ _ _ h1;obtain ⟨r1,_,r2⟩:=hl1 _ _ _ h2;exact hinj i q1 j r1 (hs.inv.inj _ _ b n m q2 r2)
  obtain ⟨b,n,h1,h2⟩:=hs.inv.obj (σ id) _ (hmem id x hx);have hlv:lv1 id=some (b,n):=by simp [lv1,hdom id (by simp [hx]),hx,h1]
  refine ⟨b,n,hlv,?_⟩;cases b with
  | none=>exact zxg h2
  | some b=>exact ⟨.inl ⟨id,n,hlv⟩,h2.2.1,yhl.unren hl2 hok1 h2.2.2⟩
 have hall:ybm (yax (yfb w lv1) (yax B ok0 lv w) lv1 w) w lv1 args0 vs:=by
  refine ⟨by rw [hvs.1,qal],fun i x u hx hu=>?_⟩;have hrel:Rel (yax B ok0 lv w) w lv (yfg σ x) u:=hvs.2 i _ u (by simp [hx]) hu;exact (Rel.unren hl2 hrel).keep fun g hg=>⟨hok1 g hg,rfl⟩
 refine hK _ _ _ _ (fun e w' ⟨u,lv3,he,hu,hi3,hpin⟩=>?_) (hc.2 (yax B ok0 lv w) lv1 w vs hinv hall);have hb3:=hi3.base
 -- the blocks that are not lent stay
 have hstay:∀ k,k < w.heap.size->(∀ i∈ids,∀ n,lv (σ i)≠some (some k,n))->w'.heap[k]?=w.heap[k]?:=by
  intro k hk hn;exact hb3.block k hk fun hlent=>by
   obtain ⟨_,_,i,hi,n,hn'⟩:=hmine k hlent;exact hn i hi n hn'
 have hsz:w.heap.size<=w'.heap.size:=hb3.size;have hmine3:∀ id b n,lv3 id=some (some b,n)->B.mine b/\b < w'.heap.size/\(w.heap.size<=b\/∃ i∈ids,∃ n,lv (σ i)=some (some b,n)):=by
  intro id b n hb;obtain ⟨_,_,q1,q2,_⟩:=hi3.lvat hb;rcases q1 with q1|q1
  .have:=hmine b q1;exact ⟨this.1,q2,.inr this.2.2⟩
  exact ⟨.inr (qbp hs.inv.base.size q1),q2,.inl q1⟩
 have hid3:∀ id b n,lv3 id=some (b,n)->id∈ids:=fun id b n hb=>by
  cases hq:hm' id with
  | none=>rw [hi3.dom id hq] at hb;cases hb
  | some o=>exact hdom' id (by simp [hq])
 let find:Nat->Option Nat:=fun j=>ids.find? fun i=>σ i == j
 have hf1:∀ j i,find j=some i->i∈ids/\σ i=j:=fun j i h=>⟨qeu h,by simpa using List.find?_some h⟩;have hf2:∀ i∈ids,find (σ i)=some i:=fun i hi=>by
  cases hq:find (σ i) with
  | none=>
   have:=qdr.1 hq i hi;simp at this
  | some k=>obtain ⟨h1,h2⟩:=hf1 _ _ hq;rw [hinj k h1 i hi h2]
 have hf3:∀ j,find j=none->∀ i∈ids,σ i≠j:=fun j h i hi e=>by
  have:=qdr.1 h i hi;simp [e] at this
 let lv2:Live:=fun j=>match find j with
  | some i=>lv3 i
  | none=>if (s2.h j).isSome then lv j else none
 have hlv2a:∀ i∈ids,lv2 (σ i)=lv3 i:=fun i hi=>by simp only [lv2,hf2 i hi]
 have hlv2b:∀ j,(∀ i∈ids,σ i≠j)->∀ b n,lv2 j=some (b,n)->lv j=some (b,n)/\(s2.h j).isSome:=by
  intro j hj b n hb;have hn:find j=none:=by
   cases hq:find j with
   | none=>rfl
   | some i=>obtain ⟨h1,h2⟩:=hf1 _ _ hq;exact absurd h2 (hj i h1)
  simp only [lv2,hn] at hb;split at hb
  .rename_i h;exact ⟨hb,h⟩
  cases hb
 have hcase:∀ j,(∃ i∈ids,σ i=j)\/∀ i∈ids,σ i≠j:=fun j=>by
  cases hq:find j with
  | none=>exact .inr (hf3 j hq)
  | some i=>obtain ⟨h1,h2⟩:=hf1 _ _ hq;exact .inl ⟨i,h1,h2⟩
 have hok2:∀ g,yax B ok0 lv w g->yax B ok0 lv2 w' g/\w'.heap[g]?=w.heap[g]?:=by
  intro g hg;refine ⟨⟨hg.1,qbg hg.2.1 hsz,fun j b n hb=>?_⟩,hstay g hg.2.1 fun i _ n hn=>hg.2.2 _ _ n hn rfl⟩;rcases hcase j with ⟨i,hi,rfl⟩|hj
  .rw [hlv2a i hi] at hb;rcases (hmine3 i b n hb).2.2 with h|⟨i',_,n',h⟩
   .have:=hg.2.1;omega
   exact hg.2.2 _ _ n' h
  exact hg.2.2 j b n (hlv2b j hj _ n hb).1
 have hok3:∀ g,yax (yfb w lv1) (yax B ok0 lv w) lv3 w' g->yax B ok0 lv2 w' g:=by
  intro g hg;refine ⟨?_,hg.2.1,fun j b n hb=>?_⟩
  .rcases hg.1 with h|h|h
   .exact h.1
   .exact .inr (hmine g h).1
   exact .inr (.inr (qbp hs.inv.base.size h))
  rcases hcase j with ⟨i,hi,rfl⟩|hj
  .rw [hlv2a i hi] at hb;exact hg.2.2 i b n hb
  obtain ⟨hb',_⟩:=hlv2b j hj _ n hb;have hlt:=hs.inv.lvlt hb';rintro rfl;rcases hg.1 with h|h|h
  .exact h.2.2 j b n hb' rfl
  .obtain ⟨_,_,i,hi,n',hn'⟩:=hmine b h;exact hj i hi (hs.inv.inj _ _ b n' n hn' hb')
  simp only [yfb] at h;omega
 have hren:∀ id b n,id∈ids->lv2 (σ id)=some (b,n)->lv3 id=some (b,n):=fun id b n hi hb=>by rwa [hlv2a id hi] at hb
 have hframe:∀ (y:AV) (z:Value),(∀ i∈ids,ment (σ i) y=false)->Rel (yax B ok0 lv w) w lv y z->Rel (yax B ok0 lv2 w') w' lv2 y z:=by
  intro y z hy hz;refine (hz.relive fun j b n hb hm=>?_).keep hok2;rcases hcase j with ⟨i,hi,rfl⟩|hj
  .rw [hy i hi] at hm;cases hm
  exact (hlv2b j hj b n hb).1
 refine ⟨u,lv2,he,⟨⟨?_,hs.inv.ok0lt,fun j hj=>?_,fun i j b n m h1 h2=>?_,fun j x hx=>?_⟩,hs.size,fun x y hy=>?_,hs.defers.same (fun g hg=>(hstay g (qbd.1 hg).1 fun i hi n hn=>(hs.inv.lvat hn).choose_spec.2.2.2.notDef hg).trans hg),hs.big,fun j b ws hN hj hcj hb=>?_⟩⟩
 .-- base
  refine ⟨hb3.os.trans hs.inv.base.os,hb3.tape.trans hs.inv.base.tape,hb3.output.trans hs.inv.base.output,qbp hs.inv.base.size hsz,fun k hk hnl=>?_,hb3.glob,hs.inv.base.gsize,hs.inv.base.lentG,hs.inv.base.rdok⟩;refine (hstay k (qbg hk hs.inv.base.size) fun i hi n hn=>?_).trans (hs.inv.base.block k hk hnl);obtain ⟨_,_,q1,_,_⟩:=hs.inv.lvat hn;rcases q1 with q1|q1
  .exact hnl q1
  omega
 .-- dom
  rcases hcase j with ⟨i,hi,rfl⟩|hj'
  .rw [hlv2a i hi];refine hi3.dom i ?_;rw [hh1 i hi] at hj;cases hq:hm' i with
   | none=>rfl
   | some o=>simp [hq] at hj
  cases hq:lv2 j with
  | none=>rfl
  | some q=>obtain ⟨q1,q2⟩:=q;have:=(hlv2b j hj' q1 q2 hq).2;simp [hj] at this
 .-- inj
  rcases hcase i with ⟨i',hi,rfl⟩|hi <;> rcases hcase j with ⟨j',hj,rfl⟩|hj
  .rw [hlv2a i' hi] at h1;rw [hlv2a j' hj] at h2;rw [hi3.inj i' j' b n m h1 h2]
  .rw [hlv2a i' hi] at h1;have h2':=(hlv2b j hj _ m h2).1;have:=hs.inv.lvlt h2';rcases (hmine3 i' b n h1).2.2 with h|⟨k,hk,n',h⟩
   .omega
   exact absurd (hs.inv.inj _ _ b n' m h h2') (hj k hk)
  .rw [hlv2a j' hj] at h2;have h1':=(hlv2b i hi _ n h1).1;have:=hs.inv.lvlt h1';rcases (hmine3 j' b m h2).2.2 with h|⟨k,hk,n',h⟩
   .omega
   exact absurd (hs.inv.inj _ _ b n' n h h1') (hi k hk)
  exact hs.inv.inj i j b n m (hlv2b i hi _ n h1).1 (hlv2b j hj _ m h2).1
 .-- objects
  rcases hcase j with ⟨i,hi,rfl⟩|hj
  .rw [hh1 i hi] at hx;cases hq:hm' i with
   | none=>simp [hq] at hx
   | some ob=>
    simp only [hq,qar,Option.some.injEq] at hx;subst hx;obtain ⟨b,n,q1,q2⟩:=hi3.obj i ob hq;refine ⟨b,n,by rw [hlv2a i hi];exact q1,?_⟩;cases b with
    | none=>
     simp only [ygb] at q2 ⊢;rcases q2 with rfl|⟨e,rfl⟩
     .exact .inl rfl
     exact .inr ⟨e,rfl⟩
    | some b=>
     exact ⟨(hmine3 i b n q1).1,q2.2.1,yhl.ren hren (hro i ob hq) hok3 q2.2.2⟩
  obtain ⟨hm1,ob,hob,hfo⟩:=hh2 j x hj hx;obtain ⟨b,n,q1,q2⟩:=hs.inv.obj j ob hob;have hlv2:lv2 j=some (b,n):=by
   have hn:find j=none:=by
    cases hq:find j with
    | none=>rfl
    | some i=>obtain ⟨h1,h2⟩:=hf1 _ _ hq;exact absurd h2 (hj i h1)
   simp [lv2,hn,hx,q1]
  refine ⟨b,n,hlv2,?_⟩;cases b with
  | none=>
   simp only [ygb] at q2 ⊢;rcases hfo with rfl|⟨_,_,rfl,_⟩|⟨_,_,_,rfl,_⟩
   .exact q2
   .simp at q2
   simp at q2
  | some b=>
   obtain ⟨q3,q4,q5⟩:=q2;have hbk:w'.heap[b]?=w.heap[b]?:=hstay b q4 fun i hi n' hn'=>hj i hi (hs.inv.inj _ _ b n' n hn' q1);refine ⟨q3,qbg q4 hsz,?_⟩;rcases hfo with rfl|⟨zs,ys,rfl,rfl,hyl,hyz⟩|⟨te,zs,ys,rfl,rfl,hyl,hyz⟩
   .refine (q5.relive (lv':=lv2) fun k b' n' hb' hmk=>?_).keep hok2 hbk;rcases hcase k with ⟨i,hi,rfl⟩|hk
    .rw [hm1 i hi] at hmk;cases hmk
    exact (hlv2b k hk b' n' hb').1
   .obtain ⟨c,e,g1,g2,g3,g4,g5⟩:=q5;refine ⟨c,e,by rw [hbk];exact g1,g2,om,fun y hy=>?_,fun k y z hy hz=>?_⟩
    .obtain ⟨k,hk⟩:=qan hy;obtain ⟨x,hx⟩:∃ x,zs[k]?=some x:=⟨_,qae (by have:=(qaa.1 hk).1;omega)⟩;rcases hyz k x y hx hk with rfl|rfl
     .exact g4 _ (qab hx)
     rfl
    obtain ⟨x,hx⟩:∃ x,zs[k]?=some x:=⟨_,qae (by have:=(qaa.1 hy).1;omega)⟩;rcases hyz k x y hx hy with rfl|rfl
    .refine hframe _ z (fun i hi=>?_) (g5 k _ z hx hz);exact ygg hy (hm1 i hi)
    exact .one _ ((g5 k x z hx hz).oneCell (g4 x (qab hx)))
   obtain ⟨⟨c,e,g1,g2,g3,g4,g5⟩,hsh⟩:=q5;refine ⟨⟨c,e,by rw [hbk];exact g1,g2,om,fun y hy=>?_,fun k y z hy hz=>?_⟩,by rw [hyl];exact (yjn hbk).trans hsh⟩
   .obtain ⟨k,hk⟩:=qan hy;obtain ⟨x,hx⟩:∃ x,zs[k]?=some x:=⟨_,qae (by have:=(qaa.1 hk).1;omega)⟩;rcases hyz k x y hx hk with rfl|rfl
    .exact g4 _ (qab hx)
    rfl
   obtain ⟨x,hx⟩:∃ x,zs[k]?=some x:=⟨_,qae (by have:=(qaa.1 hy).1;omega)⟩;rcases hyz k x y hx hy with rfl|rfl
   .refine hframe _ z (fun i hi=>?_) (g5 k _ z hx hz);exact ygg hy (hm1 i hi)
   exact .one _ ((g5 k x z hx hz).oneCell (g4 x (qab hx)))
 .-- frame
  rcases ht x y hy with ⟨rfl,z,hz⟩|⟨hz,hk⟩
  .exact ⟨(hs.frame x z hz).1,.any _⟩
  refine ⟨(hs.frame x y hz).1,?_⟩;have hold:=(hs.frame x y hz).2;rcases hk with hk|⟨i,hi,off,o',hye,hci,hcc⟩
  .exact hframe y _ hk hold
  have hlp:∀ z:Value,Rel (yax B ok0 lv w) w lv (.lp (σ i) off) z->Rel (yax B ok0 lv2 w') w' lv2 (.lp (σ i) off) z:=fun z hz=>by
   cases hz with
   | lp _ h1 h2=>
    refine .lp _ h1 fun b n hb=>?_;rw [hlv2a i hi] at hb;obtain ⟨b',n',n'',p1,p2⟩:=hpin i o' hci hcc;rw [hb] at p2;cases p2;exact h2 b n' (hl2 i _ n' p1)
  rcases hye with rfl|⟨f',rfl⟩
  .exact hlp _ hold
  generalize ydw B a x=z at hold;cases hold with
  | fm vs hvl hvr=>
   refine .fm vs hvl fun k c u h1 h2=>?_;have h3:=hvr k c u h1 h2
   match k,h1 with
   | 0,h1=>
    simp only [qat,Option.some.injEq] at h1;subst h1;exact hlp _ h3
   | k+1,h1=>simp at h1
 -- pins
 rcases hcase j with ⟨i,hi,rfl⟩|hj'
 .rw [hh1 i hi] at hj;cases hq:hm' i with
  | none=>simp [hq] at hj
  | some ob=>
   simp only [hq,qar,Option.some.injEq] at hj;subst hj;rw [zcg] at hcj;obtain ⟨b',n',n'',p1,p2⟩:=hpin i ob hq hcj;obtain ⟨zs,hz,hzc⟩:=hc.1 i ob hq hcj;obtain ⟨n,hn⟩:=hs.pin (σ i) b _ hN (hmem i _ hz) (by rw [zcg];exact hzc) hb;rw [hl2 i _ n' p1] at hn;cases hn;exact ⟨n'',by rw [hlv2a i hi];exact p2⟩
 obtain ⟨_,ob,hys,hfo⟩:=hh2 j _ hj' hj;have hcc:isC ob=true:=by
  rcases hfo with rfl|⟨xs',ys',rfl,_,_⟩|⟨e,xs',ys',rfl,_,_⟩
  .exact hcj
  .rfl
  rfl
 obtain ⟨n,hn⟩:=hs.pin j b ob hN hys hcc hb;obtain ⟨b2,n2,q1,_⟩:=hs.inv.obj j _ hys;rw [hn] at q1;cases q1;have hn':find j=none:=by
  cases hq:find j with
  | none=>rfl
  | some i=>obtain ⟨h1,h2⟩:=hf1 _ _ hq;exact absurd h2 (hj' i h1)
 exact ⟨n,by simp [lv2,hn',hj,hn]⟩
end
def yya (P:Program) (R:World->Prop):List Deferred->World->Prop
 | [],w=>R w
 | d::ds,w=>∃ r w',d.target=.collected r/\(Instr.takeDeferred r).run P w=.ok [] w'/\yya P R ds w'
theorem yur {R:World->Prop}:∀ (ds:List Deferred) (w:World) (fr:Frame) (cs:List Frame),fr.mode=.returning->fr.defers=ds->F.fn fr.fn->F.room (cs.length+1+n)->yya P R ds w ->
  ∃ w',R w'/\StepsIn (Machine.fenced P F) P (lone fr cs w) (lone { fr with defers:=[] } cs w')
 | [],w,fr,cs,hm,hd,hF,hr,h=>⟨w,h,by rw [<- hd];exact StepsIn.refl _⟩
 | d::ds,w,fr,cs,hm,hd,hF,hr,⟨r,w1,h1,h2,h3⟩=>by
  have hs:=step_collected (cs:=cs) (by rw [hm];simp) hd h1 h2;have i1:(lone fr cs w).fenced P F:=fenced_out hF hr (by rw [hm];simp) hd (fun g hg=>by rw [h1] at hg;simp [Target.leads] at hg);obtain ⟨w2,g1,g2⟩:=yur ds w1 { fr with defers:=[]++ds } cs hm rfl hF hr h3;exact ⟨w2,g1,.head i1 hs g2⟩
theorem zlh {Rw:World->Prop} {tm:Array Value} (hB:B.dl=[]) (fin:∀ (a:Act) (w:World),a.tmps=tm->Sim B ok0 N s lv a w->Rw w):∀ (ms:List Deferred) (a:Act) (w:World),a.tmps=tm->a.defers=ms->Sim B ok0 N s lv a w->yya P Rw ms w
 | [],a,w,ht,hm,hs=>fin a w ht hs
 | d::ms,a,w,ht,hm,hs=>by
  obtain ⟨ms',h1,hn,h2⟩:=hs.defers;rw [hB,qbe,hm] at h1;subst h1;obtain ⟨D,hd,hD,hge⟩:=h2 d sm;refine ⟨D,_,by rw [hd],run_takeDeferred hD,?_⟩;simp only [qde] at hn;have hsh:=Shut.put hD;have hs':=hs.shut hsh (fun k hk=>World.putObj_heap_other om) (l:=ms) ⟨ms,by rw [hB,qbe],hn.2,fun d' hd'=>by
   obtain ⟨D',e1,e2,e3⟩:=h2 d' (by simp [hd'])
   refine ⟨D',e1,(World.putObj_heap_other fun e=>?_).trans e2,e3⟩
   subst e
   exact hn.1 (by rw [hd,<- e1];exact hd')⟩
  exact zlh hB fin ms { a with defers:=ms } _ ht rfl hs'
def bM (w:World) (lv:Live):Bse:=⟨w,ybw lv,fun id=>(lv id).bind (·.1),none,[],fun _=>undef⟩
theorem xgh {args:List AV} {hs:Nat->Option LObj} {us:List Value} (hN:n=N) (hlen:(Nat.ble args.length N && Nat.ble N 1000000)=true) (hi:Inv (yfb w lv) ok0 hs lv w) (hus:ybm (yax (yfb w lv) ok0 lv w) w lv args us):
  Sim (bM w lv) ok0 N ⟨yaj (yfn 0 args),hs⟩ lv { tmps:=us.toArray++Array.replicate (n - us.toArray.size) undef,defers:=[] } w:=by
 simp only [qac,qdj] at hlen;obtain ⟨hlen',hbig⟩:=hlen;refine ⟨hi.pinned _ _ _ _ (fun l h=>by cases h),?_,fun x y hy=>?_,⟨[],rfl,qdp,fun d hd=>by cases hd⟩,hbig,fun id b o hN hx hc hb=>?_⟩
 .simp [hN,hus.1];omega
 .simp only [ykw] at hy;have hlt:=(qaa.1 hy).1;refine ⟨.inl om,?_⟩;rw [ydw,if_pos om];obtain ⟨u,hu⟩:∃ u,us[x]?=some u:=⟨_,qae (by rw [hus.1];exact hlt)⟩;simp only [yej us _ x u hu];exact hus.2 x y u hy hu
 simp only [bM] at hb;cases hl:lv id with
 | none=>simp [hl] at hb
 | some q=>obtain ⟨q1,q2⟩:=q;simp [hl] at hb;subst hb;exact ⟨q2,rfl⟩
theorem xjp (hT:TOK P T) {r x:AV} {hs:Nat->Option LObj} {lv':Live} {w':World} {s':SS} {a':Act} (hrs:fn.results=rs.toArray) (hcl:∀ id o,hs' id=some o->isC o=true->N<=id/\∃ o',hs id=some o'/\isC o'=true) (hi:Inv (yfb w lv) ok0 hs lv w) (hs2:Sim (bM w lv) ok0 N s' lv' a' w') (hx:yrh T s' rs=some x) (hwk:Wk x r) (hsub:∀ id o,hs' id=some o->s'.h id=some o):
  ∃ v,(results fn a'.tmps).run P w'=.ok v w'/\∃ u lv2,Ending.returned v=.returned u/\Rel (yax (yfb w lv) ok0 lv2 w') w' lv2 r u/\Inv (yfb w lv) ok0 hs' lv2 w'/\∀ id o,hs' id=some o->isC o=true->∃ b n n',lv id=some (some b,n)/\lv2 id=some (some b,n'):=by
 obtain ⟨u,hu,hrun⟩:=yri (P:=P) hT hs2 hrs hx;obtain ⟨lv2,i1,i2,i3⟩:=hs2.inv.weak hsub;refine ⟨u,hrun,u,lv2,rfl,hwk.rel _ _ _ _ ((hu.relive fun id b n hb _=>i2 id b n hb).keep fun g hg=>⟨i3 g hg,rfl⟩),i1.pinned _ _ _ _ (fun l h=>by cases h),fun id o hx hc=>?_⟩;obtain ⟨h1,o',hy,hc'⟩:=hcl id o hx hc;obtain ⟨b,n,hb,ho⟩:=hi.obj id _ hy;cases b with
 | none=>simp only [ygb] at ho;rcases ho with rfl|⟨e,rfl⟩ <;> cases hc'
 | some b=>
  obtain ⟨n',hn'⟩:=hs2.pin id b o h1 (hsub id _ hx) hc (by simp [bM,hb]);obtain ⟨b2,n2,hb2,_⟩:=i1.obj id _ hx;have:=i2 id b2 n2 hb2;rw [hn'] at this;cases this;exact ⟨b,n,_,hb,hb2⟩
def bD (B:Bse) (lv:Live) (w:World) (dl:List Deferred) (gv:Nat->Value):Bse:=⟨w,ybw lv,B.pin,none,dl,gv⟩
theorem Sim.rebase (hs:Sim B ok0 N s lv a w) (hlow:∀ x,1000000<=x->s.t x=none) (gv:Nat->Value):Sim (bD B lv w a.defers gv) (yax B ok0 lv w) N s lv a w:=by
 have hm:∀ b,ybw lv b->B.mine b/\b < w.heap.size:=by
  rintro b ⟨id,n,hb⟩;obtain ⟨_,_,h4,h5,_⟩:=hs.inv.lvat hb;exact ⟨h4,h5⟩
 have hok:∀ g,yax B ok0 lv w g->yax (bD B lv w a.defers gv) (yax B ok0 lv w) lv w g:=fun g hg=>⟨.inl hg,hg.2.1,hg.2.2⟩;refine ⟨⟨⟨rfl,rfl,rfl,qbh _,fun _ _ _=>rfl,hs.inv.base.glob,hs.inv.base.glob.size,fun k hk=>hs.inv.base.mineG (hm k hk).1,fun l h=>by cases h⟩,fun g hg=>hg.2.1,hs.inv.dom,hs.inv.inj,fun id x hx=>?_⟩,hs.size,fun x y hy=>?_,⟨[],rfl,qdp,fun d hd=>by cases hd⟩,hs.big,hs.pin⟩
 .obtain ⟨b,n,h1,h2⟩:=hs.inv.obj id x hx;refine ⟨b,n,h1,?_⟩;cases b with
  | none=>exact h2
  | some b=>exact ⟨.inl ⟨id,n,h1⟩,h2.2.1,h2.2.2.keep (fun g hg=>⟨hok g hg,rfl⟩) rfl⟩
 obtain ⟨h1,h2⟩:=hs.frame x y hy;refine ⟨h1,?_⟩;have hlt:x < 1000000:=by
  rcases qbi x 1000000 with h|h
  .exact h
  rw [hlow x h] at hy;cases hy
 have e:ydw (bD B lv w a.defers gv) a x=ydw B a x:=by simp [ydw,hlt]
 rw [e];exact h2.keep fun g hg=>⟨hok g hg,rfl⟩
theorem Sim.unbase {s':SS} {lv':Live} {a':Act} {w':World} {dl ds:List Deferred} {gv:Nat->Value} (hs:Sim B ok0 N s lv a w) (hrd:B.rd=none) (hs':Sim (bD B lv w dl gv) (yax B ok0 lv w) N s' lv' a' w') (hds:zgs B w' ds) (hlow:∀ x,1000000<=x->s'.t x=none):Sim B ok0 N s' lv' { a' with defers:=ds } w':=by
 have hm:∀ b,ybw lv b->B.mine b:=by
  rintro b ⟨id,n,hb⟩;obtain ⟨_,_,h4,h5,_⟩:=hs.inv.lvat hb;exact h4
 have hmine:∀ g,(bD B lv w dl gv).mine g->B.mine g:=by
  rintro g (h|h)
  .exact hm g h
  exact .inr (qbp hs.inv.base.size h)
 have hok:∀ g,yax (bD B lv w dl gv) (yax B ok0 lv w) lv' w' g->yax B ok0 lv' w' g:=fun g hg=>⟨by
  rcases hg.1 with h|h
  .exact h.1
  exact .inr (hmine g h),hg.2.1,hg.2.2⟩
 have hb:=hs'.inv.base;have hw:=hs.inv.base;refine ⟨⟨⟨hb.os.trans hw.os,hb.tape.trans hw.tape,hb.output.trans hw.output,qbp hw.size hb.size,fun k hk hnl=>?_,hb.glob,hw.gsize,hw.lentG,fun l h=>by rw [hrd] at h;cases h⟩,hs.inv.ok0lt,hs'.inv.dom,hs'.inv.inj,fun id x hx=>?_⟩,hs'.size,fun x y hy=>?_,hds,hs'.big,hs'.pin⟩
 .refine (hb.block k (qbg hk hw.size) fun h=>?_).trans (hw.block k hk hnl);rcases hm k h with h|h
  .exact hnl h
  omega
 .obtain ⟨b,n,h1,h2⟩:=hs'.inv.obj id x hx;refine ⟨b,n,h1,?_⟩;cases b with
  | none=>exact h2
  | some b=>exact ⟨hmine b h2.1,h2.2.1,h2.2.2.keep (fun g hg=>⟨hok g hg,rfl⟩) rfl⟩
 obtain ⟨h1,h2⟩:=hs'.frame x y hy;refine ⟨h1,?_⟩;have hlt:x < 1000000:=by
  rcases qbi x 1000000 with h|h
  .exact h
  rw [hlow x h] at hy;cases hy
 have e:ydw (bD B lv w dl gv) a' x=ydw B { a' with defers:=ds } x:=by simp [ydw,hlt]
 rw [e] at h2;exact h2.keep fun g hg=>⟨hok g hg,rfl⟩
theorem yvz (hu:u≠.run) {tm:Array Value} (fin:∀ (a:Act) (w:World),a.tmps=tm->Sim B ok0 N s lv a w->LeavesInM Fence.wide n P fn tm R B.dl u w):∀ (ms:List Deferred) (a:Act) (w:World),a.tmps=tm->a.defers=ms++B.dl->ms.Nodup ->
   (∀ d∈ms,∃ D,d={ target:=.collected D,args:=#[] }/\w.heap[D]?=some (.deferred (some []))/\B.w.heap.size<=D)->Sim B ok0 N s lv a w->LeavesInM Fence.wide n P fn tm R (ms++B.dl) u w
 | [],a,w,ht,hd,hn,h2,hs=>fin a w ht hs
 | d::ms,a,w,ht,hd,hn,h2,hs=>by
  obtain ⟨D,hdd,hD,hge⟩:=h2 d sm;refine ⟨hu,.inl ⟨D,_,by rw [hdd],run_takeDeferred hD,?_⟩⟩;simp only [qde] at hn;have hsh:=Shut.put hD;have hrest:∀ d'∈ms,∃ D',d'={ target:=.collected D',args:=#[] }/\(w.putObj D (.deferred none)).heap[D']?=some (.deferred (some []))/\B.w.heap.size<=D':=fun d' hd'=>by
   obtain ⟨D',e1,e2,e3⟩:=h2 d' (by simp [hd']);refine ⟨D',e1,(World.putObj_heap_other fun e=>?_).trans e2,e3⟩;subst e;exact hn.1 (by rw [hdd,<- e1];exact hd')
  have hs':=hs.shut hsh (fun k hk=>World.putObj_heap_other om) (l:=ms++B.dl) ⟨ms,rfl,hn.2,hrest⟩;exact yvz hu fin ms { a with defers:=ms++B.dl } _ ht rfl hn.2 hrest hs'
def xjh (P:Program) (N:Nat) (B:Bse) (ok0:Nat->Prop) (Q:Option (FuncId × Nat)->Exit->SS->Prop) (e:Exit) (a':Act) (w':World):Prop:=
 (∃ s' lv',Q none e s'/\Sim B ok0 N s' lv' a' w') \/
 ∃ (g:FuncId) (vs:List Value) (d:Deferred) (s0:SS) (lv0:Live) (a0:Act) (w0:World) (s':SS) (lv':Live),Sim B ok0 N s0 lv0 a0 w0/\(∃ fv cap,d.target=.fn fv cap/\∀ w,(invoke (.fn fv cap) d.args).run P w=.ok (.enter g vs.toArray) w) /\
  Q (some (g,vs.length)) e s'/\Sim (bD B lv0 w0 (d::a0.defers) (fun x=>vs.getD (x - 1000000) undef)) (yax B ok0 lv0 w0) N s' lv' a' w'
def AF (P:Program) (N:Nat) (c:Code) (Q:Option (FuncId × Nat)->Exit->SS->Prop) (s:SS):Prop:=
 ∀ (B:Bse) (ok0:Nat->Prop) (lv:Live) (a:Act) (w:World),B.rd=none->B.dl=[]->Sim B ok0 N s lv a w->c.wpIn Fence.wide 0 P (xjh P N B ok0 Q) a w
section
variable {P:Program} {N:Nat} {Q:Option (FuncId × Nat)->Exit->SS->Prop} {s:SS}
theorem zzt (h:A P N c (Q none) s):AF P N c Q s:=fun B ok0 lv a w hrd hdl hs=>by
 have:=h B ok0 lv a w hs;rw [hrd] at this;exact wpIn_mono this fun e a' w' ⟨s',lv',h1,h2⟩=>.inl ⟨s',lv',h1,h2⟩
def ThenF (P:Program) (N:Nat) (y:Code) (Q:Option (FuncId × Nat)->Exit->SS->Prop):Option (FuncId × Nat)->Exit->SS->Prop
 | none,.normal,s=>AF P N y Q s
 | some D,.normal,s=>A P N y (Q (some D)) s
 | D,e,s=>Q D e s
theorem ztx {x y:Code} (h:AF P N x (ThenF P N y Q) s):AF P N (.seq x y) Q s:=by
 intro B ok0 lv a w hrd hdl hs;refine wpIn_seq (wpIn_mono (h B ok0 lv a w hrd hdl hs) fun e a' w' hp=>?_);rcases hp with ⟨s',lv',h1,h2⟩|⟨g,vs,d,s0,lv0,a0,w0,s',lv',p1,p2,p3,p4⟩
 .cases e with
  | normal=>exact h1 B ok0 lv' a' w' hrd hdl h2
  | _=>exact .inl ⟨s',lv',h1,h2⟩
 cases e with
 | normal=>exact wpIn_mono (p3 _ _ lv' a' w' p4) fun e a2 w2 ⟨s2,lv2,q1,q2⟩=>.inr ⟨g,vs,d,s0,lv0,a0,w0,s2,lv2,p1,p2,q1,q2⟩
 | _=>exact .inr ⟨g,vs,d,s0,lv0,a0,w0,s',lv',p1,p2,p3,p4⟩
theorem zek {ops:Array Oper} {Q:SS->Prop} {ok0:Nat->Prop} {Q':Exit->Act->World->Prop} {n:Nat} {rest:List Nat} (hQ:∀ s lv a w,Q s->Sim B ok0 N s lv a w->wpOpsIn (FW B.rd) n P ops Q' rest a w) {l:List Oper} {s:SS} (h:Lex P N ops lf Q l s):yhr l=true->∀ (k:Nat),(∀ (j:Nat) (o:Oper),l[j]?=some o->ops[k+j]?=some o)->∀ (lv:Live) (a:Act) (w:World),Sim B ok0 N s lv a w->wpOpsIn (FW B.rd) n P ops Q' (List.range' k l.length++rest) a w:=by
 induction h with
 | nil h=>intro hnd k hl lv a w hs;exact hQ _ lv a w h hs
 | @calm o l s r hw hd hy k ih=>
  intro hnd k hl lv a w hs;simp only [yhr,qeo,qac,qbt] at hnd;have h0:ops[k]?=some o:=by simpa using hl 0 o rfl
  simp only [qaj,qee,qax,wpOpsIn,h0,hs.wanted hw,if_true];exact ynl hnd.1 (zmp hs hd hy Q' fun a' w' hs'=>ih hnd.2 (k+1) (fun j o' ho'=>by have:=hl (j+1) o' (by simpa using ho');rwa [show k+(j+1)=k+1+j by omega] at this) lv a' w' hs')
 | @skip o l s hw hd k ih=>
  intro hnd k hl lv a w hs;simp only [yhr,qeo,qac,qbt] at hnd;have h0:ops[k]?=some o:=by simpa using hl 0 o rfl
  simp only [qaj,qee,qax,wpOpsIn,h0,hs.wanted hw,qbl,if_false];exact ⟨fun _ _=>trivial,ih hnd.2 (k+1) (fun j o' ho'=>by have:=hl (j+1) o' (by simpa using ho');rwa [show k+(j+1)=k+1+j by omega] at this) lv _ w (hs.put hd hs.inv (Below.refl _ _) (.v _))⟩
 | @loud o l s R hl' hw hy k ih=>
  intro hnd k hl lv a w hs;simp only [yhr,qeo,qac,qbt] at hnd;have h0:ops[k]?=some o:=by simpa using hl 0 o rfl
  simp only [qaj,qee,qax,wpOpsIn,h0,hs.wanted hw,if_true];refine ynl hnd.1 (Oper.wp_mono (fun a' w' ⟨s',lv',hR,hs'⟩=>?_) (hy B ok0 lv a w hs Q'));exact ih s' hR hnd.2 (k+1) (fun j o' ho'=>by have:=hl (j+1) o' (by simpa using ho');rwa [show k+(j+1)=k+1+j by omega] at this) lv' a' w' hs'
 | @split l s d b hb k ih=>
  intro hnd k hl lv a w hs;refine ih b rfl hnd k hl lv a w ?_;rw [ykb hb];exact hs
theorem yqe {id:Nat} {l:List Oper} (k:Nat) {l2:List Oper} {g:Operand} {args:List Operand} (hk:l[k]?=some o) (h1:l.take k=l1) (h2:l.drop (k+1)=l2) (hn1:yhr l1=true) (hn2:yhr l2=true) (ho:o.op=.defer { callee:=.value g,args:=args.toArray,argTypes:=ats }) (hdst:yxw N o) (h:Lex P N l.toArray lf (fun s1=>yal l.toArray s1.t o=some true/\∃ f caps xs,ylh P f/\evF s1.t g=some (.fn f caps)/\evL (evF s1.t) args=some xs/\(∀ x,1000000<=x->s1.t x=none) /\
   Lex P N l.toArray lf (Q (some (f,xs.length+caps.length)) .normal) l2 ⟨fun x=>if 1000000<=x then (xs++caps)[x - 1000000]? else yfk s1.t o.dst (.v undef) x,s1.h⟩) l1 s):AF P N (.region id l.toArray false) Q s:=by
 intro B ok0 lv a w hrd hdl hs;have hlt:=(qaa.1 hk).1;have hlen:l1.length=k:=by rw [<- h1,qcf];omega
 have hlen2:l2.length=l.length - k - 1:=by rw [<- h2,qcw];omega
 have hFW:FW B.rd=Fence.wide:=by rw [hrd];rfl
 refine wpIn_region ?_;have hsp:List.range l.toArray.size=List.range' 0 l1.length++(k::(List.range' (k+1) l2.length++[])):=by
  rw [qbe,qcx,qgg,hlen,hlen2];have e:l.length=k+((l.length - k - 1)+1):=by omega
  conv=>lhs;rw [e]
  rw [<- List.range'_append_1,qba,qee]
 rw [hsp,<- hFW];refine zek (fun s1 lv1 a1 w1 hq hs1=>?_) h hn1 0 (fun j o' ho'=>?_) lv a w hs
 .have h0:l.toArray[k]?=some o:=by simpa using hk
  obtain ⟨hwt,f,caps,xs,hbody,hg,hx,hlow,hlex⟩:=hq;simp only [wpOpsIn,h0,hs1.wanted hwt,if_true];have hfr:=hs1.eval hg;have har:=yug (a:=a1) args xs (fun x y _ hxy=>hs1.eval hxy) hx;generalize hv:a1.eval g=v at hfr;cases hfr with
  | fn vs hl hrc=>
  let d:Deferred:={ target:=.fn (.func f) vs.toArray,args:=(args.map a1.eval).toArray }
  have hrun:(o.semAt (FW B.rd).round a1.eval).run P w1=.ok (.defer d) w1:=by
   rw [hFW];unfold Oper.semAt execOp;simp only [ho,Fence.wide,resolve,Deferred.ofValue,hv,Sem.run_bind,Sem.run_pure,Result.andThen_ok];simp [d]
  refine ⟨fun _ _=>by rw [hFW];trivial,?_⟩;rw [hrun,Oper.uponIn_defer]
  let gv:Nat->Value:=fun x=>(args.map a1.eval++vs).getD (x - 1000000) undef
  have hreb:=hs1.rebase hlow gv;have hsim:Sim (bD B lv1 w1 (d::a1.defers) gv) (yax B ok0 lv1 w1) N ⟨fun x=>if 1000000<=x then (xs++caps)[x - 1000000]? else yfk s1.t o.dst (.v undef) x,s1.h⟩ lv1 ({ a1 with defers:=d::a1.defers }.put o.dst undef) w1:=by
   refine ⟨hreb.inv.pinned _ none _ _ (fun l h=>by cases h),?_,fun x y hy=>?_,⟨[],?_,qdp,fun d hd=>by cases hd⟩,hs1.big,hs1.pin⟩
   .cases hd:o.dst <;> simp [Act.put,hs1.size]
   .simp only at hy;split at hy
    .rename_i hge;refine ⟨.inr hge,?_⟩;have e:ydw (bD B lv1 w1 (d::a1.defers) gv) ({ a1 with defers:=d::a1.defers }.put o.dst undef) x=gv x:=by simp only [ydw];rw [if_neg om];rfl
     rw [e];have hval:∃ u,(args.map a1.eval++vs)[x - 1000000]?=some u/\Rel (yax B ok0 lv1 w1) w1 lv1 y u:=by
      by_cases hxl:x - 1000000 < xs.length
      .rw [qam hxl] at hy;have hl2:x - 1000000 < (args.map a1.eval).length:=by rw [har.1];exact hxl
       exact ⟨(args.map a1.eval)[x - 1000000],by rw [qam hl2,qae hl2],har.2 _ y _ hy (qae hl2)⟩
      rw [qai om] at hy;have hl2:x - 1000000 - xs.length < vs.length:=by have:=(qaa.1 hy).1;rw [hl];exact this
      exact ⟨vs[x - 1000000 - xs.length],by rw [qai (by rw [har.1];omega),har.1,qae hl2],hrc _ y _ hy (qae hl2)⟩
     obtain ⟨u,hu1,hu2⟩:=hval;have:gv x=u:=by simp only [gv,qad,hu1,qcp]
     rw [this];exact hu2.keep fun g hg=>⟨⟨.inl hg,hg.2.1,hg.2.2⟩,rfl⟩
    rename_i hge;have hput:=(hreb.put (d:=o.dst) (u:=undef) hdst hreb.inv (Below.refl _ _) (.v _)).frame x y hy;refine ⟨hput.1,?_⟩;have e:ydw (bD B lv1 w1 (d::a1.defers) gv) ({ a1 with defers:=d::a1.defers }.put o.dst undef) x=ydw (bD B lv1 w1 a1.defers gv) (a1.put o.dst undef) x:=by
     simp only [ydw];rw [if_pos om,if_pos om];cases o.dst <;> rfl
    rw [e];exact hput.2
   cases hd:o.dst <;> rfl
  have hrest:=zek (B:=bD B lv1 w1 (d::a1.defers) gv) (ok0:=yax B ok0 lv1 w1) (Q':=xjh P N B ok0 Q) (n:=0) (rest:=[]) (fun s2 lv2 a2 w2 hq2 hs2=>?_) hlex hn2 (k+1) (fun j o' ho'=>?_) lv1 _ w1 hsim
  .rw [hFW];exact hrest
  .refine .inr ⟨f,args.map a1.eval++vs,d,s1,lv1,a1,w1,s2,lv2,hs1,⟨.func f,vs.toArray,rfl,fun w=>?_⟩,?_,hs2⟩
   .simp only [invoke,d];rw [ygl hbody];simp
   rw [qao,har.1,hl];exact hq2
  rw [<- h2,qbx] at ho';simpa using ho'
 rw [<- h1,qbc] at ho';split at ho'
 .rw [qba];simpa using ho'
 cases ho'
def zwm:Exit->Option FrameMode
 | .normal=>some .returning
 | .ret=>some .returning
 | .panic ch=>some (.panicking ch)
 | _=>none
def xjc (P:Program) (T:Nat->Option Ty) (rs:List ResultVar) (r:AV) (hs':Nat->Option LObj):Option (FuncId × Nat)->Exit->SS->Prop
 | none,e,s=>zzw T rs r hs' e s
 | some (g,n),e,s=>∃ (u u':FrameMode) (args0:List AV) (hm:Nat->Option LObj) (v:AV) (hm':Nat->Option LObj) (σ:Nat->Nat) (ids:List Nat) (s2:SS),zwm e=some u/\settle u'=.returning/\args0.length=n/\(∀ i x,args0[i]?=some x->s.t (1000000+i)=some (yfg σ x))/\xjb (KD P g u u') args0 hm v hm' /\
   ((∀ i∈ids,∀ j∈ids,σ i=σ j->i=j)/\(∀ id,(hm id).isSome->id∈ids)/\(∀ id,(hm' id).isSome->id∈ids)/\(∀ id o,hm id=some o->s.h (σ id)=some (zce σ o))/\(∀ id o,hm' id=some o->ypg ids o=true) /\
    (∀ x y,s2.t x=some y->(y=.any/\∃ z,s.t x=some z)\/(s.t x=some y/\xfs σ ids hm' y))/\(∀ i∈ids,s2.h (σ i)=(hm' i).map (zce σ))/\∀ j ob',(∀ i∈ids,σ i≠j)->s2.h j=some ob'->(∀ i∈ids,yeb (σ i) ob'=false)/\∃ ob,s.h j=some ob/\ylg ob ob') /\
   (∀ x,1000000<=x->s2.t x=none)/\∃ x,yrh T s2 rs=some x/\Wk x r/\∀ id o,hs' id=some o->s2.h id=some o
theorem zva {T:Nat → Option Ty} (hT : TOK P T) {f:FuncId} {args:List AV} {hs hs':Nat → Option LObj} {r:AV} (hf : P.funcs[f]? = some fn) (hn : (fn.name == "runtime.NumGoroutine") = false) (hb : fn.body = some c) (hN : fn.ntmps = N) (hrs : fn.results = rs.toArray) (hlen : (Nat.ble args.length N && Nat.ble N 1000000) = true) (hcl:∀ id o,hs' id=some o→isC o=true→N≤id∧∃ o',hs id=some o'∧isC o'=true) (h:AF P N c (xjc P T rs r hs') ⟨yaj (yfn 0 args),hs⟩):yot P f args hs r hs':=by
 refine ⟨⟨fn,hf,hn,by simp [hb]⟩,fun id o hx hc=>(hcl id o hx hc).2,fun ok0 lv w us hi hus=>?_⟩;refine (callsIn_wide (n:=0)).1 (callsIn_of_wp_marks hf hb trivial ?_);refine wpIn_mono (h _ ok0 _ _ w rfl rfl (xgh hN hlen hi hus)) fun e a' w' hp=>?_;rcases hp with ⟨s',lv',hq,hs2⟩|⟨g,vs,d,s0,lv0,a0,w0,s',lv',p1,⟨fv,cap,p2,p3⟩,⟨u,u',args0,hm,v,hm',σ,ids,s2,q1,q2,q3,q4,q5,⟨c1,c2,c3,c4,c5,c6,c7,c8⟩,q6,x,q7,q8,q9⟩,p4⟩
 .cases e with
  | normal=>obtain ⟨x,hx,h1,h2⟩:=hq;exact ycj rfl rfl (fun a2 w2 hs3=>xjp hT hrs hcl hi hs3 hx h1 h2) _ a' w' rfl hs2
  | ret=>obtain ⟨x,hx,h1,h2⟩:=hq;exact ycj rfl rfl (fun a2 w2 hs3=>xjp hT hrs hcl hi hs3 hx h1 h2) _ a' w' rfl hs2
  | _=>exact hq.elim
 have hu:u≠.run:=by
  cases e <;> simp only [zwm,Option.some.injEq] at q1 <;> first|(subst q1;simp)|cases q1
 have main:LeavesInM Fence.wide 0 P fn a'.tmps (fun e w'=>∃ u lv',e=.returned u/\Rel (yax (yfb w lv) ok0 lv' w') w' lv' r u/\Inv (yfb w lv) ok0 hs' lv' w'/\∀ id o,hs' id=some o->isC o=true->∃ b n n',lv id=some (some b,n)/\lv' id=some (some b,n')) a'.defers u w':=by
  obtain ⟨ms,m1,m2,m3⟩:=p4.defers;rw [m1];refine yvz hu (B:=bD (bM w lv) lv0 w0 (d::a0.defers) (fun x=>vs.getD (x - 1000000) undef)) (tm:=a'.tmps) (fun a1 w1 ht hs1=>?_) ms a' w' rfl m1 m2 m3 p4;refine ⟨hu,.inr ⟨fun h=>(by cases h),fv,cap,g,vs.toArray,p2,(by rw [p2];exact p3 w1),fun _ _=>trivial,?_⟩⟩;have hvs:ybm (yax (bD (bM w lv) lv0 w0 (d::a0.defers) (fun x=>vs.getD (x - 1000000) undef)) (yax (bM w lv) ok0 lv0 w0) lv' w1) w1 lv' (args0.map (yfg σ)) vs:=by
   refine ⟨by rw [qal,q3],fun i y z hy hz=>?_⟩;rw [qah] at hy;cases hx:args0[i]? with
   | none=>rw [hx] at hy;cases hy
   | some x0=>
    rw [hx] at hy;simp only [qar,Option.some.injEq] at hy;subst hy;have:=(hs1.frame _ _ (q4 i x0 hx)).2;have e:ydw (bD (bM w lv) lv0 w0 (d::a0.defers) (fun x=>vs.getD (x - 1000000) undef)) a1 (1000000+i)=z:=by
     simp only [ydw];rw [if_neg om];simp only [bD,qft,qad,hz,qcp]
    rw [e] at this;exact this
  have hcall:=lendK (K:=KD P g u u') (fun us w R R' h hk=>KD.mono h hk) hs1 hvs q5 c1 c2 c3 c4 c5 c6 c7 c8;refine CallsDIn.mono hcall fun e u2 w2 ⟨hu2,v2,lv2,he,hs2⟩=>?_;subst he hu2;simp only;rw [q2];have hds:zgs (bM w lv) w2 a0.defers:=p1.defers.same fun D hD=>by
   have hlt:=(qbd.1 hD).1;exact (hs2.inv.base.block D hlt (fun ⟨id,n,hn⟩=>(p1.inv.lvat hn).choose_spec.2.2.2.notDef hD)).trans hD
  have hs3:=Sim.unbase p1 rfl hs2 hds q6;rw [<- ht];exact ycj (B:=bM w lv) rfl rfl (fun a2 w3 hs4=>xjp hT hrs hcl hi hs4 q7 q8 q9) _ { a1 with defers:=a0.defers } w2 rfl hs3
 cases e <;> simp only [zwm,Option.some.injEq] at q1 <;> first|(subst q1;exact main)|cases q1
end
section
variable {P:Program} {ty:TypeId} {h:Nat->Option LObj} {ρ:Operand->Option AV}
theorem yield_eqNilYes {x:Operand} {c:Value} {ti:TypeId} {ty':TypeId} (hu:P.underlying ti=some (.interface (P.methodsAt ti))) (hx:ρ x=some (.v .nilIface)) (hy:ρ (.const c)=some (.v .nilIface)):yby P h ρ (.binOp .eql ti x (.const c) ty') ty (.v (.bool true)):=by
 refine ycq (fun _ _=>by simp) (by simp [yha,Op.operands,hx,hy,toV]) fun w=>?_;simp [execOp,yet hx,yet hy,eqGuard,binOp,run_equal_nil_nil w ti hu]
end
theorem callsDIn_of_wpSIn_marks {args:Array Value} (hf:P.funcs[f]?=some fn) (hb:fn.body=some c) (hF:F.fn f) (h:∀ (c₀:Frame) (cs:List Frame),c₀.mode=u->c.wpSIn F n P (fun e a cs' w'=>(e=.normal\/e=.ret)/\cs'={ c₀ with mode:=u' }::cs/\yya P (fun w2=>∃ v,(results fn a.tmps).run P w2=.ok v w2/\R (.returned v) w2) a.defers w') { tmps:=args++Array.replicate (fn.ntmps - args.size) undef,defers:=[] } (c₀::cs) w):
  CallsDIn F n P f args u w fun e u2 w'=>u2=u'/\R e w':=by
 refine ⟨hF,fun c₀ cs hu hroom=>?_⟩
 let b:Frame:={ (default:Frame) with fn:=f,kind:=.deferred,roundOf:=none }
 have henter:Frame.enter P f args .deferred =
   b.atR { tmps:=args++Array.replicate (fn.ntmps - args.size) undef,defers:=[] } [.code c]:=by
  simp [Frame.enter,Frame.atR,hf,hb,b]
 obtain ⟨e,a',cs',w',hl,⟨he,hcs,hq⟩,harr⟩:=h c₀ cs hu b [] rfl rfl hF hroom;rw [<- henter] at harr;subst hcs;have hroom':F.room (({ c₀ with mode:=u' }::cs).length+1+n):=hroom;rcases he with rfl|rfl
 .obtain ⟨w2,⟨v,g1,g2⟩,g3⟩:=yur (F:=F) (n:=n) a'.defers w' { b.atR a' [] with mode:=.returning } ({ c₀ with mode:=u' }::cs) rfl rfl hF hroom' hq;exact ⟨.returned v,u',w2,_,⟨rfl,g2⟩,StepsIn.trans (StepsIn.trans harr (.one (fenced_calm (fr:=b.atR a' []) hF hroom' rfl) (stepR_end rfl))) g3,rfl,rfl,rfl,rfl,fn,hf,g1⟩
 obtain ⟨todo,hs⟩:=harr.1 rfl;obtain ⟨w2,⟨v,g1,g2⟩,g3⟩:=yur (F:=F) (n:=n) a'.defers w' { b.atR a' todo with mode:=.returning } ({ c₀ with mode:=u' }::cs) rfl rfl hF hroom' hq;exact ⟨.returned v,u',w2,_,⟨rfl,g2⟩,StepsIn.trans hs g3,rfl,rfl,rfl,rfl,fn,hf,g1⟩
inductive Rec:FrameMode->Value->FrameMode->Prop
 | idle:Rec .returning .nilIface .returning
 | caught (v:Value) (older:List PanicEntry):Rec (.panicking ({ v:=v,recovered:=false }::older)) v (.panicking ({ v:=v,recovered:=true }::older))
theorem wpSIn_recover {Q:Exit->Act->List Frame->World->Prop} {c₀:Frame} {cs:List Frame} {v:Value} (hro:F.round=none) (hop:o.op=.call { callee:=.builtin .recover,args:=#[],argTypes:=ats }) (hgd:o.guard=none) (hu:c₀.mode=u) (hrec:Rec u v u') (h:wpOpsIn F n P (o::l1).toArray (fun e a' w'=>Q e a' ({ c₀ with mode:=u' }::cs) w') (List.range' 1 l1.length) (a.put o.dst v) w):(Code.region id (o::l1).toArray false).wpSIn F n P Q a (c₀::cs) w:=by
 intro b k hb hr hF hroom;have hsp:List.range (o::l1).toArray.size=0::List.range' 1 l1.length:=by
  rw [qcx,qgg,qaj,qee]
 have hg0:(o::l1).toArray[0]?=some o:=by simp
 have hw:Region.wanted o (yielded (o::l1).toArray a.tmps)=true:=by simp [Region.wanted,hgd]
 have hrun:(execOp a.eval o).run P w=.ok .recover w:=by
  unfold execOp;simp only [hop,resolve,Sem.run_bind,Sem.run_pure,Result.andThen_ok,invoke,builtin]
 have habout:∀ f,o.about P w a.eval=some f->F.fn f:=by
  intro f hf;simp [Oper.about,hop,resolve,Target.leads] at hf
 have h0:(lone (b.atR a (.inRegion (o::l1).toArray (0::List.range' 1 l1.length)::k)) (c₀::cs) w).fenced P F:=fenced_oper hF hroom hg0 habout;have hg:=stepGR_op (P:=P) (b:=b) (k:=k) (cs:=c₀::cs) (w:=w) (rest:=List.range' 1 l1.length) hg0 hw;rw [hr,Oper.semAt_none] at hg;have hfin:∀ v,(b.atR a (.inRegion (o::l1).toArray (0::List.range' 1 l1.length)::k)).finish v=b.atR (a.put o.dst v) (.inRegion (o::l1).toArray (List.range' 1 l1.length)::k):=by
  intro v;rw [Frame.finish_atR,hg0];rfl
 have hk:(b.atR a (.inRegion (o::l1).toArray (0::List.range' 1 l1.length)::k)).kind=.deferred:=hb;have htr:=tryRecover_deferred hk (c₀::cs);have hroom':F.room (({ c₀ with mode:=u' }::cs).length+1+n):=hroom;obtain ⟨e,a',w',hq,harr⟩:=wp_opsIn _ _ w h b k ({ c₀ with mode:=u' }::cs) (hr.trans hro.symm) hF hroom';refine ⟨e,a',{ c₀ with mode:=u' }::cs,w',rfl,hq,.of_steps (.head (fenced_calm hF hroom rfl) stepR_region ?_) harr⟩;rw [hsp];refine .one h0 (step_lone_go ?_);rw [hg,<- hfin];cases hrec with
 | idle=>
  have hrc:recoverD (c₀::cs)=none:=by simp [recoverD,hu]
  have hc:({ c₀ with mode:=.returning }:Frame)=c₀:=by rw [<- hu]
  rw [hc];simp only [Frame.atR,hr] at htr ⊢;simp [stepG.apply,hrun,htr,hrc]
 | caught v older=>
  have hrc:recoverD (c₀::cs)=some (v,{ c₀ with mode:=.panicking ({ v:=v,recovered:=true }::older) }::cs):=by simp [recoverD,hu]
  simp only [Frame.atR,hr] at htr ⊢;simp [stepG.apply,hrun,htr,hrc]
theorem conKD_recover (hT:TOK P T) {d:Nat} {y:Code} {args:List AV} {hs:Nat->Option LObj} {r:AV} {v:Value} (hf:P.funcs[f]?=some fn) (hb:fn.body=some (.seq (.region id (o::l1).toArray false) y)) (hN:fn.ntmps=N) (hrs:fn.results=rs.toArray) (hlen:(Nat.ble args.length N && Nat.ble N 1000000)=true) (hcl:∀ id o,hs' id=some o->isC o=true->N<=id/\∃ o',hs id=some o'/\isC o'=true) (hop:o.op=.call { callee:=.builtin .recover,args:=#[],argTypes:=ats }) (hgd:o.guard=none) (hdst:o.dst=some d) (hd:d < N) (hnd:yhr l1=true) (hrec:Rec u v u') (h:Lex P N (o::l1).toArray lf (A P N y (zzw T rs r hs')) l1 ⟨yaj ((d,.v v)::yfn 0 args),hs⟩):xjb (KD P f u u') args hs r hs':=by
 refine ⟨fun id o hx hc=>(hcl id o hx hc).2,fun ok0 lv w us hi hus=>callsDIn_of_wpSIn_marks hf hb trivial fun c₀ cs hu=>?_⟩;have hsim:=xgh hN hlen hi hus (n:=fn.ntmps);refine wpSIn_seq (wpSIn_recover rfl hop hgd hu hrec ?_);have hput:Sim (bM w lv) ok0 N ⟨yaj ((d,.v v)::yfn 0 args),hs⟩ lv (({ tmps:=us.toArray++Array.replicate (fn.ntmps - us.toArray.size) undef,defers:=[] }:Act).put o.dst v) w:=by
  have:=hsim.put (d:=o.dst) (r:=.v v) (u:=v) (fun x hx=>by rw [hdst] at hx;cases hx;exact hd) hsim.inv (Below.refl _ _) (.v _);rw [hdst] at this ⊢;rw [<- ydh];exact this
 have:=zek (B:=bM w lv) (ok0:=ok0) (n:=0) (rest:=[]) (Q':=fun e a' w'=>Exit.thenS (y.wpSIn Fence.wide 0 P (fun e a cs' w'=>(e=.normal\/e=.ret)/\cs'={ c₀ with mode:=u' }::cs/\yya P (fun w2=>∃ v,(results fn a.tmps).run P w2=.ok v w2/\∃ u lv',Ending.returned v=.returned u/\Rel (yax (yfb w lv) ok0 lv' w2) w2 lv' r u/\Inv (yfb w lv) ok0 hs' lv' w2/\∀ id o,hs' id=some o->isC o=true->∃ b n n',lv id=some (some b,n)/\lv' id=some (some b,n')) a.defers w'))
  (fun e a cs' w'=>(e=.normal\/e=.ret)/\cs'={ c₀ with mode:=u' }::cs/\yya P (fun w2=>∃ v,(results fn a.tmps).run P w2=.ok v w2/\∃ u lv',Ending.returned v=.returned u/\Rel (yax (yfb w lv) ok0 lv' w2) w2 lv' r u/\Inv (yfb w lv) ok0 hs' lv' w2/\∀ id o,hs' id=some o->isC o=true->∃ b n n',lv id=some (some b,n)/\lv' id=some (some b,n')) a.defers w') e a' ({ c₀ with mode:=u' }::cs) w') (fun s1 lv1 a1 w1 hq hs1=>?_) h hnd 1 (fun j o' ho'=>by rw [qcv];simpa using ho') lv _ w hput
 .rw [qbe] at this;exact this
 show y.wpSIn _ _ _ _ _ _ _;refine wpSIn_of_wpIn rfl ?_;refine wpIn_mono (hq (bM w lv) ok0 lv1 a1 w1 hs1) fun e a' w' ⟨s',lv',hq2,hs2⟩=>?_;cases e with
 | normal=>obtain ⟨x,hx,h1,h2⟩:=hq2;exact ⟨.inl rfl,rfl,zlh (B:=bM w lv) (tm:=a'.tmps) rfl (fun a2 w2 ht hs3=>by have:=xjp hT hrs hcl hi hs3 hx h1 h2 (fn:=fn);rwa [ht] at this) _ a' w' rfl rfl hs2⟩
 | ret=>obtain ⟨x,hx,h1,h2⟩:=hq2;exact ⟨.inr rfl,rfl,zlh (B:=bM w lv) (tm:=a'.tmps) rfl (fun a2 w2 ht hs3=>by have:=xjp hT hrs hcl hi hs3 hx h1 h2 (fn:=fn);rwa [ht] at this) _ a' w' rfl rfl hs2⟩
 | _=>exact hq2.elim
section
variable {P:Program} {N:Nat}
end
theorem yuv {ids:List Nat}:∀ {x:AV},yar x=true->yen ids x=true
 | .v _,_=>rfl
 | .any,_=>rfl
 | .one,_=>rfl
 | .sl _ _,_=>rfl
 | .dp _ _,_=>rfl
 | .mv _,_=>rfl
 | .agg cs,h=>rows (cs:=cs) h
 | .tup cs,h=>rows (cs:=cs) h
 | .fn _ cs,h=>rows (cs:=cs) h
 | .fm _ cs,h=>rows (cs:=cs) h
 where rows:∀ {cs:List AV},yar.pureL cs=true->yen.onlyL ids cs=true
 | [],_=>rfl
 | c::cs,h=>by
  simp only [yar.pureL,qac] at h;simp only [yen.onlyL,yuv h.1,rows h.2,Bool.and_self]
theorem ysp:∀ (x:AV),yfg (fun i=>i) x=x
 | .v _=>rfl
 | .any=>rfl
 | .one=>rfl
 | .sl _ _=>rfl
 | .dp _ _=>rfl
 | .mv _=>rfl
 | .lp _ _=>rfl
 | .ls _ _ _=>rfl
 | .mp _=>rfl
 | .agg cs=>by simp only [yfg,rows cs]
 | .tup cs=>by simp only [yfg,rows cs]
 | .fn _ cs=>by simp only [yfg,rows cs]
 | .fm _ cs=>by simp only [yfg,rows cs]
 where rows:∀ (cs:List AV),yfg.renL (fun i=>i) cs=cs
 | []=>rfl
 | c::cs=>by simp only [yfg.renL,ysp c,rows cs]
theorem zcf (o:LObj):zce (fun i=>i) o=o:=by cases o <;> simp only [zce,ysp.rows]
def ycb (hs:List (Nat × Option LObj)):List Nat:=hs.map (·.1)
theorem yev {hs:List (Nat × Option LObj)}:∀ {id:Nat},(yac hs id).isSome->id∈ycb hs:=by
 induction hs with
 | nil=>intro id h;cases h
 | cons x hs ih=>
  intro id h;obtain ⟨k,o⟩:=x;simp only [yac] at h;cases hb:Nat.beq id k with
  | true=>simp [ycb,qaf hb]
  | false=>rw [hb] at h;simp only at h;exact qap _ (ih h)
theorem hlook_out {hs:List (Nat × Option LObj)} (h:id ∉ ycb hs):yac hs id=none:=by
 cases hq:yac hs id with
 | none=>rfl
 | some o=>exact absurd (yev (by rw [hq];rfl)) h
theorem yju {f g:List (Nat × Option LObj)} (h:id ∉ ycb f):yac (f++g) id=yac g id:=by
 induction f with
 | nil=>rfl
 | cons x f ih=>
  obtain ⟨k,o⟩:=x;simp only [ycb,qcl,qas,not_or] at h;simp only [qax,yac];cases hb:Nat.beq id k with
  | true=>exact absurd (qaf hb) h.1
  | false=>exact ih h.2
theorem yvu {f g:List (Nat × Option LObj)} (h:id ∉ ycb g):yac (f++g) id=yac f id:=by
 induction f with
 | nil=>exact hlook_out h
 | cons x f ih=>
  obtain ⟨k,o⟩:=x;simp only [qax,yac];cases hb:Nat.beq id k with
  | true=>rfl
  | false=>exact ih
section
variable {P:Program} {N:Nat} {ops:Array Oper} {lf:Oper->Bool} {Q:SS->Prop} {t t':List (Nat × AV)} {pre hs hs':List (Nat × Option LObj)} {rest:List Oper} {d:Nat} {ty:TypeId} {pos:String} {af:Array Edge} {gd:Option (Nat × Bool)}
variable {g:Operand}
structure Ahead (pre hs:List (Nat × Option LObj)):Prop where
 keys:∀ i∈ycb hs,i ∉ ycb pre
 ment:∀ j ob,yac pre j=some ob->∀ i∈ycb hs,yeb i ob=false
theorem zua {args:List Operand} {ats:Array TypeId} {caps xs:List AV} {r:AV} (hc:yot P f (xs++caps) (yac hs) r (yac hs')) (hpr:yar r=true) (hg:yzw (evF (yaj t) g) f caps args) (hx:evL (evF (yaj t)) args=some xs) (ha:Ahead pre (hs++hs')) (hro:∀ id o,yac hs' id=some o->ypg (ycb (hs++hs')) o=true) (ht:∀ x y,yaj t' x=some y->yaj t x=some y/\∀ i∈ycb (hs++hs'),ment i y=false) (hl:lf ⟨some d,.call { callee:=.value g,args:=args.toArray,argTypes:=ats },ty,pos,af,gd⟩=true) (hw:yal ops (yaj t) ⟨some d,.call { callee:=.value g,args:=args.toArray,argTypes:=ats },ty,pos,af,gd⟩=some true) (hd:Nat.blt d N=true) (k:Lex P N ops lf Q rest (S ((d,r)::t') (pre++hs'))):Lex P N ops lf Q (⟨some d,.call { callee:=.value g,args:=args.toArray,argTypes:=ats },ty,pos,af,gd⟩::rest) (S t (pre++hs)):=by
 refine yec hl hw ?_ k;have hk1:∀ i,i∈ycb hs->i∈ycb (hs++hs'):=fun i hi=>by simp only [ycb,qbu,qau] at hi ⊢;exact .inl hi
 have hk2:∀ i,i∈ycb hs'->i∈ycb (hs++hs'):=fun i hi=>by simp only [ycb,qbu,qau] at hi ⊢;exact .inr hi
 refine yrw (σ:=fun i=>i) (ids:=ycb (hs++hs')) rfl rfl (by simpa using hd) hg hx (by rw [show (yfg fun i=>i)=id from funext ysp];simp) hc (fun _ _ _ _ h=>h) (fun id h=>hk1 id (yev h)) (fun id h=>hk2 id (yev h)) (fun id o ho=>?_) (yuv hpr) hro (fun x y hy=>?_) (fun i hi=>?_) (fun j ob' hj hob=>?_)
 .show yac (pre++hs) id=_;rw [yju (ha.keys id (hk1 id (yev (by rw [ho];rfl)))),ho,zcf]
 .simp only [S,yaj] at hy;cases hb:Nat.beq x d with
  | true=>rw [hb] at hy;simp only [Option.some.injEq] at hy;exact .inl ⟨qaf hb,by rw [ysp];exact hy.symm⟩
  | false=>
   rw [hb] at hy;simp only at hy;obtain ⟨h1,h2⟩:=ht x y hy;exact .inr ⟨fun e=>(by subst e;rw [qgc] at hb;cases hb),.inr ⟨h1,.inl h2⟩⟩
 .show yac (pre++hs') i=_;rw [yju (ha.keys i hi)];cases yac hs' i <;> simp [zcf]
 have hob:yac (pre++hs') j=some ob':=hob;rw [yvu fun hm=>hj j (hk2 j hm) rfl] at hob;refine ⟨fun i hi=>ha.ment j ob' hob i hi,ob',?_,.inl rfl⟩;show yac (pre++hs) j=_;rw [yvu fun hm=>hj j (hk1 j hm) rfl];exact hob
theorem L_callI {args:List Operand} {ats:Array TypeId} {caps xs:List AV} {r:AV} (hc:yot P f (xs++caps) (yac hs) r (yac hs')) (hpr:yar r=true) (hg:evF (yaj t) g=some (.fn f caps)) (hx:evL (evF (yaj t)) args=some xs) (ha:Ahead pre (hs++hs')) (hro:∀ id o,yac hs' id=some o->ypg (ycb (hs++hs')) o=true) (ht:∀ x y,yaj t' x=some y->yaj t x=some y/\∀ i∈ycb (hs++hs'),ment i y=false) (hl:lf ⟨some d,.call { callee:=.value g,args:=args.toArray,argTypes:=ats },ty,pos,af,gd⟩=true) (hw:yal ops (yaj t) ⟨some d,.call { callee:=.value g,args:=args.toArray,argTypes:=ats },ty,pos,af,gd⟩=some true) (hd:Nat.blt d N=true) (k:Lex P N ops lf Q rest (S ((d,r)::t') (pre++hs'))):Lex P N ops lf Q (⟨some d,.call { callee:=.value g,args:=args.toArray,argTypes:=ats },ty,pos,af,gd⟩::rest) (S t (pre++hs)):=
 zua hc hpr (.inl hg) hx ha hro ht hl hw hd k
theorem L_callIm {ats:Array TypeId} {caps:List AV} {r:AV} (hc:yot P f caps (yac hs) r (yac hs')) (hpr:yar r=true) (hg:evF (yaj t) g=some (.fm f caps)) (ha:Ahead pre (hs++hs')) (hro:∀ id o,yac hs' id=some o->ypg (ycb (hs++hs')) o=true) (ht:∀ x y,yaj t' x=some y->yaj t x=some y/\∀ i∈ycb (hs++hs'),ment i y=false) (hl:lf ⟨some d,.call { callee:=.value g,args:=#[],argTypes:=ats },ty,pos,af,gd⟩=true) (hw:yal ops (yaj t) ⟨some d,.call { callee:=.value g,args:=#[],argTypes:=ats },ty,pos,af,gd⟩=some true) (hd:Nat.blt d N=true) (k:Lex P N ops lf Q rest (S ((d,r)::t') (pre++hs'))):Lex P N ops lf Q (⟨some d,.call { callee:=.value g,args:=#[],argTypes:=ats },ty,pos,af,gd⟩::rest) (S t (pre++hs)):=
 zua (args:=[]) (xs:=[]) hc hpr (.inr ⟨hg,rfl⟩) rfl ha hro ht hl hw hd k
end
def xmu (f:Nat->Option AV):List (Nat × AV)->Prop
 | []=>True
 | (x,y)::t=>f x=some y/\xmu f t
theorem zfw {f:Nat->Option AV}:∀ {t:List (Nat × AV)},xmu f t->∀ x y,yaj t x=some y->f x=some y
 | [],_,x,y,h=>by simp [yaj] at h
 | (a,z)::t,hs,x,y,h=>by
  simp only [yaj] at h;cases hb:Nat.beq x a with
  | true=>rw [hb] at h;simp only [Option.some.injEq] at h;subst h;rw [qaf hb];exact hs.1
  | false=>rw [hb] at h;exact zfw hs.2 x y h
def xmc (t:List (Nat × AV)):Nat->List AV->Prop
 | _,[]=>True
 | i,x::l=>yaj t (1000000+i)=some x/\xmc t (i+1) l
theorem zxy {t:List (Nat × AV)}:∀ {l:List AV} {k i:Nat} {x:AV},xmc t k l->l[i]?=some x->yaj t (1000000+(k+i))=some x
 | [],k,i,x,h,hx=>by simp at hx
 | y::l,k,0,x,h,hx=>by simp only [qat,Option.some.injEq] at hx;subst hx;exact h.1
 | y::l,k,i+1,x,h,hx=>by have:=zxy h.2 (i:=i) (by simpa using hx);rwa [show k+1+i=k+(i+1) by omega] at this
theorem zhu {t:List (Nat × AV)} {h:List (Nat × Option LObj)} (sg:List (Nat × Nat)) {r:AV} {g:FuncId} {e:Exit} {args0:List AV} {hm hm' h':List (Nat × Option LObj)} {v x:AV} (hmode:zwm e=some u) (hset:settle u'=.returning) (hn:args0.length=n) (ha:xmc t 0 (args0.map (yfg (yep sg)))) (hc:xjb (KD P g u u') args0 (yac hm) v (yac hm')) (hk:ydm (ybb sg)=true) (hv:ydm (ycc sg)=true) (hd1:yqm (ybb sg) hm=true) (hd2:yqm (ybb sg) hm'=true) (hsub:yts h (ztd sg hm)) (ho:yok (ybb sg) hm'=true) (hh:∀ j ob',j ∉ ycc sg->yac h' j=some ob'->(∀ i∈ycc sg,yeb i ob'=false)/\∃ ob,yac h j=some ob/\ylg ob ob') (hx:yrh T (S (yod sg hm' (xby t)) (yox sg hm' sg++h')) rs=some x) (hwk:Wk x r) (hend:∀ id o,hs' id=some o->yac (yox sg hm' sg++h') id=some o):xjc P T rs r hs' (some (g,n)) e (S t h):=by
 refine ⟨u,u',args0,yac hm,v,yac hm',yep sg,ybb sg,S (yod sg hm' (xby t)) (yox sg hm' sg++h'),hmode,hset,hn,fun i x hx=>?_,hc,⟨yxd hv,ygo hd1,ygo hd2,ysq hsub,yja ho,fun x y hy=>?_,fun i hi=>yvh hk hv i hi,fun j ob' hj hob=>?_⟩,fun x hge=>?_,x,hx,hwk,hend⟩
 .have:=zxy ha (i:=i) (x:=yfg (yep sg) x) (by simp [hx])
  rwa [qba] at this
 .have hlow:∀ z,yaj (xby t) x=some z->yaj t x=some z:=fun z hz=>by
   rw [ywb] at hz;cases hb:Nat.ble 1000000 x with
   | true=>rw [hb] at hz;cases hz
   | false=>rw [hb] at hz;exact hz
  rcases yix hy with ⟨h1,z,h2⟩|⟨h1,h2⟩
  .exact .inl ⟨h1,z,hlow z h2⟩
  exact .inr ⟨hlow y h1,yse hk h2⟩
 .have hjv:j ∉ ycc sg:=fun hm=>by
   obtain ⟨i,h1,h2⟩:=ysr hm hk;exact hj i h1 h2
  simp only [S,yll hjv] at hob;obtain ⟨h1,h2⟩:=hh j ob' hjv hob;exact ⟨fun i hi=>h1 _ (yjy hi),h2⟩
 show yaj (yod sg hm' (xby t)) x=none;cases hq:yaj (yod sg hm' (xby t)) x with
 | none=>rfl
 | some y=>
  have:∃ z,yaj (xby t) x=some z:=by
   rcases yix hq with ⟨_,z,h2⟩|⟨h1,_⟩
   .exact ⟨z,h2⟩
   exact ⟨y,h1⟩
  obtain ⟨z,hz⟩:=this;rw [ywb,Nat.ble_eq_true_of_le hge] at hz;cases hz
end
section
open Go.RowKit
theorem conG_of {T:Nat → Option Ty} (hT : TOK P T) {args:List AV} {hs hs':Nat → Option LObj} {r:AV} (hf : P.funcs[f]? = some fn) (hn : (fn.name == "runtime.NumGoroutine") = false) (hb : fn.body = some c) (hN : fn.ntmps = N) (hrs : fn.results = rs.toArray) (hlen : (Nat.ble args.length N && Nat.ble N 1000000) = true) (hcl:∀ id o,hs' id=some o→isC o=true→N≤id∧∃ o',hs id=some o'∧isC o'=true) (kp:List Nat) (t0:Nat→Option AV) (ht0:∀ x y,t0 x=some y→yaj (yfn 0 args) x=some y∨∃ i,x=1000000+i∧args[i]?=some y) (h:A P N c (fun e s=>zzw T rs r hs' e s∧∀ i∈kp,∃ x,args[i]?=some x∧s.t (1000000+i)=some x) ⟨t0,hs⟩):xit P f args hs r hs' kp:=by
 refine ⟨⟨fn,hf,hn,by simp [hb]⟩,fun id o hx hc=>(hcl id o hx hc).2,fun ok0 lv w us hi hus=>?_⟩;simp only [qac,qdj] at hlen;obtain ⟨hlen',hbig⟩:=hlen;refine (callsIn_wide (n:=0)).1 (callsIn_of_wp_marks hf hb trivial ?_);have hsim:Sim ⟨w,ybw lv,fun id=>(lv id).bind (·.1),none,[],fun i=>us.getD (i - 1000000) undef⟩ ok0 N ⟨t0,hs⟩ lv { tmps:=us.toArray++Array.replicate (fn.ntmps - us.toArray.size) undef,defers:=[] } w:=by
  refine ⟨hi.pinned _ _ _ _ (fun l h=>by cases h),?_,fun x y hy=>?_,⟨[],rfl,qdp,fun d hd=>by cases hd⟩,hbig,fun id b o hN hx hc hb=>?_⟩
  .simp [hN,hus.1];omega
  .rcases ht0 x y hy with hy|⟨i,rfl,hy2⟩
   .simp only [ykw] at hy;have hlt:=(qaa.1 hy).1;refine ⟨.inl om,?_⟩;rw [ydw,if_pos om];obtain ⟨u,hu⟩:∃ u,us[x]?=some u:=⟨_,qae (by rw [hus.1];exact hlt)⟩;simp only [yej us _ x u hu];exact hus.2 x y u hy hu
   refine ⟨.inr om,?_⟩;obtain ⟨u,hu⟩:∃ u,us[i]?=some u:=⟨_,qae (by rw [hus.1];exact (qaa.1 hy2).1)⟩;rw [ydw,if_neg om];simp only [qft,qad,hu,qcp];exact hus.2 i y u hy2 hu
  simp only at hb;cases hl:lv id with
  | none=>simp [hl] at hb
  | some q=>obtain ⟨q1,q2⟩:=q;simp [hl] at hb;subst hb;exact ⟨q2,rfl⟩
 refine wpIn_mono (h _ ok0 _ _ w hsim) fun e a' w' ⟨s',lv',hq,hs2⟩=>?_;have fin:∀ x,yrh T s' rs=some x->Wk x r->(∀ id o,hs' id=some o->s'.h id=some o)->(∀ i∈kp,∃ x,args[i]?=some x/\s'.t (1000000+i)=some x)->∀ (a':Act) (w':World),Sim ⟨w,ybw lv,fun id=>(lv id).bind (·.1),none,[],fun i=>us.getD (i - 1000000) undef⟩ ok0 N s' lv' a' w'->∃ v,(results fn a'.tmps).run P w'=.ok v w'/\∃ u lv2,Ending.returned v=.returned u/\Rel (yax (yfb w lv) ok0 lv2 w') w' lv2 r u/\Inv (yfb w lv) ok0 hs' lv2 w'/\(∀ id o,hs' id=some o->isC o=true->∃ b n n',lv id=some (some b,n)/\lv2 id=some (some b,n'))/\∀ i∈kp,∀ x v,args[i]?=some x->us[i]?=some v->Rel (yax (yfb w lv) ok0 lv2 w') w' lv2 x v:=by
  intro x hx hwk hsub hkp a' w' hs2;obtain ⟨u,hu,hrun⟩:=yri (P:=P) hT hs2 hrs hx;obtain ⟨lv2,i1,i2,i3⟩:=hs2.inv.weak hsub;refine ⟨u,hrun,u,lv2,rfl,hwk.rel _ _ _ _ ((hu.relive fun id b n hb _=>i2 id b n hb).keep fun g hg=>⟨i3 g hg,rfl⟩),i1.pinned _ _ _ _ (fun l h=>by cases h),fun id o hx hc=>?_,fun i hi x v hx hv=>?_⟩;rotate_left
  .obtain ⟨y,hy,ht⟩:=hkp i hi;rw [hx] at hy;cases hy;have:=(hs2.frame _ _ ht).2;rw [ydw,if_neg om] at this;simp only [qft,qad,hv,qcp] at this;exact (this.relive fun id b n hb _=>i2 id b n hb).keep fun g hg=>⟨i3 g hg,rfl⟩
  obtain ⟨h1,o',hy,hc'⟩:=hcl id o hx hc;obtain ⟨b,n,hb,ho⟩:=hi.obj id _ hy;cases b with
  | none=>simp only [ygb] at ho;rcases ho with rfl|⟨e,rfl⟩ <;> cases hc'
  | some b=>
   obtain ⟨n',hn'⟩:=hs2.pin id b o h1 (hsub id _ hx) hc (by simp [hb]);obtain ⟨b2,n2,hb2,_⟩:=i1.obj id _ hx;have:=i2 id b2 n2 hb2;rw [hn'] at this;cases this;exact ⟨b,n,_,hb,hb2⟩
 cases e with
 | normal=>obtain ⟨⟨x,hx,h1,h2⟩,h3⟩:=hq;exact ycj rfl rfl (fin x hx h1 h2 h3) _ a' w' rfl hs2
 | ret=>obtain ⟨⟨x,hx,h1,h2⟩,h3⟩:=hq;exact ycj rfl rfl (fin x hx h1 h2 h3) _ a' w' rfl hs2
 | _=>exact hq.1.elim
section
variable {P:Program} {N:Nat} {ops:Array Oper} {lf:Oper->Bool} {Q:SS->Prop} {t t':List (Nat × AV)} {pre hs hs':List (Nat × Option LObj)} {rest:List Oper} {d:Nat} {ty:TypeId} {pos:String} {af:Array Edge} {gd:Option (Nat × Bool)}
theorem ztz {g:Operand} {args:List Operand} {ats:Array TypeId} {xs:List AV} {r:AV} (kp:List Nat) (hc:xit P f xs (yac hs) r (yac hs') kp) (hpr:yar r=true) (hg:evF (yaj t) g=some (.fn f [])) (hx:evL (evF (yaj t)) args=some xs) (hak:∀ i∈ycb (hs++hs'),i ∉ ycb pre) (ham:∀ j ob,yac pre j=some ob->(∀ i∈ycb (hs++hs'),yeb i ob=false)\/∃ ys,ob=.cells ys/\∀ y∈ys,(∀ i∈ycb (hs++hs'),ment i y=false)\/∃ i∈kp,∃ id sz len,0 < sz/\(yac hs id).isSome/\xs[i]?=some (.ls id sz len)/\y=.ls id sz len) (hro:∀ id o,yac hs' id=some o->ypg (ycb (hs++hs')) o=true) (ht:∀ x y,yaj t' x=some y->yaj t x=some y/\((∀ i∈ycb (hs++hs'),ment i y=false)\/∃ i∈kp,∃ id sz len,0 < sz/\(yac hs id).isSome/\xs[i]?=some (.ls id sz len)/\y=.ls id sz len)) (hl:lf ⟨some d,.call { callee:=.value g,args:=args.toArray,argTypes:=ats },ty,pos,af,gd⟩=true) (hw:yal ops (yaj t) ⟨some d,.call { callee:=.value g,args:=args.toArray,argTypes:=ats },ty,pos,af,gd⟩=some true) (hd:Nat.blt d N=true) (k:Lex P N ops lf Q rest (S ((d,r)::t') (pre++hs'))):Lex P N ops lf Q (⟨some d,.call { callee:=.value g,args:=args.toArray,argTypes:=ats },ty,pos,af,gd⟩::rest) (S t (pre++hs)):=by
 refine yec hl hw ?_ k;have hk1:∀ i,i∈ycb hs->i∈ycb (hs++hs'):=fun i hi=>by simp only [ycb,qbu,qau] at hi ⊢;exact .inl hi
 have hk2:∀ i,i∈ycb hs'->i∈ycb (hs++hs'):=fun i hi=>by simp only [ycb,qbu,qau] at hi ⊢;exact .inr hi
 refine yyg (σ:=fun i=>i) (ids:=ycb (hs++hs')) (caps:=[]) (args0:=xs) rfl rfl (by simpa using hd) (.inl hg) hx (by rw [show (yfg fun i=>i)=id from funext ysp];simp) hc (fun _ _ _ _ h=>h) (fun id h=>hk1 id (yev h)) (fun id h=>hk2 id (yev h)) (fun id o ho=>?_) (yuv hpr) hro (fun x y hy=>?_) (fun i hi=>?_) (fun j ob' hj hob=>?_)
 .show yac (pre++hs) id=_;rw [yju (hak id (hk1 id (yev (by rw [ho];rfl)))),ho,zcf]
 .simp only [S,yaj] at hy;cases hb:Nat.beq x d with
  | true=>rw [hb] at hy;simp only [Option.some.injEq] at hy;exact .inl ⟨qaf hb,by rw [ysp];exact hy.symm⟩
  | false=>
   rw [hb] at hy;simp only at hy;obtain ⟨h1,h2⟩:=ht x y hy;refine .inr ⟨fun e=>(by subst e;rw [qgc] at hb;cases hb),.inr ⟨h1,h2.imp .inl fun h=>.inl h⟩⟩
 .show yac (pre++hs') i=_;rw [yju (hak i hi)];cases yac hs' i <;> simp [zcf]
 have hob:yac (pre++hs') j=some ob':=hob;rw [yvu fun hm=>hj j (hk2 j hm) rfl] at hob;have e:yac (pre++hs) j=some ob':=by rw [yvu fun hm=>hj j (hk1 j hm) rfl];exact hob
 exact (ham j ob' hob).imp (fun h=>⟨h,ob',e,.inl rfl⟩) fun ⟨ys,h1,h2⟩=>⟨e,ys,h1,fun y hy=>(h2 y hy).imp .inl .inl⟩
theorem L_callG {g:Operand} {args:List Operand} {ats:Array TypeId} {xs:List AV} {r:AV} (kp:List Nat) (hc:xit P f xs (yac hs) r (yac hs') kp) (hpr:yar r=true) (hg:evF (yaj t) g=some (.fn f [])) (hx:evL (evF (yaj t)) args=some xs) (ha:Ahead pre (hs++hs')) (hro:∀ id o,yac hs' id=some o->ypg (ycb (hs++hs')) o=true) (ht:∀ x y,yaj t' x=some y->yaj t x=some y/\((∀ i∈ycb (hs++hs'),ment i y=false)\/∃ i∈kp,∃ id sz len,0 < sz/\(yac hs id).isSome/\xs[i]?=some (.ls id sz len)/\y=.ls id sz len)) (hl:lf ⟨some d,.call { callee:=.value g,args:=args.toArray,argTypes:=ats },ty,pos,af,gd⟩=true) (hw:yal ops (yaj t) ⟨some d,.call { callee:=.value g,args:=args.toArray,argTypes:=ats },ty,pos,af,gd⟩=some true) (hd:Nat.blt d N=true) (k:Lex P N ops lf Q rest (S ((d,r)::t') (pre++hs'))):Lex P N ops lf Q (⟨some d,.call { callee:=.value g,args:=args.toArray,argTypes:=ats },ty,pos,af,gd⟩::rest) (S t (pre++hs)):=
 ztz kp hc hpr hg hx ha.keys (fun j ob h=>.inl (ha.ment j ob h)) hro ht hl hw hd k
end
end
set_option maxRecDepth 100000
set_option maxHeartbeats 8000000
section
open Go.RowKit
def yin:List (Int × Int)->List Int->Bool × List Int
 | b::r,z::zs=>if (yin r zs).1=true then (true,z::(yin r zs).2) else if z < b.2 then (true,(z+1)::(yin r zs).2) else (false,b.1::(yin r zs).2)
 | _,_=>(false,[])
def yov:List (List (Int × Int))->List (List Int)->Bool × List (List Int)
 | r::t,c::cs=>if (yov t cs).1=true then (true,c::(yov t cs).2) else ((yin r c).1,(yin r c).2::(yov t cs).2)
 | _,_=>(false,[])
theorem zuf:∀ {r:List (Int × Int)} {zs:List Int},zs.length=r.length->(yin r zs).2.length=zs.length
 | [],[],_=>rfl
 | [],z::zs,h=>by simp at h
 | b::r,[],h=>by simp at h
 | b::r,z::zs,h=>by
  have ih:=zuf (r:=r) (zs:=zs) (by simpa using h);simp only [yin];split
  .simp [ih]
  split <;> simp [ih]
theorem zug:∀ {t:List (List (Int × Int))} {cs:List (List Int)},cs.length=t.length->(yov t cs).2.length=cs.length
 | [],[],_=>rfl
 | [],z::zs,h=>by simp at h
 | b::r,[],h=>by simp at h
 | b::r,z::zs,h=>by
  have ih:=zug (t:=r) (cs:=zs) (by simpa using h);simp only [yov];split <;> simp [ih]
theorem zng:∀ (x:Nat) {r:List (Int × Int)} {zs:List Int},(yin (r.drop x) (zs.drop x)).1=true->yin r zs=(true,zs.take x++(yin (r.drop x) (zs.drop x)).2)
 | 0,r,zs,h=>by simp only [qfh] at h ⊢;rw [qff,qcn];exact Prod.ext h rfl
 | x+1,[],zs,h=>by simp [yin] at h
 | x+1,b::r,[],h=>by simp [yin] at h
 | x+1,b::r,z::zs,h=>by
  simp only [qdo] at h ⊢;have ih:=zng x h;simp only [yin];rw [ih];simp
theorem znh:∀ (x:Nat) {r:List (List (Int × Int))} {zs:List (List Int)},(yov (r.drop x) (zs.drop x)).1=true->yov r zs=(true,zs.take x++(yov (r.drop x) (zs.drop x)).2)
 | 0,r,zs,h=>by simp only [qfh] at h ⊢;rw [qff,qcn];exact Prod.ext h rfl
 | x+1,[],zs,h=>by simp [yov] at h
 | x+1,b::r,[],h=>by simp [yov] at h
 | x+1,b::r,z::zs,h=>by
  simp only [qdo] at h ⊢;have ih:=znh x h;simp only [yov];rw [ih];simp
def ytu (r:List (Int × Int)) (zs:List Int) (x:Nat):List Int:=zs.take x++(yin (r.drop x) (zs.drop x)).2
def ztw (t:List (List (Int × Int))) (cs:List (List Int)) (v:Nat):List (List Int):=cs.take v++(yov (t.drop v) (cs.drop v)).2
theorem zyn {r:List (Int × Int)} {zs:List Int} (h:zs.length=r.length) (x:Nat):(ytu r zs x).length=zs.length:=by
 unfold ytu;rw [qao,zuf (by simp [h])];simp;omega
theorem wayB_len (h:zs.length=r.length) (x:Nat):(ztw r zs x).length=zs.length:=by
 unfold ztw;rw [qao,zug (by simp [h])];simp;omega
theorem wayA_at {r:List (Int × Int)} {zs:List Int} {z:Int} (h:zs[x]?=some z):(ytu r zs (x+1))[x]?=some z:=by
 have hx:=(qaa.1 h).1;unfold ytu;rw [qam so,qbc,if_pos om,h]
theorem wayB_at (h:zs[x]?=some z):(ztw r zs (x+1))[x]?=some z:=by
 have hx:=(qaa.1 h).1;unfold ztw;rw [qam so,qbc,if_pos om,h]
theorem wayA_all (r:List (Int × Int)) (zs:List Int) (h:zs.length=r.length):ytu r zs r.length=zs:=by
 unfold ytu;rw [<- h,qcb,qay];cases r with
 | nil=>cases zs <;> simp_all [yin]
 | cons b r=>rw [h,qcb];simp [yin]
theorem wayB_all (r:List (List (Int × Int))) (zs:List (List Int)) (h:zs.length=r.length):ztw r zs r.length=zs:=by
 unfold ztw;rw [<- h,qcb,qay];cases r with
 | nil=>cases zs <;> simp_all [yov]
 | cons b r=>rw [h,qcb];simp [yov]
theorem wayA_step {r:List (Int × Int)} {zs:List Int} {b:Int × Int} {z:Int} (hb:r[x]?=some b) (hz:zs[x]?=some z) (h0:(yin (r.drop (x+1)) (zs.drop (x+1))).1=false):
  (yin (r.drop x) (zs.drop x)).1=decide (z < b.2)/\(ytu r zs (x+1)).set x (if z < b.2 then z+1 else b.1)=ytu r zs x:=by
 have hx:=(qaa.1 hz).1;have e:yin (r.drop x) (zs.drop x)=if z < b.2 then (true,(z+1)::(yin (r.drop (x+1)) (zs.drop (x+1))).2) else (false,b.1::(yin (r.drop (x+1)) (zs.drop (x+1))).2):=by
  rw [yjr hb,yjr hz];simp only [yin,h0,if_neg Bool.false_ne_true]
 unfold ytu;rw [e,yan hz,qbb,qbm _ _ so];have hl:(zs.take x).length=x:=by simp;omega
 rw [hl,qbn];split
 .rename_i h;exact ⟨by simp [h],sm⟩
 rename_i h;exact ⟨by simp [h],sm⟩
theorem wayB_step {b:List (Int × Int)} (hb:r[x]?=some b) (hz:zs[x]?=some z) (h0:(yov (r.drop (x+1)) (zs.drop (x+1))).1=false):
  (yov (r.drop x) (zs.drop x)).1=(yin b z).1/\(ztw r zs (x+1)).set x (yin b z).2=ztw r zs x:=by
 have hx:=(qaa.1 hz).1;have e:yov (r.drop x) (zs.drop x)=((yin b z).1,(yin b z).2::(yov (r.drop (x+1)) (zs.drop (x+1))).2):=by
  rw [yjr hb,yjr hz];simp only [yov,h0,if_neg Bool.false_ne_true]
 unfold ztw;rw [e,yan hz,qbb,qbm _ _ so];have hl:(zs.take x).length=x:=by simp;omega
 rw [hl,qbn];exact ⟨rfl,sm⟩
def aF (n:Nat):List (Nat × Option LObj):=[(3,some (.cells [.ls 53 1 n]))]
def aG (n:Nat) (v:Int):List (Nat × Option LObj):=[(4,some (.cells [i64 v])),(3,some (.cells [.ls 53 1 n]))]
theorem zqh {t0 t1:List (Nat × AV)} {hk:Nat->List (Nat × Option LObj)} {h1:List (Nat × Option LObj)} {k:Nat} {Q:Exit->SS->Prop} (hx:List (Nat × Option LObj)) (g1:yxu t1 (zdf t0)) (g2:∀ id o,yac hx id=some o->yac h1 id=some o) (hq:Q .ret (S t0 hx)):xek (yaj t0) (fun k=>yac (hk k)) k Q .ret (S t1 h1):=
 ⟨yac hx,fun x y hx=>ybo g1 _ y (by rw [ykz];exact hx),g2,hq⟩
theorem A_orBad {Q:Exit->SS->Prop} (k:A P N c (fun e s=>Q e s\/s.h 0=some (.vec [.lp 0 0])) s):A P N c Q s:=by
 intro B ok0 lv a w hs;refine wpIn_mono (k B ok0 lv a w hs) fun e a' w' ⟨s',lv',h1,h2⟩=>?_;rcases h1 with h1|h1
 .exact ⟨s',lv',h1,h2⟩
 exfalso;obtain ⟨b,n,g1,g2⟩:=h2.inv.obj 0 _ h1;cases b with
 | none=>simp [ygb] at g2
 | some b=>exact absurd (g2.2.2.2 (.lp 0 0) sm) (by simp [yar])
theorem zaa (tbl:List (List (Int × Int))) (c:List (List Int)) (ht:xae tbl) (hcl:c.length=tbl.length) (hcr:∀ (v:Nat) (r:List (Int × Int)) (zs:List Int),tbl[v]?=some r->c[v]?=some zs->zs.length=r.length) (hcb:∀ zs∈c,∀ a∈zs,-1<=a/\a<=1000000) :
  xit prog 70 [ydl tbl,.ls 53 1 tbl.length] (yac (ybs 53 1 (yfq c) [])) (.tup []) (yac (ybs 53 1 (yfq (yov tbl c).2) [])) [1]:=by
 have htl:=ht.1;refine conG_of tok Tryz.func70 rfl rfl ntmps70 Tryz.results70 rfl (fun id o h h2=>by rw [xcq om h] at h2;cases h2) [1] (yaj ((1000001,.ls 53 1 tbl.length)::yfn 0 [ydl tbl,.ls 53 1 tbl.length])) (fun x y h=>by
  simp only [yaj] at h
  split at h
  .rename_i e;cases h;exact .inr ⟨1,qaf e,rfl⟩
  exact .inl h) ?_
 refine A_orBad ?_;show A prog _ _ _ (S ((1000001,.ls 53 1 tbl.length)::yfn 0 [ydl tbl,.ls 53 1 tbl.length]) ([]++ybs 53 1 (yfq c) []))
 (repeat (first|refine zy ?_|refine xje rfl rfl rfl (ypp (f:=[]) rfl rfl rfl rfl) rfl rfl rfl rfl ?_|refine zc (backO_con _) ?_))
 refine zcq (els:=yhm (fun row=>row.headD .any) (tbl.map fun r=>[.sl 2 (r.map yiv)])) rfl (backO_iter _ _ (fun row hrow=>by obtain ⟨r,_,rfl⟩:=qag.1 hrow;rfl)) (zhi fun row hrow=>by obtain ⟨r,_,rfl⟩:=qag.1 hrow;rfl) rfl [(3,.lp 3 0),(1000001,.ls 53 1 tbl.length)] zs rfl (fun j=>if (yov (tbl.drop (tbl.length - j)) (c.drop (tbl.length - j))).1=false then aF tbl.length++ybs 53 1 (yfq (ztw tbl c (tbl.length - j))) [] else xkt) ?_ ?_ ?_
 .rw [qhm,if_pos (by rw [<- hcl,qcb,hcl,qcb];rfl),wayB_all _ _ hcl];exact fun id o h=>h
 .intro j el hel;obtain ⟨hj,row,hrow,rfl⟩:=ylk hel;simp only [qal] at hj hrow ⊢;obtain ⟨v,hv⟩:∃ v,v=tbl.length - 1 - j:=⟨_,rfl⟩;rw [<- hv] at hrow;obtain ⟨r,hr⟩:=ybr (show v < tbl.length by omega);obtain ⟨ws,hws⟩:=ybr (show v < c.length by omega);simp only [qah,hr,qar,Option.some.injEq] at hrow;subst hrow;rw [show ((tbl.length:Int) - 1 - (j:Int))=(v:Int) by omega,show tbl.length - j=v+1 by omega];by_cases hfl:(yov (tbl.drop (v+1)) (c.drop (v+1))).1=false;case neg=>rw [if_neg hfl];exact yrp rfl
  rw [if_pos hfl];have hrm:=qab hr;obtain ⟨hr1,hrq⟩:=ht.2 r hrm;have hzl:=hcr v r ws hr hws;obtain ⟨hst1,hst2⟩:=wayB_step hr hws hfl;have hAn:(ztw tbl c (v+1)).length=tbl.length:=by rw [wayB_len hcl,hcl]
  have hAv:=wayB_at (r:=tbl) hws;obtain ⟨A,hA⟩:∃ A,A=ztw tbl c (v+1):=⟨_,rfl⟩;rw [<- hA] at hst2 hAn hAv ⊢
  (repeat (first|refine zy ?_|refine zkb tok rfl rfl rfl (ypp (f:=aF tbl.length) rfl rfl rfl rfl) rfl rfl rfl ?_))
  refine ⟨rfl,?_⟩
  (repeat (first|refine zy ?_|refine zc (backI_con _) ?_))
  refine zcq (els:=yhm AV.agg (r.map yiv)) rfl (backI_iter _ _ (fun row hrow=>by obtain ⟨b,_,rfl⟩:=qag.1 hrow;rfl)) (zhi fun row hrow=>by obtain ⟨b,_,rfl⟩:=qag.1 hrow;rfl) rfl [(4,.lp 4 0),(3,.lp 3 0),(1000003,.lp 3 0),(2000001,.ls 53 1 tbl.length)] zs rfl (fun i=>if (yin (r.drop (r.length - i)) (ws.drop (r.length - i))).1=false then aG tbl.length v++ybs 53 1 (yfq (A.set v (ytu r ws (r.length - i)))) [] else xkt) ?_ ?_ ?_
  .rw [qhm,if_pos (by rw [<- hzl,qcb,hzl,qcb];rfl),wayA_all _ _ hzl,zxt hAv];exact hsM (f:=[(4,some (.cells [i64 v])),(4,_),(3,some (.cells [.ls 53 1 tbl.length]))]) (f':=aG tbl.length v) zh rfl rfl rfl
  .intro i el hel;obtain ⟨hi,row,hrow,rfl⟩:=ylk hel;simp only [qal] at hi hrow ⊢;obtain ⟨x,hx⟩:∃ x,x=r.length - 1 - i:=⟨_,rfl⟩;rw [<- hx] at hrow;obtain ⟨b,hb⟩:=ybr (show x < r.length by omega);obtain ⟨z,hz⟩:=ybr (show x < ws.length by omega);simp only [qah,hb,qar,Option.some.injEq] at hrow;subst hrow;rw [show ((r.length:Int) - 1 - (i:Int))=(x:Int) by omega,show r.length - i=x+1 by omega];have hxi:r.length - (i+1)=x:=by omega
   by_cases hfr:(yin (r.drop (x+1)) (ws.drop (x+1))).1=false;case neg=>rw [if_neg hfr];exact yrp rfl
   rw [if_pos hfr];obtain ⟨b1,b2,b3⟩:=hrq b (qab hb);have hzb:=hcb ws (qab hws) z (qab hz);obtain ⟨hs1,hs2⟩:=wayA_step hb hz hfr;have hpart:(yfq (A.set v (ytu r ws (x+1))))[v]?=some ((ytu r ws (x+1)).map i64):=by rw [zli,qdy om];rfl
   have hpl:((ytu r ws (x+1)).map i64).length=r.length:=by rw [qal,zyn hzl,hzl]
   have hat:((ytu r ws (x+1)).map i64)[x]?=some (i64 z):=by rw [qah,wayA_at hz];rfl
   (repeat (first|refine zy ?_|refine zkb tok rfl rfl rfl (ypp (f:=aG tbl.length v) rfl rfl rfl rfl) rfl rfl rfl ?_))
   refine ⟨rfl,?_⟩;refine yqf (t':=[(7,.lp 7 0),(6,i64 x),(4,.lp 4 0),(3,.lp 3 0),(1000004,.lp 4 0),(1000003,.lp 3 0),(2000003,.lp 3 0),(3000001,.ls 53 1 tbl.length)]) (h':=((7,some (.cells (yiv b)))::aG tbl.length v)++ybs 53 1 (yfq (A.set v (ytu r ws (x+1)))) []) ?_ zs (hsM (f:=(7,some (.cells (yiv b)))::(7,_)::aG tbl.length v) (f':=(7,some (.cells (yiv b)))::aG tbl.length v) zh rfl rfl rfl);have hcO:ycu (yac (((7,some (LObj.cells (yiv b)))::aG tbl.length v)++ybs 53 1 (yfq (A.set v (ytu r ws (x+1)))) []) 53)=some (yfi 53 1 0 (yfq (A.set v (ytu r ws (x+1))))++[]):=by rw [ybt (f:=(7,some (LObj.cells (yiv b)))::aG tbl.length v) rfl];exact ygd _
   have hcell:(yfi 53 1 0 (yfq (A.set v (ytu r ws (x+1))))++[])[(v:Int).toNat * 1]?=some (.ls (fam 53 v) 1 r.length):=by
    rw [show ((v:Int).toNat * 1)=v by simp,qbe,yel,hpart];simp only [qar,hpl,Nat.div_one,qba]
   have hrow:yac (((7,some (LObj.cells (yiv b)))::aG tbl.length v)++ybs 53 1 (yfq (A.set v (ytu r ws (x+1)))) []) (fam 53 v)=some (.vec ((ytu r ws (x+1)).map i64)):=ylw (f:=(7,some (LObj.cells (yiv b)))::aG tbl.length v) rfl om hpart;have hput:∀ y:Int,(ytu r ws (x+1)).set x y=ytu r ws x->yac ((fam 53 v,some (.vec (((ytu r ws (x+1)).map i64).set ((x:Int).toNat * 1) (i64 y))))::(((7,some (LObj.cells (yiv b)))::aG tbl.length v)++ybs 53 1 (yfq (A.set v (ytu r ws (x+1)))) []))=yac (((7,some (LObj.cells (yiv b)))::aG tbl.length v)++ybs 53 1 (yfq (A.set v (ytu r ws x))) []):=fun y hy=>by
    rw [show ((x:Int).toNat * 1)=x by simp,show ((ytu r ws (x+1)).map i64).set x (i64 y)=(ytu r ws x).map i64 by rw [<- hy,qeg]];refine (zlj (f:=(7,some (LObj.cells (yiv b)))::aG tbl.length v) rfl om hpart (by rw [hpl,qal,zyn hzl,hzl])).trans ?_;rw [zby,zby,qhp]
   (repeat (first|refine zy ?_|refine yaw tok rfl rfl (ybt (f:=(7,some (LObj.cells (yiv b)))::aG tbl.length v) rfl) rfl om om rfl rfl ?_|refine yft (r:=.ls (fam 53 v) 1 r.length) tok rfl rfl rfl hcO hcell rfl rfl ?_|refine yaw tok rfl rfl hrow rfl om om rfl rfl ?_|refine yft (r:=i64 z) (xs:=(ytu r ws (x+1)).map i64) tok rfl rfl rfl (by rw [hrow];rfl) (by rw [show ((x:Int).toNat * 1)=x by simp];exact hat) rfl rfl ?_))
   refine zj ?_ ?_ <;> intro q
   .have q:z < b.2:=by simpa using q
    rw [decide_eq_true q] at hs1;rw [if_pos q] at hs2
    (repeat (first|refine zy ?_|refine yaw tok rfl rfl (ybt (f:=(7,some (LObj.cells (yiv b)))::aG tbl.length v) rfl) rfl om om rfl rfl ?_|refine yft (r:=.ls (fam 53 v) 1 r.length) tok rfl rfl rfl hcO hcell rfl rfl ?_|refine yaw tok rfl rfl hrow rfl om om rfl rfl ?_|refine yft (r:=i64 z) (xs:=(ytu r ws (x+1)).map i64) tok rfl rfl rfl (by rw [hrow];rfl) (by rw [show ((x:Int).toNat * 1)=x by simp];exact hat) rfl rfl ?_))
    refine yjh tok rfl rfl rfl rfl rfl hrow (by rw [hpl];simp;omega) rfl (hput (z+1) hs2) rfl rfl ?_;refine zY ?_;have d1:=zng x hs1;rw [d1] at hst1 hst2;have d2:=znh v hst1;have hfin:(yov tbl c).2=A.set v (ytu r ws x):=by
     rw [d2];show ztw tbl c v=_;rw [<- hst2];rfl
    refine ykj ?_;refine zqh (k:=0) (hk:=fun _=>[]) (aG tbl.length v++ybs 53 1 (yfq (yov tbl c).2) []) zs ?_ ?_
    .rw [hfin];exact hsM (f:=(7,some (.cells (yiv b)))::aG tbl.length v) (f':=aG tbl.length v) zh rfl rfl rfl
    refine zqh (k:=0) (hk:=fun _=>[]) (ybs 53 1 (yfq (yov tbl c).2) []) zs (yyx rfl om rfl) ?_;exact .inl ⟨⟨_,rfl,yfa _,fun id o h=>h⟩,fun i hi=>by obtain rfl:=qaq.1 hi;exact ⟨_,rfl,rfl⟩⟩
   have q:¬ z < b.2:=by simpa using q
   rw [decide_eq_false q] at hs1;rw [if_neg q] at hs2
   (repeat (first|refine zy ?_|refine yaw tok rfl rfl (ybt (f:=(7,some (LObj.cells (yiv b)))::aG tbl.length v) rfl) rfl om om rfl rfl ?_|refine yft (r:=.ls (fam 53 v) 1 r.length) tok rfl rfl rfl hcO hcell rfl rfl ?_|refine yaw tok rfl rfl hrow rfl om om rfl rfl ?_))
   refine yjh tok rfl rfl rfl rfl rfl hrow (by rw [hpl];simp;omega) rfl (hput b.1 hs2) rfl rfl ?_;refine zY ?_;refine xdg zs ?_;rw [hxi,if_pos hs1];exact hsM (f:=(7,some (.cells (yiv b)))::aG tbl.length v) (f':=aG tbl.length v) zh rfl rfl rfl
  (repeat (first|with_reducible refine ydk ?_|with_reducible refine ycd ?_|refine ycy ?_))
  rw [yhn,qal,qbn];by_cases hfr:(yin (r.drop 0) (ws.drop 0)).1=false;case neg=>
   rw [if_neg hfr]
   refine xdg zs ?_
   rw [show tbl.length - (j+1)=v by omega,if_neg (by rw [hst1];exact hfr)]
   exact fun id o h=>h
  rw [if_pos hfr];refine xdg zs ?_;rw [show tbl.length - (j+1)=v by omega,if_pos (by rw [hst1];exact hfr),show ytu r ws 0=(yin r ws).2 by simp [ytu],hst2];exact hsM (f:=aG tbl.length v) (f':=aF tbl.length) zh rfl rfl rfl
 (repeat (first|with_reducible refine ydk ?_|with_reducible refine ycd ?_|refine ycy ?_))
 rw [yhn,qal,qbn];by_cases hfr:(yov (tbl.drop 0) (c.drop 0)).1=false;case neg=>rw [if_neg hfr];exact .inr rfl
 rw [if_pos hfr,show ztw tbl c 0=(yov tbl c).2 by simp [ztw]];exact .inl ⟨⟨_,rfl,yfa _,yyx rfl om rfl⟩,fun i hi=>by obtain rfl:=qaq.1 hi;exact ⟨_,rfl,rfl⟩⟩
end
section
open Go.RowKit
theorem ygm {b:Int × Int} {r:List (Int × Int)} {z:Int} {zs:List Int}:ycf (b::r) (z::zs)=true<->(zrn b z=true/\ycf r zs=true):=by
 simp only [ycf,qaj,qds,qeo,qac,beq_iff_eq,Nat.succ_inj];exact ⟨fun ⟨h1,h2,h3⟩=>⟨h2,h1,h3⟩,fun ⟨h1,h2,h3⟩=>⟨h2,h1,h3⟩⟩
theorem yhu {b:List (Int × Int)}:ybu (b::r) (z::zs)=true<->(ycf b z=true/\ybu r zs=true):=by
 simp only [ybu,qaj,qds,qeo,qac,beq_iff_eq,Nat.succ_inj];exact ⟨fun ⟨h1,h2,h3⟩=>⟨h2,h1,h3⟩,fun ⟨h1,h2,h3⟩=>⟨h2,h1,h3⟩⟩
theorem ysd {b:Int × Int} {z:Int}:zrn b z=true<->b.1<=z/\z<=b.2:=by simp [zrn]
theorem zdc:∀ {r:List (Int × Int)} {zs:List Int},(∀ q∈r,yua q)->ycf r zs=true->ycf r (yin r zs).2=true
 | [],zs,_,_=>by simp [yin,ycf]
 | b::r,[],_,h=>by simp [ycf] at h
 | b::r,z::zs,hq,h=>by
  obtain ⟨h1,h2⟩:=ygm.1 h;have ih:=zdc (fun q hq'=>hq q (qap _ hq')) h2;have hb:=(hq b (qbk ..)).2.1;have h1:=ysd.1 h1;simp only [yin];split
  .exact ygm.2 ⟨ysd.2 h1,ih⟩
  split
  .exact ygm.2 ⟨ysd.2 ⟨om,om⟩,ih⟩
  exact ygm.2 ⟨ysd.2 ⟨om,om⟩,ih⟩
theorem zep:∀ {r:List (Int × Int)},(∀ q∈r,yua q)->ycf r (r.map (·.1))=true
 | [],_=>by simp [ycf]
 | b::r,hq=>ygm.2 ⟨ysd.2 ⟨qgz _,(hq b (qbk ..)).2.1⟩,zep fun q hq'=>hq q (qap _ hq')⟩
theorem zkd:∀ {t:List (List (Int × Int))} {cs:List (List Int)},(∀ r∈t,∀ q∈r,yua q)->ybu t cs=true->ybu t (yov t cs).2=true
 | [],cs,_,_=>by simp [yov,ybu]
 | b::r,[],_,h=>by simp [ybu] at h
 | b::r,z::zs,hq,h=>by
  obtain ⟨h1,h2⟩:=yhu.1 h;have ih:=zkd (fun q hq'=>hq q (qap _ hq')) h2;simp only [yov];split
  .exact yhu.2 ⟨h1,ih⟩
  exact yhu.2 ⟨zdc (hq b (qbk ..)) h1,ih⟩
theorem zlf:∀ {t:List (List (Int × Int))},(∀ r∈t,∀ q∈r,yua q)->ybu t (yxq t)=true
 | [],_=>by simp [ybu,yxq]
 | b::r,hq=>yhu.2 ⟨zep (hq b (qbk ..)),zlf fun q hq'=>hq q (qap _ hq')⟩
def ybn (tbl:List (List (Int × Int))):Nat->List (List Int)
 | 0=>yxq tbl
 | k+1=>(yov tbl (ybn tbl k)).2
theorem yuf {p:ProgD} {g:GraphD} (hf:Fair p g) (h0:ycn p g=0):∀ k,CfgOk p g (ybn (yad p g) k)
 | 0=>⟨hf,yhv.2 ⟨h0,zlf fun r hr=>((ydf hf h0).2 r hr).2⟩⟩
 | k+1=>⟨hf,yhv.2 ⟨h0,zkd (fun r hr=>((ydf hf h0).2 r hr).2) (yuf hf h0 k).table⟩⟩
abbrev SpcD:=List (BitVec 32 × List ArcD)
variable {acc:SpcD}
def yth (p:ProgD) (g:GraphD) (kind:Int):Nat->Nat->Nat->Option SpcD
 | 0,_,_=>some []
 | m+1,k,T=>match ypu p g kind (ybn (yad p g) k) k with
  | none=>none
  | some x=>if 262144 < T+x.2.length then none else (yth p g kind m (k+1) (T+x.2.length)).map (x::·)
def zau:Option SpcD->AV
 | some l=>.tup [.agg [ynn (l.map (·.1)),.sl 1 (l.map fun x=>[yda x.2])],i64 0]
 | none=>.tup [.agg [ynn [],.sl 1 []],i64 3]
theorem zpc (p:ProgD) (g:GraphD) (hf:Fair p g) (h0:ycn p g=0):yot prog 68 [yhb p,yfm g] (fun _=>none) (.tup [.ls 19 1 (yad p g).length,i64 0]) (yac (ybs 19 1 (yfq (yxq (yad p g))) [])):=by
 have ht:=ydf hf h0;refine zdl tok Tryz.func68 rfl rfl ntmps68 Tryz.results68 rfl rfl ?_
 (repeat (first|refine zy ?_|refine zc (zks p g hf) ?_))
 refine zj ?_ ?_ <;> intro h
 .exact absurd h0 (by simpa using h)
 (repeat (first|with_reducible refine ydk ?_|with_reducible refine ycd ?_|refine ycy ?_));refine ynb ?_;refine ybi (lf:=lfT) rfl ?_
 (repeat (first|refine zo ?_|refine zc (yoq p g hf h0) ?_))
 (repeat (first|with_reducible refine ydk ?_|with_reducible refine ycd ?_|refine ycy ?_))
 refine yct 7 rfl rfl rfl rfl rfl ?_
 (repeat (first|refine zy ?_|refine zcx (build_con (yad p g) 122 [.dp [ydl (yad p g)] 0] (xjt (yad p g)) rfl rfl ht.1 (fun r hr=>(ht.2 r hr).1) (fun i j r hr hj=>least1_con (yad p g) i j r hr hj)) rfl rfl rfl rfl rfl rfl rfl rfl rfl rfl rfl rfl rfl ?_))
 refine ykj ?_;exact ⟨_,rfl,yfa _,fun id o h=>yyx (f:=[(7,none),(7,some (LObj.cells [ydl (yad p g)])),(7,some (LObj.cells [AV.v (Value.slice none 0 0)])),(3,some (LObj.cells [yah g.ids,yat g.ports])),(2,some (LObj.cells [ynt p.name,AV.sl 6 (List.map ybq p.vars),AV.sl 3 (List.map ybg p.rules)]))]) rfl om rfl id o (by rw [built_low];exact h)⟩
def zyx (n:Nat) (acc:SpcD):List AV:=(acc.map fun x=>ybd x.1)++List.replicate (n - acc.length) (ybd 0#32)
def zyu (n:Nat) (acc:SpcD):List AV:=(acc.map fun x=>yda x.2)++List.replicate (n - acc.length) yfj
theorem encS_len (h:acc.length<=n):(zyx n acc).length=n:=by simp [zyx];omega
theorem arcS_len (h:acc.length<=n):(zyu n acc).length=n:=by simp [zyu];omega
theorem encS_set (h:acc.length < n) (x:BitVec 32 × List ArcD):(zyx n acc).set acc.length (ybd x.1)=zyx n (acc++[x]):=by
 unfold zyx;rw [qbm _ _ sm];obtain ⟨m,hm⟩:∃ m,n - acc.length=m+1:=⟨n - acc.length - 1,om⟩;rw [qao,qhj,show n - (acc.length+1)=m by omega,hm];simp [qbo]
theorem arcS_set (h:acc.length < n) (x:BitVec 32 × List ArcD):(zyu n acc).set acc.length (yda x.2)=zyu n (acc++[x]):=by
 unfold zyu;rw [qbm _ _ sm];obtain ⟨m,hm⟩:∃ m,n - acc.length=m+1:=⟨n - acc.length - 1,om⟩;rw [qao,qhj,show n - (acc.length+1)=m by omega,hm];simp [qbo]
theorem zfs:∀ o,yar (zau o)=true
 | some l=>rfl
 | none=>rfl
def bF (n:Nat) (acc:SpcD):List (Nat × Option LObj):=[(11,some (.cells [.ls 46 1 n,.ls 48 1 n])),(46,some (.vec (zyx n acc))),(48,some (.vec (zyu n acc))),(6,some (.cells [yfj,yfj]))]
def ymh (acc:SpcD):Nat:=(acc.map fun x=>x.2.length).sum
theorem zoy (M:Nat):∀ (k:Nat) (rows:List (List AV)) (i:Nat),i∈(ypy M k rows).map (·.1)<->∃ j,k<=j/\j < k+rows.length/\i=fam M j
 | k,[],i=>by simp [ypy];omega
 | k,r::rs,i=>by
  simp only [ypy,qcl,qas,zoy M (k+1) rs i,qaj];constructor
  .rintro (rfl|⟨j,h1,h2,rfl⟩)
   .exact ⟨k,om,om,rfl⟩
   exact ⟨j,om,om,rfl⟩
  rintro ⟨j,h1,h2,rfl⟩;by_cases e:j=k
  .exact .inl (by rw [e])
  exact .inr ⟨j,om,om,rfl⟩
theorem zwd {M sz:Nat} {rows:List (List AV)} {extra:List AV}:i∈ycb (ybs M sz rows extra)<->i=M\/∃ j,j < rows.length/\i=fam M j:=by
 unfold ycb ybs;rw [qcl,qas,zoy];simp
theorem zwc {a b:List (Nat × Option LObj)}:i∈ycb (a++b)<->i∈ycb a\/i∈ycb b:=by simp [ycb]
theorem ysf {M sz:Nat} {R R':List (List AV)} (h:i∈ycb (ybs M sz R []++ybs M sz R' [])):i=M\/1000000<=i:=by
 rcases zwc.1 h with h|h <;> rcases zwd.1 h with h|⟨j,_,h⟩
 .exact .inl h
 .exact .inr (h ▸ ygf M j)
 .exact .inl h
 exact .inr (h ▸ ygf M j)
theorem ahead_bF (n:Nat) (acc:SpcD) (R R':List (List AV)):Ahead (bF n acc) (ybs 53 1 R []++ybs 53 1 R' []):=by
 refine ⟨fun i hi hk=>?_,fun j ob hj i hi=>?_⟩
 .have h:=ysf hi;simp only [ycb,bF,qcl,qew,qas,qdu,or_false] at hk;omega
 have h:=ysf hi;have h46:Nat.beq 46 i=false:=ycr om;have h48:Nat.beq 48 i=false:=ycr om;simp only [bF,yac] at hj
 repeat' split at hj
 all_goals first|(cases hj;done)|skip
 all_goals (cases hj;first|rfl|simp [yeb,ment.mentL,ment,h46,h48])
theorem zwx (R R':List (List AV)):∀ id o,yac (ybs 53 1 R' []) id=some o->ypg (ycb (ybs 53 1 R []++ybs 53 1 R' [])) o=true:=by
 intro id o h;rcases yoj h with rfl|⟨i,hi,rfl⟩
 .rw [yex] at h;cases h;have:yen.onlyL (ycb (ybs 53 1 R []++ybs 53 1 R' [])) (yfi 53 1 0 R'++[])=true:=by
   rw [qbe];exact yzb 0 R' fun i hi=>zwc.2 (.inr (zwd.2 (.inr ⟨i,om,rfl⟩)))
  cases hm:yfi 53 1 0 R'++[] with
  | nil=>rfl
  | cons x xs=>rw [hm] at this;exact this
 rw [ylv om] at h;cases hr:R'[i]? with
 | none=>rw [hr] at h;cases h
 | some r=>rw [hr] at h;cases h;rfl
theorem yko {h:Nat->Option LObj}:Frz h (.agg [yfj,yfj]) (.agg [ynn [],.sl 1 []]):=
 Frz.aggL rfl rfl fun i x y hx hy=>by
  match i with
  | 0=>simp at hx hy;subst hx hy;exact Frz.nil
  | 1=>simp at hx hy;subst hx hy;exact Frz.nil
  | i+2=>simp at hx
theorem zft (p:ProgD) (g:GraphD) (hf:Fair p g) (h0:ycn p g=0) {kind:Int} (hk:1<=kind/\kind<=4) (hn:yci (yad p g)=((n:Int),0)):Con prog 26 [yhb p,yfm g,i64 kind] (zau (yth p g kind n 0 0)):=by
 have hnb:(n:Int)<=32768:=by have:=yvm (yad p g);rw [hn] at this;exact this
 have hco:=mcount_con p g hf;rw [yhx,if_pos h0,hn] at hco;have ht:=ydf hf h0;have hlc:(yxq (yad p g)).length=(yad p g).length:=by simp [yxq]
 refine ydv tok Tryz.func26 rfl rfl ntmps26 Tryz.results26 rfl (zfs _) ?_
 (repeat (first|refine zwz ?_|refine zc (zhs kind hk) ?_|refine zc (newbuilder_con p g hf h0 kind n hn) ?_))
 have hz1:ykr n (yit [Value.int .u32 0])=zyx n []:=by
  rw [show yit [Value.int .u32 0]=[ybd 0#32] from rfl,zxi];simp [zyx]
 have hz2:ykr n (yit [Value.slice none 0 0])=zyu n []:=by
  rw [show yit [Value.slice none 0 0]=[yfj] from rfl,zxi];simp [zyu]
 refine yvc [(11,.lp 11 0),(10,ygn p g kind),(8,i64 n),(6,.lp 6 0),(4,.lp 4 0),(3,.lp 3 0)] [(11,some (.cells [.ls 46 1 n,.ls 48 1 n])),(46,some (.vec (ykr n (yit [Value.int .u32 0])))),(48,some (.vec (ykr n (yit [Value.slice none 0 0])))),(6,some (.cells (yit zhc.zero))),(4,some (.cells [yah g.ids,yat g.ports])),(3,some (.cells [ynt p.name,.sl 6 (p.vars.map ybq),.sl 3 (p.rules.map ybg)]))] ?_ ?_
 .have hlim:n<=4294967296/\4 * n<=281474976710656:=by constructor <;> omega
  have hlim2:n<=4294967296/\24 * n<=281474976710656:=by constructor <;> omega
  refine ybx (lf:=lf0) ysy rfl ?_
  repeat' (first
   | refine zo ?_
   | refine yqg tok rfl rfl rfl rfl (by first|exact hlim|exact hlim2) rfl rfl rfl rfl rfl ?_
   | exact mid zs (yaa rfl (yaa rfl (yaa rfl (yaa rfl (yaa rfl (yaa rfl yag))))))
   | exact trivial
   | refine ⟨⟨_,rfl,?_⟩,?_⟩
   | refine yau [0,1,4,6] (yab rfl (yab rfl (yab rfl (yab rfl yak)))) rfl dk ?_
   | refine yau [1,4,6] (yab rfl (yab rfl (yab rfl yak))) rfl dk ?_
   | refine yau [2,3,4,6] (yab rfl (yab rfl (yab rfl (yab rfl yak)))) rfl dk ?_
   | refine yau [3,4,6] (yab rfl (yab rfl (yab rfl yak))) rfl dk ?_
   | refine yau [4,6] (yab rfl (yab rfl yak)) rfl dk ?_
   | refine yau [5,6] (yab rfl (yab rfl yak)) rfl dk ?_
   | refine yaq [1,2,5] _ rfl dk sm ?_
   | refine yaq [0,3,5] _ rfl dk sm ?_
   | refine yaq [1,3,5] _ rfl dk sm ?_
   | refine yaq [0,2,5] _ rfl dk sm ?_
   | refine yaq [1,3] _ rfl dk sm ?_
   | refine yaq [2,5] _ rfl dk sm ?_
   | refine yaq [0,5] _ rfl dk sm ?_
   | refine yaq [0,3] _ rfl dk sm ?_
   | refine yaq [3,5] _ rfl dk sm ?_
   | refine yaq [0,2] _ rfl dk sm ?_
   | refine yaq [4,5] _ rfl dk sm ?_
   | refine yaq [1,5] _ rfl dk sm ?_
   | refine yaq [1,2] _ rfl dk sm ?_)
 rw [hz1,hz2]
 (repeat (first|refine zy ?_|refine zcx (zpc p g hf h0) rfl rfl rfl rfl rfl rfl rfl rfl rfl rfl rfl rfl rfl ?_))
 obtain ⟨tbl,htb⟩:∃ tbl,yad p g=tbl:=⟨_,rfl⟩;have hconf:=yuf hf h0;have hstc:∀ k,k<=32768->xfq prog 69 [ygn p g kind,yds (ybn (yad p g) k),i64 k] (xdv (ypu p g kind (ybn (yad p g) k) k)):=fun k hk'=>state_conN (hconf k) hk hn k hk';have hcl:∀ k,(ybn (yad p g) k).length=(yad p g).length:=fun k=>by rw [(hconf k).len];simp [yad]
 refine ycx (α:=Nat × SpcD) (fun q=>[(57,i64 q.1),(56,i64 n),(14,i64 (ymh q.2)),(12,.ls 53 1 (yad p g).length),(11,.lp 11 0),(10,ygn p g kind),(6,.lp 6 0)]) (fun q=>bF n q.2++ybs 53 1 (yfq (ybn (yad p g) q.1)) []) (fun q=>n - q.1) (fun q=>q.1<=n/\q.2.length=q.1/\ymh q.2<=262144/\yth p g kind n 0 0=(yth p g kind (n - q.1) q.1 (ymh q.2)).map (q.2++·)) (0,[]) ⟨sm,rfl,by simp [ymh],by simp [ymh]⟩ zs ?_ ?_
 .exact hsM (f:=[(11,some (LObj.cells [AV.ls 46 1 n,AV.ls 48 1 n])),(46,some (LObj.vec (zyx n []))),(48,some (LObj.vec (zyu n []))),(6,some (LObj.cells (yit zhc.zero))),(4,some (LObj.cells [yah g.ids,yat g.ports])),(3,some (LObj.cells [ynt p.name,AV.sl 6 (List.map ybq p.vars),AV.sl 3 (List.map ybg p.rules)]))]) (f':=bF n []) (yaa rfl (yaa rfl (yaa rfl (yaa rfl yag)))) rfl rfl rfl
 rintro ⟨k,acc⟩ ⟨hkn,hal,hT,hb⟩;simp only at hkn hal hT hb ⊢;refine zY ?_;refine zj ?_ ?_ <;> intro h1
 .simp at h1;have hfz:zmv (yac (bF n acc++ybs 53 1 (yfq (ybn (yad p g) k)) [])) [ygn p g kind,.ls 53 1 (yad p g).length,i64 k] [ygn p g kind,yds (ybn (yad p g) k),i64 k]:=zmv.cons Frz.pure (zmv.cons (yum (f:=bF n acc) (M:=53) rfl rfl rfl (hcl k).symm rfl) (zmv.cons Frz.pure zmv.nil));obtain ⟨m,hm⟩:∃ m,n - k=m+1:=⟨n - k - 1,om⟩;rw [hm] at hb;have hs:=hstc k om;cases hsv:ypu p g kind (ybn (yad p g) k) k with
  | none=>
   rw [hsv] at hs;have hb2:yth p g kind n 0 0=none:=by rw [hb,yth,hsv];rfl
   rw [hb2]
   (repeat (first|refine zy ?_|refine zrv [ygn p g kind,yds (ybn (yad p g) k),i64 k] hs rfl rfl hfz rfl rfl ?_))
   refine zr ?_;exact Frz.tup2 yko Frz.pure
  | some x=>
   obtain ⟨e,l⟩:=x;rw [hsv] at hs;have hll:l.length<=4294967296:=by
    unfold ypu at hsv;cases hcv:yyl g kind (ydn p g (ybn (yad p g) k)) with
    | none=>rw [hcv] at hsv;cases hsv
    | some l0=>
     rw [hcv] at hsv;simp only [qar,Option.some.injEq,Prod.mk.injEq] at hsv;rw [<- hsv.2,qal];exact zki hcv
   (repeat (first|refine zy ?_|refine zrv [ygn p g kind,yds (ybn (yad p g) k),i64 k] hs rfl rfl hfz rfl rfl ?_))
   refine zj ?_ ?_ <;> intro h2
   .have h2:262144 < ymh acc+l.length:=by simp at h2;omega
    have hb2:yth p g kind n 0 0=none:=by rw [hb,yth,hsv];simp only;rw [if_pos h2];rfl
    rw [hb2];refine zk ?_;exact Frz.tup2 yko Frz.pure
   have h2:¬ 262144 < ymh acc+l.length:=by simp at h2;omega
   have hb2:yth p g kind n 0 0=(yth p g kind m (k+1) (ymh acc+l.length)).map ((acc++[(e,l)])++·):=by
    rw [hb,yth,hsv];simp only;rw [if_neg h2,qfg];congr 1;funext z;simp
   have htot:ymh (acc++[(e,l)])=ymh acc+l.length:=by simp [ymh]
   have hl1:=encS_len (show acc.length<=n by omega);have hl2:=arcS_len (show acc.length<=n by omega);refine zW ?_;have e1:=encS_set (n:=n) (acc:=acc) om (e,l);have e2:=arcS_set (n:=n) (acc:=acc) om (e,l);rw [hal] at e1 e2;have hfin:∀ id o,yac (bF n (acc++[(e,l)])++ybs 53 1 (yfq (ybn (yad p g) k)) []) id=some o->yac ((48,some (.vec ((zyu n acc).set ((k:Int).toNat * 1) (yda l))))::(46,some (.vec ((zyx n acc).set ((k:Int).toNat * 1) (ybd e))))::(bF n acc++ybs 53 1 (yfq (ybn (yad p g) k)) [])) id=some o:=
    hsM (f:=(48,some (.vec ((zyu n acc).set ((k:Int).toNat * 1) (yda l))))::(46,some (.vec ((zyx n acc).set ((k:Int).toNat * 1) (ybd e))))::bF n acc) (f':=bF n (acc++[(e,l)])) (yaa rfl (yaa (by rw [show ((k:Int).toNat * 1)=k by simp,e1];rfl) (yaa (by rw [show ((k:Int).toNat * 1)=k by simp,e2];rfl) (yaa rfl yag)))) rfl rfl rfl
   refine zzv [(57,i64 k),(56,i64 n),(14,i64 ((ymh acc:Int)+(l.length:Int))),(12,.ls 53 1 (yad p g).length),(11,.lp 11 0),(10,ygn p g kind),(6,.lp 6 0)] (bF n (acc++[(e,l)])++ybs 53 1 (yfq (ybn (yad p g) k)) []) ?_ fun s2 hs2=>ynu ?_ hs2
   focus
    refine ybx (lf:=lf0) ysy rfl ?_
    refine yee [0,1,2,6,8] 7 (yab rfl (yab rfl (yab rfl (yab rfl (yab rfl yak))))) rfl dk ?_
    repeat' (first
     | refine zo ?_
     | refine yaw tok rfl rfl rfl rfl om om rfl rfl ?_
     | refine ykk tok rfl rfl rfl rfl rfl rfl (by first|(rw [hl1];simp;omega)|(rw [hl2];simp;omega)) rfl rfl rfl ?_
     | exact ⟨rfl,ybo zs,hfin⟩
     | exact trivial
     | refine ⟨⟨_,rfl,?_⟩,?_⟩
     | refine yau [3,4,10,11] (yab rfl (yab rfl (yab rfl (yab rfl yak)))) rfl dk ?_
     | refine yaq [3,9] _ rfl dk sm ?_
     | refine yau [3,4,7,10,11] (yab rfl (yab rfl (yab rfl (yab rfl (yab rfl yak))))) rfl dk ?_
     | refine yaq [3,7,9] _ rfl dk sm ?_
     | refine yau [3,4,5,10,11] (yab rfl (yab rfl (yab rfl (yab rfl (yab rfl yak))))) rfl dk ?_
     | refine yaq [3,5,9] _ rfl dk sm ?_
     | refine yau [3,4,5,7,10,11] (yab rfl (yab rfl (yab rfl (yab rfl (yab rfl (yab rfl yak)))))) rfl dk ?_
     | refine yaq [3,5,7,9] _ rfl dk sm ?_
     | refine yau [4,10,11] (yab rfl (yab rfl (yab rfl yak))) rfl dk ?_
     | refine yaq [4,9] _ rfl dk sm ?_
     | refine yau [4,7,10,11] (yab rfl (yab rfl (yab rfl (yab rfl yak)))) rfl dk ?_
     | refine yaq [4,7,9] _ rfl dk sm ?_
     | refine yau [4,5,10,11] (yab rfl (yab rfl (yab rfl (yab rfl yak)))) rfl dk ?_
     | refine yaq [4,5,9] _ rfl dk sm ?_
     | refine yau [4,5,7,10,11] (yab rfl (yab rfl (yab rfl (yab rfl (yab rfl yak))))) rfl dk ?_
     | refine yaq [4,5,7,9] _ rfl dk sm ?_
     | refine yau [10,11] (yab rfl (yab rfl yak)) rfl dk ?_
     | refine yau [9,10,11] (yab rfl (yab rfl (yab rfl yak))) rfl dk ?_
     | refine yau [7,10,11] (yab rfl (yab rfl (yab rfl yak))) rfl dk ?_
     | refine yaq [7,9] _ rfl dk sm ?_
     | refine yau [5,10,11] (yab rfl (yab rfl (yab rfl yak))) rfl dk ?_
     | refine yaq [5,9] _ rfl dk sm ?_
     | refine yau [5,7,10,11] (yab rfl (yab rfl (yab rfl (yab rfl yak)))) rfl dk ?_
     | refine yaq [5,7,9] _ rfl dk sm ?_)
   have hadv:=zaa (yad p g) (ybn (yad p g) k) ht (hcl k) (fun v r zs hr hz=>by
    obtain ⟨b,hb',hs'⟩:=(hconf k).row hz
    rw [hr] at hb'
    cases hb'
    exact (ycg hs').1) (hconf k).bd
   (repeat (first|refine zy ?_|refine L_callG [1] hadv rfl rfl rfl (ahead_bF _ _ _ _) (zwx _ _) (t':=[(57,i64 k),(56,i64 n),(14,i64 ((ymh acc:Int)+(l.length:Int))),(12,.ls 53 1 (yad p g).length),(11,.lp 11 0),(10,ygn p g kind),(6,.lp 6 0)]) ?_ rfl rfl rfl ?_))
   .intro x y hxy;refine ⟨ybo zs x y hxy,?_⟩;simp only [yaj] at hxy
    repeat' split at hxy
    all_goals first|(cases hxy;done)|skip
    all_goals cases hxy
    all_goals first
     | exact .inr ⟨1,sm,53,1,_,om,by rw [yex];rfl,rfl,rfl⟩
     | exact .inl fun i hi=>rfl
     | exact .inl fun i hi=>ycr (by have:=ysf hi;omega)
   refine zY ?_;have e14:((ymh (acc++[(e,l)]):Nat):Int)=(ymh acc:Int)+(l.length:Int):=by rw [htot];omega
   refine ylb (k+1,acc++[(e,l)]) ⟨by simp only;omega,by simp [hal],by simp only;omega,?_⟩ (by simp only;omega) ?_ (fun id o h=>h)
   .simp only;rw [show n - (k+1)=m by omega,htot];exact hb2
   simp only;rw [e14];exact zs
 simp at h1;obtain rfl:k=n:=by omega
 rw [qbn] at hb;have hb3:yth p g kind k 0 0=some acc:=by rw [hb];simp [yth]
 rw [hb3]
 (repeat (first|with_reducible refine ydk ?_|with_reducible refine ycd ?_|refine ycy ?_))
 refine yqf (t':=[(11,.lp 11 0),(6,.lp 6 0)]) (h':=[(11,some (.cells [.ls 46 1 k,.ls 48 1 k])),(46,some (.vec (acc.map fun x=>ybd x.1))),(48,some (.vec (acc.map fun x=>yda x.2))),(6,some (.cells [yfj,yfj]))]) ?_ zs (fun id o h=>yew (by
  have e1:zyx k acc=acc.map fun x=>ybd x.1:=by simp [zyx,hal]
  have e2:zyu k acc=acc.map fun x=>yda x.2:=by simp [zyu,hal]
  rw [bF,e1,e2];exact h))
 refine yeg 11 0 (acc.map fun x=>[ybd x.1]) rfl rfl rfl (by simpa using hal) (fun row hr=>by obtain ⟨y,_,rfl⟩:=qag.1 hr;rfl) (ycz _) rfl rfl rfl rfl ?_;refine yeg 11 1 (acc.map fun x=>[yda x.2]) rfl rfl rfl (by simpa using hal) (fun row hr=>by obtain ⟨y,_,rfl⟩:=qag.1 hr;rfl) (ycz _) rfl rfl rfl rfl ?_;refine zk ?_;have e3:zau (some acc)=.tup [.agg [.sl 1 (acc.map fun x=>[ybd x.1]),.sl 1 (acc.map fun x=>[yda x.2])],i64 0]:=by simp [zau,ynn,Function.comp_def]
 rw [e3];exact Frz.pure
end
section
open Go.RowKit
theorem rfact_con (g:GraphD) (hg:ych g=true) (c:List (List Int)) (v:Nat) (ls:List Lk) (hls:g.ports[v]?=some ls) (op port a:Int) (hop:6<=op/\op<=17/\op≠12) (hp:12<=op->0<=port/\port < ls.length) :
  Con prog 251 [yfm g,i64 op,i64 v,i64 port] (i64 ((⟨g,c,v⟩:Scn).leaf port (op,a))):=by
 have hv:=yba hg;have hvl:=(qaa.1 hls).1;have hlb:=hv.2.2.2.2.2.1 v ls hls;have hll:=ydb hvl hlb;have hids:=hv.2.2.1;obtain ⟨id,hid⟩:=ybr (show v < g.ids.length by omega);have hd:(⟨g,c,v⟩:Scn).deg=ls.length:=by simp [Scn.deg,hls]
 refine ze Tryz.func251 ntmps251 Tryz.results251 ?_;have:op=6\/op=7\/op=8\/op=9\/op=10\/op=11\/12 < op:=by omega
 rcases this with rfl|rfl|rfl|rfl|rfl|rfl|h12
 .refine zY ?_;refine zr ?_;exact yaf (by simp [Scn.leaf,hids])
 ·(repeat (first|refine zy ?_|refine zc (zak g om) ?_))
  refine zr ?_;exact yaf rfl
 .refine zY ?_;refine zr ?_;exact yaf (by simp [Scn.leaf,hid])
 .refine zY ?_;refine zr ?_;exact yaf (by simp [Scn.leaf,hd])
 ·(repeat (first|refine zy ?_|refine zc (ydd _) ?_))
  refine zr ?_;exact yaf (by simp only [Scn.leaf];show ypv ((v:Int) == 0)=ypv (v == 0);congr 1;rw [qbq,beq_iff_eq,beq_iff_eq];omega)
 .refine zY ?_;refine zr ?_;exact yaf rfl
 obtain ⟨hp0,hp1⟩:=hp om;obtain ⟨l,hl⟩:=ybr (show port.toNat < ls.length by omega);have hl1:=(ybp _ _ _).1 (((yck _ _ _).1 hlb).1 l (qab hl));have hlk:(⟨g,c,v⟩:Scn).link port=l:=by simp [Scn.link,hls,hl]
 obtain ⟨ls',hls'⟩:=ybr (show l.1.toNat < g.ports.length by omega);obtain ⟨id',hid'⟩:=ybr (show l.1.toNat < g.ids.length by omega);have hll':=ydb (show l.1.toNat < g.ports.length by omega) (hv.2.2.2.2.2.1 _ ls' hls');have:op=13\/op=14\/op=15\/op=16\/op=17:=by omega
 rcases this with rfl|rfl|rfl|rfl|rfl
 .refine zY ?_;refine zr ?_;exact yaf (by simp [Scn.leaf,hlk,hid'])
 .refine zY ?_;refine zr ?_;exact yaf (by simp [Scn.leaf,hlk,hls'])
 ·(repeat (first|refine zy ?_|refine zc (ydd _) ?_))
  refine zr ?_;exact yaf (by simp [Scn.leaf,hlk])
 .refine zY ?_;refine zr ?_;exact yaf (by simp [Scn.leaf,hlk])
 (repeat (first|refine zy ?_|refine zc (zxb g l.1 v ls' hl1.1 hls' om) ?_))
 refine zr ?_;exact yaf (by simp [Scn.leaf,hlk,hls'])
theorem rleaf_con (g:GraphD) (hg:ych g=true) (c:List (List Int)) (v:Nat) (ls:List Lk) (hls:g.ports[v]?=some ls) (t:Tm) (port:Int) (hop:1<=t.1/\t.1<=17) (hp:12<=t.1->0<=port/\port < ls.length)
  (hc:c.length=g.ports.length) (hx:t.1=5\/t.1=12->0<=t.2/\∀ r∈c,t.2 < r.length) :
  Con prog 224 [yfm g,yds c,i64 v,i64 port,.agg [i64 t.1,i64 t.2]] (i64 ((⟨g,c,v⟩:Scn).leaf port t)):=by
 obtain ⟨op,a⟩:=t;simp only at hop hp hx ⊢;have hv:=yba hg;have hvl:=(qaa.1 hls).1;have hlb:=hv.2.2.2.2.2.1 v ls hls;have hll:=ydb hvl hlb;obtain ⟨r,hr⟩:=ybr (show v < c.length by omega);refine ze Tryz.func224 ntmps224 Tryz.results224 ?_;have:op=1\/op=2\/op=3\/op=4\/op=5\/op=12\/(6<=op/\op<=17/\op≠12):=by omega
 rcases this with rfl|rfl|rfl|rfl|rfl|rfl|h12
 .refine zY ?_;refine zr ?_;exact yaf rfl
 .refine zY ?_;refine zr ?_;exact yaf rfl
 .refine zY ?_;refine zr ?_;exact yaf rfl
 .refine zY ?_;refine zr ?_;exact yaf rfl
 .obtain ⟨hx0,hx1⟩:=hx (.inl rfl);have hx2:=hx1 r (qab hr);obtain ⟨z,hz⟩:=ybr (show a.toNat < r.length by omega);refine zY ?_;refine zr ?_;exact yaf (by simp [Scn.leaf,Scn.get,hr,hz])
 .obtain ⟨hp0,hp1⟩:=hp om;obtain ⟨l,hl⟩:=ybr (show port.toNat < ls.length by omega);have hl1:=(ybp _ _ _).1 (((yck _ _ _).1 hlb).1 l (qab hl));have hlk:(⟨g,c,v⟩:Scn).link port=l:=by simp [Scn.link,hls,hl]
  obtain ⟨r',hr'⟩:=ybr (show l.1.toNat < c.length by omega);obtain ⟨hx0,hx1⟩:=hx (.inr rfl);have hx2:=hx1 r' (qab hr');obtain ⟨z,hz⟩:=ybr (show a.toNat < r'.length by omega);refine zY ?_;refine zr ?_;exact yaf (by simp [Scn.leaf,Scn.get,hlk,hr',hz])
 have h1:¬ op=1:=by omega
 have h2:¬ op=2:=by omega
 have h3:¬ op=3:=by omega
 have h4:¬ op=4:=by omega
 have h5:¬ op=5:=by omega
 refine zY ?_;refine zj ?_ ?_ <;> intro q1
 .exact absurd (by simpa using q1) h1
 refine zY ?_;refine zj ?_ ?_ <;> intro q2
 .exact absurd (by simpa using q2) h2
 refine zY ?_;refine zj ?_ ?_ <;> intro q3
 .exact absurd (by simpa using q3) h3
 refine zY ?_;refine zj ?_ ?_ <;> intro q4
 .exact absurd (by simpa using q4) h4
 refine zY ?_;refine zj ?_ ?_ <;> intro q5
 .exact absurd (by simpa using q5) h5
 refine zY ?_;refine zj ?_ ?_ <;> intro q6
 .exact absurd (by simpa using q6) h12.2.2
 (repeat (first|refine zy ?_|refine zc (rfact_con g hg c v ls hls op port a h12 hp) ?_))
 refine zr ?_;exact yaf rfl
end
end Go.Proofs.YtgpodcjhgdionaaGreatDoor
