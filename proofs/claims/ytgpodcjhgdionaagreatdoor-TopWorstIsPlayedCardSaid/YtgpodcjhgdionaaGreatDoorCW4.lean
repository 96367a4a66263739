/- Part 4 of the texts under TopWorstIsPlayed. -/
import Derived.Maps.RangeRun
import Derived.Maps.Keyed
import Derived.Carry
import GoSem.Core.Utf8
import Derived.Laws.BytesArg
import Derived.Test.YtgpodcjhgdionaaGreatDoorCW3
set_option linter.unusedVariables false
namespace Go.Proofs.YtgpodcjhgdionaaGreatDoor
open Go.Proofs.Tryz
variable{x y:Operand}{P:Program}{w:World}{ok0:Nat->Prop}{s:SS}{key v:Value}{lv:Live}{T:Nat->Option Ty}{Q:Exit->SS->Prop}{c:Code}{kl:Lit}{args:List AV}{N:Nat}{B:Bse}{a:Act}{f:FuncId}
section
open Go.RowKit Go.Maps
variable{z:Value}
def ztc(P:Program)(N:Nat)(c:Code)(Q:Exit->SS->Prop)(s:SS):Prop:=
 ∀ (B:Bse) (ok0:Nat->Prop) (lv:Live) (a:Act) (w:World),Sim B ok0 N s lv a w->∀ (b:Frame) (k:List Item) (cs:List Frame),b.roundOf=(FW B.rd).round->(FW B.rd).fn b.fn->(FW B.rd).room (cs.length+1+0) ->
  ∃ e a' w',(∃ s' lv',Q e s'/\Sim B ok0 N s' lv' a' w')/\ArrivesIn (Machine.fenced P (FW B.rd)) P (lone (b.atR a (.code c::.inLoop c::k)) cs w) b k cs e a' w'
def RndL(P:Program)(N:Nat)(c:Code)(Q:Exit->SS->Prop):Exit->SS->Prop
 | .normal,s=>ztc P N c Q s
 | e,s=>Q e s
theorem xbd(h:ztc P N c Q s):A P N (.loop c) Q s:=by
 intro B ok0 lv a w hs b k cs hro hfn hroom;obtain⟨e,a',w',hq,harr⟩:=h B ok0 lv a w hs b k cs hro hfn hroom;exact⟨e,a',w',hq,.of_steps (.one (fenced_calm hfn hroom rfl) stepR_loop) harr⟩
theorem yrq(h:A P N c (RndL P N c Q) s):ztc P N c Q s:=by
 intro B ok0 lv a w hs b k cs hro hfn hroom;obtain⟨e,a₁,w₁,⟨s₁,lv₁,hq,hs₁⟩,harr⟩:=h B ok0 lv a w hs b (.inLoop c::k) cs hro hfn hroom;cases e with
 | normal=>
  obtain⟨e₂,a₂,w₂,hq₂,harr₂⟩:=hq B ok0 lv₁ a₁ w₁ hs₁ b k cs hro hfn hroom;exact⟨e₂,a₂,w₂,hq₂,.of_steps (StepsIn.trans harr (.one (fenced_calm hfn hroom rfl) stepR_inLoop)) harr₂⟩
 | exit id=>exact⟨_,a₁,w₁,⟨s₁,lv₁,hq,hs₁⟩,.pass (x:=.inLoop c) rfl (fun _ _=>.inl sm) harr⟩
 | goto l=>exact⟨_,a₁,w₁,⟨s₁,lv₁,hq,hs₁⟩,.pass (x:=.inLoop c) rfl (fun _ _=>.inl sm) harr⟩
 | ret=>exact⟨_,a₁,w₁,⟨s₁,lv₁,hq,hs₁⟩,.pass (x:=.inLoop c) rfl (fun _ _=>.inl sm) harr⟩
 | panic ch=>exact⟨_,a₁,w₁,⟨s₁,lv₁,hq,hs₁⟩,.pass (x:=.inLoop c) rfl (fun _ _=>.inl sm) harr⟩
 | outgrown=>exact⟨_,a₁,w₁,⟨s₁,lv₁,hq,hs₁⟩,.pass (x:=.inLoop c) rfl (fun _ _=>.inl sm) harr⟩
theorem zcx{t t':List (Nat × AV)}{h h':List (Nat × Option LObj)}(k:ztc P N c Q (S t' h'))(h1:zap t t')(h2:yxr h h'):ztc P N c Q (S t h):=by
 intro B ok0 lv a w hs b kk cs hro hfn hroom;obtain⟨lv',hs'⟩:=hs.weak (s':=S t' h') ⟨ycd h1,yah h2⟩;exact k B ok0 lv' a w hs' b kk cs hro hfn hroom
section
variable{P:Program}{T:Nat->Option Ty}{N:Nat}{ops:Array Oper}{lf:Oper->Bool}{Q:SS->Prop}{t:List (Nat × AV)}{h:List (Nat × Option LObj)}{rest:List Oper}{d:Nat}{op:Op}{ty:TypeId}{pos:String}{af:Array Edge}{gd:Option (Nat × Bool)}{r:AV}
theorem yiz(hT:TOK P T){ti n es sz:Nat}{ea ag:Bool}{z:List Value}{x y:Operand}{k:IntKind}{i:Int}{id off:Nat}{xs:List AV}(hk:T ti=some ⟨.arr n es ea,sz,ag,z⟩)(hx:evF (yak t) x=some (.lp id off))(hh:ycw (yac h id)=some xs)(hne:xs≠[])(hy:evF (yak t) y=some (.v (.int k i)))(h0:0<=i)(h1:i < n)
  (hw:yam ops (yak t) ⟨some d,.indexAddr ti x y,ty,pos,af,gd⟩=some true) (hd:Nat.blt d N=true) (k:Lex P N ops lf Q rest (S ((d,.lp id (off+i.toNat * es))::t) h)):Lex P N ops lf Q (⟨some d,.indexAddr ti x y,ty,pos,af,gd⟩::rest) (S t h):=
 ycm (yoj (hT _ _ hk).2.2 hx hh (.inl hne) hy h0 h1) hw hd k
theorem zsw{Q:Exit->SS->Prop}(id:Nat){xs:List AV}(ys:List AV)(hx:yac h id=some (.cells xs))(he:xs=ys)(hp:∀ y∈ys,yas y=true)(k:A P N c Q (S t ((id,some (.vec ys))::h))):A P N c Q (S t h):=by
 subst he;intro B ok0 lv a w hs;refine k B ok0 lv a w ⟨⟨hs.inv.base,hs.inv.ok0lt,fun j hj=>?_,hs.inv.inj,fun j x hj=>?_⟩,hs.size,hs.frame,hs.defers,hs.big,fun j b ws hN hj hc hb=>?_⟩
 .refine hs.inv.dom j ?_;simp only[S,yac]at hj ⊢;split at hj
  .cases hj
  exact hj
 .simp only[S,yac]at hj;split at hj
  .rename_i hb;cases hj;have e:=qaf hb;subst e;obtain⟨b,n,h1,h2⟩:=hs.inv.obj j _ hx;refine⟨b,n,h1,?_⟩;cases b with
   | none=>simp[yge]at h2
   | some b=>exact⟨h2.1,h2.2.1,h2.2.2,hp⟩
  exact hs.inv.obj j x hj
 simp only[S,yac]at hj;split at hj
 .cases hj;cases hc
 exact hs.pin j b ws hN hj hc hb
theorem zfu{b:Nat}{o:Obj}(hb:b < w.heap.size):(ChangeMaps.setBlock w b o).heap[b]?=some o:=by
 simp[ChangeMaps.setBlock,hb]
theorem yto{b g:Nat}{o:Obj}(hg:g≠b):(ChangeMaps.setBlock w b o).heap[g]?=w.heap[g]?:=by
 simp[ChangeMaps.setBlock,Ne.symm hg]
theorem makeMap_loud{o:Oper}{ti:Nat}{s:SS}(ho:o.op=.makeMap ti none)(hd:o.dst=some d)(hdN:d < N)(id:Nat)(hf:ymi s id):ybp P N o s (·=⟨yee s.t (some d) (.mp id),yei s.h id (some (.map []))⟩):=by
 intro B ok0 lv a w hs Q;have hrun:(execOp a.eval o).run P w=.ok (.value (.map (some w.heap.size))) (w.alloc (.map #[] 0)):=by
  simp[execOp,ho,run_makeMap]
 unfold Oper.wp;rw[hrun];have hnew:=hs.newBlock (ob:=.map []) (n:=0) hf (ydw w (.map #[] 0)) sm rfl (fun h=>by cases h) (fun ok' lv' g1 g2=>⟨#[],0,ydr w _,sm,sm,sm⟩);simp only[Oper.upon,hd];exact⟨_,_,rfl,hnew.putOnly hdN (.mp _ rfl fun b n hb=>by simp only[yke,if_true,Option.some.injEq,Prod.mk.injEq]at hb;rw[hb.1])⟩
theorem yuy{ti:Nat}(h1:ydl d t=true)(h2:ybs d h=true)(hl:lf ⟨some d,.makeMap ti none,ty,pos,af,gd⟩=true)(hw:yam ops (yak t) ⟨some d,.makeMap ti none,ty,pos,af,gd⟩=some true)(hd:Nat.blt d N=true)
  (k:Lex P N ops lf Q rest (S ((d,.mp d)::t) ((d,some (.map []))::h))):Lex P N ops lf Q (⟨some d,.makeMap ti none,ty,pos,af,gd⟩::rest) (S t h):=
 yef hl hw (by rw[<- ytz];exact makeMap_loud rfl rfl (by simpa using hd) d (ygc h1 h2)) k
inductive Found (z:Value) (es:List (Value × Value)) (key:Value):Value->Bool->Prop
 | hit {v:Value} (h1:∃ e∈es,e.1=key) (h2:∀ e∈es,e.1=key->e.2=v):Found z es key v true
 | miss (h:∀ e∈es,e.1≠key):Found z es key z false
theorem zjb{b ti kt et:Nat}{es:List (Value × Value)}{okb cm:Bool}(hm:xim w b es)(ht:P.underlying ti=some (.map kt et))(K:Keyed P kt)(hks:∀ e∈es,∃ l,keyOf P kt e.1=some l)(hkey:keyOf P kt key=some kl)(hz:(zeroValue et).run P w=.ok z w)(hf:Found z es key v okb):
  (Instr.lookup ti (.map (some b)) key cm).run P w=.ok (if cm then .tuple #[v,.bool okb]else v) w:=by
 obtain⟨en,clock,h1,h2,h3,h4⟩:=hm;have hks':∀ e∈en.toList,∃ l,keyOf P kt e.key=some l:=fun e he=>hks (e.key,e.val) (by rw[<- h2];exact qde (f:=fun e:MapEntry=>(e.key,e.val)) he);have hc:=K.check w en.isEmpty hkey;have hfind:=K.find w hkey en.toList hks';have main:∀ (o:Option (Nat × Value)),(Instr.findKey kt key en.toList).run P w=.ok o w->((match o with|some (_,x)=>(x,true)|none=>(z,false))=(v,okb))->(Instr.lookup ti (.map (some b)) key cm).run P w=.ok (if cm then .tuple #[v,.bool okb]else v) w:=by
  intro o ho he;have hg:(getObj b).run P w=.ok (.map en clock) w:=by simp[getObj,Sem.run,h1]
  simp only[Instr.lookup,Sem.run_bind,run_underlying ht,Result.andThen_ok,hg,Sem.run_pure,hc,ho];cases o with
  | none=>simp only[Prod.mk.injEq]at he;obtain⟨rfl,rfl⟩:=he;simp only[Sem.run_bind,hz,Result.andThen_ok,Sem.run_pure]
  | some p=>simp only[Prod.mk.injEq]at he;obtain⟨rfl,rfl⟩:=he;simp
 rcases hfind with⟨g1,g2⟩|⟨j,e,g1,g2,g3⟩
 .refine main none g1 ?_;cases hf with
  | hit q1 q2=>
   obtain⟨p,hp,hpk⟩:=q1;rw[<- h2]at hp;obtain⟨e,he,rfl⟩:=qag.1 hp;exact absurd hpk (g2 e he)
  | miss q=>rfl
 refine main (some (j,e.val)) g1 ?_;have hmem:(e.key,e.val)∈es:=by rw[<- h2];exact qde (f:=fun e:MapEntry=>(e.key,e.val)) (qab g2)
 cases hf with
 | hit q1 q2=>rw[<- q2 _ hmem g3]
 | miss q=>exact absurd g3 (q _ hmem)
def xdb(cm:Bool)(v:Value)(okb:Bool):AV:=if cm then .tup [.v v,.v (.bool okb)]else .v v
theorem zqi{ok:Nat->Prop}(cm:Bool)(v:Value)(okb:Bool):Rel ok w lv (xdb cm v okb) (if cm then .tuple #[v,.bool okb]else v):=by
 cases cm
 .exact .v v
 refine .tup [v,.bool okb] rfl fun i c u hc hu=>?_
 match i with
 | 0=>simp at hc hu;subst hc hu;exact .v _
 | 1=>simp at hc hu;subst hc hu;exact .v _
 | i+2=>simp at hc
theorem yield_lookup_mp{ρ:Operand->Option AV}{hp:Nat->Option LObj}{ti kt et id:Nat}{yv:AV}{es:List (Value × Value)}{okb cm:Bool}(ht:P.underlying ti=some (.map kt et))(K:Keyed P kt)(hx:ρ x=some (.mp id))(hid:hp id=some (.map es))(hy:ρ y=some yv)(hyk:toV yv=some key)(hks:∀ e∈es,∃ l,keyOf P kt e.1=some l)(hkey:keyOf P kt key=some kl)(hz:∀ w,(zeroValue et).run P w=.ok z w)(hf:Found z es key v okb):ybu P hp ρ (.lookup ti x y cm) ty (xdb cm v okb):=
 yay fun B ok0 lv w a o ho hty hi hops=>by
  have hr:=hops x _ (by simp[Op.operands]) hx;have hk:=yzk hyk (hops y _ (by simp[Op.operands]) hy);obtain⟨b,n,hb,hown⟩:=hi.obj id _ hid;generalize hv:a.eval x=u at hr;cases hr with
  | mp _ _ hmp=>
   cases b with
   | none=>simp[yge]at hown
   | some b=>
    obtain rfl:=hmp b n hb;refine⟨_,?_,zqi cm v okb⟩;simp[execOp,ho,hv,hk,zjb (cm:=cm) hown.2.2 ht K hks hkey (hz w) hf]
theorem yield_lookup_mv{ρ:Operand->Option AV}{hp:Nat->Option LObj}{ti kt et:Nat}{yv:AV}{es:List (Value × Value)}{okb cm:Bool}(ht:P.underlying ti=some (.map kt et))(K:Keyed P kt)(hx:ρ x=some (.mv es))(hy:ρ y=some yv)(hyk:toV yv=some key)(hks:∀ e∈es,∃ l,keyOf P kt e.1=some l)(hkey:keyOf P kt key=some kl)(hz:∀ w,(zeroValue et).run P w=.ok z w)(hf:Found z es key v okb):ybu P hp ρ (.lookup ti x y cm) ty (xdb cm v okb):=
 yay fun B ok0 lv w a o ho hty hi hops=>by
  have hr:=hops x _ (by simp[Op.operands]) hx;have hk:=yzk hyk (hops y _ (by simp[Op.operands]) hy);generalize hv:a.eval x=u at hr;cases hr with
  | mv b hg hm=>
   refine⟨_,?_,zqi cm v okb⟩;simp[execOp,ho,hv,hk,zjb (cm:=cm) hm ht K hks hkey (hz w) hf]
theorem ylk{ti kt et id:Nat}{yv:AV}{es:List (Value × Value)}{okb cm:Bool}(ht:P.underlying ti=some (.map kt et))(K:Keyed P kt)(hx:evF (yak t) x=some (.mp id))(hid:yac h id=some (.map es))(hy:evF (yak t) y=some yv)(hyk:toV yv=some key)(hks:∀ e∈es,∃ l,keyOf P kt e.1=some l)(hkey:keyOf P kt key=some kl)(hz:∀ w,(zeroValue et).run P w=.ok z w)(hf:Found z es key v okb)(hw:yam ops (yak t) ⟨some d,.lookup ti x y cm,ty,pos,af,gd⟩=some true)(hd:Nat.blt d N=true)(k:Lex P N ops lf Q rest (S ((d,xdb cm v okb)::t) h)):Lex P N ops lf Q (⟨some d,.lookup ti x y cm,ty,pos,af,gd⟩::rest) (S t h):=ycm (yield_lookup_mp ht K hx hid hy hyk hks hkey hz hf) hw hd k
theorem L_lookup_mv{ti kt et:Nat}{yv:AV}{es:List (Value × Value)}{okb cm:Bool}(ht:P.underlying ti=some (.map kt et))(K:Keyed P kt)(hx:evF (yak t) x=some (.mv es))(hy:evF (yak t) y=some yv)(hyk:toV yv=some key)(hks:∀ e∈es,∃ l,keyOf P kt e.1=some l)(hkey:keyOf P kt key=some kl)(hz:∀ w,(zeroValue et).run P w=.ok z w)(hf:Found z es key v okb)(hw:yam ops (yak t) ⟨some d,.lookup ti x y cm,ty,pos,af,gd⟩=some true)(hd:Nat.blt d N=true)(k:Lex P N ops lf Q rest (S ((d,xdb cm v okb)::t) h)):Lex P N ops lf Q (⟨some d,.lookup ti x y cm,ty,pos,af,gd⟩::rest) (S t h):=ycm (yield_lookup_mv ht K hx hy hyk hks hkey hz hf) hw hd k
theorem update_loud{o:Oper}{ti kt et id:Nat}{v:Operand}{yv vv:AV}{es:List (Value × Value)}{val:Value}{s:SS}(ho:o.op=.mapUpdate ti x y v)(hd:o.dst=none)(ht:P.underlying ti=some (.map kt et))(K:Keyed P kt)(hx:evF s.t x=some (.mp id))(hid:s.h id=some (.map es))(hy:evF s.t y=some yv)(hyk:toV yv=some key)(hvv:evF s.t v=some vv)(hvk:toV vv=some val)(hks:∀ e∈es,∃ l,keyOf P kt e.1=some l)(hkey:keyOf P kt key=some kl)(hnew:∀ e∈es,e.1≠key):ybp P N o s (·=⟨s.t,yei s.h id (some (.map (es++[(key,val)])))⟩):=by
 intro B ok0 lv a w hs Q;have hk:=yzk hyk (hs.eval hy);have hvl:=yzk hvk (hs.eval hvv);have hr:=hs.eval hx;obtain⟨b,n,hb,hown⟩:=hs.inv.obj id _ hid;generalize hv:a.eval x=u at hr;cases hr with
 | mp _ _ hmp=>
  cases b with
  | none=>simp[yge]at hown
  | some b=>
   obtain rfl:=hmp b n hb;obtain⟨hb1,hb2,en,clock,h1,h2,h3,h4⟩:=hown;have hks':∀ e∈en.toList,∃ l,keyOf P kt e.key=some l:=fun e he=>hks (e.key,e.val) (by rw[<- h2];exact qde (f:=fun e:MapEntry=>(e.key,e.val)) he);have hfind:(Instr.findKey kt key en.toList).run P w=.ok none w:=by
    rcases K.find w hkey en.toList hks' with⟨g1,_⟩|⟨j,e,_,g2,g3⟩
    .exact g1
    exact absurd g3 (hnew (e.key,e.val) (by rw[<- h2];exact qde (f:=fun e:MapEntry=>(e.key,e.val)) (qab g2)))
   have hg:(getObj b).run P w=.ok (.map en clock) w:=by simp[getObj,Sem.run,h1]
   have hrun:(execOp a.eval o).run P w=.ok .skip (ChangeMaps.setBlock w b (.map (en.push { key,val,born:=clock }) (clock+1))):=by
    have hset:(setObj b (.map (en.push { key,val,born:=clock }) (clock+1))).run P w=.ok () (ChangeMaps.setBlock w b (.map (en.push { key,val,born:=clock }) (clock+1))):=by simp[setObj,Sem.run,h1,ChangeMaps.setBlock]
    simp only[execOp,ho,hv,hk,hvl,Instr.mapUpdate,Sem.run_bind,run_underlying ht,Result.andThen_ok,hg,K.check w false hkey,hfind,hset,Sem.run_pure]
   unfold Oper.wp;rw[hrun];simp only[Oper.upon,hd,Act.put];refine⟨_,lv,rfl,hs.write (w':=ChangeMaps.setBlock w b (.map (en.push { key,val,born:=clock }) (clock+1))) hb rfl rfl rfl (by simp[ChangeMaps.setBlock]) (fun g hg=>yto hg) (fun h=>by cases h) fun ok' hk=>?_⟩;refine⟨_,_,zfu hb2,by simp[<- h2],?_,fun e he=>?_⟩
   .rw [Array.toList_push,qbz,qdl];refine⟨h3,sm,fun x hx y hy=>?_⟩;obtain⟨e,he,rfl⟩:=qag.1 hx;simp at hy;subst hy;have:=h4 e he;omega
   simp only[Array.toList_push,qat,qau]at he;rcases he with he|rfl
   .have:=h4 e he;omega
   simp
theorem yol{ti kt et id:Nat}{v:Operand}{yv vv:AV}{es:List (Value × Value)}{val:Value}(ht:P.underlying ti=some (.map kt et))(K:Keyed P kt)(hx:evF (yak t) x=some (.mp id))(hid:yac h id=some (.map es))(hy:evF (yak t) y=some yv)(hyk:toV yv=some key)(hvv:evF (yak t) v=some vv)(hvk:toV vv=some val)(hks:∀ e∈es,∃ l,keyOf P kt e.1=some l)(hkey:keyOf P kt key=some kl)(hnew:∀ e∈es,e.1≠key)(hl:lf ⟨none,.mapUpdate ti x y v,ty,pos,af,gd⟩=true)(hw:yam ops (yak t) ⟨none,.mapUpdate ti x y v,ty,pos,af,gd⟩=some true)(k:Lex P N ops lf Q rest (S t ((id,some (.map (es++[(key,val)])))::h))):Lex P N ops lf Q (⟨none,.mapUpdate ti x y v,ty,pos,af,gd⟩::rest) (S t h):=
 yef hl hw (by rw[<- S_h];exact update_loud rfl rfl ht K hx hid hy hyk hvv hvk hks hkey hnew) k
theorem Sim.freezeMap{ok0:Nat->Prop}{s:SS}(hs:Sim B ok0 N s lv a w){d id:Nat}{es:List (Value × Value)}(hd:s.t d=some (.mp id))(hx:s.h id=some (.map es)){s':SS}(ht:∀ x y,s'.t x=some y->y=.any\/s.t x=some y)(hlt:∀ x y,s'.t x=some y->∃ z,s.t x=some z)(hid:s'.h id=none)(hh:∀ j ob',s'.h j=some ob'->∃ ob,s.h j=some ob/\ymh ob ob'):∃ lv',Sim B ok0 N ⟨yee s'.t (some d) (.mv es),s'.h⟩ lv' a w:=by
 obtain⟨lv',h1,h2,h3,h4⟩:=hs.forg ht hlt hh;refine⟨lv',h1.inv,h1.size,fun x y hy=>?_,h1.defers,h1.big,h1.pin⟩;simp only[yee]at hy;split at hy
 .rename_i e;subst e;simp only[Option.some.injEq]at hy;subst hy;have hf:=hs.frame x _ hd;refine⟨hf.1,?_⟩;have hr:=hf.2;obtain⟨b,n,hb,hown⟩:=hs.inv.obj id _ hx;generalize ydx B a x=u at hr;cases hr with
  | mp _ _ hmp=>
   cases b with
   | none=>simp[yge]at hown
   | some b=>
    obtain rfl:=hmp b n hb;refine .mv b ⟨.inr hown.1,hown.2.1,fun j b' m hj he=>?_⟩ hown.2.2;subst he;have:=hs.inv.inj j id b' m n (h2 j _ m hj) hb;subst this;rw[h1.inv.dom j hid]at hj;cases hj
 exact h1.frame x y hy
theorem A_freezeMap{Q:Exit->SS->Prop}{t':List (Nat × AV)}{h':List (Nat × Option LObj)}(d:Nat){id:Nat}{es:List (Value × Value)}(hd:yak t d=some (.mp id))(hx:yac h id=some (.map es))(ht:yvo id t=some t')(hh:yql id h=some h')(k:A P N c Q (S ((d,.mv es)::t') ((id,none)::h'))):A P N c Q (S t h):=by
 intro B ok0 lv a w hs;obtain⟨g1,g2⟩:=yib ht;obtain⟨lv',hs'⟩:=hs.freezeMap (s':=S t' ((id,none)::h')) hd hx (fun x y hy=>(g1 x y hy).imp (fun h=>h) And.left) g2 (by simp[S,yac]) (fun j ob' hj=>by
  simp only[S,yac]at hj
  split at hj
  .cases hj
  exact(yfs hh j ob' hj).2)
 rw[show (⟨yee (S t' ((id,none)::h')).t (some d) (.mv es),(S t' ((id,none)::h')).h⟩:SS)=S ((d,.mv es)::t') ((id,none)::h') by unfold S;rw[ydm]]at hs';exact k B ok0 lv' a w hs'
theorem range_loud{o:Oper}{ti kt et:Nat}{es:List (Value × Value)}{s:SS}(ho:o.op=.range ti x)(hd:o.dst=some d)(hdN:d < N)(id:Nat)(ht:P.underlying ti=some (.map kt et))(hx:evF s.t x=some (.mv es))(hf:ymi s id):ybp P N o s (·=⟨yee s.t (some d) (.lp id 0),yei s.h id (some (.iter es es none))⟩):=by
 intro B ok0 lv a w hs Q;have hr:=hs.eval hx;generalize hv:a.eval x=u at hr;cases hr with
 | mv b hg hm=>
  obtain⟨en,clock,h1,h2,h3,h4⟩:=hm;have hgo:(getObj b).run P w=.ok (.map en clock) w:=by simp[getObj,Sem.run,h1]
  have hrun:(execOp a.eval o).run P w=.ok (.value (.pointer (some ⟨w.heap.size,0,none⟩))) (w.alloc (.mapIter (some b) clock #[] clock)):=by
   simp[execOp,ho,hv,Instr.range,run_underlying ht,hgo]
  unfold Oper.wp;rw[hrun];have hnew:=hs.newBlock (ob:=.iter es es none) (n:=0) hf (ydw w (.mapIter (some b) clock #[] clock)) sm rfl (fun h=>by cases h) (fun ok' lv' g1 g2=>by
   have hgb:=g1 b hg
   refine⟨b,en,clock,#[],clock,hgb.1,by rw[hgb.2];exact h1,h2,h3,h4,ydr w _,qbf _,?_,fun p hp=>by cases hp⟩
   have:(en.toList.filter fun e=>!(#[]:Array Nat).contains e.born)=en.toList:=by simp
   rw[this,h2])
  simp only[Oper.upon,hd];exact⟨_,_,rfl,hnew.putOnly hdN (.lp _ rfl fun b n hb=>by simp only[yke,if_true,Option.some.injEq,Prod.mk.injEq]at hb;rw[hb.1])⟩
theorem L_range{ti kt et:Nat}{es:List (Value × Value)}(ht:P.underlying ti=some (.map kt et))(hx:evF (yak t) x=some (.mv es))(h1:ydl d t=true)(h2:ybs d h=true)(hl:lf ⟨some d,.range ti x,ty,pos,af,gd⟩=true)(hw:yam ops (yak t) ⟨some d,.range ti x,ty,pos,af,gd⟩=some true)(hd:Nat.blt d N=true)(k:Lex P N ops lf Q rest (S ((d,.lp d 0)::t) ((d,some (.iter es es none))::h))):Lex P N ops lf Q (⟨some d,.range ti x,ty,pos,af,gd⟩::rest) (S t h):=
 yef hl hw (by rw[<- ytz];exact range_loud rfl rfl (by simpa using hd) d ht hx (ygc h1 h2)) k
theorem yield_entry{ρ:Operand->Option AV}{hp:Nat->Option LObj}{id:Nat}{es left:List (Value × Value)}{p:Value × Value}(hx:ρ x=some (.lp id 0))(hid:hp id=some (.iter es left (some p))):ybu P hp ρ (.entry x) ty (.tup [.v p.1,.v p.2]):=
 yay fun B ok0 lv w a o ho hty hi hops=>by
  have hr:=hops x _ (by simp[Op.operands]) hx;generalize hv:a.eval x=u at hr;obtain⟨r,n,hb,hown⟩:=hi.obj id _ hid;cases hr with
  | lp _ _ hlp=>
   cases r with
   | none=>simp[yge]at hown
   | some r=>
    obtain rfl:=hlp r n hb;obtain⟨_,_,b,en,clock,seen,st,h2,h3,h4,h5,h6,h7,h8,h9,h10⟩:=hown;obtain⟨e,seen',g1,g2,g3,g4⟩:=h10 p rfl;subst g2 g3 g4;have hrun:=run_entry_at (P:=P) w r b st seen' en st e h7 h3 g1 h5;refine⟨.tuple #[e.key,e.val],by simp[execOp,ho,hv,hrun],?_⟩;refine .tup [e.key,e.val] rfl fun i c u hc hu=>?_
    match i with
    | 0=>simp at hc hu;subst hc hu;exact .v _
    | 1=>simp at hc hu;subst hc hu;exact .v _
    | i+2=>simp at hc
theorem L_entry{id:Nat}{es left:List (Value × Value)}{p:Value × Value}(hx:evF (yak t) x=some (.lp id 0))(hid:yac h id=some (.iter es left (some p)))(hw:yam ops (yak t) ⟨some d,.entry x,ty,pos,af,gd⟩=some true)(hd:Nat.blt d N=true)(k:Lex P N ops lf Q rest (S ((d,.tup [.v p.1,.v p.2])::t) h)):Lex P N ops lf Q (⟨some d,.entry x,ty,pos,af,gd⟩::rest) (S t h):=ycm (yield_entry hx hid) hw hd k
theorem left_step{en:List MapEntry}{e:MapEntry}{seen:Array Nat}(hn:(en.map (·.born)).Nodup)(he:e∈en.filter fun e=>!seen.contains e.born) :
  List.Perm (en.filter fun e=>!seen.contains e.born) (e::en.filter fun x=>!(seen.push e.born).contains x.born):=by
 have hf:(en.filter fun x=>!(seen.push e.born).contains x.born)=(en.filter fun e=>!seen.contains e.born).filter fun x=>x.born != e.born:=by
  rw[List.filter_filter];apply qfm;intro x hx;rw[qbw];simp;constructor
  .rintro ⟨h1,h2⟩;exact⟨h2,h1⟩
  rintro⟨h1,h2⟩;exact⟨h2,h1⟩
 rw[hf];have hn':((en.filter fun e=>!seen.contains e.born).map (·.born)).Nodup:=hn.sublist ((List.filter_sublist).map _);generalize en.filter (fun e=>!seen.contains e.born)=l at he hn';induction l with
 | nil=>cases he
 | cons y l ih=>
  simp only[qce,qcq]at hn';rcases qaq.1 he with rfl|he'
  .have:(e::l).filter (fun x=>x.born != e.born)=l:=by
    simp only[qge,bne_self_eq_false,qbj,if_false];rw[qgh];intro x hx;simp only[bne_iff_ne,ne_eq];intro hb;exact hn'.1 (by rw[<- hb];exact qde (f:=(·.born)) hx)
   rw[this]
  have hne:(y.born != e.born)=true:=by
   simp only[bne_iff_ne,ne_eq];intro hb;exact hn'.1 (by rw[hb];exact qde (f:=(·.born)) he')
  simp only[qge,hne,if_true];exact((ih he' hn'.2).cons y).trans (List.Perm.swap e y _)
theorem next_loud{o:Oper}{id:Nat}{es left:List (Value × Value)}{cur:Option (Value × Value)}{s:SS}(ho:o.op=.next x false)(hd:o.dst=some d)(hdN:d < N)(hx:evF s.t x=some (.lp id 0))(hid:s.h id=some (.iter es left cur)):
  ybp P N o s (fun s'=>(left=[]/\s'=⟨yee s.t (some d) (.tup [.v (.bool false)]),s.h⟩)\/∃ p left',List.Perm left (p::left')/\s'=⟨yee s.t (some d) (.tup [.v (.bool true),.v p.1,.v p.2]),yei s.h id (some (.iter es left' (some p)))⟩):=by
 intro B ok0 lv a w hs Q;have hr:=hs.eval hx;generalize hv:a.eval x=u at hr;obtain⟨r,n,hb,hown⟩:=hs.inv.obj id _ hid;cases hr with
 | lp _ _ hlp=>
  cases r with
  | none=>simp[yge]at hown
  | some r=>
   obtain rfl:=hlp r n hb;obtain⟨hr1,hr2,b,en,clock,seen,st,h2,h3,h4,h5,h6,h7,h8,h9,h10⟩:=hown;have hlo:(leftOf en seen).toList=en.toList.filter fun e=>!seen.contains e.born:=by simp[leftOf]
   unfold Oper.wp;rcases run_next_at (P:=P) w o.type r b clock st seen en clock h7 h3 h6 h8 with⟨g1,g2⟩|⟨e,g1,w1,g2,g3⟩
   .have hleft:left=[]:=by
     have hz:(en.toList.filter fun e=>!seen.contains e.born)=[]:=by
      rw[<- hlo];exact qax (by simpa using g1)
     rw[hz]at h9;exact h9.eq_nil
    have hrun:(execOp a.eval o).run P w=.ok (.value (.tuple #[.bool false])) w:=by
     simp only[execOp,ho,hv,Sem.run_bind,g2,Result.andThen_ok,Sem.run_pure]
    rw[hrun];simp only[Oper.upon,hd];refine⟨_,lv,.inl ⟨hleft,rfl⟩,hs.putOnly hdN (.tup [.bool false] rfl fun i c u hc hu=>?_)⟩
    match i with
    | 0=>simp at hc hu;subst hc hu;exact .v _
    | i+1=>simp at hc
   have hrun:(execOp a.eval o).run P w=.ok (.value (.tuple #[.bool true,e.key,e.val])) (ChangeMaps.setBlock w1 r (.mapIter (some b) clock (seen.push e.born) clock)):=by
    simp only[execOp,ho,hv,Sem.run_bind,g3,Result.andThen_ok,Sem.run_pure]
   have hw1:w1.heap=w.heap/\w1.os=w.os/\w1.tape=w.tape/\w1.output=w.output:=by rcases g2 with rfl|rfl <;> exact⟨rfl,rfl,rfl,rfl⟩
   generalize hw2:ChangeMaps.setBlock w1 r (.mapIter (some b) clock (seen.push e.born) clock)=w2 at hrun;have hrlt:r < w1.heap.size:=by rw[hw1.1];exact hr2
   have hoth:∀ g,g≠r->w2.heap[g]?=w.heap[g]?:=fun g hg=>by rw[<- hw2,yto hg,hw1.1]
   have hat:w2.heap[r]?=some (.mapIter (some b) clock (seen.push e.born) clock):=by rw[<- hw2];exact zfu hrlt
   have hel:e∈en.toList.filter fun e=>!seen.contains e.born:=by rw[<- hlo];exact g1
   have hperm:List.Perm left ((e.key,e.val)::(en.toList.filter fun x=>!(seen.push e.born).contains x.born).map fun e=>(e.key,e.val)):=h9.trans ((left_step h5 hel).map fun e=>(e.key,e.val));rw[hrun];simp only[Oper.upon,hd];have hbr:b≠r:=fun hbr=>h2.2.2 id r n hb hbr.symm;have hwr:=hs.write (w':=w2) hb (by rw[<- hw2];exact hw1.2.1) (by rw[<- hw2];exact hw1.2.2.1) (by rw[<- hw2];exact hw1.2.2.2) (by rw[<- hw2];simp[ChangeMaps.setBlock,hw1.1]) hoth
    (ob:=.iter es ((en.toList.filter fun x=>!(seen.push e.born).contains x.born).map fun e=>(e.key,e.val)) (some (e.key,e.val))) (fun h=>by cases h) (fun ok' hk=>⟨b,en,clock,seen.push e.born,clock,(hk b h2).1,by rw[hoth b hbr];exact h3,h4,h5,h6,hat,qbf _,List.Perm.refl _,fun p hp=>by
     cases hp
     exact⟨e,seen,(qdc.1 hel).1,rfl,rfl,rfl⟩⟩)
   refine⟨_,lv,.inr ⟨(e.key,e.val),_,hperm,rfl⟩,hwr.putOnly hdN (.tup [.bool true,e.key,e.val] rfl fun i c u hc hu=>?_)⟩
   match i with
   | 0=>simp at hc hu;subst hc hu;exact .v _
   | 1=>simp at hc hu;subst hc hu;exact .v _
   | 2=>simp at hc hu;subst hc hu;exact .v _
   | i+3=>simp at hc
theorem L_next{id:Nat}{es left:List (Value × Value)}{cur:Option (Value × Value)}(hx:evF (yak t) x=some (.lp id 0))(hid:yac h id=some (.iter es left cur))(hl:lf ⟨some d,.next x false,ty,pos,af,gd⟩=true)(hw:yam ops (yak t) ⟨some d,.next x false,ty,pos,af,gd⟩=some true)(hd:Nat.blt d N=true)(k1:left=[]->Lex P N ops lf Q rest (S ((d,.tup [.v (.bool false)])::t) h))(k2:∀ p left',List.Perm left (p::left')->Lex P N ops lf Q rest (S ((d,.tup [.v (.bool true),.v p.1,.v p.2])::t) ((id,some (.iter es left' (some p)))::h))):
  Lex P N ops lf Q (⟨some d,.next x false,ty,pos,af,gd⟩::rest) (S t h):=by
 refine .loud _ hl hw (next_loud rfl rfl (by simpa using hd) hx hid) ?_;rintro s' (⟨h1,rfl⟩|⟨p,left',h1,rfl⟩)
 .have:(⟨yee (S t h).t (some d) (.tup [.v (.bool false)]),(S t h).h⟩:SS)=S ((d,.tup [.v (.bool false)])::t) h:=by unfold S;rw[ydm]
  rw[this];exact k1 h1
 have:(⟨yee (S t h).t (some d) (.tup [.v (.bool true),.v p.1,.v p.2]),yei (S t h).h id (some (.iter es left' (some p)))⟩:SS)=S ((d,.tup [.v (.bool true),.v p.1,.v p.2])::t) ((id,some (.iter es left' (some p)))::h):=ytz;rw[this];exact k2 p left' h1
end
end
section
open Go.RowKit
structure Wk (a b:AV):Prop where
 cell:yeb a=true->yeb b=true
 rel:∀ (ok:Nat->Prop) (w:World) (lv:Live) (v:Value),Rel ok w lv a v->Rel ok w lv b v
theorem yhx(a:AV):Wk a a:=⟨fun h=>h,fun _ _ _ _ h=>h⟩
inductive WkL:List AV->List AV->Prop
 | nil:WkL [] []
 | cons {a b:AV} {l m:List AV} (h:Wk a b) (t:WkL l m):WkL (a::l) (b::m)
inductive WkR:List (List AV)->List (List AV)->Prop
 | nil:WkR [] []
 | cons {a b:List AV} {l m:List (List AV)} (h:WkL a b) (t:WkR l m):WkR (a::l) (b::m)
theorem WkL.spec{l m:List AV}(h:WkL l m):l.length=m.length/\∀ (j:Nat) (c':AV),m[j]?=some c'->∃ c,l[j]?=some c/\Wk c c':=by
 induction h with
 | nil=>exact⟨rfl,fun j c' h=>by simp at h⟩
 | cons h t ih=>
  refine⟨by simp[ih.1],fun j c' hj=>?_⟩;cases j with
  | zero=>simp at hj;subst hj;exact⟨_,rfl,h⟩
  | succ j=>simp at hj;simpa using ih.2 j c' hj
theorem WkR.spec{l m:List (List AV)}(h:WkR l m):l.length=m.length/\∀ (j:Nat) (c':List AV),m[j]?=some c'->∃ c,l[j]?=some c/\WkL c c':=by
 induction h with
 | nil=>exact⟨rfl,fun j c' h=>by simp at h⟩
 | cons h t ih=>
  refine⟨by simp[ih.1],fun j c' hj=>?_⟩;cases j with
  | zero=>simp at hj;subst hj;exact⟨_,rfl,h⟩
  | succ j=>simp at hj;simpa using ih.2 j c' hj
theorem Con.weak{args':List AV}{r:AV}(h:WkL args args')(hc:Con P f args' r):Con P f args r:=by
 obtain⟨h1,h2,h3⟩:=hc;obtain⟨g1,g2⟩:=h.spec;refine⟨h1,h2,fun ok0 w us hG hok hr=>h3 ok0 w us hG hok ⟨hr.1.trans g1,fun i x u hx hu=>?_⟩⟩;obtain⟨c,k1,k2⟩:=g2 i x hx;exact k2.rel _ _ _ _ (hr.2 i c u k1 hu)
theorem yzv{x:Value}(hc:Con P f args (.v x))(hG:zaw w){us:List Value}{ok:Nat->Prop}(hok:∀ g,ok g->g < w.heap.size)(h:ybn ok w (fun _=>none) args us):Calls P f us.toArray w fun e w'=>e=.returned x/\Below w.heap.size w w':=
 (hc.2.2 ok w us hG hok h).mono fun e w' ⟨u,h1,h2,h3⟩=>by cases h2;exact⟨h1,h3⟩
section
variable{P:Program}{T:Nat->Option Ty}{N:Nat}{ops:Array Oper}{lf:Oper->Bool}{Q:SS->Prop}{t:List (Nat × AV)}{h:List (Nat × Option LObj)}{rest:List Oper}{d:Nat}{op:Op}{ty:TypeId}{pos:String}{af:Array Edge}{gd:Option (Nat × Bool)}{r:AV}
theorem xfn{a b:Int}{tx ty':TypeId}(hx:evF (yak t) x=some (i64 a))(hy:evF (yak t) y=some (i64 b))(hb:b≠0)(hw:yam ops (yak t) ⟨some d,.binOp .rem tx x y ty',ty,pos,af,gd⟩=some true)(hd:Nat.blt d N=true)(k:Lex P N ops lf Q rest (S ((d,i64 (a.tmod b))::t) h)):Lex P N ops lf Q (⟨some d,.binOp .rem tx x y ty',ty,pos,af,gd⟩::rest) (S t h):=
 ycm (yield_rem hx hy hb) hw hd k
theorem xil{a b:Int}{tx ty':TypeId}(hx:evF (yak t) x=some (i64 a))(hy:evF (yak t) y=some (i64 b))(hb:b≠0)(hlo:-9223372036854775808<=a.tdiv b)(hhi:a.tdiv b<=9223372036854775807)(hw:yam ops (yak t) ⟨some d,.binOp .quo tx x y ty',ty,pos,af,gd⟩=some true)(hd:Nat.blt d N=true)(k:Lex P N ops lf Q rest (S ((d,i64 (a.tdiv b))::t) h)):Lex P N ops lf Q (⟨some d,.binOp .quo tx x y ty',ty,pos,af,gd⟩::rest) (S t h):=by
 have e:=yield_quo (P:=P) (hp:=yac h) (ty:=ty) (tx:=tx) (ty':=ty') hx hy hb;rw[IntWalk.i64_in _ ⟨hlo,hhi⟩]at e;exact ycm e hw hd k
theorem yield_neqB{ρ:Operand->Option AV}{hp:Nat->Option LObj}{a b:Bool}{tx ty':TypeId}(hu:P.underlying tx=some .bool)(hx:ρ x=some (.v (.bool a)))(hy:ρ y=some (.v (.bool b))):ybu P hp ρ (.binOp .neq tx x y ty') ty (yau (!(a == b))):=
 yco (fun _ _=>by simp) (by simp[ygy,Op.operands,hx,hy,toV]) fun w=>by simp[execOp,yeu hx,yeu hy,eqGuard,binOp,run_equal_bool w tx a b hu]
theorem zvc(hT:TOK P T){a b:Bool}{tx ty':TypeId}{s:Nat}{ag:Bool}{z:List Value}(hk:T tx=some ⟨.bool,s,ag,z⟩)(hx:evF (yak t) x=some (.v (.bool a)))(hy:evF (yak t) y=some (.v (.bool b)))(hw:yam ops (yak t) ⟨some d,.binOp .neq tx x y ty',ty,pos,af,gd⟩=some true)(hd:Nat.blt d N=true)(k:Lex P N ops lf Q rest (S ((d,yau (!(a == b)))::t) h)):Lex P N ops lf Q (⟨some d,.binOp .neq tx x y ty',ty,pos,af,gd⟩::rest) (S t h):=
 ycm (yield_neqB (hT _ _ hk).2.2 hx hy) hw hd k
end
end
section
open Go.RowKit
section
variable{P:Program}{T:Nat->Option Ty}{N:Nat}{ops:Array Oper}{lf:Oper->Bool}{Q:SS->Prop}{t:List (Nat × AV)}{h:List (Nat × Option LObj)}{rest:List Oper}{d:Nat}{op:Op}{ty:TypeId}{pos:String}{af:Array Edge}{gd:Option (Nat × Bool)}{r:AV}
theorem Sim.ownH{ok0:Nat->Prop}{s:SS}(hs:Sim B ok0 N s lv a w){id:Nat}(hf:ymi s id):
  ∃ lv',Sim B ok0 N ⟨s.t,yei s.h id (some (.vec []))⟩ lv' a w/\∀ size,Rel (yba B ok0 lv' w) w lv' (.ls id size 0) (.slice none 0 0):=by
 have hid:lv id=none:=hs.inv.dom id hf.1;have hsame:∀ j b n,(fun j=>if j=id then some (none,0)else lv j:Live) j=some (some b,n)->lv j=some (some b,n):=by
  intro j b n hj;simp only at hj;split at hj
  .cases hj
  exact hj
 have hok:∀ g,yba B ok0 lv w g->yba B ok0 (fun j=>if j=id then some (none,0)else lv j) w g:=fun g hg=>⟨hg.1,hg.2.1,fun j b n hj=>hg.2.2 j b n (hsame j b n hj)⟩;have hre:∀ (x:AV) (u:Value),ment id x=false->Rel (yba B ok0 lv w) w lv x u->Rel (yba B ok0 (fun j=>if j=id then some (none,0)else lv j) w) w (fun j=>if j=id then some (none,0)else lv j) x u:=fun x u hm hr=>
  (hr.relive fun j b n hj hmj=>by
   split at hj
   .rename_i e;subst e;rw[hm]at hmj;cases hmj
   exact hj).keep fun g hg=>⟨hok g hg,rfl⟩
 refine⟨fun j=>if j=id then some (none,0)else lv j,⟨⟨hs.inv.base,hs.inv.ok0lt,fun j hj=>?_,fun i j b n m h1 h2=>hs.inv.inj i j b n m (hsame _ _ _ h1) (hsame _ _ _ h2),fun j x hx=>?_⟩,hs.size,fun x y hy=>?_,hs.defers,hs.big,fun j b o hN hj hc hb=>?_⟩,fun size=>?_⟩
 .by_cases h:j=id
  .subst h;simp[yei]at hj
  simp only[yei,h,if_false]at hj ⊢;exact hs.inv.dom j hj
 .by_cases h:j=id
  .subst h;simp only[yei,if_true,Option.some.injEq]at hx;subst hx;exact⟨none,0,sm,.inl rfl⟩
  simp only[yei,h,if_false]at hx;obtain⟨b,n,h1,h2⟩:=hs.inv.obj j x hx;refine⟨b,n,by simp[h,h1],?_⟩;cases b with
  | none=>exact h2
  | some b=>
   refine⟨h2.1,h2.2.1,(h2.2.2.relive fun i b n hi hmi=>?_).keep (fun g hg=>⟨hok g hg,rfl⟩) rfl⟩;split at hi
   .rename_i e;subst e;rw[hf.2.2 j x hx]at hmi;cases hmi
   exact hi
 .have:=hs.frame x y hy;exact⟨this.1,hre y _ (hf.2.1 x y hy) this.2⟩
 .by_cases h:j=id
  .subst h;simp only[yei,if_true,Option.some.injEq]at hj;subst hj;cases hc
  simp only[yei,h,if_false]at hj ⊢;exact hs.pin j b o hN hj hc hb
 refine .ls _ rfl fun b n hb=>?_;simp only[if_true,Option.some.injEq,Prod.mk.injEq]at hb;obtain⟨rfl,rfl⟩:=hb;exact⟨rfl,rfl⟩
theorem yjn(hT:TOK P T){o:Oper}{ti e es eb sz:Nat}{ea ag:Bool}{ez z:List Value}{m:Nat}{cs:List AV}{src:AV}{s:SS}(id:Nat)(ho:o.op=.call { callee:=.builtin .append,args:=#[x,y],argTypes:=#[ti,ti] })(hd:o.dst=some d)(hdN:d < N)(hk:T ti=some ⟨.slc e es ea eb ez,sz,ag,z⟩)(hx:evF s.t x=some (.v (.slice none 0 0)))(hf:ymi s id)(hy:evF s.t y=some src)(hsrc:∀ (ok:Nat->Prop) (w:World) (lv:Live) (u:Value),Rel ok w lv src u->xfp ok w es m cs u/\∀ c∈cs,yeb c=true)(hcp:∀ c∈cs,yas c=true)(hlim:m<=4294967296/\m * eb<=140737488355328):
  ybp P N o s (·=⟨yee s.t (some d) (.ls id es m),yei s.h id (some (.vec cs))⟩):=by
 intro B ok0 lv a w hs0 Q;obtain⟨lv1,hs,hnil⟩:=hs0.ownH hf;obtain⟨h1,h2⟩:=hsrc _ _ _ _ (hs.eval (s:=⟨s.t,yei s.h id (some (.vec []))⟩) hy);have hxv:a.eval x=.slice none 0 0:=ykw (hs0.eval hx);obtain⟨v',w',lv',hrun0,hs',hrel⟩:=yzs (s':=⟨s.t,yei s.h id (some (.vec cs))⟩) (ty:=o.type) hs (hT _ _ hk).2.2 (id:=id) (len:=0) (xs:=[]) (by simp[yei]) sm (hnil es) h1 h2 hcp (by simpa using hlim)
  (fun x y h=>.inr ⟨h,hf.2.1 x y h⟩) (fun x y h=>⟨y,h⟩) (fun j ob' hj hob=>by
   simp only[yei,hj,if_false]at hob
   exact⟨hf.2.2 j ob' hob,ob',by simp only[yei,hj,if_false];exact hob,Or.inl rfl⟩) (by simp[yei])
 have hrun:(execOp a.eval o).run P w=.ok (.value v') w':=by
  simp only[execOp,ho,resolve,invoke,builtin,Sem.run_bind,Sem.run_pure,Result.andThen_ok,List.map_toArray,qce,qex,hxv,hrun0]
 unfold Oper.wp;rw[hrun];simp only[Oper.upon,hd];rw[qay]at hrel;exact⟨_,lv',rfl,hs'.putOnly hdN hrel⟩
theorem zcu(hT:TOK P T){ti e es eb sz:Nat}{ea ag:Bool}{ez z:List Value}{rows:List (List AV)}(hk:T ti=some ⟨.slc e es ea eb ez,sz,ag,z⟩)(hx:evF (yak t) x=some (.v (.slice none 0 0)))(hy:evF (yak t) y=some (.sl es rows))(hcp:∀ c∈rows.flatten,yas c=true)(hlim:rows.length<=4294967296/\rows.length * eb<=140737488355328)(h1:ydl d t=true)(h2:ybs d h=true)(hl:lf ⟨some d,.call { callee:=.builtin .append,args:=#[x,y],argTypes:=#[ti,ti] },ty,pos,af,gd⟩=true)(hw:yam ops (yak t) ⟨some d,.call { callee:=.builtin .append,args:=#[x,y],argTypes:=#[ti,ti] },ty,pos,af,gd⟩=some true)(hd:Nat.blt d N=true)(k:Lex P N ops lf Q rest (S ((d,.ls d es rows.length)::t) ((d,some (.vec rows.flatten))::h))):
  Lex P N ops lf Q (⟨some d,.call { callee:=.builtin .append,args:=#[x,y],argTypes:=#[ti,ti] },ty,pos,af,gd⟩::rest) (S t h):=by
 refine yef hl hw ?_ k;rw[<- ytz];exact yjn hT d rfl rfl (by simpa using hd) hk hx (ygc h1 h2) hy (fun ok w lv u hr=>yxb hr) hcp hlim
theorem L_storeV(hT:TOK P T){ti:Nat}{y:Ty}{v:Operand}{id off:Nat}{xs cs:List AV}{u:AV}(hy:T ti=some y)(hx:evF (yak t) x=some (.lp id off))(hv:evF (yak t) v=some u)(hcs:yec u=some cs)(hcl:Nat.beq cs.length y.size=true)(hh:yac h id=some (.vec xs))(hlt:off+cs.length<=xs.length)(hne:xs≠[])(hp:yas.pureL cs=true)(hl:lf ⟨none,.store ti x v,ty,pos,af,gd⟩=true)(hw:yam ops (yak t) ⟨none,.store ti x v,ty,pos,af,gd⟩=some true)(k:Lex P N ops lf Q rest (S t ((id,some (.vec (xs.take off++cs++xs.drop (off+cs.length))))::h))):Lex P N ops lf Q (⟨none,.store ti x v,ty,pos,af,gd⟩::rest) (S t h):=by
 refine yef hl hw (by rw[<- S_h];exact yig rfl rfl (hT _ _ hy).1 hx hv hcs (by simpa using hcl) hh (.vec hlt (ylz hp) hne)) k
theorem Sim.freezeC{ok0:Nat->Prop}{s:SS}(hs:Sim B ok0 N s lv a w){jb k id size len:Nat}{xs ys ys':List AV}{rows:List (List AV)}(hj:s.h jb=some (.cells ys))(hk:ys[k]?=some (.ls id size len))(hx:s.h id=some (.vec xs))(hlen:rows.length=len)(hsize:∀ row∈rows,row.length=size)(hfl:rows.flatten=xs){s':SS}(ht:∀ x y,s'.t x=some y->y=.any\/s.t x=some y)(hlt:∀ x y,s'.t x=some y->∃ z,s.t x=some z)(hid:s'.h id=none)(hj':s'.h jb=some (.cells ys'))(hyl:ys'.length=ys.length)(hh:∀ j ob',s'.h j=some ob'->∃ ob,s.h j=some ob/\ymh ob ob'):∃ lv',Sim B ok0 N ⟨s'.t,yei s'.h jb (some (.cells (ys'.set k (.sl size rows))))⟩ lv' a w:=by
 obtain⟨lv',h1,h2,h3,h4⟩:=hs.forg ht hlt hh;refine⟨lv',?_⟩;have hpure:∀ x∈xs,∀ i,ment i x=false:=by
  intro x hxm i;obtain⟨b,n,g1,g2⟩:=hs.inv.obj id _ hx;cases b with
  | none=>simp only[yge,reduceCtorEq,exists_const,or_false]at g2;cases g2;cases hxm
  | some b=>exact yas.ment (g2.2.2.2 x hxm)
 obtain⟨bo,n,g1,g2⟩:=hs.inv.obj jb _ hj;obtain⟨bo',n',k1,k2⟩:=h1.inv.obj jb _ hj';have hsame:=h2 jb bo' n' k1;rw[g1]at hsame;cases hsame;cases bo with
 | none=>simp[yge]at g2
 | some b=>
  obtain⟨q1,q2,c,e,q3,q4,q5,q6,q7⟩:=g2;obtain⟨r1,r2,c',e',r3,r4,r5,r6,r7⟩:=k2;rw[q3]at r3;cases r3;have hkl:=(qaa.1 hk).1;have hkc:k < c.size:=by omega
  have hold:Rel (yba B ok0 lv w) w lv (.ls id size len) c[k]:=q7 k _ _ hk (by simp[hkc]);have hnew:Rel (yba B ok0 lv' w) w lv' (.sl size rows) c[k]:=by
   have hr:=ysd hs.inv hold (by rw[hx];rfl) hlen hsize hfl hpure (yba B ok0 lv' w) h4 (fun b n hb=>?_)
   .exact hr.relive fun i b n _ hm=>by simp[ment]at hm
   obtain⟨_,_,g1,g2,_⟩:=hs.inv.lvat hb;refine⟨.inr g1,g2,fun j b' m hj he=>?_⟩;subst he;have:=hs.inv.inj j id b' m n (h2 j _ m hj) hb;subst this;rw[h1.inv.dom j hid]at hj;cases hj
  refine⟨⟨h1.inv.base,h1.inv.ok0lt,fun j hjn=>?_,h1.inv.inj,fun j x hxj=>?_⟩,h1.size,h1.frame,h1.defers,h1.big,fun j b o hN hjx hc hb=>?_⟩
  .by_cases hjj:j=jb
   .subst hjj;simp[yei]at hjn
   simp only[yei,hjj,if_false]at hjn;exact h1.inv.dom j hjn
  .by_cases hjj:j=jb
   .subst hjj;simp only[yei,if_true,Option.some.injEq]at hxj;subst hxj;refine⟨some b,n,k1,r1,r2,c,e,q3,q4,by simpa using r5,fun x hxm=>?_,fun i x u hi hu=>?_⟩
    .rcases qeu hxm with hm|hm
     .exact r6 x hm
     subst hm;rfl
    rw[qdb]at hi;split at hi
    .rename_i e1;subst e1;split at hi
     .cases hi;simp only[hkc,qbk,Option.some.injEq]at hu;subst hu;exact hnew
     cases hi
    exact r7 i x u hi hu
   simp only[yei,hjj,if_false]at hxj;exact h1.inv.obj j x hxj
  by_cases hjj:j=jb
  .subst hjj;exact h1.pin j b _ hN hj' rfl hb
  simp only[yei,hjj,if_false]at hjx;exact h1.pin j b o hN hjx hc hb
theorem yey{c:Code}{Q:Exit->SS->Prop}{t':List (Nat × AV)}{h':List (Nat × Option LObj)}(jb k:Nat){id size len:Nat}{xs ys ys':List AV}(rows:List (List AV))(hj:yac h jb=some (.cells ys))(hk:ys[k]?=some (.ls id size len))(hx:yac h id=some (.vec xs))(hlen:rows.length=len)(hsize:∀ row∈rows,row.length=size)(hfl:rows.flatten=xs)
  (ht:yvo id t=some t') (hh:yql id h=some h') (hj':yac ((id,none)::h') jb=some (.cells ys')) (hyl:Nat.beq ys'.length ys.length=true) (k:A P N c Q (S t' ((jb,some (.cells (ys'.set k (.sl size rows))))::(id,none)::h'))):A P N c Q (S t h):=by
 intro B ok0 lv a w hs;obtain⟨g1,g2⟩:=yib ht;obtain⟨lv',hs'⟩:=hs.freezeC (s':=S t' ((id,none)::h')) hj hk hx hlen hsize hfl (fun x y hy=>(g1 x y hy).imp (fun h=>h) And.left) g2 (by simp[S,yac]) hj' (qaf hyl) (fun j ob' hj=>by
  simp only[S,yac]at hj
  split at hj
  .cases hj
  exact(yfs hh j ob' hj).2)
 refine k B ok0 lv' a w ?_;rw[<- S_h];exact hs'
end
section
variable{P:Program}{N:Nat}{ops:Array Oper}{lf:Oper->Bool}{Q Q0:SS->Prop}
def zza(ops:Array Oper)(lf:Oper->Bool)(k:Nat)(listed:Array Bool):Bool:=
 (Region.ready .any ops listed).contains k && (match ops[k]? with
   | none=>false
   | some o=>(if lf o then Region.ready .any ops listed == [k]else(List.range ops.size).all fun j=>j == k || listed.getD j true || yhk ops ops.size j k || match ops[j]? with
    | some oj=>o.apart ops oj && !lf oj
    | none=>true))
def zrg(ops:Array Oper)(lf:Oper->Bool):List Nat->Array Bool->Bool
 | [],_=>true
 | k::ks,listed=>zza ops lf k listed && zrg ops lf ks (listed.setIfInBounds k true)
def yha:List Nat->Array Bool->Array Bool
 | [],listed=>listed
 | k::ks,listed=>yha ks (listed.setIfInBounds k true)
theorem anyA_pre{l:List Oper}{s:SS}{fuel:Nat}(h:Lex P N ops lf Q0 l s)(hD:∀ (k:Nat) (o:Oper),ops[k]?=some o->yxs N o):∀ (ks:List Nat) (listed:Array Bool),(∀ j:Nat,l[j]?=(ks[j]?).bind (fun k:Nat=>ops[k]?))->ks.length=l.length->yqc ops listed ->
  (yqc ops (yha ks listed)->∀ s',Q0 s'->xay P N ops lf Q fuel (yha ks listed) s')->zrg ops lf ks listed=true->xay P N ops lf Q (l.length+fuel) listed s:=by
 induction h with
 | @nil s h=>
  intro ks listed hl hlen hcl hend hB;have:ks=[]:=qax (by simpa using hlen);subst this;simpa[yha]using hend hcl s h
 | @split l s d b hb k ih=>
  intro ks listed hl hlen hcl hend hB;have:=ih b rfl ks listed hl hlen hcl hend hB;rw[ykh hb]at this;exact this
 | @calm o l s r hw hd hy k ih=>
  intro ks listed hl hlen hcl hend hB
  match ks,hlen with
  | k::ks,hlen=>
   have h0:ops[k]?=some o:=by simpa using(hl 0).symm
   simp only[zrg,zza,h0,qad]at hB;obtain⟨⟨hr,hf⟩,hB'⟩:=hB;have hr':k∈Region.ready .any ops listed:=by simpa using hr
   have hk:=ih ks (listed.setIfInBounds k true) (fun j=>by have:=hl (j+1);simpa using this) (by simpa using hlen) (hcl.set hr') hend hB';rw[qaj,Nat.add_right_comm];by_cases hlo:lf o=true
   .simp only[hlo,if_true,beq_iff_eq]at hf;refine⟨fun h=>(by rw[hf]at h;cases h),fun i hi=>?_⟩;rw[hf]at hi;simp only[qau]at hi;subst hi;unfold aOp;simp only[h0];exact⟨hd,.inl ⟨r,.inl ⟨hw,hy⟩,hk⟩⟩
   simp only[hlo]at hf;refine yrs h0 hd (l.length+fuel) listed s hcl ?_ hr' (.inl ⟨hw,hy⟩) hk;intro j oj hj hne hun;simp only[qbj,if_false,List.all_eq_true,qbt]at hf;have:=hf j (qaz.1 hj).1;simp only[hj,hun,qck,beq_iff_eq,hne,false_or,qbj,qad,qbn,or_false]at this;exact this
 | @skip o l s hw hd k ih=>
  intro ks listed hl hlen hcl hend hB
  match ks,hlen with
  | k::ks,hlen=>
   have h0:ops[k]?=some o:=by simpa using(hl 0).symm
   simp only[zrg,zza,h0,qad]at hB;obtain⟨⟨hr,hf⟩,hB'⟩:=hB;have hr':k∈Region.ready .any ops listed:=by simpa using hr
   have hk:=ih ks (listed.setIfInBounds k true) (fun j=>by have:=hl (j+1);simpa using this) (by simpa using hlen) (hcl.set hr') hend hB';rw[qaj,Nat.add_right_comm];by_cases hlo:lf o=true
   .simp only[hlo,if_true,beq_iff_eq]at hf;refine⟨fun h=>(by rw[hf]at h;cases h),fun i hi=>?_⟩;rw[hf]at hi;simp only[qau]at hi;subst hi;unfold aOp;simp only[h0];exact⟨hd,.inl ⟨.v undef,.inr ⟨hw,rfl⟩,hk⟩⟩
   simp only[hlo]at hf;refine yrs h0 hd (l.length+fuel) listed s hcl ?_ hr' (.inr ⟨hw,rfl⟩) hk;intro j oj hj hne hun;simp only[qbj,if_false,List.all_eq_true,qbt]at hf;have:=hf j (qaz.1 hj).1;simp only[hj,hun,qck,beq_iff_eq,hne,false_or,qbj,qad,qbn,or_false]at this;exact this
 | @loud o l s R hlo hw hy k ih=>
  intro ks listed hl hlen hcl hend hB
  match ks,hlen with
  | k::ks,hlen=>
   have h0:ops[k]?=some o:=by simpa using(hl 0).symm
   simp only[zrg,zza,h0,qad]at hB;obtain⟨⟨hr,hf⟩,hB'⟩:=hB;have hr':k∈Region.ready .any ops listed:=by simpa using hr
   simp only[hlo,if_true,beq_iff_eq]at hf;rw[qaj,Nat.add_right_comm];refine⟨fun h=>(by rw[hf]at h;cases h),fun i hi=>?_⟩;rw[hf]at hi;simp only[qau]at hi;subst hi;unfold aOp;simp only[h0];exact⟨hD _ _ h0,.inr ⟨hlo,hw,R,hy,fun s' hs'=>ih s' hs' ks (listed.setIfInBounds i true) (fun j=>by have:=hl (j+1);simpa using this) (by simpa using hlen) (hcl.set hr') hend hB'⟩⟩
def zub(ops:Array Oper):List Nat->List Oper->Prop
 | [],[]=>True
 | k::ks,o::l=>ops[k]?=some o/\zub ops ks l
 | _,_=>False
theorem yal:zub ops [] []:=trivial
theorem yaa{k:Nat}{ks:List Nat}{o:Oper}{l:List Oper}(h:ops[k]?=some o)(hl:zub ops ks l):zub ops (k::ks) (o::l):=⟨h,hl⟩
theorem zqv{ks:List Nat}:∀ {l:List Oper},zub ops ks l->ks.length=l.length/\∀ j:Nat,l[j]?=(ks[j]?).bind (fun k:Nat=>ops[k]?):=by
 induction ks with
 | nil=>
  intro l h;cases l with
  | nil=>exact⟨rfl,fun j=>by simp⟩
  | cons o l=>exact h.elim
 | cons k ks ih=>
  intro l h;cases l with
  | nil=>exact h.elim
  | cons o l=>
   obtain⟨h1,h2⟩:=ih h.2;refine⟨by simp[h1],fun j=>?_⟩;cases j with
   | zero=>simp only[qas,qej,h.1]
   | succ j=>simpa using h2 j
def xax(P:Program)(N:Nat)(ops:Array Oper)(lf:Oper->Bool)(Q:SS->Prop)(fuel:Nat)(listed:Array Bool)(s:SS):Prop:=
 (∀ (k:Nat) (o:Oper),ops[k]?=some o->yxs N o)->yqc ops listed->xay P N ops lf Q fuel listed s
theorem ybg{P:Program}{N:Nat}{Q:Exit->SS->Prop}{s:SS}{lf:Oper->Bool}(hm:P.follows .mixedOrders=true){id:Nat}{l:List Oper}(hD:ytk N l=true)(k:xax P N l.toArray lf (Q .normal) l.length (Array.replicate l.length false) s):A P N (.region id l.toArray true) Q s:=by
 intro B ok0 lv ac w hs;have hDst:∀ (k:Nat) (o:Oper),l.toArray[k]?=some o->yxs N o:=fun k o ho d hd=>by
  simp only[ytk,qad,List.all_eq_true]at hD;have:=hD.1 o (by have:=qhb ho;simpa using this);simp only[hd,qhf]at this;exact this
 have hnd:yht l=true:=by simp only[ytk,qad]at hD;exact hD.2
 refine wpIn_region_any hm ?_;have key:=k hDst (fun k o hk=>by
  simp only[qar,qgl]at hk
  split at hk <;> simp at hk)
 have:=ykz (n:=0) (yup hnd) (Q':=fun e a' w'=>∃ s' lv',Q e s'/\Sim B ok0 N s' lv' a' w') (fun s lv a w hq hs=>⟨s,lv,hq,hs⟩) l.length _ s lv ac _ (hs.drew (w':={ w with drawn:=w.drawn+1 }) ⟨rfl,rfl,rfl,qbf _,fun _ _=>rfl⟩) key;simpa using this
theorem yeq(ks:List Nat)(fuel:Nat){n:Nat}{listed:Array Bool}{l:List Oper}{s:SS}(hn:zub ops ks l)(hf:n=l.length+fuel)(hB:zrg ops lf ks listed=true)(k:Lex P N ops lf (xax P N ops lf Q fuel (yha ks listed)) l s):xax P N ops lf Q n listed s:=by
 intro hD hcl;subst hf;obtain⟨p1,p2⟩:=zqv hn;exact anyA_pre k hD ks listed p2 p1 hcl (fun hc s' h=>h hD hc) hB
theorem yaz(ks:List Nat){n:Nat}{listed:Array Bool}{l:List Oper}{s:SS}(hn:zub ops ks l)(hf:n=l.length)(hB:ywo ops lf ks listed=true)(k:Lex P N ops lf Q l s):xax P N ops lf Q n listed s:=by
 intro hD hcl;subst hf;obtain⟨p1,p2⟩:=zqv hn;exact zvm k hD ks listed p2 p1 hcl hB
def ztm(P:Program)(N:Nat)(ops:Array Oper)(lf:Oper->Bool)(Q:SS->Prop)(fuel:Nat)(listed:Array Bool)(s:SS):List Nat->Prop
 | []=>True
 | k::ks=>(∃ o,ops[k]?=some o/\Lex P N ops lf (xax P N ops lf Q fuel (listed.setIfInBounds k true)) [o] s)/\ztm P N ops lf Q fuel listed s ks
theorem zds{fuel:Nat}{listed:Array Bool}{s:SS}:∀ {ks:List Nat},ztm P N ops lf Q fuel listed s ks->∀ k∈ks,∃ o,ops[k]?=some o/\Lex P N ops lf (xax P N ops lf Q fuel (listed.setIfInBounds k true)) [o] s
 | [],_,k,h=>by cases h
 | x::ks,hh,k,h=>by
  rcases qaq.1 h with rfl|h
  .exact hh.1
  exact zds hh.2 k h
theorem aOp_one{l:List Oper}{s:SS}{Q0:SS->Prop}(h:Lex P N ops lf Q0 l s)(hD:∀ (k:Nat) (o:Oper),ops[k]?=some o->yxs N o):∀ (o:Oper),l=[o]->∀ (k:Nat),ops[k]?=some o->aOp P N ops lf k Q0 s:=by
 have nilQ:∀ {s:SS},Lex P N ops lf Q0 [] s->Q0 s:=by
  intro s h;generalize hl:([]:List Oper)=l at h;induction h with
  | nil h=>exact h
  | calm=>cases hl
  | skip=>cases hl
  | loud=>cases hl
  | @split l s d b hb k ih=>
   have:=ih b rfl hl;rw[ykh hb]at this;exact this
 induction h with
 | nil h=>intro o hl;cases hl
 | @split l s d b hb k ih=>
  intro o hl k h0;have:=ih b rfl o hl k h0;rw[ykh hb]at this;exact this
 | @calm o l s r hw hd hy k ih=>
  intro o' hl k' h0;cases hl;unfold aOp;simp only[h0];exact⟨hd,.inl ⟨r,.inl ⟨hw,hy⟩,nilQ k⟩⟩
 | @skip o l s hw hd k ih=>
  intro o' hl k' h0;cases hl;unfold aOp;simp only[h0];exact⟨hd,.inl ⟨.v undef,.inr ⟨hw,rfl⟩,nilQ k⟩⟩
 | @loud o l s R hlo hw hy k ih=>
  intro o' hl k' h0;cases hl;unfold aOp;simp only[h0];exact⟨hD _ _ h0,.inr ⟨hlo,hw,R,hy,fun s' hs'=>nilQ (k s' hs')⟩⟩
theorem yax(ks:List Nat)(fuel:Nat){n:Nat}{listed:Array Bool}{s:SS}(hf:n=fuel+1)(hr:Region.ready .any ops listed=ks)(hne:ks≠[])(k:ztm P N ops lf Q fuel listed s ks):xax P N ops lf Q n listed s:=by
 intro hD hcl;subst hf;refine⟨fun h=>absurd (hr.symm.trans h) hne,fun i hi=>?_⟩;obtain⟨o,ho,hL⟩:=zds k i (hr ▸ hi);exact zvf (fun s' h=>h hD (hcl.set hi)) (aOp_one hL hD o rfl i ho)
def Mid(t0:List (Nat × AV))(h0:List (Nat × Option LObj))(e:Exit)(s:SS):Prop:=e=.normal/\Sub (S t0 h0) s
theorem mid{t0 t:List (Nat × AV)}{h0 h:List (Nat × Option LObj)}(h1:zap t t0)(h2:yxr h h0):Mid t0 h0 .normal (S t h):=⟨rfl,ycd h1,yah h2⟩
theorem zmv{α:Type}{f:α->List AV}{k:Nat}(hf:∀ x,(f x).length=k):∀ l:List α,(l.map f).flatten.length=l.length * k
 | []=>by simp
 | x::l=>by simp[hf x,qdi,qda,<- zmv hf l]
end
end
section
open Go.RowKit
section
variable{P:Program}{T:Nat->Option Ty}{N:Nat}{ops:Array Oper}{lf:Oper->Bool}{Q:SS->Prop}{t:List (Nat × AV)}{h:List (Nat × Option LObj)}{rest:List Oper}{d:Nat}{op:Op}{ty:TypeId}{pos:String}{af:Array Edge}{gd:Option (Nat × Bool)}{r:AV}
theorem L_u8(hT:TOK P T){z:Int}(hr:ysz T t h op ty=some (.v (.int .u8 (IntKind.u8.wrap z))))(h0:0<=z/\z<=255)(hw:yam ops (yak t) ⟨some d,op,ty,pos,af,gd⟩=some true)(hd:Nat.blt d N=true)(k:Lex P N ops lf Q rest (S ((d,.v (.int .u8 z))::t) h)) :
  Lex P N ops lf Q (⟨some d,op,ty,pos,af,gd⟩::rest) (S t h):=by
 refine znx hT hr hw hd ?_;have e:IntKind.u8.wrap z=z:=by
  show z % 256=z;omega
 rw[e];exact k
theorem znt{Q:Exit->SS->Prop}(jb k id size:Nat){ys:List AV}(hj:yac h jb=some (.cells ys))(hk:ys[k]?=some (.v (.slice none 0 0)))(h1:ydl id t=true)(h2:ybs id h=true)(hne:Nat.beq jb id=false)(kk:A P N c Q (S t ((jb,some (.cells (ys.set k (.ls id size 0))))::(id,some (.vec []))::h))):A P N c Q (S t h):=by
 intro B ok0 lv a w hs;obtain⟨lv',hs1,hnil⟩:=hs.ownH (ygc (t:=t) (h:=h) h1 h2);have hnj:jb≠id:=fun e=>by subst e;simp at hne
 have hj1:yei (yac h) id (some (.vec [])) jb=some (.cells ys):=by simp only[yei,hnj,if_false];exact hj
 refine kk B ok0 lv' a w ?_;rw[<- S_h];obtain⟨bo,n,k1,k2⟩:=hs1.inv.obj jb _ hj1;cases bo with
 | none=>simp[yge]at k2
 | some b=>
  obtain⟨q1,q2,cc,e,q3,q4,q5,q6,q7⟩:=k2;have hkl:=(qaa.1 hk).1;have hkc:k < cc.size:=by omega
  have hold:=ykw (q7 k _ cc[k] hk (by simp[hkc]));have hnew:=hnil size;rw[<- hold]at hnew;have hS:yac ((id,some (.vec []))::h)=yei (yac h) id (some (.vec [])):=(yjg id _ h).symm;refine⟨⟨hs1.inv.base,hs1.inv.ok0lt,fun j hjn=>?_,hs1.inv.inj,fun j x hxj=>?_⟩,hs1.size,hs1.frame,hs1.defers,hs1.big,fun j b' o hN hjx hc hb'=>?_⟩
  .by_cases hjj:j=jb
   .subst hjj;simp[yei]at hjn
   simp only[yei,hjj,if_false,hS]at hjn;exact hs1.inv.dom j hjn
  .by_cases hjj:j=jb
   .subst hjj;simp only[yei,if_true,Option.some.injEq]at hxj;subst hxj;refine⟨some b,n,k1,q1,q2,cc,e,q3,q4,by simpa using q5,fun x hxm=>?_,fun i x u hi hu=>?_⟩
    .rcases qeu hxm with hm|hm
     .exact q6 x hm
     subst hm;rfl
    rw[qdb]at hi;split at hi
    .rename_i e1;subst e1;cases hi;simp only[hkc,qbk,Option.some.injEq]at hu;subst hu;exact hnew
    exact q7 i x u hi hu
   simp only[yei,hjj,if_false,hS]at hxj;exact hs1.inv.obj j x hxj
  by_cases hjj:j=jb
  .subst hjj;exact hs1.pin j b' _ hN hj1 rfl hb'
  simp only[yei,hjj,if_false,hS]at hjx;exact hs1.pin j b' o hN hjx hc hb'
end
def zuj(T:Nat->Option Ty)(s:SS):ResultVar->Option AV
 | .tmp t=>evF s.t (.tmp t)
 | .cell b t=>match T t with
  | some y=>match evF s.t (.tmp b)with
   | some (.lp id off)=>match yti (s.h id)with
    | some xs=>ztn y.agg y.size (xs.drop off)
    | none=>none
   | _=>none
  | none=>none
def xam(T:Nat->Option Ty)(s:SS):List ResultVar->Option (List AV)
 | []=>some []
 | r::rs=>match zuj T s r,xam T s rs with
  | some x,some xs=>some (x::xs)
  | _,_=>none
def yrf(T:Nat->Option Ty)(s:SS)(rs:List ResultVar):Option AV:=
 match xam T s rs with
 | some [x]=>some x
 | some xs=>some (.tup xs)
 | none=>none
theorem resOneT_run(hT:TOK P T)(hs:Sim B ok0 N s lv a w){r:ResultVar}{x:AV}(h:zuj T s r=some x):∃ u,Rel (yba B ok0 lv w) w lv x u/\(xbb a.tmps r).run P w=.ok u w:=by
 cases r with
 | tmp t=>exact⟨_,hs.eval (x:=.tmp t) h,by simp[xbb,Act.eval]⟩
 | cell b t=>
  simp only[zuj]at h;split at h
  .rename_i y hy;split at h
   .rename_i id off hb;split at h
    .rename_i xs hx;obtain⟨g1,g2⟩:=ygf hx;obtain⟨b',n,k1,k2,k3⟩:=yhr hs.inv g1 g2 (hs.eval (x:=.tmp b) hb);have k4:=k3.drop off;rw[qay]at k4;obtain⟨u,k5,k6⟩:=ymt (hT _ _ hy).1 k4 h;have k2':a.tmps.getD b undef=.pointer (some ⟨b',off,none⟩):=k2;exact⟨u,k6,by simp[xbb,k2',asAddr,k5]⟩
    cases h
   cases h
  cases h
theorem zrn(hT:TOK P T)(hs:Sim B ok0 N s lv a w):∀ (rs:List ResultVar) (xs:List AV),xam T s rs=some xs ->
  ∃ us:List Value,ybn (yba B ok0 lv w) w lv xs us/\(rs.mapM (xbb a.tmps)).run P w=.ok us w
 | [],xs,h=>by simp only[xam,Option.some.injEq]at h;subst h;exact⟨[],⟨rfl,fun i x u h=>by simp at h⟩,sm⟩
 | r::rs,xs,h=>by
  simp only[xam]at h;split at h
  .rename_i x xs' h1 h2;simp only[Option.some.injEq]at h;subst h;obtain⟨us,hus,hrun⟩:=zrn hT hs rs xs' h2;obtain⟨u,hu,hrun1⟩:=resOneT_run hT hs h1;refine⟨u::us,⟨by simp[hus.1],fun i y v hy hv=>?_⟩,?_⟩
   .cases i with
    | zero=>simp only[qas,Option.some.injEq]at hy hv;subst hy hv;exact hu
    | succ i=>exact hus.2 i y v (by simpa using hy) (by simpa using hv)
   simp only[List.mapM_cons,Sem.run_bind,hrun1,Sem.run_pure,Result.andThen_ok,hrun]
  cases h
theorem yrg(hT:TOK P T)(hs:Sim B ok0 N s lv a w){fn:Func}{rs:List ResultVar}(hr:fn.results=rs.toArray){x:AV}(h:yrf T s rs=some x):
  ∃ u,Rel (yba B ok0 lv w) w lv x u/\(results fn a.tmps).run P w=.ok u w:=by
 unfold yrf at h;have key:∀ xs,xam T s rs=some xs->∃ us:List Value,ybn (yba B ok0 lv w) w lv xs us/\(results fn a.tmps).run P w=.ok (if h:us.toArray.size=1 then us.toArray[0]else .tuple us.toArray) w:=by
  intro xs hx;obtain⟨us,h1,h2⟩:=zrn hT hs rs xs hx;refine⟨us,h1,?_⟩;have e:results fn a.tmps=(fn.results.mapM (xbb a.tmps) >>= fun vs=>pure (if h:vs.size=1 then vs[0]else .tuple vs)):=rfl;have e2:(List.toArray <$> rs.mapM (xbb a.tmps))=(rs.mapM (xbb a.tmps) >>= fun l=>pure l.toArray):=rfl;rw[e,hr,List.mapM_toArray,e2];simp only[Sem.run_bind,h2,Result.andThen_ok,Sem.run_pure]
 split at h
 .rename_i y hy;simp only[Option.some.injEq]at h;subst h;obtain⟨us,h1,h2⟩:=key _ hy
  match us,h1 with
  | [u],h1=>exact⟨u,h1.2 0 _ _ rfl rfl,by simpa using h2⟩
 .rename_i xs hne hy;simp only[Option.some.injEq]at h;subst h;obtain⟨us,h1,h2⟩:=key _ hy;refine⟨.tuple us.toArray,.tup us h1.1 h1.2,?_⟩;rw[h2,dif_neg];intro h;have hl:=h1.1;simp only[qdg]at h;rw[h]at hl
  match xs,hl with
  | [x],_=>exact hne x rfl
 cases h
def EndsT(T:Nat->Option Ty)(rs:List ResultVar)(y:AV):Exit->SS->Prop
 | .normal,s=>∃ x,yrf T s rs=some x/\Frz s.h x y
 | .ret,s=>∃ x,yrf T s rs=some x/\Frz s.h x y
 | _,_=>False
theorem ycx {T:Nat → Option Ty} (hT : TOK P T) {fn:Func} {rs:List ResultVar} {r:AV} (hf : P.funcs[f]? = some fn) (hn : (fn.name == "runtime.NumGoroutine") = false) (hb : fn.body = some c) (hN : fn.ntmps = N) (hrs : fn.results = rs.toArray) (hlen : (Nat.ble args.length N && Nat.ble N 1000000) = true) (hp : yas r = true) (h:A P N c (EndsT T rs r) (S (yfj 0 args) [])):Con P f args r:=by
 refine⟨⟨fn,hf,hn,by simp[hb]⟩,hp,fun ok0 w us hG hok hus=>?_⟩;simp only[qad,qdr]at hlen;obtain⟨hlen',hbig⟩:=hlen;refine(callsIn_wide (n:=0)).1 (callsIn_of_wp_marks hf hb trivial ?_);have hst:S (yfj 0 args) []=⟨zte args,fun _=>none⟩:=by unfold S;rw[ylb];rfl
 have hs:Sim (xgp w) ok0 N (S (yfj 0 args) []) (fun _=>none) { tmps:=us.toArray++Array.replicate (fn.ntmps - us.toArray.size) undef,defers:=[] } w:=by
  rw[hst];refine⟨⟨Based.start hG,hok,fun _ _=>rfl,(fun i j b n m h=>by cases h),(fun id x hx=>by cases hx)⟩,?_,fun x y hy=>?_,⟨[],rfl,qdu,fun d hd=>by cases hd⟩,hbig,fun id b xs _ hx=>by cases hx⟩
  .simp [hN,hus.1];omega
  have hlt:=(qaa.1 hy).1;refine⟨.inl om,?_⟩;rw[ydx,if_pos om];obtain⟨u,hu⟩:∃ u,us[x]?=some u:=⟨_,qae (by rw[hus.1];exact hlt)⟩;simp only[yfm us _ x u hu];exact(hus.2 x y u hy hu).keep fun g hg=>⟨⟨.inl hg,hok g hg,fun id b n hb=>by cases hb⟩,rfl⟩
 refine wpIn_mono (h _ ok0 _ _ w hs) fun e a' w' ⟨s',lv',hq,hs'⟩=>?_;have fin:∀ x,yrf T s' rs=some x->Frz s'.h x r->∀ (a':Act) (w':World),Sim (xgp w) ok0 N s' lv' a' w'->∃ v,(results fn a'.tmps).run P w'=.ok v w'/\∃ u,Ending.returned v=.returned u/\Rel (fun g=>(ok0 g\/w.heap.size<=g)/\g < w'.heap.size) w' (fun _=>none) r u/\Below w.heap.size w w':=by
  intro x hx hfz a' w' hs';obtain⟨u,hu,hrun⟩:=yrg hT hs' hrs hx;exact⟨u,hrun,u,rfl,(hfz _ _ _ _ _ hs'.inv hu).keep (fun g hg=>⟨⟨hg.1.imp (fun h=>h) (fun h=>h.elim (fun h=>h.elim) (fun h=>h)),hg.2⟩,rfl⟩),hs'.inv.base.below⟩
 cases e with
 | normal=>obtain⟨x,hx,hfz⟩:=hq;exact yck rfl rfl (fin x hx hfz) _ a' w' rfl hs'
 | ret=>obtain⟨x,hx,hfz⟩:=hq;exact yck rfl rfl (fin x hx hfz) _ a' w' rfl hs'
 | _=>exact hq.elim
end
end Go.Proofs.YtgpodcjhgdionaaGreatDoor
