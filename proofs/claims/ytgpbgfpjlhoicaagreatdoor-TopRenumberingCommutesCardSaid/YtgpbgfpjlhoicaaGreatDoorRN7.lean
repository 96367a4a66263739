/- Part 7 of the texts under TopRenumberingCommutes: joined, with what it needs alone. -/
import Derived.Maps.RangeRun
import Derived.Maps.Keyed
import Derived.Carry
import GoSem.Core.Utf8
import Derived.Laws.BytesArg
import Derived.Lib.AppendStr
import Derived.Lib.UnsafeStr
import Derived.Lib.Builder
import Derived.Laws.Externs
import Derived.Laws.Pointers
import Derived.LaidEqlPtr
import Derived.Test.YtgpbgfpjlhoicaaGreatDoorRN6
set_option linter.unusedVariables false
namespace Go.Proofs.YtgpbgfpjlhoicaaGreatDoor
section
open Go.RowKit Go.Maps
def zkj (P:Program) (N:Nat) (c:Code) (Q:Exit→SS→Prop) (s:SS):Prop:=
 ∀ (B:Bse) (ok0:Nat→Prop) (lv:Live) (a:Act) (w:World),Sim B ok0 N s lv a w→∀ (b:Frame) (k:List Item) (cs:List Frame),b.roundOf=(FW B.rd).round→(FW B.rd).fn b.fn→(FW B.rd).room (cs.length+1+0) →
  ∃ e a' w',(∃ s' lv',Q e s'∧Sim B ok0 N s' lv' a' w')∧ArrivesIn (Machine.fenced P (FW B.rd)) P (lone (b.atR a (.code c::.inLoop c::k)) cs w) b k cs e a' w'
def RndL (P:Program) (N:Nat) (c:Code) (Q:Exit→SS→Prop):Exit→SS→Prop
 | .normal,s=>zkj P N c Q s
 | e,s=>Q e s
theorem zqj {P:Program} {N:Nat} {c:Code} {Q:Exit→SS→Prop} {s:SS} (h:zkj P N c Q s):A P N (.loop c) Q s:=by
 intro B ok0 lv a w hs b k cs hro hfn hroom
 obtain ⟨e,a',w',hq,harr⟩:=h B ok0 lv a w hs b k cs hro hfn hroom
 exact ⟨e,a',w',hq,.of_steps (.one (fenced_calm hfn hroom rfl) stepR_loop) harr⟩
theorem ypb {P:Program} {N:Nat} {c:Code} {Q:Exit→SS→Prop} {s:SS} (h:A P N c (RndL P N c Q) s):zkj P N c Q s:=by
 intro B ok0 lv a w hs b k cs hro hfn hroom
 obtain ⟨e,a₁,w₁,⟨s₁,lv₁,hq,hs₁⟩,harr⟩:=h B ok0 lv a w hs b (.inLoop c::k) cs hro hfn hroom
 cases e with
 | normal=>
  obtain ⟨e₂,a₂,w₂,hq₂,harr₂⟩:=hq B ok0 lv₁ a₁ w₁ hs₁ b k cs hro hfn hroom
  exact ⟨e₂,a₂,w₂,hq₂,.of_steps (StepsIn.trans harr (.one (fenced_calm hfn hroom rfl) stepR_inLoop)) harr₂⟩
 | exit id=>exact ⟨_,a₁,w₁,⟨s₁,lv₁,hq,hs₁⟩,.pass (x:=.inLoop c) rfl (fun _ _=>.inl (by simp)) harr⟩
 | goto l=>exact ⟨_,a₁,w₁,⟨s₁,lv₁,hq,hs₁⟩,.pass (x:=.inLoop c) rfl (fun _ _=>.inl (by simp)) harr⟩
 | ret=>exact ⟨_,a₁,w₁,⟨s₁,lv₁,hq,hs₁⟩,.pass (x:=.inLoop c) rfl (fun _ _=>.inl (by simp)) harr⟩
 | panic ch=>exact ⟨_,a₁,w₁,⟨s₁,lv₁,hq,hs₁⟩,.pass (x:=.inLoop c) rfl (fun _ _=>.inl (by simp)) harr⟩
 | outgrown=>exact ⟨_,a₁,w₁,⟨s₁,lv₁,hq,hs₁⟩,.pass (x:=.inLoop c) rfl (fun _ _=>.inl (by simp)) harr⟩
theorem yxr {P:Program} {N:Nat} {c:Code} {Q:Exit→SS→Prop} {t t':List (Nat × AV)} {h h':List (Nat × Option LObj)} (k:zkj P N c Q (S t' h')) (h1:zbc t t') (h2:yuy h h'):zkj P N c Q (S t h):=by
 intro B ok0 lv a w hs b kk cs hro hfn hroom
 obtain ⟨lv',hs'⟩:=hs.weak (s':=S t' h') ⟨yco h1,yaq h2⟩
 exact k B ok0 lv' a w hs' b kk cs hro hfn hroom
section
variable {P:Program} {T:Nat→Option Ty} {N:Nat} {ops:Array Oper} {lf:Oper→Bool} {Q:SS→Prop} {t:List (Nat × AV)} {h:List (Nat × Option LObj)} {rest:List Oper} {d:Nat} {op:Op} {ty:TypeId} {pos:String} {af:Array Edge} {gd:Option (Nat × Bool)} {r:AV}
theorem ypa (hT:TOK P T) {ti n es sz:Nat} {ea ag:Bool} {z:List Value} {x y:Operand} {k:IntKind} {i:Int} {id off:Nat} {xs:List AV} (hk:T ti=some ⟨.arr n es ea,sz,ag,z⟩) (hx:evF (look t) x=some (.lp id off)) (hh:ycq (hlook h id)=some xs) (hne:xs≠[]) (hy:evF (look t) y=some (.v (.int k i))) (h0:0≤i) (h1:i < n)
  (hw:yaj ops (look t) ⟨some d,.indexAddr ti x y,ty,pos,af,gd⟩=some true) (hd:Nat.blt d N=true) (k:Lex P N ops lf Q rest (S ((d,.lp id (off+i.toNat * es))::t) h)):Lex P N ops lf Q (⟨some d,.indexAddr ti x y,ty,pos,af,gd⟩::rest) (S t h):=
 ycc (ymb (hT _ _ hk).2.2 hx hh (.inl hne) hy h0 h1) hw hd k
theorem zqi {c:Code} {Q:Exit→SS→Prop} (id:Nat) {xs:List AV} (ys:List AV) (hx:hlook h id=some (.cells xs)) (he:xs=ys) (hp:∀ y∈ys,yav y=true) (k:A P N c Q (S t ((id,some (.vec ys))::h))):A P N c Q (S t h):=by
 subst he
 intro B ok0 lv a w hs
 refine k B ok0 lv a w ⟨⟨hs.inv.base,hs.inv.ok0lt,fun j hj=>?_,hs.inv.inj,fun j x hj=>?_⟩,hs.size,hs.frame,hs.defers,hs.big,fun j b ws hN hj hc hb=>?_⟩
 ·refine hs.inv.dom j ?_
  simp only [S,hlook] at hj ⊢
  split at hj
  ·cases hj
  ·exact hj
 ·simp only [S,hlook] at hj
  split at hj
  ·rename_i hb
   cases hj
   have e:=Nat.eq_of_beq_eq_true hb
   subst e
   obtain ⟨b,n,h1,h2⟩:=hs.inv.obj j _ hx
   refine ⟨b,n,h1,?_⟩
   cases b with
   | none=>simp [ygo] at h2
   | some b=>exact ⟨h2.1,h2.2.1,h2.2.2,hp⟩
  ·exact hs.inv.obj j x hj
 ·simp only [S,hlook] at hj
  split at hj
  ·cases hj;cases hc
  ·exact hs.pin j b ws hN hj hc hb
theorem zak {w:World} {b:Nat} {o:Obj} (hb:b < w.heap.size):(ChangeMaps.setBlock w b o).heap[b]?=some o:=by
 simp [ChangeMaps.setBlock,hb]
theorem yqu {w:World} {b g:Nat} {o:Obj} (hg:g≠b):(ChangeMaps.setBlock w b o).heap[g]?=w.heap[g]?:=by
 simp [ChangeMaps.setBlock,Ne.symm hg]
theorem makeMap_loud {o:Oper} {ti:Nat} {s:SS} (ho:o.op=.makeMap ti none) (hd:o.dst=some d) (hdN:d < N) (id:Nat) (hf:ylg s id):ybr P N o s (·=⟨ydu s.t (some d) (.mp id),yeg s.h id (some (.map []))⟩):=by
 intro B ok0 lv a w hs Q
 have hrun:(execOp a.eval o).run P w=.ok (.value (.map (some w.heap.size))) (w.alloc (.map #[] 0)):=by
  simp [execOp,ho,run_makeMap]
 unfold Oper.wp
 rw [hrun]
 have hnew:=hs.newBlock (ob:=.map []) (n:=0) hf (ydm w (.map #[] 0)) (by simp) rfl (fun h=>by cases h) (fun ok' lv' g1 g2=>⟨#[],0,ydk w _,by simp,by simp,by simp⟩)
 simp only [Oper.upon,hd]
 exact ⟨_,_,rfl,hnew.putOnly hdN (.mp _ rfl fun b n hb=>by simp only [yip,if_true,Option.some.injEq,Prod.mk.injEq] at hb;rw [hb.1])⟩
theorem L_makeMap {ti:Nat} (h1:ydg d t=true) (h2:ybp d h=true) (hl:lf ⟨some d,.makeMap ti none,ty,pos,af,gd⟩=true) (hw:yaj ops (look t) ⟨some d,.makeMap ti none,ty,pos,af,gd⟩=some true) (hd:Nat.blt d N=true)
  (k:Lex P N ops lf Q rest (S ((d,.mp d)::t) ((d,some (.map []))::h))):Lex P N ops lf Q (⟨some d,.makeMap ti none,ty,pos,af,gd⟩::rest) (S t h):=
 yed hl hw (by rw [← yrb];exact makeMap_loud rfl rfl (by simpa using hd) d (ygy h1 h2)) k
inductive Found (z:Value) (es:List (Value × Value)) (key:Value):Value→Bool→Prop
 | hit {v:Value} (h1:∃ e∈es,e.1=key) (h2:∀ e∈es,e.1=key→e.2=v):Found z es key v true
 | miss (h:∀ e∈es,e.1≠key):Found z es key z false
theorem zcp {w:World} {b ti kt et:Nat} {es:List (Value × Value)} {key z v:Value} {kl:Lit} {okb cm:Bool} (hm:zwk w b es) (ht:P.underlying ti=some (.map kt et)) (K:Keyed P kt) (hks:∀ e∈es,∃ l,keyOf P kt e.1=some l) (hkey:keyOf P kt key=some kl) (hz:(zeroValue et).run P w=.ok z w) (hf:Found z es key v okb) :
  (Instr.lookup ti (.map (some b)) key cm).run P w=.ok (if cm then .tuple #[v,.bool okb] else v) w:=by
 obtain ⟨en,clock,h1,h2,h3,h4⟩:=hm
 have hks':∀ e∈en.toList,∃ l,keyOf P kt e.key=some l:=fun e he=>hks (e.key,e.val) (by rw [← h2];exact List.mem_map_of_mem (f:=fun e:MapEntry=>(e.key,e.val)) he)
 have hc:=K.check w en.isEmpty hkey
 have hfind:=K.find w hkey en.toList hks'
 have main:∀ (o:Option (Nat × Value)),(Instr.findKey kt key en.toList).run P w=.ok o w→((match o with|some (_,x)=>(x,true)|none=>(z,false))=(v,okb))→(Instr.lookup ti (.map (some b)) key cm).run P w=.ok (if cm then .tuple #[v,.bool okb] else v) w:=by
  intro o ho he
  have hg:(getObj b).run P w=.ok (.map en clock) w:=by simp [getObj,Sem.run,h1]
  simp only [Instr.lookup,Sem.run_bind,run_underlying ht,Result.andThen_ok,hg,Sem.run_pure,hc,ho]
  cases o with
  | none=>simp only [Prod.mk.injEq] at he;obtain ⟨rfl,rfl⟩:=he;simp only [Sem.run_bind,hz,Result.andThen_ok,Sem.run_pure]
  | some p=>simp only [Prod.mk.injEq] at he;obtain ⟨rfl,rfl⟩:=he;simp
 rcases hfind with ⟨g1,g2⟩|⟨j,e,g1,g2,g3⟩
 ·refine main none g1 ?_
  cases hf with
  | hit q1 q2=>
   obtain ⟨p,hp,hpk⟩:=q1
   rw [← h2] at hp
   obtain ⟨e,he,rfl⟩:=List.mem_map.1 hp
   exact absurd hpk (g2 e he)
  | miss q=>rfl
 ·refine main (some (j,e.val)) g1 ?_
  have hmem:(e.key,e.val)∈es:=by rw [← h2];exact List.mem_map_of_mem (f:=fun e:MapEntry=>(e.key,e.val)) (List.mem_of_getElem? g2)
  cases hf with
  | hit q1 q2=>rw [← q2 _ hmem g3]
  | miss q=>exact absurd g3 (q _ hmem)
def zsd (cm:Bool) (v:Value) (okb:Bool):AV:=if cm then .tup [.v v,.v (.bool okb)] else .v v
theorem zig {ok:Nat→Prop} {w:World} {lv:Live} (cm:Bool) (v:Value) (okb:Bool):Rel ok w lv (zsd cm v okb) (if cm then .tuple #[v,.bool okb] else v):=by
 cases cm
 ·exact .v v
 ·refine .tup [v,.bool okb] rfl fun i c u hc hu=>?_
  match i with
  | 0=>simp at hc hu;subst hc hu;exact .v _
  | 1=>simp at hc hu;subst hc hu;exact .v _
  | i+2=>simp at hc
theorem yield_lookup_mp {ρ:Operand→Option AV} {hp:Nat→Option LObj} {ti kt et id:Nat} {x y:Operand} {yv:AV} {es:List (Value × Value)} {key z v:Value} {kl:Lit} {okb cm:Bool} (ht:P.underlying ti=some (.map kt et)) (K:Keyed P kt) (hx:ρ x=some (.mp id)) (hid:hp id=some (.map es)) (hy:ρ y=some yv) (hyk:toV yv=some key)
  (hks:∀ e∈es,∃ l,keyOf P kt e.1=some l) (hkey:keyOf P kt key=some kl) (hz:∀ w,(zeroValue et).run P w=.ok z w) (hf:Found z es key v okb):ybo P hp ρ (.lookup ti x y cm) ty (zsd cm v okb):=
 yam fun B ok0 lv w a o ho hty hi hops=>by
  have hr:=hops x _ (by simp [Op.operands]) hx
  have hk:=yva hyk (hops y _ (by simp [Op.operands]) hy)
  obtain ⟨b,n,hb,hown⟩:=hi.obj id _ hid
  generalize hv:a.eval x=u at hr
  cases hr with
  | mp _ _ hmp=>
   cases b with
   | none=>simp [ygo] at hown
   | some b=>
    obtain rfl:=hmp b n hb
    refine ⟨_,?_,zig cm v okb⟩
    simp [execOp,ho,hv,hk,zcp (cm:=cm) hown.2.2 ht K hks hkey (hz w) hf]
theorem yield_lookup_mv {ρ:Operand→Option AV} {hp:Nat→Option LObj} {ti kt et:Nat} {x y:Operand} {yv:AV} {es:List (Value × Value)} {key z v:Value} {kl:Lit} {okb cm:Bool} (ht:P.underlying ti=some (.map kt et)) (K:Keyed P kt) (hx:ρ x=some (.mv es)) (hy:ρ y=some yv) (hyk:toV yv=some key)
  (hks:∀ e∈es,∃ l,keyOf P kt e.1=some l) (hkey:keyOf P kt key=some kl) (hz:∀ w,(zeroValue et).run P w=.ok z w) (hf:Found z es key v okb):ybo P hp ρ (.lookup ti x y cm) ty (zsd cm v okb):=
 yam fun B ok0 lv w a o ho hty hi hops=>by
  have hr:=hops x _ (by simp [Op.operands]) hx
  have hk:=yva hyk (hops y _ (by simp [Op.operands]) hy)
  generalize hv:a.eval x=u at hr
  cases hr with
  | mv b hg hm=>
   refine ⟨_,?_,zig cm v okb⟩
   simp [execOp,ho,hv,hk,zcp (cm:=cm) hm ht K hks hkey (hz w) hf]
theorem yxn {ti kt et id:Nat} {x y:Operand} {yv:AV} {es:List (Value × Value)} {key z v:Value} {kl:Lit} {okb cm:Bool} (ht:P.underlying ti=some (.map kt et)) (K:Keyed P kt) (hx:evF (look t) x=some (.mp id)) (hid:hlook h id=some (.map es)) (hy:evF (look t) y=some yv) (hyk:toV yv=some key)
  (hks:∀ e∈es,∃ l,keyOf P kt e.1=some l) (hkey:keyOf P kt key=some kl) (hz:∀ w,(zeroValue et).run P w=.ok z w) (hf:Found z es key v okb) (hw:yaj ops (look t) ⟨some d,.lookup ti x y cm,ty,pos,af,gd⟩=some true) (hd:Nat.blt d N=true)
  (k:Lex P N ops lf Q rest (S ((d,zsd cm v okb)::t) h)):Lex P N ops lf Q (⟨some d,.lookup ti x y cm,ty,pos,af,gd⟩::rest) (S t h):=ycc (yield_lookup_mp ht K hx hid hy hyk hks hkey hz hf) hw hd k
theorem L_lookup_mv {ti kt et:Nat} {x y:Operand} {yv:AV} {es:List (Value × Value)} {key z v:Value} {kl:Lit} {okb cm:Bool} (ht:P.underlying ti=some (.map kt et)) (K:Keyed P kt) (hx:evF (look t) x=some (.mv es)) (hy:evF (look t) y=some yv) (hyk:toV yv=some key)
  (hks:∀ e∈es,∃ l,keyOf P kt e.1=some l) (hkey:keyOf P kt key=some kl) (hz:∀ w,(zeroValue et).run P w=.ok z w) (hf:Found z es key v okb) (hw:yaj ops (look t) ⟨some d,.lookup ti x y cm,ty,pos,af,gd⟩=some true) (hd:Nat.blt d N=true)
  (k:Lex P N ops lf Q rest (S ((d,zsd cm v okb)::t) h)):Lex P N ops lf Q (⟨some d,.lookup ti x y cm,ty,pos,af,gd⟩::rest) (S t h):=ycc (yield_lookup_mv ht K hx hy hyk hks hkey hz hf) hw hd k
theorem update_loud {o:Oper} {ti kt et id:Nat} {x y v:Operand} {yv vv:AV} {es:List (Value × Value)} {key val:Value} {kl:Lit} {s:SS} (ho:o.op=.mapUpdate ti x y v) (hd:o.dst=none) (ht:P.underlying ti=some (.map kt et)) (K:Keyed P kt) (hx:evF s.t x=some (.mp id)) (hid:s.h id=some (.map es)) (hy:evF s.t y=some yv) (hyk:toV yv=some key) (hvv:evF s.t v=some vv) (hvk:toV vv=some val)
  (hks:∀ e∈es,∃ l,keyOf P kt e.1=some l) (hkey:keyOf P kt key=some kl) (hnew:∀ e∈es,e.1≠key):ybr P N o s (·=⟨s.t,yeg s.h id (some (.map (es++[(key,val)])))⟩):=by
 intro B ok0 lv a w hs Q
 have hk:=yva hyk (hs.eval hy)
 have hvl:=yva hvk (hs.eval hvv)
 have hr:=hs.eval hx
 obtain ⟨b,n,hb,hown⟩:=hs.inv.obj id _ hid
 generalize hv:a.eval x=u at hr
 cases hr with
 | mp _ _ hmp=>
  cases b with
  | none=>simp [ygo] at hown
  | some b=>
   obtain rfl:=hmp b n hb
   obtain ⟨hb1,hb2,en,clock,h1,h2,h3,h4⟩:=hown
   have hks':∀ e∈en.toList,∃ l,keyOf P kt e.key=some l:=fun e he=>hks (e.key,e.val) (by rw [← h2];exact List.mem_map_of_mem (f:=fun e:MapEntry=>(e.key,e.val)) he)
   have hfind:(Instr.findKey kt key en.toList).run P w=.ok none w:=by
    rcases K.find w hkey en.toList hks' with ⟨g1,_⟩|⟨j,e,_,g2,g3⟩
    ·exact g1
    ·exact absurd g3 (hnew (e.key,e.val) (by rw [← h2];exact List.mem_map_of_mem (f:=fun e:MapEntry=>(e.key,e.val)) (List.mem_of_getElem? g2)))
   have hg:(getObj b).run P w=.ok (.map en clock) w:=by simp [getObj,Sem.run,h1]
   have hrun:(execOp a.eval o).run P w=.ok .skip (ChangeMaps.setBlock w b (.map (en.push { key,val,born:=clock }) (clock+1))):=by
    have hset:(setObj b (.map (en.push { key,val,born:=clock }) (clock+1))).run P w=.ok () (ChangeMaps.setBlock w b (.map (en.push { key,val,born:=clock }) (clock+1))):=by simp [setObj,Sem.run,h1,ChangeMaps.setBlock]
    simp only [execOp,ho,hv,hk,hvl,Instr.mapUpdate,Sem.run_bind,run_underlying ht,Result.andThen_ok,hg,K.check w false hkey,hfind,hset,Sem.run_pure]
   unfold Oper.wp
   rw [hrun]
   simp only [Oper.upon,hd,Act.put]
   refine ⟨_,lv,rfl,hs.write (w':=ChangeMaps.setBlock w b (.map (en.push { key,val,born:=clock }) (clock+1))) hb rfl rfl rfl (by simp [ChangeMaps.setBlock]) (fun g hg=>yqu hg) (fun h=>by cases h) fun ok' hk=>?_⟩
   refine ⟨_,_,zak hb2,by simp [← h2],?_,fun e he=>?_⟩
   ·rw [Array.toList_push,List.map_append,List.nodup_append]
    refine ⟨h3,by simp,fun x hx y hy=>?_⟩
    obtain ⟨e,he,rfl⟩:=List.mem_map.1 hx
    simp at hy
    subst hy
    have:=h4 e he
    omega
   ·simp only [Array.toList_push,List.mem_append,List.mem_singleton] at he
    rcases he with he|rfl
    ·have:=h4 e he;omega
    ·simp
theorem L_mapUpdate {ti kt et id:Nat} {x y v:Operand} {yv vv:AV} {es:List (Value × Value)} {key val:Value} {kl:Lit} (ht:P.underlying ti=some (.map kt et)) (K:Keyed P kt) (hx:evF (look t) x=some (.mp id)) (hid:hlook h id=some (.map es)) (hy:evF (look t) y=some yv) (hyk:toV yv=some key) (hvv:evF (look t) v=some vv) (hvk:toV vv=some val)
  (hks:∀ e∈es,∃ l,keyOf P kt e.1=some l) (hkey:keyOf P kt key=some kl) (hnew:∀ e∈es,e.1≠key) (hl:lf ⟨none,.mapUpdate ti x y v,ty,pos,af,gd⟩=true) (hw:yaj ops (look t) ⟨none,.mapUpdate ti x y v,ty,pos,af,gd⟩=some true)
  (k:Lex P N ops lf Q rest (S t ((id,some (.map (es++[(key,val)])))::h))):Lex P N ops lf Q (⟨none,.mapUpdate ti x y v,ty,pos,af,gd⟩::rest) (S t h):=
 yed hl hw (by rw [← S_h];exact update_loud rfl rfl ht K hx hid hy hyk hvv hvk hks hkey hnew) k
theorem Sim.freezeMap {B:Bse} {ok0:Nat→Prop} {s:SS} {lv:Live} {a:Act} {w:World} (hs:Sim B ok0 N s lv a w) {d id:Nat} {es:List (Value × Value)} (hd:s.t d=some (.mp id)) (hx:s.h id=some (.map es))
  {s':SS} (ht:∀ x y,s'.t x=some y→y=.any∨s.t x=some y) (hlt:∀ x y,s'.t x=some y→∃ z,s.t x=some z) (hid:s'.h id=none) (hh:∀ j ob',s'.h j=some ob'→∃ ob,s.h j=some ob∧ymf ob ob'):∃ lv',Sim B ok0 N ⟨ydu s'.t (some d) (.mv es),s'.h⟩ lv' a w:=by
 obtain ⟨lv',h1,h2,h3,h4⟩:=hs.forg ht hlt hh
 refine ⟨lv',h1.inv,h1.size,fun x y hy=>?_,h1.defers,h1.big,h1.pin⟩
 simp only [ydu] at hy
 split at hy
 ·rename_i e
  subst e
  simp only [Option.some.injEq] at hy
  subst hy
  have hf:=hs.frame x _ hd
  refine ⟨hf.1,?_⟩
  have hr:=hf.2
  obtain ⟨b,n,hb,hown⟩:=hs.inv.obj id _ hx
  generalize ydl B a x=u at hr
  cases hr with
  | mp _ _ hmp=>
   cases b with
   | none=>simp [ygo] at hown
   | some b=>
    obtain rfl:=hmp b n hb
    refine .mv b ⟨.inr hown.1,hown.2.1,fun j b' m hj he=>?_⟩ hown.2.2
    subst he
    have:=hs.inv.inj j id b' m n (h2 j _ m hj) hb
    subst this
    rw [h1.inv.dom j hid] at hj
    cases hj
 ·exact h1.frame x y hy
theorem A_freezeMap {c:Code} {Q:Exit→SS→Prop} {t':List (Nat × AV)} {h':List (Nat × Option LObj)} (d:Nat) {id:Nat} {es:List (Value × Value)} (hd:look t d=some (.mp id)) (hx:hlook h id=some (.map es)) (ht:ysi id t=some t') (hh:yqb id h=some h') (k:A P N c Q (S ((d,.mv es)::t') ((id,none)::h'))):A P N c Q (S t h):=by
 intro B ok0 lv a w hs
 obtain ⟨g1,g2⟩:=yge ht
 obtain ⟨lv',hs'⟩:=hs.freezeMap (s':=S t' ((id,none)::h')) hd hx (fun x y hy=>(g1 x y hy).imp (fun h=>h) And.left) g2 (by simp [S,hlook]) (fun j ob' hj=>by
  simp only [S,hlook] at hj
  split at hj
  ·cases hj
  ·exact (yfb hh j ob' hj).2)
 rw [show (⟨ydu (S t' ((id,none)::h')).t (some d) (.mv es),(S t' ((id,none)::h')).h⟩:SS)=S ((d,.mv es)::t') ((id,none)::h') by unfold S;rw [ydb]] at hs'
 exact k B ok0 lv' a w hs'
theorem range_loud {o:Oper} {ti kt et:Nat} {x:Operand} {es:List (Value × Value)} {s:SS} (ho:o.op=.range ti x) (hd:o.dst=some d) (hdN:d < N) (id:Nat) (ht:P.underlying ti=some (.map kt et)) (hx:evF s.t x=some (.mv es)) (hf:ylg s id):ybr P N o s (·=⟨ydu s.t (some d) (.lp id 0),yeg s.h id (some (.iter es es none))⟩):=by
 intro B ok0 lv a w hs Q
 have hr:=hs.eval hx
 generalize hv:a.eval x=u at hr
 cases hr with
 | mv b hg hm=>
  obtain ⟨en,clock,h1,h2,h3,h4⟩:=hm
  have hgo:(getObj b).run P w=.ok (.map en clock) w:=by simp [getObj,Sem.run,h1]
  have hrun:(execOp a.eval o).run P w=.ok (.value (.pointer (some ⟨w.heap.size,0,none⟩))) (w.alloc (.mapIter (some b) clock #[] clock)):=by
   simp [execOp,ho,hv,Instr.range,run_underlying ht,hgo]
  unfold Oper.wp
  rw [hrun]
  have hnew:=hs.newBlock (ob:=.iter es es none) (n:=0) hf (ydm w (.mapIter (some b) clock #[] clock)) (by simp) rfl (fun h=>by cases h) (fun ok' lv' g1 g2=>by
   have hgb:=g1 b hg
   refine ⟨b,en,clock,#[],clock,hgb.1,by rw [hgb.2];exact h1,h2,h3,h4,ydk w _,Nat.le_refl _,?_,fun p hp=>by cases hp⟩
   have:(en.toList.filter fun e=>!(#[]:Array Nat).contains e.born)=en.toList:=by simp
   rw [this,h2])
  simp only [Oper.upon,hd]
  exact ⟨_,_,rfl,hnew.putOnly hdN (.lp _ rfl fun b n hb=>by simp only [yip,if_true,Option.some.injEq,Prod.mk.injEq] at hb;rw [hb.1])⟩
theorem L_range {ti kt et:Nat} {x:Operand} {es:List (Value × Value)} (ht:P.underlying ti=some (.map kt et)) (hx:evF (look t) x=some (.mv es)) (h1:ydg d t=true) (h2:ybp d h=true) (hl:lf ⟨some d,.range ti x,ty,pos,af,gd⟩=true) (hw:yaj ops (look t) ⟨some d,.range ti x,ty,pos,af,gd⟩=some true) (hd:Nat.blt d N=true)
  (k:Lex P N ops lf Q rest (S ((d,.lp d 0)::t) ((d,some (.iter es es none))::h))):Lex P N ops lf Q (⟨some d,.range ti x,ty,pos,af,gd⟩::rest) (S t h):=
 yed hl hw (by rw [← yrb];exact range_loud rfl rfl (by simpa using hd) d ht hx (ygy h1 h2)) k
theorem yield_entry {ρ:Operand→Option AV} {hp:Nat→Option LObj} {x:Operand} {id:Nat} {es left:List (Value × Value)} {p:Value × Value} (hx:ρ x=some (.lp id 0)) (hid:hp id=some (.iter es left (some p))):ybo P hp ρ (.entry x) ty (.tup [.v p.1,.v p.2]):=
 yam fun B ok0 lv w a o ho hty hi hops=>by
  have hr:=hops x _ (by simp [Op.operands]) hx
  generalize hv:a.eval x=u at hr
  obtain ⟨r,n,hb,hown⟩:=hi.obj id _ hid
  cases hr with
  | lp _ _ hlp=>
   cases r with
   | none=>simp [ygo] at hown
   | some r=>
    obtain rfl:=hlp r n hb
    obtain ⟨_,_,b,en,clock,seen,st,h2,h3,h4,h5,h6,h7,h8,h9,h10⟩:=hown
    obtain ⟨e,seen',g1,g2,g3,g4⟩:=h10 p rfl
    subst g2 g3 g4
    have hrun:=run_entry_at (P:=P) w r b st seen' en st e h7 h3 g1 h5
    refine ⟨.tuple #[e.key,e.val],by simp [execOp,ho,hv,hrun],?_⟩
    refine .tup [e.key,e.val] rfl fun i c u hc hu=>?_
    match i with
    | 0=>simp at hc hu;subst hc hu;exact .v _
    | 1=>simp at hc hu;subst hc hu;exact .v _
    | i+2=>simp at hc
theorem L_entry {x:Operand} {id:Nat} {es left:List (Value × Value)} {p:Value × Value} (hx:evF (look t) x=some (.lp id 0)) (hid:hlook h id=some (.iter es left (some p))) (hw:yaj ops (look t) ⟨some d,.entry x,ty,pos,af,gd⟩=some true) (hd:Nat.blt d N=true)
  (k:Lex P N ops lf Q rest (S ((d,.tup [.v p.1,.v p.2])::t) h)):Lex P N ops lf Q (⟨some d,.entry x,ty,pos,af,gd⟩::rest) (S t h):=ycc (yield_entry hx hid) hw hd k
theorem left_step {en:List MapEntry} {e:MapEntry} {seen:Array Nat} (hn:(en.map (·.born)).Nodup) (he:e∈en.filter fun e=>!seen.contains e.born) :
  List.Perm (en.filter fun e=>!seen.contains e.born) (e::en.filter fun x=>!(seen.push e.born).contains x.born):=by
 have hf:(en.filter fun x=>!(seen.push e.born).contains x.born)=(en.filter fun e=>!seen.contains e.born).filter fun x=>x.born != e.born:=by
  rw [List.filter_filter]
  apply List.filter_congr
  intro x hx
  rw [Bool.eq_iff_iff]
  simp
  constructor
  ·rintro ⟨h1,h2⟩;exact ⟨h2,h1⟩
  ·rintro ⟨h1,h2⟩;exact ⟨h2,h1⟩
 rw [hf]
 have hn':((en.filter fun e=>!seen.contains e.born).map (·.born)).Nodup:=hn.sublist ((List.filter_sublist).map _)
 generalize en.filter (fun e=>!seen.contains e.born)=l at he hn'
 induction l with
 | nil=>cases he
 | cons y l ih=>
  simp only [List.map_cons,List.nodup_cons] at hn'
  rcases List.mem_cons.1 he with rfl|he'
  ·have:(e::l).filter (fun x=>x.born != e.born)=l:=by
    simp only [List.filter_cons,bne_self_eq_false,Bool.false_eq_true,if_false]
    rw [List.filter_eq_self]
    intro x hx
    simp only [bne_iff_ne,ne_eq]
    intro hb
    exact hn'.1 (by rw [← hb];exact List.mem_map_of_mem (f:=(·.born)) hx)
   rw [this]
  ·have hne:(y.born != e.born)=true:=by
    simp only [bne_iff_ne,ne_eq]
    intro hb
    exact hn'.1 (by rw [hb];exact List.mem_map_of_mem (f:=(·.born)) he')
   simp only [List.filter_cons,hne,if_true]
   exact ((ih he' hn'.2).cons y).trans (List.Perm.swap e y _)
theorem next_loud {o:Oper} {x:Operand} {id:Nat} {es left:List (Value × Value)} {cur:Option (Value × Value)} {s:SS} (ho:o.op=.next x false) (hd:o.dst=some d) (hdN:d < N) (hx:evF s.t x=some (.lp id 0)) (hid:s.h id=some (.iter es left cur)) :
  ybr P N o s (fun s'=>(left=[]∧s'=⟨ydu s.t (some d) (.tup [.v (.bool false)]),s.h⟩)∨∃ p left',List.Perm left (p::left')∧s'=⟨ydu s.t (some d) (.tup [.v (.bool true),.v p.1,.v p.2]),yeg s.h id (some (.iter es left' (some p)))⟩):=by
 intro B ok0 lv a w hs Q
 have hr:=hs.eval hx
 generalize hv:a.eval x=u at hr
 obtain ⟨r,n,hb,hown⟩:=hs.inv.obj id _ hid
 cases hr with
 | lp _ _ hlp=>
  cases r with
  | none=>simp [ygo] at hown
  | some r=>
   obtain rfl:=hlp r n hb
   obtain ⟨hr1,hr2,b,en,clock,seen,st,h2,h3,h4,h5,h6,h7,h8,h9,h10⟩:=hown
   have hlo:(leftOf en seen).toList=en.toList.filter fun e=>!seen.contains e.born:=by simp [leftOf]
   unfold Oper.wp
   rcases run_next_at (P:=P) w o.type r b clock st seen en clock h7 h3 h6 h8 with ⟨g1,g2⟩|⟨e,g1,w1,g2,g3⟩
   ·have hleft:left=[]:=by
     have hz:(en.toList.filter fun e=>!seen.contains e.born)=[]:=by
      rw [← hlo]
      exact List.eq_nil_of_length_eq_zero (by simpa using g1)
     rw [hz] at h9
     exact h9.eq_nil
    have hrun:(execOp a.eval o).run P w=.ok (.value (.tuple #[.bool false])) w:=by
     simp only [execOp,ho,hv,Sem.run_bind,g2,Result.andThen_ok,Sem.run_pure]
    rw [hrun]
    simp only [Oper.upon,hd]
    refine ⟨_,lv,.inl ⟨hleft,rfl⟩,hs.putOnly hdN (.tup [.bool false] rfl fun i c u hc hu=>?_)⟩
    match i with
    | 0=>simp at hc hu;subst hc hu;exact .v _
    | i+1=>simp at hc
   ·have hrun:(execOp a.eval o).run P w=.ok (.value (.tuple #[.bool true,e.key,e.val])) (ChangeMaps.setBlock w1 r (.mapIter (some b) clock (seen.push e.born) clock)):=by
     simp only [execOp,ho,hv,Sem.run_bind,g3,Result.andThen_ok,Sem.run_pure]
    have hw1:w1.heap=w.heap∧w1.os=w.os∧w1.tape=w.tape∧w1.output=w.output:=by rcases g2 with rfl|rfl <;> exact ⟨rfl,rfl,rfl,rfl⟩
    generalize hw2:ChangeMaps.setBlock w1 r (.mapIter (some b) clock (seen.push e.born) clock)=w2 at hrun
    have hrlt:r < w1.heap.size:=by rw [hw1.1];exact hr2
    have hoth:∀ g,g≠r→w2.heap[g]?=w.heap[g]?:=fun g hg=>by rw [← hw2,yqu hg,hw1.1]
    have hat:w2.heap[r]?=some (.mapIter (some b) clock (seen.push e.born) clock):=by rw [← hw2];exact zak hrlt
    have hel:e∈en.toList.filter fun e=>!seen.contains e.born:=by rw [← hlo];exact g1
    have hperm:List.Perm left ((e.key,e.val)::(en.toList.filter fun x=>!(seen.push e.born).contains x.born).map fun e=>(e.key,e.val)):=h9.trans ((left_step h5 hel).map fun e=>(e.key,e.val))
    rw [hrun]
    simp only [Oper.upon,hd]
    have hbr:b≠r:=fun hbr=>h2.2.2 id r n hb hbr.symm
    have hwr:=hs.write (w':=w2) hb (by rw [← hw2];exact hw1.2.1) (by rw [← hw2];exact hw1.2.2.1) (by rw [← hw2];exact hw1.2.2.2) (by rw [← hw2];simp [ChangeMaps.setBlock,hw1.1]) hoth
     (ob:=.iter es ((en.toList.filter fun x=>!(seen.push e.born).contains x.born).map fun e=>(e.key,e.val)) (some (e.key,e.val))) (fun h=>by cases h) (fun ok' hk=>⟨b,en,clock,seen.push e.born,clock,(hk b h2).1,by rw [hoth b hbr];exact h3,h4,h5,h6,hat,Nat.le_refl _,List.Perm.refl _,fun p hp=>by
      cases hp
      exact ⟨e,seen,(List.mem_filter.1 hel).1,rfl,rfl,rfl⟩⟩)
    refine ⟨_,lv,.inr ⟨(e.key,e.val),_,hperm,rfl⟩,hwr.putOnly hdN (.tup [.bool true,e.key,e.val] rfl fun i c u hc hu=>?_)⟩
    match i with
    | 0=>simp at hc hu;subst hc hu;exact .v _
    | 1=>simp at hc hu;subst hc hu;exact .v _
    | 2=>simp at hc hu;subst hc hu;exact .v _
    | i+3=>simp at hc
theorem L_next {x:Operand} {id:Nat} {es left:List (Value × Value)} {cur:Option (Value × Value)} (hx:evF (look t) x=some (.lp id 0)) (hid:hlook h id=some (.iter es left cur)) (hl:lf ⟨some d,.next x false,ty,pos,af,gd⟩=true) (hw:yaj ops (look t) ⟨some d,.next x false,ty,pos,af,gd⟩=some true) (hd:Nat.blt d N=true)
  (k1:left=[]→Lex P N ops lf Q rest (S ((d,.tup [.v (.bool false)])::t) h)) (k2:∀ p left',List.Perm left (p::left')→Lex P N ops lf Q rest (S ((d,.tup [.v (.bool true),.v p.1,.v p.2])::t) ((id,some (.iter es left' (some p)))::h))) :
  Lex P N ops lf Q (⟨some d,.next x false,ty,pos,af,gd⟩::rest) (S t h):=by
 refine .loud _ hl hw (next_loud rfl rfl (by simpa using hd) hx hid) ?_
 rintro s' (⟨h1,rfl⟩|⟨p,left',h1,rfl⟩)
 ·have:(⟨ydu (S t h).t (some d) (.tup [.v (.bool false)]),(S t h).h⟩:SS)=S ((d,.tup [.v (.bool false)])::t) h:=by unfold S;rw [ydb]
  rw [this];exact k1 h1
 ·have:(⟨ydu (S t h).t (some d) (.tup [.v (.bool true),.v p.1,.v p.2]),yeg (S t h).h id (some (.iter es left' (some p)))⟩:SS)=S ((d,.tup [.v (.bool true),.v p.1,.v p.2])::t) ((id,some (.iter es left' (some p)))::h):=yrb
  rw [this];exact k2 p left' h1
end
end
section
open Go.RowKit
structure Wk (a b:AV):Prop where
 cell:ydw a=true→ydw b=true
 rel:∀ (ok:Nat→Prop) (w:World) (lv:Live) (v:Value),Rel ok w lv a v→Rel ok w lv b v
theorem yng (a:AV):Wk a a:=⟨fun h=>h,fun _ _ _ _ h=>h⟩
inductive WkL:List AV→List AV→Prop
 | nil:WkL [] []
 | cons {a b:AV} {l m:List AV} (h:Wk a b) (t:WkL l m):WkL (a::l) (b::m)
inductive WkR:List (List AV)→List (List AV)→Prop
 | nil:WkR [] []
 | cons {a b:List AV} {l m:List (List AV)} (h:WkL a b) (t:WkR l m):WkR (a::l) (b::m)
theorem WkL.spec {l m:List AV} (h:WkL l m):l.length=m.length∧∀ (j:Nat) (c':AV),m[j]?=some c'→∃ c,l[j]?=some c∧Wk c c':=by
 induction h with
 | nil=>exact ⟨rfl,fun j c' h=>by simp at h⟩
 | cons h t ih=>
  refine ⟨by simp [ih.1],fun j c' hj=>?_⟩
  cases j with
  | zero=>simp at hj;subst hj;exact ⟨_,rfl,h⟩
  | succ j=>simp at hj;simpa using ih.2 j c' hj
theorem WkR.spec {l m:List (List AV)} (h:WkR l m):l.length=m.length∧∀ (j:Nat) (c':List AV),m[j]?=some c'→∃ c,l[j]?=some c∧WkL c c':=by
 induction h with
 | nil=>exact ⟨rfl,fun j c' h=>by simp at h⟩
 | cons h t ih=>
  refine ⟨by simp [ih.1],fun j c' hj=>?_⟩
  cases j with
  | zero=>simp at hj;subst hj;exact ⟨_,rfl,h⟩
  | succ j=>simp at hj;simpa using ih.2 j c' hj
theorem Con.weak {P:Program} {f:FuncId} {args args':List AV} {r:AV} (h:WkL args args') (hc:Con P f args' r):Con P f args r:=by
 obtain ⟨h1,h2,h3⟩:=hc
 obtain ⟨g1,g2⟩:=h.spec
 refine ⟨h1,h2,fun ok0 w us hG hok hr=>h3 ok0 w us hG hok ⟨hr.1.trans g1,fun i x u hx hu=>?_⟩⟩
 obtain ⟨c,k1,k2⟩:=g2 i x hx
 exact k2.rel _ _ _ _ (hr.2 i c u k1 hu)
theorem yvj {P:Program} {f:FuncId} {args:List AV} {x:Value} (hc:Con P f args (.v x)) {w:World} (hG:ywh w) {us:List Value} {ok:Nat→Prop} (hok:∀ g,ok g→g < w.heap.size) (h:ybm ok w (fun _=>none) args us):Calls P f us.toArray w fun e w'=>e=.returned x∧Below w.heap.size w w':=
 (hc.2.2 ok w us hG hok h).mono fun e w' ⟨u,h1,h2,h3⟩=>by cases h2;exact ⟨h1,h3⟩
section
variable {P:Program} {T:Nat→Option Ty} {N:Nat} {ops:Array Oper} {lf:Oper→Bool} {Q:SS→Prop} {t:List (Nat × AV)} {h:List (Nat × Option LObj)} {rest:List Oper} {d:Nat} {op:Op} {ty:TypeId} {pos:String} {af:Array Edge} {gd:Option (Nat × Bool)} {r:AV}
theorem zxv {x y:Operand} {a b:Int} {tx ty':TypeId} (hx:evF (look t) x=some (i64 a)) (hy:evF (look t) y=some (i64 b)) (hb:b≠0)
  (hw:yaj ops (look t) ⟨some d,.binOp .rem tx x y ty',ty,pos,af,gd⟩=some true) (hd:Nat.blt d N=true) (k:Lex P N ops lf Q rest (S ((d,i64 (a.tmod b))::t) h)):Lex P N ops lf Q (⟨some d,.binOp .rem tx x y ty',ty,pos,af,gd⟩::rest) (S t h):=
 ycc (yield_rem hx hy hb) hw hd k
theorem L_quo {x y:Operand} {a b:Int} {tx ty':TypeId} (hx:evF (look t) x=some (i64 a)) (hy:evF (look t) y=some (i64 b)) (hb:b≠0) (hlo:-9223372036854775808≤a.tdiv b) (hhi:a.tdiv b≤9223372036854775807)
  (hw:yaj ops (look t) ⟨some d,.binOp .quo tx x y ty',ty,pos,af,gd⟩=some true) (hd:Nat.blt d N=true) (k:Lex P N ops lf Q rest (S ((d,i64 (a.tdiv b))::t) h)):Lex P N ops lf Q (⟨some d,.binOp .quo tx x y ty',ty,pos,af,gd⟩::rest) (S t h):=by
 have e:=yield_quo (P:=P) (hp:=hlook h) (ty:=ty) (tx:=tx) (ty':=ty') hx hy hb
 rw [IntWalk.i64_in _ ⟨hlo,hhi⟩] at e
 exact ycc e hw hd k
theorem yield_neqB {ρ:Operand→Option AV} {hp:Nat→Option LObj} {x y:Operand} {a b:Bool} {tx ty':TypeId} (hu:P.underlying tx=some .bool) (hx:ρ x=some (.v (.bool a))) (hy:ρ y=some (.v (.bool b))):ybo P hp ρ (.binOp .neq tx x y ty') ty (ybq (!(a == b))):=
 ycf (fun _ _=>by simp) (by simp [yft,Op.operands,hx,hy,toV]) fun w=>by simp [execOp,ydr hx,ydr hy,eqGuard,binOp,run_equal_bool w tx a b hu]
theorem L_neqB (hT:TOK P T) {x y:Operand} {a b:Bool} {tx ty':TypeId} {s:Nat} {ag:Bool} {z:List Value} (hk:T tx=some ⟨.bool,s,ag,z⟩) (hx:evF (look t) x=some (.v (.bool a))) (hy:evF (look t) y=some (.v (.bool b)))
  (hw:yaj ops (look t) ⟨some d,.binOp .neq tx x y ty',ty,pos,af,gd⟩=some true) (hd:Nat.blt d N=true) (k:Lex P N ops lf Q rest (S ((d,ybq (!(a == b)))::t) h)):Lex P N ops lf Q (⟨some d,.binOp .neq tx x y ty',ty,pos,af,gd⟩::rest) (S t h):=
 ycc (yield_neqB (hT _ _ hk).2.2 hx hy) hw hd k
end
end
section
open Go.RowKit
section
variable {P:Program} {T:Nat→Option Ty} {N:Nat} {ops:Array Oper} {lf:Oper→Bool} {Q:SS→Prop} {t:List (Nat × AV)} {h:List (Nat × Option LObj)} {rest:List Oper} {d:Nat} {op:Op} {ty:TypeId} {pos:String} {af:Array Edge} {gd:Option (Nat × Bool)} {r:AV}
theorem Sim.ownH {B:Bse} {ok0:Nat→Prop} {s:SS} {lv:Live} {a:Act} {w:World} (hs:Sim B ok0 N s lv a w) {id:Nat} (hf:ylg s id) :
  ∃ lv',Sim B ok0 N ⟨s.t,yeg s.h id (some (.vec []))⟩ lv' a w∧∀ size,Rel (yax B ok0 lv' w) w lv' (.ls id size 0) (.slice none 0 0):=by
 have hid:lv id=none:=hs.inv.dom id hf.1
 have hsame:∀ j b n,(fun j=>if j=id then some (none,0) else lv j:Live) j=some (some b,n)→lv j=some (some b,n):=by
  intro j b n hj
  simp only at hj
  split at hj
  ·cases hj
  ·exact hj
 have hok:∀ g,yax B ok0 lv w g→yax B ok0 (fun j=>if j=id then some (none,0) else lv j) w g:=fun g hg=>⟨hg.1,hg.2.1,fun j b n hj=>hg.2.2 j b n (hsame j b n hj)⟩
 have hre:∀ (x:AV) (u:Value),ment id x=false→Rel (yax B ok0 lv w) w lv x u→Rel (yax B ok0 (fun j=>if j=id then some (none,0) else lv j) w) w (fun j=>if j=id then some (none,0) else lv j) x u:=fun x u hm hr=>
  (hr.relive fun j b n hj hmj=>by
   split at hj
   ·rename_i e;subst e;rw [hm] at hmj;cases hmj
   ·exact hj).keep fun g hg=>⟨hok g hg,rfl⟩
 refine ⟨fun j=>if j=id then some (none,0) else lv j,⟨⟨hs.inv.base,hs.inv.ok0lt,fun j hj=>?_,fun i j b n m h1 h2=>hs.inv.inj i j b n m (hsame _ _ _ h1) (hsame _ _ _ h2),fun j x hx=>?_⟩,hs.size,fun x y hy=>?_,hs.defers,hs.big,fun j b o hN hj hc hb=>?_⟩,fun size=>?_⟩
 ·by_cases h:j=id
  ·subst h;simp [yeg] at hj
  ·simp only [yeg,h,if_false] at hj ⊢;exact hs.inv.dom j hj
 ·by_cases h:j=id
  ·subst h
   simp only [yeg,if_true,Option.some.injEq] at hx
   subst hx
   exact ⟨none,0,by simp,.inl rfl⟩
  ·simp only [yeg,h,if_false] at hx
   obtain ⟨b,n,h1,h2⟩:=hs.inv.obj j x hx
   refine ⟨b,n,by simp [h,h1],?_⟩
   cases b with
   | none=>exact h2
   | some b=>
    refine ⟨h2.1,h2.2.1,(h2.2.2.relive fun i b n hi hmi=>?_).keep (fun g hg=>⟨hok g hg,rfl⟩) rfl⟩
    split at hi
    ·rename_i e;subst e;rw [hf.2.2 j x hx] at hmi;cases hmi
    ·exact hi
 ·have:=hs.frame x y hy
  exact ⟨this.1,hre y _ (hf.2.1 x y hy) this.2⟩
 ·by_cases h:j=id
  ·subst h;simp only [yeg,if_true,Option.some.injEq] at hj;subst hj;cases hc
  ·simp only [yeg,h,if_false] at hj ⊢
   exact hs.pin j b o hN hj hc hb
 ·refine .ls _ rfl fun b n hb=>?_
  simp only [if_true,Option.some.injEq,Prod.mk.injEq] at hb
  obtain ⟨rfl,rfl⟩:=hb
  exact ⟨rfl,rfl⟩
theorem yhz (hT:TOK P T) {o:Oper} {ti e es eb sz:Nat} {ea ag:Bool} {ez z:List Value} {x y:Operand} {m:Nat} {cs:List AV} {src:AV} {s:SS} (id:Nat) (ho:o.op=.call { callee:=.builtin .append,args:=#[x,y],argTypes:=#[ti,ti] }) (hd:o.dst=some d) (hdN:d < N) (hk:T ti=some ⟨.slc e es ea eb ez,sz,ag,z⟩)
  (hx:evF s.t x=some (.v (.slice none 0 0))) (hf:ylg s id) (hy:evF s.t y=some src) (hsrc:∀ (ok:Nat→Prop) (w:World) (lv:Live) (u:Value),Rel ok w lv src u→zua ok w es m cs u∧∀ c∈cs,ydw c=true) (hcp:∀ c∈cs,yav c=true) (hlim:m≤4294967296∧m * eb≤140737488355328) :
  ybr P N o s (·=⟨ydu s.t (some d) (.ls id es m),yeg s.h id (some (.vec cs))⟩):=by
 intro B ok0 lv a w hs0 Q
 obtain ⟨lv1,hs,hnil⟩:=hs0.ownH hf
 obtain ⟨h1,h2⟩:=hsrc _ _ _ _ (hs.eval (s:=⟨s.t,yeg s.h id (some (.vec []))⟩) hy)
 have hxv:a.eval x=.slice none 0 0:=yey (hs0.eval hx)
 obtain ⟨v',w',lv',hrun0,hs',hrel⟩:=yvg (s':=⟨s.t,yeg s.h id (some (.vec cs))⟩) (ty:=o.type) hs (hT _ _ hk).2.2 (id:=id) (len:=0) (xs:=[]) (by simp [yeg]) (by simp) (hnil es) h1 h2 hcp (by simpa using hlim)
  (fun x y h=>.inr ⟨h,hf.2.1 x y h⟩) (fun x y h=>⟨y,h⟩) (fun j ob' hj hob=>by
   simp only [yeg,hj,if_false] at hob
   exact ⟨hf.2.2 j ob' hob,ob',by simp only [yeg,hj,if_false];exact hob,Or.inl rfl⟩) (by simp [yeg])
 have hrun:(execOp a.eval o).run P w=.ok (.value v') w':=by
  simp only [execOp,ho,resolve,invoke,builtin,Sem.run_bind,Sem.run_pure,Result.andThen_ok,List.map_toArray,List.map_cons,List.map_nil,hxv,hrun0]
 unfold Oper.wp
 rw [hrun]
 simp only [Oper.upon,hd]
 rw [Nat.zero_add] at hrel
 exact ⟨_,lv',rfl,hs'.putOnly hdN hrel⟩
theorem L_appendNil (hT:TOK P T) {ti e es eb sz:Nat} {ea ag:Bool} {ez z:List Value} {x y:Operand} {rows:List (List AV)} (hk:T ti=some ⟨.slc e es ea eb ez,sz,ag,z⟩) (hx:evF (look t) x=some (.v (.slice none 0 0))) (hy:evF (look t) y=some (.sl es rows))
  (hcp:∀ c∈rows.flatten,yav c=true) (hlim:rows.length≤4294967296∧rows.length * eb≤140737488355328) (h1:ydg d t=true) (h2:ybp d h=true) (hl:lf ⟨some d,.call { callee:=.builtin .append,args:=#[x,y],argTypes:=#[ti,ti] },ty,pos,af,gd⟩=true)
  (hw:yaj ops (look t) ⟨some d,.call { callee:=.builtin .append,args:=#[x,y],argTypes:=#[ti,ti] },ty,pos,af,gd⟩=some true) (hd:Nat.blt d N=true) (k:Lex P N ops lf Q rest (S ((d,.ls d es rows.length)::t) ((d,some (.vec rows.flatten))::h))) :
  Lex P N ops lf Q (⟨some d,.call { callee:=.builtin .append,args:=#[x,y],argTypes:=#[ti,ti] },ty,pos,af,gd⟩::rest) (S t h):=by
 refine yed hl hw ?_ k
 rw [← yrb]
 exact yhz hT d rfl rfl (by simpa using hd) hk hx (ygy h1 h2) hy (fun ok w lv u hr=>yvy hr) hcp hlim
theorem Sim.freezeC {B:Bse} {ok0:Nat→Prop} {s:SS} {lv:Live} {a:Act} {w:World} (hs:Sim B ok0 N s lv a w) {jb k id size len:Nat} {xs ys ys':List AV} {rows:List (List AV)} (hj:s.h jb=some (.cells ys)) (hk:ys[k]?=some (.ls id size len)) (hx:s.h id=some (.vec xs)) (hlen:rows.length=len) (hsize:∀ row∈rows,row.length=size) (hfl:rows.flatten=xs)
  {s':SS} (ht:∀ x y,s'.t x=some y→y=.any∨s.t x=some y) (hlt:∀ x y,s'.t x=some y→∃ z,s.t x=some z) (hid:s'.h id=none) (hj':s'.h jb=some (.cells ys')) (hyl:ys'.length=ys.length) (hh:∀ j ob',s'.h j=some ob'→∃ ob,s.h j=some ob∧ymf ob ob'):∃ lv',Sim B ok0 N ⟨s'.t,yeg s'.h jb (some (.cells (ys'.set k (.sl size rows))))⟩ lv' a w:=by
 obtain ⟨lv',h1,h2,h3,h4⟩:=hs.forg ht hlt hh
 refine ⟨lv',?_⟩
 have hpure:∀ x∈xs,∀ i,ment i x=false:=by
  intro x hxm i
  obtain ⟨b,n,g1,g2⟩:=hs.inv.obj id _ hx
  cases b with
  | none=>simp only [ygo,reduceCtorEq,exists_const,or_false] at g2;cases g2;cases hxm
  | some b=>exact yav.ment (g2.2.2.2 x hxm)
 obtain ⟨bo,n,g1,g2⟩:=hs.inv.obj jb _ hj
 obtain ⟨bo',n',k1,k2⟩:=h1.inv.obj jb _ hj'
 have hsame:=h2 jb bo' n' k1
 rw [g1] at hsame
 cases hsame
 cases bo with
 | none=>simp [ygo] at g2
 | some b=>
  obtain ⟨q1,q2,c,e,q3,q4,q5,q6,q7⟩:=g2
  obtain ⟨r1,r2,c',e',r3,r4,r5,r6,r7⟩:=k2
  rw [q3] at r3
  cases r3
  have hkl:=(List.getElem?_eq_some_iff.1 hk).1
  have hkc:k < c.size:=by omega
  have hold:Rel (yax B ok0 lv w) w lv (.ls id size len) c[k]:=q7 k _ _ hk (by simp [hkc])
  have hnew:Rel (yax B ok0 lv' w) w lv' (.sl size rows) c[k]:=by
   have hr:=ysr hs.inv hold (by rw [hx];rfl) hlen hsize hfl hpure (yax B ok0 lv' w) h4 (fun b n hb=>?_)
   ·exact hr.relive fun i b n _ hm=>by simp [ment] at hm
   ·obtain ⟨_,_,g1,g2,_⟩:=hs.inv.lvat hb
    refine ⟨.inr g1,g2,fun j b' m hj he=>?_⟩
    subst he
    have:=hs.inv.inj j id b' m n (h2 j _ m hj) hb
    subst this
    rw [h1.inv.dom j hid] at hj
    cases hj
  refine ⟨⟨h1.inv.base,h1.inv.ok0lt,fun j hjn=>?_,h1.inv.inj,fun j x hxj=>?_⟩,h1.size,h1.frame,h1.defers,h1.big,fun j b o hN hjx hc hb=>?_⟩
  ·by_cases hjj:j=jb
   ·subst hjj;simp [yeg] at hjn
   ·simp only [yeg,hjj,if_false] at hjn;exact h1.inv.dom j hjn
  ·by_cases hjj:j=jb
   ·subst hjj
    simp only [yeg,if_true,Option.some.injEq] at hxj
    subst hxj
    refine ⟨some b,n,k1,r1,r2,c,e,q3,q4,by simpa using r5,fun x hxm=>?_,fun i x u hi hu=>?_⟩
    ·rcases List.mem_or_eq_of_mem_set hxm with hm|hm
     ·exact r6 x hm
     ·subst hm;rfl
    ·rw [List.getElem?_set] at hi
     split at hi
     ·rename_i e1
      subst e1
      split at hi
      ·cases hi
       simp only [hkc,Array.getElem?_eq_getElem,Option.some.injEq] at hu
       subst hu
       exact hnew
      ·cases hi
     ·exact r7 i x u hi hu
   ·simp only [yeg,hjj,if_false] at hxj
    exact h1.inv.obj j x hxj
  ·by_cases hjj:j=jb
   ·subst hjj
    exact h1.pin j b _ hN hj' rfl hb
   ·simp only [yeg,hjj,if_false] at hjx
    exact h1.pin j b o hN hjx hc hb
theorem ylf {c:Code} {Q:Exit→SS→Prop} {t':List (Nat × AV)} {h':List (Nat × Option LObj)} (jb k:Nat) {id size len:Nat} {xs ys ys':List AV} (rows:List (List AV)) (hj:hlook h jb=some (.cells ys)) (hk:ys[k]?=some (.ls id size len)) (hx:hlook h id=some (.vec xs)) (hlen:rows.length=len) (hsize:∀ row∈rows,row.length=size) (hfl:rows.flatten=xs)
  (ht:ysi id t=some t') (hh:yqb id h=some h') (hj':hlook ((id,none)::h') jb=some (.cells ys')) (hyl:Nat.beq ys'.length ys.length=true) (k:A P N c Q (S t' ((jb,some (.cells (ys'.set k (.sl size rows))))::(id,none)::h'))):A P N c Q (S t h):=by
 intro B ok0 lv a w hs
 obtain ⟨g1,g2⟩:=yge ht
 obtain ⟨lv',hs'⟩:=hs.freezeC (s':=S t' ((id,none)::h')) hj hk hx hlen hsize hfl (fun x y hy=>(g1 x y hy).imp (fun h=>h) And.left) g2 (by simp [S,hlook]) hj' (Nat.eq_of_beq_eq_true hyl) (fun j ob' hj=>by
  simp only [S,hlook] at hj
  split at hj
  ·cases hj
  ·exact (yfb hh j ob' hj).2)
 refine k B ok0 lv' a w ?_
 rw [← S_h]
 exact hs'
end
section
variable {P:Program} {N:Nat} {ops:Array Oper} {lf:Oper→Bool} {Q Q0:SS→Prop}
def zol (ops:Array Oper) (lf:Oper→Bool) (k:Nat) (listed:Array Bool):Bool:=
 (Region.ready .any ops listed).contains k && (match ops[k]? with
   | none=>false
   | some o=>(if lf o then Region.ready .any ops listed == [k] else (List.range ops.size).all fun j=>j == k || listed.getD j true || yix ops ops.size j k || match ops[j]? with
    | some oj=>o.apart ops oj && !lf oj
    | none=>true))
def zix (ops:Array Oper) (lf:Oper→Bool):List Nat→Array Bool→Bool
 | [],_=>true
 | k::ks,listed=>zol ops lf k listed && zix ops lf ks (listed.setIfInBounds k true)
def yhu:List Nat→Array Bool→Array Bool
 | [],listed=>listed
 | k::ks,listed=>yhu ks (listed.setIfInBounds k true)
theorem anyA_pre {l:List Oper} {s:SS} {fuel:Nat} (h:Lex P N ops lf Q0 l s) (hD:∀ (k:Nat) (o:Oper),ops[k]?=some o→ytr N o):∀ (ks:List Nat) (listed:Array Bool),(∀ j:Nat,l[j]?=(ks[j]?).bind (fun k:Nat=>ops[k]?))→ks.length=l.length→yqf ops listed →
  (yqf ops (yhu ks listed)→∀ s',Q0 s'→zqu P N ops lf Q fuel (yhu ks listed) s')→zix ops lf ks listed=true→zqu P N ops lf Q (l.length+fuel) listed s:=by
 induction h with
 | @nil s h=>
  intro ks listed hl hlen hcl hend hB
  have:ks=[]:=List.eq_nil_of_length_eq_zero (by simpa using hlen)
  subst this
  simpa [yhu] using hend hcl s h
 | @split l s d b hb k ih=>
  intro ks listed hl hlen hcl hend hB
  have:=ih b rfl ks listed hl hlen hcl hend hB
  rw [ykc hb] at this
  exact this
 | @calm o l s r hw hd hy k ih=>
  intro ks listed hl hlen hcl hend hB
  match ks,hlen with
  | k::ks,hlen=>
   have h0:ops[k]?=some o:=by simpa using (hl 0).symm
   simp only [zix,zol,h0,Bool.and_eq_true] at hB
   obtain ⟨⟨hr,hf⟩,hB'⟩:=hB
   have hr':k∈Region.ready .any ops listed:=by simpa using hr
   have hk:=ih ks (listed.setIfInBounds k true) (fun j=>by have:=hl (j+1);simpa using this) (by simpa using hlen) (hcl.set hr') hend hB'
   rw [List.length_cons,Nat.add_right_comm]
   by_cases hlo:lf o=true
   ·simp only [hlo,if_true,beq_iff_eq] at hf
    refine ⟨fun h=>(by rw [hf] at h;cases h),fun i hi=>?_⟩
    rw [hf] at hi
    simp only [List.mem_singleton] at hi
    subst hi
    unfold aOp
    simp only [h0]
    exact ⟨hd,.inl ⟨r,.inl ⟨hw,hy⟩,hk⟩⟩
   ·simp only [hlo] at hf
    refine ypd h0 hd (l.length+fuel) listed s hcl ?_ hr' (.inl ⟨hw,hy⟩) hk
    intro j oj hj hne hun
    simp only [Bool.false_eq_true,if_false,List.all_eq_true,List.mem_range] at hf
    have:=hf j (Array.getElem?_eq_some_iff.1 hj).1
    simp only [hj,hun,Bool.or_eq_true,beq_iff_eq,hne,false_or,Bool.false_eq_true,Bool.and_eq_true,Bool.not_eq_true',or_false] at this
    exact this
 | @skip o l s hw hd k ih=>
  intro ks listed hl hlen hcl hend hB
  match ks,hlen with
  | k::ks,hlen=>
   have h0:ops[k]?=some o:=by simpa using (hl 0).symm
   simp only [zix,zol,h0,Bool.and_eq_true] at hB
   obtain ⟨⟨hr,hf⟩,hB'⟩:=hB
   have hr':k∈Region.ready .any ops listed:=by simpa using hr
   have hk:=ih ks (listed.setIfInBounds k true) (fun j=>by have:=hl (j+1);simpa using this) (by simpa using hlen) (hcl.set hr') hend hB'
   rw [List.length_cons,Nat.add_right_comm]
   by_cases hlo:lf o=true
   ·simp only [hlo,if_true,beq_iff_eq] at hf
    refine ⟨fun h=>(by rw [hf] at h;cases h),fun i hi=>?_⟩
    rw [hf] at hi
    simp only [List.mem_singleton] at hi
    subst hi
    unfold aOp
    simp only [h0]
    exact ⟨hd,.inl ⟨.v undef,.inr ⟨hw,rfl⟩,hk⟩⟩
   ·simp only [hlo] at hf
    refine ypd h0 hd (l.length+fuel) listed s hcl ?_ hr' (.inr ⟨hw,rfl⟩) hk
    intro j oj hj hne hun
    simp only [Bool.false_eq_true,if_false,List.all_eq_true,List.mem_range] at hf
    have:=hf j (Array.getElem?_eq_some_iff.1 hj).1
    simp only [hj,hun,Bool.or_eq_true,beq_iff_eq,hne,false_or,Bool.false_eq_true,Bool.and_eq_true,Bool.not_eq_true',or_false] at this
    exact this
 | @loud o l s R hlo hw hy k ih=>
  intro ks listed hl hlen hcl hend hB
  match ks,hlen with
  | k::ks,hlen=>
   have h0:ops[k]?=some o:=by simpa using (hl 0).symm
   simp only [zix,zol,h0,Bool.and_eq_true] at hB
   obtain ⟨⟨hr,hf⟩,hB'⟩:=hB
   have hr':k∈Region.ready .any ops listed:=by simpa using hr
   simp only [hlo,if_true,beq_iff_eq] at hf
   rw [List.length_cons,Nat.add_right_comm]
   refine ⟨fun h=>(by rw [hf] at h;cases h),fun i hi=>?_⟩
   rw [hf] at hi
   simp only [List.mem_singleton] at hi
   subst hi
   unfold aOp
   simp only [h0]
   exact ⟨hD _ _ h0,.inr ⟨hlo,hw,R,hy,fun s' hs'=>ih s' hs' ks (listed.setIfInBounds i true) (fun j=>by have:=hl (j+1);simpa using this) (by simpa using hlen) (hcl.set hr') hend hB'⟩⟩
def zle (ops:Array Oper):List Nat→List Oper→Prop
 | [],[]=>True
 | k::ks,o::l=>ops[k]?=some o∧zle ops ks l
 | _,_=>False
theorem ybb:zle ops [] []:=trivial
theorem yaa {k:Nat} {ks:List Nat} {o:Oper} {l:List Oper} (h:ops[k]?=some o) (hl:zle ops ks l):zle ops (k::ks) (o::l):=⟨h,hl⟩
theorem zis {ks:List Nat}:∀ {l:List Oper},zle ops ks l→ks.length=l.length∧∀ j:Nat,l[j]?=(ks[j]?).bind (fun k:Nat=>ops[k]?):=by
 induction ks with
 | nil=>
  intro l h
  cases l with
  | nil=>exact ⟨rfl,fun j=>by simp⟩
  | cons o l=>exact h.elim
 | cons k ks ih=>
  intro l h
  cases l with
  | nil=>exact h.elim
  | cons o l=>
   obtain ⟨h1,h2⟩:=ih h.2
   refine ⟨by simp [h1],fun j=>?_⟩
   cases j with
   | zero=>simp only [List.getElem?_cons_zero,Option.bind_some,h.1]
   | succ j=>simpa using h2 j
def ztw (P:Program) (N:Nat) (ops:Array Oper) (lf:Oper→Bool) (Q:SS→Prop) (fuel:Nat) (listed:Array Bool) (s:SS):Prop:=
 (∀ (k:Nat) (o:Oper),ops[k]?=some o→ytr N o)→yqf ops listed→zqu P N ops lf Q fuel listed s
theorem ycv {P:Program} {N:Nat} {Q:Exit→SS→Prop} {s:SS} {lf:Oper→Bool} (hm:P.follows .mixedOrders=true) {id:Nat} {l:List Oper} (hD:yql N l=true) (k:ztw P N l.toArray lf (Q .normal) l.length (Array.replicate l.length false) s):A P N (.region id l.toArray true) Q s:=by
 intro B ok0 lv ac w hs
 have hDst:∀ (k:Nat) (o:Oper),l.toArray[k]?=some o→ytr N o:=fun k o ho d hd=>by
  simp only [yql,Bool.and_eq_true,List.all_eq_true] at hD
  have:=hD.1 o (by have:=Array.mem_of_getElem? ho;simpa using this)
  simp only [hd,Nat.blt_eq] at this
  exact this
 have hnd:yga l=true:=by simp only [yql,Bool.and_eq_true] at hD;exact hD.2
 refine wpIn_region_any hm ?_
 have key:=k hDst (fun k o hk=>by
  simp only [Array.getD_eq_getD_getElem?,Array.getElem?_replicate] at hk
  split at hk <;> simp at hk)
 have:=yja (n:=0) (yrm hnd) (Q':=fun e a' w'=>∃ s' lv',Q e s'∧Sim B ok0 N s' lv' a' w') (fun s lv a w hq hs=>⟨s,lv,hq,hs⟩) l.length _ s lv ac _ (hs.drew (w':={ w with drawn:=w.drawn+1 }) ⟨rfl,rfl,rfl,Nat.le_refl _,fun _ _=>rfl⟩) key
 simpa using this
theorem ymk (ks:List Nat) (fuel:Nat) {n:Nat} {listed:Array Bool} {l:List Oper} {s:SS} (hn:zle ops ks l) (hf:n=l.length+fuel) (hB:zix ops lf ks listed=true) (k:Lex P N ops lf (ztw P N ops lf Q fuel (yhu ks listed)) l s):ztw P N ops lf Q n listed s:=by
 intro hD hcl
 subst hf
 obtain ⟨p1,p2⟩:=zis hn
 exact anyA_pre k hD ks listed p2 p1 hcl (fun hc s' h=>h hD hc) hB
theorem ycj (ks:List Nat) {n:Nat} {listed:Array Bool} {l:List Oper} {s:SS} (hn:zle ops ks l) (hf:n=l.length) (hB:ysz ops lf ks listed=true) (k:Lex P N ops lf Q l s):ztw P N ops lf Q n listed s:=by
 intro hD hcl
 subst hf
 obtain ⟨p1,p2⟩:=zis hn
 exact zma k hD ks listed p2 p1 hcl hB
def zkt (P:Program) (N:Nat) (ops:Array Oper) (lf:Oper→Bool) (Q:SS→Prop) (fuel:Nat) (listed:Array Bool) (s:SS):List Nat→Prop
 | []=>True
 | k::ks=>(∃ o,ops[k]?=some o∧Lex P N ops lf (ztw P N ops lf Q fuel (listed.setIfInBounds k true)) [o] s)∧zkt P N ops lf Q fuel listed s ks
theorem yym {fuel:Nat} {listed:Array Bool} {s:SS}:∀ {ks:List Nat},zkt P N ops lf Q fuel listed s ks→∀ k∈ks,∃ o,ops[k]?=some o∧Lex P N ops lf (ztw P N ops lf Q fuel (listed.setIfInBounds k true)) [o] s
 | [],_,k,h=>by cases h
 | x::ks,hh,k,h=>by
  rcases List.mem_cons.1 h with rfl|h
  ·exact hh.1
  ·exact yym hh.2 k h
theorem aOp_one {l:List Oper} {s:SS} {Q0:SS→Prop} (h:Lex P N ops lf Q0 l s) (hD:∀ (k:Nat) (o:Oper),ops[k]?=some o→ytr N o):∀ (o:Oper),l=[o]→∀ (k:Nat),ops[k]?=some o→aOp P N ops lf k Q0 s:=by
 have nilQ:∀ {s:SS},Lex P N ops lf Q0 [] s→Q0 s:=by
  intro s h
  generalize hl:([]:List Oper)=l at h
  induction h with
  | nil h=>exact h
  | calm=>cases hl
  | skip=>cases hl
  | loud=>cases hl
  | @split l s d b hb k ih=>
   have:=ih b rfl hl
   rw [ykc hb] at this
   exact this
 induction h with
 | nil h=>intro o hl;cases hl
 | @split l s d b hb k ih=>
  intro o hl k h0
  have:=ih b rfl o hl k h0
  rw [ykc hb] at this
  exact this
 | @calm o l s r hw hd hy k ih=>
  intro o' hl k' h0
  cases hl
  unfold aOp
  simp only [h0]
  exact ⟨hd,.inl ⟨r,.inl ⟨hw,hy⟩,nilQ k⟩⟩
 | @skip o l s hw hd k ih=>
  intro o' hl k' h0
  cases hl
  unfold aOp
  simp only [h0]
  exact ⟨hd,.inl ⟨.v undef,.inr ⟨hw,rfl⟩,nilQ k⟩⟩
 | @loud o l s R hlo hw hy k ih=>
  intro o' hl k' h0
  cases hl
  unfold aOp
  simp only [h0]
  exact ⟨hD _ _ h0,.inr ⟨hlo,hw,R,hy,fun s' hs'=>nilQ (k s' hs')⟩⟩
theorem ycl (ks:List Nat) (fuel:Nat) {n:Nat} {listed:Array Bool} {s:SS} (hf:n=fuel+1) (hr:Region.ready .any ops listed=ks) (hne:ks≠[]) (k:zkt P N ops lf Q fuel listed s ks):ztw P N ops lf Q n listed s:=by
 intro hD hcl
 subst hf
 refine ⟨fun h=>absurd (hr.symm.trans h) hne,fun i hi=>?_⟩
 obtain ⟨o,ho,hL⟩:=yym k i (hr ▸ hi)
 exact zlw (fun s' h=>h hD (hcl.set hi)) (aOp_one hL hD o rfl i ho)
def Mid (t0:List (Nat × AV)) (h0:List (Nat × Option LObj)) (e:Exit) (s:SS):Prop:=e=.normal∧Sub (S t0 h0) s
theorem mid {t0 t:List (Nat × AV)} {h0 h:List (Nat × Option LObj)} (h1:zbc t t0) (h2:yuy h h0):Mid t0 h0 .normal (S t h):=⟨rfl,yco h1,yaq h2⟩
theorem zoj {α:Type} {f:α→List AV} {k:Nat} (hf:∀ x,(f x).length=k):∀ l:List α,(l.map f).flatten.length=l.length * k
 | []=>by simp
 | x::l=>by simp [hf x,Nat.succ_mul,Nat.add_comm,← zoj hf l]
end
end
section
open Go.RowKit
section
variable {P:Program} {T:Nat→Option Ty} {N:Nat} {ops:Array Oper} {lf:Oper→Bool} {Q:SS→Prop} {t:List (Nat × AV)} {h:List (Nat × Option LObj)} {rest:List Oper} {d:Nat} {op:Op} {ty:TypeId} {pos:String} {af:Array Edge} {gd:Option (Nat × Bool)} {r:AV}
theorem L_u8 (hT:TOK P T) {z:Int} (hr:yqd T t h op ty=some (.v (.int .u8 (IntKind.u8.wrap z)))) (h0:0≤z∧z≤255) (hw:yaj ops (look t) ⟨some d,op,ty,pos,af,gd⟩=some true) (hd:Nat.blt d N=true) (k:Lex P N ops lf Q rest (S ((d,.v (.int .u8 z))::t) h)) :
  Lex P N ops lf Q (⟨some d,op,ty,pos,af,gd⟩::rest) (S t h):=by
 refine zgm hT hr hw hd ?_
 have e:IntKind.u8.wrap z=z:=by
  show z % 256=z
  omega
 rw [e]
 exact k
theorem zut {c:Code} {Q:Exit→SS→Prop} (jb k id size:Nat) {ys:List AV} (hj:hlook h jb=some (.cells ys)) (hk:ys[k]?=some (.v (.slice none 0 0))) (h1:ydg id t=true) (h2:ybp id h=true) (hne:Nat.beq jb id=false)
  (kk:A P N c Q (S t ((jb,some (.cells (ys.set k (.ls id size 0))))::(id,some (.vec []))::h))):A P N c Q (S t h):=by
 intro B ok0 lv a w hs
 obtain ⟨lv',hs1,hnil⟩:=hs.ownH (ygy (t:=t) (h:=h) h1 h2)
 have hnj:jb≠id:=fun e=>by subst e;simp at hne
 have hj1:yeg (hlook h) id (some (.vec [])) jb=some (.cells ys):=by simp only [yeg,hnj,if_false];exact hj
 refine kk B ok0 lv' a w ?_
 rw [← S_h]
 obtain ⟨bo,n,k1,k2⟩:=hs1.inv.obj jb _ hj1
 cases bo with
 | none=>simp [ygo] at k2
 | some b=>
  obtain ⟨q1,q2,cc,e,q3,q4,q5,q6,q7⟩:=k2
  have hkl:=(List.getElem?_eq_some_iff.1 hk).1
  have hkc:k < cc.size:=by omega
  have hold:=yey (q7 k _ cc[k] hk (by simp [hkc]))
  have hnew:=hnil size
  rw [← hold] at hnew
  have hS:hlook ((id,some (.vec []))::h)=yeg (hlook h) id (some (.vec [])):=(ypk id _ h).symm
  refine ⟨⟨hs1.inv.base,hs1.inv.ok0lt,fun j hjn=>?_,hs1.inv.inj,fun j x hxj=>?_⟩,hs1.size,hs1.frame,hs1.defers,hs1.big,fun j b' o hN hjx hc hb'=>?_⟩
  ·by_cases hjj:j=jb
   ·subst hjj;simp [yeg] at hjn
   ·simp only [yeg,hjj,if_false,hS] at hjn;exact hs1.inv.dom j hjn
  ·by_cases hjj:j=jb
   ·subst hjj
    simp only [yeg,if_true,Option.some.injEq] at hxj
    subst hxj
    refine ⟨some b,n,k1,q1,q2,cc,e,q3,q4,by simpa using q5,fun x hxm=>?_,fun i x u hi hu=>?_⟩
    ·rcases List.mem_or_eq_of_mem_set hxm with hm|hm
     ·exact q6 x hm
     ·subst hm;rfl
    ·rw [List.getElem?_set] at hi
     split at hi
     ·rename_i e1
      subst e1
      cases hi
      simp only [hkc,Array.getElem?_eq_getElem,Option.some.injEq] at hu
      subst hu
      exact hnew
     ·exact q7 i x u hi hu
   ·simp only [yeg,hjj,if_false,hS] at hxj
    exact hs1.inv.obj j x hxj
  ·by_cases hjj:j=jb
   ·subst hjj
    exact hs1.pin j b' _ hN hj1 rfl hb'
   ·simp only [yeg,hjj,if_false,hS] at hjx
    exact hs1.pin j b' o hN hjx hc hb'
end
def zlj (T:Nat→Option Ty) (s:SS):ResultVar→Option AV
 | .tmp t=>evF s.t (.tmp t)
 | .cell b t=>match T t with
  | some y=>match evF s.t (.tmp b) with
   | some (.lp id off)=>match yqj (s.h id) with
    | some xs=>zph y.agg y.size (xs.drop off)
    | none=>none
   | _=>none
  | none=>none
def zps (T:Nat→Option Ty) (s:SS):List ResultVar→Option (List AV)
 | []=>some []
 | r::rs=>match zlj T s r,zps T s rs with
  | some x,some xs=>some (x::xs)
  | _,_=>none
def yut (T:Nat→Option Ty) (s:SS) (rs:List ResultVar):Option AV:=
 match zps T s rs with
 | some [x]=>some x
 | some xs=>some (.tup xs)
 | none=>none
theorem resOneT_run {P:Program} {T:Nat→Option Ty} (hT:TOK P T) {B:Bse} {ok0:Nat→Prop} {N:Nat} {s:SS} {lv:Live} {a:Act} {w:World} (hs:Sim B ok0 N s lv a w) {r:ResultVar} {x:AV} (h:zlj T s r=some x):∃ u,Rel (yax B ok0 lv w) w lv x u∧(zqe a.tmps r).run P w=.ok u w:=by
 cases r with
 | tmp t=>exact ⟨_,hs.eval (x:=.tmp t) h,by simp [zqe,Act.eval]⟩
 | cell b t=>
  simp only [zlj] at h
  split at h
  ·rename_i y hy
   split at h
   ·rename_i id off hb
    split at h
    ·rename_i xs hx
     obtain ⟨g1,g2⟩:=yev hx
     obtain ⟨b',n,k1,k2,k3⟩:=yfx hs.inv g1 g2 (hs.eval (x:=.tmp b) hb)
     have k4:=k3.drop off
     rw [Nat.zero_add] at k4
     obtain ⟨u,k5,k6⟩:=ywu (hT _ _ hy).1 k4 h
     have k2':a.tmps.getD b undef=.pointer (some ⟨b',off,none⟩):=k2
     exact ⟨u,k6,by simp [zqe,k2',asAddr,k5]⟩
    ·cases h
   ·cases h
  ·cases h
theorem zjc {P:Program} {T:Nat→Option Ty} (hT:TOK P T) {B:Bse} {ok0:Nat→Prop} {N:Nat} {s:SS} {lv:Live} {a:Act} {w:World} (hs:Sim B ok0 N s lv a w):∀ (rs:List ResultVar) (xs:List AV),zps T s rs=some xs →
  ∃ us:List Value,ybm (yax B ok0 lv w) w lv xs us∧(rs.mapM (zqe a.tmps)).run P w=.ok us w
 | [],xs,h=>by simp only [zps,Option.some.injEq] at h;subst h;exact ⟨[],⟨rfl,fun i x u h=>by simp at h⟩,by simp⟩
 | r::rs,xs,h=>by
  simp only [zps] at h
  split at h
  ·rename_i x xs' h1 h2
   simp only [Option.some.injEq] at h
   subst h
   obtain ⟨us,hus,hrun⟩:=zjc hT hs rs xs' h2
   obtain ⟨u,hu,hrun1⟩:=resOneT_run hT hs h1
   refine ⟨u::us,⟨by simp [hus.1],fun i y v hy hv=>?_⟩,?_⟩
   ·cases i with
    | zero=>simp only [List.getElem?_cons_zero,Option.some.injEq] at hy hv;subst hy hv;exact hu
    | succ i=>exact hus.2 i y v (by simpa using hy) (by simpa using hv)
   ·simp only [List.mapM_cons,Sem.run_bind,hrun1,Sem.run_pure,Result.andThen_ok,hrun]
  ·cases h
theorem zab {P:Program} {T:Nat→Option Ty} (hT:TOK P T) {B:Bse} {ok0:Nat→Prop} {N:Nat} {s:SS} {lv:Live} {a:Act} {w:World} (hs:Sim B ok0 N s lv a w) {fn:Func} {rs:List ResultVar} (hr:fn.results=rs.toArray) {x:AV} (h:yut T s rs=some x) :
  ∃ u,Rel (yax B ok0 lv w) w lv x u∧(results fn a.tmps).run P w=.ok u w:=by
 unfold yut at h
 have key:∀ xs,zps T s rs=some xs→∃ us:List Value,ybm (yax B ok0 lv w) w lv xs us∧(results fn a.tmps).run P w=.ok (if h:us.toArray.size=1 then us.toArray[0] else .tuple us.toArray) w:=by
  intro xs hx
  obtain ⟨us,h1,h2⟩:=zjc hT hs rs xs hx
  refine ⟨us,h1,?_⟩
  have e:results fn a.tmps=(fn.results.mapM (zqe a.tmps) >>= fun vs=>pure (if h:vs.size=1 then vs[0] else .tuple vs)):=rfl
  have e2:(List.toArray <$> rs.mapM (zqe a.tmps))=(rs.mapM (zqe a.tmps) >>= fun l=>pure l.toArray):=rfl
  rw [e,hr,List.mapM_toArray,e2]
  simp only [Sem.run_bind,h2,Result.andThen_ok,Sem.run_pure]
 split at h
 ·rename_i y hy
  simp only [Option.some.injEq] at h
  subst h
  obtain ⟨us,h1,h2⟩:=key _ hy
  match us,h1 with
  | [u],h1=>exact ⟨u,h1.2 0 _ _ rfl rfl,by simpa using h2⟩
 ·rename_i xs hne hy
  simp only [Option.some.injEq] at h
  subst h
  obtain ⟨us,h1,h2⟩:=key _ hy
  refine ⟨.tuple us.toArray,.tup us h1.1 h1.2,?_⟩
  rw [h2,dif_neg]
  intro h
  have hl:=h1.1
  simp only [List.size_toArray] at h
  rw [h] at hl
  match xs,hl with
  | [x],_=>exact hne x rfl
 ·cases h
def EndsT (T:Nat→Option Ty) (rs:List ResultVar) (y:AV):Exit→SS→Prop
 | .normal,s=>∃ x,yut T s rs=some x∧Frz s.h x y
 | .ret,s=>∃ x,yut T s rs=some x∧Frz s.h x y
 | _,_=>False
theorem yfy {P : Program} {T : Nat → Option Ty} (hT : TOK P T) {f : FuncId} {fn : Func} {c : Code} {N : Nat} {rs : List ResultVar} {args : List AV} {r : AV} (hf : P.funcs[f]? = some fn) (hn : (fn.name == "runtime.NumGoroutine") = false) (hb : fn.body = some c) (hN : fn.ntmps = N) (hrs : fn.results = rs.toArray) (hlen : (Nat.ble args.length N && Nat.ble N 1000000) = true) (hp : yav r = true)
  (h:A P N c (EndsT T rs r) (S (yfz 0 args) [])):Con P f args r:=by
 refine ⟨⟨fn,hf,hn,by simp [hb]⟩,hp,fun ok0 w us hG hok hus=>?_⟩
 simp only [Bool.and_eq_true,Nat.ble_eq] at hlen
 obtain ⟨hlen',hbig⟩:=hlen
 refine (callsIn_wide (n:=0)).1 (callsIn_of_wp_marks hf hb trivial ?_)
 have hst:S (yfz 0 args) []=⟨zpc args,fun _=>none⟩:=by unfold S;rw [yph];rfl
 have hs:Sim (zxk w) ok0 N (S (yfz 0 args) []) (fun _=>none) { tmps:=us.toArray++Array.replicate (fn.ntmps - us.toArray.size) undef,defers:=[] } w:=by
  rw [hst]
  refine ⟨⟨Based.start hG,hok,fun _ _=>rfl,(fun i j b n m h=>by cases h),(fun id x hx=>by cases hx)⟩,?_,fun x y hy=>?_,⟨[],rfl,List.nodup_nil,fun d hd=>by cases hd⟩,hbig,fun id b xs _ hx=>by cases hx⟩
  ·simp [hN,hus.1];omega
  ·have hlt:=(List.getElem?_eq_some_iff.1 hy).1
   refine ⟨.inl (by omega),?_⟩
   rw [ydl,if_pos (by omega)]
   obtain ⟨u,hu⟩:∃ u,us[x]?=some u:=⟨_,List.getElem?_eq_getElem (by rw [hus.1];exact hlt)⟩
   simp only [ylp us _ x u hu]
   exact (hus.2 x y u hy hu).keep fun g hg=>⟨⟨.inl hg,hok g hg,fun id b n hb=>by cases hb⟩,rfl⟩
 refine wpIn_mono (h _ ok0 _ _ w hs) fun e a' w' ⟨s',lv',hq,hs'⟩=>?_
 have fin:∀ x,yut T s' rs=some x→Frz s'.h x r→∀ (a':Act) (w':World),Sim (zxk w) ok0 N s' lv' a' w'→∃ v,(results fn a'.tmps).run P w'=.ok v w'∧∃ u,Ending.returned v=.returned u∧Rel (fun g=>(ok0 g∨w.heap.size≤g)∧g < w'.heap.size) w' (fun _=>none) r u∧Below w.heap.size w w':=by
  intro x hx hfz a' w' hs'
  obtain ⟨u,hu,hrun⟩:=zab hT hs' hrs hx
  exact ⟨u,hrun,u,rfl,(hfz _ _ _ _ _ hs'.inv hu).keep (fun g hg=>⟨⟨hg.1.imp (fun h=>h) (fun h=>h.elim (fun h=>h.elim) (fun h=>h)),hg.2⟩,rfl⟩),hs'.inv.base.below⟩
 cases e with
 | normal=>obtain ⟨x,hx,hfz⟩:=hq;exact ycw rfl rfl (fin x hx hfz) _ a' w' rfl hs'
 | ret=>obtain ⟨x,hx,hfz⟩:=hq;exact ycw rfl rfl (fin x hx hfz) _ a' w' rfl hs'
 | _=>exact hq.elim
end
section
open Go.RowKit
def yez (σ:Nat→Nat):AV→AV
 | .lp id off=>.lp (σ id) off
 | .ls id s n=>.ls (σ id) s n
 | .mp id=>.mp (σ id)
 | .agg cs=>.agg (renL cs)
 | .tup cs=>.tup (renL cs)
 | .fn f cs=>.fn f (renL cs)
 | .fm f cs=>.fm f (renL cs)
 | x=>x
 where renL:List AV→List AV
 | []=>[]
 | c::cs=>yez σ c::renL cs
theorem ybx (σ:Nat→Nat):∀ cs,yez.renL σ cs=cs.map (yez σ)
 | []=>rfl
 | c::cs=>by simp [yez.renL,ybx σ cs]
def yel (ids:List Nat):AV→Bool
 | .lp id _=>ids.contains id
 | .ls id _ _=>ids.contains id
 | .mp id=>ids.contains id
 | .agg cs=>onlyL cs
 | .tup cs=>onlyL cs
 | .fn _ cs=>onlyL cs
 | .fm _ cs=>onlyL cs
 | _=>true
 where onlyL:List AV→Bool
 | []=>true
 | c::cs=>yel ids c && onlyL cs
def zbb (σ:Nat→Nat):LObj→LObj
 | .cells xs=>.cells (yez.renL σ xs)
 | .tcells e xs=>.tcells e (yez.renL σ xs)
 | .mcells xs=>.mcells (yez.renL σ xs)
 | o=>o
def yro (ids:List Nat):LObj→Bool
 | .cells xs=>yel.onlyL ids xs
 | .tcells _ xs=>yel.onlyL ids xs
 | .mcells xs=>yel.onlyL ids xs
 | _=>true
theorem yie (σ:Nat→Nat) (x:AV):ydw (yez σ x)=ydw x:=by cases x <;> rfl
section
variable {ok:Nat→Prop} {w:World} {lv lv1:Live} {σ:Nat→Nat}
theorem Rel.unren (hl:∀ id b n,lv1 id=some (b,n)→lv (σ id)=some (b,n)):∀ {x:AV} {u:Value},Rel ok w lv (yez σ x) u→Rel ok w lv1 x u
 | .v _,u,h=>by cases h;exact .v _
 | .any,u,h=>.any u
 | .one,u,h=>by cases h with|one _ h1=>exact .one _ h1
 | .sl s rows,u,h=>by cases h with|sl a cap u g o hn hc ha hr hg hcell hrel=>exact .sl a cap u g o hn hc ha hr hg hcell hrel
 | .dp row off,u,h=>by cases h with|dp g o u hg hcell hrel=>exact .dp g o u hg hcell hrel
 | .mv es,u,h=>by cases h with|mv b hg hm=>exact .mv b hg hm
 | .lp id off,u,h=>by cases h with|lp _ h1 h2=>exact .lp _ h1 fun b n hb=>h2 b n (hl id _ n hb)
 | .ls id s n,u,h=>by cases h with|ls _ h1 h2=>exact .ls _ h1 fun b n hb=>h2 b n (hl id _ n hb)
 | .mp id,u,h=>by cases h with|mp _ h1 h2=>exact .mp _ h1 fun b n hb=>h2 b n (hl id _ n hb)
 | .agg cs,u,h=>by
  cases h with
  | agg vs hlen hc hr=>
   exact .agg vs (by rw [hlen,ybx];simp) (fun c hm=>by rw [← yie σ];exact hc _ (by rw [ybx];exact List.mem_map_of_mem hm)) (rows hr)
 | .tup cs,u,h=>by
  cases h with
  | tup vs hlen hr=>exact .tup vs (by rw [hlen,ybx];simp) (rows hr)
 | .fn f cs,u,h=>by
  cases h with
  | fn vs hlen hr=>exact .fn vs (by rw [hlen,ybx];simp) (rows hr)
 | .fm f cs,u,h=>by
  cases h with
  | fm vs hlen hr=>exact .fm vs (by rw [hlen,ybx];simp) (rows hr)
 where rows:∀ {cs:List AV} {vs:List Value},(∀ (i:Nat) (c:AV) (u:Value),(yez.renL σ cs)[i]?=some c→vs[i]?=some u→Rel ok w lv c u)→∀ (i:Nat) (c:AV) (u:Value),cs[i]?=some c→vs[i]?=some u→Rel ok w lv1 c u
 | [],vs,_,i,c,u,hc,_=>by simp at hc
 | d::cs,[],_,i,c,u,_,hu=>by simp at hu
 | d::cs,q::vs,h,0,c,u,hc,hu=>by
  simp at hc hu
  subst hc hu
  exact Rel.unren hl (h 0 _ _ rfl rfl)
 | d::cs,q::vs,h,i+1,c,u,hc,hu=>rows (fun j c u h1 h2=>h (j+1) c u (by simpa [yez.renL] using h1) (by simpa using h2)) i c u (by simpa using hc) (by simpa using hu)
theorem Rel.ren {ids:List Nat} (hl:∀ id b n,id∈ids→lv (σ id)=some (b,n)→lv1 id=some (b,n)):∀ {x:AV} {u:Value},yel ids x=true→Rel ok w lv1 x u→Rel ok w lv (yez σ x) u
 | .v _,u,_,h=>by cases h;exact .v _
 | .any,u,_,h=>.any u
 | .one,u,_,h=>by cases h with|one _ h1=>exact .one _ h1
 | .sl s rows,u,_,h=>by cases h with|sl a cap u g o hn hc ha hr hg hcell hrel=>exact .sl a cap u g o hn hc ha hr hg hcell hrel
 | .dp row off,u,_,h=>by cases h with|dp g o u hg hcell hrel=>exact .dp g o u hg hcell hrel
 | .mv es,u,_,h=>by cases h with|mv b hg hm=>exact .mv b hg hm
 | .lp id off,u,ho,h=>by cases h with|lp _ h1 h2=>exact .lp _ h1 fun b n hb=>h2 b n (hl id _ n (by simpa [yel] using ho) hb)
 | .ls id s n,u,ho,h=>by cases h with|ls _ h1 h2=>exact .ls _ h1 fun b n hb=>h2 b n (hl id _ n (by simpa [yel] using ho) hb)
 | .mp id,u,ho,h=>by cases h with|mp _ h1 h2=>exact .mp _ h1 fun b n hb=>h2 b n (hl id _ n (by simpa [yel] using ho) hb)
 | .agg cs,u,ho,h=>by
  cases h with
  | agg vs hlen hc hr=>
   refine .agg vs (by rw [hlen,ybx];simp) (fun c hm=>?_) (rows ho hr)
   rw [ybx] at hm
   obtain ⟨y,hy,rfl⟩:=List.mem_map.1 hm
   rw [yie];exact hc y hy
 | .tup cs,u,ho,h=>by
  cases h with
  | tup vs hlen hr=>exact .tup vs (by rw [hlen,ybx];simp) (rows ho hr)
 | .fn f cs,u,ho,h=>by
  cases h with
  | fn vs hlen hr=>exact .fn vs (by rw [hlen,ybx];simp) (rows ho hr)
 | .fm f cs,u,ho,h=>by
  cases h with
  | fm vs hlen hr=>exact .fm vs (by rw [hlen,ybx];simp) (rows ho hr)
 where rows:∀ {cs:List AV} {vs:List Value},yel.onlyL ids cs=true→(∀ (i:Nat) (c:AV) (u:Value),cs[i]?=some c→vs[i]?=some u→Rel ok w lv1 c u)→∀ (i:Nat) (c:AV) (u:Value),(yez.renL σ cs)[i]?=some c→vs[i]?=some u→Rel ok w lv c u
 | [],vs,_,_,i,c,u,hc,_=>by simp [yez.renL] at hc
 | d::cs,[],_,_,i,c,u,_,hu=>by simp at hu
 | d::cs,q::vs,ho,h,0,c,u,hc,hu=>by
  simp only [yel.onlyL,Bool.and_eq_true] at ho
  simp [yez.renL] at hc hu
  subst hc hu
  exact Rel.ren hl ho.1 (h 0 _ _ rfl rfl)
 | d::cs,q::vs,ho,h,i+1,c,u,hc,hu=>by
  simp only [yel.onlyL,Bool.and_eq_true] at ho
  exact rows ho.2 (fun j c u h1 h2=>h (j+1) c u (by simpa using h1) (by simpa using h2)) i c u (by simpa [yez.renL] using hc) (by simpa using hu)
end
def ybn (lv:Live) (b:Nat):Prop:=∃ id n,lv id=some (some b,n)
def yfo (w:World) (lv:Live):Bse:=⟨w,ybn lv,fun _=>none,none,[],fun _=>undef⟩
def ywc (P:Program) (f:FuncId) (args:List AV) (hs:Nat→Option LObj) (r:AV) (hs':Nat→Option LObj):Prop:=
 ynx P f∧(∀ id o,hs' id=some o→isC o=true→∃ o',hs id=some o'∧isC o'=true)∧∀ (ok0:Nat→Prop) (lv:Live) (w:World) (us:List Value),Inv (yfo w lv) ok0 hs lv w→ybm (yax (yfo w lv) ok0 lv w) w lv args us →
  Calls P f us.toArray w fun e w'=>∃ u lv',e=.returned u∧Rel (yax (yfo w lv) ok0 lv' w') w' lv' r u∧Inv (yfo w lv) ok0 hs' lv' w'∧∀ id o,hs' id=some o→isC o=true→∃ b n n',lv id=some (some b,n)∧lv' id=some (some b,n')
theorem Inv.pinned {B:Bse} {ok0:Nat→Prop} {h:Nat→Option LObj} {lv:Live} {w:World} (hi:Inv B ok0 h lv w) (p:Nat→Option Nat) (rd:Option Nat) (dl:List Deferred) (gv:Nat→Value) (hrd:∀ l,rd=some l→(∃ r,B.w.heap[l]?=some (.loop r))∧¬ B.lent l):Inv ⟨B.w,B.lent,p,rd,dl,gv⟩ ok0 h lv w:=
 ⟨⟨hi.base.os,hi.base.tape,hi.base.output,hi.base.size,hi.base.block,hi.base.glob,hi.base.gsize,hi.base.lentG,hrd⟩,hi.ok0lt,hi.dom,hi.inj,fun id x hx=>by
  obtain ⟨b,n,h1,h2⟩:=hi.obj id x hx
  refine ⟨b,n,h1,?_⟩
  cases b with
  | none=>exact h2
  | some b=>exact h2⟩
def zql (T:Nat→Option Ty) (rs:List ResultVar) (r:AV) (hs':Nat→Option LObj):Exit→SS→Prop
 | .normal,s=>∃ x,yut T s rs=some x∧Wk x r∧∀ id o,hs' id=some o→s.h id=some o
 | .ret,s=>∃ x,yut T s rs=some x∧Wk x r∧∀ id o,hs' id=some o→s.h id=some o
 | _,_=>False
theorem yyc {P : Program} {T : Nat → Option Ty} (hT : TOK P T) {f : FuncId} {fn : Func} {c : Code} {N : Nat} {rs : List ResultVar} {args : List AV} {hs hs' : Nat → Option LObj} {r : AV} (hf : P.funcs[f]? = some fn) (hn : (fn.name == "runtime.NumGoroutine") = false) (hb : fn.body = some c) (hN : fn.ntmps = N) (hrs : fn.results = rs.toArray) (hlen : (Nat.ble args.length N && Nat.ble N 1000000) = true)
  (hcl:∀ id o,hs' id=some o→isC o=true→N≤id∧∃ o',hs id=some o'∧isC o'=true) (h:A P N c (zql T rs r hs') ⟨look (yfz 0 args),hs⟩):ywc P f args hs r hs':=by
 refine ⟨⟨fn,hf,hn,by simp [hb]⟩,fun id o hx hc=>(hcl id o hx hc).2,fun ok0 lv w us hi hus=>?_⟩
 simp only [Bool.and_eq_true,Nat.ble_eq] at hlen
 obtain ⟨hlen',hbig⟩:=hlen
 refine (callsIn_wide (n:=0)).1 (callsIn_of_wp_marks hf hb trivial ?_)
 have hsim:Sim ⟨w,ybn lv,fun id=>(lv id).bind (·.1),none,[],fun _=>undef⟩ ok0 N ⟨look (yfz 0 args),hs⟩ lv { tmps:=us.toArray++Array.replicate (fn.ntmps - us.toArray.size) undef,defers:=[] } w:=by
  refine ⟨hi.pinned _ _ _ _ (fun l h=>by cases h),?_,fun x y hy=>?_,⟨[],rfl,List.nodup_nil,fun d hd=>by cases hd⟩,hbig,fun id b o hN hx hc hb=>?_⟩
  ·simp [hN,hus.1];omega
  ·simp only [yph] at hy
   have hlt:=(List.getElem?_eq_some_iff.1 hy).1
   refine ⟨.inl (by omega),?_⟩
   rw [ydl,if_pos (by omega)]
   obtain ⟨u,hu⟩:∃ u,us[x]?=some u:=⟨_,List.getElem?_eq_getElem (by rw [hus.1];exact hlt)⟩
   simp only [ylp us _ x u hu]
   exact hus.2 x y u hy hu
  ·simp only at hb
   cases hl:lv id with
   | none=>simp [hl] at hb
   | some q=>obtain ⟨q1,q2⟩:=q;simp [hl] at hb;subst hb;exact ⟨q2,rfl⟩
 refine wpIn_mono (h _ ok0 _ _ w hsim) fun e a' w' ⟨s',lv',hq,hs2⟩=>?_
 have fin:∀ x,yut T s' rs=some x→Wk x r→(∀ id o,hs' id=some o→s'.h id=some o)→∀ (a':Act) (w':World),Sim ⟨w,ybn lv,fun id=>(lv id).bind (·.1),none,[],fun _=>undef⟩ ok0 N s' lv' a' w'→∃ v,(results fn a'.tmps).run P w'=.ok v w'∧∃ u lv2,Ending.returned v=.returned u∧Rel (yax (yfo w lv) ok0 lv2 w') w' lv2 r u∧Inv (yfo w lv) ok0 hs' lv2 w'∧∀ id o,hs' id=some o→isC o=true→∃ b n n',lv id=some (some b,n)∧lv2 id=some (some b,n'):=by
  intro x hx hwk hsub a' w' hs2
  obtain ⟨u,hu,hrun⟩:=zab (P:=P) hT hs2 hrs hx
  obtain ⟨lv2,i1,i2,i3⟩:=hs2.inv.weak hsub
  refine ⟨u,hrun,u,lv2,rfl,hwk.rel _ _ _ _ ((hu.relive fun id b n hb _=>i2 id b n hb).keep fun g hg=>⟨i3 g hg,rfl⟩),i1.pinned _ _ _ _ (fun l h=>by cases h),fun id o hx hc=>?_⟩
  obtain ⟨h1,o',hy,hc'⟩:=hcl id o hx hc
  obtain ⟨b,n,hb,ho⟩:=hi.obj id _ hy
  cases b with
  | none=>simp only [ygo] at ho;rcases ho with rfl|⟨e,rfl⟩ <;> cases hc'
  | some b=>
   obtain ⟨n',hn'⟩:=hs2.pin id b o h1 (hsub id _ hx) hc (by simp [hb])
   obtain ⟨b2,n2,hb2,_⟩:=i1.obj id _ hx
   have:=i2 id b2 n2 hb2
   rw [hn'] at this
   cases this
   exact ⟨b,n,_,hb,hb2⟩
 cases e with
 | normal=>obtain ⟨x,hx,h1,h2⟩:=hq;exact ycw rfl rfl (fin x hx h1 h2) _ a' w' rfl hs2
 | ret=>obtain ⟨x,hx,h1,h2⟩:=hq;exact ycw rfl rfl (fin x hx h1 h2) _ a' w' rfl hs2
 | _=>exact hq.elim
theorem ygt.unren {ok ok':Nat→Prop} {w:World} {lv lv1:Live} {σ:Nat→Nat} {b n:Nat} {x:LObj} (hl:∀ id b n,lv1 id=some (b,n)→lv (σ id)=some (b,n)) (hk:∀ g,ok g→ok' g) (h:ygt ok lv w b n (zbb σ x)):ygt ok' lv1 w b n x:=by
 cases x with
 | cells xs=>
  obtain ⟨c,e,g1,g2,g3,g4,g5⟩:=h
  rw [ybx] at g3 g4 g5
  refine ⟨c,e,g1,g2,by simpa using g3,fun y hy=>by rw [← yie σ];exact g4 _ (List.mem_map_of_mem hy),fun j y u hy hu=>?_⟩
  exact (Rel.unren hl (g5 j (yez σ y) u (by simp [hy]) hu)).keep fun g hg=>⟨hk g hg,rfl⟩
 | vec xs=>
  obtain ⟨⟨c,e,g1,g2,g3,g4,g5⟩,hp⟩:=h
  exact ⟨⟨c,e,g1,g2,g3,g4,fun j y u hy hu=>((g5 j y u hy hu).relive fun id b n _ hm=>by rw [yav.ment (hp y (List.mem_of_getElem? hy))] at hm;cases hm).keep fun g hg=>⟨hk g hg,rfl⟩⟩,hp⟩
 | map es=>exact h
 | iter es left cur=>exact yqh.keep h (fun g hg=>⟨hk g hg,rfl⟩) rfl
 | siter s pos=>exact h
 | tcells e xs=>
  obtain ⟨⟨c,e',g1,g2,g3,g4,g5⟩,hsh⟩:=h
  rw [ybx] at g3 g4 g5 hsh
  exact ⟨⟨c,e',g1,g2,by simpa using g3,fun y hy=>by rw [← yie σ];exact g4 _ (List.mem_map_of_mem hy),fun j y u hy hu=>(Rel.unren hl (g5 j (yez σ y) u (by simp [hy]) hu)).keep fun g hg=>⟨hk g hg,rfl⟩⟩,by simpa using hsh⟩
 | tvec e xs=>
  obtain ⟨⟨c,e',g1,g2,g3,g4,g5⟩,hp,hsh⟩:=h
  exact ⟨⟨c,e',g1,g2,g3,g4,fun j y u hy hu=>((g5 j y u hy hu).relive fun id b n _ hm=>by rw [yav.ment (hp y (List.mem_of_getElem? hy))] at hm;cases hm).keep fun g hg=>⟨hk g hg,rfl⟩⟩,hp,hsh⟩
 | mcells xs=>
  obtain ⟨c,e,g1,g2,g3,g4,g5⟩:=h
  rw [ybx] at g3 g4 g5
  refine ⟨c,e,g1,g2,by simpa using g3,fun y hy=>by rw [← yie σ];exact g4 _ (List.mem_map_of_mem hy),fun j y u hy hu=>?_⟩
  exact (Rel.unren hl (g5 j (yez σ y) u (by simp [hy]) hu)).keep fun g hg=>⟨hk g hg,rfl⟩
theorem ygt.ren {ok ok':Nat→Prop} {w:World} {lv lv1:Live} {σ:Nat→Nat} {ids:List Nat} {b n:Nat} {x:LObj} (hl:∀ id b n,id∈ids→lv (σ id)=some (b,n)→lv1 id=some (b,n)) (ho:yro ids x=true) (hk:∀ g,ok g→ok' g) (h:ygt ok lv1 w b n x):ygt ok' lv w b n (zbb σ x):=by
 cases x with
 | cells xs=>
  obtain ⟨c,e,g1,g2,g3,g4,g5⟩:=h
  refine ⟨c,e,g1,g2,by rw [ybx];simpa using g3,fun y hy=>?_,fun j y u hy hu=>?_⟩
  ·rw [ybx] at hy
   obtain ⟨z,hz,rfl⟩:=List.mem_map.1 hy
   rw [yie];exact g4 z hz
  ·exact (Rel.ren.rows (vs:=c.toList) hl ho (fun j y u hy hu=>g5 j y u hy (by simpa using hu)) j y u hy (by simpa using hu)).keep fun g hg=>⟨hk g hg,rfl⟩
 | vec xs=>
  obtain ⟨⟨c,e,g1,g2,g3,g4,g5⟩,hp⟩:=h
  exact ⟨⟨c,e,g1,g2,g3,g4,fun j y u hy hu=>((g5 j y u hy hu).relive fun id b n _ hm=>by rw [yav.ment (hp y (List.mem_of_getElem? hy))] at hm;cases hm).keep fun g hg=>⟨hk g hg,rfl⟩⟩,hp⟩
 | map es=>exact h
 | iter es left cur=>exact yqh.keep h (fun g hg=>⟨hk g hg,rfl⟩) rfl
 | siter s pos=>exact h
 | tcells e xs=>
  obtain ⟨⟨c,e',g1,g2,g3,g4,g5⟩,hsh⟩:=h
  refine ⟨⟨c,e',g1,g2,by rw [ybx];simpa using g3,fun y hy=>?_,fun j y u hy hu=>?_⟩,by rw [ybx];simpa using hsh⟩
  ·rw [ybx] at hy
   obtain ⟨z,hz,rfl⟩:=List.mem_map.1 hy
   rw [yie];exact g4 z hz
  ·exact (Rel.ren.rows (vs:=c.toList) hl ho (fun j y u hy hu=>g5 j y u hy (by simpa using hu)) j y u hy (by simpa using hu)).keep fun g hg=>⟨hk g hg,rfl⟩
 | tvec e xs=>
  obtain ⟨⟨c,e',g1,g2,g3,g4,g5⟩,hp,hsh⟩:=h
  exact ⟨⟨c,e',g1,g2,g3,g4,fun j y u hy hu=>((g5 j y u hy hu).relive fun id b n _ hm=>by rw [yav.ment (hp y (List.mem_of_getElem? hy))] at hm;cases hm).keep fun g hg=>⟨hk g hg,rfl⟩⟩,hp,hsh⟩
 | mcells xs=>
  obtain ⟨c,e,g1,g2,g3,g4,g5⟩:=h
  refine ⟨c,e,g1,g2,by rw [ybx];simpa using g3,fun y hy=>?_,fun j y u hy hu=>?_⟩
  ·rw [ybx] at hy
   obtain ⟨z,hz,rfl⟩:=List.mem_map.1 hy
   rw [yie];exact g4 z hz
  ·exact (Rel.ren.rows (vs:=c.toList) hl ho (fun j y u hy hu=>g5 j y u hy (by simpa using hu)) j y u hy (by simpa using hu)).keep fun g hg=>⟨hk g hg,rfl⟩
theorem yxd (σ:Nat→Nat) (x:LObj):isC (zbb σ x)=isC x:=by cases x <;> rfl
theorem zoe {σ:Nat→Nat} {x:LObj} (h:zbb σ x=.vec []∨∃ e,zbb σ x=.tvec e []):x=.vec []∨∃ e,x=.tvec e []:=by
 cases x <;> simp_all [zbb]
def zyt (σ:Nat→Nat) (ids:List Nat) (hm':Nat→Option LObj) (y:AV):Prop:=(∀ i∈ids,ment (σ i) y=false)∨∃ i∈ids,∃ off o,(y=.lp (σ i) off∨∃ f,y=.fm f [.lp (σ i) off])∧hm' i=some o∧isC o=true
set_option maxHeartbeats 4000000
section
variable {P:Program} {N:Nat}
def zbl (y:Option AV) (f:FuncId) (caps:List AV) (args:List Operand):Prop:=y=some (.fn f caps)∨(y=some (.fm f caps)∧args=[])
theorem callee_run {B:Bse} {ok0:Nat→Prop} {s:SS} {lv:Live} {a:Act} {w:World} (hs:Sim B ok0 N s lv a w) {o:Oper} {g:Operand} {args:List Operand} {ats:Array TypeId} {f:FuncId} {caps:List AV} (ho:o.op=.call { callee:=.value g,args:=args.toArray,argTypes:=ats }) (hb:ynx P f) (hg:zbl (evF s.t g) f caps args) :
  ∃ vs:List Value,vs.length=caps.length∧(∀ (i:Nat) (c:AV) (u:Value),caps[i]?=some c→vs[i]?=some u→Rel (yax B ok0 lv w) w lv c u)∧(execOp a.eval o).run P w=.ok (.enter f (args.map a.eval++vs).toArray) w:=by
 rcases hg with hg|⟨hg,rfl⟩
 ·have hfr:=hs.eval hg
  generalize hv:a.eval g=v at hfr
  cases hfr with
  | fn vs hl hrc=>
  refine ⟨vs,hl,hrc,?_⟩
  unfold execOp
  simp only [ho,resolve,Deferred.ofValue,hv,Sem.run_bind,Sem.run_pure,Result.andThen_ok,invoke]
  rw [ygl hb]
  simp
 ·have hfr:=hs.eval hg
  generalize hv:a.eval g=v at hfr
  cases hfr with
  | fm vs hl hrc=>
  refine ⟨vs,hl,hrc,?_⟩
  unfold execOp
  simp only [ho,resolve,Deferred.ofValue,hv,Sem.run_bind,Sem.run_pure,Result.andThen_ok,invoke]
  rw [ygl hb]
  simp
theorem ypf {o:Oper} {g:Operand} {args:List Operand} {ats:Array TypeId} {f:FuncId} {caps xs args0:List AV} {hm hm':Nat→Option LObj} {r:AV} {σ:Nat→Nat} {ids:List Nat} {d:Nat} {s s2:SS}
  (ho:o.op=.call { callee:=.value g,args:=args.toArray,argTypes:=ats }) (hd:o.dst=some d) (hdN:d < N) (hg:zbl (evF s.t g) f caps args) (hx:evL (evF s.t) args=some xs) (hargs:xs++caps=args0.map (yez σ)) (hc:ywc P f args0 hm r hm')
  (hinj:∀ i∈ids,∀ j∈ids,σ i=σ j→i=j) (hdom:∀ id,(hm id).isSome→id∈ids) (hdom':∀ id,(hm' id).isSome→id∈ids) (hmem:∀ id o,hm id=some o→s.h (σ id)=some (zbb σ o)) (hr:yel ids r=true) (hro:∀ id o,hm' id=some o→yro ids o=true)
  (ht:∀ x y,s2.t x=some y→(x=d∧y=yez σ r)∨(x≠d∧((y=.any∧∃ z,s.t x=some z)∨(s.t x=some y∧zyt σ ids hm' y))))
  (hh1:∀ i∈ids,s2.h (σ i)=(hm' i).map (zbb σ)) (hh2:∀ j ob',(∀ i∈ids,σ i≠j)→s2.h j=some ob'→(∀ i∈ids,yfr (σ i) ob'=false)∧∃ ob,s.h j=some ob∧ymf ob ob'):ybr P N o s (·=s2):=by
 intro B ok0 lv a w hs Q
 have har:=yub (a:=a) args xs (fun x y _ hxy=>hs.eval hxy) hx
 obtain ⟨vs,hl,hrc,hrun⟩:=callee_run hs ho hc.1 hg
 let lv1:Live:=fun id=>if id∈ids∧(hm id).isSome then lv (σ id) else none
 have hl1:∀ id b n,lv1 id=some (b,n)→id∈ids∧(hm id).isSome∧lv (σ id)=some (b,n):=by
  intro id b n hb
  simp only [lv1] at hb
  split at hb
  ·rename_i h;exact ⟨h.1,h.2,hb⟩
  ·cases hb
 have hl2:∀ id b n,lv1 id=some (b,n)→lv (σ id)=some (b,n):=fun id b n h=>(hl1 id b n h).2.2
 have hmine:∀ b,ybn lv1 b→B.mine b∧b < w.heap.size∧∃ i∈ids,∃ n,lv (σ i)=some (some b,n):=by
  rintro b ⟨id,n,hb⟩
  obtain ⟨h1,h2,h3⟩:=hl1 id _ n hb
  obtain ⟨_,_,h4,h5,_⟩:=hs.inv.lvat h3
  exact ⟨h4,h5,id,h1,n,h3⟩
 have hok1:∀ g,yax B ok0 lv w g→yax (yfo w lv1) (yax B ok0 lv w) lv1 w g:=fun g hg=>⟨.inl hg,hg.2.1,fun id b n hb=>hg.2.2 (σ id) b n (hl2 id _ n hb)⟩
 have hinv:Inv (yfo w lv1) (yax B ok0 lv w) hm lv1 w:=by
  refine ⟨⟨rfl,rfl,rfl,Nat.le_refl _,fun _ _ _=>rfl,hs.inv.base.glob,hs.inv.base.glob.size,fun k hk=>hs.inv.base.mineG (hmine k hk).1,fun l h=>by cases h⟩,fun g hg=>hg.2.1,fun id hid=>by simp [lv1,hid],fun i j b n m h1 h2=>?_,fun id x hx=>?_⟩
  ·obtain ⟨q1,_,q2⟩:=hl1 _ _ _ h1
   obtain ⟨r1,_,r2⟩:=hl1 _ _ _ h2
   exact hinj i q1 j r1 (hs.inv.inj _ _ b n m q2 r2)
  ·obtain ⟨b,n,h1,h2⟩:=hs.inv.obj (σ id) _ (hmem id x hx)
   have hlv:lv1 id=some (b,n):=by simp [lv1,hdom id (by simp [hx]),hx,h1]
   refine ⟨b,n,hlv,?_⟩
   cases b with
   | none=>exact zoe h2
   | some b=>exact ⟨.inl ⟨id,n,hlv⟩,h2.2.1,ygt.unren hl2 hok1 h2.2.2⟩
 have hall:ybm (yax (yfo w lv1) (yax B ok0 lv w) lv1 w) w lv1 args0 (args.map a.eval++vs):=by
  have hlen:(args.map a.eval++vs).length=args0.length:=by
   have:=congrArg List.length hargs
   simp only [List.length_append,List.length_map] at this ⊢
   have:=har.1
   simp at this
   omega
  refine ⟨hlen,fun i x u hx hu=>?_⟩
  have hxi:(xs++caps)[i]?=some (yez σ x):=by rw [hargs];simp [hx]
  have hrel:Rel (yax B ok0 lv w) w lv (yez σ x) u:=by
   by_cases hlt:i < xs.length
   ·rw [List.getElem?_append_left hlt] at hxi
    rw [List.getElem?_append_left (by rw [har.1];exact hlt)] at hu
    exact har.2 i _ u hxi hu
   ·rw [List.getElem?_append_right (by omega)] at hxi
    rw [List.getElem?_append_right (by rw [har.1];omega),har.1] at hu
    exact hrc _ _ u hxi hu
  exact (Rel.unren hl2 hrel).keep fun g hg=>⟨hok1 g hg,rfl⟩
 unfold Oper.wp
 rw [hrun]
 refine (hc.2.2 (yax B ok0 lv w) lv1 w (args.map a.eval++vs) hinv hall).mono fun e w' ⟨u,lv3,he,hu,hi3,hpin⟩=>?_
 subst he
 simp only [hd]
 have hb3:=hi3.base
 -- the blocks that are not lent stay
 have hstay:∀ k,k < w.heap.size→(∀ i∈ids,∀ n,lv (σ i)≠some (some k,n))→w'.heap[k]?=w.heap[k]?:=by
  intro k hk hn
  exact hb3.block k hk fun hlent=>by
   obtain ⟨_,_,i,hi,n,hn'⟩:=hmine k hlent
   exact hn i hi n hn'
 have hsz:w.heap.size≤w'.heap.size:=hb3.size
 have hmine3:∀ id b n,lv3 id=some (some b,n)→B.mine b∧b < w'.heap.size∧(w.heap.size≤b∨∃ i∈ids,∃ n,lv (σ i)=some (some b,n)):=by
  intro id b n hb
  obtain ⟨_,_,q1,q2,_⟩:=hi3.lvat hb
  rcases q1 with q1|q1
  ·have:=hmine b q1
   exact ⟨this.1,q2,.inr this.2.2⟩
  ·exact ⟨.inr (Nat.le_trans hs.inv.base.size q1),q2,.inl q1⟩
 have hid3:∀ id b n,lv3 id=some (b,n)→id∈ids:=fun id b n hb=>by
  cases hq:hm' id with
  | none=>rw [hi3.dom id hq] at hb;cases hb
  | some o=>exact hdom' id (by simp [hq])
 let find:Nat→Option Nat:=fun j=>ids.find? fun i=>σ i == j
 have hf1:∀ j i,find j=some i→i∈ids∧σ i=j:=fun j i h=>⟨List.mem_of_find?_eq_some h,by simpa using List.find?_some h⟩
 have hf2:∀ i∈ids,find (σ i)=some i:=fun i hi=>by
  cases hq:find (σ i) with
  | none=>
   have:=List.find?_eq_none.1 hq i hi
   simp at this
  | some k=>obtain ⟨h1,h2⟩:=hf1 _ _ hq;rw [hinj k h1 i hi h2]
 have hf3:∀ j,find j=none→∀ i∈ids,σ i≠j:=fun j h i hi e=>by
  have:=List.find?_eq_none.1 h i hi
  simp [e] at this
 let lv2:Live:=fun j=>match find j with
  | some i=>lv3 i
  | none=>if (s2.h j).isSome then lv j else none
 have hlv2a:∀ i∈ids,lv2 (σ i)=lv3 i:=fun i hi=>by simp only [lv2,hf2 i hi]
 have hlv2b:∀ j,(∀ i∈ids,σ i≠j)→∀ b n,lv2 j=some (b,n)→lv j=some (b,n)∧(s2.h j).isSome:=by
  intro j hj b n hb
  have hn:find j=none:=by
   cases hq:find j with
   | none=>rfl
   | some i=>obtain ⟨h1,h2⟩:=hf1 _ _ hq;exact absurd h2 (hj i h1)
  simp only [lv2,hn] at hb
  split at hb
  ·rename_i h;exact ⟨hb,h⟩
  ·cases hb
 have hcase:∀ j,(∃ i∈ids,σ i=j)∨∀ i∈ids,σ i≠j:=fun j=>by
  cases hq:find j with
  | none=>exact .inr (hf3 j hq)
  | some i=>obtain ⟨h1,h2⟩:=hf1 _ _ hq;exact .inl ⟨i,h1,h2⟩
 have hok2:∀ g,yax B ok0 lv w g→yax B ok0 lv2 w' g∧w'.heap[g]?=w.heap[g]?:=by
  intro g hg
  refine ⟨⟨hg.1,Nat.lt_of_lt_of_le hg.2.1 hsz,fun j b n hb=>?_⟩,hstay g hg.2.1 fun i _ n hn=>hg.2.2 _ _ n hn rfl⟩
  rcases hcase j with ⟨i,hi,rfl⟩|hj
  ·rw [hlv2a i hi] at hb
   rcases (hmine3 i b n hb).2.2 with h|⟨i',_,n',h⟩
   ·have:=hg.2.1;omega
   ·exact hg.2.2 _ _ n' h
  ·exact hg.2.2 j b n (hlv2b j hj _ n hb).1
 have hok3:∀ g,yax (yfo w lv1) (yax B ok0 lv w) lv3 w' g→yax B ok0 lv2 w' g:=by
  intro g hg
  refine ⟨?_,hg.2.1,fun j b n hb=>?_⟩
  ·rcases hg.1 with h|h|h
   ·exact h.1
   ·exact .inr (hmine g h).1
   ·exact .inr (.inr (Nat.le_trans hs.inv.base.size h))
  ·rcases hcase j with ⟨i,hi,rfl⟩|hj
   ·rw [hlv2a i hi] at hb
    exact hg.2.2 i b n hb
   ·obtain ⟨hb',_⟩:=hlv2b j hj _ n hb
    have hlt:=hs.inv.lvlt hb'
    rintro rfl
    rcases hg.1 with h|h|h
    ·exact h.2.2 j b n hb' rfl
    ·obtain ⟨_,_,i,hi,n',hn'⟩:=hmine b h
     exact hj i hi (hs.inv.inj _ _ b n' n hn' hb')
    ·simp only [yfo] at h;omega
 have hren:∀ id b n,id∈ids→lv2 (σ id)=some (b,n)→lv3 id=some (b,n):=fun id b n hi hb=>by rwa [hlv2a id hi] at hb
 have hframe:∀ (y:AV) (z:Value),(∀ i∈ids,ment (σ i) y=false)→Rel (yax B ok0 lv w) w lv y z→Rel (yax B ok0 lv2 w') w' lv2 y z:=by
  intro y z hy hz
  refine (hz.relive fun j b n hb hm=>?_).keep hok2
  rcases hcase j with ⟨i,hi,rfl⟩|hj
  ·rw [hy i hi] at hm;cases hm
  ·exact (hlv2b j hj b n hb).1
 refine ⟨s2,lv2,rfl,⟨⟨?_,hs.inv.ok0lt,fun j hj=>?_,fun i j b n m h1 h2=>?_,fun j x hx=>?_⟩,by simp [Act.put,hs.size],fun x y hy=>?_,hs.defers.same (fun g hg=>(hstay g (Array.getElem?_eq_some_iff.1 hg).1 fun i hi n hn=>(hs.inv.lvat hn).choose_spec.2.2.2.notDef hg).trans hg),hs.big,fun j b ws hN hj hcj hb=>?_⟩⟩
 ·-- base
  refine ⟨hb3.os.trans hs.inv.base.os,hb3.tape.trans hs.inv.base.tape,hb3.output.trans hs.inv.base.output,Nat.le_trans hs.inv.base.size hsz,fun k hk hnl=>?_,hb3.glob,hs.inv.base.gsize,hs.inv.base.lentG,hs.inv.base.rdok⟩
  refine (hstay k (Nat.lt_of_lt_of_le hk hs.inv.base.size) fun i hi n hn=>?_).trans (hs.inv.base.block k hk hnl)
  obtain ⟨_,_,q1,_,_⟩:=hs.inv.lvat hn
  rcases q1 with q1|q1
  ·exact hnl q1
  ·omega
 ·-- dom
  rcases hcase j with ⟨i,hi,rfl⟩|hj'
  ·rw [hlv2a i hi]
   refine hi3.dom i ?_
   rw [hh1 i hi] at hj
   cases hq:hm' i with
   | none=>rfl
   | some o=>simp [hq] at hj
  ·cases hq:lv2 j with
   | none=>rfl
   | some q=>obtain ⟨q1,q2⟩:=q;have:=(hlv2b j hj' q1 q2 hq).2;simp [hj] at this
 ·-- inj
  rcases hcase i with ⟨i',hi,rfl⟩|hi <;> rcases hcase j with ⟨j',hj,rfl⟩|hj
  ·rw [hlv2a i' hi] at h1
   rw [hlv2a j' hj] at h2
   rw [hi3.inj i' j' b n m h1 h2]
  ·rw [hlv2a i' hi] at h1
   have h2':=(hlv2b j hj _ m h2).1
   have:=hs.inv.lvlt h2'
   rcases (hmine3 i' b n h1).2.2 with h|⟨k,hk,n',h⟩
   ·omega
   ·exact absurd (hs.inv.inj _ _ b n' m h h2') (hj k hk)
  ·rw [hlv2a j' hj] at h2
   have h1':=(hlv2b i hi _ n h1).1
   have:=hs.inv.lvlt h1'
   rcases (hmine3 j' b m h2).2.2 with h|⟨k,hk,n',h⟩
   ·omega
   ·exact absurd (hs.inv.inj _ _ b n' n h h1') (hi k hk)
  ·exact hs.inv.inj i j b n m (hlv2b i hi _ n h1).1 (hlv2b j hj _ m h2).1
 ·-- objects
  rcases hcase j with ⟨i,hi,rfl⟩|hj
  ·rw [hh1 i hi] at hx
   cases hq:hm' i with
   | none=>simp [hq] at hx
   | some ob=>
    simp only [hq,Option.map_some,Option.some.injEq] at hx
    subst hx
    obtain ⟨b,n,q1,q2⟩:=hi3.obj i ob hq
    refine ⟨b,n,by rw [hlv2a i hi];exact q1,?_⟩
    cases b with
    | none=>
     simp only [ygo] at q2 ⊢
     rcases q2 with rfl|⟨e,rfl⟩
     ·exact .inl rfl
     ·exact .inr ⟨e,rfl⟩
    | some b=>
     exact ⟨(hmine3 i b n q1).1,q2.2.1,ygt.ren hren (hro i ob hq) hok3 q2.2.2⟩
  ·obtain ⟨hm1,ob,hob,hfo⟩:=hh2 j x hj hx
   obtain ⟨b,n,q1,q2⟩:=hs.inv.obj j ob hob
   have hlv2:lv2 j=some (b,n):=by
    have hn:find j=none:=by
     cases hq:find j with
     | none=>rfl
     | some i=>obtain ⟨h1,h2⟩:=hf1 _ _ hq;exact absurd h2 (hj i h1)
    simp [lv2,hn,hx,q1]
   refine ⟨b,n,hlv2,?_⟩
   cases b with
   | none=>
    simp only [ygo] at q2 ⊢
    rcases hfo with rfl|⟨_,_,rfl,_⟩|⟨_,_,_,rfl,_⟩
    ·exact q2
    ·simp at q2
    ·simp at q2
   | some b=>
    obtain ⟨q3,q4,q5⟩:=q2
    have hbk:w'.heap[b]?=w.heap[b]?:=hstay b q4 fun i hi n' hn'=>hj i hi (hs.inv.inj _ _ b n' n hn' q1)
    refine ⟨q3,Nat.lt_of_lt_of_le q4 hsz,?_⟩
    rcases hfo with rfl|⟨zs,ys,rfl,rfl,hyl,hyz⟩|⟨te,zs,ys,rfl,rfl,hyl,hyz⟩
    ·refine (q5.relive (lv':=lv2) fun k b' n' hb' hmk=>?_).keep hok2 hbk
     rcases hcase k with ⟨i,hi,rfl⟩|hk
     ·rw [hm1 i hi] at hmk;cases hmk
     ·exact (hlv2b k hk b' n' hb').1
    ·obtain ⟨c,e,g1,g2,g3,g4,g5⟩:=q5
     refine ⟨c,e,by rw [hbk];exact g1,g2,by omega,fun y hy=>?_,fun k y z hy hz=>?_⟩
     ·obtain ⟨k,hk⟩:=List.getElem?_of_mem hy
      obtain ⟨x,hx⟩:∃ x,zs[k]?=some x:=⟨_,List.getElem?_eq_getElem (by have:=(List.getElem?_eq_some_iff.1 hk).1;omega)⟩
      rcases hyz k x y hx hk with rfl|rfl
      ·exact g4 _ (List.mem_of_getElem? hx)
      ·rfl
     ·obtain ⟨x,hx⟩:∃ x,zs[k]?=some x:=⟨_,List.getElem?_eq_getElem (by have:=(List.getElem?_eq_some_iff.1 hy).1;omega)⟩
      rcases hyz k x y hx hy with rfl|rfl
      ·refine hframe _ z (fun i hi=>?_) (g5 k _ z hx hz)
       exact yew hy (hm1 i hi)
      ·exact .one _ ((g5 k x z hx hz).oneCell (g4 x (List.mem_of_getElem? hx)))
    ·obtain ⟨⟨c,e,g1,g2,g3,g4,g5⟩,hsh⟩:=q5
     refine ⟨⟨c,e,by rw [hbk];exact g1,g2,by omega,fun y hy=>?_,fun k y z hy hz=>?_⟩,by rw [hyl];exact (yic hbk).trans hsh⟩
     ·obtain ⟨k,hk⟩:=List.getElem?_of_mem hy
      obtain ⟨x,hx⟩:∃ x,zs[k]?=some x:=⟨_,List.getElem?_eq_getElem (by have:=(List.getElem?_eq_some_iff.1 hk).1;omega)⟩
      rcases hyz k x y hx hk with rfl|rfl
      ·exact g4 _ (List.mem_of_getElem? hx)
      ·rfl
     ·obtain ⟨x,hx⟩:∃ x,zs[k]?=some x:=⟨_,List.getElem?_eq_getElem (by have:=(List.getElem?_eq_some_iff.1 hy).1;omega)⟩
      rcases hyz k x y hx hy with rfl|rfl
      ·refine hframe _ z (fun i hi=>?_) (g5 k _ z hx hz)
       exact yew hy (hm1 i hi)
      ·exact .one _ ((g5 k x z hx hz).oneCell (g4 x (List.mem_of_getElem? hx)))
 ·-- frame
  rcases ht x y hy with ⟨rfl,rfl⟩|⟨hxd,hxy⟩
  ·have hbig:=hs.big
   refine ⟨.inl hdN,?_⟩
   rw [ydl,if_pos (Nat.lt_of_lt_of_le hdN hbig)]
   simp only [Act.put]
   rw [show (a.tmps.setIfInBounds x u).getD x undef=u by simp [Array.getD,hs.size,hdN]]
   exact (Rel.ren hren hr hu).keep fun g hg=>⟨hok3 g hg,rfl⟩
  ·have hval:ydl B (a.put (some d) u) x=ydl B a x:=by
    unfold ydl
    split
    ·simp only [Act.put,Array.getD_eq_getD_getElem?,Array.getElem?_setIfInBounds]
     rw [if_neg (by omega)]
    ·rfl
   rw [hval]
   rcases hxy with ⟨rfl,z,hz⟩|⟨hz,hk⟩
   ·exact ⟨(hs.frame x z hz).1,.any _⟩
   ·refine ⟨(hs.frame x y hz).1,?_⟩
    have hold:=(hs.frame x y hz).2
    rcases hk with hk|⟨i,hi,off,o',hye,hci,hcc⟩
    ·exact hframe y _ hk hold
    ·have hlp:∀ z:Value,Rel (yax B ok0 lv w) w lv (.lp (σ i) off) z→Rel (yax B ok0 lv2 w') w' lv2 (.lp (σ i) off) z:=fun z hz=>by
      cases hz with
      | lp _ h1 h2=>
       refine .lp _ h1 fun b n hb=>?_
       rw [hlv2a i hi] at hb
       obtain ⟨b',n',n'',p1,p2⟩:=hpin i o' hci hcc
       rw [hb] at p2
       cases p2
       exact h2 b n' (hl2 i _ n' p1)
     rcases hye with rfl|⟨f',rfl⟩
     ·exact hlp _ hold
     ·generalize ydl B a x=z at hold
      cases hold with
      | fm vs hvl hvr=>
       refine .fm vs hvl fun k c u h1 h2=>?_
       have h3:=hvr k c u h1 h2
       match k,h1 with
       | 0,h1=>
        simp only [List.getElem?_cons_zero,Option.some.injEq] at h1
        subst h1
        exact hlp _ h3
       | k+1,h1=>simp at h1
 ·-- pins
  rcases hcase j with ⟨i,hi,rfl⟩|hj'
  ·rw [hh1 i hi] at hj
   cases hq:hm' i with
   | none=>simp [hq] at hj
   | some ob=>
    simp only [hq,Option.map_some,Option.some.injEq] at hj
    subst hj
    rw [yxd] at hcj
    obtain ⟨b',n',n'',p1,p2⟩:=hpin i ob hq hcj
    obtain ⟨zs,hz,hzc⟩:=hc.2.1 i ob hq hcj
    obtain ⟨n,hn⟩:=hs.pin (σ i) b _ hN (hmem i _ hz) (by rw [yxd];exact hzc) hb
    rw [hl2 i _ n' p1] at hn
    cases hn
    exact ⟨n'',by rw [hlv2a i hi];exact p2⟩
  ·obtain ⟨_,ob,hys,hfo⟩:=hh2 j _ hj' hj
   have hcc:isC ob=true:=by
    rcases hfo with rfl|⟨xs',ys',rfl,_,_⟩|⟨e,xs',ys',rfl,_,_⟩
    ·exact hcj
    ·rfl
    ·rfl
   obtain ⟨n,hn⟩:=hs.pin j b ob hN hys hcc hb
   obtain ⟨b2,n2,q1,_⟩:=hs.inv.obj j _ hys
   rw [hn] at q1
   cases q1
   have hn':find j=none:=by
    cases hq:find j with
    | none=>rfl
    | some i=>obtain ⟨h1,h2⟩:=hf1 _ _ hq;exact absurd h2 (hj' i h1)
   exact ⟨n,by simp [lv2,hn',hj,hn]⟩
end
def yep:List (Nat × Nat)→Nat→Nat
 | [],i=>i
 | (k,j)::sg,i=>match Nat.beq i k with
  | true=>j
  | false=>yep sg i
def ybg:List (Nat × Nat)→List Nat
 | []=>[]
 | (k,_)::sg=>k::ybg sg
def yce:List (Nat × Nat)→List Nat
 | []=>[]
 | (_,j)::sg=>j::yce sg
def yky (i:Nat):List Nat→Bool
 | []=>false
 | k::l=>match Nat.beq i k with
  | true=>true
  | false=>yky i l
def yeb:List Nat→Bool
 | []=>true
 | k::l=>match yky k l with
  | true=>false
  | false=>yeb l
theorem ydc {i:Nat}:∀ {l:List Nat},yky i l=true↔i∈l
 | []=>by simp [yky]
 | k::l=>by
  simp only [yky,List.mem_cons]
  cases h:Nat.beq i k with
  | true=>simp [Nat.eq_of_beq_eq_true h]
  | false=>
   have:i≠k:=fun e=>by subst e;simp at h
   simp [this,ydc (l:=l)]
theorem yjz {sg:List (Nat × Nat)} {i:Nat} (h:i∈ybg sg):yep sg i∈yce sg:=by
 induction sg with
 | nil=>simp [ybg] at h
 | cons q sg ih=>
  obtain ⟨k,j⟩:=q
  simp only [yep,yce]
  cases hb:Nat.beq i k with
  | true=>simp
  | false=>
   have hne:i≠k:=fun e=>by subst e;simp at hb
   simp only [ybg,List.mem_cons,hne,false_or] at h
   simp [ih h]
theorem zam {sg:List (Nat × Nat)} (h:yeb (yce sg)=true):∀ i∈ybg sg,∀ j∈ybg sg,yep sg i=yep sg j→i=j:=by
 induction sg with
 | nil=>intro i hi;simp [ybg] at hi
 | cons q sg ih=>
  obtain ⟨k,v⟩:=q
  simp only [yce,yeb] at h
  cases hv:yky v (yce sg) with
  | true=>simp [hv] at h
  | false=>
   simp only [hv] at h
   have hnv:v ∉ yce sg:=fun hm=>by rw [ydc.2 hm] at hv;cases hv
   intro i hi j hj he
   simp only [yep] at he
   cases hik:Nat.beq i k <;> cases hjk:Nat.beq j k <;> simp only [hik,hjk] at he
   ·have h1:i≠k:=fun e=>by subst e;simp at hik
    have h2:j≠k:=fun e=>by subst e;simp at hjk
    simp only [ybg,List.mem_cons,h1,h2,false_or] at hi hj
    exact ih h i hi j hj he
   ·have h1:i≠k:=fun e=>by subst e;simp at hik
    simp only [ybg,List.mem_cons,h1,false_or] at hi
    exact absurd (he ▸ yjz hi) hnv
   ·have h2:j≠k:=fun e=>by subst e;simp at hjk
    simp only [ybg,List.mem_cons,h2,false_or] at hj
    exact absurd (he ▸ yjz hj) hnv
   ·rw [Nat.eq_of_beq_eq_true hik,Nat.eq_of_beq_eq_true hjk]
theorem yux {sg:List (Nat × Nat)} {j:Nat} (h:j∈yce sg) (hk:yeb (ybg sg)=true):∃ i∈ybg sg,yep sg i=j:=by
 induction sg with
 | nil=>simp [yce] at h
 | cons q sg ih=>
  obtain ⟨k,v⟩:=q
  simp only [ybg,yeb] at hk
  cases hm:yky k (ybg sg) with
  | true=>simp [hm] at hk
  | false=>
   simp only [hm] at hk
   simp only [yce,List.mem_cons] at h
   rcases h with rfl|h
   ·exact ⟨k,by simp [ybg],by simp [yep]⟩
   ·obtain ⟨i,hi,he⟩:=ih h hk
    refine ⟨i,by simp [ybg,hi],?_⟩
    have:i≠k:=fun e=>by subst e;rw [ydc.2 hi] at hm;cases hm
    simp only [yep,yct this]
    exact he
def ytz (ids:List Nat):List (Nat × Option LObj)→Bool
 | []=>true
 | (k,_)::h=>yky k ids && ytz ids h
theorem yhq {ids:List Nat}:∀ {h:List (Nat × Option LObj)},ytz ids h=true→∀ id,(hlook h id).isSome→id∈ids
 | [],_,id,hs=>by simp [hlook] at hs
 | (k,o)::h,hd,id,hs=>by
  simp only [ytz,Bool.and_eq_true] at hd
  simp only [hlook] at hs
  cases hb:Nat.beq id k with
  | true=>rw [Nat.eq_of_beq_eq_true hb];exact ydc.1 hd.1
  | false=>simp only [hb] at hs;exact yhq hd.2 id hs
def zpr (sg:List (Nat × Nat)):List (Nat × Option LObj)→List (Nat × Option LObj)
 | []=>[]
 | (k,some o)::h=>(yep sg k,some (zbb (yep sg) o))::zpr sg h
 | (k,none)::h=>(yep sg k,none)::zpr sg h
theorem ytc {sg:List (Nat × Nat)} {h:List (Nat × Option LObj)}:∀ {hs:List (Nat × Option LObj)},yuy h (zpr sg hs)→∀ id o,hlook hs id=some o→hlook h (yep sg id)=some (zbb (yep sg) o)
 | [],_,id,o,hl=>by simp [hlook] at hl
 | (k,x)::hs,hsub,id,o,hl=>by
  simp only [hlook] at hl
  cases hb:Nat.beq id k with
  | true=>
   simp only [hb] at hl
   subst hl
   rw [Nat.eq_of_beq_eq_true hb]
   simp only [zpr,yuy] at hsub
   exact hsub.1 _ rfl
  | false=>
   simp only [hb] at hl
   cases x with
   | none=>simp only [zpr,yuy] at hsub;exact ytc hsub.2 id o hl
   | some x=>simp only [zpr,yuy] at hsub;exact ytc hsub.2 id o hl
def yom (ids:List Nat):List (Nat × Option LObj)→Bool
 | []=>true
 | (_,some o)::h=>yro ids o && yom ids h
 | (_,none)::h=>yom ids h
theorem yjw {ids:List Nat}:∀ {h:List (Nat × Option LObj)},yom ids h=true→∀ id o,hlook h id=some o→yro ids o=true
 | [],_,id,o,hl=>by simp [hlook] at hl
 | (k,x)::h,ho,id,o,hl=>by
  simp only [hlook] at hl
  cases hb:Nat.beq id k with
  | true=>
   simp only [hb] at hl
   subst hl
   simp only [yom,Bool.and_eq_true] at ho
   exact ho.1
  | false=>
   simp only [hb] at hl
   cases x with
   | none=>exact yjw (by simpa [yom] using ho) id o hl
   | some x=>simp only [yom,Bool.and_eq_true] at ho;exact yjw ho.2 id o hl
def yob (sg:List (Nat × Nat)) (hs':List (Nat × Option LObj)):List (Nat × Nat)→List (Nat × Option LObj)
 | []=>[]
 | (k,j)::r=>(j,match hlook hs' k with
  | some o=>some (zbb (yep sg) o)
  | none=>none)::yob sg hs' r
theorem ywj {sg:List (Nat × Nat)} {hs' h:List (Nat × Option LObj)}:∀ {l:List (Nat × Nat)},yeb (ybg l)=true→yeb (yce l)=true→∀ i∈ybg l,hlook (yob sg hs' l++h) (yep l i)=(hlook hs' i).map (zbb (yep sg))
 | [],_,_,i,hi=>by simp [ybg] at hi
 | (k,j)::l,h1,h2,i,hi=>by
  simp only [ybg,yeb] at h1
  cases hm:yky k (ybg l) with
  | true=>simp [hm] at h1
  | false=>
  simp only [hm] at h1
  simp only [yce,yeb] at h2
  cases hm2:yky j (yce l) with
  | true=>simp [hm2] at h2
  | false=>
  simp only [hm2] at h2
  simp only [yep]
  cases hb:Nat.beq i k with
  | true=>
   have e:=Nat.eq_of_beq_eq_true hb
   subst e
   simp only [yob,List.cons_append,hlook,Nat.beq_refl]
   cases hlook hs' i <;> rfl
  | false=>
   have hne:i≠k:=fun e=>by subst e;simp at hb
   simp only [ybg,List.mem_cons,hne,false_or] at hi
   have hv:=yjz hi
   have hnj:yep l i≠j:=fun e=>by rw [e] at hv;rw [ydc.2 hv] at hm2;cases hm2
   simp only [yob,List.cons_append,hlook,yct hnj]
   exact ywj h1 h2 i hi
theorem ymm {sg:List (Nat × Nat)} {hs' h:List (Nat × Option LObj)}:∀ {l:List (Nat × Nat)} {j:Nat},j ∉ yce l→hlook (yob sg hs' l++h) j=hlook h j
 | [],j,_=>rfl
 | (k,v)::l,j,hj=>by
  simp only [yce,List.mem_cons,not_or] at hj
  simp only [yob,List.cons_append,hlook,yct hj.1]
  exact ymm hj.2
def yvm:List Nat→List (Nat × Option LObj)→Option (List (Nat × Option LObj))
 | [],h=>some h
 | i::l,h=>match yqb i h with
  | some h'=>yvm l h'
  | none=>none
theorem ymf.trans {a b c:LObj} (h1:ymf a b) (h2:ymf b c):ymf a c:=by
 rcases h1 with rfl|⟨xs,ys,rfl,rfl,hl,hxy⟩|⟨te,xs,ys,rfl,rfl,hl,hxy⟩
 ·exact h2
 ·rcases h2 with rfl|⟨xs',zs,e,rfl,hl',hyz⟩|⟨_,_,_,e,_⟩
  ·exact .inr (.inl ⟨xs,ys,rfl,rfl,hl,hxy⟩)
  ·cases e
   refine .inr (.inl ⟨xs,zs,rfl,rfl,by omega,fun j x z hx hz=>?_⟩)
   obtain ⟨y,hy⟩:∃ y,ys[j]?=some y:=⟨_,List.getElem?_eq_getElem (by have:=(List.getElem?_eq_some_iff.1 hx).1;omega)⟩
   rcases hyz j y z hy hz with rfl|rfl
   ·exact hxy j x _ hx hy
   ·exact .inr rfl
  ·cases e
 ·rcases h2 with rfl|⟨_,_,e,_⟩|⟨te',xs',zs,e,rfl,hl',hyz⟩
  ·exact .inr (.inr ⟨te,xs,ys,rfl,rfl,hl,hxy⟩)
  ·cases e
  ·cases e
   refine .inr (.inr ⟨te,xs,zs,rfl,rfl,by omega,fun j x z hx hz=>?_⟩)
   obtain ⟨y,hy⟩:∃ y,ys[j]?=some y:=⟨_,List.getElem?_eq_getElem (by have:=(List.getElem?_eq_some_iff.1 hx).1;omega)⟩
   rcases hyz j y z hy hz with rfl|rfl
   ·exact hxy j x _ hx hy
   ·exact .inr rfl
theorem zno {i:Nat}:∀ {zs:List AV},ment.mentL i zs=true→∃ (j:Nat) (z:AV),zs[j]?=some z∧ment i z=true
 | [],h=>by simp [ment.mentL] at h
 | z::zs,h=>by
  simp only [ment.mentL,Bool.or_eq_true] at h
  rcases h with h|h
  ·exact ⟨0,z,rfl,h⟩
  ·obtain ⟨j,y,h1,h2⟩:=zno h
   exact ⟨j+1,y,by simpa using h1,h2⟩
theorem zcr {i:Nat} {xs ys:List AV} (hl:ys.length=xs.length) (hxy:∀ (j:Nat) (x y:AV),xs[j]?=some x→ys[j]?=some y→y=x∨y=.one) (hm:ment.mentL i xs=false):ment.mentL i ys=false:=by
 cases hq:ment.mentL i ys with
 | false=>rfl
 | true=>
  exfalso
  obtain ⟨j,y,hy,hmy⟩:=zno hq
  obtain ⟨x,hx⟩:∃ x,xs[j]?=some x:=⟨_,List.getElem?_eq_getElem (by have:=(List.getElem?_eq_some_iff.1 hy).1;omega)⟩
  rcases hxy j x y hx hy with rfl|rfl
  ·rw [yew hx hm] at hmy;cases hmy
  ·simp [ment] at hmy
theorem forgO_ment {a b:LObj} {i:Nat} (h:ymf a b) (hm:yfr i a=false):yfr i b=false:=by
 rcases h with rfl|⟨xs,ys,rfl,rfl,hl,hxy⟩|⟨te,xs,ys,rfl,rfl,hl,hxy⟩
 ·exact hm
 ·exact zcr hl hxy hm
 ·exact zcr hl hxy hm
theorem yri:∀ {l:List Nat} {h h':List (Nat × Option LObj)},yvm l h=some h'→∀ j ob',hlook h' j=some ob'→(∀ i∈l,yfr i ob'=false)∧∃ ob,hlook h j=some ob∧ymf ob ob'
 | [],h,h',he,j,ob',hj=>by simp only [yvm,Option.some.injEq] at he;subst he;exact ⟨by simp,ob',hj,.inl rfl⟩
 | i::l,h,h',he,j,ob',hj=>by
  simp only [yvm] at he
  split at he
  ·rename_i h1 hh
   obtain ⟨g1,ob1,g2,g3⟩:=yri he j ob' hj
   obtain ⟨g4,ob,g5,g6⟩:=yfb hh j ob1 g2
   refine ⟨fun k hk=>?_,ob,g5,g6.trans g3⟩
   rcases List.mem_cons.1 hk with rfl|hk
   ·exact forgO_ment g3 g4
   ·exact g1 k hk
  ·cases he
def yzh (l:List Nat) (y:AV):Bool:=match l with
 | []=>false
 | i::l=>match ment i y with
  | true=>true
  | false=>yzh l y
theorem yvt:∀ {l:List Nat} {y:AV},yzh l y=false→∀ i∈l,ment i y=false
 | [],y,_,i,hi=>by simp at hi
 | k::l,y,h,i,hi=>by
  simp only [yzh] at h
  cases hk:ment k y with
  | true=>simp [hk] at h
  | false=>
   simp only [hk] at h
   rcases List.mem_cons.1 hi with rfl|hi
   ·exact hk
   ·exact yvt h i hi
def zkx:Option LObj→Bool
 | some o=>isC o
 | none=>false
def zce (hs':List (Nat × Option LObj)) (j:Nat):List (Nat × Nat)→Bool
 | []=>false
 | (k,v)::l=>match Nat.beq v j with
  | true=>zkx (hlook hs' k)
  | false=>zce hs' j l
theorem yrg {hs':List (Nat × Option LObj)} {j:Nat}:∀ {l:List (Nat × Nat)},yeb (ybg l)=true→zce hs' j l=true→∃ i∈ybg l,yep l i=j∧∃ o,hlook hs' i=some o∧isC o=true
 | [],_,h=>by simp [zce] at h
 | (k,v)::l,hn,h=>by
  simp only [ybg,yeb] at hn
  cases hm:yky k (ybg l) with
  | true=>simp [hm] at hn
  | false=>
  simp only [hm] at hn
  simp only [zce] at h
  cases hb:Nat.beq v j with
  | true=>
   simp only [hb] at h
   refine ⟨k,by simp [ybg],by simp [yep,Nat.eq_of_beq_eq_true hb],?_⟩
   cases hq:hlook hs' k with
   | none=>simp [hq,zkx] at h
   | some o=>exact ⟨o,rfl,by simpa [hq,zkx] using h⟩
  | false=>
   simp only [hb] at h
   obtain ⟨i,h1,h2,h3⟩:=yrg hn h
   refine ⟨i,by simp [ybg,h1],?_,h3⟩
   have:i≠k:=fun e=>by subst e;rw [ydc.2 h1] at hm;cases hm
   simp only [yep,yct this]
   exact h2
def zsa (sg:List (Nat × Nat)) (hs':List (Nat × Option LObj)) (y:AV):Bool:=match yzh (yce sg) y with
 | false=>true
 | true=>match y with
  | .lp j _=>zce hs' j sg
  | .fm _ [.lp j _]=>zce hs' j sg
  | _=>false
def ylo (sg:List (Nat × Nat)) (hs':List (Nat × Option LObj)):List (Nat × AV)→List (Nat × AV)
 | []=>[]
 | (s,x)::t=>match zsa sg hs' x with
  | true=>(s,x)::ylo sg hs' t
  | false=>(s,.any)::ylo sg hs' t
theorem yug {sg:List (Nat × Nat)} {hs':List (Nat × Option LObj)} {y:AV} (hn:yeb (ybg sg)=true) (h:zsa sg hs' y=true):zyt (yep sg) (ybg sg) (hlook hs') y:=by
 unfold zsa at h
 cases hm:yzh (yce sg) y with
 | false=>exact .inl fun i hi=>yvt hm _ (yjz hi)
 | true=>
  simp only [hm] at h
  split at h
  ·rename_i j off
   obtain ⟨i,h1,h2,o,h3,h4⟩:=yrg hn h
   exact .inr ⟨i,h1,off,o,.inl (by rw [h2]),h3,h4⟩
  ·rename_i f j off
   obtain ⟨i,h1,h2,o,h3,h4⟩:=yrg hn h
   exact .inr ⟨i,h1,off,o,.inr ⟨f,by rw [h2]⟩,h3,h4⟩
  ·cases h
theorem yhr {sg:List (Nat × Nat)} {hs':List (Nat × Option LObj)}:∀ {t:List (Nat × AV)} {x:Nat} {y:AV},look (ylo sg hs' t) x=some y→(y=.any∧∃ z,look t x=some z)∨(look t x=some y∧zsa sg hs' y=true)
 | [],x,y,h=>by simp [ylo,look] at h
 | (s,z)::t,x,y,h=>by
  simp only [ylo] at h
  cases hk:zsa sg hs' z with
  | true=>
   simp only [hk,look] at h ⊢
   cases hb:Nat.beq x s with
   | true=>simp only [hb,Option.some.injEq] at h ⊢;subst h;exact .inr ⟨rfl,hk⟩
   | false=>simp only [hb] at h ⊢;exact yhr h
  | false=>
   simp only [hk,look] at h ⊢
   cases hb:Nat.beq x s with
   | true=>simp only [hb,Option.some.injEq] at h ⊢;subst h;exact .inl ⟨rfl,z,rfl⟩
   | false=>simp only [hb] at h ⊢;exact yhr h
section
variable {P:Program} {T:Nat→Option Ty} {N:Nat} {ops:Array Oper} {lf:Oper→Bool} {Q:SS→Prop} {t:List (Nat × AV)} {h:List (Nat × Option LObj)} {rest:List Oper} {d:Nat} {ty:TypeId} {pos:String} {af:Array Edge} {gd:Option (Nat × Bool)} {r:AV}
def zhd (l:List Nat):List (Nat × Option LObj)→List (Nat × Option LObj)
 | []=>[]
 | (k,o)::h=>match yky k l with
  | true=>zhd l h
  | false=>(k,o)::zhd l h
theorem ywo {l:List Nat} {j:Nat} (hj:j ∉ l):∀ h:List (Nat × Option LObj),hlook (zhd l h) j=hlook h j
 | []=>rfl
 | (k,o)::h=>by
  simp only [zhd]
  cases hm:yky k l with
  | true=>
   have hk:Nat.beq j k=false:=yct fun e=>hj (e ▸ ydc.1 hm)
   simp only [hlook,hk]
   exact ywo hj h
  | false=>
   simp only [hlook]
   cases Nat.beq j k with
   | true=>rfl
   | false=>exact ywo hj h
theorem L_callMG (sg:List (Nat × Nat)) {g:Operand} {args:List Operand} {ats:Array TypeId} {f:FuncId} {caps xs args0:List AV} {hs hs' h':List (Nat × Option LObj)} (hc:ywc P f args0 (hlook hs) r (hlook hs')) (hg:zbl (evF (look t) g) f caps args) (hx:evL (evF (look t)) args=some xs) (hargs:xs++caps=args0.map (yez (yep sg)))
  (hk:yeb (ybg sg)=true) (hv:yeb (yce sg)=true) (hd1:ytz (ybg sg) hs=true) (hd2:ytz (ybg sg) hs'=true) (hsub:yuy h (zpr sg hs)) (hr:yel (ybg sg) r=true) (ho:yom (ybg sg) hs'=true) (hh:yvm (yce sg) (zhd (yce sg) h)=some h')
  (hl:lf ⟨some d,.call { callee:=.value g,args:=args.toArray,argTypes:=ats },ty,pos,af,gd⟩=true) (hw:yaj ops (look t) ⟨some d,.call { callee:=.value g,args:=args.toArray,argTypes:=ats },ty,pos,af,gd⟩=some true) (hd:Nat.blt d N=true)
  (k:Lex P N ops lf Q rest (S ((d,yez (yep sg) r)::ylo sg hs' t) (yob sg hs' sg++h'))):Lex P N ops lf Q (⟨some d,.call { callee:=.value g,args:=args.toArray,argTypes:=ats },ty,pos,af,gd⟩::rest) (S t h):=by
 refine yed hl hw ?_ k
 refine ypf (σ:=yep sg) (ids:=ybg sg) rfl rfl (by simpa using hd) hg hx hargs hc (zam hv) (yhq hd1) (yhq hd2) (ytc hsub) hr (yjw ho) (fun x y hy=>?_) (fun i hi=>ywj hk hv i hi) (fun j ob' hj hob=>?_)
 ·simp only [S,look] at hy
  cases hb:Nat.beq x d with
  | true=>simp only [hb,Option.some.injEq] at hy;exact .inl ⟨Nat.eq_of_beq_eq_true hb,hy.symm⟩
  | false=>
   simp only [hb] at hy
   refine .inr ⟨fun e=>by subst e;simp at hb,?_⟩
   rcases yhr hy with hq|⟨h1,h2⟩
   ·exact .inl hq
   ·exact .inr ⟨h1,yug hk h2⟩
 ·have hjv:j ∉ yce sg:=fun hm=>by
   obtain ⟨i,h1,h2⟩:=yux hm hk
   exact hj i h1 h2
  simp only [S,ymm hjv] at hob
  obtain ⟨h1,h2⟩:=yri hh j ob' hob
  rw [ywo hjv] at h2
  exact ⟨fun i hi=>h1 _ (yjz hi),h2⟩
theorem yxm (sg:List (Nat × Nat)) {g:Operand} {args:List Operand} {ats:Array TypeId} {f:FuncId} {caps xs args0:List AV} {hs hs' h':List (Nat × Option LObj)} (hc:ywc P f args0 (hlook hs) r (hlook hs')) (hg:evF (look t) g=some (.fn f caps)) (hx:evL (evF (look t)) args=some xs) (hargs:xs++caps=args0.map (yez (yep sg)))
  (hk:yeb (ybg sg)=true) (hv:yeb (yce sg)=true) (hd1:ytz (ybg sg) hs=true) (hd2:ytz (ybg sg) hs'=true) (hsub:yuy h (zpr sg hs)) (hr:yel (ybg sg) r=true) (ho:yom (ybg sg) hs'=true) (hh:yvm (yce sg) (zhd (yce sg) h)=some h')
  (hl:lf ⟨some d,.call { callee:=.value g,args:=args.toArray,argTypes:=ats },ty,pos,af,gd⟩=true) (hw:yaj ops (look t) ⟨some d,.call { callee:=.value g,args:=args.toArray,argTypes:=ats },ty,pos,af,gd⟩=some true) (hd:Nat.blt d N=true)
  (k:Lex P N ops lf Q rest (S ((d,yez (yep sg) r)::ylo sg hs' t) (yob sg hs' sg++h'))):Lex P N ops lf Q (⟨some d,.call { callee:=.value g,args:=args.toArray,argTypes:=ats },ty,pos,af,gd⟩::rest) (S t h):=
 L_callMG sg hc (.inl hg) hx hargs hk hv hd1 hd2 hsub hr ho hh hl hw hd k
end
end
section
open Go.RowKit
section
variable {P:Program} {T:Nat→Option Ty} {N:Nat} {ops:Array Oper} {lf:Oper→Bool} {Q:SS→Prop} {t:List (Nat × AV)} {h:List (Nat × Option LObj)} {rest:List Oper} {d:Nat} {op:Op} {ty:TypeId} {pos:String} {af:Array Edge} {gd:Option (Nat × Bool)} {r:AV}
theorem yld {ρ:Operand→Option AV} {hp:Nat→Option LObj} {x:Operand} {id off:Nat} {xs:List AV} (hx:ρ x=some (.lp id off)) (hh:yqj (hp id)=some xs):ybo P hp ρ (.nilCheck x) ty (.lp id off):=
 yam fun B ok0 lv w a o ho hty hi' hops=>by
  have hr:=hops x _ (by simp [Op.operands]) hx
  obtain ⟨g1,g2⟩:=yev hh
  obtain ⟨b,n,hb,hu,_⟩:=yfx hi' g1 g2 hr
  exact ⟨a.eval x,by simp [execOp,ho,hu],hr⟩
theorem yiz {x:Operand} {id off:Nat} {xs:List AV} (hx:evF (look t) x=some (.lp id off)) (hh:yqj (hlook h id)=some xs) (hw:yaj ops (look t) ⟨some d,.nilCheck x,ty,pos,af,gd⟩=some true) (hd:Nat.blt d N=true) (k:Lex P N ops lf Q rest (S ((d,.lp id off)::t) h)):Lex P N ops lf Q (⟨some d,.nilCheck x,ty,pos,af,gd⟩::rest) (S t h):=
 ycc (yld hx hh) hw hd k
end
end
end Go.Proofs.YtgpbgfpjlhoicaaGreatDoor
