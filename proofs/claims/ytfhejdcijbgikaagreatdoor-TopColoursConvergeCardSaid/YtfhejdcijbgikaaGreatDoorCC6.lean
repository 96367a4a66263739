/- Part 6 of the texts under TopColoursConverge: joined, with what it needs alone. -/
import GoSem.Core.Utf8
import Derived.Laws.BytesArg
import Derived.Lib.AppendStr
import Derived.Lib.UnsafeStr
import Derived.Lib.Builder
import Derived.Laws.Externs
import Derived.Laws.Pointers
import Derived.LaidEqlPtr
import Derived.Test.YtfhejdcijbgikaaGreatDoorCC5
set_option linter.unusedVariables false
namespace Go.Proofs.YtfhejdcijbgikaaGreatDoor
section
open Go.RowKit
section
variable {P:Program} {T:Nat→Option Ty} {N:Nat} {ops:Array Oper} {lf:Oper→Bool} {Q:SS→Prop} {t:List (Nat × AV)} {h:List (Nat × Option LObj)} {rest:List Oper} {d:Nat} {op:Op} {ty:TypeId} {pos:String} {af:Array Edge} {gd:Option (Nat × Bool)} {r:AV}
theorem Sim.ownH {B:Bse} {ok0:Nat→Prop} {s:SS} {lv:Live} {a:Act} {w:World} (hs:Sim B ok0 N s lv a w) {id:Nat} (hf:ymi s id) :
  ∃ lv',Sim B ok0 N ⟨s.t,yei s.h id (some (.vec []))⟩ lv' a w∧∀ size,Rel (yaw B ok0 lv' w) w lv' (.ls id size 0) (.slice none 0 0):=by
 have hid:lv id=none:=hs.inv.dom id hf.1
 have hsame:∀ j b n,(fun j=>if j=id then some (none,0) else lv j:Live) j=some (some b,n)→lv j=some (some b,n):=by
  intro j b n hj
  simp only at hj
  split at hj
  ·cases hj
  ·exact hj
 have hok:∀ g,yaw B ok0 lv w g→yaw B ok0 (fun j=>if j=id then some (none,0) else lv j) w g:=fun g hg=>⟨hg.1,hg.2.1,fun j b n hj=>hg.2.2 j b n (hsame j b n hj)⟩
 have hre:∀ (x:AV) (u:Value),ment id x=false→Rel (yaw B ok0 lv w) w lv x u→Rel (yaw B ok0 (fun j=>if j=id then some (none,0) else lv j) w) w (fun j=>if j=id then some (none,0) else lv j) x u:=fun x u hm hr=>
  (hr.relive fun j b n hj hmj=>by
   split at hj
   ·rename_i e;subst e;rw [hm] at hmj;cases hmj
   ·exact hj).keep fun g hg=>⟨hok g hg,rfl⟩
 refine ⟨fun j=>if j=id then some (none,0) else lv j,⟨⟨hs.inv.base,hs.inv.ok0lt,fun j hj=>?_,fun i j b n m h1 h2=>hs.inv.inj i j b n m (hsame _ _ _ h1) (hsame _ _ _ h2),fun j x hx=>?_⟩,hs.size,fun x y hy=>?_,hs.defers,hs.big,fun j b o hN hj hc hb=>?_⟩,fun size=>?_⟩
 ·by_cases h:j=id
  ·subst h;simp [yei] at hj
  ·simp only [yei,h,if_false] at hj ⊢;exact hs.inv.dom j hj
 ·by_cases h:j=id
  ·subst h
   simp only [yei,if_true,Option.some.injEq] at hx
   subst hx
   exact ⟨none,0,by simp,.inl rfl⟩
  ·simp only [yei,h,if_false] at hx
   obtain ⟨b,n,h1,h2⟩:=hs.inv.obj j x hx
   refine ⟨b,n,by simp [h,h1],?_⟩
   cases b with
   | none=>exact h2
   | some b=>
    refine ⟨h2.1,h2.2.1,(h2.2.2.relive fun i b n hi hmi=>?_).keep (fun g hg=>⟨hok g hg,rfl⟩) rfl⟩
    split at hi
    ·rename_i e;subst e;rw [hf.2.2 j x hx] at hmi;cases hmi
    ·exact hi
 ·have:=hs.frame x y hy
  exact ⟨this.1,hre y _ (hf.2.1 x y hy) this.2⟩
 ·by_cases h:j=id
  ·subst h;simp only [yei,if_true,Option.some.injEq] at hj;subst hj;cases hc
  ·simp only [yei,h,if_false] at hj ⊢
   exact hs.pin j b o hN hj hc hb
 ·refine .ls _ rfl fun b n hb=>?_
  simp only [if_true,Option.some.injEq,Prod.mk.injEq] at hb
  obtain ⟨rfl,rfl⟩:=hb
  exact ⟨rfl,rfl⟩
theorem ylc (hT:TOK P T) {o:Oper} {ti e es eb sz:Nat} {ea ag:Bool} {ez z:List Value} {x y:Operand} {m:Nat} {cs:List AV} {src:AV} {s:SS} (id:Nat) (ho:o.op=.call { callee:=.builtin .append,args:=#[x,y],argTypes:=#[ti,ti] }) (hd:o.dst=some d) (hdN:d < N) (hk:T ti=some ⟨.slc e es ea eb ez,sz,ag,z⟩)
  (hx:evF s.t x=some (.v (.slice none 0 0))) (hf:ymi s id) (hy:evF s.t y=some src) (hsrc:∀ (ok:Nat→Prop) (w:World) (lv:Live) (u:Value),Rel ok w lv src u→zvg ok w es m cs u∧∀ c∈cs,ydt c=true) (hcp:∀ c∈cs,yap c=true) (hlim:m≤4294967296∧m * eb≤140737488355328) :
  ycc P N o s (·=⟨yes s.t (some d) (.ls id es m),yei s.h id (some (.vec cs))⟩):=by
 intro B ok0 lv a w hs0 Q
 obtain ⟨lv1,hs,hnil⟩:=hs0.ownH hf
 obtain ⟨h1,h2⟩:=hsrc _ _ _ _ (hs.eval (s:=⟨s.t,yei s.h id (some (.vec []))⟩) hy)
 have hxv:a.eval x=.slice none 0 0:=yfg (hs0.eval hx)
 obtain ⟨v',w',lv',hrun0,hs',hrel⟩:=yvf (s':=⟨s.t,yei s.h id (some (.vec cs))⟩) (ty:=o.type) hs (hT _ _ hk).2.2 (id:=id) (len:=0) (xs:=[]) (by simp [yei]) (by simp) (hnil es) h1 h2 hcp (by simpa using hlim)
  (fun x y h=>.inr ⟨h,hf.2.1 x y h⟩) (fun x y h=>⟨y,h⟩) (fun j ob' hj hob=>by
   simp only [yei,hj,if_false] at hob
   exact ⟨hf.2.2 j ob' hob,ob',by simp only [yei,hj,if_false];exact hob,Or.inl rfl⟩) (by simp [yei])
 have hrun:(execOp a.eval o).run P w=.ok (.value v') w':=by
  simp only [execOp,ho,resolve,invoke,builtin,Sem.run_bind,Sem.run_pure,Result.andThen_ok,List.map_toArray,List.map_cons,List.map_nil,hxv,hrun0]
 unfold Oper.wp
 rw [hrun]
 simp only [Oper.upon,hd]
 rw [Nat.zero_add] at hrel
 exact ⟨_,lv',rfl,hs'.putOnly hdN hrel⟩
theorem L_appendNil (hT:TOK P T) {ti e es eb sz:Nat} {ea ag:Bool} {ez z:List Value} {x y:Operand} {rows:List (List AV)} (hk:T ti=some ⟨.slc e es ea eb ez,sz,ag,z⟩) (hx:evF (look t) x=some (.v (.slice none 0 0))) (hy:evF (look t) y=some (.sl es rows))
  (hcp:∀ c∈rows.flatten,yap c=true) (hlim:rows.length≤4294967296∧rows.length * eb≤140737488355328) (h1:ydd d t=true) (h2:ybr d h=true) (hl:lf ⟨some d,.call { callee:=.builtin .append,args:=#[x,y],argTypes:=#[ti,ti] },ty,pos,af,gd⟩=true)
  (hw:yah ops (look t) ⟨some d,.call { callee:=.builtin .append,args:=#[x,y],argTypes:=#[ti,ti] },ty,pos,af,gd⟩=some true) (hd:Nat.blt d N=true) (k:Lex P N ops lf Q rest (S ((d,.ls d es rows.length)::t) ((d,some (.vec rows.flatten))::h))) :
  Lex P N ops lf Q (⟨some d,.call { callee:=.builtin .append,args:=#[x,y],argTypes:=#[ti,ti] },ty,pos,af,gd⟩::rest) (S t h):=by
 refine ydi hl hw ?_ k
 rw [← yqt]
 exact ylc hT d rfl rfl (by simpa using hd) hk hx (yhw h1 h2) hy (fun ok w lv u hr=>yzz hr) hcp hlim
theorem L_storeV (hT:TOK P T) {ti:Nat} {y:Ty} {x v:Operand} {id off:Nat} {xs cs:List AV} {u:AV} (hy:T ti=some y) (hx:evF (look t) x=some (.lp id off)) (hv:evF (look t) v=some u) (hcs:ydk u=some cs) (hcl:Nat.beq cs.length y.size=true) (hh:hlook h id=some (.vec xs)) (hlt:off+cs.length≤xs.length) (hne:xs≠[]) (hp:yap.pureL cs=true)
  (hl:lf ⟨none,.store ti x v,ty,pos,af,gd⟩=true) (hw:yah ops (look t) ⟨none,.store ti x v,ty,pos,af,gd⟩=some true) (k:Lex P N ops lf Q rest (S t ((id,some (.vec (xs.take off++cs++xs.drop (off+cs.length))))::h))):Lex P N ops lf Q (⟨none,.store ti x v,ty,pos,af,gd⟩::rest) (S t h):=by
 refine ydi hl hw (by rw [← S_h];exact yhr rfl rfl (hT _ _ hy).1 hx hv hcs (by simpa using hcl) hh (.vec hlt (yjw hp) hne)) k
theorem L_loadV (hT:TOK P T) {ti:Nat} {y:Ty} {x:Operand} {id off:Nat} {xs cs:List AV} (hy:T ti=some y) (hag:y.agg=true) (hx:evF (look t) x=some (.lp id off)) (hh:ycl (hlook h id)=some xs) (hne:xs≠[]) (hr:ypx y.size (xs.drop off)=some cs)
  (hw:yah ops (look t) ⟨some d,.load ti x,ty,pos,af,gd⟩=some true) (hd:Nat.blt d N=true) (k:Lex P N ops lf Q rest (S ((d,.agg cs)::t) h)):Lex P N ops lf Q (⟨some d,.load ti x,ty,pos,af,gd⟩::rest) (S t h):=by
 refine yby (ymz (hT _ _ hy).1 hx hh (.inl hne) ?_) hw hd k
 rw [hag]
 simp only [zjo,hr]
theorem Sim.freezeC {B:Bse} {ok0:Nat→Prop} {s:SS} {lv:Live} {a:Act} {w:World} (hs:Sim B ok0 N s lv a w) {jb k id size len:Nat} {xs ys ys':List AV} {rows:List (List AV)} (hj:s.h jb=some (.cells ys)) (hk:ys[k]?=some (.ls id size len)) (hx:s.h id=some (.vec xs)) (hlen:rows.length=len) (hsize:∀ row∈rows,row.length=size) (hfl:rows.flatten=xs)
  {s':SS} (ht:∀ x y,s'.t x=some y→y=.any∨s.t x=some y) (hlt:∀ x y,s'.t x=some y→∃ z,s.t x=some z) (hid:s'.h id=none) (hj':s'.h jb=some (.cells ys')) (hyl:ys'.length=ys.length) (hh:∀ j ob',s'.h j=some ob'→∃ ob,s.h j=some ob∧ylb ob ob'):∃ lv',Sim B ok0 N ⟨s'.t,yei s'.h jb (some (.cells (ys'.set k (.sl size rows))))⟩ lv' a w:=by
 obtain ⟨lv',h1,h2,h3,h4⟩:=hs.forg ht hlt hh
 refine ⟨lv',?_⟩
 have hpure:∀ x∈xs,∀ i,ment i x=false:=by
  intro x hxm i
  obtain ⟨b,n,g1,g2⟩:=hs.inv.obj id _ hx
  cases b with
  | none=>simp only [yfb,reduceCtorEq,exists_const,or_false] at g2;cases g2;cases hxm
  | some b=>exact yap.ment (g2.2.2.2 x hxm)
 obtain ⟨bo,n,g1,g2⟩:=hs.inv.obj jb _ hj
 obtain ⟨bo',n',k1,k2⟩:=h1.inv.obj jb _ hj'
 have hsame:=h2 jb bo' n' k1
 rw [g1] at hsame
 cases hsame
 cases bo with
 | none=>simp [yfb] at g2
 | some b=>
  obtain ⟨q1,q2,c,e,q3,q4,q5,q6,q7⟩:=g2
  obtain ⟨r1,r2,c',e',r3,r4,r5,r6,r7⟩:=k2
  rw [q3] at r3
  cases r3
  have hkl:=(List.getElem?_eq_some_iff.1 hk).1
  have hkc:k < c.size:=by omega
  have hold:Rel (yaw B ok0 lv w) w lv (.ls id size len) c[k]:=q7 k _ _ hk (by simp [hkc])
  have hnew:Rel (yaw B ok0 lv' w) w lv' (.sl size rows) c[k]:=by
   have hr:=yph hs.inv hold (by rw [hx];rfl) hlen hsize hfl hpure (yaw B ok0 lv' w) h4 (fun b n hb=>?_)
   ·exact hr.relive fun i b n _ hm=>by simp [ment] at hm
   ·obtain ⟨_,_,g1,g2,_⟩:=hs.inv.lvat hb
    refine ⟨.inr g1,g2,fun j b' m hj he=>?_⟩
    subst he
    have:=hs.inv.inj j id b' m n (h2 j _ m hj) hb
    subst this
    rw [h1.inv.dom j hid] at hj
    cases hj
  refine ⟨⟨h1.inv.base,h1.inv.ok0lt,fun j hjn=>?_,h1.inv.inj,fun j x hxj=>?_⟩,h1.size,h1.frame,h1.defers,h1.big,fun j b o hN hjx hc hb=>?_⟩
  ·by_cases hjj:j=jb
   ·subst hjj;simp [yei] at hjn
   ·simp only [yei,hjj,if_false] at hjn;exact h1.inv.dom j hjn
  ·by_cases hjj:j=jb
   ·subst hjj
    simp only [yei,if_true,Option.some.injEq] at hxj
    subst hxj
    refine ⟨some b,n,k1,r1,r2,c,e,q3,q4,by simpa using r5,fun x hxm=>?_,fun i x u hi hu=>?_⟩
    ·rcases List.mem_or_eq_of_mem_set hxm with hm|hm
     ·exact r6 x hm
     ·subst hm;rfl
    ·rw [List.getElem?_set] at hi
     split at hi
     ·rename_i e1
      subst e1
      split at hi
      ·cases hi
       simp only [hkc,Array.getElem?_eq_getElem,Option.some.injEq] at hu
       subst hu
       exact hnew
      ·cases hi
     ·exact r7 i x u hi hu
   ·simp only [yei,hjj,if_false] at hxj
    exact h1.inv.obj j x hxj
  ·by_cases hjj:j=jb
   ·subst hjj
    exact h1.pin j b _ hN hj' rfl hb
   ·simp only [yei,hjj,if_false] at hjx
    exact h1.pin j b o hN hjx hc hb
theorem ygs {c:Code} {Q:Exit→SS→Prop} {t':List (Nat × AV)} {h':List (Nat × Option LObj)} (jb k:Nat) {id size len:Nat} {xs ys ys':List AV} (rows:List (List AV)) (hj:hlook h jb=some (.cells ys)) (hk:ys[k]?=some (.ls id size len)) (hx:hlook h id=some (.vec xs)) (hlen:rows.length=len) (hsize:∀ row∈rows,row.length=size) (hfl:rows.flatten=xs)
  (ht:ysd id t=some t') (hh:ypv id h=some h') (hj':hlook ((id,none)::h') jb=some (.cells ys')) (hyl:Nat.beq ys'.length ys.length=true) (k:A P N c Q (S t' ((jb,some (.cells (ys'.set k (.sl size rows))))::(id,none)::h'))):A P N c Q (S t h):=by
 intro B ok0 lv a w hs
 obtain ⟨g1,g2⟩:=ygk ht
 obtain ⟨lv',hs'⟩:=hs.freezeC (s':=S t' ((id,none)::h')) hj hk hx hlen hsize hfl (fun x y hy=>(g1 x y hy).imp (fun h=>h) And.left) g2 (by simp [S,hlook]) hj' (Nat.eq_of_beq_eq_true hyl) (fun j ob' hj=>by
  simp only [S,hlook] at hj
  split at hj
  ·cases hj
  ·exact (yfl hh j ob' hj).2)
 refine k B ok0 lv' a w ?_
 rw [← S_h]
 exact hs'
end
section
variable {P:Program} {N:Nat} {ops:Array Oper} {lf:Oper→Bool} {Q Q0:SS→Prop}
def zpa (ops:Array Oper) (lf:Oper→Bool) (k:Nat) (listed:Array Bool):Bool:=
 (Region.ready .any ops listed).contains k && (match ops[k]? with
   | none=>false
   | some o=>(if lf o then Region.ready .any ops listed == [k] else (List.range ops.size).all fun j=>j == k || listed.getD j true || yit ops ops.size j k || match ops[j]? with
    | some oj=>o.apart ops oj && !lf oj
    | none=>true))
def zir (ops:Array Oper) (lf:Oper→Bool):List Nat→Array Bool→Bool
 | [],_=>true
 | k::ks,listed=>zpa ops lf k listed && zir ops lf ks (listed.setIfInBounds k true)
def yho:List Nat→Array Bool→Array Bool
 | [],listed=>listed
 | k::ks,listed=>yho ks (listed.setIfInBounds k true)
theorem anyA_pre {l:List Oper} {s:SS} {fuel:Nat} (h:Lex P N ops lf Q0 l s) (hD:∀ (k:Nat) (o:Oper),ops[k]?=some o→ytt N o):∀ (ks:List Nat) (listed:Array Bool),(∀ j:Nat,l[j]?=(ks[j]?).bind (fun k:Nat=>ops[k]?))→ks.length=l.length→yqa ops listed →
  (yqa ops (yho ks listed)→∀ s',Q0 s'→zrq P N ops lf Q fuel (yho ks listed) s')→zir ops lf ks listed=true→zrq P N ops lf Q (l.length+fuel) listed s:=by
 induction h with
 | @nil s h=>
  intro ks listed hl hlen hcl hend hB
  have:ks=[]:=List.eq_nil_of_length_eq_zero (by simpa using hlen)
  subst this
  simpa [yho] using hend hcl s h
 | @split l s d b hb k ih=>
  intro ks listed hl hlen hcl hend hB
  have:=ih b rfl ks listed hl hlen hcl hend hB
  rw [ykb hb] at this
  exact this
 | @calm o l s r hw hd hy k ih=>
  intro ks listed hl hlen hcl hend hB
  match ks,hlen with
  | k::ks,hlen=>
   have h0:ops[k]?=some o:=by simpa using (hl 0).symm
   simp only [zir,zpa,h0,Bool.and_eq_true] at hB
   obtain ⟨⟨hr,hf⟩,hB'⟩:=hB
   have hr':k∈Region.ready .any ops listed:=by simpa using hr
   have hk:=ih ks (listed.setIfInBounds k true) (fun j=>by have:=hl (j+1);simpa using this) (by simpa using hlen) (hcl.set hr') hend hB'
   rw [List.length_cons,Nat.add_right_comm]
   by_cases hlo:lf o=true
   ·simp only [hlo,if_true,beq_iff_eq] at hf
    refine ⟨fun h=>(by rw [hf] at h;cases h),fun i hi=>?_⟩
    rw [hf] at hi
    simp only [List.mem_singleton] at hi
    subst hi
    unfold aOp
    simp only [h0]
    exact ⟨hd,.inl ⟨r,.inl ⟨hw,hy⟩,hk⟩⟩
   ·simp only [hlo] at hf
    refine yot h0 hd (l.length+fuel) listed s hcl ?_ hr' (.inl ⟨hw,hy⟩) hk
    intro j oj hj hne hun
    simp only [Bool.false_eq_true,if_false,List.all_eq_true,List.mem_range] at hf
    have:=hf j (Array.getElem?_eq_some_iff.1 hj).1
    simp only [hj,hun,Bool.or_eq_true,beq_iff_eq,hne,false_or,Bool.false_eq_true,Bool.and_eq_true,Bool.not_eq_true',or_false] at this
    exact this
 | @skip o l s hw hd k ih=>
  intro ks listed hl hlen hcl hend hB
  match ks,hlen with
  | k::ks,hlen=>
   have h0:ops[k]?=some o:=by simpa using (hl 0).symm
   simp only [zir,zpa,h0,Bool.and_eq_true] at hB
   obtain ⟨⟨hr,hf⟩,hB'⟩:=hB
   have hr':k∈Region.ready .any ops listed:=by simpa using hr
   have hk:=ih ks (listed.setIfInBounds k true) (fun j=>by have:=hl (j+1);simpa using this) (by simpa using hlen) (hcl.set hr') hend hB'
   rw [List.length_cons,Nat.add_right_comm]
   by_cases hlo:lf o=true
   ·simp only [hlo,if_true,beq_iff_eq] at hf
    refine ⟨fun h=>(by rw [hf] at h;cases h),fun i hi=>?_⟩
    rw [hf] at hi
    simp only [List.mem_singleton] at hi
    subst hi
    unfold aOp
    simp only [h0]
    exact ⟨hd,.inl ⟨.v undef,.inr ⟨hw,rfl⟩,hk⟩⟩
   ·simp only [hlo] at hf
    refine yot h0 hd (l.length+fuel) listed s hcl ?_ hr' (.inr ⟨hw,rfl⟩) hk
    intro j oj hj hne hun
    simp only [Bool.false_eq_true,if_false,List.all_eq_true,List.mem_range] at hf
    have:=hf j (Array.getElem?_eq_some_iff.1 hj).1
    simp only [hj,hun,Bool.or_eq_true,beq_iff_eq,hne,false_or,Bool.false_eq_true,Bool.and_eq_true,Bool.not_eq_true',or_false] at this
    exact this
 | @loud o l s R hlo hw hy k ih=>
  intro ks listed hl hlen hcl hend hB
  match ks,hlen with
  | k::ks,hlen=>
   have h0:ops[k]?=some o:=by simpa using (hl 0).symm
   simp only [zir,zpa,h0,Bool.and_eq_true] at hB
   obtain ⟨⟨hr,hf⟩,hB'⟩:=hB
   have hr':k∈Region.ready .any ops listed:=by simpa using hr
   simp only [hlo,if_true,beq_iff_eq] at hf
   rw [List.length_cons,Nat.add_right_comm]
   refine ⟨fun h=>(by rw [hf] at h;cases h),fun i hi=>?_⟩
   rw [hf] at hi
   simp only [List.mem_singleton] at hi
   subst hi
   unfold aOp
   simp only [h0]
   exact ⟨hD _ _ h0,.inr ⟨hlo,hw,R,hy,fun s' hs'=>ih s' hs' ks (listed.setIfInBounds i true) (fun j=>by have:=hl (j+1);simpa using this) (by simpa using hlen) (hcl.set hr') hend hB'⟩⟩
def zky (ops:Array Oper):List Nat→List Oper→Prop
 | [],[]=>True
 | k::ks,o::l=>ops[k]?=some o∧zky ops ks l
 | _,_=>False
theorem yal:zky ops [] []:=trivial
theorem yaa {k:Nat} {ks:List Nat} {o:Oper} {l:List Oper} (h:ops[k]?=some o) (hl:zky ops ks l):zky ops (k::ks) (o::l):=⟨h,hl⟩
theorem zid {ks:List Nat}:∀ {l:List Oper},zky ops ks l→ks.length=l.length∧∀ j:Nat,l[j]?=(ks[j]?).bind (fun k:Nat=>ops[k]?):=by
 induction ks with
 | nil=>
  intro l h
  cases l with
  | nil=>exact ⟨rfl,fun j=>by simp⟩
  | cons o l=>exact h.elim
 | cons k ks ih=>
  intro l h
  cases l with
  | nil=>exact h.elim
  | cons o l=>
   obtain ⟨h1,h2⟩:=ih h.2
   refine ⟨by simp [h1],fun j=>?_⟩
   cases j with
   | zero=>simp only [List.getElem?_cons_zero,Option.bind_some,h.1]
   | succ j=>simpa using h2 j
def zuy (P:Program) (N:Nat) (ops:Array Oper) (lf:Oper→Bool) (Q:SS→Prop) (fuel:Nat) (listed:Array Bool) (s:SS):Prop:=
 (∀ (k:Nat) (o:Oper),ops[k]?=some o→ytt N o)→yqa ops listed→zrq P N ops lf Q fuel listed s
theorem ycb {P:Program} {N:Nat} {Q:Exit→SS→Prop} {s:SS} {lf:Oper→Bool} (hm:P.follows .mixedOrders=true) {id:Nat} {l:List Oper} (hD:yqg N l=true) (k:zuy P N l.toArray lf (Q .normal) l.length (Array.replicate l.length false) s):A P N (.region id l.toArray true) Q s:=by
 intro B ok0 lv ac w hs
 have hDst:∀ (k:Nat) (o:Oper),l.toArray[k]?=some o→ytt N o:=fun k o ho d hd=>by
  simp only [yqg,Bool.and_eq_true,List.all_eq_true] at hD
  have:=hD.1 o (by have:=Array.mem_of_getElem? ho;simpa using this)
  simp only [hd,Nat.blt_eq] at this
  exact this
 have hnd:ygg l=true:=by simp only [yqg,Bool.and_eq_true] at hD;exact hD.2
 refine wpIn_region_any hm ?_
 have key:=k hDst (fun k o hk=>by
  simp only [Array.getD_eq_getD_getElem?,Array.getElem?_replicate] at hk
  split at hk <;> simp at hk)
 have:=yiv (n:=0) (yqz hnd) (Q':=fun e a' w'=>∃ s' lv',Q e s'∧Sim B ok0 N s' lv' a' w') (fun s lv a w hq hs=>⟨s,lv,hq,hs⟩) l.length _ s lv ac _ (hs.drew (w':={ w with drawn:=w.drawn+1 }) ⟨rfl,rfl,rfl,Nat.le_refl _,fun _ _=>rfl⟩) key
 simpa using this
theorem yjh (ks:List Nat) (fuel:Nat) {n:Nat} {listed:Array Bool} {l:List Oper} {s:SS} (hn:zky ops ks l) (hf:n=l.length+fuel) (hB:zir ops lf ks listed=true) (k:Lex P N ops lf (zuy P N ops lf Q fuel (yho ks listed)) l s):zuy P N ops lf Q n listed s:=by
 intro hD hcl
 subst hf
 obtain ⟨p1,p2⟩:=zid hn
 exact anyA_pre k hD ks listed p2 p1 hcl (fun hc s' h=>h hD hc) hB
theorem yay (ks:List Nat) {n:Nat} {listed:Array Bool} {l:List Oper} {s:SS} (hn:zky ops ks l) (hf:n=l.length) (hB:ytd ops lf ks listed=true) (k:Lex P N ops lf Q l s):zuy P N ops lf Q n listed s:=by
 intro hD hcl
 subst hf
 obtain ⟨p1,p2⟩:=zid hn
 exact zmi k hD ks listed p2 p1 hcl hB
def zkj (P:Program) (N:Nat) (ops:Array Oper) (lf:Oper→Bool) (Q:SS→Prop) (fuel:Nat) (listed:Array Bool) (s:SS):List Nat→Prop
 | []=>True
 | k::ks=>(∃ o,ops[k]?=some o∧Lex P N ops lf (zuy P N ops lf Q fuel (listed.setIfInBounds k true)) [o] s)∧zkj P N ops lf Q fuel listed s ks
theorem yyl {fuel:Nat} {listed:Array Bool} {s:SS}:∀ {ks:List Nat},zkj P N ops lf Q fuel listed s ks→∀ k∈ks,∃ o,ops[k]?=some o∧Lex P N ops lf (zuy P N ops lf Q fuel (listed.setIfInBounds k true)) [o] s
 | [],_,k,h=>by cases h
 | x::ks,hh,k,h=>by
  rcases List.mem_cons.1 h with rfl|h
  ·exact hh.1
  ·exact yyl hh.2 k h
theorem aOp_one {l:List Oper} {s:SS} {Q0:SS→Prop} (h:Lex P N ops lf Q0 l s) (hD:∀ (k:Nat) (o:Oper),ops[k]?=some o→ytt N o):∀ (o:Oper),l=[o]→∀ (k:Nat),ops[k]?=some o→aOp P N ops lf k Q0 s:=by
 have nilQ:∀ {s:SS},Lex P N ops lf Q0 [] s→Q0 s:=by
  intro s h
  generalize hl:([]:List Oper)=l at h
  induction h with
  | nil h=>exact h
  | calm=>cases hl
  | skip=>cases hl
  | loud=>cases hl
  | @split l s d b hb k ih=>
   have:=ih b rfl hl
   rw [ykb hb] at this
   exact this
 induction h with
 | nil h=>intro o hl;cases hl
 | @split l s d b hb k ih=>
  intro o hl k h0
  have:=ih b rfl o hl k h0
  rw [ykb hb] at this
  exact this
 | @calm o l s r hw hd hy k ih=>
  intro o' hl k' h0
  cases hl
  unfold aOp
  simp only [h0]
  exact ⟨hd,.inl ⟨r,.inl ⟨hw,hy⟩,nilQ k⟩⟩
 | @skip o l s hw hd k ih=>
  intro o' hl k' h0
  cases hl
  unfold aOp
  simp only [h0]
  exact ⟨hd,.inl ⟨.v undef,.inr ⟨hw,rfl⟩,nilQ k⟩⟩
 | @loud o l s R hlo hw hy k ih=>
  intro o' hl k' h0
  cases hl
  unfold aOp
  simp only [h0]
  exact ⟨hD _ _ h0,.inr ⟨hlo,hw,R,hy,fun s' hs'=>nilQ (k s' hs')⟩⟩
theorem yav (ks:List Nat) (fuel:Nat) {n:Nat} {listed:Array Bool} {s:SS} (hf:n=fuel+1) (hr:Region.ready .any ops listed=ks) (hne:ks≠[]) (k:zkj P N ops lf Q fuel listed s ks):zuy P N ops lf Q n listed s:=by
 intro hD hcl
 subst hf
 refine ⟨fun h=>absurd (hr.symm.trans h) hne,fun i hi=>?_⟩
 obtain ⟨o,ho,hL⟩:=yyl k i (hr ▸ hi)
 exact zmc (fun s' h=>h hD (hcl.set hi)) (aOp_one hL hD o rfl i ho)
def Mid (t0:List (Nat × AV)) (h0:List (Nat × Option LObj)) (e:Exit) (s:SS):Prop:=e=.normal∧Sub (S t0 h0) s
theorem mid {t0 t:List (Nat × AV)} {h0 h:List (Nat × Option LObj)} (h1:ywl t t0) (h2:yrf h h0):Mid t0 h0 .normal (S t h):=⟨rfl,ybv h1,yag h2⟩
theorem yxl {α:Type} {f:α→List AV} {k:Nat} (hf:∀ x,(f x).length=k):∀ l:List α,(l.map f).flatten.length=l.length * k
 | []=>by simp
 | x::l=>by simp [hf x,Nat.succ_mul,Nat.add_comm,← yxl hf l]
theorem takeN_append {a b:List AV} {k:Nat} (h:a.length=k):ypx k (a++b)=some a:=by
 subst h
 induction a with
 | nil=>rfl
 | cons x a ih=>simp only [List.cons_append,List.length_cons,ypx,ih]
theorem zov {α:Type} {f:α→List AV} {k:Nat} (hf:∀ x,(f x).length=k):∀ {l:List α} {i:Nat} {x:α},l[i]?=some x→ypx k ((l.map f).flatten.drop (i * k))=some (f x)
 | y::l,0,x,h=>by
  simp only [List.getElem?_cons_zero,Option.some.injEq] at h
  subst h
  simp only [List.map_cons,List.flatten_cons,Nat.zero_mul,List.drop_zero]
  exact takeN_append (hf y)
 | y::l,i+1,x,h=>by
  simp only [List.getElem?_cons_succ] at h
  simp only [List.map_cons,List.flatten_cons,Nat.succ_mul]
  have e:((f y)++(l.map f).flatten).drop (i * k+k)=(l.map f).flatten.drop (i * k):=by
   rw [Nat.add_comm,← List.drop_drop,← hf y,List.drop_left]
  rw [e]
  exact zov hf h
end
end
section
open Go.RowKit
section
variable {P:Program} {T:Nat→Option Ty} {N:Nat} {ops:Array Oper} {lf:Oper→Bool} {Q:SS→Prop} {t:List (Nat × AV)} {h:List (Nat × Option LObj)} {rest:List Oper} {d:Nat} {op:Op} {ty:TypeId} {pos:String} {af:Array Edge} {gd:Option (Nat × Bool)} {r:AV}
theorem L_u8 (hT:TOK P T) {z:Int} (hr:ypw T t h op ty=some (.v (.int .u8 (IntKind.u8.wrap z)))) (h0:0≤z∧z≤255) (hw:yah ops (look t) ⟨some d,op,ty,pos,af,gd⟩=some true) (hd:Nat.blt d N=true) (k:Lex P N ops lf Q rest (S ((d,.v (.int .u8 z))::t) h)) :
  Lex P N ops lf Q (⟨some d,op,ty,pos,af,gd⟩::rest) (S t h):=by
 refine zfv hT hr hw hd ?_
 have e:IntKind.u8.wrap z=z:=by
  show z % 256=z
  omega
 rw [e]
 exact k
theorem zly {c:Code} {Q:Exit→SS→Prop} (jb k id size:Nat) {ys:List AV} (hj:hlook h jb=some (.cells ys)) (hk:ys[k]?=some (.v (.slice none 0 0))) (h1:ydd id t=true) (h2:ybr id h=true) (hne:Nat.beq jb id=false)
  (kk:A P N c Q (S t ((jb,some (.cells (ys.set k (.ls id size 0))))::(id,some (.vec []))::h))):A P N c Q (S t h):=by
 intro B ok0 lv a w hs
 obtain ⟨lv',hs1,hnil⟩:=hs.ownH (yhw (t:=t) (h:=h) h1 h2)
 have hnj:jb≠id:=fun e=>by subst e;simp at hne
 have hj1:yei (hlook h) id (some (.vec [])) jb=some (.cells ys):=by simp only [yei,hnj,if_false];exact hj
 refine kk B ok0 lv' a w ?_
 rw [← S_h]
 obtain ⟨bo,n,k1,k2⟩:=hs1.inv.obj jb _ hj1
 cases bo with
 | none=>simp [yfb] at k2
 | some b=>
  obtain ⟨q1,q2,cc,e,q3,q4,q5,q6,q7⟩:=k2
  have hkl:=(List.getElem?_eq_some_iff.1 hk).1
  have hkc:k < cc.size:=by omega
  have hold:=yfg (q7 k _ cc[k] hk (by simp [hkc]))
  have hnew:=hnil size
  rw [← hold] at hnew
  have hS:hlook ((id,some (.vec []))::h)=yei (hlook h) id (some (.vec [])):=(ype id _ h).symm
  refine ⟨⟨hs1.inv.base,hs1.inv.ok0lt,fun j hjn=>?_,hs1.inv.inj,fun j x hxj=>?_⟩,hs1.size,hs1.frame,hs1.defers,hs1.big,fun j b' o hN hjx hc hb'=>?_⟩
  ·by_cases hjj:j=jb
   ·subst hjj;simp [yei] at hjn
   ·simp only [yei,hjj,if_false,hS] at hjn;exact hs1.inv.dom j hjn
  ·by_cases hjj:j=jb
   ·subst hjj
    simp only [yei,if_true,Option.some.injEq] at hxj
    subst hxj
    refine ⟨some b,n,k1,q1,q2,cc,e,q3,q4,by simpa using q5,fun x hxm=>?_,fun i x u hi hu=>?_⟩
    ·rcases List.mem_or_eq_of_mem_set hxm with hm|hm
     ·exact q6 x hm
     ·subst hm;rfl
    ·rw [List.getElem?_set] at hi
     split at hi
     ·rename_i e1
      subst e1
      cases hi
      simp only [hkc,Array.getElem?_eq_getElem,Option.some.injEq] at hu
      subst hu
      exact hnew
     ·exact q7 i x u hi hu
   ·simp only [yei,hjj,if_false,hS] at hxj
    exact hs1.inv.obj j x hxj
  ·by_cases hjj:j=jb
   ·subst hjj
    exact hs1.pin j b' _ hN hj1 rfl hb'
   ·simp only [yei,hjj,if_false,hS] at hjx
    exact hs1.pin j b' o hN hjx hc hb'
end
def zlh (T:Nat→Option Ty) (s:SS):ResultVar→Option AV
 | .tmp t=>evF s.t (.tmp t)
 | .cell b t=>match T t with
  | some y=>match evF s.t (.tmp b) with
   | some (.lp id off)=>match yqf (s.h id) with
    | some xs=>zjo y.agg y.size (xs.drop off)
    | none=>none
   | _=>none
  | none=>none
def zqk (T:Nat→Option Ty) (s:SS):List ResultVar→Option (List AV)
 | []=>some []
 | r::rs=>match zlh T s r,zqk T s rs with
  | some x,some xs=>some (x::xs)
  | _,_=>none
def yoe (T:Nat→Option Ty) (s:SS) (rs:List ResultVar):Option AV:=
 match zqk T s rs with
 | some [x]=>some x
 | some xs=>some (.tup xs)
 | none=>none
theorem resOneT_run {P:Program} {T:Nat→Option Ty} (hT:TOK P T) {B:Bse} {ok0:Nat→Prop} {N:Nat} {s:SS} {lv:Live} {a:Act} {w:World} (hs:Sim B ok0 N s lv a w) {r:ResultVar} {x:AV} (h:zlh T s r=some x):∃ u,Rel (yaw B ok0 lv w) w lv x u∧(zqv a.tmps r).run P w=.ok u w:=by
 cases r with
 | tmp t=>exact ⟨_,hs.eval (x:=.tmp t) h,by simp [zqv,Act.eval]⟩
 | cell b t=>
  simp only [zlh] at h
  split at h
  ·rename_i y hy
   split at h
   ·rename_i id off hb
    split at h
    ·rename_i xs hx
     obtain ⟨g1,g2⟩:=yfc hx
     obtain ⟨b',n,k1,k2,k3⟩:=ygd hs.inv g1 g2 (hs.eval (x:=.tmp b) hb)
     have k4:=k3.drop off
     rw [Nat.zero_add] at k4
     obtain ⟨u,k5,k6⟩:=ykq (hT _ _ hy).1 k4 h
     have k2':a.tmps.getD b undef=.pointer (some ⟨b',off,none⟩):=k2
     exact ⟨u,k6,by simp [zqv,k2',asAddr,k5]⟩
    ·cases h
   ·cases h
  ·cases h
theorem ziw {P:Program} {T:Nat→Option Ty} (hT:TOK P T) {B:Bse} {ok0:Nat→Prop} {N:Nat} {s:SS} {lv:Live} {a:Act} {w:World} (hs:Sim B ok0 N s lv a w):∀ (rs:List ResultVar) (xs:List AV),zqk T s rs=some xs →
  ∃ us:List Value,ybk (yaw B ok0 lv w) w lv xs us∧(rs.mapM (zqv a.tmps)).run P w=.ok us w
 | [],xs,h=>by simp only [zqk,Option.some.injEq] at h;subst h;exact ⟨[],⟨rfl,fun i x u h=>by simp at h⟩,by simp⟩
 | r::rs,xs,h=>by
  simp only [zqk] at h
  split at h
  ·rename_i x xs' h1 h2
   simp only [Option.some.injEq] at h
   subst h
   obtain ⟨us,hus,hrun⟩:=ziw hT hs rs xs' h2
   obtain ⟨u,hu,hrun1⟩:=resOneT_run hT hs h1
   refine ⟨u::us,⟨by simp [hus.1],fun i y v hy hv=>?_⟩,?_⟩
   ·cases i with
    | zero=>simp only [List.getElem?_cons_zero,Option.some.injEq] at hy hv;subst hy hv;exact hu
    | succ i=>exact hus.2 i y v (by simpa using hy) (by simpa using hv)
   ·simp only [List.mapM_cons,Sem.run_bind,hrun1,Sem.run_pure,Result.andThen_ok,hrun]
  ·cases h
theorem yof {P:Program} {T:Nat→Option Ty} (hT:TOK P T) {B:Bse} {ok0:Nat→Prop} {N:Nat} {s:SS} {lv:Live} {a:Act} {w:World} (hs:Sim B ok0 N s lv a w) {fn:Func} {rs:List ResultVar} (hr:fn.results=rs.toArray) {x:AV} (h:yoe T s rs=some x) :
  ∃ u,Rel (yaw B ok0 lv w) w lv x u∧(results fn a.tmps).run P w=.ok u w:=by
 unfold yoe at h
 have key:∀ xs,zqk T s rs=some xs→∃ us:List Value,ybk (yaw B ok0 lv w) w lv xs us∧(results fn a.tmps).run P w=.ok (if h:us.toArray.size=1 then us.toArray[0] else .tuple us.toArray) w:=by
  intro xs hx
  obtain ⟨us,h1,h2⟩:=ziw hT hs rs xs hx
  refine ⟨us,h1,?_⟩
  have e:results fn a.tmps=(fn.results.mapM (zqv a.tmps) >>= fun vs=>pure (if h:vs.size=1 then vs[0] else .tuple vs)):=rfl
  have e2:(List.toArray <$> rs.mapM (zqv a.tmps))=(rs.mapM (zqv a.tmps) >>= fun l=>pure l.toArray):=rfl
  rw [e,hr,List.mapM_toArray,e2]
  simp only [Sem.run_bind,h2,Result.andThen_ok,Sem.run_pure]
 split at h
 ·rename_i y hy
  simp only [Option.some.injEq] at h
  subst h
  obtain ⟨us,h1,h2⟩:=key _ hy
  match us,h1 with
  | [u],h1=>exact ⟨u,h1.2 0 _ _ rfl rfl,by simpa using h2⟩
 ·rename_i xs hne hy
  simp only [Option.some.injEq] at h
  subst h
  obtain ⟨us,h1,h2⟩:=key _ hy
  refine ⟨.tuple us.toArray,.tup us h1.1 h1.2,?_⟩
  rw [h2,dif_neg]
  intro h
  have hl:=h1.1
  simp only [List.size_toArray] at h
  rw [h] at hl
  match xs,hl with
  | [x],_=>exact hne x rfl
 ·cases h
def EndsT (T:Nat→Option Ty) (rs:List ResultVar) (y:AV):Exit→SS→Prop
 | .normal,s=>∃ x,yoe T s rs=some x∧Frz s.h x y
 | .ret,s=>∃ x,yoe T s rs=some x∧Frz s.h x y
 | _,_=>False
theorem yge {P : Program} {T : Nat → Option Ty} (hT : TOK P T) {f : FuncId} {fn : Func} {c : Code} {N : Nat} {rs : List ResultVar} {args : List AV} {r : AV} (hf : P.funcs[f]? = some fn) (hn : (fn.name == "runtime.NumGoroutine") = false) (hb : fn.body = some c) (hN : fn.ntmps = N) (hrs : fn.results = rs.toArray) (hlen : (Nat.ble args.length N && Nat.ble N 1000000) = true) (hp : yap r = true)
  (h:A P N c (EndsT T rs r) (S (yel 0 args) [])):Con P f args r:=by
 refine ⟨⟨fn,hf,hn,by simp [hb]⟩,hp,fun ok0 w us hG hok hus=>?_⟩
 simp only [Bool.and_eq_true,Nat.ble_eq] at hlen
 obtain ⟨hlen',hbig⟩:=hlen
 refine (callsIn_wide (n:=0)).1 (callsIn_of_wp_marks hf hb trivial ?_)
 have hst:S (yel 0 args) []=⟨zkc args,fun _=>none⟩:=by unfold S;rw [yix];rfl
 have hs:Sim (zwe w) ok0 N (S (yel 0 args) []) (fun _=>none) { tmps:=us.toArray++Array.replicate (fn.ntmps - us.toArray.size) undef,defers:=[] } w:=by
  rw [hst]
  refine ⟨⟨Based.start hG,hok,fun _ _=>rfl,(fun i j b n m h=>by cases h),(fun id x hx=>by cases hx)⟩,?_,fun x y hy=>?_,⟨[],rfl,List.nodup_nil,fun d hd=>by cases hd⟩,hbig,fun id b xs _ hx=>by cases hx⟩
  ·simp [hN,hus.1];omega
  ·have hlt:=(List.getElem?_eq_some_iff.1 hy).1
   refine ⟨.inl (by omega),?_⟩
   rw [yct,if_pos (by omega)]
   obtain ⟨u,hu⟩:∃ u,us[x]?=some u:=⟨_,List.getElem?_eq_getElem (by rw [hus.1];exact hlt)⟩
   simp only [yeo us _ x u hu]
   exact (hus.2 x y u hy hu).keep fun g hg=>⟨⟨.inl hg,hok g hg,fun id b n hb=>by cases hb⟩,rfl⟩
 refine wpIn_mono (h _ ok0 _ _ w hs) fun e a' w' ⟨s',lv',hq,hs'⟩=>?_
 have fin:∀ x,yoe T s' rs=some x→Frz s'.h x r→∀ (a':Act) (w':World),Sim (zwe w) ok0 N s' lv' a' w'→∃ v,(results fn a'.tmps).run P w'=.ok v w'∧∃ u,Ending.returned v=.returned u∧Rel (fun g=>(ok0 g∨w.heap.size≤g)∧g < w'.heap.size) w' (fun _=>none) r u∧Below w.heap.size w w':=by
  intro x hx hfz a' w' hs'
  obtain ⟨u,hu,hrun⟩:=yof hT hs' hrs hx
  exact ⟨u,hrun,u,rfl,(hfz _ _ _ _ _ hs'.inv hu).keep (fun g hg=>⟨⟨hg.1.imp (fun h=>h) (fun h=>h.elim (fun h=>h.elim) (fun h=>h)),hg.2⟩,rfl⟩),hs'.inv.base.below⟩
 cases e with
 | normal=>obtain ⟨x,hx,hfz⟩:=hq;exact ybw rfl rfl (fin x hx hfz) _ a' w' rfl hs'
 | ret=>obtain ⟨x,hx,hfz⟩:=hq;exact ybw rfl rfl (fin x hx hfz) _ a' w' rfl hs'
 | _=>exact hq.elim
end
section
open Go.RowKit
def yec (σ:Nat→Nat):AV→AV
 | .lp id off=>.lp (σ id) off
 | .ls id s n=>.ls (σ id) s n
 | .mp id=>.mp (σ id)
 | .agg cs=>.agg (renL cs)
 | .tup cs=>.tup (renL cs)
 | .fn f cs=>.fn f (renL cs)
 | .fm f cs=>.fm f (renL cs)
 | x=>x
 where renL:List AV→List AV
 | []=>[]
 | c::cs=>yec σ c::renL cs
theorem ycf (σ:Nat→Nat):∀ cs,yec.renL σ cs=cs.map (yec σ)
 | []=>rfl
 | c::cs=>by simp [yec.renL,ycf σ cs]
def ydm (ids:List Nat):AV→Bool
 | .lp id _=>ids.contains id
 | .ls id _ _=>ids.contains id
 | .mp id=>ids.contains id
 | .agg cs=>onlyL cs
 | .tup cs=>onlyL cs
 | .fn _ cs=>onlyL cs
 | .fm _ cs=>onlyL cs
 | _=>true
 where onlyL:List AV→Bool
 | []=>true
 | c::cs=>ydm ids c && onlyL cs
def yxh (σ:Nat→Nat):LObj→LObj
 | .cells xs=>.cells (yec.renL σ xs)
 | .tcells e xs=>.tcells e (yec.renL σ xs)
 | .mcells xs=>.mcells (yec.renL σ xs)
 | o=>o
def ynf (ids:List Nat):LObj→Bool
 | .cells xs=>ydm.onlyL ids xs
 | .tcells _ xs=>ydm.onlyL ids xs
 | .mcells xs=>ydm.onlyL ids xs
 | _=>true
theorem yhz (σ:Nat→Nat) (x:AV):ydt (yec σ x)=ydt x:=by cases x <;> rfl
section
variable {ok:Nat→Prop} {w:World} {lv lv1:Live} {σ:Nat→Nat}
theorem Rel.unren (hl:∀ id b n,lv1 id=some (b,n)→lv (σ id)=some (b,n)):∀ {x:AV} {u:Value},Rel ok w lv (yec σ x) u→Rel ok w lv1 x u
 | .v _,u,h=>by cases h;exact .v _
 | .any,u,h=>.any u
 | .one,u,h=>by cases h with|one _ h1=>exact .one _ h1
 | .sl s rows,u,h=>by cases h with|sl a cap u g o hn hc ha hr hg hcell hrel=>exact .sl a cap u g o hn hc ha hr hg hcell hrel
 | .dp row off,u,h=>by cases h with|dp g o u hg hcell hrel=>exact .dp g o u hg hcell hrel
 | .mv es,u,h=>by cases h with|mv b hg hm=>exact .mv b hg hm
 | .lp id off,u,h=>by cases h with|lp _ h1 h2=>exact .lp _ h1 fun b n hb=>h2 b n (hl id _ n hb)
 | .ls id s n,u,h=>by cases h with|ls _ h1 h2=>exact .ls _ h1 fun b n hb=>h2 b n (hl id _ n hb)
 | .mp id,u,h=>by cases h with|mp _ h1 h2=>exact .mp _ h1 fun b n hb=>h2 b n (hl id _ n hb)
 | .agg cs,u,h=>by
  cases h with
  | agg vs hlen hc hr=>
   exact .agg vs (by rw [hlen,ycf];simp) (fun c hm=>by rw [← yhz σ];exact hc _ (by rw [ycf];exact List.mem_map_of_mem hm)) (rows hr)
 | .tup cs,u,h=>by
  cases h with
  | tup vs hlen hr=>exact .tup vs (by rw [hlen,ycf];simp) (rows hr)
 | .fn f cs,u,h=>by
  cases h with
  | fn vs hlen hr=>exact .fn vs (by rw [hlen,ycf];simp) (rows hr)
 | .fm f cs,u,h=>by
  cases h with
  | fm vs hlen hr=>exact .fm vs (by rw [hlen,ycf];simp) (rows hr)
 where rows:∀ {cs:List AV} {vs:List Value},(∀ (i:Nat) (c:AV) (u:Value),(yec.renL σ cs)[i]?=some c→vs[i]?=some u→Rel ok w lv c u)→∀ (i:Nat) (c:AV) (u:Value),cs[i]?=some c→vs[i]?=some u→Rel ok w lv1 c u
 | [],vs,_,i,c,u,hc,_=>by simp at hc
 | d::cs,[],_,i,c,u,_,hu=>by simp at hu
 | d::cs,q::vs,h,0,c,u,hc,hu=>by
  simp at hc hu
  subst hc hu
  exact Rel.unren hl (h 0 _ _ rfl rfl)
 | d::cs,q::vs,h,i+1,c,u,hc,hu=>rows (fun j c u h1 h2=>h (j+1) c u (by simpa [yec.renL] using h1) (by simpa using h2)) i c u (by simpa using hc) (by simpa using hu)
theorem Rel.ren {ids:List Nat} (hl:∀ id b n,id∈ids→lv (σ id)=some (b,n)→lv1 id=some (b,n)):∀ {x:AV} {u:Value},ydm ids x=true→Rel ok w lv1 x u→Rel ok w lv (yec σ x) u
 | .v _,u,_,h=>by cases h;exact .v _
 | .any,u,_,h=>.any u
 | .one,u,_,h=>by cases h with|one _ h1=>exact .one _ h1
 | .sl s rows,u,_,h=>by cases h with|sl a cap u g o hn hc ha hr hg hcell hrel=>exact .sl a cap u g o hn hc ha hr hg hcell hrel
 | .dp row off,u,_,h=>by cases h with|dp g o u hg hcell hrel=>exact .dp g o u hg hcell hrel
 | .mv es,u,_,h=>by cases h with|mv b hg hm=>exact .mv b hg hm
 | .lp id off,u,ho,h=>by cases h with|lp _ h1 h2=>exact .lp _ h1 fun b n hb=>h2 b n (hl id _ n (by simpa [ydm] using ho) hb)
 | .ls id s n,u,ho,h=>by cases h with|ls _ h1 h2=>exact .ls _ h1 fun b n hb=>h2 b n (hl id _ n (by simpa [ydm] using ho) hb)
 | .mp id,u,ho,h=>by cases h with|mp _ h1 h2=>exact .mp _ h1 fun b n hb=>h2 b n (hl id _ n (by simpa [ydm] using ho) hb)
 | .agg cs,u,ho,h=>by
  cases h with
  | agg vs hlen hc hr=>
   refine .agg vs (by rw [hlen,ycf];simp) (fun c hm=>?_) (rows ho hr)
   rw [ycf] at hm
   obtain ⟨y,hy,rfl⟩:=List.mem_map.1 hm
   rw [yhz];exact hc y hy
 | .tup cs,u,ho,h=>by
  cases h with
  | tup vs hlen hr=>exact .tup vs (by rw [hlen,ycf];simp) (rows ho hr)
 | .fn f cs,u,ho,h=>by
  cases h with
  | fn vs hlen hr=>exact .fn vs (by rw [hlen,ycf];simp) (rows ho hr)
 | .fm f cs,u,ho,h=>by
  cases h with
  | fm vs hlen hr=>exact .fm vs (by rw [hlen,ycf];simp) (rows ho hr)
 where rows:∀ {cs:List AV} {vs:List Value},ydm.onlyL ids cs=true→(∀ (i:Nat) (c:AV) (u:Value),cs[i]?=some c→vs[i]?=some u→Rel ok w lv1 c u)→∀ (i:Nat) (c:AV) (u:Value),(yec.renL σ cs)[i]?=some c→vs[i]?=some u→Rel ok w lv c u
 | [],vs,_,_,i,c,u,hc,_=>by simp [yec.renL] at hc
 | d::cs,[],_,_,i,c,u,_,hu=>by simp at hu
 | d::cs,q::vs,ho,h,0,c,u,hc,hu=>by
  simp only [ydm.onlyL,Bool.and_eq_true] at ho
  simp [yec.renL] at hc hu
  subst hc hu
  exact Rel.ren hl ho.1 (h 0 _ _ rfl rfl)
 | d::cs,q::vs,ho,h,i+1,c,u,hc,hu=>by
  simp only [ydm.onlyL,Bool.and_eq_true] at ho
  exact rows ho.2 (fun j c u h1 h2=>h (j+1) c u (by simpa using h1) (by simpa using h2)) i c u (by simpa [yec.renL] using hc) (by simpa using hu)
end
def ybn (lv:Live) (b:Nat):Prop:=∃ id n,lv id=some (some b,n)
def yea (w:World) (lv:Live):Bse:=⟨w,ybn lv,fun _=>none,none,[],fun _=>undef⟩
def ypt (P:Program) (f:FuncId) (args:List AV) (hs:Nat→Option LObj) (r:AV) (hs':Nat→Option LObj):Prop:=
 yjf P f∧(∀ id o,hs' id=some o→isC o=true→∃ o',hs id=some o'∧isC o'=true)∧∀ (ok0:Nat→Prop) (lv:Live) (w:World) (us:List Value),Inv (yea w lv) ok0 hs lv w→ybk (yaw (yea w lv) ok0 lv w) w lv args us →
  Calls P f us.toArray w fun e w'=>∃ u lv',e=.returned u∧Rel (yaw (yea w lv) ok0 lv' w') w' lv' r u∧Inv (yea w lv) ok0 hs' lv' w'∧∀ id o,hs' id=some o→isC o=true→∃ b n n',lv id=some (some b,n)∧lv' id=some (some b,n')
theorem Inv.pinned {B:Bse} {ok0:Nat→Prop} {h:Nat→Option LObj} {lv:Live} {w:World} (hi:Inv B ok0 h lv w) (p:Nat→Option Nat) (rd:Option Nat) (dl:List Deferred) (gv:Nat→Value) (hrd:∀ l,rd=some l→(∃ r,B.w.heap[l]?=some (.loop r))∧¬ B.lent l):Inv ⟨B.w,B.lent,p,rd,dl,gv⟩ ok0 h lv w:=
 ⟨⟨hi.base.os,hi.base.tape,hi.base.output,hi.base.size,hi.base.block,hi.base.glob,hi.base.gsize,hi.base.lentG,hrd⟩,hi.ok0lt,hi.dom,hi.inj,fun id x hx=>by
  obtain ⟨b,n,h1,h2⟩:=hi.obj id x hx
  refine ⟨b,n,h1,?_⟩
  cases b with
  | none=>exact h2
  | some b=>exact h2⟩
def zps (T:Nat→Option Ty) (rs:List ResultVar) (r:AV) (hs':Nat→Option LObj):Exit→SS→Prop
 | .normal,s=>∃ x,yoe T s rs=some x∧Wk x r∧∀ id o,hs' id=some o→s.h id=some o
 | .ret,s=>∃ x,yoe T s rs=some x∧Wk x r∧∀ id o,hs' id=some o→s.h id=some o
 | _,_=>False
theorem yud {P : Program} {T : Nat → Option Ty} (hT : TOK P T) {f : FuncId} {fn : Func} {c : Code} {N : Nat} {rs : List ResultVar} {args : List AV} {hs hs' : Nat → Option LObj} {r : AV} (hf : P.funcs[f]? = some fn) (hn : (fn.name == "runtime.NumGoroutine") = false) (hb : fn.body = some c) (hN : fn.ntmps = N) (hrs : fn.results = rs.toArray) (hlen : (Nat.ble args.length N && Nat.ble N 1000000) = true)
  (hcl:∀ id o,hs' id=some o→isC o=true→N≤id∧∃ o',hs id=some o'∧isC o'=true) (h:A P N c (zps T rs r hs') ⟨look (yel 0 args),hs⟩):ypt P f args hs r hs':=by
 refine ⟨⟨fn,hf,hn,by simp [hb]⟩,fun id o hx hc=>(hcl id o hx hc).2,fun ok0 lv w us hi hus=>?_⟩
 simp only [Bool.and_eq_true,Nat.ble_eq] at hlen
 obtain ⟨hlen',hbig⟩:=hlen
 refine (callsIn_wide (n:=0)).1 (callsIn_of_wp_marks hf hb trivial ?_)
 have hsim:Sim ⟨w,ybn lv,fun id=>(lv id).bind (·.1),none,[],fun _=>undef⟩ ok0 N ⟨look (yel 0 args),hs⟩ lv { tmps:=us.toArray++Array.replicate (fn.ntmps - us.toArray.size) undef,defers:=[] } w:=by
  refine ⟨hi.pinned _ _ _ _ (fun l h=>by cases h),?_,fun x y hy=>?_,⟨[],rfl,List.nodup_nil,fun d hd=>by cases hd⟩,hbig,fun id b o hN hx hc hb=>?_⟩
  ·simp [hN,hus.1];omega
  ·simp only [yix] at hy
   have hlt:=(List.getElem?_eq_some_iff.1 hy).1
   refine ⟨.inl (by omega),?_⟩
   rw [yct,if_pos (by omega)]
   obtain ⟨u,hu⟩:∃ u,us[x]?=some u:=⟨_,List.getElem?_eq_getElem (by rw [hus.1];exact hlt)⟩
   simp only [yeo us _ x u hu]
   exact hus.2 x y u hy hu
  ·simp only at hb
   cases hl:lv id with
   | none=>simp [hl] at hb
   | some q=>obtain ⟨q1,q2⟩:=q;simp [hl] at hb;subst hb;exact ⟨q2,rfl⟩
 refine wpIn_mono (h _ ok0 _ _ w hsim) fun e a' w' ⟨s',lv',hq,hs2⟩=>?_
 have fin:∀ x,yoe T s' rs=some x→Wk x r→(∀ id o,hs' id=some o→s'.h id=some o)→∀ (a':Act) (w':World),Sim ⟨w,ybn lv,fun id=>(lv id).bind (·.1),none,[],fun _=>undef⟩ ok0 N s' lv' a' w'→∃ v,(results fn a'.tmps).run P w'=.ok v w'∧∃ u lv2,Ending.returned v=.returned u∧Rel (yaw (yea w lv) ok0 lv2 w') w' lv2 r u∧Inv (yea w lv) ok0 hs' lv2 w'∧∀ id o,hs' id=some o→isC o=true→∃ b n n',lv id=some (some b,n)∧lv2 id=some (some b,n'):=by
  intro x hx hwk hsub a' w' hs2
  obtain ⟨u,hu,hrun⟩:=yof (P:=P) hT hs2 hrs hx
  obtain ⟨lv2,i1,i2,i3⟩:=hs2.inv.weak hsub
  refine ⟨u,hrun,u,lv2,rfl,hwk.rel _ _ _ _ ((hu.relive fun id b n hb _=>i2 id b n hb).keep fun g hg=>⟨i3 g hg,rfl⟩),i1.pinned _ _ _ _ (fun l h=>by cases h),fun id o hx hc=>?_⟩
  obtain ⟨h1,o',hy,hc'⟩:=hcl id o hx hc
  obtain ⟨b,n,hb,ho⟩:=hi.obj id _ hy
  cases b with
  | none=>simp only [yfb] at ho;rcases ho with rfl|⟨e,rfl⟩ <;> cases hc'
  | some b=>
   obtain ⟨n',hn'⟩:=hs2.pin id b o h1 (hsub id _ hx) hc (by simp [hb])
   obtain ⟨b2,n2,hb2,_⟩:=i1.obj id _ hx
   have:=i2 id b2 n2 hb2
   rw [hn'] at this
   cases this
   exact ⟨b,n,_,hb,hb2⟩
 cases e with
 | normal=>obtain ⟨x,hx,h1,h2⟩:=hq;exact ybw rfl rfl (fin x hx h1 h2) _ a' w' rfl hs2
 | ret=>obtain ⟨x,hx,h1,h2⟩:=hq;exact ybw rfl rfl (fin x hx h1 h2) _ a' w' rfl hs2
 | _=>exact hq.elim
theorem ygt.unren {ok ok':Nat→Prop} {w:World} {lv lv1:Live} {σ:Nat→Nat} {b n:Nat} {x:LObj} (hl:∀ id b n,lv1 id=some (b,n)→lv (σ id)=some (b,n)) (hk:∀ g,ok g→ok' g) (h:ygt ok lv w b n (yxh σ x)):ygt ok' lv1 w b n x:=by
 cases x with
 | cells xs=>
  obtain ⟨c,e,g1,g2,g3,g4,g5⟩:=h
  rw [ycf] at g3 g4 g5
  refine ⟨c,e,g1,g2,by simpa using g3,fun y hy=>by rw [← yhz σ];exact g4 _ (List.mem_map_of_mem hy),fun j y u hy hu=>?_⟩
  exact (Rel.unren hl (g5 j (yec σ y) u (by simp [hy]) hu)).keep fun g hg=>⟨hk g hg,rfl⟩
 | vec xs=>
  obtain ⟨⟨c,e,g1,g2,g3,g4,g5⟩,hp⟩:=h
  exact ⟨⟨c,e,g1,g2,g3,g4,fun j y u hy hu=>((g5 j y u hy hu).relive fun id b n _ hm=>by rw [yap.ment (hp y (List.mem_of_getElem? hy))] at hm;cases hm).keep fun g hg=>⟨hk g hg,rfl⟩⟩,hp⟩
 | map es=>exact h
 | iter es left cur=>exact yqb.keep h (fun g hg=>⟨hk g hg,rfl⟩) rfl
 | siter s pos=>exact h
 | tcells e xs=>
  obtain ⟨⟨c,e',g1,g2,g3,g4,g5⟩,hsh⟩:=h
  rw [ycf] at g3 g4 g5 hsh
  exact ⟨⟨c,e',g1,g2,by simpa using g3,fun y hy=>by rw [← yhz σ];exact g4 _ (List.mem_map_of_mem hy),fun j y u hy hu=>(Rel.unren hl (g5 j (yec σ y) u (by simp [hy]) hu)).keep fun g hg=>⟨hk g hg,rfl⟩⟩,by simpa using hsh⟩
 | tvec e xs=>
  obtain ⟨⟨c,e',g1,g2,g3,g4,g5⟩,hp,hsh⟩:=h
  exact ⟨⟨c,e',g1,g2,g3,g4,fun j y u hy hu=>((g5 j y u hy hu).relive fun id b n _ hm=>by rw [yap.ment (hp y (List.mem_of_getElem? hy))] at hm;cases hm).keep fun g hg=>⟨hk g hg,rfl⟩⟩,hp,hsh⟩
 | mcells xs=>
  obtain ⟨c,e,g1,g2,g3,g4,g5⟩:=h
  rw [ycf] at g3 g4 g5
  refine ⟨c,e,g1,g2,by simpa using g3,fun y hy=>by rw [← yhz σ];exact g4 _ (List.mem_map_of_mem hy),fun j y u hy hu=>?_⟩
  exact (Rel.unren hl (g5 j (yec σ y) u (by simp [hy]) hu)).keep fun g hg=>⟨hk g hg,rfl⟩
theorem ygt.ren {ok ok':Nat→Prop} {w:World} {lv lv1:Live} {σ:Nat→Nat} {ids:List Nat} {b n:Nat} {x:LObj} (hl:∀ id b n,id∈ids→lv (σ id)=some (b,n)→lv1 id=some (b,n)) (ho:ynf ids x=true) (hk:∀ g,ok g→ok' g) (h:ygt ok lv1 w b n x):ygt ok' lv w b n (yxh σ x):=by
 cases x with
 | cells xs=>
  obtain ⟨c,e,g1,g2,g3,g4,g5⟩:=h
  refine ⟨c,e,g1,g2,by rw [ycf];simpa using g3,fun y hy=>?_,fun j y u hy hu=>?_⟩
  ·rw [ycf] at hy
   obtain ⟨z,hz,rfl⟩:=List.mem_map.1 hy
   rw [yhz];exact g4 z hz
  ·exact (Rel.ren.rows (vs:=c.toList) hl ho (fun j y u hy hu=>g5 j y u hy (by simpa using hu)) j y u hy (by simpa using hu)).keep fun g hg=>⟨hk g hg,rfl⟩
 | vec xs=>
  obtain ⟨⟨c,e,g1,g2,g3,g4,g5⟩,hp⟩:=h
  exact ⟨⟨c,e,g1,g2,g3,g4,fun j y u hy hu=>((g5 j y u hy hu).relive fun id b n _ hm=>by rw [yap.ment (hp y (List.mem_of_getElem? hy))] at hm;cases hm).keep fun g hg=>⟨hk g hg,rfl⟩⟩,hp⟩
 | map es=>exact h
 | iter es left cur=>exact yqb.keep h (fun g hg=>⟨hk g hg,rfl⟩) rfl
 | siter s pos=>exact h
 | tcells e xs=>
  obtain ⟨⟨c,e',g1,g2,g3,g4,g5⟩,hsh⟩:=h
  refine ⟨⟨c,e',g1,g2,by rw [ycf];simpa using g3,fun y hy=>?_,fun j y u hy hu=>?_⟩,by rw [ycf];simpa using hsh⟩
  ·rw [ycf] at hy
   obtain ⟨z,hz,rfl⟩:=List.mem_map.1 hy
   rw [yhz];exact g4 z hz
  ·exact (Rel.ren.rows (vs:=c.toList) hl ho (fun j y u hy hu=>g5 j y u hy (by simpa using hu)) j y u hy (by simpa using hu)).keep fun g hg=>⟨hk g hg,rfl⟩
 | tvec e xs=>
  obtain ⟨⟨c,e',g1,g2,g3,g4,g5⟩,hp,hsh⟩:=h
  exact ⟨⟨c,e',g1,g2,g3,g4,fun j y u hy hu=>((g5 j y u hy hu).relive fun id b n _ hm=>by rw [yap.ment (hp y (List.mem_of_getElem? hy))] at hm;cases hm).keep fun g hg=>⟨hk g hg,rfl⟩⟩,hp,hsh⟩
 | mcells xs=>
  obtain ⟨c,e,g1,g2,g3,g4,g5⟩:=h
  refine ⟨c,e,g1,g2,by rw [ycf];simpa using g3,fun y hy=>?_,fun j y u hy hu=>?_⟩
  ·rw [ycf] at hy
   obtain ⟨z,hz,rfl⟩:=List.mem_map.1 hy
   rw [yhz];exact g4 z hz
  ·exact (Rel.ren.rows (vs:=c.toList) hl ho (fun j y u hy hu=>g5 j y u hy (by simpa using hu)) j y u hy (by simpa using hu)).keep fun g hg=>⟨hk g hg,rfl⟩
theorem yxj (σ:Nat→Nat) (x:LObj):isC (yxh σ x)=isC x:=by cases x <;> rfl
theorem zol {σ:Nat→Nat} {x:LObj} (h:yxh σ x=.vec []∨∃ e,yxh σ x=.tvec e []):x=.vec []∨∃ e,x=.tvec e []:=by
 cases x <;> simp_all [yxh]
def zzo (P:Program) (f:FuncId) (args:List AV) (hs:Nat→Option LObj) (r:AV) (hs':Nat→Option LObj) (kp:List Nat):Prop:=
 yjf P f∧(∀ id o,hs' id=some o→isC o=true→∃ o',hs id=some o'∧isC o'=true)∧∀ (ok0:Nat→Prop) (lv:Live) (w:World) (us:List Value),Inv (yea w lv) ok0 hs lv w→ybk (yaw (yea w lv) ok0 lv w) w lv args us →
  Calls P f us.toArray w fun e w'=>∃ u lv',e=.returned u∧Rel (yaw (yea w lv) ok0 lv' w') w' lv' r u∧Inv (yea w lv) ok0 hs' lv' w'∧(∀ id o,hs' id=some o→isC o=true→∃ b n n',lv id=some (some b,n)∧lv' id=some (some b,n')) ∧
   ∀ i∈kp,∀ x v,args[i]?=some x→us[i]?=some v→Rel (yaw (yea w lv) ok0 lv' w') w' lv' x v
theorem ypt.toG {P:Program} {f:FuncId} {args:List AV} {hs hs':Nat→Option LObj} {r:AV} (h:ypt P f args hs r hs'):zzo P f args hs r hs' []:=
 ⟨h.1,h.2.1,fun ok0 lv w us hi hus=>(h.2.2 ok0 lv w us hi hus).mono fun e w' ⟨u,lv',h1,h2,h3,h4⟩=>⟨u,lv',h1,h2,h3,h4,fun i hi=>by cases hi⟩⟩
def zzr (σ:Nat→Nat) (ids:List Nat) (hm':Nat→Option LObj) (y:AV):Prop:=∃ f cs,y=.fn f cs∧∀ c∈cs,∃ i∈ids,∃ off o,c=.lp (σ i) off∧hm' i=some o∧isC o=true
def zzb (σ:Nat→Nat) (ids:List Nat) (hm':Nat→Option LObj) (y:AV):Prop:=(∀ i∈ids,ment (σ i) y=false)∨∃ i∈ids,∃ off o,(y=.lp (σ i) off∨∃ f,y=.fm f [.lp (σ i) off])∧hm' i=some o∧isC o=true
set_option maxHeartbeats 4000000
section
variable {P:Program} {N:Nat}
def yvc (y:Option AV) (f:FuncId) (caps:List AV) (args:List Operand):Prop:=y=some (.fn f caps)∨(y=some (.fm f caps)∧args=[])
theorem callee_run {B:Bse} {ok0:Nat→Prop} {s:SS} {lv:Live} {a:Act} {w:World} (hs:Sim B ok0 N s lv a w) {o:Oper} {g:Operand} {args:List Operand} {ats:Array TypeId} {f:FuncId} {caps:List AV} (ho:o.op=.call { callee:=.value g,args:=args.toArray,argTypes:=ats }) (hb:yjf P f) (hg:yvc (evF s.t g) f caps args) :
  ∃ vs:List Value,vs.length=caps.length∧(∀ (i:Nat) (c:AV) (u:Value),caps[i]?=some c→vs[i]?=some u→Rel (yaw B ok0 lv w) w lv c u)∧(execOp a.eval o).run P w=.ok (.enter f (args.map a.eval++vs).toArray) w:=by
 rcases hg with hg|⟨hg,rfl⟩
 ·have hfr:=hs.eval hg
  generalize hv:a.eval g=v at hfr
  cases hfr with
  | fn vs hl hrc=>
  refine ⟨vs,hl,hrc,?_⟩
  unfold execOp
  simp only [ho,resolve,Deferred.ofValue,hv,Sem.run_bind,Sem.run_pure,Result.andThen_ok,invoke]
  rw [yfh hb]
  simp
 ·have hfr:=hs.eval hg
  generalize hv:a.eval g=v at hfr
  cases hfr with
  | fm vs hl hrc=>
  refine ⟨vs,hl,hrc,?_⟩
  unfold execOp
  simp only [ho,resolve,Deferred.ofValue,hv,Sem.run_bind,Sem.run_pure,Result.andThen_ok,invoke]
  rw [yfh hb]
  simp
theorem yua {o:Oper} {g:Operand} {args:List Operand} {ats:Array TypeId} {f:FuncId} {caps xs args0:List AV} {hm hm':Nat→Option LObj} {r:AV} {σ:Nat→Nat} {ids:List Nat} {d:Nat} {s s2:SS}
  (ho:o.op=.call { callee:=.value g,args:=args.toArray,argTypes:=ats }) (hd:o.dst=some d) (hdN:d < N) (hg:yvc (evF s.t g) f caps args) (hx:evL (evF s.t) args=some xs) (hargs:xs++caps=args0.map (yec σ)) {kp:List Nat} (hc:zzo P f args0 hm r hm' kp)
  (hinj:∀ i∈ids,∀ j∈ids,σ i=σ j→i=j) (hdom:∀ id,(hm id).isSome→id∈ids) (hdom':∀ id,(hm' id).isSome→id∈ids) (hmem:∀ id o,hm id=some o→s.h (σ id)=some (yxh σ o)) (hr:ydm ids r=true) (hro:∀ id o,hm' id=some o→ynf ids o=true)
  (ht:∀ x y,s2.t x=some y→(x=d∧y=yec σ r)∨(x≠d∧((y=.any∧∃ z,s.t x=some z)∨(s.t x=some y∧(zzb σ ids hm' y∨(∃ i∈kp,∃ id sz len,0 < sz∧(hm id).isSome∧args0[i]?=some (.ls id sz len)∧y=.ls (σ id) sz len)∨zzr σ ids hm' y)))))
  (hh1:∀ i∈ids,s2.h (σ i)=(hm' i).map (yxh σ)) (hh2:∀ j ob',(∀ i∈ids,σ i≠j)→s2.h j=some ob'→(∀ i∈ids,yez (σ i) ob'=false)∧∃ ob,s.h j=some ob∧ylb ob ob'):ycc P N o s (·=s2):=by
 intro B ok0 lv a w hs Q
 have har:=yqu (a:=a) args xs (fun x y _ hxy=>hs.eval hxy) hx
 obtain ⟨vs,hl,hrc,hrun⟩:=callee_run hs ho hc.1 hg
 let lv1:Live:=fun id=>if id∈ids∧(hm id).isSome then lv (σ id) else none
 have hl1:∀ id b n,lv1 id=some (b,n)→id∈ids∧(hm id).isSome∧lv (σ id)=some (b,n):=by
  intro id b n hb
  simp only [lv1] at hb
  split at hb
  ·rename_i h;exact ⟨h.1,h.2,hb⟩
  ·cases hb
 have hl2:∀ id b n,lv1 id=some (b,n)→lv (σ id)=some (b,n):=fun id b n h=>(hl1 id b n h).2.2
 have hmine:∀ b,ybn lv1 b→B.mine b∧b < w.heap.size∧∃ i∈ids,∃ n,lv (σ i)=some (some b,n):=by
  rintro b ⟨id,n,hb⟩
  obtain ⟨h1,h2,h3⟩:=hl1 id _ n hb
  obtain ⟨_,_,h4,h5,_⟩:=hs.inv.lvat h3
  exact ⟨h4,h5,id,h1,n,h3⟩
 have hok1:∀ g,yaw B ok0 lv w g→yaw (yea w lv1) (yaw B ok0 lv w) lv1 w g:=fun g hg=>⟨.inl hg,hg.2.1,fun id b n hb=>hg.2.2 (σ id) b n (hl2 id _ n hb)⟩
 have hinv:Inv (yea w lv1) (yaw B ok0 lv w) hm lv1 w:=by
  refine ⟨⟨rfl,rfl,rfl,Nat.le_refl _,fun _ _ _=>rfl,hs.inv.base.glob,hs.inv.base.glob.size,fun k hk=>hs.inv.base.mineG (hmine k hk).1,fun l h=>by cases h⟩,fun g hg=>hg.2.1,fun id hid=>by simp [lv1,hid],fun i j b n m h1 h2=>?_,fun id x hx=>?_⟩
  ·obtain ⟨q1,_,q2⟩:=hl1 _ _ _ h1
   obtain ⟨r1,_,r2⟩:=hl1 _ _ _ h2
   exact hinj i q1 j r1 (hs.inv.inj _ _ b n m q2 r2)
  ·obtain ⟨b,n,h1,h2⟩:=hs.inv.obj (σ id) _ (hmem id x hx)
   have hlv:lv1 id=some (b,n):=by simp [lv1,hdom id (by simp [hx]),hx,h1]
   refine ⟨b,n,hlv,?_⟩
   cases b with
   | none=>exact zol h2
   | some b=>exact ⟨.inl ⟨id,n,hlv⟩,h2.2.1,ygt.unren hl2 hok1 h2.2.2⟩
 have hall:ybk (yaw (yea w lv1) (yaw B ok0 lv w) lv1 w) w lv1 args0 (args.map a.eval++vs):=by
  have hlen:(args.map a.eval++vs).length=args0.length:=by
   have:=congrArg List.length hargs
   simp only [List.length_append,List.length_map] at this ⊢
   have:=har.1
   simp at this
   omega
  refine ⟨hlen,fun i x u hx hu=>?_⟩
  have hxi:(xs++caps)[i]?=some (yec σ x):=by rw [hargs];simp [hx]
  have hrel:Rel (yaw B ok0 lv w) w lv (yec σ x) u:=by
   by_cases hlt:i < xs.length
   ·rw [List.getElem?_append_left hlt] at hxi
    rw [List.getElem?_append_left (by rw [har.1];exact hlt)] at hu
    exact har.2 i _ u hxi hu
   ·rw [List.getElem?_append_right (by omega)] at hxi
    rw [List.getElem?_append_right (by rw [har.1];omega),har.1] at hu
    exact hrc _ _ u hxi hu
  exact (Rel.unren hl2 hrel).keep fun g hg=>⟨hok1 g hg,rfl⟩
 unfold Oper.wp
 rw [hrun]
 refine (hc.2.2 (yaw B ok0 lv w) lv1 w (args.map a.eval++vs) hinv hall).mono fun e w' ⟨u,lv3,he,hu,hi3,hpin,hkp⟩=>?_
 subst he
 simp only [hd]
 have hb3:=hi3.base
 -- the blocks that are not lent stay
 have hstay:∀ k,k < w.heap.size→(∀ i∈ids,∀ n,lv (σ i)≠some (some k,n))→w'.heap[k]?=w.heap[k]?:=by
  intro k hk hn
  exact hb3.block k hk fun hlent=>by
   obtain ⟨_,_,i,hi,n,hn'⟩:=hmine k hlent
   exact hn i hi n hn'
 have hsz:w.heap.size≤w'.heap.size:=hb3.size
 have hmine3:∀ id b n,lv3 id=some (some b,n)→B.mine b∧b < w'.heap.size∧(w.heap.size≤b∨∃ i∈ids,∃ n,lv (σ i)=some (some b,n)):=by
  intro id b n hb
  obtain ⟨_,_,q1,q2,_⟩:=hi3.lvat hb
  rcases q1 with q1|q1
  ·have:=hmine b q1
   exact ⟨this.1,q2,.inr this.2.2⟩
  ·exact ⟨.inr (Nat.le_trans hs.inv.base.size q1),q2,.inl q1⟩
 have hid3:∀ id b n,lv3 id=some (b,n)→id∈ids:=fun id b n hb=>by
  cases hq:hm' id with
  | none=>rw [hi3.dom id hq] at hb;cases hb
  | some o=>exact hdom' id (by simp [hq])
 let find:Nat→Option Nat:=fun j=>ids.find? fun i=>σ i == j
 have hf1:∀ j i,find j=some i→i∈ids∧σ i=j:=fun j i h=>⟨List.mem_of_find?_eq_some h,by simpa using List.find?_some h⟩
 have hf2:∀ i∈ids,find (σ i)=some i:=fun i hi=>by
  cases hq:find (σ i) with
  | none=>
   have:=List.find?_eq_none.1 hq i hi
   simp at this
  | some k=>obtain ⟨h1,h2⟩:=hf1 _ _ hq;rw [hinj k h1 i hi h2]
 have hf3:∀ j,find j=none→∀ i∈ids,σ i≠j:=fun j h i hi e=>by
  have:=List.find?_eq_none.1 h i hi
  simp [e] at this
 let lv2:Live:=fun j=>match find j with
  | some i=>lv3 i
  | none=>if (s2.h j).isSome then lv j else none
 have hlv2a:∀ i∈ids,lv2 (σ i)=lv3 i:=fun i hi=>by simp only [lv2,hf2 i hi]
 have hlv2b:∀ j,(∀ i∈ids,σ i≠j)→∀ b n,lv2 j=some (b,n)→lv j=some (b,n)∧(s2.h j).isSome:=by
  intro j hj b n hb
  have hn:find j=none:=by
   cases hq:find j with
   | none=>rfl
   | some i=>obtain ⟨h1,h2⟩:=hf1 _ _ hq;exact absurd h2 (hj i h1)
  simp only [lv2,hn] at hb
  split at hb
  ·rename_i h;exact ⟨hb,h⟩
  ·cases hb
 have hcase:∀ j,(∃ i∈ids,σ i=j)∨∀ i∈ids,σ i≠j:=fun j=>by
  cases hq:find j with
  | none=>exact .inr (hf3 j hq)
  | some i=>obtain ⟨h1,h2⟩:=hf1 _ _ hq;exact .inl ⟨i,h1,h2⟩
 have hok2:∀ g,yaw B ok0 lv w g→yaw B ok0 lv2 w' g∧w'.heap[g]?=w.heap[g]?:=by
  intro g hg
  refine ⟨⟨hg.1,Nat.lt_of_lt_of_le hg.2.1 hsz,fun j b n hb=>?_⟩,hstay g hg.2.1 fun i _ n hn=>hg.2.2 _ _ n hn rfl⟩
  rcases hcase j with ⟨i,hi,rfl⟩|hj
  ·rw [hlv2a i hi] at hb
   rcases (hmine3 i b n hb).2.2 with h|⟨i',_,n',h⟩
   ·have:=hg.2.1;omega
   ·exact hg.2.2 _ _ n' h
  ·exact hg.2.2 j b n (hlv2b j hj _ n hb).1
 have hok3:∀ g,yaw (yea w lv1) (yaw B ok0 lv w) lv3 w' g→yaw B ok0 lv2 w' g:=by
  intro g hg
  refine ⟨?_,hg.2.1,fun j b n hb=>?_⟩
  ·rcases hg.1 with h|h|h
   ·exact h.1
   ·exact .inr (hmine g h).1
   ·exact .inr (.inr (Nat.le_trans hs.inv.base.size h))
  ·rcases hcase j with ⟨i,hi,rfl⟩|hj
   ·rw [hlv2a i hi] at hb
    exact hg.2.2 i b n hb
   ·obtain ⟨hb',_⟩:=hlv2b j hj _ n hb
    have hlt:=hs.inv.lvlt hb'
    rintro rfl
    rcases hg.1 with h|h|h
    ·exact h.2.2 j b n hb' rfl
    ·obtain ⟨_,_,i,hi,n',hn'⟩:=hmine b h
     exact hj i hi (hs.inv.inj _ _ b n' n hn' hb')
    ·simp only [yea] at h;omega
 have hren:∀ id b n,id∈ids→lv2 (σ id)=some (b,n)→lv3 id=some (b,n):=fun id b n hi hb=>by rwa [hlv2a id hi] at hb
 have hframe:∀ (y:AV) (z:Value),(∀ i∈ids,ment (σ i) y=false)→Rel (yaw B ok0 lv w) w lv y z→Rel (yaw B ok0 lv2 w') w' lv2 y z:=by
  intro y z hy hz
  refine (hz.relive fun j b n hb hm=>?_).keep hok2
  rcases hcase j with ⟨i,hi,rfl⟩|hj
  ·rw [hy i hi] at hm;cases hm
  ·exact (hlv2b j hj b n hb).1
 refine ⟨s2,lv2,rfl,⟨⟨?_,hs.inv.ok0lt,fun j hj=>?_,fun i j b n m h1 h2=>?_,fun j x hx=>?_⟩,by simp [Act.put,hs.size],fun x y hy=>?_,hs.defers.same (fun g hg=>(hstay g (Array.getElem?_eq_some_iff.1 hg).1 fun i hi n hn=>(hs.inv.lvat hn).choose_spec.2.2.2.notDef hg).trans hg),hs.big,fun j b ws hN hj hcj hb=>?_⟩⟩
 ·-- base
  refine ⟨hb3.os.trans hs.inv.base.os,hb3.tape.trans hs.inv.base.tape,hb3.output.trans hs.inv.base.output,Nat.le_trans hs.inv.base.size hsz,fun k hk hnl=>?_,hb3.glob,hs.inv.base.gsize,hs.inv.base.lentG,hs.inv.base.rdok⟩
  refine (hstay k (Nat.lt_of_lt_of_le hk hs.inv.base.size) fun i hi n hn=>?_).trans (hs.inv.base.block k hk hnl)
  obtain ⟨_,_,q1,_,_⟩:=hs.inv.lvat hn
  rcases q1 with q1|q1
  ·exact hnl q1
  ·omega
 ·-- dom
  rcases hcase j with ⟨i,hi,rfl⟩|hj'
  ·rw [hlv2a i hi]
   refine hi3.dom i ?_
   rw [hh1 i hi] at hj
   cases hq:hm' i with
   | none=>rfl
   | some o=>simp [hq] at hj
  ·cases hq:lv2 j with
   | none=>rfl
   | some q=>obtain ⟨q1,q2⟩:=q;have:=(hlv2b j hj' q1 q2 hq).2;simp [hj] at this
 ·-- inj
  rcases hcase i with ⟨i',hi,rfl⟩|hi <;> rcases hcase j with ⟨j',hj,rfl⟩|hj
  ·rw [hlv2a i' hi] at h1
   rw [hlv2a j' hj] at h2
   rw [hi3.inj i' j' b n m h1 h2]
  ·rw [hlv2a i' hi] at h1
   have h2':=(hlv2b j hj _ m h2).1
   have:=hs.inv.lvlt h2'
   rcases (hmine3 i' b n h1).2.2 with h|⟨k,hk,n',h⟩
   ·omega
   ·exact absurd (hs.inv.inj _ _ b n' m h h2') (hj k hk)
  ·rw [hlv2a j' hj] at h2
   have h1':=(hlv2b i hi _ n h1).1
   have:=hs.inv.lvlt h1'
   rcases (hmine3 j' b m h2).2.2 with h|⟨k,hk,n',h⟩
   ·omega
   ·exact absurd (hs.inv.inj _ _ b n' n h h1') (hi k hk)
  ·exact hs.inv.inj i j b n m (hlv2b i hi _ n h1).1 (hlv2b j hj _ m h2).1
 ·-- objects
  rcases hcase j with ⟨i,hi,rfl⟩|hj
  ·rw [hh1 i hi] at hx
   cases hq:hm' i with
   | none=>simp [hq] at hx
   | some ob=>
    simp only [hq,Option.map_some,Option.some.injEq] at hx
    subst hx
    obtain ⟨b,n,q1,q2⟩:=hi3.obj i ob hq
    refine ⟨b,n,by rw [hlv2a i hi];exact q1,?_⟩
    cases b with
    | none=>
     simp only [yfb] at q2 ⊢
     rcases q2 with rfl|⟨e,rfl⟩
     ·exact .inl rfl
     ·exact .inr ⟨e,rfl⟩
    | some b=>
     exact ⟨(hmine3 i b n q1).1,q2.2.1,ygt.ren hren (hro i ob hq) hok3 q2.2.2⟩
  ·obtain ⟨hm1,ob,hob,hfo⟩:=hh2 j x hj hx
   obtain ⟨b,n,q1,q2⟩:=hs.inv.obj j ob hob
   have hlv2:lv2 j=some (b,n):=by
    have hn:find j=none:=by
     cases hq:find j with
     | none=>rfl
     | some i=>obtain ⟨h1,h2⟩:=hf1 _ _ hq;exact absurd h2 (hj i h1)
    simp [lv2,hn,hx,q1]
   refine ⟨b,n,hlv2,?_⟩
   cases b with
   | none=>
    simp only [yfb] at q2 ⊢
    rcases hfo with rfl|⟨_,_,rfl,_⟩|⟨_,_,_,rfl,_⟩
    ·exact q2
    ·simp at q2
    ·simp at q2
   | some b=>
    obtain ⟨q3,q4,q5⟩:=q2
    have hbk:w'.heap[b]?=w.heap[b]?:=hstay b q4 fun i hi n' hn'=>hj i hi (hs.inv.inj _ _ b n' n hn' q1)
    refine ⟨q3,Nat.lt_of_lt_of_le q4 hsz,?_⟩
    rcases hfo with rfl|⟨zs,ys,rfl,rfl,hyl,hyz⟩|⟨te,zs,ys,rfl,rfl,hyl,hyz⟩
    ·refine (q5.relive (lv':=lv2) fun k b' n' hb' hmk=>?_).keep hok2 hbk
     rcases hcase k with ⟨i,hi,rfl⟩|hk
     ·rw [hm1 i hi] at hmk;cases hmk
     ·exact (hlv2b k hk b' n' hb').1
    ·obtain ⟨c,e,g1,g2,g3,g4,g5⟩:=q5
     refine ⟨c,e,by rw [hbk];exact g1,g2,by omega,fun y hy=>?_,fun k y z hy hz=>?_⟩
     ·obtain ⟨k,hk⟩:=List.getElem?_of_mem hy
      obtain ⟨x,hx⟩:∃ x,zs[k]?=some x:=⟨_,List.getElem?_eq_getElem (by have:=(List.getElem?_eq_some_iff.1 hk).1;omega)⟩
      rcases hyz k x y hx hk with rfl|rfl
      ·exact g4 _ (List.mem_of_getElem? hx)
      ·rfl
     ·obtain ⟨x,hx⟩:∃ x,zs[k]?=some x:=⟨_,List.getElem?_eq_getElem (by have:=(List.getElem?_eq_some_iff.1 hy).1;omega)⟩
      rcases hyz k x y hx hy with rfl|rfl
      ·refine hframe _ z (fun i hi=>?_) (g5 k _ z hx hz)
       exact yff hy (hm1 i hi)
      ·exact .one _ ((g5 k x z hx hz).oneCell (g4 x (List.mem_of_getElem? hx)))
    ·obtain ⟨⟨c,e,g1,g2,g3,g4,g5⟩,hsh⟩:=q5
     refine ⟨⟨c,e,by rw [hbk];exact g1,g2,by omega,fun y hy=>?_,fun k y z hy hz=>?_⟩,by rw [hyl];exact (yhx hbk).trans hsh⟩
     ·obtain ⟨k,hk⟩:=List.getElem?_of_mem hy
      obtain ⟨x,hx⟩:∃ x,zs[k]?=some x:=⟨_,List.getElem?_eq_getElem (by have:=(List.getElem?_eq_some_iff.1 hk).1;omega)⟩
      rcases hyz k x y hx hk with rfl|rfl
      ·exact g4 _ (List.mem_of_getElem? hx)
      ·rfl
     ·obtain ⟨x,hx⟩:∃ x,zs[k]?=some x:=⟨_,List.getElem?_eq_getElem (by have:=(List.getElem?_eq_some_iff.1 hy).1;omega)⟩
      rcases hyz k x y hx hy with rfl|rfl
      ·refine hframe _ z (fun i hi=>?_) (g5 k _ z hx hz)
       exact yff hy (hm1 i hi)
      ·exact .one _ ((g5 k x z hx hz).oneCell (g4 x (List.mem_of_getElem? hx)))
 ·-- frame
  rcases ht x y hy with ⟨rfl,rfl⟩|⟨hxd,hxy⟩
  ·have hbig:=hs.big
   refine ⟨.inl hdN,?_⟩
   rw [yct,if_pos (Nat.lt_of_lt_of_le hdN hbig)]
   simp only [Act.put]
   rw [show (a.tmps.setIfInBounds x u).getD x undef=u by simp [Array.getD,hs.size,hdN]]
   exact (Rel.ren hren hr hu).keep fun g hg=>⟨hok3 g hg,rfl⟩
  ·have hval:yct B (a.put (some d) u) x=yct B a x:=by
    unfold yct
    split
    ·simp only [Act.put,Array.getD_eq_getD_getElem?,Array.getElem?_setIfInBounds]
     rw [if_neg (by omega)]
    ·rfl
   rw [hval]
   rcases hxy with ⟨rfl,z,hz⟩|⟨hz,hk⟩
   ·exact ⟨(hs.frame x z hz).1,.any _⟩
   ·refine ⟨(hs.frame x y hz).1,?_⟩
    have hold:=(hs.frame x y hz).2
    have hlp:∀ i∈ids,∀ off o',hm' i=some o'→isC o'=true→∀ z:Value,Rel (yaw B ok0 lv w) w lv (.lp (σ i) off) z→Rel (yaw B ok0 lv2 w') w' lv2 (.lp (σ i) off) z:=fun i hi off o' hci hcc z hz=>by
     cases hz with
     | lp _ h1 h2=>
      refine .lp _ h1 fun b n hb=>?_
      rw [hlv2a i hi] at hb
      obtain ⟨b',n',n'',p1,p2⟩:=hpin i o' hci hcc
      rw [hb] at p2
      cases p2
      exact h2 b n' (hl2 i _ n' p1)
    rcases hk with hk|⟨i,hi,id,sz,len,h0,hsome,ha,rfl⟩|⟨f',cs,rfl,hcs⟩
    rotate_left
    ·obtain ⟨ui,hui⟩:∃ ui,(args.map a.eval++vs)[i]?=some ui:=⟨_,List.getElem?_eq_getElem (by rw [hall.1];exact (List.getElem?_eq_some_iff.1 ha).1)⟩
     have hid:=hdom id hsome
     obtain ⟨ob,hob⟩:=Option.isSome_iff_exists.1 hsome
     obtain ⟨b,n,g1,_⟩:=hs.inv.obj (σ id) _ (hmem id ob hob)
     have g2:lv1 id=some (b,n):=by simp only [lv1];rw [if_pos ⟨hid,hsome⟩];exact g1
     have hv:yct B a x=ui:=by
      have q1:=hall.2 i _ ui ha hui
      generalize yct B a x=v at hold
      cases hold with
      | ls _ _ p1=>
       cases q1 with
       | ls _ _ p2=>
        have r1:=p1 b n g1
        have r2:=p2 b n g2
        cases b with
        | none=>exact r1.1.trans r2.1.symm
        | some b=>
         obtain ⟨c1,e1,_,_,m1⟩:=r1
         obtain ⟨c2,e2,_,_,m2⟩:=r2
         have:c1=c2:=Nat.eq_of_mul_eq_mul_right h0 (m1.trans m2.symm)
         rw [e1,e2,this]
     rw [hv]
     exact (Rel.ren hren (by simp [ydm,hid]) (hkp i hi _ ui ha hui)).keep fun g hg=>⟨hok3 g hg,rfl⟩
    ·generalize yct B a x=z at hold
     cases hold with
     | fn vs hvl hvr=>
      exact .fn vs hvl fun k c u h1 h2=>by
       obtain ⟨i,hi,off,o',rfl,p1,p2⟩:=hcs c (List.mem_of_getElem? h1)
       exact hlp i hi off o' p1 p2 _ (hvr k _ u h1 h2)
    rcases hk with hk|⟨i,hi,off,o',hye,hci,hcc⟩
    ·exact hframe y _ hk hold
    ·rcases hye with rfl|⟨f',rfl⟩
     ·exact hlp i hi off o' hci hcc _ hold
     ·generalize yct B a x=z at hold
      cases hold with
      | fm vs hvl hvr=>
       refine .fm vs hvl fun k c u h1 h2=>?_
       have h3:=hvr k c u h1 h2
       match k,h1 with
       | 0,h1=>
        simp only [List.getElem?_cons_zero,Option.some.injEq] at h1
        subst h1
        exact hlp i hi off o' hci hcc _ h3
       | k+1,h1=>simp at h1
 ·-- pins
  rcases hcase j with ⟨i,hi,rfl⟩|hj'
  ·rw [hh1 i hi] at hj
   cases hq:hm' i with
   | none=>simp [hq] at hj
   | some ob=>
    simp only [hq,Option.map_some,Option.some.injEq] at hj
    subst hj
    rw [yxj] at hcj
    obtain ⟨b',n',n'',p1,p2⟩:=hpin i ob hq hcj
    obtain ⟨zs,hz,hzc⟩:=hc.2.1 i ob hq hcj
    obtain ⟨n,hn⟩:=hs.pin (σ i) b _ hN (hmem i _ hz) (by rw [yxj];exact hzc) hb
    rw [hl2 i _ n' p1] at hn
    cases hn
    exact ⟨n'',by rw [hlv2a i hi];exact p2⟩
  ·obtain ⟨_,ob,hys,hfo⟩:=hh2 j _ hj' hj
   have hcc:isC ob=true:=by
    rcases hfo with rfl|⟨xs',ys',rfl,_,_⟩|⟨e,xs',ys',rfl,_,_⟩
    ·exact hcj
    ·rfl
    ·rfl
   obtain ⟨n,hn⟩:=hs.pin j b ob hN hys hcc hb
   obtain ⟨b2,n2,q1,_⟩:=hs.inv.obj j _ hys
   rw [hn] at q1
   cases q1
   have hn':find j=none:=by
    cases hq:find j with
    | none=>rfl
    | some i=>obtain ⟨h1,h2⟩:=hf1 _ _ hq;exact absurd h2 (hj' i h1)
   exact ⟨n,by simp [lv2,hn',hj,hn]⟩
theorem yox {o:Oper} {g:Operand} {args:List Operand} {ats:Array TypeId} {f:FuncId} {caps xs args0:List AV} {hm hm':Nat→Option LObj} {r:AV} {σ:Nat→Nat} {ids:List Nat} {d:Nat} {s s2:SS}
  (ho:o.op=.call { callee:=.value g,args:=args.toArray,argTypes:=ats }) (hd:o.dst=some d) (hdN:d < N) (hg:yvc (evF s.t g) f caps args) (hx:evL (evF s.t) args=some xs) (hargs:xs++caps=args0.map (yec σ)) (hc:ypt P f args0 hm r hm')
  (hinj:∀ i∈ids,∀ j∈ids,σ i=σ j→i=j) (hdom:∀ id,(hm id).isSome→id∈ids) (hdom':∀ id,(hm' id).isSome→id∈ids) (hmem:∀ id o,hm id=some o→s.h (σ id)=some (yxh σ o)) (hr:ydm ids r=true) (hro:∀ id o,hm' id=some o→ynf ids o=true)
  (ht:∀ x y,s2.t x=some y→(x=d∧y=yec σ r)∨(x≠d∧((y=.any∧∃ z,s.t x=some z)∨(s.t x=some y∧zzb σ ids hm' y))))
  (hh1:∀ i∈ids,s2.h (σ i)=(hm' i).map (yxh σ)) (hh2:∀ j ob',(∀ i∈ids,σ i≠j)→s2.h j=some ob'→(∀ i∈ids,yez (σ i) ob'=false)∧∃ ob,s.h j=some ob∧ylb ob ob'):ycc P N o s (·=s2):=
 yua ho hd hdN hg hx hargs (kp:=[]) hc.toG hinj hdom hdom' hmem hr hro (fun x y h=>(ht x y h).imp id fun ⟨h1,h2⟩=>⟨h1,h2.imp id fun ⟨h3,h4⟩=>⟨h3,.inl h4⟩⟩) hh1 hh2
end
def ydh:List (Nat × Nat)→Nat→Nat
 | [],i=>i
 | (k,j)::sg,i=>match Nat.beq i k with
  | true=>j
  | false=>ydh sg i
def yau:List (Nat × Nat)→List Nat
 | []=>[]
 | (k,_)::sg=>k::yau sg
def ybm:List (Nat × Nat)→List Nat
 | []=>[]
 | (_,j)::sg=>j::ybm sg
def yll (i:Nat):List Nat→Bool
 | []=>false
 | k::l=>match Nat.beq i k with
  | true=>true
  | false=>yll i l
def ycq:List Nat→Bool
 | []=>true
 | k::l=>match yll k l with
  | true=>false
  | false=>ycq l
theorem ydg {i:Nat}:∀ {l:List Nat},yll i l=true↔i∈l
 | []=>by simp [yll]
 | k::l=>by
  simp only [yll,List.mem_cons]
  cases h:Nat.beq i k with
  | true=>simp [Nat.eq_of_beq_eq_true h]
  | false=>
   have:i≠k:=fun e=>by subst e;simp at h
   simp [this,ydg (l:=l)]
theorem yie {sg:List (Nat × Nat)} {i:Nat} (h:i∈yau sg):ydh sg i∈ybm sg:=by
 induction sg with
 | nil=>simp [yau] at h
 | cons q sg ih=>
  obtain ⟨k,j⟩:=q
  simp only [ydh,ybm]
  cases hb:Nat.beq i k with
  | true=>simp
  | false=>
   have hne:i≠k:=fun e=>by subst e;simp at hb
   simp only [yau,List.mem_cons,hne,false_or] at h
   simp [ih h]
theorem ytk {sg:List (Nat × Nat)} (h:ycq (ybm sg)=true):∀ i∈yau sg,∀ j∈yau sg,ydh sg i=ydh sg j→i=j:=by
 induction sg with
 | nil=>intro i hi;simp [yau] at hi
 | cons q sg ih=>
  obtain ⟨k,v⟩:=q
  simp only [ybm,ycq] at h
  cases hv:yll v (ybm sg) with
  | true=>simp [hv] at h
  | false=>
   simp only [hv] at h
   have hnv:v ∉ ybm sg:=fun hm=>by rw [ydg.2 hm] at hv;cases hv
   intro i hi j hj he
   simp only [ydh] at he
   cases hik:Nat.beq i k <;> cases hjk:Nat.beq j k <;> simp only [hik,hjk] at he
   ·have h1:i≠k:=fun e=>by subst e;simp at hik
    have h2:j≠k:=fun e=>by subst e;simp at hjk
    simp only [yau,List.mem_cons,h1,h2,false_or] at hi hj
    exact ih h i hi j hj he
   ·have h1:i≠k:=fun e=>by subst e;simp at hik
    simp only [yau,List.mem_cons,h1,false_or] at hi
    exact absurd (he ▸ yie hi) hnv
   ·have h2:j≠k:=fun e=>by subst e;simp at hjk
    simp only [yau,List.mem_cons,h2,false_or] at hj
    exact absurd (he ▸ yie hj) hnv
   ·rw [Nat.eq_of_beq_eq_true hik,Nat.eq_of_beq_eq_true hjk]
theorem ypp {sg:List (Nat × Nat)} {j:Nat} (h:j∈ybm sg) (hk:ycq (yau sg)=true):∃ i∈yau sg,ydh sg i=j:=by
 induction sg with
 | nil=>simp [ybm] at h
 | cons q sg ih=>
  obtain ⟨k,v⟩:=q
  simp only [yau,ycq] at hk
  cases hm:yll k (yau sg) with
  | true=>simp [hm] at hk
  | false=>
   simp only [hm] at hk
   simp only [ybm,List.mem_cons] at h
   rcases h with rfl|h
   ·exact ⟨k,by simp [yau],by simp [ydh]⟩
   ·obtain ⟨i,hi,he⟩:=ih h hk
    refine ⟨i,by simp [yau,hi],?_⟩
    have:i≠k:=fun e=>by subst e;rw [ydg.2 hi] at hm;cases hm
    simp only [ydh,yck this]
    exact he
def ymn (ids:List Nat):List (Nat × Option LObj)→Bool
 | []=>true
 | (k,_)::h=>yll k ids && ymn ids h
theorem yfk {ids:List Nat}:∀ {h:List (Nat × Option LObj)},ymn ids h=true→∀ id,(hlook h id).isSome→id∈ids
 | [],_,id,hs=>by simp [hlook] at hs
 | (k,o)::h,hd,id,hs=>by
  simp only [ymn,Bool.and_eq_true] at hd
  simp only [hlook] at hs
  cases hb:Nat.beq id k with
  | true=>rw [Nat.eq_of_beq_eq_true hb];exact ydg.1 hd.1
  | false=>simp only [hb] at hs;exact yfk hd.2 id hs
def zjs (sg:List (Nat × Nat)):List (Nat × Option LObj)→List (Nat × Option LObj)
 | []=>[]
 | (k,some o)::h=>(ydh sg k,some (yxh (ydh sg) o))::zjs sg h
 | (k,none)::h=>(ydh sg k,none)::zjs sg h
theorem ypo {sg:List (Nat × Nat)} {h:List (Nat × Option LObj)}:∀ {hs:List (Nat × Option LObj)},yrf h (zjs sg hs)→∀ id o,hlook hs id=some o→hlook h (ydh sg id)=some (yxh (ydh sg) o)
 | [],_,id,o,hl=>by simp [hlook] at hl
 | (k,x)::hs,hsub,id,o,hl=>by
  simp only [hlook] at hl
  cases hb:Nat.beq id k with
  | true=>
   simp only [hb] at hl
   subst hl
   rw [Nat.eq_of_beq_eq_true hb]
   simp only [zjs,yrf] at hsub
   exact hsub.1 _ rfl
  | false=>
   simp only [hb] at hl
   cases x with
   | none=>simp only [zjs,yrf] at hsub;exact ypo hsub.2 id o hl
   | some x=>simp only [zjs,yrf] at hsub;exact ypo hsub.2 id o hl
def yku (ids:List Nat):List (Nat × Option LObj)→Bool
 | []=>true
 | (_,some o)::h=>ynf ids o && yku ids h
 | (_,none)::h=>yku ids h
theorem yhp {ids:List Nat}:∀ {h:List (Nat × Option LObj)},yku ids h=true→∀ id o,hlook h id=some o→ynf ids o=true
 | [],_,id,o,hl=>by simp [hlook] at hl
 | (k,x)::h,ho,id,o,hl=>by
  simp only [hlook] at hl
  cases hb:Nat.beq id k with
  | true=>
   simp only [hb] at hl
   subst hl
   simp only [yku,Bool.and_eq_true] at ho
   exact ho.1
  | false=>
   simp only [hb] at hl
   cases x with
   | none=>exact yhp (by simpa [yku] using ho) id o hl
   | some x=>simp only [yku,Bool.and_eq_true] at ho;exact yhp ho.2 id o hl
def ylp (sg:List (Nat × Nat)) (hs':List (Nat × Option LObj)):List (Nat × Nat)→List (Nat × Option LObj)
 | []=>[]
 | (k,j)::r=>(j,match hlook hs' k with
  | some o=>some (yxh (ydh sg) o)
  | none=>none)::ylp sg hs' r
theorem yrp {sg:List (Nat × Nat)} {hs' h:List (Nat × Option LObj)}:∀ {l:List (Nat × Nat)},ycq (yau l)=true→ycq (ybm l)=true→∀ i∈yau l,hlook (ylp sg hs' l++h) (ydh l i)=(hlook hs' i).map (yxh (ydh sg))
 | [],_,_,i,hi=>by simp [yau] at hi
 | (k,j)::l,h1,h2,i,hi=>by
  simp only [yau,ycq] at h1
  cases hm:yll k (yau l) with
  | true=>simp [hm] at h1
  | false=>
  simp only [hm] at h1
  simp only [ybm,ycq] at h2
  cases hm2:yll j (ybm l) with
  | true=>simp [hm2] at h2
  | false=>
  simp only [hm2] at h2
  simp only [ydh]
  cases hb:Nat.beq i k with
  | true=>
   have e:=Nat.eq_of_beq_eq_true hb
   subst e
   simp only [ylp,List.cons_append,hlook,Nat.beq_refl]
   cases hlook hs' i <;> rfl
  | false=>
   have hne:i≠k:=fun e=>by subst e;simp at hb
   simp only [yau,List.mem_cons,hne,false_or] at hi
   have hv:=yie hi
   have hnj:ydh l i≠j:=fun e=>by rw [e] at hv;rw [ydg.2 hv] at hm2;cases hm2
   simp only [ylp,List.cons_append,hlook,yck hnj]
   exact yrp h1 h2 i hi
theorem yjj {sg:List (Nat × Nat)} {hs' h:List (Nat × Option LObj)}:∀ {l:List (Nat × Nat)} {j:Nat},j ∉ ybm l→hlook (ylp sg hs' l++h) j=hlook h j
 | [],j,_=>rfl
 | (k,v)::l,j,hj=>by
  simp only [ybm,List.mem_cons,not_or] at hj
  simp only [ylp,List.cons_append,hlook,yck hj.1]
  exact yjj hj.2
def yqh:List Nat→List (Nat × Option LObj)→Option (List (Nat × Option LObj))
 | [],h=>some h
 | i::l,h=>match ypv i h with
  | some h'=>yqh l h'
  | none=>none
theorem ylb.trans {a b c:LObj} (h1:ylb a b) (h2:ylb b c):ylb a c:=by
 rcases h1 with rfl|⟨xs,ys,rfl,rfl,hl,hxy⟩|⟨te,xs,ys,rfl,rfl,hl,hxy⟩
 ·exact h2
 ·rcases h2 with rfl|⟨xs',zs,e,rfl,hl',hyz⟩|⟨_,_,_,e,_⟩
  ·exact .inr (.inl ⟨xs,ys,rfl,rfl,hl,hxy⟩)
  ·cases e
   refine .inr (.inl ⟨xs,zs,rfl,rfl,by omega,fun j x z hx hz=>?_⟩)
   obtain ⟨y,hy⟩:∃ y,ys[j]?=some y:=⟨_,List.getElem?_eq_getElem (by have:=(List.getElem?_eq_some_iff.1 hx).1;omega)⟩
   rcases hyz j y z hy hz with rfl|rfl
   ·exact hxy j x _ hx hy
   ·exact .inr rfl
  ·cases e
 ·rcases h2 with rfl|⟨_,_,e,_⟩|⟨te',xs',zs,e,rfl,hl',hyz⟩
  ·exact .inr (.inr ⟨te,xs,ys,rfl,rfl,hl,hxy⟩)
  ·cases e
  ·cases e
   refine .inr (.inr ⟨te,xs,zs,rfl,rfl,by omega,fun j x z hx hz=>?_⟩)
   obtain ⟨y,hy⟩:∃ y,ys[j]?=some y:=⟨_,List.getElem?_eq_getElem (by have:=(List.getElem?_eq_some_iff.1 hx).1;omega)⟩
   rcases hyz j y z hy hz with rfl|rfl
   ·exact hxy j x _ hx hy
   ·exact .inr rfl
theorem znw {i:Nat}:∀ {zs:List AV},ment.mentL i zs=true→∃ (j:Nat) (z:AV),zs[j]?=some z∧ment i z=true
 | [],h=>by simp [ment.mentL] at h
 | z::zs,h=>by
  simp only [ment.mentL,Bool.or_eq_true] at h
  rcases h with h|h
  ·exact ⟨0,z,rfl,h⟩
  ·obtain ⟨j,y,h1,h2⟩:=znw h
   exact ⟨j+1,y,by simpa using h1,h2⟩
theorem zcj {i:Nat} {xs ys:List AV} (hl:ys.length=xs.length) (hxy:∀ (j:Nat) (x y:AV),xs[j]?=some x→ys[j]?=some y→y=x∨y=.one) (hm:ment.mentL i xs=false):ment.mentL i ys=false:=by
 cases hq:ment.mentL i ys with
 | false=>rfl
 | true=>
  exfalso
  obtain ⟨j,y,hy,hmy⟩:=znw hq
  obtain ⟨x,hx⟩:∃ x,xs[j]?=some x:=⟨_,List.getElem?_eq_getElem (by have:=(List.getElem?_eq_some_iff.1 hy).1;omega)⟩
  rcases hxy j x y hx hy with rfl|rfl
  ·rw [yff hx hm] at hmy;cases hmy
  ·simp [ment] at hmy
theorem forgO_ment {a b:LObj} {i:Nat} (h:ylb a b) (hm:yez i a=false):yez i b=false:=by
 rcases h with rfl|⟨xs,ys,rfl,rfl,hl,hxy⟩|⟨te,xs,ys,rfl,rfl,hl,hxy⟩
 ·exact hm
 ·exact zcj hl hxy hm
 ·exact zcj hl hxy hm
theorem yjn:∀ {l:List Nat} {h h':List (Nat × Option LObj)},yqh l h=some h'→∀ j ob',hlook h' j=some ob'→(∀ i∈l,yez i ob'=false)∧∃ ob,hlook h j=some ob∧ylb ob ob'
 | [],h,h',he,j,ob',hj=>by simp only [yqh,Option.some.injEq] at he;subst he;exact ⟨by simp,ob',hj,.inl rfl⟩
 | i::l,h,h',he,j,ob',hj=>by
  simp only [yqh] at he
  split at he
  ·rename_i h1 hh
   obtain ⟨g1,ob1,g2,g3⟩:=yjn he j ob' hj
   obtain ⟨g4,ob,g5,g6⟩:=yfl hh j ob1 g2
   refine ⟨fun k hk=>?_,ob,g5,g6.trans g3⟩
   rcases List.mem_cons.1 hk with rfl|hk
   ·exact forgO_ment g3 g4
   ·exact g1 k hk
  ·cases he
def yza (l:List Nat) (y:AV):Bool:=match l with
 | []=>false
 | i::l=>match ment i y with
  | true=>true
  | false=>yza l y
theorem yvu:∀ {l:List Nat} {y:AV},yza l y=false→∀ i∈l,ment i y=false
 | [],y,_,i,hi=>by simp at hi
 | k::l,y,h,i,hi=>by
  simp only [yza] at h
  cases hk:ment k y with
  | true=>simp [hk] at h
  | false=>
   simp only [hk] at h
   rcases List.mem_cons.1 hi with rfl|hi
   ·exact hk
   ·exact yvu h i hi
def zkp:Option LObj→Bool
 | some o=>isC o
 | none=>false
def yyh (hs':List (Nat × Option LObj)) (j:Nat):List (Nat × Nat)→Bool
 | []=>false
 | (k,v)::l=>match Nat.beq v j with
  | true=>zkp (hlook hs' k)
  | false=>yyh hs' j l
theorem ymo {hs':List (Nat × Option LObj)} {j:Nat}:∀ {l:List (Nat × Nat)},ycq (yau l)=true→yyh hs' j l=true→∃ i∈yau l,ydh l i=j∧∃ o,hlook hs' i=some o∧isC o=true
 | [],_,h=>by simp [yyh] at h
 | (k,v)::l,hn,h=>by
  simp only [yau,ycq] at hn
  cases hm:yll k (yau l) with
  | true=>simp [hm] at hn
  | false=>
  simp only [hm] at hn
  simp only [yyh] at h
  cases hb:Nat.beq v j with
  | true=>
   simp only [hb] at h
   refine ⟨k,by simp [yau],by simp [ydh,Nat.eq_of_beq_eq_true hb],?_⟩
   cases hq:hlook hs' k with
   | none=>simp [hq,zkp] at h
   | some o=>exact ⟨o,rfl,by simpa [hq,zkp] using h⟩
  | false=>
   simp only [hb] at h
   obtain ⟨i,h1,h2,h3⟩:=ymo hn h
   refine ⟨i,by simp [yau,h1],?_,h3⟩
   have:i≠k:=fun e=>by subst e;rw [ydg.2 h1] at hm;cases hm
   simp only [ydh,yck this]
   exact h2
def zkq (sg:List (Nat × Nat)) (hs':List (Nat × Option LObj)) (y:AV):Bool:=match yza (ybm sg) y with
 | false=>true
 | true=>match y with
  | .lp j _=>yyh hs' j sg
  | .fm _ [.lp j _]=>yyh hs' j sg
  | _=>false
def ylt (sg:List (Nat × Nat)) (hs':List (Nat × Option LObj)):List (Nat × AV)→List (Nat × AV)
 | []=>[]
 | (s,x)::t=>match zkq sg hs' x with
  | true=>(s,x)::ylt sg hs' t
  | false=>(s,.any)::ylt sg hs' t
theorem ypf {sg:List (Nat × Nat)} {hs':List (Nat × Option LObj)} {y:AV} (hn:ycq (yau sg)=true) (h:zkq sg hs' y=true):zzb (ydh sg) (yau sg) (hlook hs') y:=by
 unfold zkq at h
 cases hm:yza (ybm sg) y with
 | false=>exact .inl fun i hi=>yvu hm _ (yie hi)
 | true=>
  simp only [hm] at h
  split at h
  ·rename_i j off
   obtain ⟨i,h1,h2,o,h3,h4⟩:=ymo hn h
   exact .inr ⟨i,h1,off,o,.inl (by rw [h2]),h3,h4⟩
  ·rename_i f j off
   obtain ⟨i,h1,h2,o,h3,h4⟩:=ymo hn h
   exact .inr ⟨i,h1,off,o,.inr ⟨f,by rw [h2]⟩,h3,h4⟩
  ·cases h
theorem yhl {sg:List (Nat × Nat)} {hs':List (Nat × Option LObj)}:∀ {t:List (Nat × AV)} {x:Nat} {y:AV},look (ylt sg hs' t) x=some y→(y=.any∧∃ z,look t x=some z)∨(look t x=some y∧zkq sg hs' y=true)
 | [],x,y,h=>by simp [ylt,look] at h
 | (s,z)::t,x,y,h=>by
  simp only [ylt] at h
  cases hk:zkq sg hs' z with
  | true=>
   simp only [hk,look] at h ⊢
   cases hb:Nat.beq x s with
   | true=>simp only [hb,Option.some.injEq] at h ⊢;subst h;exact .inr ⟨rfl,hk⟩
   | false=>simp only [hb] at h ⊢;exact yhl h
  | false=>
   simp only [hk,look] at h ⊢
   cases hb:Nat.beq x s with
   | true=>simp only [hb,Option.some.injEq] at h ⊢;subst h;exact .inl ⟨rfl,z,rfl⟩
   | false=>simp only [hb] at h ⊢;exact yhl h
section
variable {P:Program} {T:Nat→Option Ty} {N:Nat} {ops:Array Oper} {lf:Oper→Bool} {Q:SS→Prop} {t:List (Nat × AV)} {h:List (Nat × Option LObj)} {rest:List Oper} {d:Nat} {ty:TypeId} {pos:String} {af:Array Edge} {gd:Option (Nat × Bool)} {r:AV}
def zat (l:List Nat):List (Nat × Option LObj)→List (Nat × Option LObj)
 | []=>[]
 | (k,o)::h=>match yll k l with
  | true=>zat l h
  | false=>(k,o)::zat l h
theorem ypa {l:List Nat} {j:Nat} (hj:j ∉ l):∀ h:List (Nat × Option LObj),hlook (zat l h) j=hlook h j
 | []=>rfl
 | (k,o)::h=>by
  simp only [zat]
  cases hm:yll k l with
  | true=>
   have hk:Nat.beq j k=false:=yck fun e=>hj (e ▸ ydg.1 hm)
   simp only [hlook,hk]
   exact ypa hj h
  | false=>
   simp only [hlook]
   cases Nat.beq j k with
   | true=>rfl
   | false=>exact ypa hj h
theorem L_callMG (sg:List (Nat × Nat)) {g:Operand} {args:List Operand} {ats:Array TypeId} {f:FuncId} {caps xs args0:List AV} {hs hs' h':List (Nat × Option LObj)} (hc:ypt P f args0 (hlook hs) r (hlook hs')) (hg:yvc (evF (look t) g) f caps args) (hx:evL (evF (look t)) args=some xs) (hargs:xs++caps=args0.map (yec (ydh sg)))
  (hk:ycq (yau sg)=true) (hv:ycq (ybm sg)=true) (hd1:ymn (yau sg) hs=true) (hd2:ymn (yau sg) hs'=true) (hsub:yrf h (zjs sg hs)) (hr:ydm (yau sg) r=true) (ho:yku (yau sg) hs'=true) (hh:yqh (ybm sg) (zat (ybm sg) h)=some h')
  (hl:lf ⟨some d,.call { callee:=.value g,args:=args.toArray,argTypes:=ats },ty,pos,af,gd⟩=true) (hw:yah ops (look t) ⟨some d,.call { callee:=.value g,args:=args.toArray,argTypes:=ats },ty,pos,af,gd⟩=some true) (hd:Nat.blt d N=true)
  (k:Lex P N ops lf Q rest (S ((d,yec (ydh sg) r)::ylt sg hs' t) (ylp sg hs' sg++h'))):Lex P N ops lf Q (⟨some d,.call { callee:=.value g,args:=args.toArray,argTypes:=ats },ty,pos,af,gd⟩::rest) (S t h):=by
 refine ydi hl hw ?_ k
 refine yox (σ:=ydh sg) (ids:=yau sg) rfl rfl (by simpa using hd) hg hx hargs hc (ytk hv) (yfk hd1) (yfk hd2) (ypo hsub) hr (yhp ho) (fun x y hy=>?_) (fun i hi=>yrp hk hv i hi) (fun j ob' hj hob=>?_)
 ·simp only [S,look] at hy
  cases hb:Nat.beq x d with
  | true=>simp only [hb,Option.some.injEq] at hy;exact .inl ⟨Nat.eq_of_beq_eq_true hb,hy.symm⟩
  | false=>
   simp only [hb] at hy
   refine .inr ⟨fun e=>by subst e;simp at hb,?_⟩
   rcases yhl hy with hq|⟨h1,h2⟩
   ·exact .inl hq
   ·exact .inr ⟨h1,ypf hk h2⟩
 ·have hjv:j ∉ ybm sg:=fun hm=>by
   obtain ⟨i,h1,h2⟩:=ypp hm hk
   exact hj i h1 h2
  simp only [S,yjj hjv] at hob
  obtain ⟨h1,h2⟩:=yjn hh j ob' hob
  rw [ypa hjv] at h2
  exact ⟨fun i hi=>h1 _ (yie hi),h2⟩
theorem yxp (sg:List (Nat × Nat)) {g:Operand} {args:List Operand} {ats:Array TypeId} {f:FuncId} {caps xs args0:List AV} {hs hs' h':List (Nat × Option LObj)} (hc:ypt P f args0 (hlook hs) r (hlook hs')) (hg:evF (look t) g=some (.fn f caps)) (hx:evL (evF (look t)) args=some xs) (hargs:xs++caps=args0.map (yec (ydh sg)))
  (hk:ycq (yau sg)=true) (hv:ycq (ybm sg)=true) (hd1:ymn (yau sg) hs=true) (hd2:ymn (yau sg) hs'=true) (hsub:yrf h (zjs sg hs)) (hr:ydm (yau sg) r=true) (ho:yku (yau sg) hs'=true) (hh:yqh (ybm sg) (zat (ybm sg) h)=some h')
  (hl:lf ⟨some d,.call { callee:=.value g,args:=args.toArray,argTypes:=ats },ty,pos,af,gd⟩=true) (hw:yah ops (look t) ⟨some d,.call { callee:=.value g,args:=args.toArray,argTypes:=ats },ty,pos,af,gd⟩=some true) (hd:Nat.blt d N=true)
  (k:Lex P N ops lf Q rest (S ((d,yec (ydh sg) r)::ylt sg hs' t) (ylp sg hs' sg++h'))):Lex P N ops lf Q (⟨some d,.call { callee:=.value g,args:=args.toArray,argTypes:=ats },ty,pos,af,gd⟩::rest) (S t h):=
 L_callMG sg hc (.inl hg) hx hargs hk hv hd1 hd2 hsub hr ho hh hl hw hd k
end
end
section
open Go.RowKit
section
variable {P:Program} {T:Nat→Option Ty} {N:Nat} {ops:Array Oper} {lf:Oper→Bool} {Q:SS→Prop} {t:List (Nat × AV)} {h:List (Nat × Option LObj)} {rest:List Oper} {d:Nat} {op:Op} {ty:TypeId} {pos:String} {af:Array Edge} {gd:Option (Nat × Bool)} {r:AV}
theorem ylk {ρ:Operand→Option AV} {hp:Nat→Option LObj} {x:Operand} {id off:Nat} {xs:List AV} (hx:ρ x=some (.lp id off)) (hh:yqf (hp id)=some xs):ybu P hp ρ (.nilCheck x) ty (.lp id off):=
 yar fun B ok0 lv w a o ho hty hi' hops=>by
  have hr:=hops x _ (by simp [Op.operands]) hx
  obtain ⟨g1,g2⟩:=yfc hh
  obtain ⟨b,n,hb,hu,_⟩:=ygd hi' g1 g2 hr
  exact ⟨a.eval x,by simp [execOp,ho,hu],hr⟩
theorem L_nilCheck {x:Operand} {id off:Nat} {xs:List AV} (hx:evF (look t) x=some (.lp id off)) (hh:yqf (hlook h id)=some xs) (hw:yah ops (look t) ⟨some d,.nilCheck x,ty,pos,af,gd⟩=some true) (hd:Nat.blt d N=true) (k:Lex P N ops lf Q rest (S ((d,.lp id off)::t) h)):Lex P N ops lf Q (⟨some d,.nilCheck x,ty,pos,af,gd⟩::rest) (S t h):=
 yby (ylk hx hh) hw hd k
end
end
end Go.Proofs.YtfhejdcijbgikaaGreatDoor
