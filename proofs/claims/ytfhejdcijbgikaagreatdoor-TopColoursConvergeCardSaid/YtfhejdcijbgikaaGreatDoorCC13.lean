/- Part 13 of the texts under TopColoursConverge: joined, with what it needs alone. -/
import Derived.Test.YtfhejdcijbgikaaGreatDoorCC5
import Derived.Test.YtfhejdcijbgikaaGreatDoorCC6
import Derived.Test.YtfhejdcijbgikaaGreatDoorCC7
import Derived.Test.YtfhejdcijbgikaaGreatDoorCC8
import Derived.Test.YtfhejdcijbgikaaGreatDoorCC9
import Derived.Test.YtfhejdcijbgikaaGreatDoorCC12
set_option linter.unusedVariables false
namespace Go.Proofs.YtfhejdcijbgikaaGreatDoor
section
open Go.RowKit
abbrev PrD:=Nat × BitVec 32
def yek (s:SpcD) (k:Nat):BitVec 32:=((s[k]?).map (·.1)).getD 0#32
theorem ywv {s:SpcD} {k:Nat} {x:BitVec 32 × List ArcD} (h:s[k]?=some x):yek s k=x.1:=by simp [yek,h]
def zjm (s:SpcD) (p:PrD) (a:ArcD):PrD × Bool:=
 if (p.2 &&& ~~~a.1) &&& yek s a.2.toNat=0#32 then ((a.2.toNat,yek s a.2.toNat),true) else ((a.2.toNat,(p.2 &&& ~~~a.1) &&& yek s a.2.toNat),false)
def yxs (L:List Bool) (Q:List PrD) (p:PrD):List PrD:=if !(L.getD p.1 false) && !(Q.contains p) then Q++[p] else Q
theorem ywp {L:List Bool} {Q:List PrD} {p:PrD}:Q.length≤(yxs L Q p).length∧(yxs L Q p).length≤Q.length+1:=by
 unfold yxs;split <;> simp
structure PrOk (n:Nat) (Q:List PrD):Prop where
 nd:Q.Nodup
 lt:∀ p∈Q,p.1 < n
theorem PrOk.add {n:Nat} {Q:List PrD} (h:PrOk n Q) (L:List Bool) {p:PrD} (hp:p.1 < n):PrOk n (yxs L Q p):=by
 unfold yxs
 split
 ·rename_i hc
  simp only [Bool.and_eq_true,Bool.not_eq_true',List.contains_eq_mem,decide_eq_false_iff_not] at hc
  refine ⟨List.nodup_append.2 ⟨h.nd,by simp,fun x hx y hy e=>?_⟩,fun q hq=>?_⟩
  ·simp only [List.mem_singleton] at hy
   subst hy
   subst e
   exact hc.2 hx
  ·rcases List.mem_append.1 hq with hq|hq
   ·exact h.lt q hq
   ·simp only [List.mem_singleton] at hq;rw [hq];exact hp
 ·exact h
def zle (s:SpcD) (L:List Bool) (p:PrD):List ArcD→List PrD→List PrD
 | [],Q=>Q
 | a::l,Q=>zle s L p l (yxs L Q (zjm s p a).1)
theorem zka (s:SpcD) (p:PrD) (a:ArcD):(zjm s p a).1.1=a.2.toNat:=by unfold zjm;split <;> rfl
theorem yxf {s:SpcD} {L:List Bool} {p:PrD}:∀ {l:List ArcD} {Q:List PrD},∃ Q',zle s L p l Q=Q++Q'
 | [],Q=>⟨[],by simp [zle]⟩
 | a::l,Q=>by
  obtain ⟨Q',h⟩:=yxf (s:=s) (L:=L) (p:=p) (l:=l) (Q:=yxs L Q (zjm s p a).1)
  unfold zle
  rw [h]
  unfold yxs
  split
  ·exact ⟨_,by rw [List.append_assoc]⟩
  ·exact ⟨Q',rfl⟩
theorem zfc {s:SpcD} {L:List Bool} {p:PrD} {n:Nat}:∀ {l:List ArcD} {Q:List PrD},PrOk n Q→(∀ a∈l,a.2.toNat < n)→PrOk n (zle s L p l Q)∧(zle s L p l Q).length≤Q.length+l.length
 | [],Q,h,_=>⟨h,by simp [zle]⟩
 | a::l,Q,h,hl=>by
  obtain ⟨h1,h2⟩:=zfc (s:=s) (L:=L) (p:=p) (l:=l) (h.add L (p:=(zjm s p a).1) (by rw [zka];exact hl a (List.mem_cons_self ..))) fun b hb=>hl b (List.mem_cons_of_mem _ hb)
  have:=ywp (L:=L) (Q:=Q) (p:=(zjm s p a).1)
  exact ⟨h1,by rw [zle,List.length_cons];omega⟩
def ztt (s:SpcD) (L:List Bool):Nat→Nat→List PrD × List (List (BitVec 32))→Option (List (List (BitVec 32)))
 | 0,_,_=>none
 | m+1,i,q=>match q.1[i]? with
  | none=>some q.2
  | some p=>if 262144 < q.1.length then none else ztt s L m (i+1) (zle s L p (yej s p.1) q.1,ylo q.2 p.1 p.2)
def zqj (L:List Bool):Nat→List (BitVec 32)→List PrD→List PrD
 | _,[],Q=>Q
 | k,e::l,Q=>zqj L (k+1) l (yxs L Q (k,e))
def zyn (s:SpcD) (L:List Bool):Option (List (List (BitVec 32))):=ztt s L 262146 0 (zqj L 0 (s.map (·.1)) [],List.replicate s.length [])
theorem zld {L:List Bool} {n:Nat}:∀ {l:List (BitVec 32)} {k:Nat} {Q:List PrD},PrOk n Q→k+l.length≤n→PrOk n (zqj L k l Q)∧(zqj L k l Q).length≤Q.length+l.length
 | [],k,Q,h,_=>⟨h,by simp [zqj]⟩
 | e::l,k,Q,h,hk=>by
  simp only [List.length_cons] at hk
  obtain ⟨h1,h2⟩:=zld (L:=L) (l:=l) (k:=k+1) (h.add L (p:=(k,e)) (by simp only;omega)) (by omega)
  have:=ywp (L:=L) (Q:=Q) (p:=(k,e))
  exact ⟨h1,by rw [zqj,List.length_cons];omega⟩
structure ReaI (n:Nat) (q:List PrD) (i:Nat) (R:List (List (BitVec 32))):Prop where
 len:R.length=n
 row:∀ (k:Nat) (B:BitVec 32),B∈R.getD k []→(k,B)∈q.take i
 nd:∀ k,(R.getD k []).Nodup
 short:∀ k,(R.getD k []).length≤i
theorem ReaI.nil (n:Nat) (q:List PrD):ReaI n q 0 (List.replicate n []):=by
 have e:∀ k,(List.replicate n ([]:List (BitVec 32))).getD k []=[]:=fun k=>by
  rw [List.getD_eq_getElem?_getD,List.getElem?_replicate];split <;> rfl
 exact ⟨by simp,fun k B h=>by rw [e] at h;simp at h,fun k=>by rw [e];simp,fun k=>by rw [e];simp⟩
theorem ReaI.step {n i:Nat} {q q':List PrD} {R:List (List (BitVec 32))} (h:ReaI n q i R) (hq:PrOk n q) {p:PrD} (hp:q[i]?=some p):ReaI n (q++q') (i+1) (ylo R p.1 p.2):=by
 have hi:=(List.getElem?_eq_some_iff.1 hp).1
 have hpn:=hq.lt p (List.mem_of_getElem? hp)
 have ht:(q++q').take (i+1)=q.take i++[p]:=by rw [List.take_append_of_le_length (by omega),ybc hp]
 have hg:∀ k,(ylo R p.1 p.2).getD k []=if p.1=k then R.getD p.1 []++[p.2] else R.getD k []:=fun k=>by
  unfold ylo
  rw [ypd]
  by_cases e:p.1=k
  ·rw [if_pos ⟨e,by rw [h.len];exact hpn⟩,if_pos e]
  ·rw [if_neg (fun c=>e c.1),if_neg e]
 have hnew:(p.1,p.2) ∉ q.take i:=fun hm=>by
  obtain ⟨j,hj,hje⟩:=List.mem_take_iff_getElem.1 hm
  have hj1:j < i:=by omega
  have:=(List.pairwise_iff_getElem.1 hq.nd) j i (by omega) hi hj1
  rw [(List.getElem?_eq_some_iff.1 hp).2] at this
  exact this hje
 refine ⟨by simp [ylo,h.len],fun k B hB=>?_,fun k=>?_,fun k=>?_⟩
 ·rw [ht]
  rw [hg] at hB
  split at hB
  ·rename_i e
   subst e
   rcases List.mem_append.1 hB with hB|hB
   ·exact List.mem_append_left _ (h.row _ B hB)
   ·simp only [List.mem_singleton] at hB;subst hB;simp
  ·exact List.mem_append_left _ (h.row k B hB)
 ·rw [hg]
  split
  ·refine List.nodup_append.2 ⟨h.nd _,by simp,fun x hx y hy e=>?_⟩
   simp only [List.mem_singleton] at hy
   subst hy
   subst e
   exact hnew (h.row _ _ hx)
  ·exact h.nd k
 ·rw [hg]
  split
  ·have:=h.short p.1;simp only [List.length_append,List.length_singleton];omega
  ·have:=h.short k;omega
theorem ztu {s:SpcD} {L:List Bool} (hs:∀ (k:Nat) (a:ArcD),a∈yej s k→a.2.toNat < s.length):∀ {m i:Nat} {q:List PrD × List (List (BitVec 32))} {R:List (List (BitVec 32))},PrOk s.length q.1→ReaI s.length q.1 i q.2→i≤262145→ztt s L m i q=some R→∃ Q i,PrOk s.length Q∧ReaI s.length Q i R∧i≤262145
 | 0,i,q,R,_,_,_,h=>by simp [ztt] at h
 | m+1,i,q,R,h1,h2,hi,h=>by
  unfold ztt at h
  split at h
  ·cases h;exact ⟨q.1,i,h1,h2,hi⟩
  ·rename_i p hp
   split at h
   ·cases h
   ·rename_i hle
    obtain ⟨Q',hQ⟩:=yxf (s:=s) (L:=L) (p:=p) (l:=yej s p.1) (Q:=q.1)
    have:=(List.getElem?_eq_some_iff.1 hp).1
    refine ztu hs (zfc h1 fun a ha=>hs p.1 a ha).1 ?_ (by omega) h
    simp only [hQ]
    exact h2.step h1 hp
def zli (M:List (PrD × Nat)) (p:PrD):Nat:=(M.lookup p).getD 0
def zwz (s:SpcD) (L:List Bool) (M:List (PrD × Nat)) (p:PrD):List ArcD→Nat→Nat
 | [],m=>m
 | a::l,m=>zwz s L M p l (if L.getD a.2.toNat false then m else if (zjm s p a).2 then max m (1+zli M (zjm s p a).1) else max m (zli M (zjm s p a).1))
def zxa (s:SpcD) (L:List Bool) (k:Nat):List (BitVec 32)→List (PrD × Nat)→List (PrD × Nat)
 | [],M=>M
 | B::l,M=>zxa s L k l (M++[((k,B),zwz s L M (k,B) (yej s k) 1)])
def zfg (s:SpcD) (L:List Bool) (R:List (List (BitVec 32))):List Nat→List (PrD × Nat)→List (PrD × Nat)
 | [],M=>M
 | k::o,M=>zfg s L R o (zxa s L k (R.getD k []) M)
def zyp (L:List Bool) (M:List (PrD × Nat)) (s:SpcD):List Nat:=s.mapIdx fun k x=>if L.getD k false then 0 else zli M (k,x.1)
def xap (s:SpcD) (L:List Bool):Option (List Nat) ⊕ Unit:=
 if (ytc s L).length < L.length then .inl none else match zyn s L with
  | none=>.inr ()
  | some R=>.inl (some (zyp L (zfg s L R (ytc s L) []) s))
structure RndOk (n:Nat) (M:List (PrD × Nat)) (dn:PrD→Prop):Prop where
 nd:(M.map (·.1)).Nodup
 key:∀ e∈M,dn e.1∧e.1.1 < n
 bd:∀ e∈M,e.2≤M.length
theorem rndG_le {n:Nat} {M:List (PrD × Nat)} {dn:PrD→Prop} (h:RndOk n M dn) (p:PrD):zli M p≤M.length:=by
 unfold zli
 cases hl:M.lookup p with
 | none=>simp
 | some v=>
  obtain ⟨l1,l2,e,_⟩:=List.lookup_eq_some_iff.1 hl
  exact h.bd (p,v) (by rw [e];simp)
theorem rndG_at {n:Nat} {M:List (PrD × Nat)} {dn:PrD→Prop} (h:RndOk n M dn) {e:PrD × Nat} (he:e∈M):zli M e.1=e.2:=by
 unfold zli
 cases hl:M.lookup e.1 with
 | none=>(have:=List.lookup_eq_none_iff.1 hl e he;simp at this)
 | some v=>
  obtain ⟨l1,l2,e1,_⟩:=List.lookup_eq_some_iff.1 hl
  have hv:(e.1,v)∈M:=by rw [e1];simp
  have hu:∀ (l:List (PrD × Nat)),(l.map (·.1)).Nodup→∀ x∈l,∀ y∈l,x.1=y.1→x=y:=by
   intro l
   induction l with
   | nil=>intro _ x hx;cases hx
   | cons a l ih=>
    intro hn x hx y hy e
    simp only [List.map_cons,List.nodup_cons] at hn
    rcases List.mem_cons.1 hx with hx|hx <;> rcases List.mem_cons.1 hy with hy|hy
    ·rw [hx,hy]
    ·exact absurd (List.mem_map.2 ⟨y,hy,by rw [← e,hx]⟩) hn.1
    ·exact absurd (List.mem_map.2 ⟨x,hx,by rw [e,hy]⟩) hn.1
    ·exact ih hn.2 x hx y hy e
  have:=hu M h.nd _ hv e he rfl
  rw [Option.getD_some,← this]
theorem rndG_no {M:List (PrD × Nat)} {p:PrD} (h:∀ e∈M,e.1≠p):zli M p=0:=by
 unfold zli
 cases hl:M.lookup p with
 | none=>rfl
 | some v=>
  obtain ⟨l1,l2,e,_⟩:=List.lookup_eq_some_iff.1 hl
  exact absurd rfl (h (p,v) (by rw [e];simp))
theorem RndOk.add {n:Nat} {M:List (PrD × Nat)} {dn dn':PrD→Prop} (h:RndOk n M dn) {p:PrD} {m:Nat} (hm:m≤M.length+1) (hn:¬ dn p) (hp:dn' p) (hlt:p.1 < n) (hd:∀ q,dn q→dn' q):RndOk n (M++[(p,m)]) dn':=by
 refine ⟨?_,fun e he=>?_,fun e he=>?_⟩
 ·rw [List.map_append]
  refine List.nodup_append.2 ⟨h.nd,by simp,fun x hx y hy e=>?_⟩
  obtain ⟨z,hz,rfl⟩:=List.mem_map.1 hx
  simp only [List.map_cons,List.map_nil,List.mem_singleton] at hy
  rw [hy] at e
  exact hn (e ▸ (h.key z hz).1)
 ·rcases List.mem_append.1 he with he|he
  ·exact ⟨hd _ (h.key e he).1,(h.key e he).2⟩
  ·simp only [List.mem_singleton] at he;rw [he];exact ⟨hp,hlt⟩
 ·rcases List.mem_append.1 he with he|he
  ·have:=h.bd e he;simp only [List.length_append,List.length_singleton];omega
  ·simp only [List.mem_singleton] at he;rw [he];simpa using hm
theorem RndOk.mono {n:Nat} {M:List (PrD × Nat)} {dn dn':PrD→Prop} (h:RndOk n M dn) (hd:∀ q,dn q→dn' q):RndOk n M dn':=⟨h.nd,fun e he=>⟨hd _ (h.key e he).1,(h.key e he).2⟩,h.bd⟩
theorem rea_rows {s:SpcD} {L:List Bool} (hs:∀ (k:Nat) (a:ArcD),a∈yej s k→a.2.toNat < s.length) (hn:s.length≤32768) {R:List (List (BitVec 32))} (h:zyn s L=some R):R.length=s.length∧∀ k,(R.getD k []).Nodup∧(R.getD k []).length≤262145:=by
 have h0:=zld (L:=L) (n:=s.length) (l:=s.map (·.1)) (k:=0) (Q:=[]) ⟨List.nodup_nil,fun p hp=>by cases hp⟩ (by simp)
 obtain ⟨Q,i,h1,h2,h3⟩:=ztu hs h0.1 (ReaI.nil _ _) (Nat.zero_le _) h
 exact ⟨h2.len,fun k=>⟨h2.nd k,Nat.le_trans (h2.short k) h3⟩⟩
end
set_option maxHeartbeats 4000000
section
open Go.RowKit
def zsu (sg:List (Nat × Nat)) (hs':List (Nat × Option LObj)) (y:AV):Bool:=match zkq sg hs' y with
 | true=>true
 | false=>match y with
  | .fn _ cs=>cs.all fun c=>match c with
   | .lp j _=>yyh hs' j sg
   | _=>false
  | _=>false
theorem keepF_spec {sg:List (Nat × Nat)} {hs':List (Nat × Option LObj)} {y:AV} (hn:ycq (yau sg)=true) (h:zsu sg hs' y=true):zzb (ydh sg) (yau sg) (hlook hs') y∨zzr (ydh sg) (yau sg) (hlook hs') y:=by
 unfold zsu at h
 cases hk:zkq sg hs' y with
 | true=>exact .inl (ypf hn hk)
 | false=>
  rw [hk] at h
  cases y with
  | fn f cs=>
   refine .inr ⟨f,cs,rfl,fun c hc=>?_⟩
   have:=List.all_eq_true.1 h c hc
   cases c with
   | lp j off=>
    obtain ⟨i,h1,h2,o,h3,h4⟩:=ymo hn this
    exact ⟨i,h1,off,o,by rw [h2],h3,h4⟩
   | _=>cases this
  | _=>cases h
def yvm (sg:List (Nat × Nat)) (hs':List (Nat × Option LObj)):List (Nat × AV)→List (Nat × AV)
 | []=>[]
 | (s,x)::t=>match zsu sg hs' x with
  | true=>(s,x)::yvm sg hs' t
  | false=>(s,.any)::yvm sg hs' t
theorem yqx {sg:List (Nat × Nat)} {hs':List (Nat × Option LObj)}:∀ {t:List (Nat × AV)} {x:Nat} {y:AV},look (yvm sg hs' t) x=some y→(y=.any∧∃ z,look t x=some z)∨(look t x=some y∧zsu sg hs' y=true)
 | [],x,y,h=>by simp [yvm,look] at h
 | (s,z)::t,x,y,h=>by
  simp only [yvm] at h
  cases hk:zsu sg hs' z with
  | true=>
   simp only [hk,look] at h ⊢
   cases hb:Nat.beq x s with
   | true=>simp only [hb,Option.some.injEq] at h ⊢;subst h;exact .inr ⟨rfl,hk⟩
   | false=>simp only [hb] at h ⊢;exact yqx h
  | false=>
   simp only [hk,look] at h ⊢
   cases hb:Nat.beq x s with
   | true=>simp only [hb,Option.some.injEq] at h ⊢;subst h;exact .inl ⟨rfl,z,rfl⟩
   | false=>simp only [hb] at h ⊢;exact yqx h
section
variable {P:Program} {N:Nat} {ops:Array Oper} {lf:Oper→Bool} {Q:SS→Prop} {t:List (Nat × AV)} {rest:List Oper} {d:Nat} {ty:TypeId} {pos:String} {af:Array Edge} {gd:Option (Nat × Bool)} {r:AV}
theorem zrd (sg:List (Nat × Nat)) {g:Operand} {args:List Operand} {ats:Array TypeId} {f:FuncId} {caps xs args0:List AV} {hs hs' h h2:List (Nat × Option LObj)} (hc:ypt P f args0 (hlook hs) r (hlook hs')) (hg:yvc (evF (look t) g) f caps args) (hx:evL (evF (look t)) args=some xs) (hargs:xs++caps=args0.map (yec (ydh sg)))
  (hk:ycq (yau sg)=true) (hv:ycq (ybm sg)=true) (hd1:ymn (yau sg) hs=true) (hd2:ymn (yau sg) hs'=true) (hsub:yrf h (zjs sg hs)) (hr:ydm (yau sg) r=true) (ho:yku (yau sg) hs'=true)
  (hl:lf ⟨some d,.call { callee:=.value g,args:=args.toArray,argTypes:=ats },ty,pos,af,gd⟩=true) (hw:yah ops (look t) ⟨some d,.call { callee:=.value g,args:=args.toArray,argTypes:=ats },ty,pos,af,gd⟩=some true) (hd:Nat.blt d N=true)
  (hh:∀ j ob',j ∉ ybm sg→hlook h2 j=some ob'→(∀ v∈ybm sg,yez v ob'=false)∧∃ ob,hlook h j=some ob∧ylb ob ob')
  (k:Lex P N ops lf Q rest (S ((d,yec (ydh sg) r)::yvm sg hs' t) (ylp sg hs' sg++h2))):Lex P N ops lf Q (⟨some d,.call { callee:=.value g,args:=args.toArray,argTypes:=ats },ty,pos,af,gd⟩::rest) (S t h):=by
 refine ydi hl hw ?_ k
 refine yua (σ:=ydh sg) (ids:=yau sg) (kp:=[]) rfl rfl (by simpa using hd) hg hx hargs hc.toG (ytk hv) (yfk hd1) (yfk hd2) (ypo hsub) hr (yhp ho) (fun x y hy=>?_) (fun i hi=>yrp hk hv i hi) (fun j ob' hj hob=>?_)
 ·simp only [S,look] at hy
  cases hb:Nat.beq x d with
  | true=>simp only [hb,Option.some.injEq] at hy;exact .inl ⟨Nat.eq_of_beq_eq_true hb,hy.symm⟩
  | false=>
   simp only [hb] at hy
   refine .inr ⟨fun e=>by subst e;simp at hb,?_⟩
   rcases yqx hy with hq|⟨h1,h2⟩
   ·exact .inl hq
   ·exact .inr ⟨h1,(keepF_spec hk h2).imp id fun h=>.inr h⟩
 ·have hjv:j ∉ ybm sg:=fun hm=>by
   obtain ⟨i,h1,h2⟩:=ypp hm hk
   exact hj i h1 h2
  simp only [S,yjj hjv] at hob
  obtain ⟨h1,h2⟩:=hh j ob' hjv hob
  exact ⟨fun i hi=>h1 _ (yie hi),h2⟩
theorem L_callF (sg:List (Nat × Nat)) {g:Operand} {args:List Operand} {ats:Array TypeId} {f:FuncId} {caps xs args0:List AV} {hs hs' h h':List (Nat × Option LObj)} (hc:ypt P f args0 (hlook hs) r (hlook hs')) (hg:evF (look t) g=some (.fn f caps)) (hx:evL (evF (look t)) args=some xs) (hargs:xs++caps=args0.map (yec (ydh sg)))
  (hk:ycq (yau sg)=true) (hv:ycq (ybm sg)=true) (hd1:ymn (yau sg) hs=true) (hd2:ymn (yau sg) hs'=true) (hsub:yrf h (zjs sg hs)) (hr:ydm (yau sg) r=true) (ho:yku (yau sg) hs'=true) (hh:yqh (ybm sg) (zat (ybm sg) h)=some h')
  (hl:lf ⟨some d,.call { callee:=.value g,args:=args.toArray,argTypes:=ats },ty,pos,af,gd⟩=true) (hw:yah ops (look t) ⟨some d,.call { callee:=.value g,args:=args.toArray,argTypes:=ats },ty,pos,af,gd⟩=some true) (hd:Nat.blt d N=true)
  (k:Lex P N ops lf Q rest (S ((d,yec (ydh sg) r)::yvm sg hs' t) (ylp sg hs' sg++h'))):Lex P N ops lf Q (⟨some d,.call { callee:=.value g,args:=args.toArray,argTypes:=ats },ty,pos,af,gd⟩::rest) (S t h):=
 zrd sg hc (.inl hg) hx hargs hk hv hd1 hd2 hsub hr ho hl hw hd (fun j ob' hj hob=>by
  obtain ⟨h1,h2⟩:=yjn hh j ob' hob
  rw [ypa hj] at h2
  exact ⟨h1,h2⟩) k
theorem L_callT (sg:List (Nat × Nat)) {g:Operand} {args:List Operand} {ats:Array TypeId} {f:FuncId} {caps xs args0:List AV} {hs hs' fr fr':List (Nat × Option LObj)} {M sz:Nat} {rows:List (List AV)} (hc:ypt P f args0 (hlook hs) r (hlook hs')) (hg:evF (look t) g=some (.fn f caps)) (hx:evL (evF (look t)) args=some xs) (hargs:xs++caps=args0.map (yec (ydh sg)))
  (hk:ycq (yau sg)=true) (hv:ycq (ybm sg)=true) (hd1:ymn (yau sg) hs=true) (hd2:ymn (yau sg) hs'=true) (hsub:yrf (fr++yce M sz rows []) (zjs sg hs)) (hr:ydm (yau sg) r=true) (ho:yku (yau sg) hs'=true) (hh:yqh (ybm sg) (zat (ybm sg) fr)=some fr')
  (hf:zel fr=true) (hkey:(fr.all fun x=>!Nat.beq x.1 M)=true) (hM:Nat.blt M 1000000=true) (hvM:((ybm sg).all fun v=>Nat.blt v 1000000)=true)
  (hl:lf ⟨some d,.call { callee:=.value g,args:=args.toArray,argTypes:=ats },ty,pos,af,gd⟩=true) (hw:yah ops (look t) ⟨some d,.call { callee:=.value g,args:=args.toArray,argTypes:=ats },ty,pos,af,gd⟩=some true) (hd:Nat.blt d N=true)
  (k:Lex P N ops lf Q rest (S ((d,yec (ydh sg) r)::yvm sg hs' t) (ylp sg hs' sg++(fr'++yce M sz rows [])))):Lex P N ops lf Q (⟨some d,.call { callee:=.value g,args:=args.toArray,argTypes:=ats },ty,pos,af,gd⟩::rest) (S t (fr++yce M sz rows [])):=by
 have hM':M < 1000000:=by simpa using hM
 have hvl:∀ v∈ybm sg,v < 1000000:=fun v hv=>by simpa using List.all_eq_true.1 hvM v hv
 refine zrd sg hc (.inl hg) hx hargs hk hv hd1 hd2 hsub hr ho hl hw hd (fun j ob' hj hob=>?_) k
 rcases ysf (f:=fr') (M:=M) (o:=yhc (yev M sz 0 rows++[])) (rows:=rows) hob with g1|⟨rfl,_,rfl⟩|⟨i,r',rfl,hr',rfl⟩
 ·obtain ⟨h1,ob,h2,h3⟩:=yjn hh j ob' g1
  rw [ypa hj] at h2
  exact ⟨h1,ob,ydy h2,h3⟩
 ·refine ⟨fun v hv=>?_,_,ybt hkey,.inl rfl⟩
  rw [yiz]
  refine ykr fun x hx=>?_
  rw [List.append_nil] at hx
  obtain ⟨i',n,rfl⟩:=znu hx
  exact yck fun e=>by have:=hvl v hv;have:=ydw j (0+i');omega
 ·exact ⟨fun v _=>rfl,_,ylh hf hM' hr',.inl rfl⟩
end
end
set_option maxRecDepth 100000
set_option maxHeartbeats 8000000
section
open Go.RowKit Go.Maps Go.WideMaps
theorem keyOf_two {P : Program} {k : TypeId} {f g : Field} {q r : IntKind} (hu : P.underlying k = some (.struct #[f, g])) (hkt : P.keyType k = true) (hf : P.underlying f.type = some (.int q)) (hg : P.underlying g.type = some (.int r)) (nf : f.name != "_") (ng : g.name != "_") (o0 : f.offset = 0) (o1 : g.offset = 1) (c1 : P.cellsOf f.type = 1) (c2 : P.cellsOf g.type = 1) (c : P.cellsOf k = 2) (hsz : ∃ m, P.types.size = m + 1) {a b : Int} (wa : (Lit.int q a).wf = true) (wb : (Lit.int r b).wf = true) :
  ∃ l,keyOf P k (.agg #[.int q a,.int r b])=some l:=by
 obtain ⟨m,hm⟩:=hsz
 refine ⟨.string (keyBytes [.int q a,.int r b]),?_⟩
 unfold keyOf
 simp only [hu]
 rw [if_pos (by simp [hkt,Value.formed,hu,c]),hm]
 unfold Program.keyLits
 simp only [hu,Value.cells]
 rw [if_pos ⟨by rw [c];rfl,by simp [nf,ng]⟩]
 simp only [List.mapM_cons,List.mapM_nil,o0,o1,c1,c2]
 simp [Program.keyLits,hf,hg,wa,wb]
theorem yuj:Keyed Tryz.prog 210:=Keyed.of_law (deep_law_laid xab (m:=2) (by omega) (of_decide_eq_true (by kernel_rfl)) (by kernel_rfl) (by rw [Tryz.underlying210]))
def yia (p:PrD):List AV:=[i64 p.1,ybi p.2]
def zsw (p:PrD):Value:=.agg #[.int .i64 (p.1:Nat),.int .u32 (p.2.toNat:Nat)]
theorem ysl {p q:PrD} (h:zsw p=zsw q):p=q:=by
 obtain ⟨a,b⟩:=p
 obtain ⟨c,d⟩:=q
 unfold zsw at h
 simp at h
 have h2:b=d:=BitVec.eq_of_toNat_eq (by omega)
 have h1:a=c:=by omega
 rw [h1,h2]
theorem yms {p:PrD} (h:p.1≤32768):∃ l,keyOf Tryz.prog 210 (zsw p)=some l:=by
 have e1:IntKind.i64.min=-9223372036854775808:=by decide
 have e2:IntKind.i64.max=9223372036854775807:=by decide
 have e3:IntKind.u32.min=0:=by decide
 have e4:IntKind.u32.max=4294967295:=by decide
 refine keyOf_two Tryz.underlying210 (by kernel_rfl) Tryz.underlying3 Tryz.underlying50 (by decide) (by decide) rfl rfl (by kernel_rfl) (by kernel_rfl) (by kernel_rfl) zpl ?_ ?_
 ·simp only [Lit.wf,Bool.and_eq_true,decide_eq_true_eq];omega
 ·have:=p.2.isLt
  simp only [Lit.wf,Bool.and_eq_true,decide_eq_true_eq];omega
def aftA (r:PrD × Bool):AV:=.tup [.agg (yia r.1),ybq r.2]
theorem zgc {s:SpcD} (h:SpcOk s) (p:PrD) (a:ArcD) (ha:0≤a.2∧a.2 < s.length):Con Tryz.prog 135 [ynx s,.agg (yia p),.agg (ynw a)] (aftA (zjm s p a)):=by
 obtain ⟨h1,h2,h3,h4⟩:=h
 obtain ⟨B,to,rfl⟩:∃ (B:BitVec 32) (to:Nat),a=(B,(to:Int)):=⟨a.1,a.2.toNat,by rw [Int.toNat_of_nonneg ha.1]⟩
 have hto:to < s.length:=by simpa using ha.2
 obtain ⟨y,hy⟩:=ycd hto
 have hyg:(s.map (·.1))[to]?=some y.1:=by rw [List.getElem?_map,hy];rfl
 have hv:zjm s p (B,(to:Int))=if (p.2 &&& ~~~B) &&& y.1=0#32 then ((to,y.1),true) else ((to,(p.2 &&& ~~~B) &&& y.1),false):=by simp only [zjm,Int.toNat_natCast,ywv hy]
 refine yge tok Tryz.func135 rfl rfl Tryz.ntmps135 Tryz.results135 rfl rfl ?_
 (repeat (first|refine yfr tok rfl (by constructor <;> omega) rfl rfl ?_|refine ycv rfl rfl (by omega) rfl rfl ?_|refine ydj rfl rfl (by omega) rfl rfl ?_|refine yfq rfl rfl rfl rfl ?_|refine ycw rfl rfl rfl rfl ?_|refine ydp rfl rfl rfl rfl ?_|refine yaz rfl rfl rfl rfl ?_|refine zI ?_|refine zL ?_|refine zC ?_|refine ycu ?_|refine yco ?_|refine zR ?_|refine zD ?_|refine zK ?_|refine zB ?_|refine zA ?_|refine zS ?_|refine zU ?_|refine zV ?_|refine zF ?_|refine zN ?_|with_reducible refine yat ?_|with_reducible refine ybg ?_|refine ybh ?_|refine ybf ?_|refine ybp ?_|refine zT ?_|refine zE ?_|refine zX ?_))
 refine yac rfl (fun q1=>?_) (fun q1=>?_)
 ·rw [yfo] at q1
  rw [hv,if_pos (by simpa using q1)]
  (try refine zy ?_)
  refine yaf ?_;refine ⟨_,rfl,?_⟩
  exact Frz.pure
 ·rw [yfo] at q1
  rw [hv,if_neg (by simpa using q1)]
  (try refine zy ?_)
  refine yaf ?_;refine ⟨_,rfl,?_⟩
  exact Frz.pure
def zwp (Q:List PrD):List (Value × Value):=Q.map fun p=>(zsw p,Value.bool true)
def zxw (L:List Bool) (Q:List PrD):List (Nat × Option LObj):=[(1001,some (.cells [ykf L])),(1002,some (.cells [.mp 1004])),(1003,some (.cells [.ls 1005 2 Q.length])),(1004,some (.map (zwp Q))),(1005,some (.vec (Q.map yia).flatten))]
theorem mapQ_found {Q:List PrD} {p:PrD}:Found (.bool false) (zwp Q) (zsw p) (.bool (Q.contains p)) (Q.contains p):=by
 cases hc:Q.contains p with
 | true=>
  have hm:p∈Q:=by simpa using hc
  refine .hit ⟨_,List.mem_map.2 ⟨p,hm,rfl⟩,rfl⟩ fun e he _=>?_
  obtain ⟨q,_,rfl⟩:=List.mem_map.1 he
  rfl
 | false=>
  have hm:p ∉ Q:=by simpa using hc
  refine .miss fun e he hk=>?_
  obtain ⟨q,hq,rfl⟩:=List.mem_map.1 he
  exact hm (ysl hk ▸ hq)
theorem zeroB:∀ w,(zeroValue 4).run Tryz.prog w=.ok (.bool false) w:=fun w=>by kernel_rfl
theorem ziq (Q:List PrD):(Q.map yia).flatten.length=Q.length * 2:=by
 rw [yxl (k:=2) (fun x=>rfl)]
theorem add_cl {L:List Bool} {Q Q':List PrD} {N:Nat} (hN:Nat.ble N 1001=true):∀ id o,hlook (zxw L Q') id=some o→isC o=true→N≤id∧∃ o',hlook (zxw L Q) id=some o'∧isC o'=true:=by
 intro id o ho hc
 simp only [Nat.ble_eq] at hN
 simp only [zxw,hlook] at ho ⊢
 cases h1:Nat.beq id 1001 with
 | true=>have:=Nat.eq_of_beq_eq_true h1;exact ⟨by omega,_,rfl,rfl⟩
 | false=>
  simp only [h1] at ho ⊢
  cases h2:Nat.beq id 1002 with
  | true=>have:=Nat.eq_of_beq_eq_true h2;exact ⟨by omega,_,rfl,rfl⟩
  | false=>
   simp only [h2] at ho ⊢
   cases h3:Nat.beq id 1003 with
   | true=>have:=Nat.eq_of_beq_eq_true h3;exact ⟨by omega,_,rfl,rfl⟩
   | false=>
    simp only [h3] at ho ⊢
    repeat' split at ho
    all_goals first|(cases ho;done)|(cases ho;cases hc)
theorem zmd {L:List Bool} {Q:List PrD} {p:PrD} (hp:p.1 < L.length) (hL:L.length≤32768) (hQ:PrOk L.length Q) (hl:Q.length≤1000000):ypt Tryz.prog 194 [.agg (yia p),.lp 1001 0,.lp 1002 0,.lp 1003 0] (hlook (zxw L Q)) (.tup []) (hlook (zxw L (yxs L Q p))):=by
 obtain ⟨b,hb⟩:=ycd hp
 have hfl:=ziq Q
 have hv:yxs L Q p=if !b && !(Q.contains p) then Q++[p] else Q:=by simp only [yxs,List.getD_eq_getElem?_getD,hb,Option.getD_some]
 have hks:∀ e∈zwp Q,∃ l,keyOf Tryz.prog 210 e.1=some l:=fun e he=>by
  obtain ⟨q,hq,rfl⟩:=List.mem_map.1 he
  exact yms (by have:=hQ.lt q hq;omega)
 obtain ⟨kl,hkl⟩:=yms (p:=p) (by omega)
 refine yud tok Tryz.func194 rfl rfl Tryz.ntmps194 Tryz.results194 rfl (add_cl rfl) ?_
 show A _ _ _ _ (S _ _)
 (try refine zy ?_)
 have hmu:∀ e∈zwp Q,e.1=zsw p→Q.contains p=true:=fun e he hk=>by
  obtain ⟨q,hq,rfl⟩:=List.mem_map.1 he
  rw [← ysl hk]
  simpa using hq
 refine yax 11 rfl (fun q1=>?_) (fun q1=>?_)
 ·have hb0:b=false:=by simpa using q1
  (repeat (first|refine zy ?_|refine yhh Tryz.underlying275 yuj rfl rfl rfl rfl hks hkl zeroB mapQ_found rfl rfl ?_))
  refine yac rfl (fun q2=>?_) (fun q2=>?_)
  ·have hc:Q.contains p=false:=by simpa using q2
   have e:yxs L Q p=Q++[p]:=by rw [hv,if_pos (by rw [hb0,hc];rfl)]
   rw [e]
   (repeat (first|refine zy ?_|refine yqr Tryz.underlying275 yuj rfl rfl rfl rfl rfl rfl hks hkl (fun e he hk=>by rw [hmu e he hk] at hc;cases hc) rfl rfl ?_|refine ykh tok rfl rfl rfl hfl rfl (by simp [yap,i64,ybi]) (by simp;omega) rfl rfl rfl rfl rfl ?_))
   have ea:zxw L (Q++[p])=[(1001,some (.cells [ykf L])),(1002,some (.cells [.mp 1004])),(1003,some (.cells [.ls 1005 2 (Q.length+1)])),(1004,some (.map (zwp Q++[(zsw p,.bool true)]))),(1005,some (.vec ((Q.map yia).flatten++yia p)))]:=by simp [zxw,zwp]
   rw [ea]
   exact ⟨_,rfl,yfu _,yag (yab rfl (yab rfl (yab rfl (yab rfl (yab rfl yae)))))⟩
  ·have hc:Q.contains p=true:=by simpa using q2
   have e:yxs L Q p=Q:=by rw [hv,if_neg (by rw [hc];simp)]
   rw [e]
   (try refine zy ?_)
   exact ⟨_,rfl,yfu _,yag (yab rfl (yab rfl (yab rfl (yab rfl (yab rfl yae)))))⟩
 ·have hb0:b=true:=by simpa using q1
  have e:yxs L Q p=Q:=by rw [hv,if_neg (by rw [hb0];simp)]
  rw [e]
  (try refine zy ?_)
  exact ⟨_,rfl,yfu _,yag (yab rfl (yab rfl (yab rfl (yab rfl (yab rfl yae)))))⟩
end
section
open Go.RowKit Go.Maps Go.WideMaps
def xaz (R:List (List (BitVec 32))):AV:=.sl 1 (R.map fun r=>[yrk r])
def yoi (R:List (List (BitVec 32))):List (List AV):=R.map fun r=>r.map ybi
def xcm:Option (List (List (BitVec 32)))→AV
 | some R=>.tup [xaz R,i64 0]
 | none=>.tup [.sl 1 [],i64 3]
theorem reaR_pure:∀ o,yap (xcm o)=true
 | some l=>rfl
 | none=>rfl
def zcs (s:SpcD) (L:List Bool) (Q:List PrD):List (Nat × Option LObj):=[(3,some (.cells [ykf L])),(6,some (.cells [.mp 18])),(7,some (.cells [.ls 61 2 Q.length])),(18,some (.map (zwp Q))),(61,some (.vec (Q.map yia).flatten)),(2,some (zvt s))]
def zts:AV:=.fn 194 [.lp 3 0,.lp 6 0,.lp 7 0]
theorem reachable_con {s:SpcD} (h:SpcOk s) {L:List Bool} (hl:L.length=s.length):Con Tryz.prog 134 [ynx s,ykf L] (xcm (zyn s L)):=by
 have hok:=h
 obtain ⟨h1,h2,h3,h4⟩:=h
 refine yao Tryz.func134 rfl rfl Tryz.ntmps134 Tryz.results134 rfl (reaR_pure _) ?_
 (repeat (first|refine zy ?_|refine yxq rfl rfl rfl rfl rfl ?_))
 refine zt ?_
 refine zly 7 0 61 2 rfl rfl rfl rfl rfl ?_
 have hsl:(s.map (·.1)).length=s.length:=List.length_map ..
 refine ycn (α:=Nat × List PrD) (fun q=>[(23,i64 q.1),(22,i64 s.length),(21,yrk (s.map (·.1))),(8,zts),(2,.lp 2 0),(3,.lp 3 0),(6,.lp 6 0),(7,.lp 7 0)]) (fun q=>zcs s L q.2) (fun q=>s.length - q.1) (fun q=>q.1≤s.length∧PrOk L.length q.2∧q.2.length≤q.1∧zqj L q.1 ((s.map (·.1)).drop q.1) q.2=zqj L 0 (s.map (·.1)) []) (0,[]) ⟨by omega,⟨List.nodup_nil,fun p hp=>by cases hp⟩,by simp,rfl⟩ (by rw [← hsl];exact zs) (yag (yab rfl (yab rfl (yab rfl (yab rfl (yab rfl (yab rfl yae))))))) ?_
 rintro ⟨k,Q⟩ ⟨hk,hQ,hQl,hF⟩
 simp only at hk hQ hQl hF ⊢
 (try refine zy ?_)
 refine yac rfl (fun q1=>?_) (fun q1=>?_)
 ·simp at q1
  obtain ⟨x,hx⟩:=ycd q1
  have hx1:(s.map (·.1))[k]?=some x.1:=by rw [List.getElem?_map,hx];rfl
  have hdr:(s.map (·.1)).drop k=x.1::(s.map (·.1)).drop (k+1):=by rw [List.drop_eq_getElem_cons (by rw [hsl];exact q1)];congr 1;exact Option.some.inj ((List.getElem?_eq_getElem (by rw [hsl];exact q1)).symm.trans hx1)
  rw [hdr,zqj] at hF
  have hadd:=zmd (L:=L) (Q:=Q) (p:=(k,x.1)) (by simp only;omega) (by omega) hQ (by omega)
  have hal:=ywp (L:=L) (Q:=Q) (p:=(k,x.1))
  (repeat (first|refine zy ?_|refine L_callF [(1001,3),(1002,6),(1003,7),(1004,18),(1005,61)] hadd rfl rfl rfl rfl rfl rfl rfl (yab rfl (yab rfl (yab rfl (yab rfl (yab rfl yae))))) rfl rfl rfl rfl rfl rfl ?_))
  refine yir (k+1,yxs L Q (k,x.1)) ⟨by simp only;omega,hQ.add L (by simp only;omega),by simp only;omega,hF⟩ (by simp only;omega) (by exact zs) (yag (yab rfl (yab rfl (yab rfl (yab rfl (yab rfl (yab rfl yae)))))))
 simp at q1
 obtain rfl:k=s.length:=by omega
 rw [show (s.map (·.1)).drop s.length=[] by rw [← hsl,List.drop_length],zqj] at hF
 have hRF:zyn s L=ztt s L 262146 0 (Q,List.replicate s.length []):=by unfold zyn;rw [← hF]
 rw [hRF]
 (repeat (first|refine zy ?_|refine ylm tok rfl rfl rfl rfl (by constructor <;> omega) rfl rfl rfl rfl rfl ?_))
 rw [hl] at hQ ⊢
 refine ynl 36 (List.replicate s.length yga) rfl (zlg _ _) ?_
 refine ypz (t':=[(12,i64 (0:Nat)),(11,.ls 36 1 s.length),(8,zts),(2,.lp 2 0),(3,.lp 3 0),(6,.lp 6 0),(7,.lp 7 0)]) (h':=zcs s L Q++[(36,some (yhc (List.replicate s.length yga)))]) ?_ (by exact zs) (yag (yab rfl (yab rfl (yab rfl (yab rfl (yab rfl (yab rfl (yab rfl yae))))))))
 refine yrl (f:=zcs s L Q) 36 1 s.length rfl rfl rfl rfl rfl ?_
 refine ycn (α:=Nat × List PrD × List (List (BitVec 32))) (fun q=>[(12,i64 q.1),(11,.ls 36 1 s.length),(8,zts),(2,.lp 2 0),(3,.lp 3 0),(6,.lp 6 0),(7,.lp 7 0)]) (fun q=>zcs s L q.2.1++yce 36 1 (yoi q.2.2) []) (fun q=>262146 - q.1) (fun q=>q.1≤262144∧PrOk s.length q.2.1∧q.2.1.length≤524288∧ReaI s.length q.2.1 q.1 q.2.2∧ztt s L (262146 - q.1) q.1 q.2=ztt s L 262146 0 (Q,List.replicate s.length [])) (0,Q,List.replicate s.length []) ⟨by omega,hQ,by simp only;omega,ReaI.nil _ _,rfl⟩ (by exact zs) (hsE (by simp [yoi])) ?_
 rintro ⟨i,Q1,R⟩ ⟨hi,hQ1,hQl1,hR,hF1⟩
 simp only at hi hQ1 hQl1 hR hF1 ⊢
 rw [show 262146 - i=(262145 - i)+1 by omega,ztt] at hF1
 (try refine zy ?_)
 refine yac rfl (fun q2=>?_) (fun q2=>?_)
 ·simp at q2
  obtain ⟨p,hp⟩:=ycd q2
  simp only [hp] at hF1
  (try refine zy ?_)
  refine yac rfl (fun q3=>?_) (fun q3=>?_)
  ·have q3:262144 < Q1.length:=by simp at q3;omega
   rw [if_pos q3] at hF1
   rw [← hF1]
   (try refine zy ?_)
   refine yaf ?_;refine ⟨_,rfl,?_⟩
   exact Frz.tup2 Frz.nil Frz.pure
  have q3:¬ 262144 < Q1.length:=by simp at q3;omega
  rw [if_neg q3] at hF1
  have hpn:=hQ1.lt p (List.mem_of_getElem? hp)
  obtain ⟨y,hy⟩:=ycd hpn
  have hay:=h4 y (List.mem_of_getElem? hy)
  have hyl:y.2.length≤262144:=by have:=ymf hy;have:=yuz s (p.1+1);omega
  have hat:∀ a∈y.2,a.2.toNat < s.length:=fun a ha=>by
   obtain ⟨j,hj⟩:=List.getElem?_of_mem ha
   have:=(hay.grow j a hj).2.2.2
   omega
  rw [yrn hy] at hF1
  obtain ⟨Q',hpre⟩:=yxf (s:=s) (L:=L) (p:=p) (l:=y.2) (Q:=Q1)
  have hra:=zfc (s:=s) (L:=L) (p:=p) (l:=y.2) hQ1 hat
  have hRs:=hR.step (q':=Q') hQ1 hp
  rw [← hpre] at hRs
  obtain ⟨r,hr⟩:=ycd (show p.1 < R.length by rw [hR.len];exact hpn)
  have hrs:r.length≤262144:=by have:=hR.short p.1;rw [List.getD_eq_getElem?_getD,hr,Option.getD_some] at this;omega
  have hadd:ylo R p.1 p.2=R.set p.1 (r++[p.2]):=by simp [ylo,List.getD_eq_getElem?_getD,hr]
  rw [hadd] at hRs hF1
  have hfl:=ziq Q1
  have hne:(Q1.map yia).flatten≠[]:=fun e=>by rw [e] at hfl;simp at hfl;omega
  have hld:ypx 2 ((Q1.map yia).flatten.drop ((i:Int).toNat * 2))=some (yia p):=by rw [Int.toNat_natCast];exact zov (f:=yia) (k:=2) (fun _=>rfl) hp
  (repeat (first|refine zw ?_|refine yas tok rfl rfl rfl rfl (by omega) (by omega) rfl rfl ?_|refine L_loadV tok rfl rfl rfl rfl hne hld rfl rfl ?_|refine zA ?_ (h2:=yse (f:=zcs s L Q1) rfl rfl rfl rfl)))
  refine ypz (t':=[(13,.lp 13 0),(12,i64 i),(11,.ls 36 1 s.length),(8,zts),(2,.lp 2 0),(3,.lp 3 0),(6,.lp 6 0),(7,.lp 7 0)]) (h':=((13,some (LObj.cells (yia p)))::zcs s L Q1)++yce 36 1 (yoi R) []) ?_ (by exact zs) (hsE yfx)
  have hrow:(yoi R)[p.1]?=some (r.map ybi):=by simp [yoi,hr]
  have hrfl:(r.map ybi).length=r.length * 1:=by simp
  have hcell:=zep (M:=36) (sz:=1) hrow (m:=r.length) (by rw [hrfl];simp)
  have hk1:((p.1:Int).toNat * 1)=p.1:=by simp
  have hlr:(yoi R).length=s.length:=by simp [yoi,hR.len]
  refine zt ?_
  refine ycb (lf:=lf0) ysu rfl ?_
  refine yjh [3,4,5,6,7,8,9,10] 6 (yaa rfl (yaa rfl (yaa rfl (yaa rfl (yaa rfl (yaa rfl (yaa rfl (yaa rfl yal)))))))) rfl (by kernel_rfl) ?_
  (repeat (first|refine zo ?_|refine yas tok rfl rfl (ybt (f:=(13,some (LObj.cells (yia p)))::zcs s L Q1) rfl) rfl (by omega) (by omega) rfl rfl ?_|refine yda (r:=.ls (fam 36 p.1) 1 r.length) tok rfl rfl rfl (by rw [ybt (f:=(13,some (LObj.cells (yia p)))::zcs s L Q1) rfl];exact yfd _) (by rw [hk1];exact hcell) rfl rfl ?_))
  have hat3:hlook (((13,some (LObj.cells (yia p)))::zcs s L Q1)++(36,some (yhc ((yev 36 1 0 (yoi R)++[]).set p.1 .one)))::yne 36 0 ((yoi R).set p.1 (r.map ybi++[[ybi p.2]].flatten))) 36=some (yhc ((yev 36 1 0 (yoi R)++[]).set p.1 .one)):=by rw [ybe _ _ (yjp rfl),ybb]
  refine you tok ymt [(0,50,.ls 36 1 s.length),(1,51,.lp 13 (0+0)),(2,52,i64 p.1)] 11 61 [57] (.ls (fam 36 p.1) 1 (r.length+1)) (req:=[(11,.ls 36 1 s.length),(13,.lp 13 0)]) 2 rfl (by kernel_rfl) rfl rfl rfl (by kernel_rfl) (by kernel_rfl) rfl ⟨⟨rfl,rfl,rfl⟩,⟨rfl,rfl,rfl⟩,trivial⟩ rfl
   ⟨⟨_,[(11,.ls 36 1 s.length),(13,.lp 13 0)],rfl,rfl,rfl,by kernel_rfl,by kernel_rfl,by kernel_rfl,by kernel_rfl,rfl,rfl,rfl⟩,⟨_,[(11,.ls 36 1 s.length),(13,.lp 13 0)],rfl,rfl,rfl,by kernel_rfl,by kernel_rfl,by kernel_rfl,by kernel_rfl,rfl,rfl,rfl⟩,⟨_,[(51,.lp 13 (0+0)),(11,.ls 36 1 s.length),(13,.lp 13 0)],rfl,rfl,rfl,by kernel_rfl,by kernel_rfl,by kernel_rfl,by kernel_rfl,rfl,rfl,rfl⟩,trivial⟩ rfl rfl rfl
   (fun t ht hl=>yko (s:=⟨t,_⟩) (t':=yip [57] t) (i:=p.1) (news:=[[ybi p.2]]) (f:=(13,some (LObj.cells (yia p)))::zcs s L Q1) tok (fun x y h=>(yxa hl h).imp (fun e=>e) fun e=>⟨e.1,ymt.ment (ydw _ _) e.2⟩) (fun x y h=>ysg h) rfl rfl rfl (ht 57 _ rfl) hrow hrfl (ht 60 _ rfl) (by intro c hc;simp at hc;subst hc;rfl) (by constructor <;> simp <;> omega) rfl rfl rfl rfl rfl rfl) ?_
  refine yay [12,13] (yaa rfl (yaa rfl yal)) rfl (by kernel_rfl) ?_
  refine yas tok rfl rfl hat3 rfl (by omega) (by omega) rfl rfl ?_
  refine yki tok rfl rfl rfl rfl rfl hat3 (by rw [List.length_set,List.append_nil,ydf,hlr];omega) rfl rfl ?_
  refine zuz (h':=((13,some (LObj.cells (yia p)))::zcs s L Q1)++yce 36 1 (yoi (R.set p.1 (r++[p.2]))) []) ?_ ?_
  ·rw [hk1]
   refine (ywz (f:=(13,some (LObj.cells (yia p)))::zcs s L Q1) rfl (by omega) rfl (by rw [hlr];exact hpn) (by rw [List.length_append,hrfl];simp)).trans ?_
   rw [show yoi (R.set p.1 (r++[p.2]))=(yoi R).set p.1 (r.map ybi++[[ybi p.2]].flatten) by simp [yoi,List.map_set]]
  (try refine zy ?_)
  refine ycn (α:=Nat × List PrD) (fun q=>[(70,i64 q.1),(69,i64 y.2.length),(68,ybl y.2),(13,.lp 13 0),(12,i64 i),(11,.ls 36 1 s.length),(8,zts),(2,.lp 2 0),(3,.lp 3 0),(6,.lp 6 0),(7,.lp 7 0)]) (fun q=>((13,some (LObj.cells (yia p)))::zcs s L q.2)++yce 36 1 (yoi (R.set p.1 (r++[p.2]))) []) (fun q=>y.2.length - q.1) (fun q=>q.1≤y.2.length∧PrOk s.length q.2∧q.2.length≤Q1.length+q.1∧zle s L p (y.2.drop q.1) q.2=zle s L p y.2 Q1) (0,Q1) ⟨by omega,hQ1,by simp,rfl⟩ (by exact zs) (hsE rfl) ?_
  rintro ⟨j,Q2⟩ ⟨hj,hQ2,hQl2,hF2⟩
  simp only at hj hQ2 hQl2 hF2 ⊢
  (try refine zy ?_)
  refine yac rfl (fun q4=>?_) (fun q4=>?_)
  ·simp at q4
   obtain ⟨a,ha⟩:=ycd q4
   obtain ⟨C,to,rfl⟩:∃ (C:BitVec 32) (to:Nat),a=(C,(to:Int)):=⟨a.1,a.2.toNat,by
    have:=(hay.grow j a ha).2.2.2.1
    rw [Int.toNat_of_nonneg this]⟩
   have htn:to < s.length:=by have:=(hay.grow j _ ha).2.2.2.2;simpa using this
   have hda:y.2.drop j=(C,(to:Int))::y.2.drop (j+1):=by rw [List.drop_eq_getElem_cons q4];congr 1;exact Option.some.inj ((List.getElem?_eq_getElem q4).symm.trans ha)
   rw [hda,zle] at hF2
   have haf:=zgc hok p (C,(to:Int)) ⟨by simp,by simpa using htn⟩
   have hat:=zka s p (C,(to:Int))
   simp only [Int.toNat_natCast] at hat
   obtain ⟨pr,hpr⟩:∃ x,zjm s p (C,(to:Int))=x:=⟨_,rfl⟩
   rw [hpr] at haf hF2 hat
   obtain ⟨q,full⟩:=pr
   simp only at hat hF2
   have hadd2:=zmd (L:=L) (Q:=Q2) (p:=q) (by omega) (by omega) (by rw [hl];exact hQ2) (by omega)
   have hal:=ywp (L:=L) (Q:=Q2) (p:=q)
   (repeat (first|refine zw ?_|refine zA ?_ (h2:=yse (f:=(13,_)::zcs s L Q2) rfl rfl rfl rfl)|refine yad rfl rfl haf rfl rfl ?_|refine zA ?_ (h2:=yse (f:=(15,_)::(15,_)::(13,_)::zcs s L Q2) rfl rfl rfl rfl)))
   refine L_callT (fr:=(16,some (LObj.cells (i64 q.1::ybi q.2::ygr [])))::(16,some (LObj.cells (ygr zuv.zero)))::(15,some (LObj.cells (ybi C::i64 to::ygr [])))::(15,some (LObj.cells (ygr zyy.zero)))::(13,some (LObj.cells (yia p)))::zcs s L Q2) [(1001,3),(1002,6),(1003,7),(1004,18),(1005,61)] hadd2 rfl rfl rfl rfl rfl rfl rfl (yab rfl (yab rfl (yab rfl (yab rfl (yab rfl yae))))) rfl rfl rfl rfl rfl rfl rfl rfl rfl rfl ?_
   (try refine zy ?_)
   refine yir (j+1,yxs L Q2 q) ⟨by simp only;omega,hQ2.add L (by omega),by simp only;omega,hF2⟩ (by simp only;omega) (by exact zs) (hsM (f:=[(3,some (.cells [ykf L])),(6,some (.cells [.mp 18])),(7,some (.cells [.ls 61 2 (yxs L Q2 q).length])),(18,some (.map (zwp (yxs L Q2 q)))),(61,some (.vec ((yxs L Q2 q).map yia).flatten)),(16,some (LObj.cells (i64 q.1::ybi q.2::ygr []))),(16,some (LObj.cells (ygr zuv.zero))),(15,some (LObj.cells (ybi C::i64 to::ygr []))),(15,some (LObj.cells (ygr zyy.zero))),(13,some (LObj.cells (yia p))),(2,some (zvt s))]) (f':=(13,some (LObj.cells (yia p)))::zcs s L (yxs L Q2 q)) (yab rfl (yab rfl (yab rfl (yab rfl (yab rfl (yab rfl (yab rfl yae))))))) rfl rfl rfl)
  ·simp at q4
   obtain rfl:j=y.2.length:=by omega
   rw [List.drop_length,zle] at hF2
   (try refine zy ?_)
   refine yir (i+1,Q2,R.set p.1 (r++[p.2])) ⟨by simp only;omega,hQ2,by simp only;omega,by simp only;rw [hF2];exact hRs,by simp only;rw [hF2,show 262146 - (i+1)=262145 - i by omega];exact hF1⟩ (by simp only;omega) (by exact zs) (hsM (f:=(13,some (LObj.cells (yia p)))::zcs s L Q2) (f':=zcs s L Q2) (yab rfl (yab rfl (yab rfl (yab rfl (yab rfl (yab rfl yae)))))) rfl rfl rfl)
 ·have q2:Q1.length≤i:=by simp at q2;omega
  rw [List.getElem?_eq_none q2] at hF1
  rw [← hF1]
  (try refine zy ?_)
  refine yaf ?_;refine ⟨_,rfl,?_⟩
  refine Frz.tup2 ?_ Frz.pure
  have:=Frz.mat (f:=zcs s L Q1) (M:=36) (sz:=1) (rows:=yoi R) (els:=R.map fun r=>r.map fun B=>[ybi B]) rfl rfl rfl (by omega) (by intro e he x hx;obtain ⟨q,_,rfl⟩:=List.mem_map.1 he;obtain ⟨z,_,rfl⟩:=List.mem_map.1 hx;rfl) (n:=s.length) (by rw [List.length_map,hR.len]) (by
   rw [yoi,List.map_map]
   exact List.map_congr_left fun u _=>(yen u).symm)
  rw [List.map_map] at this
  exact this
end
section
open Go.RowKit Go.Maps Go.WideMaps
def roA:Option (List Nat) ⊕ Unit→AV
 | .inl none=>.tup [yam [],i64 14]
 | .inl (some l)=>.tup [yam (yfi l),i64 0]
 | .inr ()=>.tup [yam [],i64 3]
def mapM (M:List (PrD × Nat)):List (Value × Value):=M.map fun e=>(zsw e.1,Value.int .i64 (e.2:Nat))
theorem zch {n:Nat} {M:List (PrD × Nat)} {dn:PrD→Prop} (h:RndOk n M dn) (p:PrD):∃ ok,Found (.int .i64 0) (mapM M) (zsw p) (.int .i64 (zli M p:Nat)) ok:=by
 by_cases hm:∃ e∈M,e.1=p
 ·obtain ⟨e,he,rfl⟩:=hm
  refine ⟨true,.hit ⟨_,List.mem_map.2 ⟨e,he,rfl⟩,rfl⟩ fun x hx hk=>?_⟩
  obtain ⟨y,hy,rfl⟩:=List.mem_map.1 hx
  have:=rndG_at h hy
  rw [ysl hk] at this
  show Value.int .i64 (y.2:Nat)=_
  rw [← this]
 ·have hn:∀ e∈M,e.1≠p:=fun e he hk=>hm ⟨e,he,hk⟩
  rw [rndG_no hn]
  refine ⟨false,.miss fun x hx hk=>?_⟩
  obtain ⟨y,hy,rfl⟩:=List.mem_map.1 hx
  exact hn y hy (ysl hk)
def zon (E:List Nat) (n k:Nat):List Nat:=E.take k++List.replicate (n - k) 0
theorem resK_len {E:List Nat} {n k:Nat} (h:E.length=n) (hk:k≤n):(zon E n k).length=n:=by simp [zon];omega
theorem resK_set {E:List Nat} {n k x:Nat} (h:E.length=n) (hx:E[k]?=some x):(zon E n k).set k x=zon E n (k+1):=by
 have hk:=(List.getElem?_eq_some_iff.1 hx).1
 unfold zon
 rw [List.set_append_right _ _ (by simp;omega),ybc hx]
 rw [show n - k=(n - (k+1))+1 by omega,List.replicate_succ,show k - (E.take k).length=0 by simp;omega]
 simp
theorem resK_skip {E:List Nat} {n k:Nat} (h:E.length=n) (hx:E[k]?=some 0):zon E n k=zon E n (k+1):=by
 have hk:=(List.getElem?_eq_some_iff.1 hx).1
 unfold zon
 rw [ybc hx,show n - k=(n - (k+1))+1 by omega,List.replicate_succ]
 simp
theorem zuw:∀ w,(zeroValue 3).run Tryz.prog w=.ok (.int .i64 0) w:=fun w=>by kernel_rfl
theorem rounds_con {s:SpcD} (h:SpcOk s) {L:List Bool} (hl:L.length=s.length):Con Tryz.prog 71 [ynx s,ykf L] (roA (xap s L)):=by
 have hwo:=zdf h hl
 have hre:=reachable_con h hl
 have hok:=zwv (s:=s) hl
 by_cases hlt:(ytc s L).length < L.length
 ·rw [zyk,if_pos hlt] at hwo
  rw [xap,if_pos hlt]
  refine yao Tryz.func71 rfl rfl Tryz.ntmps71 Tryz.results71 rfl rfl ?_
  (repeat (first|refine zy ?_|refine yad rfl rfl hwo rfl rfl ?_))
  refine yaf ?_;refine ⟨_,rfl,?_⟩
  exact Frz.tup2 Frz.nil Frz.pure
 rw [zyk,if_neg hlt] at hwo
 rw [xap,if_neg hlt]
 cases hrf:zyn s L with
 | none=>
  rw [hrf] at hre
  simp only
  refine yao Tryz.func71 rfl rfl Tryz.ntmps71 Tryz.results71 rfl rfl ?_
  (repeat (first|refine zy ?_|refine yad rfl rfl hwo rfl rfl ?_|refine yad rfl rfl hre rfl rfl ?_))
  refine yaf ?_;refine ⟨_,rfl,?_⟩
  exact Frz.tup2 Frz.nil Frz.pure
 | some R=>
 rw [hrf] at hre
 simp only
 obtain ⟨o,ho⟩:∃ o,ytc s L=o:=⟨_,rfl⟩
 rw [ho] at hwo hok ⊢
 obtain ⟨hon,hom,hol⟩:=hok
 have hto:∀ (k:Nat) (a:ArcD),a∈yej s k→a.2.toNat < s.length:=fun k a ha=>by
  unfold yej at ha
  cases hx:s[k]? with
  | none=>rw [hx] at ha;simp at ha
  | some x=>
   rw [hx] at ha
   obtain ⟨i,hi⟩:=List.getElem?_of_mem ha
   have:=((h.arcs x (List.mem_of_getElem? hx)).grow i a hi).2.2.2
   omega
 obtain ⟨hRl,hRr⟩:=rea_rows hto h.len hrf
 obtain ⟨M0,hM0⟩:∃ M0,zfg s L R o []=M0:=⟨_,rfl⟩
 rw [hM0]
 have hsp:=h
 obtain ⟨h1,h2,h3,h4⟩:=h
 refine yao Tryz.func71 rfl rfl Tryz.ntmps71 Tryz.results71 rfl rfl ?_
 (repeat (first|refine zy ?_|refine yad rfl rfl hwo rfl rfl ?_|refine yad rfl rfl hre rfl rfl ?_|refine yxq rfl rfl rfl rfl rfl ?_))
 refine ycn (α:=Nat × List (PrD × Nat)) (fun q=>[(44,i64 q.1),(43,i64 o.length),(42,yam (yfi o)),(9,.mp 41),(8,xaz R),(2,.lp 2 0),(1,ykf L)]) (fun q=>[(41,some (.map (mapM q.2))),(2,some (zvt s))]) (fun q=>o.length - q.1) (fun q=>q.1≤o.length∧RndOk s.length q.2 (fun p=>p.1∈o.take q.1)∧q.2.length≤262145 * q.1∧zfg s L R (o.drop q.1) q.2=M0) (0,[]) ⟨by omega,⟨List.nodup_nil,fun e he=>by (cases he),fun e he=>by (cases he)⟩,by simp,hM0⟩ (by rw [← yiq (l:=o)];exact zs) (yag (yab rfl (yab rfl yae))) ?_
 rintro ⟨i,M⟩ ⟨hi,hM,hMl,hS⟩
 simp only at hi hM hMl hS ⊢
 (try refine zy ?_)
 refine yac rfl (fun q1=>?_) (fun q1=>?_)
 ·simp at q1
  obtain ⟨k,hk⟩:=ycd q1
  have hkg:=yze hk
  have hkn:=hom k (List.mem_of_getElem? hk)
  obtain ⟨r,hr⟩:=ycd (show k < R.length by omega)
  have hrr:=hRr k
  rw [List.getD_eq_getElem?_getD,hr,Option.getD_some] at hrr
  obtain ⟨y,hy⟩:=ycd hkn
  have hay:=h4 y (List.mem_of_getElem? hy)
  have hyl:y.2.length≤262144:=by have:=ymf hy;have:=yuz s (k+1);omega
  have hdr:o.drop i=k::o.drop (i+1):=by rw [List.drop_eq_getElem_cons q1];congr 1;exact Option.some.inj ((List.getElem?_eq_getElem q1).symm.trans hk)
  rw [hdr,zfg,List.getD_eq_getElem?_getD,hr,Option.getD_some] at hS
  have htk:o.take (i+1)=o.take i++[k]:=ybc hk
  have hkno:k ∉ o.take i:=fun hm=>by
   have:(o.take i++[k]).Nodup:=by rw [← htk];exact hon.sublist (List.take_sublist _ _)
   exact (List.nodup_append.1 this).2.2 k hm k (by simp) rfl
  (try refine zy ?_)
  refine ycn (α:=Nat × List (PrD × Nat)) (fun q=>[(53,i64 q.1),(52,i64 r.length),(51,yrk r),(11,i64 k),(44,i64 i),(43,i64 o.length),(42,yam (yfi o)),(9,.mp 41),(8,xaz R),(2,.lp 2 0),(1,ykf L)]) (fun q=>[(41,some (.map (mapM q.2))),(2,some (zvt s))]) (fun q=>r.length - q.1) (fun q=>q.1≤r.length∧RndOk s.length q.2 (fun p=>p.1∈o.take i∨p.1=k∧p.2∈r.take q.1)∧q.2.length≤262145 * i+q.1∧zxa s L k (r.drop q.1) q.2=zxa s L k r M) (0,M) ⟨by omega,hM.mono fun p hp=>.inl hp,by simp only;omega,rfl⟩ (by exact zs) (yag (yab rfl (yab rfl yae))) ?_
  rintro ⟨j,M1⟩ ⟨hj,hM1,hMl1,hS1⟩
  simp only at hj hM1 hMl1 hS1 ⊢
  (try refine zy ?_)
  refine yac rfl (fun q2=>?_) (fun q2=>?_)
  ·simp at q2
   obtain ⟨B,hB⟩:=ycd q2
   have hdB:r.drop j=B::r.drop (j+1):=by rw [List.drop_eq_getElem_cons q2];congr 1;exact Option.some.inj ((List.getElem?_eq_getElem q2).symm.trans hB)
   rw [hdB,zxa,yrn hy] at hS1
   have htB:r.take (j+1)=r.take j++[B]:=ybc hB
   have hBno:B ∉ r.take j:=fun hm=>by
    have:(r.take j++[B]).Nodup:=by rw [← htB];exact hrr.1.sublist (List.take_sublist _ _)
    exact (List.nodup_append.1 this).2.2 B hm B (by simp) rfl
   have hks:∀ e∈mapM M1,∃ l,keyOf Tryz.prog 210 e.1=some l:=fun e he=>by
    obtain ⟨q,hq,rfl⟩:=List.mem_map.1 he
    exact yms (by have:=(hM1.key q hq).2;omega)
   (try refine zy ?_)
   refine ycn (α:=Nat × Nat) (fun q=>[(66,i64 q.1),(65,i64 y.2.length),(64,ybl y.2),(15,i64 q.2),(14,.lp 14 0),(53,i64 j),(52,i64 r.length),(51,yrk r),(11,i64 k),(44,i64 i),(43,i64 o.length),(42,yam (yfi o)),(9,.mp 41),(8,xaz R),(2,.lp 2 0),(1,ykf L)]) (fun q=>[(14,some (.cells (yia (k,B)))),(41,some (.map (mapM M1))),(2,some (zvt s))]) (fun q=>y.2.length - q.1) (fun q=>q.1≤y.2.length∧q.2≤M1.length+1∧zwz s L M1 (k,B) (y.2.drop q.1) q.2=zwz s L M1 (k,B) y.2 1) (0,1) ⟨by omega,by simp only;omega,rfl⟩ (by exact zs) (yag (yab rfl (yab rfl (yab rfl yae)))) ?_
   rintro ⟨c,m⟩ ⟨hc,hm,hA⟩
   simp only at hc hm hA ⊢
   (try refine zy ?_)
   refine yac rfl (fun q3=>?_) (fun q3=>?_)
   ·simp at q3
    obtain ⟨a,ha⟩:=ycd q3
    obtain ⟨C,to,rfl⟩:∃ (C:BitVec 32) (to:Nat),a=(C,(to:Int)):=⟨a.1,a.2.toNat,by
     have:=(hay.grow c a ha).2.2.2.1
     rw [Int.toNat_of_nonneg this]⟩
    have htn:to < s.length:=by have:=(hay.grow c _ ha).2.2.2.2;simpa using this
    have hda:y.2.drop c=(C,(to:Int))::y.2.drop (c+1):=by rw [List.drop_eq_getElem_cons q3];congr 1;exact Option.some.inj ((List.getElem?_eq_getElem q3).symm.trans ha)
    obtain ⟨b,hb⟩:=ycd (show to < L.length by omega)
    rw [hda,zwz] at hA
    simp only [Int.toNat_natCast,List.getD_eq_getElem?_getD,hb,Option.getD_some] at hA
    (try refine zy ?_)
    refine yac rfl (fun q4=>?_) (fun q4=>?_)
    ·have q4:b=true:=q4
     rw [if_pos q4] at hA
     (try refine zy ?_)
     exact yir (c+1,m) ⟨by simp only;omega,hm,hA⟩ (by simp only;omega) (by exact zs) (yag (yab rfl (yab rfl (yab rfl yae))))
    ·have q4:b=false:=q4
     rw [if_neg (by rw [q4];simp)] at hA
     have haf:=zgc hsp (k,B) (C,(to:Int)) ⟨by simp,by simpa using htn⟩
     have hat:=zka s (k,B) (C,(to:Int))
     simp only [Int.toNat_natCast] at hat
     obtain ⟨pr,hpr⟩:∃ x,zjm s (k,B) (C,(to:Int))=x:=⟨_,rfl⟩
     rw [hpr] at haf hA hat
     obtain ⟨q,full⟩:=pr
     simp only at hat hA
     obtain ⟨fo,hfo⟩:=zch hM1 q
     obtain ⟨kl,hkl⟩:=yms (p:=q) (by omega)
     have hg:=rndG_le hM1 q
     obtain ⟨w,hw⟩:∃ w,zli M1 q=w:=⟨_,rfl⟩
     rw [hw] at hA hfo hg
     (repeat (first|refine zy ?_|refine yad rfl rfl haf rfl rfl ?_))
     refine yac rfl (fun q5=>?_) (fun q5=>?_)
     ·have q5:full=true:=q5
      rw [if_pos q5] at hA
      (repeat (first|refine zy ?_|refine yhh Tryz.underlying208 yuj rfl rfl rfl rfl hks hkl zuw hfo rfl rfl ?_))
      exact yir (c+1,max m (1+w)) ⟨by simp only;omega,by simp only;omega,hA⟩ (by simp only;omega) (by simp only;rw [show ((max m (1+w):Nat):Int)=(if 1+(w:Int) > m then 1+(w:Int) else m) by split <;> omega];exact zs) (yag (yab rfl (yab rfl (yab rfl yae))))
     ·have q5:full=false:=q5
      rw [if_neg (by rw [q5];simp)] at hA
      (repeat (first|refine zy ?_|refine yhh Tryz.underlying208 yuj rfl rfl rfl rfl hks hkl zuw hfo rfl rfl ?_))
      exact yir (c+1,max m w) ⟨by simp only;omega,by simp only;omega,hA⟩ (by simp only;omega) (by simp only;rw [show ((max m w:Nat):Int)=(if (w:Int) > m then (w:Int) else m) by split <;> omega];exact zs) (yag (yab rfl (yab rfl (yab rfl yae))))
   ·simp at q3
    obtain rfl:c=y.2.length:=by omega
    rw [List.drop_length,zwz] at hA
    rw [← hA] at hS1
    obtain ⟨kl,hkl⟩:=yms (p:=(k,B)) (by simp only;omega)
    have hnew:∀ e∈mapM M1,e.1≠zsw (k,B):=fun e he hk=>by
     obtain ⟨q,hq,rfl⟩:=List.mem_map.1 he
     have h9:=(hM1.key q hq).1
     rw [ysl hk] at h9
     rcases h9 with h9|h9
     ·exact hkno h9
     ·exact hBno h9.2
    (repeat (first|refine zy ?_|refine yqr Tryz.underlying208 yuj rfl rfl rfl rfl rfl rfl hks hkl hnew rfl rfl ?_))
    refine yir (j+1,M1++[((k,B),m)]) ⟨by simp only;omega,hM1.add hm (fun h9=>h9.elim hkno fun h9=>hBno h9.2) (.inr ⟨rfl,by simp only;rw [htB];simp⟩) hkn fun p hp=>hp.imp id fun h9=>⟨h9.1,by simp only;rw [htB];exact List.mem_append_left _ h9.2⟩,by simp only [List.length_append,List.length_singleton];omega,hS1⟩ (by simp only;omega) (by exact zs) (yag (yab ?_ (yab rfl yae)))
    show some _=some _
    simp [mapM]
    rfl
  ·simp at q2
   obtain rfl:j=r.length:=by omega
   rw [List.drop_length,zxa] at hS1
   rw [← hS1] at hS
   (try refine zy ?_)
   exact yir (i+1,M1) ⟨by simp only;omega,hM1.mono fun p hp=>by
    simp only
    rw [htk]
    rcases hp with hp|hp
    ·exact List.mem_append_left _ hp
    ·rw [hp.1];simp,by simp only;omega,hS⟩ (by simp only;omega) (by exact zs) (yag (yab rfl (yab rfl yae)))
 simp at q1
 obtain rfl:i=o.length:=by omega
 rw [List.drop_length,zfg] at hS
 subst hS
 obtain ⟨E,hE⟩:∃ E,zyp L M s=E:=⟨_,rfl⟩
 have hEl:E.length=s.length:=by rw [← hE];simp [zyp]
 rw [hE]
 have hz:(yfi (zon E s.length 0)).map i64=(yfi (List.replicate s.length 0)).map i64:=by simp [zon]
 have hks:∀ e∈mapM M,∃ l,keyOf Tryz.prog 210 e.1=some l:=fun e he=>by
  obtain ⟨q,hq,rfl⟩:=List.mem_map.1 he
  exact yms (by have:=(hM.key q hq).2;omega)
 have hsl:(s.map (·.1)).length=s.length:=List.length_map ..
 (repeat (first|with_reducible refine ybg ?_|with_reducible refine yat ?_|refine ybf ?_|refine ybp ?_))
 (repeat (first|refine zy ?_|refine ylm tok rfl rfl rfl rfl (by constructor <;> omega) rfl rfl rfl rfl rfl ?_))
 rw [zes,hl,← hz]
 refine ycn (α:=Nat) (fun k=>[(106,i64 k),(105,i64 s.length),(104,yrk (s.map (·.1))),(20,.ls 102 1 s.length),(9,.mp 41),(1,ykf L)]) (fun k=>[(102,some (.vec ((yfi (zon E s.length k)).map i64))),(41,some (.map (mapM M)))]) (fun k=>s.length - k) (fun k=>k≤s.length) 0 (by omega) (by rw [← hsl];exact zs) (yag (yab rfl (yab rfl yae))) ?_
 intro k hk
 (try refine zy ?_)
 refine yac rfl (fun q6=>?_) (fun q6=>?_)
 ·simp at q6
  obtain ⟨x,hx⟩:=ycd q6
  have hx1:(s.map (·.1))[k]?=some x.1:=by rw [List.getElem?_map,hx];rfl
  obtain ⟨b,hb⟩:=ycd (show k < L.length by omega)
  have hEk:E[k]?=some (if b=true then 0 else zli M (k,x.1)):=by
   rw [← hE,zyp,List.getElem?_mapIdx,hx]
   simp only [Option.map_some,List.getD_eq_getElem?_getD,hb,Option.getD_some]
  obtain ⟨fo,hfo⟩:=zch hM (k,x.1)
  obtain ⟨kl,hkl⟩:=yms (p:=(k,x.1)) (by simp only;omega)
  obtain ⟨w,hw⟩:∃ w,zli M (k,x.1)=w:=⟨_,rfl⟩
  rw [hw] at hEk hfo
  have hrl:=resK_len hEl hk
  (try refine zy ?_)
  refine yac rfl (fun q7=>?_) (fun q7=>?_)
  ·have q7:b=false:=by simpa using q7
   rw [if_neg (by rw [q7];simp)] at hEk
   (repeat (first|refine zy ?_|refine yhh Tryz.underlying208 yuj rfl rfl rfl rfl hks hkl zuw hfo rfl rfl ?_|refine yas tok rfl rfl rfl rfl (by omega) (by omega) rfl rfl ?_))
   refine yhu tok rfl rfl rfl rfl rfl rfl (by rw [List.length_map,yiq,hrl];simp;omega) rfl (congrArg (fun z=>hlook ((102,some (LObj.vec z))::_)) (show _=(yfi (zon E s.length (k+1))).map i64 by rw [show ((k:Int).toNat * 1)=k by simp,← resK_set hEl hEk];exact zet)) rfl rfl ?_
   (try refine zy ?_)
   exact yir (k+1) (by omega) (by omega) (by exact zs) (yag (yab rfl (yab rfl yae)))
  ·have q7:b=true:=by simpa using q7
   rw [if_pos q7] at hEk
   (try refine zy ?_)
   exact yir (k+1) (by omega) (by omega) (by exact zs) (hsE (by rw [resK_skip hEl hEk]))
 ·simp at q6
  obtain rfl:k=s.length:=by omega
  have hfin:zon E s.length s.length=E:=by rw [zon,Nat.sub_self,List.take_of_length_le (by omega)];simp
  (try refine zy ?_)
  refine yaf ?_;refine ⟨_,rfl,?_⟩
  rw [hfin]
  exact Frz.tup2 (zeb rfl (by rw [yiq,hEl])) Frz.pure
end
section
open Go.RowKit
def zxz (e:BitVec 32) (n:Nat) (l:List ArcD):Bool:=(e >>> 24 == 0#32) && ((e == 0#32) == l.isEmpty) && (List.range l.length).all fun i=>match l[i]? with
 | none=>true
 | some a=>(i == 0 || (match l[i - 1]? with|some b=>decide (b.1.toNat < a.1.toNat)|none=>true)) && decide (0 < a.1.toNat) && (a.1 &&& ~~~e == 0#32) && decide (0≤a.2) && decide (a.2 < n)
theorem arcsB_ok {e:BitVec 32} {n:Nat} {l:List ArcD} (h:zxz e n l=true):ArcsOk e n l:=by
 unfold zxz at h
 simp only [Bool.and_eq_true,beq_iff_eq,List.all_eq_true,List.mem_range] at h
 obtain ⟨⟨h1,h2⟩,h3⟩:=h
 refine ⟨h1,?_,fun i a ha=>?_⟩
 ·constructor
  ·intro he
   rw [he] at h2
   simpa using h2.symm
  ·intro hl
   rw [hl] at h2
   simpa using h2
 ·have:=h3 i (List.getElem?_eq_some_iff.1 ha).1
  rw [ha] at this
  simp only [Bool.and_eq_true,Bool.or_eq_true,beq_iff_eq,decide_eq_true_eq] at this
  obtain ⟨⟨⟨⟨g1,g2⟩,g3⟩,g4⟩,g5⟩:=this
  refine ⟨fun b hb hi=>?_,g2,g3,g4,g5⟩
  rcases g1 with g1|g1
  ·exact absurd g1 hi
  ·rw [hb] at g1;simpa using g1
def yqi (s:SpcD):List Bool:=s.map fun x=>x.1 == 0#32
def xac (s:SpcD) (e:BitVec 32) (a:ArcD):Bool:=((e &&& ~~~a.1) &&& yek s a.2.toNat == yek s a.2.toNat) && decide (yrj a.1+yrj (yek s a.2.toNat)≤yrj e)
def okS (n N:Nat) (s:SpcD):Bool:=(s.length == N) && decide (1≤s.length) && decide (s.length≤32768) && decide (ymx s≤262144) && (s.all fun x=>zxz x.1 s.length x.2 && x.2.all (xac s x.1) && decide (yrj x.1≤n)) && !(decide ((ytc s (yqi s)).length < s.length))
structure OkS (n N:Nat) (s:SpcD):Prop where
 len:s.length=N
 ok:SpcOk s
 less:∀ x∈s,∀ a∈x.2,(x.1 &&& ~~~a.1) &&& yek s a.2.toNat=yek s a.2.toNat∧yrj a.1+yrj (yek s a.2.toNat)≤yrj x.1
 few:∀ x∈s,yrj x.1≤n
 all:¬ (ytc s (yqi s)).length < s.length
theorem okS_ok {n N:Nat} {s:SpcD} (h:okS n N s=true):OkS n N s:=by
 unfold okS at h
 simp only [Bool.and_eq_true,beq_iff_eq,decide_eq_true_eq,List.all_eq_true,Bool.not_eq_true',decide_eq_false_iff_not,xac] at h
 obtain ⟨⟨⟨⟨⟨h0,h1⟩,h2⟩,h3⟩,h4⟩,h5⟩:=h
 exact ⟨h0,⟨h1,h2,h3,fun x hx=>arcsB_ok (h4 x hx).1.1⟩,fun x hx a ha=>(h4 x hx).1.2 a ha,fun x hx=>(h4 x hx).2,h5⟩
section
variable {n N:Nat} {s:SpcD}
theorem yso:(yqi s).length=s.length:=by simp [yqi]
theorem legF_at {k:Nat} (hk:k < s.length):(yqi s).getD k false=(yek s k == 0#32):=by
 have hx:=List.getElem?_eq_getElem hk
 rw [ywv hx,List.getD_eq_getElem?_getD,yqi,List.getElem?_map,hx];rfl
theorem zmk {k:Nat} {a:ArcD} (h:a∈yej s k):∃ x,s[k]?=some x∧a∈x.2:=by
 unfold yej at h
 cases hx:s[k]? with
 | none=>rw [hx] at h;simp at h
 | some x=>rw [hx] at h;exact ⟨x,rfl,h⟩
theorem OkS.to (h:OkS n N s) {k:Nat} {a:ArcD} (ha:a∈yej s k):a.2.toNat < s.length:=by
 obtain ⟨x,hx,ha⟩:=zmk ha
 obtain ⟨i,hi⟩:=List.getElem?_of_mem ha
 have:=((h.ok.arcs x (List.mem_of_getElem? hx)).grow i a hi).2.2.2
 omega
theorem OkS.low (h:OkS n N s) {k:Nat} {a:ArcD} (ha:a∈yej s k):(yek s k &&& ~~~a.1) &&& yek s a.2.toNat=yek s a.2.toNat∧yrj a.1+yrj (yek s a.2.toNat)≤yrj (yek s k):=by
 obtain ⟨x,hx,ha⟩:=zmk ha
 rw [ywv hx]
 exact h.less x (List.mem_of_getElem? hx) a ha
theorem znk (h:OkS n N s) {k:Nat}:∀ {l:List ArcD} {R:List Nat},(∀ a∈l,a∈yej s k)→(∀ j,R.getD j 0≤yrj (yek s j))→∀ j,(zvb mvA k l R).getD j 0≤yrj (yek s j)
 | [],R,_,hR=>hR
 | a::l,R,hl,hR=>by
  rw [zvb]
  refine znk h (l:=l) (fun b hb=>hl b (List.mem_cons_of_mem _ hb)) fun j=>?_
  rw [ypd]
  split
  ·rename_i e
   have h1:=(h.low (hl a (List.mem_cons_self ..))).2
   have h2:=hR k
   have h3:=hR a.2.toNat
   rw [← e.1]
   unfold mvA
   omega
  ·exact hR j
theorem zss (h:OkS n N s) {L:List Bool}:∀ {o:List Nat} {R:List Nat},(∀ j,R.getD j 0≤yrj (yek s j))→∀ j,(grS mvA s L o R).getD j 0≤yrj (yek s j)
 | [],R,hR=>hR
 | k::o,R,hR=>by
  rw [grS]
  refine zss h ?_
  split
  ·exact hR
  ·exact znk h (fun a ha=>ha) hR
theorem ena_few (h:OkS n N s) (k:Nat):yrj (yek s k)≤n:=by
 unfold yek
 cases hx:s[k]? with
 | none=>simp;exact Nat.zero_le _
 | some x=>exact h.few x (List.mem_of_getElem? hx)
theorem znj {cost:ArcD→Nat} {k:Nat}:∀ {l:List ArcD} {R:List Nat},(zvb cost k l R).length=R.length
 | [],R=>rfl
 | a::l,R=>by rw [zvb,znj];simp
theorem zsr {cost:ArcD→Nat} {L:List Bool}:∀ {o:List Nat} {R:List Nat},(grS cost s L o R).length=R.length
 | [],R=>rfl
 | k::o,R=>by
  rw [grS,zsr]
  split
  ·rfl
  ·exact znj
theorem moves_low (h:OkS n N s):∃ m,zwl mvA s (yqi s)=some m∧m.length=s.length∧∀ x∈m,x≤n:=by
 refine ⟨grF mvA s (yqi s),?_,by rw [grF,zsr];simp,fun x hx=>?_⟩
 ·rw [zwl,yso,if_neg h.all]
 ·obtain ⟨k,hk⟩:=List.getElem?_of_mem hx
  have:=zss h (L:=yqi s) (o:=ytc s (yqi s)) (R:=List.replicate s.length 0) (fun j=>by
   rw [List.getD_eq_getElem?_getD,List.getElem?_replicate];split <;> simp) k
  rw [List.getD_eq_getElem?_getD] at this
  have e:grS mvA s (yqi s) (ytc s (yqi s)) (List.replicate s.length 0)=grF mvA s (yqi s):=rfl
  rw [e,hk,Option.getD_some] at this
  exact Nat.le_trans this (ena_few h k)
theorem zrm (h:OkS n N s) {k:Nat} {a:ArcD} (ha:a∈yej s k):zjm s (k,yek s k) a=((a.2.toNat,yek s a.2.toNat),yek s a.2.toNat == 0#32):=by
 have h1:=(h.low ha).1
 unfold zjm
 simp only [h1]
 split
 ·rename_i e;rw [e];rfl
 ·rename_i e;simp [e]
def zve (s:SpcD) (Q:List PrD):Prop:=∀ p∈Q,p.2=yek s p.1
theorem zve.add {Q:List PrD} (h:zve s Q) (L:List Bool) (k:Nat):zve s (yxs L Q (k,yek s k)):=by
 unfold yxs
 split
 ·intro p hp
  rcases List.mem_append.1 hp with hp|hp
  ·exact h p hp
  ·simp only [List.mem_singleton] at hp;rw [hp]
 ·exact h
theorem zoh (h:OkS n N s) {L:List Bool} {k:Nat}:∀ {l:List ArcD} {Q:List PrD},(∀ a∈l,a∈yej s k)→zve s Q→zve s (zle s L (k,yek s k) l Q)
 | [],Q,_,hQ=>hQ
 | a::l,Q,hl,hQ=>by
  rw [zle,zrm h (hl a (List.mem_cons_self ..))]
  exact zoh h (fun b hb=>hl b (List.mem_cons_of_mem _ hb)) (hQ.add L _)
theorem zog {L:List Bool}:∀ {l:List (BitVec 32)} {k:Nat} {Q:List PrD},(∀ i x,l[i]?=some x→x=yek s (k+i))→zve s Q→zve s (zqj L k l Q)
 | [],k,Q,_,hQ=>hQ
 | x::l,k,Q,hl,hQ=>by
  rw [zqj,hl 0 x rfl]
  exact zog (fun i y hy=>by rw [hl (i+1) y hy,show k+(i+1)=k+1+i by omega]) (hQ.add L k)
theorem zio {Q:List PrD} (h:zve s Q) (hq:PrOk s.length Q):Q.length≤s.length:=by
 have:=zoe s.length (Q.map (·.1)) (yta _ Q hq.nd fun x hx y hy e=>by
  obtain ⟨a,b⟩:=x
  obtain ⟨c,d⟩:=y
  have h1:=h _ hx
  have h2:=h _ hy
  simp only at e h1 h2
  subst e
  rw [h1,h2]) fun x hx=>by obtain ⟨p,hp,rfl⟩:=List.mem_map.1 hx;exact hq.lt p hp
 simpa using this
theorem zoi (h:OkS n N s) {L:List Bool}:∀ {m i:Nat} {q:List PrD × List (List (BitVec 32))},PrOk s.length q.1→zve s q.1→ReaI s.length q.1 i q.2→i≤q.1.length→32769≤m+i→∃ R,ztt s L m i q=some R∧∀ k,∀ B∈R.getD k [],B=yek s k
 | 0,i,q,h1,h2,_,hi,hm=>by
  have:=zio h2 h1
  have:=h.ok.len
  omega
 | m+1,i,q,h1,h2,h3,hi,hm=>by
  unfold ztt
  split
  ·exact ⟨_,rfl,fun k B hB=>h2 _ (List.mem_of_mem_take (h3.row k B hB))⟩
  ·rename_i p hp
   have hp1:=(List.getElem?_eq_some_iff.1 hp).1
   have hsh:=zio h2 h1
   have:=h.ok.len
   rw [if_neg (by omega)]
   have hpe:p=(p.1,yek s p.1):=by
    have:=h2 p (List.mem_of_getElem? hp)
    rw [← this]
   have ho:=zoh h (L:=L) (k:=p.1) (l:=yej s p.1) (fun a ha=>ha) h2
   rw [← hpe] at ho
   obtain ⟨Q',hQ⟩:=yxf (s:=s) (L:=L) (p:=p) (l:=yej s p.1) (Q:=q.1)
   have hk:=(zfc (s:=s) (L:=L) (p:=p) (l:=yej s p.1) h1 fun a ha=>h.to ha).1
   refine zoi h hk ho ?_ ?_ (by omega)
   ·simp only [hQ];exact h3.step h1 hp
   ·simp only [hQ,List.length_append];omega
theorem rea_own (h:OkS n N s) (L:List Bool):∃ R,zyn s L=some R∧∀ k,∀ B∈R.getD k [],B=yek s k:=by
 have h0:PrOk s.length (zqj L 0 (s.map (·.1)) []):=(zld (n:=s.length) ⟨List.nodup_nil,fun p hp=>by cases hp⟩ (by simp)).1
 exact zoi h h0 (zog (fun i x hx=>by
  rw [List.getElem?_map] at hx
  cases hy:s[i]? with
  | none=>rw [hy] at hx;cases hx
  | some y=>rw [hy] at hx;cases hx;rw [Nat.zero_add,ywv hy]) fun p hp=>by cases hp) (ReaI.nil _ _) (Nat.zero_le _) (by omega)
theorem zoq {M:List (PrD × Nat)} (h:∀ e∈M,e.2≤1) (p:PrD):zli M p≤1:=by
 unfold zli
 cases hl:M.lookup p with
 | none=>simp
 | some v=>
  obtain ⟨l1,l2,e,_⟩:=List.lookup_eq_some_iff.1 hl
  exact h (p,v) (by rw [e];simp)
theorem zop (h:OkS n N s) {M:List (PrD × Nat)} (hM:∀ e∈M,e.2≤1) {k:Nat}:∀ {l:List ArcD} {m:Nat},(∀ a∈l,a∈yej s k)→m≤1→zwz s (yqi s) M (k,yek s k) l m≤1
 | [],m,_,hm=>hm
 | a::l,m,hl,hm=>by
  have ha:=hl a (List.mem_cons_self ..)
  rw [zwz,zrm h ha,legF_at (h.to ha)]
  refine zop h hM (fun b hb=>hl b (List.mem_cons_of_mem _ hb)) ?_
  have:=zoq hM (a.2.toNat,yek s a.2.toNat)
  cases hz:yek s a.2.toNat == 0#32 with
  | true=>simpa using hm
  | false=>simp only [Bool.false_eq_true,if_false];omega
theorem zor (h:OkS n N s) {k:Nat}:∀ {l:List (BitVec 32)} {M:List (PrD × Nat)},(∀ B∈l,B=yek s k)→(∀ e∈M,e.2≤1)→∀ e∈zxa s (yqi s) k l M,e.2≤1
 | [],M,_,hM=>hM
 | B::l,M,hl,hM=>by
  rw [zxa,hl B (List.mem_cons_self ..)]
  refine zor h (fun C hC=>hl C (List.mem_cons_of_mem _ hC)) fun e he=>?_
  rcases List.mem_append.1 he with he|he
  ·exact hM e he
  ·simp only [List.mem_singleton] at he
   rw [he]
   exact zop h hM (fun a ha=>ha) (Nat.le_refl _)
theorem zos (h:OkS n N s) {R:List (List (BitVec 32))} (hR:∀ k,∀ B∈R.getD k [],B=yek s k):∀ {o:List Nat} {M:List (PrD × Nat)},(∀ e∈M,e.2≤1)→∀ e∈zfg s (yqi s) R o M,e.2≤1
 | [],M,hM=>hM
 | k::o,M,hM=>by
  rw [zfg]
  exact zos h hR (zor h (hR k) hM)
theorem rounds_low (h:OkS n N s):∃ r,xap s (yqi s)=.inl (some r)∧r.length=s.length∧∀ x∈r,x≤1:=by
 obtain ⟨R,h1,h2⟩:=rea_own h (yqi s)
 refine ⟨zyp (yqi s) (zfg s (yqi s) R (ytc s (yqi s)) []) s,?_,?_,fun x hx=>?_⟩
 ·rw [xap,yso,if_neg h.all,h1]
 ·simp [zyp]
 ·obtain ⟨k,hk⟩:=List.getElem?_of_mem hx
  rw [zyp,List.getElem?_mapIdx] at hk
  cases hy:s[k]? with
  | none=>rw [hy] at hk;cases hk
  | some y=>
   rw [hy] at hk
   simp only [Option.map_some,Option.some.injEq] at hk
   subst hk
   split
   ·exact Nat.zero_le _
   ·exact zoq (zos h h2 (M:=[]) fun e he=>by cases he) _
end
end
section
open Go.RowKit
abbrev TL:=List (Nat × AV)
abbrev HL:=List (Nat × Option LObj)
def ylr (p:AV→Bool):List Nat→TL→TL
 | _,[]=>[]
 | seen,(s,x)::r=>match yll s seen with
  | true=>ylr p seen r
  | false=>match p x with
   | true=>(s,x)::ylr p (s::seen) r
   | false=>ylr p (s::seen) r
theorem yxz {p:AV→Bool}:∀ {t:TL} {seen:List Nat} {s:Nat} {x:AV},(s,x)∈ylr p seen t→yll s seen=false∧look t s=some x
 | [],seen,s,x,h=>by simp [ylr] at h
 | (k,y)::r,seen,s,x,h=>by
  simp only [ylr] at h
  split at h
  ·rename_i hm
   obtain ⟨h1,h2⟩:=yxz h
   refine ⟨h1,?_⟩
   simp only [look]
   cases hb:Nat.beq s k with
   | true=>rw [Nat.eq_of_beq_eq_true hb,hm] at h1;cases h1
   | false=>exact h2
  ·rename_i hm
   have key:(s,x)∈ylr p (k::seen) r→yll s seen=false∧look ((k,y)::r) s=some x:=fun h=>by
    obtain ⟨h1,h2⟩:=yxz h
    simp only [yll] at h1
    cases hb:Nat.beq s k with
    | true=>rw [hb] at h1;cases h1
    | false=>rw [hb] at h1;exact ⟨h1,by simp only [look,hb];exact h2⟩
   split at h
   ·rcases List.mem_cons.1 h with e|h
    ·cases e
     exact ⟨hm,by simp [look]⟩
    ·exact key h
   ·exact key h
theorem zpe {t:TL}:∀ {l:TL},(∀ s x,(s,x)∈l→look t s=some x)→ywl t l
 | [],_=>trivial
 | (s,x)::l,h=>⟨h s x List.mem_cons_self,zpe fun s' x' hm=>h s' x' (List.mem_cons_of_mem _ hm)⟩
theorem zbl (p:AV→Bool) (t:TL):ywl t (ylr p [] t):=zpe fun s x h=>(yxz h).2
def yjk (p:Nat→LObj→Bool):List Nat→HL→HL
 | _,[]=>[]
 | seen,(s,x)::r=>match yll s seen with
  | true=>yjk p seen r
  | false=>match x with
   | none=>yjk p (s::seen) r
   | some o=>match p s o with
    | true=>(s,some o)::yjk p (s::seen) r
    | false=>yjk p (s::seen) r
theorem ynu {p:Nat→LObj→Bool}:∀ {t:HL} {seen:List Nat} {s:Nat} {x:Option LObj},(s,x)∈yjk p seen t→yll s seen=false∧hlook t s=x
 | [],seen,s,x,h=>by simp [yjk] at h
 | (k,y)::r,seen,s,x,h=>by
  simp only [yjk] at h
  split at h
  ·rename_i hm
   obtain ⟨h1,h2⟩:=ynu h
   refine ⟨h1,?_⟩
   simp only [hlook]
   cases hb:Nat.beq s k with
   | true=>rw [Nat.eq_of_beq_eq_true hb,hm] at h1;cases h1
   | false=>exact h2
  ·rename_i hm
   have key:(s,x)∈yjk p (k::seen) r→yll s seen=false∧hlook ((k,y)::r) s=x:=fun h=>by
    obtain ⟨h1,h2⟩:=ynu h
    simp only [yll] at h1
    cases hb:Nat.beq s k with
    | true=>rw [hb] at h1;cases h1
    | false=>rw [hb] at h1;exact ⟨h1,by simp only [hlook,hb];exact h2⟩
   split at h
   ·exact key h
   ·split at h
    ·rcases List.mem_cons.1 h with e|h
     ·cases e
      exact ⟨hm,by simp [hlook]⟩
     ·exact key h
    ·exact key h
theorem zpd {t:HL}:∀ {l:HL},(∀ s x,(s,x)∈l→hlook t s=x)→yrf t l
 | [],_=>trivial
 | (s,x)::l,h=>⟨fun o ho=>by rw [h s x List.mem_cons_self,ho],zpd fun s' x' hm=>h s' x' (List.mem_cons_of_mem _ hm)⟩
theorem zbk (p:Nat→LObj→Bool) (t:HL):yrf t (yjk p [] t):=zpd fun s x h=>(ynu h).2
def ywi (d:Nat) (t:TL):TL:=ylr (fun x=>!ment d x) [] t
def zkz (d:Nat) (h:HL):HL:=yjk (fun i o=>!Nat.beq d i && !yez d o) [] h
theorem zev (d:Nat) (t:TL) (h:HL):Sub (S (ywi d t) (zkz d h)) (S t h):=⟨ybv (zbl _ t),yag (zbk _ h)⟩
section
variable {P:Program} {T:Nat→Option Ty} {N:Nat} {ops:Array Oper} {lf:Oper→Bool} {Q:SS→Prop} {t:TL} {h:HL} {rest:List Oper} {op:Op} {ty:TypeId} {pos:String} {af:Array Edge} {gd:Option (Nat × Bool)} {r:AV}
theorem ycc.pre {o:Oper} {s s1:SS} {R:SS→Prop} (h:ycc P N o s1 R) (hs:Sub s1 s):ycc P N o s R:=fun B ok0 lv a w hi Q=>by
 obtain ⟨lv',hi'⟩:=hi.weak hs
 exact h B ok0 lv' a w hi' Q
def xbu (T:Nat→Option Ty) (t:TL) (h:HL) (ti:Nat) (x y:Operand):Option AV:=
 match T ti with
 | some ⟨.slc _ es _ _ _,_,_,_⟩=>match evF (look t) y with
  | some (.v (.int _ (.ofNat m)))=>match evF (look t) x with
   | some (.sl es' rows)=>match Nat.beq es' es with
    | true=>match rows[m]? with
     | some row=>some (.dp row 0)
     | none=>none
    | false=>none
   | some (.ls id es' len)=>match Nat.beq es' es && Nat.blt m len with
    | true=>match hlook h id with
     | some _=>some (.lp id (m * es))
     | none=>none
    | false=>none
   | _=>none
  | _=>none
 | _=>none
theorem idxC_ok (hT:TOK P T) {ti:Nat} {x y:Operand} (hr:xbu T t h ti x y=some r):ybu P (hlook h) (evF (look t)) (.indexAddr ti x y) ty r:=by
 unfold xbu at hr
 split at hr
 ·rename_i e es ea eb ez sz ag z hk
  split at hr
  ·rename_i k m hy
   split at hr
   ·rename_i es' rows hx
    split at hr
    ·rename_i hb
     split at hr
     ·rename_i row hrow
      simp only [Option.some.injEq] at hr
      subst hr
      obtain rfl:=Nat.eq_of_beq_eq_true hb
      exact ylj (hT _ _ hk).2.2 hx hy (by simp) (by simpa using hrow)
     ·cases hr
    ·cases hr
   ·rename_i id es' len hx
    split at hr
    ·rename_i hb
     simp only [Bool.and_eq_true] at hb
     split at hr
     ·rename_i ob hh
      simp only [Option.some.injEq] at hr
      subst hr
      obtain rfl:=Nat.eq_of_beq_eq_true hb.1
      exact yqp (hT _ _ hk).2.2 hx hh hy (by simp) (by simpa [Nat.blt_eq] using hb.2)
     ·cases hr
    ·cases hr
   ·cases hr
  ·cases hr
 ·cases hr
end
end
section
open Go.RowKit
section
variable {P:Program} {T:Nat→Option Ty} {N:Nat} {ops:Array Oper} {lf:Oper→Bool} {Q:SS→Prop} {t:TL} {h:HL} {rest:List Oper} {op:Op} {ty:TypeId} {pos:String} {af:Array Edge} {gd:Option (Nat × Bool)} {r:AV}
def zuj (T:Nat→Option Ty) (t:TL) (ti:Nat) (x:Operand) (lo hi:Option Operand):Option AV:=
 match yrs (evF (look t)) lo,yrs (evF (look t)) hi with
 | some bl,some bh=>match evF (look t) x with
  | some (.v (.string s))=>match T ti with
   | some ⟨.string,_,_,_⟩=>match decide (0≤bl.getD 0) && (decide (bl.getD 0≤bh.getD s.size) && decide (bh.getD s.size≤s.size)) with
    | true=>some (.v (.string (s.extract (bl.getD 0).toNat (bh.getD s.size).toNat)))
    | false=>none
   | _=>none
  | some (.sl es' rows)=>match T ti with
   | some ⟨.slc _ es _ _ _,_,_,_⟩=>match Nat.beq es' es && (decide (0≤bl.getD 0) && (decide (bl.getD 0≤bh.getD rows.length) && decide (bh.getD rows.length≤rows.length))) with
    | true=>some (.sl es ((rows.take (bh.getD rows.length).toNat).drop (bl.getD 0).toNat))
    | false=>none
   | _=>none
  | _=>none
 | _,_=>none
theorem sliceC_ok (hT:TOK P T) {ti:Nat} {x:Operand} {lo hi:Option Operand} (hr:zuj T t ti x lo hi=some r):ybu P (hlook h) (evF (look t)) (.slice ti x lo hi none) ty r:=by
 unfold zuj at hr
 split at hr
 ·rename_i bl bh h1 h2
  split at hr
  ·rename_i s hx
   split at hr
   ·rename_i sz ag z hk
    split at hr
    ·rename_i hb
     simp only [Option.some.injEq] at hr
     subst hr
     simp only [Bool.and_eq_true,decide_eq_true_eq] at hb
     exact yield_sslice (hT _ _ hk).2.2 hx h1 h2 hb.1 hb.2.1 hb.2.2
    ·cases hr
   ·cases hr
  ·rename_i es' rows hx
   split at hr
   ·rename_i e es ea eb ez sz ag z hk
    split at hr
    ·rename_i hb
     simp only [Option.some.injEq] at hr
     subst hr
     simp only [Bool.and_eq_true,decide_eq_true_eq] at hb
     obtain rfl:=Nat.eq_of_beq_eq_true hb.1
     exact yield_slslice (hT _ _ hk).2.2 hx h1 h2 hb.2.1 hb.2.2.1 hb.2.2.2
    ·cases hr
   ·cases hr
  ·cases hr
 ·cases hr
def zys (T:Nat→Option Ty) (t:TL) (ti:Nat) (x y:Operand):Option AV:=
 match T ti with
 | some ⟨.string,_,_,_⟩=>match evF (look t) x with
  | some (.v (.string s))=>match evF (look t) y with
   | some (.v (.int _ (.ofNat m)))=>match s[m]? with
    | some b=>some (.v (.int .u8 b.toNat))
    | none=>none
   | _=>none
  | _=>none
 | _=>none
theorem sidxC_ok (hT:TOK P T) {ti:Nat} {x y:Operand} (hr:zys T t ti x y=some r):ybu P (hlook h) (evF (look t)) (.index ti x y) ty r:=by
 unfold zys at hr
 split at hr
 ·rename_i sz ag z hk
  split at hr
  ·rename_i s hx
   split at hr
   ·rename_i k m hy
    split at hr
    ·rename_i b hb
     simp only [Option.some.injEq] at hr
     subst hr
     exact ywe (hT _ _ hk).2.2 hx hy (by simp) (by simpa using hb)
    ·cases hr
   ·cases hr
  ·cases hr
 ·cases hr
def zrw (T:Nat→Option Ty) (t:TL) (ti:Nat) (parts:List (Nat × Operand)):Option AV:=
 match T ti with
 | some y=>match y.zero.all Value.oneCell' with
  | true=>match evP (evF (look t)) parts with
   | some ps=>zgl T ti ps
   | none=>none
  | false=>none
 | none=>none
theorem buildX_ok (hT:TOK P T) {ti:Nat} {parts:List (Nat × Operand)} (hr:zrw T t ti parts=some r):ybu P (hlook h) (evF (look t)) (.build ti parts.toArray) ty r:=by
 unfold zrw at hr
 split at hr
 ·rename_i y hy
  split at hr
  ·rename_i hone
   split at hr
   ·rename_i ps hps
    exact zak hT hy hone hps hr
   ·cases hr
  ·cases hr
 ·cases hr
def zke (T:Nat→Option Ty) (t:TL) (ti len:Nat) (parts:List (Nat × Operand)):Option AV:=
 match T ti with
 | some ⟨.slc _ es _ _ ez,_,_,_⟩=>match ez.all Value.oneCell' && Nat.ble (len * es) 16777216 with
  | true=>match evP (evF (look t)) parts with
   | some ps=>match ywg (fun i=>some (i * es,es)) (yke len (ygr ez)) ps with
    | some ys=>match yap.pureL ys with
     | true=>match ynt es len ys with
      | some rows=>some (.sl es rows)
      | none=>none
     | false=>none
    | none=>none
   | none=>none
  | false=>none
 | _=>none
theorem buildSX_ok (hT:TOK P T) {ti len:Nat} {parts:List (Nat × Operand)} (hr:zke T t ti len parts=some r):ybu P (hlook h) (evF (look t)) (.buildSlice ti len parts.toArray) ty r:=by
 unfold zke at hr
 split at hr
 ·rename_i e es ea eb ez sz ag z hk
  split at hr
  ·rename_i hb
   simp only [Bool.and_eq_true] at hb
   split at hr
   ·rename_i ps hps
    split at hr
    ·rename_i ys hf
     split at hr
     ·rename_i hpu
      split at hr
      ·rename_i rows hch
       simp only [Option.some.injEq] at hr
       subst hr
       exact ynd hT hk hb.1 hps hf hpu hch hb.2
      ·cases hr
     ·cases hr
    ·cases hr
   ·cases hr
  ·cases hr
 ·cases hr
def xbx (t:TL) (h:HL) (x:Operand):Option AV:=
 match evF (look t) x with
 | some (.lp id off)=>match yqf (hlook h id) with
  | some _=>some (.lp id off)
  | none=>none
 | some (.dp row off)=>some (.dp row off)
 | _=>none
theorem nilX_ok {x:Operand} (hr:xbx t h x=some r):ybu P (hlook h) (evF (look t)) (.nilCheck x) ty r:=by
 unfold xbx at hr
 split at hr
 ·rename_i id off hx
  split at hr
  ·rename_i xs hh
   simp only [Option.some.injEq] at hr
   subst hr
   exact ylk hx hh
  ·cases hr
 ·rename_i row off hx
  simp only [Option.some.injEq] at hr
  subst hr
  exact ykc hx
 ·cases hr
def fnX (t:TL) (f:Nat) (caps:List Operand):Option AV:=
 match evL (evF (look t)) caps with
 | some xs=>some (.fn f xs)
 | none=>none
theorem fnX_ok {f:Nat} {caps:List Operand} (hr:fnX t f caps=some r):ybu P (hlook h) (evF (look t)) (.makeFunc (.func f) #[] caps.toArray) ty r:=by
 unfold fnX at hr
 split at hr
 ·rename_i xs hx
  simp only [Option.some.injEq] at hr
  subst hr
  exact yqq hx
 ·cases hr
def fmX (t:TL) (f:Nat) (first:List Operand):Option AV:=
 match evL (evF (look t)) first with
 | some xs=>some (.fm f xs)
 | none=>none
theorem fmX_ok {f:Nat} {first:List Operand} (hr:fmX t f first=some r):ybu P (hlook h) (evF (look t)) (.makeFunc (.func f) first.toArray #[]) ty r:=by
 unfold fmX at hr
 split at hr
 ·rename_i xs hx
  simp only [Option.some.injEq] at hr
  subst hr
  exact yield_makeMeth hx
 ·cases hr
def zyc (T:Nat→Option Ty) (t:TL) (h:HL) (op:Op) (ty:TypeId):Option AV:=
 match op with
 | .indexAddr ti x y=>match xbu T t h ti x y with
  | some r=>some r
  | none=>ypw T t h (.indexAddr ti x y) ty
 | .slice ti x lo hi none=>zuj T t ti x lo hi
 | .index ti x y=>zys T t ti x y
 | .build ti ⟨parts⟩=>zrw T t ti parts
 | .buildSlice ti len ⟨parts⟩=>zke T t ti len parts
 | .nilCheck x=>xbx t h x
 | .makeFunc (.func f) ⟨[]⟩ ⟨caps⟩=>fnX t f caps
 | .makeFunc (.func f) ⟨first⟩ ⟨[]⟩=>fmX t f first
 | op=>ypw T t h op ty
theorem calmX_ok (hT:TOK P T) (hr:zyc T t h op ty=some r):ybu P (hlook h) (evF (look t)) op ty r:=by
 unfold zyc at hr
 split at hr
 ·split at hr
  ·rename_i r' h1
   simp only [Option.some.injEq] at hr
   subst hr
   exact idxC_ok hT h1
  ·exact yjz hT hr
 ·exact sliceC_ok hT hr
 ·exact sidxC_ok hT hr
 ·exact buildX_ok hT hr
 ·exact buildSX_ok hT hr
 ·exact nilX_ok hr
 ·exact fnX_ok hr
 ·exact fmX_ok hr
 ·exact yjz hT hr
end
end
section
open Go.RowKit
section
variable {P:Program} {T:Nat→Option Ty} {N:Nat} {ops:Array Oper} {lf:Oper→Bool} {Q:SS→Prop} {t t':TL} {h h':HL} {rest:List Oper} {d:Nat} {op:Op} {ty:TypeId} {pos:String} {af:Array Edge} {gd:Option (Nat × Bool)} {r:AV}
theorem zbx {d:Nat}:∀ {l:TL},(∀ s x,(s,x)∈l→ment d x=false)→ydd d l=true
 | [],_=>rfl
 | (s,x)::l,h=>by
  simp only [ydd,h s x List.mem_cons_self]
  exact zbx fun s' x' hm=>h s' x' (List.mem_cons_of_mem _ hm)
theorem zbv {d:Nat}:∀ {l:HL},(∀ s x,(s,x)∈l→Nat.beq d s=false∧∀ o,x=some o→yez d o=false)→ybr d l=true
 | [],_=>rfl
 | (s,x)::l,h=>by
  obtain ⟨h1,h2⟩:=h s x List.mem_cons_self
  have h3:=zbv fun s' x' hm=>h s' x' (List.mem_cons_of_mem _ hm)
  simp only [ybr,h1]
  cases x with
  | none=>exact h3
  | some o=>simp only [h2 o rfl];exact h3
theorem ywt {p:AV→Bool}:∀ {t:TL} {seen:List Nat} {s:Nat} {x:AV},(s,x)∈ylr p seen t→p x=true
 | [],seen,s,x,h=>by simp [ylr] at h
 | (k,y)::r,seen,s,x,h=>by
  simp only [ylr] at h
  split at h
  ·exact ywt h
  ·split at h
   ·rename_i hp
    rcases List.mem_cons.1 h with e|h
    ·cases e;exact hp
    ·exact ywt h
   ·exact ywt h
theorem yoz {p:Nat→LObj→Bool}:∀ {t:HL} {seen:List Nat} {s:Nat} {x:Option LObj},(s,x)∈yjk p seen t→∃ o,x=some o∧p s o=true
 | [],seen,s,x,h=>by simp [yjk] at h
 | (k,y)::r,seen,s,x,h=>by
  simp only [yjk] at h
  split at h
  ·exact yoz h
  ·split at h
   ·exact yoz h
   ·split at h
    ·rename_i hp
     rcases List.mem_cons.1 h with e|h
     ·cases e;exact ⟨_,rfl,hp⟩
     ·exact yoz h
    ·exact yoz h
theorem off_freshT (d:Nat) (t:TL):ydd d (ywi d t)=true:=zbx fun s x hm=>by simpa using ywt hm
theorem off_freshH (d:Nat) (h:HL):ybr d (zkz d h)=true:=zbv fun s x hm=>by
 obtain ⟨o,rfl,hp⟩:=yoz hm
 simp only [Bool.and_eq_true,Bool.not_eq_true'] at hp
 exact ⟨hp.1,fun o' e=>by cases e;exact hp.2⟩
theorem ytb (d:Nat) (t:TL) (h:HL):ymi (S (ywi d t) (zkz d h)) d:=yhw (off_freshT d t) (off_freshH d h)
def xbp (t:TL) (h:HL) (d:Nat) (x:Operand):Option (TL × HL):=
 match evF (look (ywi d t)) x with
 | some y=>match ydk y with
  | some cs=>match ment.mentL d cs with
   | true=>none
   | false=>some ((d,.lp d 0)::ywi d t,(d,some (.cells cs))::zkz d h)
  | none=>none
 | none=>none
theorem boxX_ok {e:Nat} {x:Operand} (hd:Nat.blt d N=true) (hr:xbp t h d x=some (t',h')):ycc P N ⟨some d,.box e x,ty,pos,af,gd⟩ (S t h) (·=S t' h'):=by
 unfold xbp at hr
 split at hr
 ·rename_i y hx
  split at hr
  ·rename_i cs hcs
   split at hr
   ·cases hr
   ·rename_i hm
    simp only [Option.some.injEq,Prod.mk.injEq] at hr
    obtain ⟨rfl,rfl⟩:=hr
    refine ycc.pre ?_ (zev d t h)
    rw [← yqt]
    exact zmm rfl rfl (by simpa using hd) d hx hcs (ytb d t h) hm (by simpa using hd)
  ·cases hr
 ·cases hr
def zro (T:Nat→Option Ty) (t:TL) (h:HL) (d e:Nat):Option (TL × HL):=
 match T e with
 | some y=>match y.zero.all Value.oneCell' with
  | true=>some ((d,.lp d 0)::ywi d t,(d,some (.cells (ygr y.zero)))::zkz d h)
  | false=>none
 | none=>none
theorem allocX_ok (hT:TOK P T) {e:Nat} (hd:Nat.blt d N=true) (hr:zro T t h d e=some (t',h')):ycc P N ⟨some d,.alloc e,ty,pos,af,gd⟩ (S t h) (·=S t' h'):=by
 unfold zro at hr
 split at hr
 ·rename_i y hy
  split at hr
  ·rename_i hone
   simp only [Option.some.injEq,Prod.mk.injEq] at hr
   obtain ⟨rfl,rfl⟩:=hr
   refine ycc.pre ?_ (zev d t h)
   rw [← yqt,ymy]
   exact zbe hT rfl rfl (by simpa using hd) d hy hone (ytb d t h) (by simpa using hd)
  ·cases hr
 ·cases hr
def yng (d:Nat):Nat:=d+3000000
def zyi (T:Nat→Option Ty) (t:TL) (h:HL) (d ti:Nat) (x y:Operand):Option (TL × HL):=
 match T ti with
 | some ⟨.slc _ es _ eb ez,_,_,_⟩=>match evF (look (ywi (yng d) t)) x with
  | some (.v (.int .i64 (.ofNat m)))=>match evF (look (ywi (yng d) t)) y with
   | some (.v (.int .i64 (.ofNat m')))=>match ez.all Value.oneCell' && (Nat.beq m' m && (Nat.ble m 4294967296 && Nat.ble (eb * m) 281474976710656)) with
    | true=>some ((d,.ls (yng d) es m)::ywi (yng d) t,(yng d,some (.vec (yke m (ygr ez))))::zkz (yng d) h)
    | false=>none
   | _=>none
  | _=>none
 | _=>none
theorem makeX_ok (hT:TOK P T) {ti:Nat} {x y:Operand} (hd:Nat.blt d N=true) (hr:zyi T t h d ti x y=some (t',h')):ycc P N ⟨some d,.makeSlice ti x y,ty,pos,af,gd⟩ (S t h) (·=S t' h'):=by
 unfold zyi at hr
 split at hr
 ·rename_i e es ea eb ez sz ag z hk
  split at hr
  ·rename_i m hx
   split at hr
   ·rename_i m' hy
    split at hr
    ·rename_i hb
     simp only [Bool.and_eq_true,Nat.ble_eq] at hb
     obtain ⟨h1,h2,h3,h4⟩:=hb
     obtain rfl:=Nat.eq_of_beq_eq_true h2
     simp only [Option.some.injEq,Prod.mk.injEq] at hr
     obtain ⟨rfl,rfl⟩:=hr
     refine ycc.pre ?_ (zev (yng d) t h)
     rw [← yqt]
     exact yss hT rfl rfl (by simpa using hd) (yng d) hk h1 hx hy ⟨h3,h4⟩ (ytb (yng d) t h)
    ·cases hr
   ·cases hr
  ·cases hr
 ·cases hr
def zun (T:Nat→Option Ty) (t:TL) (h:HL) (ti:Nat) (x v:Operand):Option (TL × HL):=
 match T ti with
 | some y=>match evF (look t) x with
  | some (.lp id off)=>match evF (look t) v with
   | some u=>match ydk u with
    | some cs=>match Nat.beq cs.length y.size with
     | true=>match hlook h id with
      | some (.cells xs)=>match yhq off cs xs with
       | some ys=>some (t,(id,some (.cells ys))::h)
       | none=>none
      | some (.vec (z::xs))=>match yap.pureL cs with
       | true=>match yhq off cs (z::xs) with
        | some ys=>some (t,(id,some (.vec ys))::h)
        | none=>none
       | false=>none
      | _=>none
     | false=>none
    | none=>none
   | none=>none
  | _=>none
 | none=>none
theorem storeX_ok (hT:TOK P T) {ti:Nat} {x v:Operand} (hr:zun T t h ti x v=some (t',h')):ycc P N ⟨none,.store ti x v,ty,pos,af,gd⟩ (S t h) (·=S t' h'):=by
 unfold zun at hr
 split at hr
 ·rename_i y hy
  split at hr
  ·rename_i id off hx
   split at hr
   ·rename_i u hv
    split at hr
    ·rename_i cs hcs
     split at hr
     ·rename_i hcl
      split at hr
      ·rename_i xs hh
       split at hr
       ·rename_i ys hsp
        simp only [Option.some.injEq,Prod.mk.injEq] at hr
        obtain ⟨rfl,rfl⟩:=hr
        obtain ⟨h1,h2⟩:=yjd hsp
        rw [← S_h]
        exact yhr rfl rfl (hT _ _ hy).1 hx hv hcs (Nat.eq_of_beq_eq_true hcl) hh (by rw [h2];exact .cells h1)
       ·cases hr
      ·rename_i z xs hh
       split at hr
       ·rename_i hp
        split at hr
        ·rename_i ys hsp
         simp only [Option.some.injEq,Prod.mk.injEq] at hr
         obtain ⟨rfl,rfl⟩:=hr
         obtain ⟨h1,h2⟩:=yjd hsp
         rw [← S_h]
         exact yhr rfl rfl (hT _ _ hy).1 hx hv hcs (Nat.eq_of_beq_eq_true hcl) hh (by rw [h2];exact .vec h1 (yjw hp) (by simp))
        ·cases hr
       ·cases hr
      ·cases hr
     ·cases hr
    ·cases hr
   ·cases hr
  ·cases hr
 ·cases hr
def xbl (T:Nat→Option Ty) (t:TL) (h:HL) (d ti:Nat) (x y:Operand):Option (TL × HL):=
 match T ti with
 | some ⟨.slc _ es _ eb _,_,_,_⟩=>match evF (look t) x with
  | some (.v (.slice none 0 0))=>match evF (look (ywi (yng d) t)) x with
   | some (.v (.slice none 0 0))=>match evF (look (ywi (yng d) t)) y with
    | some (.sl es' rows)=>match yap.pureL rows.flatten && (Nat.beq es' es && (Nat.ble rows.length 4294967296 && Nat.ble (rows.length * eb) 140737488355328)) with
     | true=>some ((d,.ls (yng d) es rows.length)::ywi (yng d) t,(yng d,some (.vec rows.flatten))::zkz (yng d) h)
     | false=>none
    | _=>none
   | _=>none
  | some (.ls id es1 len)=>match hlook h id with
   | some (.vec xs)=>match evF (look t) y with
    | some (.sl es' rows)=>match yap.pureL rows.flatten && (Nat.beq es' es && (Nat.beq es1 es && (Nat.beq xs.length (len * es) && (Nat.ble (len+rows.length) 4294967296 && Nat.ble ((len+rows.length) * eb) 140737488355328)))) with
     | true=>match ysd id t with
      | some t1=>match ypv id h with
       | some h1=>some ((d,.ls id es (len+rows.length))::t1,(id,some (.vec (xs++rows.flatten)))::h1)
       | none=>none
      | none=>none
     | false=>none
    | _=>none
   | _=>none
  | _=>none
 | _=>none
theorem appX_ok (hT:TOK P T) {ti:Nat} {x y:Operand} (hd:Nat.blt d N=true) (hr:xbl T t h d ti x y=some (t',h')):ycc P N ⟨some d,.call { callee:=.builtin .append,args:=#[x,y],argTypes:=#[ti,ti] },ty,pos,af,gd⟩ (S t h) (·=S t' h'):=by
 unfold xbl at hr
 split at hr
 ·rename_i e es ea eb ez sz ag z hk
  split at hr
  ·split at hr
   ·rename_i hx
    split at hr
    ·rename_i es' rows hy
     split at hr
     ·rename_i hb
      simp only [Bool.and_eq_true,Nat.ble_eq] at hb
      obtain ⟨h1,h2,h3,h4⟩:=hb
      obtain rfl:=Nat.eq_of_beq_eq_true h2
      simp only [Option.some.injEq,Prod.mk.injEq] at hr
      obtain ⟨rfl,rfl⟩:=hr
      refine ycc.pre ?_ (zev (yng d) t h)
      rw [← yqt]
      exact ylc hT (yng d) rfl rfl (by simpa using hd) hk hx (ytb (yng d) t h) hy (fun ok w lv u hr=>yzz hr) (yjw h1) ⟨h3,h4⟩
     ·cases hr
    ·cases hr
   ·cases hr
  ·rename_i id es1 len hx
   split at hr
   ·rename_i xs hid
    split at hr
    ·rename_i es' rows hy
     split at hr
     ·rename_i hb
      simp only [Bool.and_eq_true,Nat.ble_eq] at hb
      obtain ⟨h1,h2,h3,h4,h5,h6⟩:=hb
      rw [Nat.eq_of_beq_eq_true h2] at hy
      rw [Nat.eq_of_beq_eq_true h3] at hx
      have hxl:=Nat.eq_of_beq_eq_true h4
      split at hr
      ·rename_i t1 ht
       split at hr
       ·rename_i h1' hh
        simp only [Option.some.injEq,Prod.mk.injEq] at hr
        obtain ⟨rfl,rfl⟩:=hr
        obtain ⟨g1,g2⟩:=ygk ht
        have e:S ((d,.ls id es (len+rows.length))::t1) ((id,some (.vec (xs++rows.flatten)))::h1')=(⟨yes (S t1 ((id,some (.vec (xs++rows.flatten)))::h1')).t (some d) (.ls id es (len+rows.length)),(S t1 ((id,some (.vec (xs++rows.flatten)))::h1')).h⟩:SS):=by
         unfold S;rw [yde]
        rw [e]
        refine ymj hT rfl rfl (by simpa using hd) hk hx hid hxl hy (fun ok w lv u hr=>yzz hr) (yjw h1) ⟨h5,h6⟩ g1 g2 (fun j ob' hj hob=>?_) ?_
        ·simp only [S,hlook,yck hj] at hob
         exact yfl hh j ob' hob
        ·simp [S,hlook]
       ·cases hr
      ·cases hr
     ·cases hr
    ·cases hr
   ·cases hr
  ·cases hr
 ·cases hr
end
end
section
open Go.RowKit
theorem zfe {ids:List Nat} {σ τ:Nat→Nat} (hσ:∀ i∈ids,σ (τ i)=i):∀ (x:AV),ydm ids x=true→yec σ (yec τ x)=x
 | .v _,_=>rfl
 | .any,_=>rfl
 | .one,_=>rfl
 | .sl _ _,_=>rfl
 | .dp _ _,_=>rfl
 | .mv _,_=>rfl
 | .lp i o,h=>by simp only [yec,hσ i (by simpa [ydm] using h)]
 | .ls i _ _,h=>by simp only [yec,hσ i (by simpa [ydm] using h)]
 | .mp i,h=>by simp only [yec,hσ i (by simpa [ydm] using h)]
 | .agg cs,h=>by simp only [yec,rows cs (by simpa [ydm] using h)]
 | .tup cs,h=>by simp only [yec,rows cs (by simpa [ydm] using h)]
 | .fn _ cs,h=>by simp only [yec,rows cs (by simpa [ydm] using h)]
 | .fm _ cs,h=>by simp only [yec,rows cs (by simpa [ydm] using h)]
 where rows:∀ (cs:List AV),ydm.onlyL ids cs=true→yec.renL σ (yec.renL τ cs)=cs
 | [],_=>rfl
 | c::cs,h=>by
  simp only [ydm.onlyL,Bool.and_eq_true] at h
  simp only [yec.renL,zfe hσ c h.1,rows cs h.2]
theorem renO_back {ids:List Nat} {σ τ:Nat→Nat} (hσ:∀ i∈ids,σ (τ i)=i) {o:LObj} (h:ynf ids o=true):yxh σ (yxh τ o)=o:=by
 cases o <;> simp only [yxh,ynf] at h ⊢ <;> rw [zfe.rows hσ _ h]
def up (i:Nat):Nat:=i+1000
def xar:List Nat→List (Nat × Nat)
 | []=>[]
 | i::l=>(up i,i)::xar l
theorem ytj {sg:List (Nat × Nat)} {i:Nat}:∀ {ids:List Nat},i∈ids→ydh (xar ids++sg) (up i)=i
 | [],h=>by cases h
 | k::l,h=>by
  simp only [xar,List.cons_append,ydh]
  cases hb:Nat.beq (up i) (up k) with
  | true=>have:=Nat.eq_of_beq_eq_true hb;unfold up at this;simp only;omega
  | false=>
   rcases List.mem_cons.1 h with rfl|h
   ·simp at hb
   ·exact ytj h
def xaa (h:HL):List Nat→HL
 | []=>[]
 | i::l=>(up i,match hlook h i with
  | some o=>some (yxh up o)
  | none=>none)::xaa h l
def znz (h:HL) (ids:List Nat):List Nat→Bool
 | []=>true
 | i::l=>(match hlook h i with
  | some o=>ynf ids o
  | none=>true) && znz h ids l
theorem znm {h:HL} {ids:List Nat} {sg:List (Nat × Nat)}:∀ {l:List Nat},(∀ i∈l,i∈ids)→znz h ids l=true→yrf h (zjs (xar ids++sg) (xaa h l))
 | [],_,_=>trivial
 | i::l,hm,ho=>by
  simp only [znz,Bool.and_eq_true] at ho
  have ih:=znm (sg:=sg) (l:=l) (fun j hj=>hm j (List.mem_cons_of_mem _ hj)) ho.2
  have hi:=hm i List.mem_cons_self
  simp only [xaa]
  cases hx:hlook h i with
  | none=>
   unfold zjs
   exact And.intro (fun o e=>by cases e) ih
  | some o=>
   rw [hx] at ho
   unfold zjs
   refine And.intro (fun o' e=>?_) ih
   simp only [Option.some.injEq] at e
   rw [ytj hi,hx,← e,renO_back (fun j hj=>ytj hj) ho.1]
def zhh:AV→List Nat
 | .lp i _=>[i]
 | .ls i _ _=>[i]
 | .mp i=>[i]
 | .agg cs=>idsL cs
 | .tup cs=>idsL cs
 | .fn _ cs=>idsL cs
 | .fm _ cs=>idsL cs
 | _=>[]
 where idsL:List AV→List Nat
 | []=>[]
 | c::cs=>zhh c++idsL cs
def xbd:LObj→List Nat
 | .cells xs=>zhh.idsL xs
 | .tcells _ xs=>zhh.idsL xs
 | .mcells xs=>zhh.idsL xs
 | _=>[]
def ztv (h:HL):Nat→List Nat→List Nat→List Nat
 | 0,_,seen=>seen
 | _+1,[],seen=>seen
 | n+1,i::r,seen=>match yll i seen with
  | true=>ztv h n r seen
  | false=>match hlook h i with
   | some o=>ztv h n (xbd o++r) (i::seen)
   | none=>ztv h n r (i::seen)
def ztk (ks:List Nat):HL→Nat→List (Nat × Nat)
 | [],_=>[]
 | (i,_)::l,m=>match yll i ks with
  | true=>ztk ks l m
  | false=>(i,m)::ztk ks l (m+1)
def xau:HL→Nat→Nat
 | [],m=>m
 | (i,_)::l,m=>xau l (match Nat.blt m i with
  | true=>i
  | false=>m)
section
variable {P:Program} {T:Nat→Option Ty} {N:Nat} {ops:Array Oper} {lf:Oper→Bool} {Q:SS→Prop} {t t':TL} {h h':HL} {rest:List Oper} {d:Nat} {op:Op} {ty:TypeId} {pos:String} {af:Array Edge} {gd:Option (Nat × Bool)} {r:AV}
theorem callMG_loud (sg:List (Nat × Nat)) {g:Operand} {args:List Operand} {ats:Array TypeId} {f:FuncId} {caps xs args0:List AV} {hs hs' h':List (Nat × Option LObj)} (hc:ypt P f args0 (hlook hs) r (hlook hs')) (hg:yvc (evF (look t) g) f caps args) (hx:evL (evF (look t)) args=some xs) (hargs:xs++caps=args0.map (yec (ydh sg)))
  (hk:ycq (yau sg)=true) (hv:ycq (ybm sg)=true) (hd1:ymn (yau sg) hs=true) (hd2:ymn (yau sg) hs'=true) (hsub:yrf h (zjs sg hs)) (hr:ydm (yau sg) r=true) (ho:yku (yau sg) hs'=true) (hh:yqh (ybm sg) (zat (ybm sg) h)=some h') (hd:Nat.blt d N=true) :
  ycc P N ⟨some d,.call { callee:=.value g,args:=args.toArray,argTypes:=ats },ty,pos,af,gd⟩ (S t h) (·=S ((d,yec (ydh sg) r)::ylt sg hs' t) (ylp sg hs' sg++h')):=by
 refine yox (σ:=ydh sg) (ids:=yau sg) rfl rfl (by simpa using hd) hg hx hargs hc (ytk hv) (yfk hd1) (yfk hd2) (ypo hsub) hr (yhp ho) (fun x y hy=>?_) (fun i hi=>yrp hk hv i hi) (fun j ob' hj hob=>?_)
 ·simp only [S,look] at hy
  cases hb:Nat.beq x d with
  | true=>simp only [hb,Option.some.injEq] at hy;exact .inl ⟨Nat.eq_of_beq_eq_true hb,hy.symm⟩
  | false=>
   simp only [hb] at hy
   refine .inr ⟨fun e=>by subst e;simp at hb,?_⟩
   rcases yhl hy with hq|⟨h1,h2⟩
   ·exact .inl hq
   ·exact .inr ⟨h1,ypf hk h2⟩
 ·have hjv:j ∉ ybm sg:=fun hm=>by
   obtain ⟨i,h1,h2⟩:=ypp hm hk
   exact hj i h1 h2
  simp only [S,yjj hjv] at hob
  obtain ⟨h1,h2⟩:=yjn hh j ob' hob
  rw [ypa hjv] at h2
  exact ⟨fun i hi=>h1 _ (yie hi),h2⟩
structure Calls0 where
 pure:FuncId→List AV→Option AV
 lent:FuncId→List AV→HL→Option (AV × HL)
 fz:FuncId→Bool
structure CallsOk (P:Program) (K:Calls0):Prop where
 pure:∀ f xs r,K.pure f xs=some r→Con P f xs r
 lent:∀ f xs hs r hs',K.lent f xs hs=some (r,hs')→ypt P f xs (hlook hs) r (hlook hs')
def zyg:HL→List Nat
 | []=>[]
 | (i,_)::l=>i::zyg l
def zvl (K:Calls0) (t:TL) (h:HL) (d f:Nat) (all:List AV):Option (TL × HL):=
 let ids:=ztv h 1000 (zhh.idsL all++zyg h) []
 match K.lent f (all.map (yec up)) (xaa h ids) with
 | none=>none
 | some (r,hs')=>
  let sg:=xar ids++ztk (ids.map up) hs' (xau h 2000000+1)
  match ydm.onlyL ids all && (znz h ids ids && (ycq (yau sg) && (ycq (ybm sg) && (ymn (yau sg) (xaa h ids) && (ymn (yau sg) hs' && (ydm (yau sg) r && yku (yau sg) hs')))))) with
  | false=>none
  | true=>match yqh (ybm sg) (zat (ybm sg) h) with
   | none=>none
   | some h1=>some ((d,yec (ydh sg) r)::ylt sg hs' t,ylp sg hs' sg++h1)
theorem ren_backL {ids:List Nat} {σ τ:Nat→Nat} (hσ:∀ i∈ids,σ (τ i)=i) {xs:List AV} (h:ydm.onlyL ids xs=true):(xs.map (yec τ)).map (yec σ)=xs:=by
 have:=zfe.rows hσ xs h
 rwa [ycf,ycf] at this
theorem znq {K:Calls0} (hK:CallsOk P K) {g:Operand} {args:List Operand} {ats:Array TypeId} {f:FuncId} {caps xs:List AV} (hg:yvc (evF (look t) g) f caps args) (hx:evL (evF (look t)) args=some xs) (hd:Nat.blt d N=true) (hr:zvl K t h d f (xs++caps)=some (t',h')) :
  ycc P N ⟨some d,.call { callee:=.value g,args:=args.toArray,argTypes:=ats },ty,pos,af,gd⟩ (S t h) (·=S t' h'):=by
 unfold zvl at hr
 simp only at hr
 split at hr
 ·cases hr
 ·rename_i r hs' hc
  split at hr
  ·cases hr
  ·rename_i hb
   simp only [Bool.and_eq_true] at hb
   obtain ⟨h1,h2,h3,h4,h5,h6,h7,h8⟩:=hb
   split at hr
   ·cases hr
   ·rename_i h1' hh
    simp only [Option.some.injEq,Prod.mk.injEq] at hr
    obtain ⟨rfl,rfl⟩:=hr
    exact callMG_loud _ (hK.lent _ _ _ _ _ hc) hg hx (ren_backL (fun i hi=>ytj hi) h1).symm h3 h4 h5 h6 (znm (fun i hi=>hi) h2) h7 h8 hh hd
end
end
section
open Go.RowKit
section
variable {P:Program} {T:Nat→Option Ty} {N:Nat} {ops:Array Oper} {lf:Oper→Bool} {Q:SS→Prop} {t t':TL} {h h':HL} {rest:List Oper} {op:Op} {ty:TypeId} {pos:String} {af:Array Edge} {gd:Option (Nat × Bool)} {r:AV} {K:Calls0} {big:Bool}
def xak (N:Nat) (d:Option Nat) (r:Option AV) (t:TL) (h:HL):Option (TL × HL):=
 match r with
 | some r=>match d with
  | some d=>match Nat.blt d N with
   | true=>some ((d,r)::t,h)
   | false=>none
  | none=>some (t,h)
 | none=>none
def zzv (K:Calls0) (big:Bool) (t:TL) (h:HL) (d:Nat) (g:Operand) (args:List Operand):Option (TL × HL):=
 match evF (look t) g with
 | some (.fn f caps)=>match evL (evF (look t)) args with
  | some xs=>match yap.pureL (xs++caps) with
   | true=>match K.pure f (xs++caps) with
    | some r=>some ((d,r)::t,h)
    | none=>none
   | false=>match big with
    | true=>zvl K t h d f (xs++caps)
    | false=>none
  | none=>none
 | some (.fm f caps)=>match args,big with
  | [],true=>zvl K t h d f caps
  | _,_=>none
 | _=>none
def xbt (T:Nat→Option Ty) (K:Calls0) (N:Nat) (big:Bool) (t:TL) (h:HL) (d:Option Nat) (op:Op) (ty:TypeId):Option (TL × HL):=
 match op with
 | .box _ x=>match d with
  | some d=>match Nat.blt d N with
   | true=>xbp t h d x
   | false=>none
  | none=>none
 | .alloc e=>match d with
  | some d=>match Nat.blt d N with
   | true=>zro T t h d e
   | false=>none
  | none=>none
 | .makeSlice ti x y=>match d with
  | some d=>match Nat.blt d N with
   | true=>zyi T t h d ti x y
   | false=>none
  | none=>none
 | .store ti x v=>match d with
  | some _=>none
  | none=>zun T t h ti x v
 | .call ⟨.builtin .append,⟨[x,y]⟩,⟨[ti,tj]⟩⟩=>match d with
  | some d=>match Nat.blt d N && Nat.beq tj ti with
   | true=>xbl T t h d ti x y
   | false=>none
  | none=>none
 | .call ⟨.value g,⟨args⟩,ats⟩=>match d with
  | some d=>match Nat.blt d N with
   | true=>zzv K big t h d g args
   | false=>none
  | none=>none
 | op=>xak N d (zyc T t h op ty) t h
theorem L_put {d:Option Nat} {r:Option AV} (hy:∀ r',r=some r'→ybu P (hlook h) (evF (look t)) op ty r') (hr:xak N d r t h=some (t',h')) (hw:yah ops (look t) ⟨d,op,ty,pos,af,gd⟩=some true) (k:Lex P N ops lf Q rest (S t' h')):Lex P N ops lf Q (⟨d,op,ty,pos,af,gd⟩::rest) (S t h):=by
 unfold xak at hr
 split at hr
 ·split at hr
  ·split at hr
   ·rename_i hd
    simp only [Option.some.injEq,Prod.mk.injEq] at hr
    obtain ⟨rfl,rfl⟩:=hr
    exact yby (hy _ rfl) hw hd k
   ·cases hr
  ·simp only [Option.some.injEq,Prod.mk.injEq] at hr
   obtain ⟨rfl,rfl⟩:=hr
   exact L_yield0 (hy _ rfl) hw k
 ·cases hr
theorem exOp_ok (hT:TOK P T) (hK:CallsOk P K) (hlf:∀ o,zta o.op=true→lf o=true) (hbig:big=true→∀ o,lf o=true) {d:Option Nat} (hr:xbt T K N big t h d op ty=some (t',h')) (hw:yah ops (look t) ⟨d,op,ty,pos,af,gd⟩=some true) (k:Lex P N ops lf Q rest (S t' h')):Lex P N ops lf Q (⟨d,op,ty,pos,af,gd⟩::rest) (S t h):=by
 unfold xbt at hr
 split at hr
 ·split at hr
  ·split at hr
   ·rename_i hd
    exact ydi (hlf _ rfl) hw (boxX_ok hd hr) k
   ·cases hr
  ·cases hr
 ·split at hr
  ·split at hr
   ·rename_i hd
    exact ydi (hlf _ rfl) hw (allocX_ok hT hd hr) k
   ·cases hr
  ·cases hr
 ·split at hr
  ·split at hr
   ·rename_i hd
    exact ydi (hlf _ rfl) hw (makeX_ok hT hd hr) k
   ·cases hr
  ·cases hr
 ·split at hr
  ·cases hr
  ·exact ydi (hlf _ rfl) hw (storeX_ok hT hr) k
 ·split at hr
  ·split at hr
   ·rename_i hd
    simp only [Bool.and_eq_true] at hd
    obtain rfl:=Nat.eq_of_beq_eq_true hd.2
    exact ydi (hlf _ rfl) hw (appX_ok hT hd.1 hr) k
   ·cases hr
  ·cases hr
 ·split at hr
  ·split at hr
   ·rename_i hd
    unfold zzv at hr
    split at hr
    ·rename_i f caps hg
     split at hr
     ·rename_i xs hx
      split at hr
      ·split at hr
       ·rename_i r hp
        simp only [Option.some.injEq,Prod.mk.injEq] at hr
        obtain ⟨rfl,rfl⟩:=hr
        exact yad hg hx (hK.pure _ _ _ hp) hw hd k
       ·cases hr
      ·split at hr
       ·exact ydi (hbig rfl _) hw (znq hK (.inl hg) hx hd hr) k
       ·cases hr
     ·cases hr
    ·rename_i f caps hg
     split at hr
     ·exact ydi (hbig rfl _) hw (znq (xs:=[]) hK (.inr ⟨hg,rfl⟩) rfl hd hr) k
     ·cases hr
    ·cases hr
   ·cases hr
  ·cases hr
 ·exact L_put (fun r' e=>calmX_ok hT e) hr hw k
def exL (T:Nat→Option Ty) (K:Calls0) (N:Nat) (big:Bool) (ops:Array Oper):List Oper→TL→HL→Option (TL × HL)
 | [],t,h=>some (t,h)
 | ⟨d,op,ty,pos,af,gd⟩::l,t,h=>match yah ops (look t) ⟨d,op,ty,pos,af,gd⟩ with
  | some true=>match xbt T K N big t h d op ty with
   | some (t1,h1)=>exL T K N big ops l t1 h1
   | none=>none
  | some false=>match xak N d (some (.v undef)) t h with
   | some (t1,h1)=>exL T K N big ops l t1 h1
   | none=>none
  | none=>none
theorem zbq (hT:TOK P T) (hK:CallsOk P K) (hlf:∀ o,zta o.op=true→lf o=true) (hbig:big=true→∀ o,lf o=true):∀ {l:List Oper} {t:TL} {h:HL},exL T K N big ops l t h=some (t',h')→Q (S t' h')→Lex P N ops lf Q l (S t h)
 | [],t,h,hr,hq=>by
  simp only [exL,Option.some.injEq,Prod.mk.injEq] at hr
  obtain ⟨rfl,rfl⟩:=hr
  exact ycu hq
 | ⟨d,op,ty,pos,af,gd⟩::l,t,h,hr,hq=>by
  simp only [exL] at hr
  split at hr
  ·rename_i hw
   split at hr
   ·rename_i t1 h1 ho
    exact exOp_ok hT hK hlf hbig ho hw (zbq hT hK hlf hbig hr hq)
   ·cases hr
  ·rename_i hw
   split at hr
   ·rename_i t1 h1 ho
    have k:=zbq hT hK hlf hbig hr hq
    unfold xak at ho
    simp only at ho
    split at ho
    ·split at ho
     ·rename_i hd
      simp only [Option.some.injEq,Prod.mk.injEq] at ho
      obtain ⟨rfl,rfl⟩:=ho
      exact zvz hw hd k
     ·cases ho
    ·simp only [Option.some.injEq,Prod.mk.injEq] at ho
     obtain ⟨rfl,rfl⟩:=ho
     exact L_skip0 hw k
   ·cases hr
  ·cases hr
end
end
section
open Go.RowKit
def eqV:Value→Value→Bool
 | .bool a,.bool b=>a == b
 | .int k a,.int k' b=>decide (k=k') && decide (a=b)
 | .string a,.string b=>decide (a=b)
 | .slice none a b,.slice none c d=>Nat.beq a c && Nat.beq b d
 | .pointer none,.pointer none=>true
 | .nilFunc,.nilFunc=>true
 | .nilIface,.nilIface=>true
 | .tuple ⟨[]⟩,.tuple ⟨[]⟩=>true
 | _,_=>false
theorem eqV_ok {a b:Value} (h:eqV a b=true):a=b:=by
 unfold eqV at h
 split at h
 ·simpa using h
 ·simp only [Bool.and_eq_true,decide_eq_true_eq] at h;rw [h.1,h.2]
 ·rw [of_decide_eq_true h]
 ·simp only [Bool.and_eq_true] at h;rw [Nat.eq_of_beq_eq_true h.1,Nat.eq_of_beq_eq_true h.2]
 ·rfl
 ·rfl
 ·rfl
 ·rfl
 ·cases h
def eqA:AV→AV→Bool
 | .v a,.v b=>eqV a b
 | .sl s xs,.sl s' ys=>Nat.beq s s' && eqR xs ys
 | .dp xs o,.dp ys o'=>eqL xs ys && Nat.beq o o'
 | .lp i o,.lp j o'=>Nat.beq i j && Nat.beq o o'
 | .ls i a b,.ls j c d=>Nat.beq i j && (Nat.beq a c && Nat.beq b d)
 | .agg xs,.agg ys=>eqL xs ys
 | .tup xs,.tup ys=>eqL xs ys
 | .fn f xs,.fn g ys=>Nat.beq f g && eqL xs ys
 | .fm f xs,.fm g ys=>Nat.beq f g && eqL xs ys
 | .any,.any=>true
 | .one,.one=>true
 | _,_=>false
 where
 eqL:List AV→List AV→Bool
 | [],[]=>true
 | x::xs,y::ys=>eqA x y && eqL xs ys
 | _,_=>false
 eqR:List (List AV)→List (List AV)→Bool
 | [],[]=>true
 | x::xs,y::ys=>eqL x y && eqR xs ys
 | _,_=>false
theorem zbp:∀ (x y:AV),eqA x y=true→x=y
 | .v a,y,h=>by cases y <;> simp only [eqA] at h <;> first|rw [eqV_ok h]|cases h
 | .sl s xs,y,h=>by
  cases y <;> simp only [eqA,Bool.and_eq_true] at h <;> first|cases h;done|rw [Nat.eq_of_beq_eq_true h.1,rws _ _ h.2]
 | .dp xs o,y,h=>by
  cases y <;> simp only [eqA,Bool.and_eq_true] at h <;> first|cases h;done|rw [Nat.eq_of_beq_eq_true h.2,row _ _ h.1]
 | .lp i o,y,h=>by
  cases y <;> simp only [eqA,Bool.and_eq_true] at h <;> first|cases h;done|rw [Nat.eq_of_beq_eq_true h.1,Nat.eq_of_beq_eq_true h.2]
 | .ls i a b,y,h=>by
  cases y <;> simp only [eqA,Bool.and_eq_true] at h <;> first|cases h;done|rw [Nat.eq_of_beq_eq_true h.1,Nat.eq_of_beq_eq_true h.2.1,Nat.eq_of_beq_eq_true h.2.2]
 | .agg xs,y,h=>by cases y <;> simp only [eqA] at h <;> first|cases h;done|rw [row _ _ h]
 | .tup xs,y,h=>by cases y <;> simp only [eqA] at h <;> first|cases h;done|rw [row _ _ h]
 | .fn f xs,y,h=>by
  cases y <;> simp only [eqA,Bool.and_eq_true] at h <;> first|cases h;done|rw [Nat.eq_of_beq_eq_true h.1,row _ _ h.2]
 | .fm f xs,y,h=>by
  cases y <;> simp only [eqA,Bool.and_eq_true] at h <;> first|cases h;done|rw [Nat.eq_of_beq_eq_true h.1,row _ _ h.2]
 | .any,y,h=>by cases y <;> simp only [eqA] at h <;> first|rfl|cases h
 | .one,y,h=>by cases y <;> simp only [eqA] at h <;> first|rfl|cases h
 | .mp i,y,h=>by cases y <;> simp only [eqA] at h <;> cases h
 | .mv i,y,h=>by cases y <;> simp only [eqA] at h <;> cases h
 where
 row:∀ (x y:List AV),eqA.eqL x y=true→x=y
 | [],[],_=>rfl
 | [],_::_,h=>by simp [eqA.eqL] at h
 | _::_,[],h=>by simp [eqA.eqL] at h
 | x::xs,y::ys,h=>by
  simp only [eqA.eqL,Bool.and_eq_true] at h
  rw [zbp x y h.1,row xs ys h.2]
 rws:∀ (x y:List (List AV)),eqA.eqR x y=true→x=y
 | [],[],_=>rfl
 | [],_::_,h=>by simp [eqA.eqR] at h
 | _::_,[],h=>by simp [eqA.eqR] at h
 | x::xs,y::ys,h=>by
  simp only [eqA.eqR,Bool.and_eq_true] at h
  rw [row x y h.1,rws xs ys h.2]
def eqO:LObj→LObj→Bool
 | .cells xs,.cells ys=>eqA.eqL xs ys
 | .vec xs,.vec ys=>eqA.eqL xs ys
 | _,_=>false
theorem eqO_ok {x y:LObj} (h:eqO x y=true):x=y:=by
 unfold eqO at h
 split at h
 ·rw [zbp.row _ _ h]
 ·rw [zbp.row _ _ h]
 ·cases h
end
section
open Go.RowKit
def xbr (x y:Option LObj):Bool:=match x,y with
 | some a,some b=>eqO a b
 | none,none=>true
 | _,_=>false
theorem eqHo_ok {x y:Option LObj} (h:xbr x y=true):x=y:=by
 unfold xbr at h
 split at h
 ·rw [eqO_ok h]
 ·rfl
 ·cases h
def zjb (t u:HL):HL→Bool
 | []=>true
 | (s,_)::l=>xbr (hlook t s) (hlook u s) && zjb t u l
theorem yzw {t u:HL}:∀ {l:HL},zjb t u l=true→∀ s x,(s,x)∈l→hlook t s=hlook u s
 | [],_,s,x,h=>by cases h
 | (k,y)::l,hb,s,x,h=>by
  simp only [zjb,Bool.and_eq_true] at hb
  rcases List.mem_cons.1 h with e|h
  ·cases e;exact eqHo_ok hb.1
  ·exact yzw hb.2 s x h
theorem yui:∀ {l:HL} {i:Nat},(∀ x,(i,x) ∉ l)→hlook l i=none
 | [],i,_=>rfl
 | (k,x)::l,i,h=>by
  simp only [hlook]
  cases hb:Nat.beq i k with
  | true=>exact absurd (by rw [Nat.eq_of_beq_eq_true hb];exact List.mem_cons_self) (h x)
  | false=>exact yui fun y hy=>h y (List.mem_cons_of_mem _ hy)
def zyq (t u:HL):Bool:=zjb t u t && zjb t u u
theorem sameH_ok {t u:HL} (h:zyq t u=true):hlook t=hlook u:=by
 simp only [zyq,Bool.and_eq_true] at h
 funext i
 by_cases h1:∃ x,(i,x)∈t
 ·obtain ⟨x,hx⟩:=h1;exact yzw h.1 i x hx
 ·by_cases h2:∃ x,(i,x)∈u
  ·obtain ⟨x,hx⟩:=h2;exact yzw h.2 i x hx
  ·rw [yui fun x hx=>h1 ⟨x,hx⟩,yui fun x hx=>h2 ⟨x,hx⟩]
def yrc (t u:TL):TL→Bool
 | []=>true
 | (s,_)::l=>(match look t s,look u s with
  | some a,some b=>eqA a b
  | none,none=>true
  | _,_=>false) && yrc t u l
theorem yuw {t u:TL}:∀ {l:TL},yrc t u l=true→∀ s x,(s,x)∈l→look t s=look u s
 | [],_,s,x,h=>by cases h
 | (k,y)::l,hb,s,x,h=>by
  simp only [yrc,Bool.and_eq_true] at hb
  rcases List.mem_cons.1 h with e|h
  ·cases e
   have h1:=hb.1
   split at h1
   ·rename_i a b ha hb';rw [ha,hb',zbp _ _ h1]
   ·rename_i ha hb';rw [ha,hb']
   ·cases h1
  ·exact yuw hb.2 s x h
theorem yyw:∀ {l:TL} {i:Nat},(∀ x,(i,x) ∉ l)→look l i=none
 | [],i,_=>rfl
 | (k,x)::l,i,h=>by
  simp only [look]
  cases hb:Nat.beq i k with
  | true=>exact absurd (by rw [Nat.eq_of_beq_eq_true hb];exact List.mem_cons_self) (h x)
  | false=>exact yyw fun y hy=>h y (List.mem_cons_of_mem _ hy)
theorem sameT_ok {t u:TL} (h:(yrc t u t && yrc t u u)=true):look t=look u:=by
 simp only [Bool.and_eq_true] at h
 funext i
 by_cases h1:∃ x,(i,x)∈t
 ·obtain ⟨x,hx⟩:=h1;exact yuw h.1 i x hx
 ·by_cases h2:∃ x,(i,x)∈u
  ·obtain ⟨x,hx⟩:=h2;exact yuw h.2 i x hx
  ·rw [yyw fun x hx=>h1 ⟨x,hx⟩,yyw fun x hx=>h2 ⟨x,hx⟩]
def zyr (t:TL) (h:HL) (u:TL) (g:HL):Bool:=(yrc t u t && yrc t u u) && zyq h g
theorem sameS_ok {t u:TL} {h g:HL} (hb:zyr t h u g=true):S t h=S u g:=by
 simp only [zyr] at hb
 rw [Bool.and_eq_true] at hb
 unfold S
 rw [sameT_ok hb.1,sameH_ok hb.2]
end
section
open Go.RowKit
section
variable {P:Program} {T:Nat→Option Ty} {N:Nat} {ops:Array Oper} {Q:SS→Prop} {K:Calls0}
def yww (ops:Array Oper) (listed:Array Bool):List Nat→Option Nat
 | []=>none
 | k::l=>match zir ops lf0 [k] listed with
  | true=>some k
  | false=>yww ops listed l
theorem yyg {listed:Array Bool}:∀ {l:List Nat} {k:Nat},yww ops listed l=some k→zir ops lf0 [k] listed=true
 | [],k,h=>by cases h
 | i::l,k,h=>by
  unfold yww at h
  split at h
  ·rename_i hp;simp only [Option.some.injEq] at h;subst h;exact hp
  ·exact yyg h
def zna (f:Nat→Option (TL × HL)):List Nat→Option (TL × HL)
 | []=>none
 | [k]=>f k
 | k::l=>match f k with
  | none=>none
  | some (t1,h1)=>match zna f l with
   | none=>none
   | some (t2,h2)=>match zyr t1 h1 t2 h2 with
    | true=>some (t2,h2)
    | false=>none
theorem zgt {f:Nat→Option (TL × HL)}:∀ {l:List Nat} {t':TL} {h':HL},zna f l=some (t',h')→l≠[]∧∀ k∈l,∃ t1 h1,f k=some (t1,h1)∧S t1 h1=S t' h'
 | [],t',h',h=>by cases h
 | [k],t',h',h=>⟨by simp,fun j hj=>by
  simp only [List.mem_singleton] at hj
  subst hj
  exact ⟨t',h',h,rfl⟩⟩
 | k::i::l,t',h',h=>by
  unfold zna at h
  split at h
  ·cases h
  ·rename_i t1 h1 hf
   split at h
   ·cases h
   ·rename_i t2 h2 hg
    split at h
    ·rename_i hs
     simp only [Option.some.injEq,Prod.mk.injEq] at h
     obtain ⟨rfl,rfl⟩:=h
     obtain ⟨_,ih⟩:=zgt hg
     refine ⟨by simp,fun j hj=>?_⟩
     rcases List.mem_cons.1 hj with rfl|hj
     ·exact ⟨t1,h1,hf,sameS_ok hs⟩
     ·exact ih j hj
    ·cases h
def zpz (T:Nat→Option Ty) (K:Calls0) (N:Nat) (ops:Array Oper):Nat→Array Bool→TL→HL→Option (TL × HL)
 | 0,listed,t,h=>match ytd ops lf0 [] listed with
  | true=>some (t,h)
  | false=>none
 | n+1,listed,t,h=>match yww ops listed (Region.ready .any ops listed) with
  | some k=>match ops[k]? with
   | some o=>match exL T K N false ops [o] t h with
    | some (t1,h1)=>zpz T K N ops n (yho [k] listed) t1 h1
    | none=>none
   | none=>none
  | none=>zna (fun k=>match ops[k]? with
   | some o=>match exL T K N false ops [o] t h with
    | some (t1,h1)=>zpz T K N ops n (listed.setIfInBounds k true) t1 h1
    | none=>none
   | none=>none) (Region.ready .any ops listed)
theorem zdw (hT:TOK P T) (hK:CallsOk P K):∀ (n:Nat) (listed:Array Bool) (t:TL) (h:HL) (t':TL) (h':HL),zpz T K N ops n listed t h=some (t',h')→Q (S t' h')→zuy P N ops lf0 Q n listed (S t h)
 | 0,listed,t,h,t',h',hr,hq=>by
  simp only [zpz] at hr
  split at hr
  ·rename_i ho
   simp only [Option.some.injEq,Prod.mk.injEq] at hr
   obtain ⟨rfl,rfl⟩:=hr
   exact yay [] (l:=[]) yal rfl ho (ycu hq)
  ·cases hr
 | n+1,listed,t,h,t',h',hr,hq=>by
  simp only [zpz] at hr
  split at hr
  ·rename_i k hp
   split at hr
   ·rename_i o ho
    split at hr
    ·rename_i t1 h1 hx
     refine yjh [k] n (l:=[o]) (yaa ho yal) (by simp;omega) (yyg hp) ?_
     exact zbq hT hK (fun _ ho=>ho) (fun e=>by cases e) hx (zdw hT hK n _ _ _ _ _ hr hq)
    ·cases hr
   ·cases hr
  ·obtain ⟨hne,hall⟩:=zgt hr
   refine yav _ n rfl rfl hne ?_
   generalize Region.ready .any ops listed=ks at hall
   clear hne hr
   induction ks with
   | nil=>exact trivial
   | cons k ks ih=>
    refine ⟨?_,ih fun j hj=>hall j (List.mem_cons_of_mem _ hj)⟩
    obtain ⟨t1,h1,hf,hs⟩:=hall k List.mem_cons_self
    split at hf
    ·rename_i o ho
     split at hf
     ·rename_i t2 h2 hx
      refine ⟨o,ho,zbq hT hK (fun _ ho=>ho) (fun e=>by cases e) hx (zdw hT hK n _ _ _ _ _ hf (hs ▸ hq))⟩
     ·cases hf
    ·cases hf
end
end
end Go.Proofs.YtfhejdcijbgikaaGreatDoor
