/- Part 1 of the texts under TopRenumberingCommutes: joined, with what it needs alone. -/
import Derived.Below
import Derived.WalkSmall
import Derived.Test.YtgpbgfpjlhoicaaGreatDoorRows
import Derived.WalkKit
import Derived.WalkSpells
import Derived.WalkLawsBesides
import Derived.Lib.Hide
import Derived.Deep.Slices
import Derived.ChangeArms
import Derived.OpenShut
import Derived.WideShapes
import Derived.Deep.AppendLies
import Derived.Deep.RegionLaw
import Derived.Deep.LoopGhost
namespace Go.Proofs.YtgpbgfpjlhoicaaGreatDoor
section
open Go.RowKit
abbrev Tm:=Int × Int
def ar (op:Int):Int:=if op < 1∨43 < op then -1 else if op≤17 then 0 else if op≤29 then 1 else if op≤42 then 2 else 3
def yjk (op:Int):Bool:=decide (20≤op) && decide (op≤29)
theorem zkm (op:Int):-1≤ar op∧ar op≤3:=by
 unfold ar;repeat' split
 all_goals omega
inductive Ex where
 | lf (t:Tm)
 | un (t:Tm) (a:Ex)
 | bi (t:Tm) (a b:Ex)
 | tr (t:Tm) (a b c:Ex)
namespace Ex
def fl:Ex→List Tm
 | lf t=>[t]
 | un t a=>t::a.fl
 | bi t a b=>t::(a.fl++b.fl)
 | tr t a b c=>t::(a.fl++(b.fl++c.fl))
def ok:Ex→Prop
 | lf t=>ar t.1=0
 | un t a=>ar t.1=1∧a.ok
 | bi t a b=>ar t.1=2∧a.ok∧b.ok
 | tr t a b c=>ar t.1=3∧a.ok∧b.ok∧c.ok
def dp:Ex→Nat
 | lf _=>1
 | un _ a=>a.dp+1
 | bi _ a b=>max a.dp b.dp+1
 | tr _ a b c=>max a.dp (max b.dp c.dp)+1
def ns:Ex→Nat
 | lf _=>0
 | un t a=>if yjk t.1 then a.ns+1 else a.ns
 | bi _ a b=>max a.ns b.ns
 | tr _ a b c=>max a.ns (max b.ns c.ns)
theorem fl_pos (E:Ex):1≤E.fl.length:=by cases E <;> simp [fl]
end Ex
def zjy:Nat→List Tm→Option Nat
 | 0,_=>some 0
 | _+1,[]=>none
 | w+1,t::l=>if ar t.1 < 0 then none else (zjy (w+(ar t.1).toNat) l).map (·+1)
theorem yog (l:List Tm):zjy 0 l=some 0:=by cases l <;> rfl
theorem endN_nil (w:Nat):zjy (w+1) []=none:=rfl
theorem zml (w:Nat) (t:Tm) (l:List Tm) (h:ar t.1 < 0):zjy (w+1) (t::l)=none:=by simp only [zjy];rw [if_pos h]
theorem ylm (w:Nat) (t:Tm) (l:List Tm) (h:¬ ar t.1 < 0):zjy (w+1) (t::l)=(zjy (w+(ar t.1).toNat) l).map (·+1):=by simp only [zjy];rw [if_neg h]
theorem zks (E:Ex):E.ok→∀ (w:Nat) (r:List Tm),zjy (w+1) (E.fl++r)=(zjy w r).map (·+E.fl.length):=by
 induction E with
 | lf t=>
  intro h w r
  have h':ar t.1=0:=h
  simp only [Ex.fl,List.cons_append,List.nil_append]
  rw [ylm w t r (by omega),h'];rfl
 | un t a iha=>
  intro ⟨h,ha⟩ w r
  simp only [Ex.fl,List.cons_append]
  rw [ylm w t _ (by omega),h,show w+(1:Int).toNat=w+1 from rfl,iha ha,Option.map_map]
  congr 1
 | bi t a b iha ihb=>
  intro ⟨h,ha,hb⟩ w r
  simp only [Ex.fl,List.cons_append,List.append_assoc]
  rw [ylm w t _ (by omega),h,show w+(2:Int).toNat=(w+1)+1 from rfl,iha ha,ihb hb,Option.map_map,Option.map_map]
  congr 1
  funext x;simp [List.length_append];omega
 | tr t a b c iha ihb ihc=>
  intro ⟨h,ha,hb,hc⟩ w r
  simp only [Ex.fl,List.cons_append,List.append_assoc]
  rw [ylm w t _ (by omega),h,show w+(3:Int).toNat=((w+1)+1)+1 from rfl,iha ha,ihb hb,ihc hc,Option.map_map,Option.map_map,Option.map_map]
  congr 1
  funext x;simp [List.length_append];omega
def ydy:List Tm→Option (List Ex)
 | []=>some []
 | t::l=>
  match ydy l with
  | none=>none
  | some F=>
   if ar t.1=0 then some (.lf t::F)
   else if ar t.1=1 then (match F with|a::F=>some (.un t a::F)|_=>none)
   else if ar t.1=2 then (match F with|a::b::F=>some (.bi t a b::F)|_=>none)
   else if ar t.1=3 then (match F with|a::b::c::F=>some (.tr t a b c::F)|_=>none)
   else none
theorem ysh (E:Ex):E.ok→∀ (r:List Tm) (F:List Ex),ydy r=some F→ydy (E.fl++r)=some (E::F):=by
 induction E with
 | lf t=>intro h r F hr;have h':ar t.1=0:=h;simp [Ex.fl,ydy,hr,h']
 | un t a iha=>intro ⟨h,ha⟩ r F hr;simp [Ex.fl,ydy,iha ha r F hr,h]
 | bi t a b iha ihb=>intro ⟨h,ha,hb⟩ r F hr;simp [Ex.fl,ydy,iha ha _ _ (ihb hb r F hr),h]
 | tr t a b c iha ihb ihc=>intro ⟨h,ha,hb,hc⟩ r F hr;simp [Ex.fl,ydy,iha ha _ _ (ihb hb _ _ (ihc hc r F hr)),h]
def yrh (F:List Ex):List Tm:=F.flatMap Ex.fl
theorem forest_inv (l:List Tm):∀ F,ydy l=some F→(∀ E∈F,E.ok)∧yrh F=l:=by
 induction l with
 | nil=>intro F h;simp [ydy] at h;subst h;simp [yrh]
 | cons t l ih=>
  intro F h
  simp only [ydy] at h
  cases hl:ydy l with
  | none=>rw [hl] at h;cases h
  | some G=>
   obtain ⟨h1,h2⟩:=ih G hl
   rw [hl] at h
   simp only at h
   by_cases a0:ar t.1=0
   ·rw [if_pos a0] at h;cases h
    refine ⟨fun E hE=>?_,by simp only [yrh,List.flatMap_cons,Ex.fl] at *;rw [h2];rfl⟩
    cases hE with
    | head=>exact a0
    | tail _ hE=>exact h1 E hE
   rw [if_neg a0] at h
   by_cases a1:ar t.1=1
   ·rw [if_pos a1] at h
    match G,h,h1,h2 with
    | a::G,h,h1,h2=>
     cases h
     refine ⟨fun E hE=>?_,by simp only [yrh,List.flatMap_cons,Ex.fl] at *;rw [← h2];rfl⟩
     cases hE with
     | head=>exact ⟨a1,h1 a (List.mem_cons_self ..)⟩
     | tail _ hE=>exact h1 E (List.mem_cons_of_mem _ hE)
   rw [if_neg a1] at h
   by_cases a2:ar t.1=2
   ·rw [if_pos a2] at h
    match G,h,h1,h2 with
    | a::b::G,h,h1,h2=>
     cases h
     refine ⟨fun E hE=>?_,by simp only [yrh,List.flatMap_cons,Ex.fl] at *;rw [← h2];simp⟩
     cases hE with
     | head=>exact ⟨a2,h1 a (by simp),h1 b (by simp)⟩
     | tail _ hE=>exact h1 E (List.mem_cons_of_mem _ (List.mem_cons_of_mem _ hE))
   rw [if_neg a2] at h
   by_cases a3:ar t.1=3
   ·rw [if_pos a3] at h
    match G,h,h1,h2 with
    | a::b::c::G,h,h1,h2=>
     cases h
     refine ⟨fun E hE=>?_,by simp only [yrh,List.flatMap_cons,Ex.fl] at *;rw [← h2];simp⟩
     cases hE with
     | head=>exact ⟨a3,h1 a (by simp),h1 b (by simp),h1 c (by simp)⟩
     | tail _ hE=>exact h1 E (List.mem_cons_of_mem _ (List.mem_cons_of_mem _ (List.mem_cons_of_mem _ hE)))
   rw [if_neg a3] at h;cases h
def yet (l:List Tm):Option Ex:=match ydy l with|some [E]=>some E|_=>none
theorem parse_fl (E:Ex) (h:E.ok):yet E.fl=some E:=by
 have:=ysh E h [] [] rfl
 rw [List.append_nil] at this
 unfold yet;rw [this]
theorem ygj {l:List Tm} {E:Ex} (h:yet l=some E):E.ok∧E.fl=l:=by
 unfold yet at h
 split at h
 ·rename_i E' hf
  cases h
  obtain ⟨h1,h2⟩:=forest_inv l _ hf
  exact ⟨h1 E (by simp),by simpa [yrh] using h2⟩
 ·cases h
theorem endN_forest (l:List Tm):∀ (w n:Nat),zjy w l=some n→∃ F:List Ex,F.length=w∧(∀ E∈F,E.ok)∧l.take n=yrh F:=by
 induction l with
 | nil=>intro w n h;cases w <;> simp [zjy] at h;exact ⟨[],rfl,by simp,by simp [yrh]⟩
 | cons t l ih=>
  intro w n h
  cases w with
  | zero=>rw [yog] at h;cases h;exact ⟨[],rfl,by simp,by simp [yrh]⟩
  | succ w=>
   by_cases hb:ar t.1 < 0
   ·rw [zml w t l hb] at h;cases h
   ·rw [ylm w t l hb,Option.map_eq_some_iff] at h
    obtain ⟨m,hm,rfl⟩:=h
    obtain ⟨F,h1,h2,h3⟩:=ih _ _ hm
    rw [List.take_succ_cons,h3]
    have hk:=zkm t.1
    have cases4:ar t.1=0∨ar t.1=1∨ar t.1=2∨ar t.1=3:=by omega
    rcases cases4 with hk|hk|hk|hk <;> rw [hk] at h1
    ·exact ⟨.lf t::F,by simp at *;omega,fun E hE=>by
      cases hE with
      | head=>exact hk
      | tail _ hE=>exact h2 E hE,by simp [yrh,Ex.fl]⟩
    ·match F,h1,h2 with
     | a::F,h1,h2=>exact ⟨.un t a::F,by simp at *;omega,fun E hE=>by
       cases hE with
       | head=>exact ⟨hk,h2 a (by simp)⟩
       | tail _ hE=>exact h2 E (List.mem_cons_of_mem _ hE),by simp [yrh,Ex.fl]⟩
     | [],h1,_=>simp at h1
    ·match F,h1,h2 with
     | a::b::F,h1,h2=>exact ⟨.bi t a b::F,by simp at *;omega,fun E hE=>by
       cases hE with
       | head=>exact ⟨hk,h2 a (by simp),h2 b (by simp)⟩
       | tail _ hE=>exact h2 E (List.mem_cons_of_mem _ (List.mem_cons_of_mem _ hE)),by simp [yrh,Ex.fl]⟩
     | [a],h1,_=>simp at h1
     | [],h1,_=>simp at h1
    ·match F,h1,h2 with
     | a::b::c::F,h1,h2=>exact ⟨.tr t a b c::F,by simp at *;omega,fun E hE=>by
       cases hE with
       | head=>exact ⟨hk,h2 a (by simp),h2 b (by simp),h2 c (by simp)⟩
       | tail _ hE=>exact h2 E (List.mem_cons_of_mem _ (List.mem_cons_of_mem _ (List.mem_cons_of_mem _ hE))),by simp [yrh,Ex.fl]⟩
     | [a,b],h1,_=>simp at h1
     | [a],h1,_=>simp at h1
     | [],h1,_=>simp at h1
theorem parse_iff (l:List Tm):(∃ E,yet l=some E)↔zjy 1 l=some l.length:=by
 constructor
 ·rintro ⟨E,h⟩
  obtain ⟨h1,h2⟩:=ygj h
  have:=zks E h1 0 []
  rw [List.append_nil,h2,yog] at this
  simpa using this
 ·intro h
  obtain ⟨F,h1,h2,h3⟩:=endN_forest l 1 l.length h
  match F,h1,h2,h3 with
  | [E],_,h2,h3=>
   refine ⟨E,?_⟩
   rw [List.take_length] at h3
   rw [h3,yrh,List.flatMap_cons,List.flatMap_nil,List.append_nil]
   exact parse_fl E (h2 E (by simp))
def yrc (vars:Int) (t:Tm):Bool:=
 if t.1=1 then decide (0≤t.2) && decide (t.2≤1073741824) else if t.1=5∨t.1=12 then decide (0≤t.2) && decide (t.2 < vars) else decide (t.2=0)
def ycr (l:List Tm) (vars:Int):Bool:=
 match yet l with
 | none=>false
 | some E=>decide (l.length≤200) && (l.all (yrc vars) && (decide (E.dp≤24) && decide (E.ns≤2)))
end
set_option linter.unusedVariables false
section
open Go.RowKit
abbrev Lk:=Int × Int
structure GraphD where
 ids:List Int
 ports:List (List Lk)
def GraphD.n (g:GraphD):Nat:=g.ports.length
def zie (n v:Nat) (l:Lk):Bool:=decide (0≤l.1) && (decide (l.1 < n) && (!(l.1 == (v:Int)) && (decide (1≤l.2) && decide (l.2≤15))))
theorem ybk (n v:Nat) (l:Lk):zie n v l=true↔0≤l.1∧l.1 < n∧l.1≠v∧1≤l.2∧l.2≤15:=by
 unfold zie
 simp
def ygh (n v:Nat) (ls:List Lk):Bool:=ls.all (zie n v) && decide ((ls.map (·.1)).Nodup)
def idB (x:Int):Bool:=decide (0≤x) && decide (x≤255)
def zkb (l:List Int):Bool:=l.all idB && decide l.Nodup
def ydd (ls:List Lk) (u:Int):Int:=match ls.find? (fun l=>l.1 == u) with|some l=>l.2|none=>0
def yzs (ports:List (List Lk)):Bool:=(List.range ports.length).all fun v=>ygh ports.length v (ports.getD v [])
def zyr (ports:List (List Lk)):Bool:=(List.range ports.length).all fun v=>(ports.getD v []).all fun l=>ydd (ports.getD l.1.toNat []) v == l.2
def ybs (g:GraphD):Bool:=decide (1≤g.ports.length) && (decide (g.ports.length≤24) && (decide (g.ids.length=g.ports.length) && (zkb g.ids && (yzs g.ports && zyr g.ports))))
theorem pigeon (n:Nat):∀ l:List Nat,l.Nodup→(∀ x∈l,x < n)→l.length≤n:=by
 induction n with
 | zero=>
  intro l _ h
  cases l with
  | nil=>simp
  | cons a l=>exact absurd (h a (by simp)) (by omega)
 | succ n ih=>
  intro l hn h
  by_cases hm:n∈l
  ·have h1:=ih (l.erase n) (hn.erase n) (fun x hx=>by
    have h2:=h x (List.mem_of_mem_erase hx)
    have h3:x≠n:=fun e=>by rw [e] at hx;exact (List.Nodup.not_mem_erase hn) hx
    omega)
   rw [List.length_erase_of_mem hm] at h1
   omega
  ·have:=ih l hn (fun x hx=>by have h2:=h x hx;have h3:x≠n:=fun e=>hm (e ▸ hx);omega)
   omega
theorem yiv {α β:Type} (f:α→β):∀ l:List α,l.Nodup→(∀ x∈l,∀ y∈l,f x=f y→x=y)→(l.map f).Nodup:=by
 intro l
 induction l with
 | nil=>intro _ _;simp
 | cons a l ih=>
  intro hn hf
  rw [List.map_cons,List.nodup_cons] at *
  refine ⟨fun h=>?_,ih hn.2 fun x hx y hy h=>hf x (by simp [hx]) y (by simp [hy]) h⟩
  rw [List.mem_map] at h
  obtain ⟨b,hb,he⟩:=h
  exact hn.1 (hf b (by simp [hb]) a (by simp) he ▸ hb)
theorem ydp {n v:Nat} {ls:List Lk} (hv:v < n) (h:ygh n v ls=true):ls.length < n:=by
 unfold ygh at h
 rw [Bool.and_eq_true,decide_eq_true_eq,List.all_eq_true] at h
 obtain ⟨h1,h2⟩:=h
 have hb:∀ x:Int,x∈ls.map (·.1)→0≤x∧x < n∧x≠v:=by
  intro x hx
  rw [List.mem_map] at hx
  obtain ⟨l,hl,rfl⟩:=hx
  have:=(ybk n v l).1 (h1 l hl)
  exact ⟨this.1,this.2.1,this.2.2.1⟩
 have h3:((ls.map (·.1)).map Int.toNat).Nodup:=yiv Int.toNat _ h2 fun x hx y hy he=>by
  have hx':=hb x hx
  have hy':=hb y hy
  omega
 have h4:=pigeon n (v::(ls.map (·.1)).map Int.toNat) (by
  rw [List.nodup_cons]
  refine ⟨fun hm=>?_,h3⟩
  rw [List.mem_map] at hm
  obtain ⟨x,hx,he⟩:=hm
  have:=hb x hx
  omega) (fun x hx=>by
   rcases List.mem_cons.1 hx with rfl|hx
   ·exact hv
   ·rw [List.mem_map] at hx
    obtain ⟨y,hy,rfl⟩:=hx
    have:=hb y hy
    omega)
 simp at h4
 omega
theorem yal {g:GraphD} (h:ybs g=true):1≤g.ports.length∧g.ports.length≤24∧g.ids.length=g.ports.length∧(∀ x∈g.ids,0≤x∧x≤255)∧g.ids.Nodup ∧
  (∀ (v:Nat) (ls:List Lk),g.ports[v]?=some ls→ygh g.ports.length v ls=true)∧(∀ (v:Nat) (ls:List Lk),g.ports[v]?=some ls→∀ l∈ls,ydd (g.ports.getD l.1.toNat []) v=l.2):=by
 unfold ybs at h
 simp only [Bool.and_eq_true,decide_eq_true_eq] at h
 obtain ⟨h1,h2,h3,h4,h5,h6⟩:=h
 unfold zkb at h4
 simp only [Bool.and_eq_true,decide_eq_true_eq,List.all_eq_true,idB] at h4
 refine ⟨h1,h2,h3,h4.1,h4.2,fun v ls hv=>?_,fun v ls hv l hl=>?_⟩
 ·have hlt:=(List.getElem?_eq_some_iff.1 hv).1
  have:=List.all_eq_true.1 h5 v (List.mem_range.2 hlt)
  rw [List.getD_eq_getElem?_getD,hv] at this
  exact this
 ·have hlt:=(List.getElem?_eq_some_iff.1 hv).1
  have:=List.all_eq_true.1 h6 v (List.mem_range.2 hlt)
  rw [List.getD_eq_getElem?_getD,hv] at this
  have:=List.all_eq_true.1 this l hl
  simpa using this
end
section
theorem zew {l:List Int} {k:Nat} {x:Int} (hx:l[k]?=some x) (h:idB x=false):zkb l=false:=by
 unfold zkb
 rw [List.all_eq_false.2 ⟨x,List.mem_of_getElem? hx,by simp [h]⟩];rfl
theorem zck {l:List Int} {k:Nat} {x:Int} (hx:l[k]?=some x) (h:x∈l.take k):zkb l=false:=by
 unfold zkb
 have:¬ l.Nodup:=by
  intro hn
  obtain ⟨j,hj⟩:=List.getElem?_of_mem h
  rw [List.getElem?_take] at hj
  split at hj
  ·rename_i hjk
   have h1:=List.getElem?_eq_some_iff.1 hj
   have h2:=List.getElem?_eq_some_iff.1 hx
   have:=(List.pairwise_iff_getElem.1 hn) j k h1.1 h2.1 hjk
   rw [h1.2,h2.2] at this
   exact this rfl
  ·cases hj
 simp [this]
theorem znd (l:List Int):zkb l=true↔(∀ x∈l,idB x=true)∧l.Nodup:=by
 unfold zkb;rw [Bool.and_eq_true,decide_eq_true_eq,List.all_eq_true]
theorem yil {α:Type} {l:List α} {k:Nat} {x:α} (hx:l[k]?=some x):l.take (k+1)=l.take k++[x]:=by
 rw [List.take_add_one,hx];rfl
theorem zia {l:List Int} {k:Nat} {x:Int} (hx:l[k]?=some x) (h:zkb (l.take k)=true) (h1:idB x=true) (h2:x ∉ l.take k):zkb (l.take (k+1))=true:=by
 rw [znd] at *
 rw [yil hx]
 refine ⟨fun y hy=>?_,?_⟩
 ·rcases List.mem_append.1 hy with hy|hy
  ·exact h.1 y hy
  ·simp at hy;subst hy;exact h1
 ·rw [List.nodup_append]
  exact ⟨h.2,by simp,fun a ha b hb=>by simp at hb;subst hb;exact fun e=>h2 (e ▸ ha)⟩
def ysa (l:List Int):List Bool:=(List.range 256).map fun i:Nat=>decide ((i:Int)∈l)
theorem bits_nil:ysa []=List.replicate 256 false:=by
 unfold ysa
 rw [show (fun i:Nat=>decide ((i:Int)∈([]:List Int)))=fun _=>false from by funext i;simp,List.map_const',List.length_range]
theorem bits_len (l:List Int):(ysa l).length=256:=by simp [ysa]
theorem bits_get (l:List Int) (x:Int) (h0:0≤x) (h1:x≤255):(ysa l)[x.toNat]?=some (decide (x∈l)):=by
 unfold ysa
 rw [List.getElem?_map,List.getElem?_range (by omega)]
 have:((x.toNat:Nat):Int)=x:=by omega
 simp [this]
theorem bits_set (l:List Int) (x:Int) (h0:0≤x) (h1:x≤255):(ysa l).set x.toNat true=ysa (l++[x]):=by
 apply List.ext_getElem
 ·simp [ysa]
 ·intro i h2 h3
  have hx:((x.toNat:Nat):Int)=x:=by omega
  rw [List.getElem_set]
  unfold ysa
  simp only [List.getElem_map,List.getElem_range,List.mem_append,List.mem_singleton]
  by_cases hi:x.toNat=i
  ·subst hi
   simp [hx]
  ·have:¬ ((i:Nat):Int)=x:=by omega
   simp [hi,this]
end
section
theorem ych (n v:Nat) (l:List Lk):ygh n v l=true↔(∀ x∈l,zie n v x=true)∧(l.map (·.1)).Nodup:=by
 unfold ygh;rw [Bool.and_eq_true,decide_eq_true_eq,List.all_eq_true]
theorem ygi {n v:Nat} {l:List Lk} {k:Nat} {x:Lk} (hx:l[k]?=some x) (h:zie n v x=false):ygh n v l=false:=by
 rw [← Bool.not_eq_true,ych]
 intro h1
 rw [h1.1 x (List.mem_of_getElem? hx)] at h;cases h
theorem yvr {n v:Nat} {l:List Lk} {j k:Nat} {x y:Lk} (hjk:j < k) (hy:l[j]?=some y) (hx:l[k]?=some x) (h:y.1=x.1):ygh n v l=false:=by
 rw [← Bool.not_eq_true,ych]
 intro h1
 have g1:=List.getElem?_eq_some_iff.1 hy
 have g2:=List.getElem?_eq_some_iff.1 hx
 have:=(List.pairwise_iff_getElem.1 h1.2) j k (by simpa using g1.1) (by simpa using g2.1) hjk
 simp [g1.2,g2.2,h] at this
theorem yzc {n v:Nat} {l:List Lk} {k:Nat} {x:Lk} (hx:l[k]?=some x) (h:ygh n v (l.take k)=true) (h1:zie n v x=true) (h2:∀ (j:Nat) (y:Lk),j < k→l[j]?=some y→y.1≠x.1):ygh n v (l.take (k+1))=true:=by
 rw [ych] at *
 rw [yil hx]
 refine ⟨fun y hy=>?_,?_⟩
 ·rcases List.mem_append.1 hy with hy|hy
  ·exact h.1 y hy
  ·simp at hy;subst hy;exact h1
 ·rw [List.map_append,List.nodup_append]
  refine ⟨h.2,by simp,fun a ha b hb=>?_⟩
  simp at hb;subst hb
  obtain ⟨y,hy,rfl⟩:=List.mem_map.1 ha
  obtain ⟨j,hj⟩:=List.getElem?_of_mem hy
  rw [List.getElem?_take] at hj
  split at hj
  ·rename_i hjk;exact h2 j y hjk hj
  ·cases hj
def yfj (l:List Lk) (u:Int):Int:=match l.findIdx? (fun x=>x.1 == u) with|some i=>i|none=>-1
theorem yzq {l:List Lk} {u:Int} (h:∀ (j:Nat) (y:Lk),l[j]?=some y→y.1≠u):yfj l u=-1:=by
 unfold yfj
 have:l.findIdx? (fun x=>x.1 == u)=none:=by
  rw [List.findIdx?_eq_none_iff]
  intro x hx
  obtain ⟨j,hj⟩:=List.getElem?_of_mem hx
  simpa using h j x hj
 rw [this]
theorem yzr {l:List Lk} {u:Int} {k:Nat} {x:Lk} (hx:l[k]?=some x) (hu:x.1=u) (h:∀ (j:Nat) (y:Lk),j < k→l[j]?=some y→y.1≠u):yfj l u=k:=by
 unfold yfj
 have:l.findIdx? (fun x=>x.1 == u)=some k:=by
  rw [List.findIdx?_eq_some_iff_getElem]
  have g:=List.getElem?_eq_some_iff.1 hx
  refine ⟨g.1,by simp [g.2,hu],fun j hj=>?_⟩
  have hjl:j < l.length:=by have:=g.1;omega
  have:=h j l[j] hj (List.getElem?_eq_getElem hjl)
  simpa using this
 rw [this]
theorem yop (l:List Lk) (u:Int):(yfj l u=-1∧∀ x∈l,x.1≠u)∨∃ (k:Nat) (x:Lk),yfj l u=k∧l[k]?=some x∧x.1=u∧l.find? (fun x=>x.1 == u)=some x:=by
 unfold yfj
 cases hf:l.findIdx? (fun x=>x.1 == u) with
 | none=>
  rw [List.findIdx?_eq_none_iff] at hf
  exact .inl ⟨rfl,fun x hx=>by simpa using hf x hx⟩
 | some k=>
  obtain ⟨h1,h2,h3⟩:=List.findIdx?_eq_some_iff_getElem.1 hf
  refine .inr ⟨k,l[k],rfl,List.getElem?_eq_getElem h1,by simpa using h2,?_⟩
  rw [List.find?_eq_some_iff_getElem]
  exact ⟨h2,k,h1,rfl,fun j hj=>by simpa using h3 j hj⟩
theorem zaw {l:List Lk} {u:Int} (h:∀ x∈l,x.1≠u):ydd l u=0:=by
 unfold ydd
 have:l.find? (fun x=>x.1 == u)=none:=by
  rw [List.find?_eq_none];intro x hx;simpa using h x hx
 rw [this]
theorem zax {l:List Lk} {u:Int} {x:Lk} (h:l.find? (fun x=>x.1 == u)=some x):ydd l u=x.2:=by unfold ydd;rw [h]
theorem ygn (g:GraphD):ybs g=true↔1≤g.ports.length∧g.ports.length≤24∧g.ids.length=g.ports.length∧zkb g.ids=true∧yzs g.ports=true∧zyr g.ports=true:=by
 unfold ybs;simp only [Bool.and_eq_true,decide_eq_true_eq]
theorem ygk (ports:List (List Lk)):yzs ports=true↔∀ (v:Nat) (ls:List Lk),ports[v]?=some ls→ygh ports.length v ls=true:=by
 unfold yzs
 rw [List.all_eq_true]
 constructor
 ·intro h v ls hv
  have:=h v (List.mem_range.2 (List.getElem?_eq_some_iff.1 hv).1)
  rwa [List.getD_eq_getElem?_getD,hv] at this
 ·intro h v hv
  obtain ⟨ls,hls⟩:∃ ls,ports[v]?=some ls:=⟨_,List.getElem?_eq_getElem (List.mem_range.1 hv)⟩
  rw [List.getD_eq_getElem?_getD,hls]
  exact h v ls hls
theorem ytj (ports:List (List Lk)):zyr ports=true↔∀ (v:Nat) (ls:List Lk),ports[v]?=some ls→∀ l∈ls,ydd (ports.getD l.1.toNat []) v=l.2:=by
 unfold zyr
 rw [List.all_eq_true]
 constructor
 ·intro h v ls hv l hl
  have:=h v (List.mem_range.2 (List.getElem?_eq_some_iff.1 hv).1)
  rw [List.getD_eq_getElem?_getD,hv] at this
  simpa using List.all_eq_true.1 this l hl
 ·intro h v hv
  obtain ⟨ls,hls⟩:∃ ls,ports[v]?=some ls:=⟨_,List.getElem?_eq_getElem (List.mem_range.1 hv)⟩
  rw [List.getD_eq_getElem?_getD,hls]
  rw [Option.getD_some,List.all_eq_true]
  intro l hl
  simpa using h v ls hls l hl
end
section
open Go.RowKit
theorem zpd {W w1:World} (hb:Below W.heap.size W w1):(∀ b o,b < W.heap.size→w1.cell? ⟨b,o,none⟩=W.cell? ⟨b,o,none⟩)∧(∀ b o,b < W.heap.size→w1.frozen? ⟨b,o,none⟩=W.frozen? ⟨b,o,none⟩):=
 ⟨fun b o h=>hb.cell (p:=⟨b,o,none⟩) h,fun b o h=>hb.frozen (p:=⟨b,o,none⟩) h⟩
theorem yeh {w w1 w2:World} (h1:Below w.heap.size w w1) (h2:Below w1.heap.size w1 w2):Below w.heap.size w w2:=h1.trans (h2.mono h1.size)
theorem zuc {w w1:World} (h1:Below w.heap.size w w1) (n:Nat):Below w.heap.size w (w1.drewN n):=below_drewN h1 n
theorem yab {a b:Bool} (h:a=b):Ending.returned (.bool a)=.returned (.bool b):=by rw [h]
theorem ybd {k:IntKind} {a b:Int} (h:a=b):Ending.returned (.int k a)=.returned (.int k b):=by rw [h]
def Row (w:World) (v:Value) (size n:Nat) (xs:List Value):Prop:=
 ∃ a cap,v=.slice a n cap∧n≤cap∧cap≤maxLen∧xs.length=n * size∧(a=none→cap=0) ∧
  (n=0∨∃ g o,a=some ⟨g,o,none⟩∧g < w.heap.size∧∀ j u,xs[j]?=some u→w.cell? ⟨g,o+j,none⟩=some u)
theorem Row.below {w w':World} {v:Value} {size n:Nat} {xs:List Value} (h:Row w v size n xs) (hb:Below w.heap.size w w'):Row w' v size n xs:=by
 obtain ⟨a,cap,hv,h1,h2,h3,h4,h5⟩:=h
 refine ⟨a,cap,hv,h1,h2,h3,h4,?_⟩
 rcases h5 with h5|⟨g,o,ha,hg,hc⟩
 ·exact .inl h5
 ·exact .inr ⟨g,o,ha,Nat.lt_of_lt_of_le hg hb.size,fun j u hu=>(hb.cell (p:=⟨g,_,none⟩) hg).trans (hc j u hu)⟩
theorem yfs {w w':World} {B e size n:Nat} {v:Value} {xs:List Value} (h:w.ownsRow B e size v n xs) (hb:Below w.heap.size w w'):w'.ownsRow B e size v n xs:=by
 obtain ⟨h1,h2⟩:=h
 refine ⟨h1,?_⟩
 rcases h2 with h2|⟨g,cap,cur,hv,hg,hh,r⟩
 ·exact .inl h2
 ·exact .inr ⟨g,cap,cur,hv,hg,by rw [hb.block g (by rcases Nat.lt_or_ge g w.heap.size with h|h;exact h;simp [Array.getElem?_eq_none h] at hh)];exact hh,r⟩
theorem ylw {w:World} {B e size n:Nat} {v:Value} {xs:List Value} (h:w.ownsRow B e size v n xs):∃ a cap,v=.slice a n cap:=by
 rcases h.2 with ⟨rfl,rfl⟩|⟨g,cap,cur,hv,_⟩
 ·exact ⟨_,_,rfl⟩
 ·exact ⟨_,_,hv⟩
theorem zdb {w:World} {B e size n:Nat} {v:Value} {xs:List Value} (h:w.ownsRow B e size v n xs):∀ k,v.ownBlock=some k→B≤k:=fun k hk=>(h.lt k hk).1
theorem ysw (W:World) (l:List Value) (e n:Nat) (hn:n=W.heap.size):∀ j u,l[j]?=some u→(W.alloc (.cells l.toArray e)).cell? ((⟨n,0,none⟩:Addr).add j)=some u:=by
 intro j u h
 subst hn
 have h0:(⟨W.heap.size,0,none⟩:Addr).add j=⟨W.heap.size,j,none⟩:=by
  unfold Addr.add
  split <;> simp_all
 rw [h0]
 have h1:(W.alloc (.cells l.toArray e)).heap[W.heap.size]?=some (.cells l.toArray e):=by
  show (W.heap.push (.cells l.toArray e))[W.heap.size]?=_
  rw [Array.getElem?_push,if_pos rfl]
 unfold World.cell?
 simp only [h1]
 simpa using h
theorem yuv {w:World} {B e size n:Nat} {v:Value} {xs:List Value} (h:w.ownsRow B e size v n xs):Row w v size n xs:=by
 obtain ⟨h1,h2⟩:=h
 rcases h2 with ⟨rfl,rfl⟩|⟨g,cap,cur,hv,hg,hh,hle,hcap,hcs,htk⟩
 ·exact ⟨none,0,rfl,by omega,by simp [maxLen],h1,fun _=>rfl,.inl rfl⟩
 ·refine ⟨some ⟨g,0,none⟩,cap,hv,hle,hcap,h1,(fun h=>by cases h),.inr ⟨g,0,rfl,?_,fun j u hu=>?_⟩⟩
  ·rcases Nat.lt_or_ge g w.heap.size with h|h
   ·exact h
   ·simp [Array.getElem?_eq_none h] at hh
  ·have hj:(cur.toList.take (n * size))[j]?=some u:=by rw [htk];exact hu
   rw [List.getElem?_take] at hj
   unfold World.cell?
   simp only [hh,Nat.zero_add]
   split at hj
   ·simpa using hj
   ·cases hj
theorem row_nil (w:World) (size:Nat):Row w (.slice none 0 0) size 0 []:=⟨none,0,rfl,by simp,by simp [maxLen],by simp,fun _=>rfl,.inl rfl⟩
theorem Row.open {w:World} {v:Value} {size n:Nat} {xs:List Value} (h:Row w v size n xs):∃ a cap,v=.slice a n cap∧n≤cap∧cap≤9223372036854775807∧(a=none→cap=0) ∧
  (0 < n→∃ g o,a=some ⟨g,o,none⟩∧g < w.heap.size∧∀ j u,xs[j]?=some u→w.cell? ⟨g,o+j,none⟩=some u):=by
 obtain ⟨a,cap,hv,h1,h2,h3,h4,h5⟩:=h
 unfold maxLen at h2
 refine ⟨a,cap,hv,h1,by omega,h4,fun hn=>?_⟩
 rcases h5 with h5|h5
 ·omega
 ·exact h5
theorem ymr {α:Type} (f:α→List Value) (k:Nat) (hf:∀ x,(f x).length=k) (l:List α):∀ (i j:Nat) (x:α) (u:Value),l[i]?=some x→(f x)[j]?=some u→(l.flatMap f)[i * k+j]?=some u:=by
 induction l with
 | nil=>intro i j x u h;simp at h
 | cons y l ih=>
  intro i j x u h hu
  rw [List.flatMap_cons]
  have hj:j < k:=by have:=(List.getElem?_eq_some_iff.1 hu).1;rw [hf] at this;exact this
  cases i with
  | zero=>
   simp at h;subst h
   rw [Nat.zero_mul,Nat.zero_add,List.getElem?_append_left (by rw [hf];exact hj)];exact hu
  | succ i=>
   rw [Nat.succ_mul,List.getElem?_append_right (by rw [hf];omega),hf,show i * k+k+j - k=i * k+j by omega]
   exact ih i j x u (by simpa using h) hu
theorem ywq {α:Type} (f:α→List Value) (k:Nat) (hf:∀ x,(f x).length=k) (l:List α):(l.flatMap f).length=l.length * k:=by
 induction l with
 | nil=>simp
 | cons y l ih=>rw [List.flatMap_cons,List.length_append,hf,ih,List.length_cons,Nat.succ_mul];omega
theorem row_alloc_off (W:World) (xs ys:List Value) (e size n cap o:Nat) (hn:n≤cap) (hc:cap≤9223372036854775807) (hy:ys.length=n * size) (hxs:∀ j u,ys[j]?=some u→xs[o+j]?=some u) :
  Row (W.alloc (.cells xs.toArray e)) (.slice (some ⟨W.heap.size,o,none⟩) n cap) size n ys:=by
 refine ⟨_,cap,rfl,hn,by unfold maxLen;omega,hy,(fun h=>by cases h),.inr ⟨_,o,rfl,by simp,fun j u hu=>?_⟩⟩
 have h1:(W.alloc (.cells xs.toArray e)).heap[W.heap.size]?=some (.cells xs.toArray e):=by
  show (W.heap.push (.cells xs.toArray e))[W.heap.size]?=_
  rw [Array.getElem?_push,if_pos rfl]
 unfold World.cell?
 simp only [h1]
 have:=hxs j u hu
 simpa using this
theorem row_alloc (W:World) (xs:List Value) (e size n:Nat) (hn:n≤9223372036854775807) (hy:xs.length=n * size) :
  Row (W.alloc (.cells xs.toArray e)) (.slice (some ⟨W.heap.size,0,none⟩) n n) size n xs:=
 row_alloc_off W xs xs e size n n 0 (Nat.le_refl _) hn hy (fun j u h=>by rw [Nat.zero_add];exact h)
def ymc (k:IntKind) (w:World) (v:Value) (l:List Int):Prop:=Row w v 1 l.length (l.map (.int k))
theorem ymc.below {k:IntKind} {w w':World} {v:Value} {l:List Int} (h:ymc k w v l) (hb:Below w.heap.size w w'):ymc k w' v l:=Row.below h hb
theorem ymc.open {k:IntKind} {w:World} {v:Value} {l:List Int} (h:ymc k w v l):∃ a cap,v=.slice a l.length cap∧l.length≤cap∧cap≤9223372036854775807∧(a=none→cap=0) ∧
  (0 < l.length→∃ g o,a=some ⟨g,o,none⟩∧g < w.heap.size∧∀ i x,l[i]?=some x→w.cell? ⟨g,o+i,none⟩=some (.int k x)):=by
 obtain ⟨a,cap,hv,h1,h2,h3,h4⟩:=Row.open h
 refine ⟨a,cap,hv,h1,h2,h3,fun hn=>?_⟩
 obtain ⟨g,o,ha,hg,hc⟩:=h4 hn
 exact ⟨g,o,ha,hg,fun i x hx=>hc i _ (by rw [List.getElem?_map,hx];rfl)⟩
end
section
open Go.RowKit
def ynv:List Nat→Nat
 | []=>0
 | a::l=>max a (ynv l)
def val (f:Int→Nat→Nat):Ex→Nat
 | .lf t=>f t.1 0
 | .un t a=>f t.1 (val f a)
 | .bi t a b=>f t.1 (max (val f a) (val f b))
 | .tr t a b c=>f t.1 (max (val f a) (max (val f b) (val f c)))
def lev (f:Int→Nat→Nat):List Tm→List Nat
 | []=>[]
 | t::l=>f t.1 (ynv ((lev f l).take (ar t.1).toNat))::(lev f l).drop (ar t.1).toNat
theorem yui (f:Int→Nat→Nat) (l:List Tm):∀ F,ydy l=some F→lev f l=F.map (val f):=by
 induction l with
 | nil=>intro F h;simp [ydy] at h;subst h;rfl
 | cons t l ih=>
  intro F h
  simp only [ydy] at h
  cases hl:ydy l with
  | none=>rw [hl] at h;cases h
  | some G=>
   have hG:=ih G hl
   rw [hl] at h
   simp only at h
   simp only [lev,hG]
   by_cases a0:ar t.1=0
   ·rw [if_pos a0] at h;cases h
    rw [a0];simp [ynv,val]
   rw [if_neg a0] at h
   by_cases a1:ar t.1=1
   ·rw [if_pos a1] at h
    match G,h with
    | a::G,h=>cases h;rw [a1];simp [ynv,val]
   rw [if_neg a1] at h
   by_cases a2:ar t.1=2
   ·rw [if_pos a2] at h
    match G,h with
    | a::b::G,h=>cases h;rw [a2];simp [ynv,val]
   rw [if_neg a2] at h
   by_cases a3:ar t.1=3
   ·rw [if_pos a3] at h
    match G,h with
    | a::b::c::G,h=>cases h;rw [a3];simp [ynv,val]
   rw [if_neg a3] at h;cases h
theorem ysg (l:List Tm) (t:Tm) (F:List Ex) (h:ydy (t::l)=some F):∃ G,ydy l=some G∧0≤ar t.1∧(ar t.1).toNat≤G.length∧F.length=G.length - (ar t.1).toNat+1:=by
 simp only [ydy] at h
 cases hl:ydy l with
 | none=>rw [hl] at h;cases h
 | some G=>
  rw [hl] at h
  simp only at h
  by_cases a0:ar t.1=0
  ·rw [if_pos a0] at h;cases h;exact ⟨G,rfl,by omega,by rw [a0];simp,by rw [a0];simp⟩
  rw [if_neg a0] at h
  by_cases a1:ar t.1=1
  ·rw [if_pos a1] at h
   match G,h with
   | a::G,h=>cases h;exact ⟨_,rfl,by omega,by rw [a1];simp,by rw [a1];simp⟩
  rw [if_neg a1] at h
  by_cases a2:ar t.1=2
  ·rw [if_pos a2] at h
   match G,h with
   | a::b::G,h=>cases h;exact ⟨_,rfl,by omega,by rw [a2];simp,by rw [a2];simp⟩
  rw [if_neg a2] at h
  by_cases a3:ar t.1=3
  ·rw [if_pos a3] at h
   match G,h with
   | a::b::c::G,h=>cases h;exact ⟨_,rfl,by omega,by rw [a3];simp,by rw [a3];simp⟩
  rw [if_neg a3] at h;cases h
theorem forest_suffix (l:List Tm):∀ (k:Nat) (F:List Ex),ydy l=some F→∃ G,ydy (l.drop k)=some G:=by
 induction l with
 | nil=>intro k F h;simp [ydy]
 | cons t l ih=>
  intro k F h
  cases k with
  | zero=>exact ⟨F,h⟩
  | succ k=>
   obtain ⟨G,hG,_⟩:=ysg l t F h
   exact ih k G hG
def ygd:Int→Nat→Nat:=fun _ g=>g+1
def ylv:Int→Nat→Nat:=fun op g=>if yjk op then g+1 else g
theorem val_depth (E:Ex):val ygd E=E.dp:=by
 induction E with
 | lf t=>rfl
 | un t a iha=>simp only [val,Ex.dp,iha,ygd]
 | bi t a b iha ihb=>simp only [val,Ex.dp,iha,ihb,ygd]
 | tr t a b c iha ihb ihc=>simp only [val,Ex.dp,iha,ihb,ihc,ygd]
theorem agg_ar {op:Int} (h:yjk op=true):ar op=1:=by
 simp [yjk] at h
 unfold ar;rw [if_neg (by omega),if_neg (by omega),if_pos (by omega)]
theorem yni {op:Int} (h:ar op≠1):yjk op=false:=by
 cases hb:yjk op
 ·rfl
 ·exact absurd (agg_ar hb) h
theorem val_nest (E:Ex):E.ok→val ylv E=E.ns:=by
 induction E with
 | lf t=>intro h;have h':ar t.1=0:=h;simp only [val,Ex.ns,ylv,yni (op:=t.1) (by omega)];rfl
 | un t a iha=>intro ⟨h,ha⟩;simp only [val,Ex.ns,iha ha,ylv]
 | bi t a b iha ihb=>intro ⟨h,ha,hb⟩;simp only [val,Ex.ns,iha ha,ihb hb,ylv,yni (op:=t.1) (by omega)];rfl
 | tr t a b c iha ihb ihc=>intro ⟨h,ha,hb,hc⟩;simp only [val,Ex.ns,iha ha,ihb hb,ihc hc,ylv,yni (op:=t.1) (by omega)];rfl
abbrev Open:=List (Nat × Bool)
def ygc (k:Nat) (b:Bool):Open→Open
 | []=>if k=0 then [] else [(k,b)]
 | (x,c)::S=>if k=0 then ygc (x - 1) c S else (k,b)::(x,c)::S
def zrm:Open→Open
 | []=>[]
 | (x,c)::S=>ygc (x - 1) c S
def cnt (S:Open):Nat:=(S.filter (·.2)).length
structure Lev where
 S:Open
 d:Nat
 n:Nat
def yjs (s:Lev) (t:Tm):Lev:=
 ⟨ygc (ar t.1).toNat (yjk t.1) s.S,max s.d (s.S.length+1),max s.n (cnt (((ar t.1).toNat,yjk t.1)::s.S))⟩
def zuk (s:Lev) (l:List Tm):Lev:=l.foldl yjs s
theorem yrk (s:Lev) (l m:List Tm):zuk s (l++m)=zuk (zuk s l) m:=by unfold zuk;rw [List.foldl_append]
theorem yyy (s:Lev) (t:Tm) (l:List Tm):zuk s (t::l)=zuk (yjs s t) l:=rfl
theorem ylj (k:Nat) (b:Bool) (S:Open) (h:k≠0):ygc k b S=(k,b)::S:=by
 cases S with
 | nil=>simp [ygc,h]
 | cons x S=>obtain ⟨x,c⟩:=x;simp [ygc,h]
theorem yyb (b:Bool) (S:Open):ygc 0 b S=zrm S:=by
 cases S with
 | nil=>simp [ygc,zrm]
 | cons x S=>obtain ⟨x,c⟩:=x;simp [ygc,zrm]
theorem zhn (k:Nat) (b:Bool) (S:Open):zrm ((k+2,b)::S)=(k+1,b)::S:=by
 simp only [zrm];rw [ylj _ _ _ (by omega)];rfl
theorem zmw (b:Bool) (S:Open):zrm ((2,b)::S)=(1,b)::S:=zhn 0 b S
theorem finS_three (b:Bool) (S:Open):zrm ((3,b)::S)=(2,b)::S:=zhn 1 b S
theorem zem (b:Bool) (S:Open):zrm ((1,b)::S)=zrm S:=by simp only [zrm];exact yyb b S
theorem ywn (k:Nat) (b:Bool) (S:Open):cnt ((k,b)::S)=cnt S+(if b then 1 else 0):=by
 unfold cnt;cases b <;> simp
theorem levR_fl (E:Ex):E.ok→∀ s:Lev,zuk s E.fl=⟨zrm s.S,max s.d (s.S.length+E.dp),max s.n (cnt s.S+E.ns)⟩:=by
 induction E with
 | lf t=>
  intro h s
  have h':ar t.1=0:=h
  show yjs s t=_
  unfold yjs
  rw [h',yni (op:=t.1) (by omega)]
  simp only [Int.toNat_zero,yyb,ywn,Ex.dp,Ex.ns];rfl
 | un t a iha=>
  intro ⟨h,ha⟩ s
  simp only [Ex.fl,yyy]
  rw [iha ha]
  unfold yjs
  rw [h]
  simp only [Int.toNat_one,ylj 1 _ _ (by omega),zem,List.length_cons,ywn,Ex.dp,Ex.ns]
  congr 1
  ·omega
  ·split <;> omega
 | bi t a b iha ihb=>
  intro ⟨h,ha,hb⟩ s
  simp only [Ex.fl,yyy,yrk]
  rw [iha ha,ihb hb]
  unfold yjs
  rw [h,yni (op:=t.1) (by omega)]
  simp only [show (2:Int).toNat=2 from rfl,ylj 2 _ _ (by omega),zmw,zem,List.length_cons,ywn,Ex.dp,Ex.ns]
  simp only [Lev.mk.injEq,Bool.false_eq_true,if_false,true_and]
  omega
 | tr t a b c iha ihb ihc=>
  intro ⟨h,ha,hb,hc⟩ s
  simp only [Ex.fl,yyy,yrk]
  rw [iha ha,ihb hb,ihc hc]
  unfold yjs
  rw [h,yni (op:=t.1) (by omega)]
  simp only [show (3:Int).toNat=3 from rfl,ylj 3 _ _ (by omega),finS_three,zmw,zem,List.length_cons,ywn,Ex.dp,Ex.ns]
  simp only [Lev.mk.injEq,Bool.false_eq_true,if_false,true_and]
  omega
end
section
open Go.RowKit
def zbg (op:Int):Bool:=decide (11≤op) && decide (op≤17)
def yih (kinds:List Int) (t:Tm):Int:=
 if t.1=2∨t.1=3∨t.1=10∨t.1=15 then 2 else if t.1=4∨t.1=11∨t.1=17 then 3 else if t.1=5∨t.1=12 then kinds.getD t.2.toNat 0 else 1
def ty1 (op a:Int):Int:=
 if op=19∨op=20∨op=21 then (if a=2 then 2 else 0) else if op=22 then (if a=2 then 1 else 0) else if op=23 then (if a=2 then 3 else 0) else (if a=1 then 1 else 0)
def ty2 (op a b:Int):Int:=
 if op=35∨op=36 then (if a=b∧a≠0 then 2 else 0) else if op=41∨op=42 then (if a=2∧b=2 then 2 else 0) else if a=1∧b=1 then (if 37≤op∧op≤40 then 2 else 1) else 0
def ty3 (a b c:Int):Int:=if a=2∧b=c then b else 0
def ty (kinds:List Int):Bool→Ex→Int
 | bound,.lf t=>if zbg t.1 && !bound then 0 else yih kinds t
 | bound,.un t a=>ty1 t.1 (ty kinds (bound || yjk t.1) a)
 | bound,.bi t a b=>ty2 t.1 (ty kinds bound a) (ty kinds bound b)
 | bound,.tr _ a b c=>ty3 (ty kinds bound a) (ty kinds bound b) (ty kinds bound c)
theorem zwd (op a:Int):0≤ty1 op a∧ty1 op a≤3∧(ty1 op a≠0→a≠0):=by
 unfold ty1;repeat' split
 all_goals omega
theorem zwe (op a b:Int):0≤ty2 op a b∧ty2 op a b≤3∧(ty2 op a b≠0→a≠0∧b≠0):=by
 unfold ty2;repeat' split
 all_goals omega
theorem zwf (a b c:Int) (h:0≤b∧b≤3):0≤ty3 a b c∧ty3 a b c≤3∧(ty3 a b c≠0→a≠0∧b≠0∧c≠0):=by
 unfold ty3;split <;> omega
def yfh (kinds:List Int):Bool:=kinds.all fun k=>decide (k=1) || (decide (k=2) || decide (k=3))
theorem leafTy_bd (kinds:List Int) (hk:yfh kinds=true) (t:Tm):0≤yih kinds t∧yih kinds t≤3:=by
 unfold yih
 repeat' split
 ·omega
 ·omega
 ·rw [List.getD_eq_getElem?_getD]
  cases h:kinds[t.2.toNat]? with
  | none=>simp
  | some k=>
   have:=List.mem_of_getElem? h
   unfold yfh at hk
   rw [List.all_eq_true] at hk
   have:=hk k this
   simp at this
   simp;omega
 ·omega
theorem ty_bd (kinds:List Int) (hk:yfh kinds=true) (E:Ex):∀ bound,0≤ty kinds bound E∧ty kinds bound E≤3:=by
 induction E with
 | lf t=>intro bound;have:=leafTy_bd kinds hk t;simp only [ty];split <;> omega
 | un t a iha=>intro bound;have:=zwd t.1 (ty kinds (bound || yjk t.1) a);simp only [ty];omega
 | bi t a b iha ihb=>intro bound;have:=zwe t.1 (ty kinds bound a) (ty kinds bound b);simp only [ty];omega
 | tr t a b c iha ihb ihc=>intro bound;have:=zwf (ty kinds bound a) (ty kinds bound b) (ty kinds bound c) (ihb bound);simp only [ty];omega
def ofF (l:List Tm) (kinds:List Int) (bound:Bool):Int × Int:=
 if 6 < kinds.length then (0,7) else if yfh kinds=false then (0,7) else if ycr l kinds.length=false then (0,7) else
 match yet l with
 | none=>(0,7)
 | some E=>if ty kinds bound E=0 then (0,6) else (ty kinds bound E,0)
theorem znu (l:List Tm) (kinds:List Int) (bound:Bool) (h:6 < kinds.length):ofF l kinds bound=(0,7):=by unfold ofF;rw [if_pos h]
theorem zit (l:List Tm) (kinds:List Int) (bound:Bool) (h:yfh kinds=false):ofF l kinds bound=(0,7):=by unfold ofF;rw [if_pos h];split <;> rfl
theorem yzn (l:List Tm) (kinds:List Int) (bound:Bool) (h:ycr l kinds.length=false):ofF l kinds bound=(0,7):=by unfold ofF;rw [if_pos h];split <;> (try split) <;> rfl
theorem zso (l:List Tm) (kinds:List Int) (bound:Bool) (E:Ex) (h6:¬ 6 < kinds.length) (hk:yfh kinds=true) (hv:ycr l kinds.length=true) (hp:yet l=some E) :
  ofF l kinds bound=if ty kinds bound E=0 then (0,6) else (ty kinds bound E,0):=by
 unfold ofF;rw [if_neg h6,if_neg (by simp [hk]),if_neg (by simp [hv]),hp]
theorem ynf {l:List Tm} {vars:Int} (h:ycr l vars=true):∃ E,yet l=some E∧E.ok∧E.fl=l∧l.length≤200∧l.all (yrc vars)=true∧E.dp≤24∧E.ns≤2:=by
 unfold ycr at h
 cases hp:yet l with
 | none=>rw [hp] at h;cases h
 | some E=>
  rw [hp] at h
  simp only [Bool.and_eq_true,decide_eq_true_eq] at h
  obtain ⟨h1,h2⟩:=ygj hp
  exact ⟨E,rfl,h1,h2,h.1,h.2.1,h.2.2.1,h.2.2.2⟩
end
section
open Go.RowKit
set_option maxHeartbeats 400000 in
theorem ygw (op:Int) (w:World):Calls Tryz.prog 237 #[.int .i64 op] w fun e w'=>e=.returned (.int .i64 (ar op))∧w=w':=by
 go_enter Tryz.func237,Tryz.ntmps237
 go_wp2
 all_goals go_ret
 all_goals exact ⟨ybd (by unfold ar;(repeat' split) <;> omega),rfl⟩
set_option maxHeartbeats 400000 in
theorem yiq (op:Int) (w:World):Calls Tryz.prog 241 #[.int .i64 op] w fun e w'=>e=.returned (.bool (yjk op))∧w=w':=by
 go_enter Tryz.func241,Tryz.ntmps241
 go_wp2
 all_goals go_ret
 all_goals exact ⟨yab (by rw [Bool.eq_iff_iff];simp [yjk];omega),rfl⟩
set_option maxHeartbeats 400000 in
theorem near_any (op:Int) (w:World):Calls Tryz.prog 242 #[.int .i64 op] w fun e w'=>e=.returned (.bool (zbg op))∧w=w':=by
 go_enter Tryz.func242,Tryz.ntmps242
 go_wp2
 all_goals go_ret
 all_goals exact ⟨yab (by rw [Bool.eq_iff_iff];simp [zbg];omega),rfl⟩
set_option maxHeartbeats 400000 in
theorem yen (op:Int) (w:World):Calls Tryz.prog 262 #[.int .i64 op] w fun e w'=>e=.returned (.int .i64 (ar op))∧w=w':=by
 go_enter Tryz.func262,Tryz.ntmps262
 go_wp2
 all_goals go_ret
 all_goals refine ⟨ybd ?_,rfl⟩
 all_goals try simp only [beq_iff_eq,beq_eq_false_iff_ne,ne_eq] at *
 all_goals (unfold ar;(repeat' split) <;> omega)
set_option maxHeartbeats 400000 in
theorem yqt (op:Int) (w:World):Calls Tryz.prog 264 #[.int .i64 op] w fun e w'=>e=.returned (.bool (yjk op))∧w=w':=by
 go_enter Tryz.func264,Tryz.ntmps264
 go_wp2
 all_goals go_ret
 all_goals exact ⟨yab (by rw [Bool.eq_iff_iff];simp [yjk];omega),rfl⟩
def ycy (w:World) (v:Value) (l:List Tm):Prop:=Row w v 2 l.length (l.flatMap fun t=>[.int .i64 t.1,.int .i64 t.2])
theorem ycy.below {w w':World} {v:Value} {l:List Tm} (h:ycy w v l) (hb:Below w.heap.size w w'):ycy w' v l:=Row.below h hb
theorem ycy.open {w:World} {v:Value} {l:List Tm} (h:ycy w v l):∃ a cap,v=.slice a l.length cap∧l.length≤cap∧cap≤9223372036854775807 ∧
  (0 < l.length→∃ g o,a=some ⟨g,o,none⟩∧g < w.heap.size∧∀ i t,l[i]?=some t→w.cell? ⟨g,o+i * 2,none⟩=some (.int .i64 t.1)∧w.cell? ⟨g,o+i * 2+1,none⟩=some (.int .i64 t.2)):=by
 obtain ⟨a,cap,hv,h1,h2,h3,h4⟩:=Row.open h
 refine ⟨a,cap,hv,h1,h2,fun hn=>?_⟩
 obtain ⟨g,o,ha,hg,hc⟩:=h4 hn
 exact ⟨g,o,ha,hg,fun i t ht=>⟨hc _ _ (ymr _ 2 (fun _=>rfl) l i 0 t _ ht rfl),hc _ _ (ymr _ 2 (fun _=>rfl) l i 1 t _ ht rfl)⟩⟩
def yre (w k:Nat) (l:List Tm):Int:=match zjy w (l.drop k) with|none=>-1|some n=>(k:Int)+n
theorem ysd (m k:Nat) (l:List Tm) (hm:1≤m) (h:l.length≤k):yre m k l=-1:=by
 obtain ⟨m,rfl⟩:∃ q,m=q+1:=⟨m - 1,by omega⟩
 unfold yre;rw [List.drop_eq_nil_of_le h,endN_nil]
theorem zmm (m k:Nat) (l:List Tm) (hm:1≤m) (h:k < l.length) (hn:ar l[k].1 < 0):yre m k l=-1:=by
 obtain ⟨m,rfl⟩:∃ q,m=q+1:=⟨m - 1,by omega⟩
 unfold yre;rw [List.drop_eq_getElem_cons h,zml _ _ _ hn]
theorem yyf (m k:Nat) (l:List Tm) (hm:1≤m) (h:k < l.length) (hn:¬ ar l[k].1 < 0):yre m k l=yre (m+(ar l[k].1).toNat - 1) (k+1) l:=by
 obtain ⟨m,rfl⟩:∃ q,m=q+1:=⟨m - 1,by omega⟩
 unfold yre;rw [List.drop_eq_getElem_cons h,ylm _ _ _ hn,show m+1+(ar l[k].1).toNat - 1=m+(ar l[k].1).toNat by omega]
 cases zjy (m+(ar l[k].1).toNat) (l.drop (k+1)) with
 | none=>rfl
 | some n=>simp;omega
theorem zhh (m k:Nat) (l:List Tm) (hm:1≤m) (h:k < l.length) (hn:¬ ar l[k].1 < 0) (hz:(m:Int)+(ar l[k].1 - 1)=0):yre m k l=k+1:=by
 rw [yyf m k l hm h hn,show m+(ar l[k].1).toNat - 1=0 by omega]
 unfold yre;rw [yog];simp
set_option maxHeartbeats 1000000 in
theorem yvh (t:Tm) (vars:Int) (w:World):Calls Tryz.prog 198 #[.agg #[.int .i64 t.1,.int .i64 t.2],.int .i64 vars] w fun e w'=>e=.returned (.bool (yrc vars t))∧Below w.heap.size w w':=by
 obtain ⟨op,x⟩:=t
 have hcases:(op == 1)=true∨(op == 1)=false∧((op == 5)=true∨(op == 5)=false∧((op == 12)=true∨(op == 12)=false)):=by
  cases (op == 1) <;> cases (op == 5) <;> cases (op == 12) <;> simp
 rcases hcases with q0|⟨q0,q1|⟨q1,q2|q2⟩⟩
 all_goals
  go_enter Tryz.func198,Tryz.ntmps198
  go_wp2
  all_goals go_ret
  all_goals refine ⟨yab ?_,(Below.refl _ _).alloc (Nat.le_refl _) _⟩
  all_goals simp only [beq_iff_eq,beq_eq_false_iff_ne,ne_eq] at *
  all_goals rw [Bool.eq_iff_iff]
  all_goals simp [yrc, *]
  all_goals try omega
set_option maxHeartbeats 1000000 in
theorem yta (t:Tm) (vars:Int) (w:World):Calls Tryz.prog 310 #[.agg #[.int .i64 t.1,.int .i64 t.2],.int .i64 vars] w fun e w'=>e=.returned (.bool (yrc vars t))∧Below w.heap.size w w':=by
 obtain ⟨op,x⟩:=t
 have hcases:(op == 1)=true∨(op == 1)=false∧((op == 5)=true∨(op == 5)=false∧((op == 12)=true∨(op == 12)=false)):=by
  cases (op == 1) <;> cases (op == 5) <;> cases (op == 12) <;> simp
 rcases hcases with q0|⟨q0,q1|⟨q1,q2|q2⟩⟩
 all_goals
  go_enter Tryz.func310,Tryz.ntmps310
  go_wp2
  all_goals go_ret
  all_goals refine ⟨yab ?_,(Below.refl _ _).alloc (Nat.le_refl _) _⟩
  all_goals simp only [beq_iff_eq,beq_eq_false_iff_ne,ne_eq] at *
  all_goals rw [Bool.eq_iff_iff]
  all_goals simp [yrc, *]
  all_goals try omega
set_option maxHeartbeats 1000000 in
theorem end_any_in (v:Value) (l:List Tm) (at_:Nat) (w:World) (hl:l.length≤1000) (hv:Hid (ycy w v l)) (ha:at_ < l.length) :
  Calls Tryz.prog 197 #[v,.int .i64 at_] w fun e w'=>e=.returned (.int .i64 (yre 1 at_ l))∧w=w':=by
 obtain ⟨a,cap,rfl,h1,h2,h3⟩:=hv.out.open
 obtain ⟨g,o,rfl,hg,hc⟩:=h3 (by omega)
 have HC:=Lib.hid hc
 have b1:decide ((at_:Int) < 0)=false:=by simp
 have b2:decide (l.length≤at_)=false:=by simp;omega
 clear hc h3
 go_enter Tryz.func197,Tryz.ntmps197
 go_wp2
 go_loop [1,5,6] (fun i x _=>∃ k m:Nat,k≤l.length∧1≤m∧m≤2 * k+1∧i=.int .i64 k∧x=.int .i64 m∧Hid (yre 1 at_ l=yre m k l)) (fun i _ _=>l.length - (intOf i).toNat)
 case atStart=>exact ⟨at_,1,by omega,by omega,by omega,rfl,rfl,rfl⟩
 case round=>
  obtain ⟨k,m,hk,hm1,hm2,rfl,rfl,he⟩:=hrel
  by_cases hlt:k < l.length
  ·obtain ⟨c0,c1⟩:=HC.out k _ (List.getElem?_eq_getElem hlt)
   have hb:=zkm l[k].1
   have hb1:=hb.1
   have hb2:=hb.2
   clear hb
   have HD:=Lib.hid (List.drop_eq_getElem_cons hlt)
   by_cases hneg:ar l[k].1 < 0
   ·go_wp2_with (go_at_call 237;refine (ygw _ _).mono ?_;rintro e w' ⟨rfl,rfl⟩)
    go_ret
    exact ⟨ybd (by rw [he.out,zmm m k l hm1 hlt hneg]),rfl⟩
   ·by_cases hz:(m:Int)+(ar l[k].1 - 1)=0
    ·have hz':((m:Int)+(ar l[k].1 - 1) == 0)=true:=by simp;omega
     have HZ:=Lib.hid hz
     clear hz
     go_wp2_with (go_at_call 237;refine (ygw _ _).mono ?_;rintro e w' ⟨rfl,rfl⟩)
     go_ret
     exact ⟨ybd (by rw [he.out,zhh m k l hm1 hlt (by omega) HZ.out]),rfl⟩
    ·have hz':((m:Int)+(ar l[k].1 - 1) == 0)=false:=by simp;omega
     go_wp2_with (go_at_call 237;refine (ygw _ _).mono ?_;rintro e w' ⟨rfl,rfl⟩)
     exact ⟨⟨k+1,m+(ar l[k].1).toNat - 1,by omega,by omega,by omega,by go_num,by congr 1;omega,he.out.trans (yyf m k l hm1 hlt (by omega))⟩,by simp [intOf];omega⟩
  ·go_wp2
   go_ret
   exact ⟨ybd (by rw [he.out,ysd m k l hm1 (by omega)]),rfl⟩
set_option maxHeartbeats 1000000 in
theorem rend_any_in (v:Value) (l:List Tm) (at_:Nat) (w:World) (hl:l.length≤1000) (hv:Hid (ycy w v l)) (ha:at_ < l.length) :
  Calls Tryz.prog 294 #[v,.int .i64 at_] w fun e w'=>e=.returned (.int .i64 (yre 1 at_ l))∧w=w':=by
 obtain ⟨a,cap,rfl,h1,h2,h3⟩:=hv.out.open
 obtain ⟨g,o,rfl,hg,hc⟩:=h3 (by omega)
 have HC:=Lib.hid hc
 have b1:decide ((at_:Int) < 0)=false:=by simp
 have b2:decide (l.length≤at_)=false:=by simp;omega
 clear hc h3
 go_enter Tryz.func294,Tryz.ntmps294
 go_wp2
 go_loop [5,6,7] (fun x i _=>∃ k m:Nat,k≤l.length∧1≤m∧m≤2 * k+1∧i=.int .i64 k∧x=.int .i64 m∧Hid (yre 1 at_ l=yre m k l)) (fun _ i _=>l.length - (intOf i).toNat)
 case atStart=>exact ⟨at_,1,by omega,by omega,by omega,rfl,rfl,rfl⟩
 case round=>
  obtain ⟨k,m,hk,hm1,hm2,rfl,rfl,he⟩:=hrel
  by_cases hlt:k < l.length
  ·obtain ⟨c0,c1⟩:=HC.out k _ (List.getElem?_eq_getElem hlt)
   have hb:=zkm l[k].1
   have hb1:=hb.1
   have hb2:=hb.2
   clear hb
   have HD:=Lib.hid (List.drop_eq_getElem_cons hlt)
   by_cases hneg:ar l[k].1 < 0
   ·go_wp2_with (go_at_call 262;refine (yen _ _).mono ?_;rintro e w' ⟨rfl,rfl⟩)
    go_ret
    exact ⟨ybd (by rw [he.out,zmm m k l hm1 hlt hneg]),rfl⟩
   ·by_cases hz:(m:Int)+(ar l[k].1 - 1)=0
    ·have hz':((m:Int)+(ar l[k].1 - 1) == 0)=true:=by simp;omega
     have HZ:=Lib.hid hz
     clear hz
     go_wp2_with (go_at_call 262;refine (yen _ _).mono ?_;rintro e w' ⟨rfl,rfl⟩)
     go_ret
     exact ⟨ybd (by rw [he.out,zhh m k l hm1 hlt (by omega) HZ.out]),rfl⟩
    ·have hz':((m:Int)+(ar l[k].1 - 1) == 0)=false:=by simp;omega
     go_wp2_with (go_at_call 262;refine (yen _ _).mono ?_;rintro e w' ⟨rfl,rfl⟩)
     exact ⟨⟨k+1,m+(ar l[k].1).toNat - 1,by omega,by omega,by omega,by go_num,by congr 1;omega,he.out.trans (yyf m k l hm1 hlt (by omega))⟩,by simp [intOf];omega⟩
  ·go_wp2
   go_ret
   exact ⟨ybd (by rw [he.out,ysd m k l hm1 (by omega)]),rfl⟩
end
section
open Go.ChangeShapes Go.WideShapes Go.RowKit
def Rd {H:Type} (enc:TypeId × Value→H) (P:Program) (w:World) (t:TypeId) (cs:List Value):Prop:=∃ fuel x,DataW.trod enc P w 0 (fun _=>true) true fuel t cs=some x
section
variable {H:Type} {enc:TypeId × Value→H} {P:Program} {w:World} {t:TypeId} {cs:List Value}
theorem zvt {k:IntKind} (ht:P.underlying t=some (.int k)) (h:Rd enc P w t cs):∃ n,cs=[.int k n]∧(Lit.int k n).wf=true:=by
 obtain ⟨fuel,x,h⟩:=h
 obtain ⟨n,h1,_,h2⟩:=DataW.trod_int ht h
 exact ⟨n,h1,h2⟩
theorem wf64 {n:Int} (h:(Lit.int .i64 n).wf=true):-9223372036854775808≤n∧n≤9223372036854775807:=by
 simp only [Lit.wf,Bool.and_eq_true,decide_eq_true_eq] at h
 have e1:IntKind.i64.min=-9223372036854775808:=by decide
 have e2:IntKind.i64.max=9223372036854775807:=by decide
 omega
theorem yfv (ht:P.underlying t=some (.int .i64)) (h:Rd enc P w t cs):∃ n,cs=[.int .i64 n]∧-9223372036854775808≤n∧n≤9223372036854775807:=by
 obtain ⟨n,h1,h2⟩:=zvt ht h
 exact ⟨n,h1,wf64 h2⟩
theorem yzx (ht:P.underlying t=some .string) (h:Rd enc P w t cs):∃ s:ByteArray,cs=[.string s]∧s.size≤maxLen:=by
 obtain ⟨fuel,x,h⟩:=h
 obtain ⟨s,h1,_,h2⟩:=DataW.trod_string ht h
 exact ⟨s,h1,h2⟩
theorem yjy {fs:Array Field} (ht:P.underlying t=some (.struct fs)) (h:Rd enc P w t cs) :
  cs.length=P.cellsOf t∧∀ (i:Nat) (f:Field),fs[i]?=some f→Rd enc P w f.type ((cs.drop f.offset).take (P.cellsOf f.type)):=by
 obtain ⟨fuel,x,h⟩:=h
 obtain ⟨xs,n,_,_,h1,h2,h3⟩:=DataW.trod_struct ht h
 refine ⟨h1,fun i f hf=>?_⟩
 have hi:i < xs.length:=by rw [h2];exact (Array.getElem?_eq_some_iff.1 hf).1
 exact ⟨n,xs[i],by rw [h3 i f hf,List.getElem?_eq_getElem hi]⟩
theorem rd_slice {e:TypeId} (ht:P.underlying t=some (.slice e)) (h:Rd enc P w t cs) :
  cs=[.slice none 0 0]∨∃ (a:Addr) (len cap:Nat),cs=[.slice (some a) len cap]∧len≤cap∧cap≤maxLen ∧
   ∀ i,i < len→∃ cs',cs'.length=P.cellsOf e∧(∀ j,j < P.cellsOf e→w.cell? ((a.add (i * P.cellsOf e)).add j)=cs'[j]?)∧Rd enc P w e cs':=by
 obtain ⟨fuel,x,h⟩:=h
 rcases Deep.open_slice ht h with ⟨h0,_⟩|⟨a,len,cap,m,n,D,Pl,h1,_,h2,h3,h4,_,h5⟩
 ·exact .inl h0
 ·refine .inr ⟨a,len,cap,h1,h2,h3,fun i hi=>?_⟩
  have hm:m=cap:=by simpa using h4
  obtain ⟨cs',h6,h7⟩:=h5 i (by omega)
  obtain ⟨_,h8,h9⟩:=World.cells?_some h6
  exact ⟨cs',h8,h9,⟨n,_,h7⟩⟩
end
def Seq {α:Type} (R:List Value→α→Prop) (size:Nat) (w:World) (v:Value) (l:List α):Prop:=
 ∃ xs,Row w v size l.length xs∧∀ i x,l[i]?=some x→R ((xs.drop (i * size)).take size) x
theorem Seq.below {α:Type} {R R':List Value→α→Prop} {size:Nat} {w w':World} {v:Value} {l:List α} (h:Seq R size w v l) (hb:Below w.heap.size w w') (hR:∀ cs x,R cs x→R' cs x):Seq R' size w' v l:=by
 obtain ⟨xs,h1,h2⟩:=h
 exact ⟨xs,h1.below hb,fun i x hx=>hR _ _ (h2 i x hx)⟩
theorem Seq.imp {α:Type} {R R':List Value→α→Prop} {size:Nat} {w:World} {v:Value} {l:List α} (h:Seq R size w v l) (hR:∀ cs x,x∈l→R cs x→R' cs x):Seq R' size w v l:=by
 obtain ⟨xs,h1,h2⟩:=h
 exact ⟨xs,h1,fun i x hx=>hR _ _ (List.mem_of_getElem? hx) (h2 i x hx)⟩
theorem flat_chunk (f:Nat→List Value) (size:Nat) (hf:∀ i,(f i).length=size) (n i:Nat) (hi:i < n):(((List.range n).flatMap f).drop (i * size)).take size=f i:=by
 apply List.ext_getElem?
 intro j
 rw [List.getElem?_take]
 split
 ·rename_i hj
  rw [List.getElem?_drop]
  obtain ⟨u,hu⟩:∃ u,(f i)[j]?=some u:=⟨_,List.getElem?_eq_getElem (by rw [hf];exact hj)⟩
  rw [hu]
  exact ymr f size hf (List.range n) i j i u (by rw [List.getElem?_range hi]) hu
 ·rename_i hj
  rw [List.getElem?_eq_none (by rw [hf];omega)]
theorem ykn {H:Type} {enc:TypeId × Value→H} {P:Program} {w:World} {t e:TypeId} {cs:List Value} {α:Type} {R:List Value→α→Prop} {size:Nat} (ht:P.underlying t=some (.slice e)) (hs:P.cellsOf e=size) (h0:0 < size)
  (hR:∀ cs,Rd enc P w e cs→∃ x,R cs x) (h:Rd enc P w t cs):∃ v l,cs=[v]∧Seq R size w v l:=by
 rcases rd_slice ht h with rfl|⟨a,len,cap,rfl,h1,h2,h3⟩
 ·exact ⟨_,[],rfl,[],row_nil w size,fun i x hx=>by simp at hx⟩
 ·rw [hs] at h3
  by_cases hl:len=0
  ·subst hl
   exact ⟨_,[],rfl,[],⟨_,cap,rfl,by simp,h2,by simp,(fun h=>by cases h),.inl rfl⟩,fun i x hx=>by simp at hx⟩
  have hch:∀ i:Nat,∃ q:List Value,q.length=size∧(i < len→(∀ j,j < size→w.cell? ((a.add (i * size)).add j)=q[j]?)∧∃ x,R q x):=by
   intro i
   by_cases hi:i < len
   ·obtain ⟨c,c1,c2,c3⟩:=h3 i hi
    exact ⟨c,c1,fun _=>⟨c2,hR c c3⟩⟩
   ·exact ⟨List.replicate size undef,by simp,fun h=>absurd h hi⟩
  obtain ⟨f,hf⟩:=Classical.axiomOfChoice hch
  obtain ⟨x0,_⟩:=((hf 0).2 (by omega)).2
  have hx:∀ i:Nat,∃ x:α,i < len→R (f i) x:=by
   intro i
   by_cases hi:i < len
   ·obtain ⟨x,hx⟩:=((hf i).2 hi).2
    exact ⟨x,fun _=>hx⟩
   ·exact ⟨x0,fun h=>absurd h hi⟩
  obtain ⟨g,hg⟩:=Classical.axiomOfChoice hx
  have hc0:w.cell? a=(f 0)[0]?:=by
   have:=((hf 0).2 (by omega)).1 0 h0
   simpa [Addr.add] using this
  obtain ⟨u0,hu0⟩:∃ u,(f 0)[0]?=some u:=⟨_,List.getElem?_eq_getElem (by rw [(hf 0).1];exact h0)⟩
  rw [hu0] at hc0
  obtain ⟨b,o,sp⟩:=a
  have hsp:sp=none:=by
   unfold World.cell? at hc0
   split at hc0
   ·split at hc0
    ·cases hc0
    ·rename_i hsp;simpa using hsp
   ·cases hc0
  subst hsp
  have hb:b < w.heap.size:=by
   rcases Nat.lt_or_ge b w.heap.size with h|h
   ·exact h
   ·unfold World.cell? at hc0;simp [Array.getElem?_eq_none h] at hc0
  have hadd:∀ n:Nat,(⟨b,o,none⟩:Addr).add n=⟨b,o+n,none⟩:=by intro n;unfold Addr.add;split <;> simp_all
  refine ⟨_,(List.range len).map g,rfl,(List.range len).flatMap f,?_,?_⟩
  ·rw [List.length_map,List.length_range]
   refine ⟨_,cap,rfl,h1,h2,by rw [ywq f size (fun i=>(hf i).1),List.length_range],(fun h=>by cases h),.inr ⟨b,o,rfl,hb,fun j u hu=>?_⟩⟩
   have hj:j < len * size:=by
    have:=(List.getElem?_eq_some_iff.1 hu).1
    rw [ywq f size (fun i=>(hf i).1),List.length_range] at this;exact this
   have hi:j / size < len:=(Nat.div_lt_iff_lt_mul h0).2 hj
   have hr:j % size < size:=Nat.mod_lt _ h0
   have hjd:j / size * size+j % size=j:=by rw [Nat.mul_comm];exact Nat.div_add_mod j size
   have c:=((hf (j / size)).2 hi).1 (j % size) hr
   obtain ⟨u',hu'⟩:∃ u,(f (j / size))[j % size]?=some u:=⟨_,List.getElem?_eq_getElem (by rw [(hf _).1];exact hr)⟩
   have e1:=ymr f size (fun i=>(hf i).1) (List.range len) (j / size) (j % size) (j / size) u' (by rw [List.getElem?_range hi]) hu'
   rw [hjd,hu] at e1
   cases e1
   rw [hadd] at c
   have h5:(⟨b,o+j / size * size,none⟩:Addr).add (j % size)=⟨b,o+j,none⟩:=by
    have:(⟨b,o+j / size * size,none⟩:Addr).add (j % size)=⟨b,o+j / size * size+j % size,none⟩:=by unfold Addr.add;split <;> simp_all
    rw [this,Nat.add_assoc,hjd]
   rw [h5] at c
   rw [c,hu']
  ·intro i x hx
   have hi:i < len:=by
    have:=(List.getElem?_eq_some_iff.1 hx).1
    simpa using this
   rw [List.getElem?_map,List.getElem?_range hi] at hx
   simp at hx
   subst hx
   rw [flat_chunk f size (fun i=>(hf i).1) len i hi]
   exact hg i hi
theorem ynb {α:Type} {R:List Value→α→Prop} {size:Nat} {w:World} {v:Value} {l:List α} (f:α→List Value) (hf:∀ x,(f x).length=size) (h0:0 < size) (h:Seq R size w v l) (hR:∀ cs x,R cs x→cs=f x):Row w v size l.length (l.flatMap f):=by
 obtain ⟨xs,⟨a,cap,hv,h1,h2,h3,h4,h5⟩,h6⟩:=h
 refine ⟨a,cap,hv,h1,h2,ywq f size hf l,h4,?_⟩
 rcases h5 with h5|⟨g,o,ha,hg,hc⟩
 ·exact .inl h5
 ·refine .inr ⟨g,o,ha,hg,fun j u hu=>hc j u ?_⟩
  have hj:j < l.length * size:=by
   have:=(List.getElem?_eq_some_iff.1 hu).1
   rw [ywq f size hf] at this;exact this
  have hi:j / size < l.length:=(Nat.div_lt_iff_lt_mul h0).2 hj
  have hr:j % size < size:=Nat.mod_lt _ h0
  have hjd:j / size * size+j % size=j:=by rw [Nat.mul_comm];exact Nat.div_add_mod j size
  have e1:=ymr f size hf l (j / size) (j % size) l[j / size] ((f l[j / size])[j % size]'(by rw [hf];exact hr)) (List.getElem?_eq_getElem hi) (List.getElem?_eq_getElem (by rw [hf];exact hr))
  rw [hjd,hu] at e1
  cases e1
  have e2:=hR _ _ (h6 (j / size) _ (List.getElem?_eq_getElem hi))
  have e3:((xs.drop (j / size * size)).take size)[j % size]?=some ((f l[j / size])[j % size]'(by rw [hf];exact hr)):=by rw [e2];exact List.getElem?_eq_getElem (by rw [hf];exact hr)
  rw [List.getElem?_take,if_pos hr,List.getElem?_drop,hjd] at e3
  exact e3
theorem zxb {H:Type} {enc:TypeId × Value→H} {P:Program} {w:World} {t:TypeId} {v:Value} {d:DataW H} {ps:List MemPlace} (h:DataW.Trod enc P w 0 (fun _=>true) true t v d ps):Rd enc P w t v.cells.toList:=by
 obtain ⟨fuel,h⟩:=h
 exact ⟨fuel,_,h⟩
theorem yon {H:Type} {enc:TypeId × Value→H} {P:Program} {w:World} {base:Nat} {t e:TypeId} {v:Value} {d:DataW H} {ps:List MemPlace} {α:Type} {R:List Value→α→Prop} {size:Nat} (ht:P.underlying t=some (.slice e)) (hs:P.cellsOf e=size) (h0:0 < size)
  (hR:∀ cs,Rd enc P w e cs→∃ x,R cs x) (hv:Value.okWide P w .any base t v) (h:DataW.Trod enc P w 0 (fun _=>true) true t v d ps):∃ l,Seq R size w v l:=by
 obtain ⟨a,len,cap,rfl⟩:=okWide_slice ht hv
 obtain ⟨v',l,h1,h2⟩:=ykn ht hs h0 hR (zxb h)
 simp [Value.cells] at h1
 subst h1
 exact ⟨l,h2⟩
theorem zeo (l:List Int):l.flatMap (fun x=>[Value.int .i64 x])=l.map (.int .i64):=by
 induction l with
 | nil=>rfl
 | cons a l ih=>rw [List.flatMap_cons,ih];rfl
def yqg (n:Int):Prop:=-9223372036854775808≤n∧n≤9223372036854775807
theorem open_ints_arg {H:Type} {enc:TypeId × Value→H} {P:Program} {w:World} {base:Nat} {t e:TypeId} {v:Value} {d:DataW H} {ps:List MemPlace} (ht:P.underlying t=some (.slice e)) (he:P.underlying e=some (.int .i64)) (hs:P.cellsOf e=1)
  (hv:Value.okWide P w .any base t v) (h:DataW.Trod enc P w 0 (fun _=>true) true t v d ps):∃ l,ymc .i64 w v l∧∀ x∈l,yqg x:=by
 obtain ⟨l,hl⟩:=yon (R:=fun cs x=>cs=[.int .i64 x]∧yqg x) ht hs (Nat.one_pos) (fun cs h=>by obtain ⟨n,h1,h2⟩:=yfv he h;exact ⟨n,h1,h2⟩) hv h
 refine ⟨l,?_,fun x hx=>?_⟩
 ·have:=ynb (fun x=>[.int .i64 x]) (fun _=>rfl) (Nat.one_pos) hl (fun cs x h=>h.1)
  unfold ymc
  rwa [zeo l] at this
 ·obtain ⟨xs,_,h2⟩:=hl
  obtain ⟨i,hi⟩:=List.getElem?_of_mem hx
  exact (h2 i x hi).2
end
set_option maxRecDepth 100000
section
open Go.ChangeShapes Go.WideShapes Go.RowKit
theorem ywk:Tryz.prog.cellsOf 3=1:=by kernel_rfl
theorem zha:Tryz.prog.cellsOf 167=2:=by kernel_rfl
section
variable {H:Type} {enc:TypeId × Value→H} {w:World} {cs:List Value} {v:Value} {base:Nat} {d:DataW H} {ps:List MemPlace}
def yxt (t:Tm):Prop:=yqg t.1∧yqg t.2
theorem rd_term (h:Rd enc Tryz.prog w 167 cs):∃ t:Tm,cs=[.int .i64 t.1,.int .i64 t.2]∧yxt t:=by
 obtain ⟨h1,h2⟩:=yjy Tryz.underlying167 h
 rw [zha] at h1
 match cs,h1 with
 | [a,b],_=>
  have g0:=h2 0 _ rfl
  have g1:=h2 1 _ rfl
  simp [ywk] at g0 g1
  obtain ⟨x,hx,hx'⟩:=yfv Tryz.underlying3 g0
  obtain ⟨y,hy,hy'⟩:=yfv Tryz.underlying3 g1
  simp at hx hy
  exact ⟨(x,y),by simp [hx,hy],hx',hy'⟩
theorem terms_of_seq {l:List Tm} (h:Seq (fun cs (t:Tm)=>cs=[.int .i64 t.1,.int .i64 t.2]∧yxt t) 2 w v l):ycy w v l∧∀ t∈l,yxt t:=by
 refine ⟨ynb (fun t:Tm=>[.int .i64 t.1,.int .i64 t.2]) (fun _=>rfl) (by omega) h (fun cs x h=>h.1),fun x hx=>?_⟩
 obtain ⟨xs,_,h2⟩:=h
 obtain ⟨i,hi⟩:=List.getElem?_of_mem hx
 exact (h2 i x hi).2
theorem znx (h:Rd enc Tryz.prog w 83 cs):∃ v l,cs=[v]∧ycy w v l∧∀ t∈l,yxt t:=by
 obtain ⟨v,l,h1,h2⟩:=ykn (R:=fun cs (t:Tm)=>cs=[.int .i64 t.1,.int .i64 t.2]∧yxt t) Tryz.underlying83 zha (Nat.succ_pos 1) (fun cs h=>rd_term h) h
 exact ⟨v,l,h1,terms_of_seq h2⟩
theorem open_int_list (hv:Value.okWide Tryz.prog w .any base 26 v) (h:DataW.Trod enc Tryz.prog w 0 (fun _=>true) true 26 v d ps):∃ l,ymc .i64 w v l∧∀ x∈l,yqg x:=
 open_ints_arg Tryz.underlying26 Tryz.underlying3 ywk hv h
end
end
section
open Go.ChangeShapes Go.WideShapes Go.RowKit
structure VarD where
 name:ByteArray
 kind:Int
 lo:Int
 hi:Int
 perNode:Int
 perID:Int
structure SetD where
 var:Int
 val:List Tm
structure RuleD where
 name:ByteArray
 guard:List Tm
 sets:List SetD
structure ProgD where
 name:ByteArray
 vars:List VarD
 rules:List RuleD
def ykr (x:VarD):List Value:=[.string x.name,.int .i64 x.kind,.int .i64 x.lo,.int .i64 x.hi,.int .i64 x.perNode,.int .i64 x.perID]
def ykv (w:World) (cs:List Value) (s:SetD):Prop:=∃ v,cs=[.int .i64 s.var,v]∧ycy w v s.val
def yxs (w:World) (cs:List Value) (r:RuleD):Prop:=∃ gv sv,cs=[.string r.name,gv,sv]∧ycy w gv r.guard∧Seq (ykv w) 2 w sv r.sets
def yvf (w:World) (v:Value) (l:List VarD):Prop:=Row w v 6 l.length (l.flatMap ykr)
def yra (w:World) (v:Value) (l:List RuleD):Prop:=Seq (yxs w) 3 w v l
def yhj (w:World) (v:Value) (p:ProgD):Prop:=∃ vv rv,v=.agg #[.string p.name,vv,rv]∧yvf w vv p.vars∧yra w rv p.rules
def zub (x:VarD):Prop:=x.name.size≤9223372036854775807∧yqg x.kind∧yqg x.lo∧yqg x.hi∧yqg x.perNode∧yqg x.perID
def zwm (s:SetD):Prop:=yqg s.var∧∀ t∈s.val,yxt t
def zbo (r:RuleD):Prop:=r.name.size≤9223372036854775807∧(∀ t∈r.guard,yxt t)∧∀ s∈r.sets,zwm s
def yhi (p:ProgD):Prop:=p.name.size≤9223372036854775807∧(∀ x∈p.vars,zub x)∧∀ r∈p.rules,zbo r
theorem ykv.below {w w':World} {cs:List Value} {s:SetD} (hb:Below w.heap.size w w') (h:ykv w cs s):ykv w' cs s:=by
 obtain ⟨v,h1,h2⟩:=h
 exact ⟨v,h1,h2.below hb⟩
theorem yxs.below {w w':World} {cs:List Value} {r:RuleD} (hb:Below w.heap.size w w') (h:yxs w cs r):yxs w' cs r:=by
 obtain ⟨gv,sv,h1,h2,h3⟩:=h
 exact ⟨gv,sv,h1,h2.below hb,h3.below hb fun _ _=>ykv.below hb⟩
theorem yvf.below {w w':World} {v:Value} {l:List VarD} (h:yvf w v l) (hb:Below w.heap.size w w'):yvf w' v l:=Row.below h hb
theorem yra.below {w w':World} {v:Value} {l:List RuleD} (h:yra w v l) (hb:Below w.heap.size w w'):yra w' v l:=Seq.below h hb fun _ _=>yxs.below hb
theorem yhj.below {w w':World} {v:Value} {p:ProgD} (h:yhj w v p) (hb:Below w.heap.size w w'):yhj w' v p:=by
 obtain ⟨vv,rv,h1,h2,h3⟩:=h
 exact ⟨vv,rv,h1,h2.below hb,h3.below hb⟩
theorem Seq.open {α:Type} {R:List Value→α→Prop} {size:Nat} {w:World} {v:Value} {l:List α} (h:Seq R size w v l):∃ a cap,v=.slice a l.length cap∧l.length≤cap∧cap≤9223372036854775807 ∧
  (0 < l.length→∃ g o,a=some ⟨g,o,none⟩∧g < w.heap.size∧∀ i x,l[i]?=some x→∃ cs,cs.length=size∧R cs x∧∀ j u,cs[j]?=some u→w.cell? ⟨g,o+i * size+j,none⟩=some u):=by
 obtain ⟨xs,h1,h2⟩:=h
 have hlen:xs.length=l.length * size:=by obtain ⟨_,_,_,_,_,h,_⟩:=h1;exact h
 obtain ⟨a,cap,hv,h3,h4,_,h5⟩:=Row.open h1
 refine ⟨a,cap,hv,h3,h4,fun hn=>?_⟩
 obtain ⟨g,o,ha,hg,hc⟩:=h5 hn
 refine ⟨g,o,ha,hg,fun i x hx=>⟨_,?_,h2 i x hx,fun j u hu=>?_⟩⟩
 ·have hi:=(List.getElem?_eq_some_iff.1 hx).1
  rw [List.length_take,List.length_drop,hlen]
  have:i * size+size≤l.length * size:=by rw [← Nat.succ_mul];exact Nat.mul_le_mul_right _ hi
  omega
 ·rw [List.getElem?_take] at hu
  split at hu
  ·rw [List.getElem?_drop] at hu
   have:=hc _ u hu
   rw [← Nat.add_assoc] at this
   exact this
  ·cases hu
theorem yvf.open {w:World} {v:Value} {l:List VarD} (h:yvf w v l):∃ a cap,v=.slice a l.length cap∧l.length≤cap∧cap≤9223372036854775807 ∧
  (0 < l.length→∃ g o,a=some ⟨g,o,none⟩∧g < w.heap.size∧∀ i x,l[i]?=some x→w.cell? ⟨g,o+i * 6,none⟩=some (.string x.name)∧w.cell? ⟨g,o+i * 6+1,none⟩=some (.int .i64 x.kind)∧w.cell? ⟨g,o+i * 6+2,none⟩=some (.int .i64 x.lo) ∧
   w.cell? ⟨g,o+i * 6+3,none⟩=some (.int .i64 x.hi)∧w.cell? ⟨g,o+i * 6+4,none⟩=some (.int .i64 x.perNode)∧w.cell? ⟨g,o+i * 6+5,none⟩=some (.int .i64 x.perID)):=by
 obtain ⟨a,cap,hv,h3,h4,_,h5⟩:=Row.open h
 refine ⟨a,cap,hv,h3,h4,fun hn=>?_⟩
 obtain ⟨g,o,ha,hg,hc⟩:=h5 hn
 refine ⟨g,o,ha,hg,fun i x hx=>?_⟩
 have h0:=fun j u hu=>ymr ykr 6 (fun _=>rfl) l i j x u hx hu
 exact ⟨hc _ _ (h0 0 _ rfl),hc _ _ (h0 1 _ rfl),hc _ _ (h0 2 _ rfl),hc _ _ (h0 3 _ rfl),hc _ _ (h0 4 _ rfl),hc _ _ (h0 5 _ rfl)⟩
theorem yra.open {w:World} {v:Value} {l:List RuleD} (h:yra w v l):∃ a cap,v=.slice a l.length cap∧l.length≤cap∧cap≤9223372036854775807 ∧
  (0 < l.length→∃ g o,a=some ⟨g,o,none⟩∧g < w.heap.size∧∀ i r,l[i]?=some r→∃ gv sv,ycy w gv r.guard∧Seq (ykv w) 2 w sv r.sets∧w.cell? ⟨g,o+i * 3,none⟩=some (.string r.name)∧w.cell? ⟨g,o+i * 3+1,none⟩=some gv∧w.cell? ⟨g,o+i * 3+2,none⟩=some sv):=by
 obtain ⟨a,cap,hv,h3,h4,h5⟩:=Seq.open h
 refine ⟨a,cap,hv,h3,h4,fun hn=>?_⟩
 obtain ⟨g,o,ha,hg,hc⟩:=h5 hn
 refine ⟨g,o,ha,hg,fun i r hr=>?_⟩
 obtain ⟨cs,_,⟨gv,sv,rfl,q1,q2⟩,q3⟩:=hc i r hr
 exact ⟨gv,sv,q1,q2,q3 0 _ rfl,q3 1 _ rfl,q3 2 _ rfl⟩
theorem yfu {w:World} {v:Value} {l:List SetD} (h:Seq (ykv w) 2 w v l):∃ a cap,v=.slice a l.length cap∧l.length≤cap∧cap≤9223372036854775807 ∧
  (0 < l.length→∃ g o,a=some ⟨g,o,none⟩∧g < w.heap.size∧∀ i s,l[i]?=some s→∃ sv,ycy w sv s.val∧w.cell? ⟨g,o+i * 2,none⟩=some (.int .i64 s.var)∧w.cell? ⟨g,o+i * 2+1,none⟩=some sv):=by
 obtain ⟨a,cap,hv,h3,h4,h5⟩:=Seq.open h
 refine ⟨a,cap,hv,h3,h4,fun hn=>?_⟩
 obtain ⟨g,o,ha,hg,hc⟩:=h5 hn
 refine ⟨g,o,ha,hg,fun i s hs=>?_⟩
 obtain ⟨cs,_,⟨sv,rfl,q1⟩,q3⟩:=hc i s hs
 exact ⟨sv,q1,q3 0 _ rfl,q3 1 _ rfl⟩
theorem zmg:Tryz.prog.cellsOf 198=6:=by kernel_rfl
theorem zmf:Tryz.prog.cellsOf 99=2:=by kernel_rfl
theorem zgz:Tryz.prog.cellsOf 97=3:=by kernel_rfl
theorem cellsProgram:Tryz.prog.cellsOf 25=3:=by kernel_rfl
theorem yrd:Tryz.prog.cellsOf 9=1:=by kernel_rfl
theorem zbt:Tryz.prog.cellsOf 83=1:=by kernel_rfl
theorem cellsSets:Tryz.prog.cellsOf 95=1:=by kernel_rfl
theorem cellsVars:Tryz.prog.cellsOf 22=1:=by kernel_rfl
theorem cellsRules:Tryz.prog.cellsOf 23=1:=by kernel_rfl
theorem zfi {n:Nat} (h:n≤maxLen):n≤9223372036854775807:=by unfold maxLen at h;omega
section
variable {H:Type} {enc:TypeId × Value→H} {w:World} {cs:List Value} {v:Value} {base:Nat} {d:DataW H} {ps:List MemPlace}
theorem rd_var (h:Rd enc Tryz.prog w 198 cs):∃ x:VarD,cs=ykr x∧zub x:=by
 obtain ⟨h1,h2⟩:=yjy Tryz.underlying198 h
 rw [zmg] at h1
 match cs,h1 with
 | [a,b,c,d,e,f],_=>
  have g0:=h2 0 _ rfl
  have g1:=h2 1 _ rfl
  have g2:=h2 2 _ rfl
  have g3:=h2 3 _ rfl
  have g4:=h2 4 _ rfl
  have g5:=h2 5 _ rfl
  simp [ywk,yrd] at g0 g1 g2 g3 g4 g5
  obtain ⟨s,hs,hs'⟩:=yzx Tryz.underlying9 g0
  obtain ⟨x1,e1,q1⟩:=yfv Tryz.underlying3 g1
  obtain ⟨x2,e2,q2⟩:=yfv Tryz.underlying3 g2
  obtain ⟨x3,e3,q3⟩:=yfv Tryz.underlying3 g3
  obtain ⟨x4,e4,q4⟩:=yfv Tryz.underlying3 g4
  obtain ⟨x5,e5,q5⟩:=yfv Tryz.underlying3 g5
  simp at hs e1 e2 e3 e4 e5
  exact ⟨⟨s,x1,x2,x3,x4,x5⟩,by simp [ykr,hs,e1,e2,e3,e4,e5],zfi hs',q1,q2,q3,q4,q5⟩
theorem rd_set (h:Rd enc Tryz.prog w 99 cs):∃ s:SetD,ykv w cs s∧zwm s:=by
 obtain ⟨h1,h2⟩:=yjy Tryz.underlying99 h
 rw [zmf] at h1
 match cs,h1 with
 | [a,b],_=>
  have g0:=h2 0 _ rfl
  have g1:=h2 1 _ rfl
  simp [ywk,zbt] at g0 g1
  obtain ⟨x1,e1,q1⟩:=yfv Tryz.underlying3 g0
  obtain ⟨v,l,e2,q2,q3⟩:=znx g1
  simp at e1 e2
  exact ⟨⟨x1,l⟩,⟨v,by simp [e1,e2],q2⟩,q1,q3⟩
theorem rd_rule (h:Rd enc Tryz.prog w 97 cs):∃ r:RuleD,yxs w cs r∧zbo r:=by
 obtain ⟨h1,h2⟩:=yjy Tryz.underlying97 h
 rw [zgz] at h1
 match cs,h1 with
 | [a,b,c],_=>
  have g0:=h2 0 _ rfl
  have g1:=h2 1 _ rfl
  have g2:=h2 2 _ rfl
  simp [yrd,zbt,cellsSets] at g0 g1 g2
  obtain ⟨s,hs,hs'⟩:=yzx Tryz.underlying9 g0
  obtain ⟨gv,l,e2,q2,q3⟩:=znx g1
  obtain ⟨sv,ss,e3,q4⟩:=ykn (R:=fun cs s=>ykv w cs s∧zwm s) Tryz.underlying95 zmf (Nat.succ_pos 1) (fun cs h=>rd_set h) g2
  simp at hs e2 e3
  refine ⟨⟨s,l,ss⟩,⟨gv,sv,by simp [hs,e2,e3],q2,q4.imp fun _ _ _ h=>h.1⟩,zfi hs',q3,fun x hx=>?_⟩
  obtain ⟨xs,_,h2⟩:=q4
  obtain ⟨i,hi⟩:=List.getElem?_of_mem hx
  exact (h2 i x hi).2
theorem rd_vars (h:Rd enc Tryz.prog w 22 cs):∃ v l,cs=[v]∧yvf w v l∧∀ x∈l,zub x:=by
 obtain ⟨v,l,h1,h2⟩:=ykn (R:=fun cs x=>cs=ykr x∧zub x) Tryz.underlying22 zmg (Nat.succ_pos 5) (fun cs h=>rd_var h) h
 refine ⟨v,l,h1,ynb ykr (fun _=>rfl) (by omega) h2 (fun cs x h=>h.1),fun x hx=>?_⟩
 obtain ⟨xs,_,h3⟩:=h2
 obtain ⟨i,hi⟩:=List.getElem?_of_mem hx
 exact (h3 i x hi).2
theorem rd_rules (h:Rd enc Tryz.prog w 23 cs):∃ v l,cs=[v]∧yra w v l∧∀ x∈l,zbo x:=by
 obtain ⟨v,l,h1,h2⟩:=ykn (R:=fun cs x=>yxs w cs x∧zbo x) Tryz.underlying23 zgz (Nat.succ_pos 2) (fun cs h=>rd_rule h) h
 refine ⟨v,l,h1,h2.imp fun _ _ _ h=>h.1,fun x hx=>?_⟩
 obtain ⟨xs,_,h3⟩:=h2
 obtain ⟨i,hi⟩:=List.getElem?_of_mem hx
 exact (h3 i x hi).2
theorem open_program (hv:Value.okWide Tryz.prog w .any base 25 v) (h:DataW.Trod enc Tryz.prog w 0 (fun _=>true) true 25 v d ps):∃ p,yhj w v p∧yhi p:=by
 obtain ⟨cs,rfl,hcs⟩:∃ cs,v=.agg cs∧cs.size=Tryz.prog.cellsOf 25:=by
  unfold Value.okWide at hv
  rw [Tryz.underlying25] at hv
  obtain ⟨cs,h1,h2,_⟩:=hv
  exact ⟨cs,h1,h2⟩
 have hr:=zxb h
 simp only [Value.cells] at hr
 obtain ⟨h1,h2⟩:=yjy Tryz.underlying25 hr
 rw [cellsProgram] at h1
 obtain ⟨cs⟩:=cs
 simp only at h1 h2
 match cs,h1 with
 | [a,b,c],_=>
  have g0:=h2 0 _ rfl
  have g1:=h2 1 _ rfl
  have g2:=h2 2 _ rfl
  simp [yrd,cellsVars,cellsRules] at g0 g1 g2
  obtain ⟨s,hs,hs'⟩:=yzx Tryz.underlying9 g0
  obtain ⟨vv,l,e2,q2,q3⟩:=rd_vars g1
  obtain ⟨rv,rr,e3,q4,q5⟩:=rd_rules g2
  simp at hs e2 e3
  exact ⟨⟨s,l,rr⟩,⟨vv,rv,by simp [hs,e2,e3],q2,q4⟩,zfi hs',q3,q5⟩
end
end
section
open Go.RowKit
theorem zbz (v:Value) (l:List Tm) (k:Nat) (w:World) (hl:l.length≤1000) (hv:Hid (ycy w v l)) (_hk:k≤1000) :
  Calls Tryz.prog 197 #[v,.int .i64 k] w fun e w'=>e=.returned (.int .i64 (yre 1 k l))∧w=w':=by
 by_cases h:k < l.length
 ·exact end_any_in v l k w hl hv h
 ·obtain ⟨a,cap,rfl,h1,h2,_⟩:=hv.out.open
  have H:=Lib.hid (ysd 1 k l (by omega) (by omega))
  go_enter Tryz.func197,Tryz.ntmps197
  go_wp2
  go_ret
  exact ⟨ybd H.out.symm,rfl⟩
theorem yrr (v:Value) (l:List Tm) (k:Nat) (w:World) (hl:l.length≤1000) (hv:Hid (ycy w v l)) (_hk:k≤1000) :
  Calls Tryz.prog 294 #[v,.int .i64 k] w fun e w'=>e=.returned (.int .i64 (yre 1 k l))∧w=w':=by
 by_cases h:k < l.length
 ·exact rend_any_in v l k w hl hv h
 ·obtain ⟨a,cap,rfl,h1,h2,_⟩:=hv.out.open
  have H:=Lib.hid (ysd 1 k l (by omega) (by omega))
  go_enter Tryz.func294,Tryz.ntmps294
  go_wp2
  go_ret
  exact ⟨ybd H.out.symm,rfl⟩
theorem yyg (l:List Tm):yre 1 0 l=l.length↔∃ E,yet l=some E:=by
 rw [parse_iff]
 unfold yre
 rw [List.drop_zero]
 cases h:zjy 1 l with
 | none=>simp
 | some n=>simp;omega
theorem depth1_any (op:Int) (g:Nat) (w:World) (hg:g≤1000):Calls Tryz.prog 239 #[.int .i64 op,.int .i64 g] w fun e w'=>e=.returned (.int .i64 (ygd op g:Nat))∧w=w':=by
 go_enter Tryz.func239,Tryz.ntmps239
 go_wp2
 go_ret
 exact ⟨ybd (by unfold ygd;omega),rfl⟩
theorem nest1_any (op:Int) (g:Nat) (w:World) (hg:g≤1000):Calls Tryz.prog 240 #[.int .i64 op,.int .i64 g] w fun e w'=>e=.returned (.int .i64 (ylv op g:Nat))∧w=w':=by
 cases ha:yjk op
 all_goals
  go_enter Tryz.func240,Tryz.ntmps240
  go_wp2_with (go_at_call 241;refine (yiq _ _).mono ?_;rintro e w' ⟨rfl,rfl⟩)
  go_ret
  exact ⟨ybd (by unfold ylv;rw [ha];simp),rfl⟩
theorem zvj (f:Int→Nat→Nat) (hf:∀ op g,f op g≤g+1) (l:List Tm):∀ x∈lev f l,x≤l.length:=by
 have hm:∀ (xs:List Nat) (b:Nat),(∀ x∈xs,x≤b)→ynv xs≤b:=by
  intro xs b
  induction xs with
  | nil=>intro _;simp [ynv]
  | cons a xs ih=>
   intro h
   have h1:=h a (List.mem_cons_self ..)
   have h2:=ih (fun x hx=>h x (List.mem_cons_of_mem _ hx))
   simp only [ynv];omega
 induction l with
 | nil=>intro x hx;simp [lev] at hx
 | cons t l ih=>
  intro x hx
  simp only [lev] at hx
  cases hx with
  | head=>
   have h1:=hm ((lev f l).take (ar t.1).toNat) l.length (fun x hx=>ih x (List.mem_of_mem_take hx))
   have h2:=hf t.1 (ynv ((lev f l).take (ar t.1).toNat))
   simp only [List.length_cons];omega
  | tail _ hx=>have:=ih x (List.mem_of_mem_drop hx);simp only [List.length_cons];omega
theorem zsc (f:Int→Nat→Nat) (l:List Tm):(lev f l).length≤l.length:=by
 induction l with
 | nil=>simp [lev]
 | cons t l ih=>simp only [lev,List.length_cons,List.length_drop];omega
theorem yzg (xs ys:List Nat):ynv (xs++ys)=max (ynv xs) (ynv ys):=by
 induction xs with
 | nil=>simp [ynv]
 | cons a xs ih=>simp only [List.cons_append,ynv,ih];omega
theorem maxl_reverse (xs:List Nat):ynv xs.reverse=ynv xs:=by
 induction xs with
 | nil=>rfl
 | cons a xs ih=>rw [List.reverse_cons,yzg,ih];simp only [ynv];omega
theorem yqr (xs:List Nat) (q:Nat) (x:Nat) (h:xs[q]?=some x):ynv (xs.take (q+1))=max (ynv (xs.take q)) x:=by
 obtain ⟨h1,h2⟩:=List.getElem?_eq_some_iff.1 h
 rw [List.take_succ_eq_append_getElem h1,yzg,h2];simp [ynv]
def ycm (xs:List Nat):List Value:=xs.map fun (n:Nat)=>Value.int .i64 n
theorem ykm (xs:List Nat) (i x:Nat) (h:xs[i]?=some x):(ycm xs)[i]?=some (.int .i64 x):=by unfold ycm;rw [List.getElem?_map,h];rfl
theorem yex (xs:List Nat):(ycm xs).length=xs.length:=by simp [ycm]
theorem ycn (xs ys:List Nat):ycm (xs++ys)=ycm xs++ycm ys:=by simp [ycm]
theorem ywy {w:World} {B e cap n m:Nat} {a:Option Addr} {xs ys:List Value} (hm:ys.length=m)
  (h:w.ownsRow B e 1 (.slice a n cap) n (ys++xs)):w.ownsRow B e 1 (.slice a m cap) m ys:=by
 obtain ⟨h1,h2⟩:=h
 refine ⟨by omega,?_⟩
 rw [List.length_append] at h1
 rcases h2 with ⟨h0,h3⟩|⟨g',cap',cur,hv,hg,hh,hn,hcap,hsz,htake⟩
 ·cases h0
  exact .inl ⟨by rw [show m=0 by omega],by omega⟩
 ·cases hv
  refine .inr ⟨g',cap,cur,rfl,hg,hh,by omega,hcap,hsz,?_⟩
  have h4:=congrArg (List.take m) htake
  rw [List.take_take,Nat.min_eq_left (by omega),← hm,List.take_append_of_le_length (Nat.le_refl _),List.take_length] at h4
  rw [Nat.mul_one,← hm];exact h4
theorem zdo {P:Program} {t:TypeId} (ht:P.underlying t=some (.slice (P.elem t))) (hs:∀ w,(sizeOf (P.elem t)).run P w=.ok 1 w) (a:Option Addr) (n cap r m:Nat) (i:Int) (hi:i=r) (h:m+r=n) (hc:n≤cap) :
  ∃ sb capb,(∀ w,(Instr.slice t (.slice a n cap) (some (.int .i64 i)) none none).run P w=.ok (.slice sb m capb) w)∧m≤capb∧capb≤cap∧(∀ g o,a=some ⟨g,o,none⟩→0 < m→sb=some ⟨g,o+r,none⟩):=by
 subst hi
 refine ⟨if cap=r then a else a.map (·.add (r * 1)),cap - r,fun w=>?_,by omega,by omega,fun g o ha hr=>?_⟩
 ·rw [run_slice_l w t a n cap ht .i64 r (by omega) (by omega),hs]
  show Result.ok (sliced a r n cap 1) w=_
  unfold sliced
  rw [show n - r=m by omega]
 ·rw [if_neg (by omega),ha]
  simp only [Option.map_some,Nat.mul_one,Addr.add]
  split
  ·simp_all
  ·rfl
theorem ypx {P:Program} {t:TypeId} (ht:P.underlying t=some (.slice (P.elem t))) (hs:∀ w,(sizeOf (P.elem t)).run P w=.ok 1 w) (a:Option Addr) (n cap r:Nat) (i:Int) (hi:i=r) (h:r≤cap) :
  ∀ w,(Instr.slice t (.slice a n cap) none (some (.int .i64 i)) none).run P w=.ok (.slice a r cap) w:=by
 subst hi
 intro w
 rw [run_slice_h w t a n cap ht .i64 r (by omega) (by omega),hs]
 show Result.ok (sliced a 0 r cap 1) w=_
 unfold sliced
 by_cases h0:cap=0
 ·rw [if_pos h0];rfl
 ·rw [if_neg h0]
  cases a <;> simp [Addr.add]
theorem ziw {w:World} {B e:Nat} {v x:Value} (h:w.ownsRow B e 1 v 1 [x]):∃ g cap,v=.slice (some ⟨g,0,none⟩) 1 cap∧1≤cap∧cap≤9223372036854775807∧w.cell? ⟨g,0,none⟩=some x:=by
 have h5:=h
 obtain ⟨h1,h2⟩:=h
 rcases h2 with ⟨h0,h3⟩|⟨g,cap,cur,rfl,hg,hh,hn,hcap,hsz,htake⟩
 ·omega
 ·unfold maxLen at hcap
  have hc:=h5.cells (g:=g) rfl 0 x rfl
  exact ⟨g,cap,rfl,hn,by omega,by simpa [Addr.add] using hc⟩
theorem yjx {w:World} {B e n cap:Nat} {a:Option Addr} {xs:List Value} (h:w.ownsRow B e 1 (.slice a n cap) n xs):n≤cap∧cap≤9223372036854775807∧(0 < n→∃ g,a=some ⟨g,0,none⟩∧∀ j u,xs[j]?=some u→w.cell? ⟨g,j,none⟩=some u):=by
 obtain ⟨a',cap',hv,h1,h2,h3,h4⟩:=(yuv h).open
 cases hv
 refine ⟨h1,h2,fun hn=>?_⟩
 rcases h.2 with ⟨h0,h5⟩|⟨g,cap,cur,hv,hg,hh,hn',hcap,hsz,htake⟩
 ·omega
 ·cases hv
  refine ⟨g,rfl,fun j u hu=>?_⟩
  have hc:=h.cells (g:=g) rfl j u hu
  have h0:(⟨g,0,none⟩:Addr).add j=⟨g,j,none⟩:=by unfold Addr.add;split <;> simp_all
  rw [h0] at hc;exact hc
theorem yyz (f:Int→Nat→Nat) (l:List Tm) (E:Ex) (hf:ydy l=some [E]) (j:Nat) (hj:j < l.length) :
  0≤ar l[j].1∧∃ lo seg:List Nat,(lev f (l.drop (j+1))).reverse=lo++seg∧(seg.length:Int)=ar l[j].1∧(lev f (l.drop j)).reverse=lo++[f l[j].1 (ynv seg)]:=by
 obtain ⟨G',hG'⟩:=forest_suffix l j _ hf
 rw [List.drop_eq_getElem_cons hj] at hG'
 obtain ⟨G,hG,h0,hle,_⟩:=ysg _ _ _ hG'
 have hlen:(lev f (l.drop (j+1))).length=G.length:=by rw [yui f _ G hG,List.length_map]
 refine ⟨h0,((lev f (l.drop (j+1))).drop (ar l[j].1).toNat).reverse,((lev f (l.drop (j+1))).take (ar l[j].1).toNat).reverse,?_,?_,?_⟩
 ·rw [← List.reverse_append,List.take_append_drop]
 ·rw [List.length_reverse,List.length_take,hlen];omega
 ·rw [List.drop_eq_getElem_cons hj]
  simp only [lev,List.reverse_cons,maxl_reverse]
theorem yyv:(Tryz.prog.info? 3).map (fun i=>(i.zero,i.size,i.bytes))=some (some (.int .i64 0),1,8):=by kernel_rfl
theorem zal (w:World):(sizeOf (Tryz.prog.elem 26)).run Tryz.prog w=.ok 1 w:=by kernel_rfl
theorem yow:Tryz.prog.underlying 26=some (.slice (Tryz.prog.elem 26)):=by kernel_rfl
set_option maxHeartbeats 4000000 in
theorem levels_depth (v:Value) (l:List Tm) (E:Ex) (w:World) (hl:l.length≤1000) (hv:Hid (ycy w v l)) (hp:Hid (yet l=some E)) :
  Calls Tryz.prog 238 #[v,.func (.func 239) #[] #[]] w fun e w'=>e=.returned (.tuple #[.int .i64 (val ygd E:Nat),.bool true])∧Below w.heap.size w w':=by
 obtain ⟨i0,hi,hz0,hz1,hz2⟩:=info_parts yyv
 have Hi:=Lib.hid hi
 have Hz0:=Lib.hid hz0
 have Hz1:=Lib.hid hz1
 have Hz2:=Lib.hid hz2
 clear hi hz0 hz1 hz2
 obtain ⟨hok,hfl⟩:=ygj hp.out
 have HF:Hid (ydy l=some [E]):=by rw [← hfl];have:=ysh E hok [] [] rfl;rw [List.append_nil] at this;exact this
 have hpos:0 < l.length:=by rw [← hfl];exact E.fl_pos
 have HE:=Lib.hid ((yyg l).2 ⟨E,hp.out⟩)
 have hne:(yre 1 0 l != (l.length:Int))=false:=by rw [HE.out];simp
 clear hok hfl
 obtain ⟨a0,cap0,rfl,h1,h2,h3⟩:=hv.out.open
 obtain ⟨g0,o0,rfl,hg0,hc⟩:=h3 hpos
 have HC:=Lib.hid hc
 clear h3 hc
 go_enter Tryz.func238,Tryz.ntmps238
 go_wp2_with (go_at_call 197;refine (zbz _ l 0 _ hl hv (by omega)).mono ?_;rintro e w' ⟨rfl,rfl⟩)
 go_loopg [6,7,8,9,11] l.length (fun m st i _ _ _ wr=>m≤l.length∧i=.int .i64 ((m:Int) - 1)∧wr.ownsRow w.heap.size 3 1 st (lev ygd (l.drop m)).length (ycm (lev ygd (l.drop m)).reverse)∧Below w.heap.size w wr)
 case atStart=>
  refine ⟨Nat.le_refl _,rfl,?_,Below.refl _ _⟩
  rw [List.drop_length];exact World.ownsRow_nil _ _ _ _
 case round=>
  obtain ⟨hm,rfl,hown,hbel⟩:=hrel
  by_cases h0:gk=0
  ·subst h0
   rw [List.drop_zero,yui ygd l [E] HF.out] at hown
   obtain ⟨g,cap,rfl,hc1,hc2,hcell⟩:=ziw hown
   go_wp2_with fail
   go_ret2
   exact ⟨rfl,hbel⟩
  ·obtain ⟨j,rfl⟩:∃ j,gk=j+1:=⟨gk - 1,by omega⟩
   have hj:j < l.length:=by omega
   obtain ⟨ha0,lo,seg,hr1,hr2,hr3⟩:=yyz ygd l E HF.out j hj
   have hlen:(lev ygd (l.drop (j+1))).length=lo.length+seg.length:=by rw [← List.length_reverse,hr1,List.length_append]
   have hsegb:ynv seg≤1000:=by
    have h1:=zvj ygd (by intro op g;simp only [ygd];first|omega|(split <;> omega)) (l.drop (j+1))
    have h2:∀ (xs:List Nat) (b:Nat),(∀ x∈xs,x≤b)→ynv xs≤b:=by
     intro xs b
     induction xs with
     | nil=>intro _;simp [ynv]
     | cons a xs ih=>
      intro h
      have h1:=h a (List.mem_cons_self ..)
      have h2:=ih (fun x hx=>h x (List.mem_cons_of_mem _ hx))
      simp only [ynv];omega
    refine Nat.le_trans (h2 seg (l.drop (j+1)).length fun x hx=>h1 x ?_) (by rw [List.length_drop];omega)
    rw [← List.mem_reverse,hr1];exact List.mem_append_right _ hx
   have e1:((j+1:Nat):Int) - 1=j:=by omega
   rw [e1]
   rw [hr1,hlen] at hown
   have H3:=Lib.hid hr3
   obtain ⟨sa,scap,rfl⟩:=ylw hown
   obtain ⟨hn1,hn2,hn3⟩:=yjx hown
   obtain ⟨sb,capb,hsl,hb1,hb2,hb3⟩:=zdo yow zal sa (lo.length+seg.length) scap lo.length seg.length (((lo.length+seg.length:Nat):Int) - ar l[j].1) (by omega) (by omega) hn1
   have hsl2:=ypx yow zal sa (lo.length+seg.length) scap lo.length (((lo.length+seg.length:Nat):Int) - ar l[j].1) (by omega) (by omega)
   obtain ⟨c0,c1⟩:=HC.out j _ (List.getElem?_eq_getElem hj)
   rw [← hbel.cell (p:=⟨g0,_,none⟩) hg0] at c0 c1
   have HR2:=Lib.hid hr2
   have hra:ar l[j].1≤((lo.length+seg.length:Nat):Int):=by omega
   have hlo:lo.length+seg.length≤1000:=by have h1:=zsc ygd (l.drop (j+1));rw [List.length_drop] at h1;omega
   have hnpos:(0 < seg.length→0 < lo.length+seg.length):=by omega
   have hlo2:lo.length≤scap:=by omega
   have hlo3:lo.length≤1000:=by omega
   generalize hN:lo.length+seg.length=n at *
   have HN:=Lib.hid hN
   clear hN
   clear hr1 hr2 hr3 hlen e1 h0
   go_wp2_with (go_at_call 237;refine (ygw _ _).mono ?_;rintro e w' ⟨rfl,rfl⟩)
   go_loop [9,11,37] (fun gr _ q=>∃ k:Nat,k≤seg.length∧q=.int .i64 k∧gr=.int .i64 (ynv (seg.take k):Nat)) (fun _ _ q=>seg.length - (intOf q).toNat)
   case atStart=>exact ⟨0,by omega,rfl,rfl⟩
   case round=>
    obtain ⟨k,hk,rfl,rfl⟩:=hrel
    by_cases hq:k < seg.length
    ·obtain ⟨g,rfl,hcs⟩:=hn3 (by have:=HN.out;omega)
     obtain rfl:=hb3 g 0 rfl (by omega)
     obtain ⟨x,hx⟩:∃ x,seg[k]?=some x:=⟨seg[k],List.getElem?_eq_getElem hq⟩
     have hcell:=hcs (lo.length+k) _ (ykm (lo++seg) (lo.length+k) x (by rw [List.getElem?_append_right (by omega),Nat.add_sub_cancel_left];exact hx))
     have HM:=Lib.hid (yqr seg k x hx)
     clear hcs hx
     simp only [Nat.zero_add]
     generalize ynv (seg.take k)=mk at *
     go_wp2_with fail
     refine ⟨⟨k+1,by omega,by go_num,?_⟩,by simp [intOf];omega⟩
     rw [HM.out]
     congr 1
     split <;> omega
    ·obtain rfl:k=seg.length:=by omega
     rw [List.take_length]
     go_wp2_with fail
     have hown':wr.ownsRow w.heap.size 3 1 (.slice sa lo.length scap) lo.length (ycm lo):=ywy (yex lo) (by rw [ycn] at hown;exact hown)
     go_region_law (first|(go_simp;go_at_call 239;refine (depth1_any _ _ _ hsegb).mono ?_;rintro e w' ⟨rfl,rfl⟩;dsimp only)|(refine step_append_lies _ rfl (.tmp 47) (.tmp 56) 26 rfl w.heap.size 3 i0 (.int .i64 0) 1 8 Tryz.underlying26 Hi.out Hz0.out Hz1.out Hz2.out rfl (by decide) _ _ _ rfl (by exact yfs hown' (by repeat (first|exact Below.refl _ _|apply Below.drew|refine Below.alloc ?_ (by simp) _))) ⟨wr.heap.size,0,none⟩ 1 1 [.int .i64 (ygd l[j].1 (ynv seg):Nat)] rfl rfl (by exact ysw _ _ _ _ (by simp)) (by simp [Value.oneCell']) (by decide) (by unfold maxLen;omega) (by omega) (by have:=hbel.size;simp;omega) _ rfl ?_;intro g2 cap2 w2 hown2 hgrow2 _ _))
     have HO:w2.ownsRow w.heap.size 3 1 (.slice (some ⟨g2,0,none⟩) (lo.length+1) cap2) (lev ygd (l.drop j)).length (ycm (lev ygd (l.drop j)).reverse):=by
      have e5:=congrArg List.length H3.out
      rw [List.length_reverse,List.length_append] at e5
      rw [e5,H3.out,ycn];exact hown2
     have HB:Below w.heap.size w w2:=Below.grown (by repeat (first|exact hbel|apply Below.drew|refine Below.alloc ?_ (by have:=hbel.size;simp;omega) _)) hgrow2 (by have:=hbel.size;simp;omega) (zdb hown')
     clear hown2 hgrow2 hown'
     go_wp2_with fail
     go_roundg j
     case measure=>omega
     case rel=>exact ⟨by omega,by go_num,HO,HB⟩
set_option maxHeartbeats 4000000 in
theorem levels_nest (v:Value) (l:List Tm) (E:Ex) (w:World) (hl:l.length≤1000) (hv:Hid (ycy w v l)) (hp:Hid (yet l=some E)) :
  Calls Tryz.prog 238 #[v,.func (.func 240) #[] #[]] w fun e w'=>e=.returned (.tuple #[.int .i64 (val ylv E:Nat),.bool true])∧Below w.heap.size w w':=by
 obtain ⟨i0,hi,hz0,hz1,hz2⟩:=info_parts yyv
 have Hi:=Lib.hid hi
 have Hz0:=Lib.hid hz0
 have Hz1:=Lib.hid hz1
 have Hz2:=Lib.hid hz2
 clear hi hz0 hz1 hz2
 obtain ⟨hok,hfl⟩:=ygj hp.out
 have HF:Hid (ydy l=some [E]):=by rw [← hfl];have:=ysh E hok [] [] rfl;rw [List.append_nil] at this;exact this
 have hpos:0 < l.length:=by rw [← hfl];exact E.fl_pos
 have HE:=Lib.hid ((yyg l).2 ⟨E,hp.out⟩)
 have hne:(yre 1 0 l != (l.length:Int))=false:=by rw [HE.out];simp
 clear hok hfl
 obtain ⟨a0,cap0,rfl,h1,h2,h3⟩:=hv.out.open
 obtain ⟨g0,o0,rfl,hg0,hc⟩:=h3 hpos
 have HC:=Lib.hid hc
 clear h3 hc
 go_enter Tryz.func238,Tryz.ntmps238
 go_wp2_with (go_at_call 197;refine (zbz _ l 0 _ hl hv (by omega)).mono ?_;rintro e w' ⟨rfl,rfl⟩)
 go_loopg [6,7,8,9,11] l.length (fun m st i _ _ _ wr=>m≤l.length∧i=.int .i64 ((m:Int) - 1)∧wr.ownsRow w.heap.size 3 1 st (lev ylv (l.drop m)).length (ycm (lev ylv (l.drop m)).reverse)∧Below w.heap.size w wr)
 case atStart=>
  refine ⟨Nat.le_refl _,rfl,?_,Below.refl _ _⟩
  rw [List.drop_length];exact World.ownsRow_nil _ _ _ _
 case round=>
  obtain ⟨hm,rfl,hown,hbel⟩:=hrel
  by_cases h0:gk=0
  ·subst h0
   rw [List.drop_zero,yui ylv l [E] HF.out] at hown
   obtain ⟨g,cap,rfl,hc1,hc2,hcell⟩:=ziw hown
   go_wp2_with fail
   go_ret2
   exact ⟨rfl,hbel⟩
  ·obtain ⟨j,rfl⟩:∃ j,gk=j+1:=⟨gk - 1,by omega⟩
   have hj:j < l.length:=by omega
   obtain ⟨ha0,lo,seg,hr1,hr2,hr3⟩:=yyz ylv l E HF.out j hj
   have hlen:(lev ylv (l.drop (j+1))).length=lo.length+seg.length:=by rw [← List.length_reverse,hr1,List.length_append]
   have hsegb:ynv seg≤1000:=by
    have h1:=zvj ylv (by intro op g;simp only [ylv];first|omega|(split <;> omega)) (l.drop (j+1))
    have h2:∀ (xs:List Nat) (b:Nat),(∀ x∈xs,x≤b)→ynv xs≤b:=by
     intro xs b
     induction xs with
     | nil=>intro _;simp [ynv]
     | cons a xs ih=>
      intro h
      have h1:=h a (List.mem_cons_self ..)
      have h2:=ih (fun x hx=>h x (List.mem_cons_of_mem _ hx))
      simp only [ynv];omega
    refine Nat.le_trans (h2 seg (l.drop (j+1)).length fun x hx=>h1 x ?_) (by rw [List.length_drop];omega)
    rw [← List.mem_reverse,hr1];exact List.mem_append_right _ hx
   have e1:((j+1:Nat):Int) - 1=j:=by omega
   rw [e1]
   rw [hr1,hlen] at hown
   have H3:=Lib.hid hr3
   obtain ⟨sa,scap,rfl⟩:=ylw hown
   obtain ⟨hn1,hn2,hn3⟩:=yjx hown
   obtain ⟨sb,capb,hsl,hb1,hb2,hb3⟩:=zdo yow zal sa (lo.length+seg.length) scap lo.length seg.length (((lo.length+seg.length:Nat):Int) - ar l[j].1) (by omega) (by omega) hn1
   have hsl2:=ypx yow zal sa (lo.length+seg.length) scap lo.length (((lo.length+seg.length:Nat):Int) - ar l[j].1) (by omega) (by omega)
   obtain ⟨c0,c1⟩:=HC.out j _ (List.getElem?_eq_getElem hj)
   rw [← hbel.cell (p:=⟨g0,_,none⟩) hg0] at c0 c1
   have HR2:=Lib.hid hr2
   have hra:ar l[j].1≤((lo.length+seg.length:Nat):Int):=by omega
   have hlo:lo.length+seg.length≤1000:=by have h1:=zsc ylv (l.drop (j+1));rw [List.length_drop] at h1;omega
   have hnpos:(0 < seg.length→0 < lo.length+seg.length):=by omega
   have hlo2:lo.length≤scap:=by omega
   have hlo3:lo.length≤1000:=by omega
   generalize hN:lo.length+seg.length=n at *
   have HN:=Lib.hid hN
   clear hN
   clear hr1 hr2 hr3 hlen e1 h0
   go_wp2_with (go_at_call 237;refine (ygw _ _).mono ?_;rintro e w' ⟨rfl,rfl⟩)
   go_loop [9,11,37] (fun gr _ q=>∃ k:Nat,k≤seg.length∧q=.int .i64 k∧gr=.int .i64 (ynv (seg.take k):Nat)) (fun _ _ q=>seg.length - (intOf q).toNat)
   case atStart=>exact ⟨0,by omega,rfl,rfl⟩
   case round=>
    obtain ⟨k,hk,rfl,rfl⟩:=hrel
    by_cases hq:k < seg.length
    ·obtain ⟨g,rfl,hcs⟩:=hn3 (by have:=HN.out;omega)
     obtain rfl:=hb3 g 0 rfl (by omega)
     obtain ⟨x,hx⟩:∃ x,seg[k]?=some x:=⟨seg[k],List.getElem?_eq_getElem hq⟩
     have hcell:=hcs (lo.length+k) _ (ykm (lo++seg) (lo.length+k) x (by rw [List.getElem?_append_right (by omega),Nat.add_sub_cancel_left];exact hx))
     have HM:=Lib.hid (yqr seg k x hx)
     clear hcs hx
     simp only [Nat.zero_add]
     generalize ynv (seg.take k)=mk at *
     go_wp2_with fail
     refine ⟨⟨k+1,by omega,by go_num,?_⟩,by simp [intOf];omega⟩
     rw [HM.out]
     congr 1
     split <;> omega
    ·obtain rfl:k=seg.length:=by omega
     rw [List.take_length]
     go_wp2_with fail
     have hown':wr.ownsRow w.heap.size 3 1 (.slice sa lo.length scap) lo.length (ycm lo):=ywy (yex lo) (by rw [ycn] at hown;exact hown)
     go_region_law (first|(go_simp;go_at_call 240;refine (nest1_any _ _ _ hsegb).mono ?_;rintro e w' ⟨rfl,rfl⟩;dsimp only)|(refine step_append_lies _ rfl (.tmp 47) (.tmp 56) 26 rfl w.heap.size 3 i0 (.int .i64 0) 1 8 Tryz.underlying26 Hi.out Hz0.out Hz1.out Hz2.out rfl (by decide) _ _ _ rfl (by exact yfs hown' (by repeat (first|exact Below.refl _ _|apply Below.drew|refine Below.alloc ?_ (by simp) _))) ⟨wr.heap.size,0,none⟩ 1 1 [.int .i64 (ylv l[j].1 (ynv seg):Nat)] rfl rfl (by exact ysw _ _ _ _ (by simp)) (by simp [Value.oneCell']) (by decide) (by unfold maxLen;omega) (by omega) (by have:=hbel.size;simp;omega) _ rfl ?_;intro g2 cap2 w2 hown2 hgrow2 _ _))
     have HO:w2.ownsRow w.heap.size 3 1 (.slice (some ⟨g2,0,none⟩) (lo.length+1) cap2) (lev ylv (l.drop j)).length (ycm (lev ylv (l.drop j)).reverse):=by
      have e5:=congrArg List.length H3.out
      rw [List.length_reverse,List.length_append] at e5
      rw [e5,H3.out,ycn];exact hown2
     have HB:Below w.heap.size w w2:=Below.grown (by repeat (first|exact hbel|apply Below.drew|refine Below.alloc ?_ (by have:=hbel.size;simp;omega) _)) hgrow2 (by have:=hbel.size;simp;omega) (zdb hown')
     clear hown2 hgrow2 hown'
     go_wp2_with fail
     go_roundg j
     case measure=>omega
     case rel=>exact ⟨by omega,by go_num,HO,HB⟩
theorem yza (v fv:Value) (l:List Tm) (w:World) (hl:l.length≤1000) (hv:Hid (ycy w v l)) (hp:Hid (yet l=none)) :
  Calls Tryz.prog 238 #[v,fv] w fun e w'=>e=.returned (.tuple #[.int .i64 0,.bool false])∧w=w':=by
 have hne:(yre 1 0 l != (l.length:Int))=true:=by
  rw [bne_iff_ne]
  intro h
  obtain ⟨E,hE⟩:=(yyg l).1 h
  rw [hp.out] at hE;cases hE
 obtain ⟨a0,cap0,rfl,h1,h2,h3⟩:=hv.out.open
 clear h3
 go_enter Tryz.func238,Tryz.ntmps238
 go_wp2_with (go_at_call 197;refine (zbz _ l 0 _ hl hv (by omega)).mono ?_;rintro e w' ⟨rfl,rfl⟩)
 go_ret2
 exact ⟨rfl,rfl⟩
def yvl (l:List Tm):Nat:=match yet l with|none=>0|some E=>E.dp
def zld (l:List Tm):Nat:=match yet l with|none=>0|some E=>E.ns
theorem depth_any (v:Value) (l:List Tm) (w:World) (hl:l.length≤1000) (hv:Hid (ycy w v l)) :
  Calls Tryz.prog 199 #[v] w fun e w'=>e=.returned (.int .i64 (yvl l))∧Below w.heap.size w w':=by
 cases hp:yet l with
 | none=>
  have H:Hid (yvl l=0):=by unfold yvl;rw [hp];rfl
  have HP:=Lib.hid hp
  clear hp
  go_enter Tryz.func199,Tryz.ntmps199
  go_wp2_with (go_at_call 238;refine (yza _ _ l _ hl hv HP).mono ?_;rintro e w' ⟨rfl,rfl⟩)
  go_ret
  exact ⟨ybd (by rw [H.out];rfl),Below.refl _ _⟩
 | some E=>
  have H:Hid (yvl l=val ygd E):=by unfold yvl;rw [hp,val_depth];rfl
  have HP:=Lib.hid hp
  clear hp
  go_enter Tryz.func199,Tryz.ntmps199
  go_wp2_with (go_at_call 238;refine (levels_depth _ l E _ hl hv HP).mono ?_;rintro e w' ⟨rfl,hb⟩)
  go_ret
  exact ⟨ybd (by rw [H.out]),hb⟩
theorem nest_any (v:Value) (l:List Tm) (w:World) (hl:l.length≤1000) (hv:Hid (ycy w v l)) :
  Calls Tryz.prog 200 #[v] w fun e w'=>e=.returned (.int .i64 (zld l))∧Below w.heap.size w w':=by
 cases hp:yet l with
 | none=>
  have H:Hid (zld l=0):=by unfold zld;rw [hp];rfl
  have HP:=Lib.hid hp
  clear hp
  go_enter Tryz.func200,Tryz.ntmps200
  go_wp2_with (go_at_call 238;refine (yza _ _ l _ hl hv HP).mono ?_;rintro e w' ⟨rfl,rfl⟩)
  go_ret
  exact ⟨ybd (by rw [H.out];rfl),Below.refl _ _⟩
 | some E=>
  have H:Hid (zld l=val ylv E):=by unfold zld;rw [hp,val_nest E (ygj hp).1];rfl
  have HP:=Lib.hid hp
  clear hp
  go_enter Tryz.func200,Tryz.ntmps200
  go_wp2_with (go_at_call 238;refine (levels_nest _ l E _ hl hv HP).mono ?_;rintro e w' ⟨rfl,hb⟩)
  go_ret
  exact ⟨ybd (by rw [H.out]),hb⟩
end
end Go.Proofs.YtgpbgfpjlhoicaaGreatDoor
