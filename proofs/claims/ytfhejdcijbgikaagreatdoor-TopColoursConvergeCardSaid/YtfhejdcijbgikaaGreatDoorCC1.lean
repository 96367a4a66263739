/- Part 1 of the texts under TopColoursConverge: joined, with what it needs alone. -/
import Derived.Below
import Derived.WalkSmall
import Derived.Test.YtfhejdcijbgikaaGreatDoorRows
import Derived.WalkKit
import Derived.WalkSpells
import Derived.WalkLawsBesides
import Derived.Lib.Hide
import Derived.Deep.Slices
import Derived.ChangeArms
import Derived.OpenShut
import Derived.WideShapes
import Derived.Deep.AppendLies
import Derived.Deep.RegionLaw
import Derived.Deep.LoopGhost
import Derived.Deep.RegionHeld3
import Derived.Deep.QuietTactic
import Derived.BigQuiet
namespace Go.Proofs.YtfhejdcijbgikaaGreatDoor
section
open Go.RowKit
abbrev Tm:=Int × Int
def ar (op:Int):Int:=if op < 1∨43 < op then -1 else if op≤17 then 0 else if op≤29 then 1 else if op≤42 then 2 else 3
def yts (op:Int):Bool:=decide (20≤op) && decide (op≤29)
theorem zxy (op:Int):-1≤ar op∧ar op≤3:=by
 unfold ar;repeat' split
 all_goals omega
inductive Ex where
 | lf (t:Tm)
 | un (t:Tm) (a:Ex)
 | bi (t:Tm) (a b:Ex)
 | tr (t:Tm) (a b c:Ex)
namespace Ex
def fl:Ex→List Tm
 | lf t=>[t]
 | un t a=>t::a.fl
 | bi t a b=>t::(a.fl++b.fl)
 | tr t a b c=>t::(a.fl++(b.fl++c.fl))
def ok:Ex→Prop
 | lf t=>ar t.1=0
 | un t a=>ar t.1=1∧a.ok
 | bi t a b=>ar t.1=2∧a.ok∧b.ok
 | tr t a b c=>ar t.1=3∧a.ok∧b.ok∧c.ok
def dp:Ex→Nat
 | lf _=>1
 | un _ a=>a.dp+1
 | bi _ a b=>max a.dp b.dp+1
 | tr _ a b c=>max a.dp (max b.dp c.dp)+1
def ns:Ex→Nat
 | lf _=>0
 | un t a=>if yts t.1 then a.ns+1 else a.ns
 | bi _ a b=>max a.ns b.ns
 | tr _ a b c=>max a.ns (max b.ns c.ns)
theorem fl_pos (E:Ex):1≤E.fl.length:=by cases E <;> simp [fl]
end Ex
def zjn:Nat→List Tm→Option Nat
 | 0,_=>some 0
 | _+1,[]=>none
 | w+1,t::l=>if ar t.1 < 0 then none else (zjn (w+(ar t.1).toNat) l).map (·+1)
theorem yrx (l:List Tm):zjn 0 l=some 0:=by cases l <;> rfl
theorem endN_nil (w:Nat):zjn (w+1) []=none:=rfl
theorem zmv (w:Nat) (t:Tm) (l:List Tm) (h:ar t.1 < 0):zjn (w+1) (t::l)=none:=by simp only [zjn];rw [if_pos h]
theorem yls (w:Nat) (t:Tm) (l:List Tm) (h:¬ ar t.1 < 0):zjn (w+1) (t::l)=(zjn (w+(ar t.1).toNat) l).map (·+1):=by simp only [zjn];rw [if_neg h]
theorem zsd (E:Ex):E.ok→∀ (w:Nat) (r:List Tm),zjn (w+1) (E.fl++r)=(zjn w r).map (·+E.fl.length):=by
 induction E with
 | lf t=>
  intro h w r
  have h':ar t.1=0:=h
  simp only [Ex.fl,List.cons_append,List.nil_append]
  rw [yls w t r (by omega),h'];rfl
 | un t a iha=>
  intro ⟨h,ha⟩ w r
  simp only [Ex.fl,List.cons_append]
  rw [yls w t _ (by omega),h,show w+(1:Int).toNat=w+1 from rfl,iha ha,Option.map_map]
  congr 1
 | bi t a b iha ihb=>
  intro ⟨h,ha,hb⟩ w r
  simp only [Ex.fl,List.cons_append,List.append_assoc]
  rw [yls w t _ (by omega),h,show w+(2:Int).toNat=(w+1)+1 from rfl,iha ha,ihb hb,Option.map_map,Option.map_map]
  congr 1
  funext x;simp [List.length_append];omega
 | tr t a b c iha ihb ihc=>
  intro ⟨h,ha,hb,hc⟩ w r
  simp only [Ex.fl,List.cons_append,List.append_assoc]
  rw [yls w t _ (by omega),h,show w+(3:Int).toNat=((w+1)+1)+1 from rfl,iha ha,ihb hb,ihc hc,Option.map_map,Option.map_map,Option.map_map]
  congr 1
  funext x;simp [List.length_append];omega
def yeb:List Tm→Option (List Ex)
 | []=>some []
 | t::l=>
  match yeb l with
  | none=>none
  | some F=>
   if ar t.1=0 then some (.lf t::F)
   else if ar t.1=1 then (match F with|a::F=>some (.un t a::F)|_=>none)
   else if ar t.1=2 then (match F with|a::b::F=>some (.bi t a b::F)|_=>none)
   else if ar t.1=3 then (match F with|a::b::c::F=>some (.tr t a b c::F)|_=>none)
   else none
theorem yyk (E:Ex):E.ok→∀ (r:List Tm) (F:List Ex),yeb r=some F→yeb (E.fl++r)=some (E::F):=by
 induction E with
 | lf t=>intro h r F hr;have h':ar t.1=0:=h;simp [Ex.fl,yeb,hr,h']
 | un t a iha=>intro ⟨h,ha⟩ r F hr;simp [Ex.fl,yeb,iha ha r F hr,h]
 | bi t a b iha ihb=>intro ⟨h,ha,hb⟩ r F hr;simp [Ex.fl,yeb,iha ha _ _ (ihb hb r F hr),h]
 | tr t a b c iha ihb ihc=>intro ⟨h,ha,hb,hc⟩ r F hr;simp [Ex.fl,yeb,iha ha _ _ (ihb hb _ _ (ihc hc r F hr)),h]
def yqw (F:List Ex):List Tm:=F.flatMap Ex.fl
theorem forest_inv (l:List Tm):∀ F,yeb l=some F→(∀ E∈F,E.ok)∧yqw F=l:=by
 induction l with
 | nil=>intro F h;simp [yeb] at h;subst h;simp [yqw]
 | cons t l ih=>
  intro F h
  simp only [yeb] at h
  cases hl:yeb l with
  | none=>rw [hl] at h;cases h
  | some G=>
   obtain ⟨h1,h2⟩:=ih G hl
   rw [hl] at h
   simp only at h
   by_cases a0:ar t.1=0
   ·rw [if_pos a0] at h;cases h
    refine ⟨fun E hE=>?_,by simp only [yqw,List.flatMap_cons,Ex.fl] at *;rw [h2];rfl⟩
    cases hE with
    | head=>exact a0
    | tail _ hE=>exact h1 E hE
   rw [if_neg a0] at h
   by_cases a1:ar t.1=1
   ·rw [if_pos a1] at h
    match G,h,h1,h2 with
    | a::G,h,h1,h2=>
     cases h
     refine ⟨fun E hE=>?_,by simp only [yqw,List.flatMap_cons,Ex.fl] at *;rw [← h2];rfl⟩
     cases hE with
     | head=>exact ⟨a1,h1 a (List.mem_cons_self ..)⟩
     | tail _ hE=>exact h1 E (List.mem_cons_of_mem _ hE)
   rw [if_neg a1] at h
   by_cases a2:ar t.1=2
   ·rw [if_pos a2] at h
    match G,h,h1,h2 with
    | a::b::G,h,h1,h2=>
     cases h
     refine ⟨fun E hE=>?_,by simp only [yqw,List.flatMap_cons,Ex.fl] at *;rw [← h2];simp⟩
     cases hE with
     | head=>exact ⟨a2,h1 a (by simp),h1 b (by simp)⟩
     | tail _ hE=>exact h1 E (List.mem_cons_of_mem _ (List.mem_cons_of_mem _ hE))
   rw [if_neg a2] at h
   by_cases a3:ar t.1=3
   ·rw [if_pos a3] at h
    match G,h,h1,h2 with
    | a::b::c::G,h,h1,h2=>
     cases h
     refine ⟨fun E hE=>?_,by simp only [yqw,List.flatMap_cons,Ex.fl] at *;rw [← h2];simp⟩
     cases hE with
     | head=>exact ⟨a3,h1 a (by simp),h1 b (by simp),h1 c (by simp)⟩
     | tail _ hE=>exact h1 E (List.mem_cons_of_mem _ (List.mem_cons_of_mem _ (List.mem_cons_of_mem _ hE)))
   rw [if_neg a3] at h;cases h
def yha (l:List Tm):Option Ex:=match yeb l with|some [E]=>some E|_=>none
theorem parse_fl (E:Ex) (h:E.ok):yha E.fl=some E:=by
 have:=yyk E h [] [] rfl
 rw [List.append_nil] at this
 unfold yha;rw [this]
theorem yjb {l:List Tm} {E:Ex} (h:yha l=some E):E.ok∧E.fl=l:=by
 unfold yha at h
 split at h
 ·rename_i E' hf
  cases h
  obtain ⟨h1,h2⟩:=forest_inv l _ hf
  exact ⟨h1 E (by simp),by simpa [yqw] using h2⟩
 ·cases h
theorem endN_forest (l:List Tm):∀ (w n:Nat),zjn w l=some n→∃ F:List Ex,F.length=w∧(∀ E∈F,E.ok)∧l.take n=yqw F:=by
 induction l with
 | nil=>intro w n h;cases w <;> simp [zjn] at h;exact ⟨[],rfl,by simp,by simp [yqw]⟩
 | cons t l ih=>
  intro w n h
  cases w with
  | zero=>rw [yrx] at h;cases h;exact ⟨[],rfl,by simp,by simp [yqw]⟩
  | succ w=>
   by_cases hb:ar t.1 < 0
   ·rw [zmv w t l hb] at h;cases h
   ·rw [yls w t l hb,Option.map_eq_some_iff] at h
    obtain ⟨m,hm,rfl⟩:=h
    obtain ⟨F,h1,h2,h3⟩:=ih _ _ hm
    rw [List.take_succ_cons,h3]
    have hk:=zxy t.1
    have cases4:ar t.1=0∨ar t.1=1∨ar t.1=2∨ar t.1=3:=by omega
    rcases cases4 with hk|hk|hk|hk <;> rw [hk] at h1
    ·exact ⟨.lf t::F,by simp at *;omega,fun E hE=>by
      cases hE with
      | head=>exact hk
      | tail _ hE=>exact h2 E hE,by simp [yqw,Ex.fl]⟩
    ·match F,h1,h2 with
     | a::F,h1,h2=>exact ⟨.un t a::F,by simp at *;omega,fun E hE=>by
       cases hE with
       | head=>exact ⟨hk,h2 a (by simp)⟩
       | tail _ hE=>exact h2 E (List.mem_cons_of_mem _ hE),by simp [yqw,Ex.fl]⟩
     | [],h1,_=>simp at h1
    ·match F,h1,h2 with
     | a::b::F,h1,h2=>exact ⟨.bi t a b::F,by simp at *;omega,fun E hE=>by
       cases hE with
       | head=>exact ⟨hk,h2 a (by simp),h2 b (by simp)⟩
       | tail _ hE=>exact h2 E (List.mem_cons_of_mem _ (List.mem_cons_of_mem _ hE)),by simp [yqw,Ex.fl]⟩
     | [a],h1,_=>simp at h1
     | [],h1,_=>simp at h1
    ·match F,h1,h2 with
     | a::b::c::F,h1,h2=>exact ⟨.tr t a b c::F,by simp at *;omega,fun E hE=>by
       cases hE with
       | head=>exact ⟨hk,h2 a (by simp),h2 b (by simp),h2 c (by simp)⟩
       | tail _ hE=>exact h2 E (List.mem_cons_of_mem _ (List.mem_cons_of_mem _ (List.mem_cons_of_mem _ hE))),by simp [yqw,Ex.fl]⟩
     | [a,b],h1,_=>simp at h1
     | [a],h1,_=>simp at h1
     | [],h1,_=>simp at h1
theorem parse_iff (l:List Tm):(∃ E,yha l=some E)↔zjn 1 l=some l.length:=by
 constructor
 ·rintro ⟨E,h⟩
  obtain ⟨h1,h2⟩:=yjb h
  have:=zsd E h1 0 []
  rw [List.append_nil,h2,yrx] at this
  simpa using this
 ·intro h
  obtain ⟨F,h1,h2,h3⟩:=endN_forest l 1 l.length h
  match F,h1,h2,h3 with
  | [E],_,h2,h3=>
   refine ⟨E,?_⟩
   rw [List.take_length] at h3
   rw [h3,yqw,List.flatMap_cons,List.flatMap_nil,List.append_nil]
   exact parse_fl E (h2 E (by simp))
def yxu (vars:Int) (t:Tm):Bool:=
 if t.1=1 then decide (0≤t.2) && decide (t.2≤1073741824) else if t.1=5∨t.1=12 then decide (0≤t.2) && decide (t.2 < vars) else decide (t.2=0)
def yed (l:List Tm) (vars:Int):Bool:=
 match yha l with
 | none=>false
 | some E=>decide (l.length≤200) && (l.all (yxu vars) && (decide (E.dp≤24) && decide (E.ns≤2)))
end
set_option linter.unusedVariables false
section
open Go.RowKit
abbrev Lk:=Int × Int
structure GraphD where
 ids:List Int
 ports:List (List Lk)
def zho (n v:Nat) (l:Lk):Bool:=decide (0≤l.1) && (decide (l.1 < n) && (!(l.1 == (v:Int)) && (decide (1≤l.2) && decide (l.2≤15))))
theorem ybs (n v:Nat) (l:Lk):zho n v l=true↔0≤l.1∧l.1 < n∧l.1≠v∧1≤l.2∧l.2≤15:=by
 unfold zho
 simp
def ydz (n v:Nat) (ls:List Lk):Bool:=ls.all (zho n v) && decide ((ls.map (·.1)).Nodup)
def idB (x:Int):Bool:=decide (0≤x) && decide (x≤255)
def zjp (l:List Int):Bool:=l.all idB && decide l.Nodup
def yey (ls:List Lk) (u:Int):Int:=match ls.find? (fun l=>l.1 == u) with|some l=>l.2|none=>0
def yzq (ports:List (List Lk)):Bool:=(List.range ports.length).all fun v=>ydz ports.length v (ports.getD v [])
def zyu (ports:List (List Lk)):Bool:=(List.range ports.length).all fun v=>(ports.getD v []).all fun l=>yey (ports.getD l.1.toNat []) v == l.2
def ycy (g:GraphD):Bool:=decide (1≤g.ports.length) && (decide (g.ports.length≤24) && (decide (g.ids.length=g.ports.length) && (zjp g.ids && (yzq g.ports && zyu g.ports))))
theorem zoe (n:Nat):∀ l:List Nat,l.Nodup→(∀ x∈l,x < n)→l.length≤n:=by
 induction n with
 | zero=>
  intro l _ h
  cases l with
  | nil=>simp
  | cons a l=>exact absurd (h a (by simp)) (by omega)
 | succ n ih=>
  intro l hn h
  by_cases hm:n∈l
  ·have h1:=ih (l.erase n) (hn.erase n) (fun x hx=>by
    have h2:=h x (List.mem_of_mem_erase hx)
    have h3:x≠n:=fun e=>by rw [e] at hx;exact (List.Nodup.not_mem_erase hn) hx
    omega)
   rw [List.length_erase_of_mem hm] at h1
   omega
  ·have:=ih l hn (fun x hx=>by have h2:=h x hx;have h3:x≠n:=fun e=>hm (e ▸ hx);omega)
   omega
theorem yta {α β:Type} (f:α→β):∀ l:List α,l.Nodup→(∀ x∈l,∀ y∈l,f x=f y→x=y)→(l.map f).Nodup:=by
 intro l
 induction l with
 | nil=>intro _ _;simp
 | cons a l ih=>
  intro hn hf
  rw [List.map_cons,List.nodup_cons] at *
  refine ⟨fun h=>?_,ih hn.2 fun x hx y hy h=>hf x (by simp [hx]) y (by simp [hy]) h⟩
  rw [List.mem_map] at h
  obtain ⟨b,hb,he⟩:=h
  exact hn.1 (hf b (by simp [hb]) a (by simp) he ▸ hb)
theorem yeg {n v:Nat} {ls:List Lk} (hv:v < n) (h:ydz n v ls=true):ls.length < n:=by
 unfold ydz at h
 rw [Bool.and_eq_true,decide_eq_true_eq,List.all_eq_true] at h
 obtain ⟨h1,h2⟩:=h
 have hb:∀ x:Int,x∈ls.map (·.1)→0≤x∧x < n∧x≠v:=by
  intro x hx
  rw [List.mem_map] at hx
  obtain ⟨l,hl,rfl⟩:=hx
  have:=(ybs n v l).1 (h1 l hl)
  exact ⟨this.1,this.2.1,this.2.2.1⟩
 have h3:((ls.map (·.1)).map Int.toNat).Nodup:=yta Int.toNat _ h2 fun x hx y hy he=>by
  have hx':=hb x hx
  have hy':=hb y hy
  omega
 have h4:=zoe n (v::(ls.map (·.1)).map Int.toNat) (by
  rw [List.nodup_cons]
  refine ⟨fun hm=>?_,h3⟩
  rw [List.mem_map] at hm
  obtain ⟨x,hx,he⟩:=hm
  have:=hb x hx
  omega) (fun x hx=>by
   rcases List.mem_cons.1 hx with rfl|hx
   ·exact hv
   ·rw [List.mem_map] at hx
    obtain ⟨y,hy,rfl⟩:=hx
    have:=hb y hy
    omega)
 simp at h4
 omega
theorem yca {g:GraphD} (h:ycy g=true):1≤g.ports.length∧g.ports.length≤24∧g.ids.length=g.ports.length∧(∀ x∈g.ids,0≤x∧x≤255)∧g.ids.Nodup ∧
  (∀ (v:Nat) (ls:List Lk),g.ports[v]?=some ls→ydz g.ports.length v ls=true)∧(∀ (v:Nat) (ls:List Lk),g.ports[v]?=some ls→∀ l∈ls,yey (g.ports.getD l.1.toNat []) v=l.2):=by
 unfold ycy at h
 simp only [Bool.and_eq_true,decide_eq_true_eq] at h
 obtain ⟨h1,h2,h3,h4,h5,h6⟩:=h
 unfold zjp at h4
 simp only [Bool.and_eq_true,decide_eq_true_eq,List.all_eq_true,idB] at h4
 refine ⟨h1,h2,h3,h4.1,h4.2,fun v ls hv=>?_,fun v ls hv l hl=>?_⟩
 ·have hlt:=(List.getElem?_eq_some_iff.1 hv).1
  have:=List.all_eq_true.1 h5 v (List.mem_range.2 hlt)
  rw [List.getD_eq_getElem?_getD,hv] at this
  exact this
 ·have hlt:=(List.getElem?_eq_some_iff.1 hv).1
  have:=List.all_eq_true.1 h6 v (List.mem_range.2 hlt)
  rw [List.getD_eq_getElem?_getD,hv] at this
  have:=List.all_eq_true.1 this l hl
  simpa using this
end
section
theorem zef {l:List Int} {k:Nat} {x:Int} (hx:l[k]?=some x) (h:idB x=false):zjp l=false:=by
 unfold zjp
 rw [List.all_eq_false.2 ⟨x,List.mem_of_getElem? hx,by simp [h]⟩];rfl
theorem zbz {l:List Int} {k:Nat} {x:Int} (hx:l[k]?=some x) (h:x∈l.take k):zjp l=false:=by
 unfold zjp
 have:¬ l.Nodup:=by
  intro hn
  obtain ⟨j,hj⟩:=List.getElem?_of_mem h
  rw [List.getElem?_take] at hj
  split at hj
  ·rename_i hjk
   have h1:=List.getElem?_eq_some_iff.1 hj
   have h2:=List.getElem?_eq_some_iff.1 hx
   have:=(List.pairwise_iff_getElem.1 hn) j k h1.1 h2.1 hjk
   rw [h1.2,h2.2] at this
   exact this rfl
  ·cases hj
 simp [this]
theorem idsB_iff (l:List Int):zjp l=true↔(∀ x∈l,idB x=true)∧l.Nodup:=by
 unfold zjp;rw [Bool.and_eq_true,decide_eq_true_eq,List.all_eq_true]
theorem yka {α:Type} {l:List α} {k:Nat} {x:α} (hx:l[k]?=some x):l.take (k+1)=l.take k++[x]:=by
 rw [List.take_add_one,hx];rfl
theorem zhi {l:List Int} {k:Nat} {x:Int} (hx:l[k]?=some x) (h:zjp (l.take k)=true) (h1:idB x=true) (h2:x ∉ l.take k):zjp (l.take (k+1))=true:=by
 rw [idsB_iff] at *
 rw [yka hx]
 refine ⟨fun y hy=>?_,?_⟩
 ·rcases List.mem_append.1 hy with hy|hy
  ·exact h.1 y hy
  ·simp at hy;subst hy;exact h1
 ·rw [List.nodup_append]
  exact ⟨h.2,by simp,fun a ha b hb=>by simp at hb;subst hb;exact fun e=>h2 (e ▸ ha)⟩
def yrq (l:List Int):List Bool:=(List.range 256).map fun i:Nat=>decide ((i:Int)∈l)
theorem bits_nil:yrq []=List.replicate 256 false:=by
 unfold yrq
 rw [show (fun i:Nat=>decide ((i:Int)∈([]:List Int)))=fun _=>false from by funext i;simp,List.map_const',List.length_range]
theorem bits_len (l:List Int):(yrq l).length=256:=by simp [yrq]
theorem bits_get (l:List Int) (x:Int) (h0:0≤x) (h1:x≤255):(yrq l)[x.toNat]?=some (decide (x∈l)):=by
 unfold yrq
 rw [List.getElem?_map,List.getElem?_range (by omega)]
 have:((x.toNat:Nat):Int)=x:=by omega
 simp [this]
theorem bits_set (l:List Int) (x:Int) (h0:0≤x) (h1:x≤255):(yrq l).set x.toNat true=yrq (l++[x]):=by
 apply List.ext_getElem
 ·simp [yrq]
 ·intro i h2 h3
  have hx:((x.toNat:Nat):Int)=x:=by omega
  rw [List.getElem_set]
  unfold yrq
  simp only [List.getElem_map,List.getElem_range,List.mem_append,List.mem_singleton]
  by_cases hi:x.toNat=i
  ·subst hi
   simp [hx]
  ·have:¬ ((i:Nat):Int)=x:=by omega
   simp [hi,this]
end
section
theorem ybo (n v:Nat) (l:List Lk):ydz n v l=true↔(∀ x∈l,zho n v x=true)∧(l.map (·.1)).Nodup:=by
 unfold ydz;rw [Bool.and_eq_true,decide_eq_true_eq,List.all_eq_true]
theorem ygl {n v:Nat} {l:List Lk} {k:Nat} {x:Lk} (hx:l[k]?=some x) (h:zho n v x=false):ydz n v l=false:=by
 rw [← Bool.not_eq_true,ybo]
 intro h1
 rw [h1.1 x (List.mem_of_getElem? hx)] at h;cases h
theorem yvs {n v:Nat} {l:List Lk} {j k:Nat} {x y:Lk} (hjk:j < k) (hy:l[j]?=some y) (hx:l[k]?=some x) (h:y.1=x.1):ydz n v l=false:=by
 rw [← Bool.not_eq_true,ybo]
 intro h1
 have g1:=List.getElem?_eq_some_iff.1 hy
 have g2:=List.getElem?_eq_some_iff.1 hx
 have:=(List.pairwise_iff_getElem.1 h1.2) j k (by simpa using g1.1) (by simpa using g2.1) hjk
 simp [g1.2,g2.2,h] at this
theorem yyu {n v:Nat} {l:List Lk} {k:Nat} {x:Lk} (hx:l[k]?=some x) (h:ydz n v (l.take k)=true) (h1:zho n v x=true) (h2:∀ (j:Nat) (y:Lk),j < k→l[j]?=some y→y.1≠x.1):ydz n v (l.take (k+1))=true:=by
 rw [ybo] at *
 rw [yka hx]
 refine ⟨fun y hy=>?_,?_⟩
 ·rcases List.mem_append.1 hy with hy|hy
  ·exact h.1 y hy
  ·simp at hy;subst hy;exact h1
 ·rw [List.map_append,List.nodup_append]
  refine ⟨h.2,by simp,fun a ha b hb=>?_⟩
  simp at hb;subst hb
  obtain ⟨y,hy,rfl⟩:=List.mem_map.1 ha
  obtain ⟨j,hj⟩:=List.getElem?_of_mem hy
  rw [List.getElem?_take] at hj
  split at hj
  ·rename_i hjk;exact h2 j y hjk hj
  ·cases hj
def yid (l:List Lk) (u:Int):Int:=match l.findIdx? (fun x=>x.1 == u) with|some i=>i|none=>-1
theorem yzo {l:List Lk} {u:Int} (h:∀ (j:Nat) (y:Lk),l[j]?=some y→y.1≠u):yid l u=-1:=by
 unfold yid
 have:l.findIdx? (fun x=>x.1 == u)=none:=by
  rw [List.findIdx?_eq_none_iff]
  intro x hx
  obtain ⟨j,hj⟩:=List.getElem?_of_mem hx
  simpa using h j x hj
 rw [this]
theorem yzp {l:List Lk} {u:Int} {k:Nat} {x:Lk} (hx:l[k]?=some x) (hu:x.1=u) (h:∀ (j:Nat) (y:Lk),j < k→l[j]?=some y→y.1≠u):yid l u=k:=by
 unfold yid
 have:l.findIdx? (fun x=>x.1 == u)=some k:=by
  rw [List.findIdx?_eq_some_iff_getElem]
  have g:=List.getElem?_eq_some_iff.1 hx
  refine ⟨g.1,by simp [g.2,hu],fun j hj=>?_⟩
  have hjl:j < l.length:=by have:=g.1;omega
  have:=h j l[j] hj (List.getElem?_eq_getElem hjl)
  simpa using this
 rw [this]
theorem yoc (l:List Lk) (u:Int):(yid l u=-1∧∀ x∈l,x.1≠u)∨∃ (k:Nat) (x:Lk),yid l u=k∧l[k]?=some x∧x.1=u∧l.find? (fun x=>x.1 == u)=some x:=by
 unfold yid
 cases hf:l.findIdx? (fun x=>x.1 == u) with
 | none=>
  rw [List.findIdx?_eq_none_iff] at hf
  exact .inl ⟨rfl,fun x hx=>by simpa using hf x hx⟩
 | some k=>
  obtain ⟨h1,h2,h3⟩:=List.findIdx?_eq_some_iff_getElem.1 hf
  refine .inr ⟨k,l[k],rfl,List.getElem?_eq_getElem h1,by simpa using h2,?_⟩
  rw [List.find?_eq_some_iff_getElem]
  exact ⟨h2,k,h1,rfl,fun j hj=>by simpa using h3 j hj⟩
theorem zai {l:List Lk} {u:Int} (h:∀ x∈l,x.1≠u):yey l u=0:=by
 unfold yey
 have:l.find? (fun x=>x.1 == u)=none:=by
  rw [List.find?_eq_none];intro x hx;simpa using h x hx
 rw [this]
theorem zaj {l:List Lk} {u:Int} {x:Lk} (h:l.find? (fun x=>x.1 == u)=some x):yey l u=x.2:=by unfold yey;rw [h]
theorem yhs (g:GraphD):ycy g=true↔1≤g.ports.length∧g.ports.length≤24∧g.ids.length=g.ports.length∧zjp g.ids=true∧yzq g.ports=true∧zyu g.ports=true:=by
 unfold ycy;simp only [Bool.and_eq_true,decide_eq_true_eq]
theorem ygm (ports:List (List Lk)):yzq ports=true↔∀ (v:Nat) (ls:List Lk),ports[v]?=some ls→ydz ports.length v ls=true:=by
 unfold yzq
 rw [List.all_eq_true]
 constructor
 ·intro h v ls hv
  have:=h v (List.mem_range.2 (List.getElem?_eq_some_iff.1 hv).1)
  rwa [List.getD_eq_getElem?_getD,hv] at this
 ·intro h v hv
  obtain ⟨ls,hls⟩:∃ ls,ports[v]?=some ls:=⟨_,List.getElem?_eq_getElem (List.mem_range.1 hv)⟩
  rw [List.getD_eq_getElem?_getD,hls]
  exact h v ls hls
theorem ytm (ports:List (List Lk)):zyu ports=true↔∀ (v:Nat) (ls:List Lk),ports[v]?=some ls→∀ l∈ls,yey (ports.getD l.1.toNat []) v=l.2:=by
 unfold zyu
 rw [List.all_eq_true]
 constructor
 ·intro h v ls hv l hl
  have:=h v (List.mem_range.2 (List.getElem?_eq_some_iff.1 hv).1)
  rw [List.getD_eq_getElem?_getD,hv] at this
  simpa using List.all_eq_true.1 this l hl
 ·intro h v hv
  obtain ⟨ls,hls⟩:∃ ls,ports[v]?=some ls:=⟨_,List.getElem?_eq_getElem (List.mem_range.1 hv)⟩
  rw [List.getD_eq_getElem?_getD,hls]
  rw [Option.getD_some,List.all_eq_true]
  intro l hl
  simpa using h v ls hls l hl
end
section
open Go.RowKit
theorem zpw {W w1:World} (hb:Below W.heap.size W w1):(∀ b o,b < W.heap.size→w1.cell? ⟨b,o,none⟩=W.cell? ⟨b,o,none⟩)∧(∀ b o,b < W.heap.size→w1.frozen? ⟨b,o,none⟩=W.frozen? ⟨b,o,none⟩):=
 ⟨fun b o h=>hb.cell (p:=⟨b,o,none⟩) h,fun b o h=>hb.frozen (p:=⟨b,o,none⟩) h⟩
theorem zpx {w w1 w2:World} (h1:Below w.heap.size w w1) (h2:Below w1.heap.size w1 w2):Below w.heap.size w w2:=h1.trans (h2.mono h1.size)
theorem yak {a b:Bool} (h:a=b):Ending.returned (.bool a)=.returned (.bool b):=by rw [h]
theorem yci {k:IntKind} {a b:Int} (h:a=b):Ending.returned (.int k a)=.returned (.int k b):=by rw [h]
def Row (w:World) (v:Value) (size n:Nat) (xs:List Value):Prop:=
 ∃ a cap,v=.slice a n cap∧n≤cap∧cap≤maxLen∧xs.length=n * size∧(a=none→cap=0) ∧
  (n=0∨∃ g o,a=some ⟨g,o,none⟩∧g < w.heap.size∧∀ j u,xs[j]?=some u→w.cell? ⟨g,o+j,none⟩=some u)
theorem Row.below {w w':World} {v:Value} {size n:Nat} {xs:List Value} (h:Row w v size n xs) (hb:Below w.heap.size w w'):Row w' v size n xs:=by
 obtain ⟨a,cap,hv,h1,h2,h3,h4,h5⟩:=h
 refine ⟨a,cap,hv,h1,h2,h3,h4,?_⟩
 rcases h5 with h5|⟨g,o,ha,hg,hc⟩
 ·exact .inl h5
 ·exact .inr ⟨g,o,ha,Nat.lt_of_lt_of_le hg hb.size,fun j u hu=>(hb.cell (p:=⟨g,_,none⟩) hg).trans (hc j u hu)⟩
theorem zik {w w':World} {B e size n:Nat} {v:Value} {xs:List Value} (h:w.ownsRow B e size v n xs) (hb:Below w.heap.size w w'):w'.ownsRow B e size v n xs:=by
 obtain ⟨h1,h2⟩:=h
 refine ⟨h1,?_⟩
 rcases h2 with h2|⟨g,cap,cur,hv,hg,hh,r⟩
 ·exact .inl h2
 ·exact .inr ⟨g,cap,cur,hv,hg,by rw [hb.block g (by rcases Nat.lt_or_ge g w.heap.size with h|h;exact h;simp [Array.getElem?_eq_none h] at hh)];exact hh,r⟩
theorem zin {w:World} {B e size n:Nat} {v:Value} {xs:List Value} (h:w.ownsRow B e size v n xs):∃ a cap,v=.slice a n cap:=by
 rcases h.2 with ⟨rfl,rfl⟩|⟨g,cap,cur,hv,_⟩
 ·exact ⟨_,_,rfl⟩
 ·exact ⟨_,_,hv⟩
theorem zww {w:World} {B e size n:Nat} {v:Value} {xs:List Value} (h:w.ownsRow B e size v n xs):∀ k,v.ownBlock=some k→B≤k:=fun k hk=>(h.lt k hk).1
theorem zib (W:World) (l:List Value) (e n:Nat) (hn:n=W.heap.size):∀ j u,l[j]?=some u→(W.alloc (.cells l.toArray e)).cell? ((⟨n,0,none⟩:Addr).add j)=some u:=by
 intro j u h
 subst hn
 have h0:(⟨W.heap.size,0,none⟩:Addr).add j=⟨W.heap.size,j,none⟩:=by
  unfold Addr.add
  split <;> simp_all
 rw [h0]
 have h1:(W.alloc (.cells l.toArray e)).heap[W.heap.size]?=some (.cells l.toArray e):=by
  show (W.heap.push (.cells l.toArray e))[W.heap.size]?=_
  rw [Array.getElem?_push,if_pos rfl]
 unfold World.cell?
 simp only [h1]
 simpa using h
theorem zcv {w:World} {B e size n:Nat} {v:Value} {xs:List Value} (h:w.ownsRow B e size v n xs):Row w v size n xs:=by
 obtain ⟨h1,h2⟩:=h
 rcases h2 with ⟨rfl,rfl⟩|⟨g,cap,cur,hv,hg,hh,hle,hcap,hcs,htk⟩
 ·exact ⟨none,0,rfl,by omega,by simp [maxLen],h1,fun _=>rfl,.inl rfl⟩
 ·refine ⟨some ⟨g,0,none⟩,cap,hv,hle,hcap,h1,(fun h=>by cases h),.inr ⟨g,0,rfl,?_,fun j u hu=>?_⟩⟩
  ·rcases Nat.lt_or_ge g w.heap.size with h|h
   ·exact h
   ·simp [Array.getElem?_eq_none h] at hh
  ·have hj:(cur.toList.take (n * size))[j]?=some u:=by rw [htk];exact hu
   rw [List.getElem?_take] at hj
   unfold World.cell?
   simp only [hh,Nat.zero_add]
   split at hj
   ·simpa using hj
   ·cases hj
theorem row_nil (w:World) (size:Nat):Row w (.slice none 0 0) size 0 []:=⟨none,0,rfl,by simp,by simp [maxLen],by simp,fun _=>rfl,.inl rfl⟩
theorem Row.open {w:World} {v:Value} {size n:Nat} {xs:List Value} (h:Row w v size n xs):∃ a cap,v=.slice a n cap∧n≤cap∧cap≤9223372036854775807∧(a=none→cap=0) ∧
  (0 < n→∃ g o,a=some ⟨g,o,none⟩∧g < w.heap.size∧∀ j u,xs[j]?=some u→w.cell? ⟨g,o+j,none⟩=some u):=by
 obtain ⟨a,cap,hv,h1,h2,h3,h4,h5⟩:=h
 unfold maxLen at h2
 refine ⟨a,cap,hv,h1,by omega,h4,fun hn=>?_⟩
 rcases h5 with h5|h5
 ·omega
 ·exact h5
theorem yio {α:Type} (f:α→List Value) (k:Nat) (hf:∀ x,(f x).length=k) (l:List α):∀ (i j:Nat) (x:α) (u:Value),l[i]?=some x→(f x)[j]?=some u→(l.flatMap f)[i * k+j]?=some u:=by
 induction l with
 | nil=>intro i j x u h;simp at h
 | cons y l ih=>
  intro i j x u h hu
  rw [List.flatMap_cons]
  have hj:j < k:=by have:=(List.getElem?_eq_some_iff.1 hu).1;rw [hf] at this;exact this
  cases i with
  | zero=>
   simp at h;subst h
   rw [Nat.zero_mul,Nat.zero_add,List.getElem?_append_left (by rw [hf];exact hj)];exact hu
  | succ i=>
   rw [Nat.succ_mul,List.getElem?_append_right (by rw [hf];omega),hf,show i * k+k+j - k=i * k+j by omega]
   exact ih i j x u (by simpa using h) hu
theorem ywx {α:Type} (f:α→List Value) (k:Nat) (hf:∀ x,(f x).length=k) (l:List α):(l.flatMap f).length=l.length * k:=by
 induction l with
 | nil=>simp
 | cons y l ih=>rw [List.flatMap_cons,List.length_append,hf,ih,List.length_cons,Nat.succ_mul];omega
def yvd (k:IntKind) (w:World) (v:Value) (l:List Int):Prop:=Row w v 1 l.length (l.map (.int k))
theorem yvd.below {k:IntKind} {w w':World} {v:Value} {l:List Int} (h:yvd k w v l) (hb:Below w.heap.size w w'):yvd k w' v l:=Row.below h hb
theorem yvd.open {k:IntKind} {w:World} {v:Value} {l:List Int} (h:yvd k w v l):∃ a cap,v=.slice a l.length cap∧l.length≤cap∧cap≤9223372036854775807∧(a=none→cap=0) ∧
  (0 < l.length→∃ g o,a=some ⟨g,o,none⟩∧g < w.heap.size∧∀ i x,l[i]?=some x→w.cell? ⟨g,o+i,none⟩=some (.int k x)):=by
 obtain ⟨a,cap,hv,h1,h2,h3,h4⟩:=Row.open h
 refine ⟨a,cap,hv,h1,h2,h3,fun hn=>?_⟩
 obtain ⟨g,o,ha,hg,hc⟩:=h4 hn
 exact ⟨g,o,ha,hg,fun i x hx=>hc i _ (by rw [List.getElem?_map,hx];rfl)⟩
end
section
open Go.RowKit
def ynj:List Nat→Nat
 | []=>0
 | a::l=>max a (ynj l)
def val (f:Int→Nat→Nat):Ex→Nat
 | .lf t=>f t.1 0
 | .un t a=>f t.1 (val f a)
 | .bi t a b=>f t.1 (max (val f a) (val f b))
 | .tr t a b c=>f t.1 (max (val f a) (max (val f b) (val f c)))
def lev (f:Int→Nat→Nat):List Tm→List Nat
 | []=>[]
 | t::l=>f t.1 (ynj ((lev f l).take (ar t.1).toNat))::(lev f l).drop (ar t.1).toNat
theorem yul (f:Int→Nat→Nat) (l:List Tm):∀ F,yeb l=some F→lev f l=F.map (val f):=by
 induction l with
 | nil=>intro F h;simp [yeb] at h;subst h;rfl
 | cons t l ih=>
  intro F h
  simp only [yeb] at h
  cases hl:yeb l with
  | none=>rw [hl] at h;cases h
  | some G=>
   have hG:=ih G hl
   rw [hl] at h
   simp only at h
   simp only [lev,hG]
   by_cases a0:ar t.1=0
   ·rw [if_pos a0] at h;cases h
    rw [a0];simp [ynj,val]
   rw [if_neg a0] at h
   by_cases a1:ar t.1=1
   ·rw [if_pos a1] at h
    match G,h with
    | a::G,h=>cases h;rw [a1];simp [ynj,val]
   rw [if_neg a1] at h
   by_cases a2:ar t.1=2
   ·rw [if_pos a2] at h
    match G,h with
    | a::b::G,h=>cases h;rw [a2];simp [ynj,val]
   rw [if_neg a2] at h
   by_cases a3:ar t.1=3
   ·rw [if_pos a3] at h
    match G,h with
    | a::b::c::G,h=>cases h;rw [a3];simp [ynj,val]
   rw [if_neg a3] at h;cases h
theorem ysc (l:List Tm) (t:Tm) (F:List Ex) (h:yeb (t::l)=some F):∃ G,yeb l=some G∧0≤ar t.1∧(ar t.1).toNat≤G.length∧F.length=G.length - (ar t.1).toNat+1:=by
 simp only [yeb] at h
 cases hl:yeb l with
 | none=>rw [hl] at h;cases h
 | some G=>
  rw [hl] at h
  simp only at h
  by_cases a0:ar t.1=0
  ·rw [if_pos a0] at h;cases h;exact ⟨G,rfl,by omega,by rw [a0];simp,by rw [a0];simp⟩
  rw [if_neg a0] at h
  by_cases a1:ar t.1=1
  ·rw [if_pos a1] at h
   match G,h with
   | a::G,h=>cases h;exact ⟨_,rfl,by omega,by rw [a1];simp,by rw [a1];simp⟩
  rw [if_neg a1] at h
  by_cases a2:ar t.1=2
  ·rw [if_pos a2] at h
   match G,h with
   | a::b::G,h=>cases h;exact ⟨_,rfl,by omega,by rw [a2];simp,by rw [a2];simp⟩
  rw [if_neg a2] at h
  by_cases a3:ar t.1=3
  ·rw [if_pos a3] at h
   match G,h with
   | a::b::c::G,h=>cases h;exact ⟨_,rfl,by omega,by rw [a3];simp,by rw [a3];simp⟩
  rw [if_neg a3] at h;cases h
theorem forest_suffix (l:List Tm):∀ (k:Nat) (F:List Ex),yeb l=some F→∃ G,yeb (l.drop k)=some G:=by
 induction l with
 | nil=>intro k F h;simp [yeb]
 | cons t l ih=>
  intro k F h
  cases k with
  | zero=>exact ⟨F,h⟩
  | succ k=>
   obtain ⟨G,hG,_⟩:=ysc l t F h
   exact ih k G hG
def ygv:Int→Nat→Nat:=fun _ g=>g+1
def yma:Int→Nat→Nat:=fun op g=>if yts op then g+1 else g
theorem val_depth (E:Ex):val ygv E=E.dp:=by
 induction E with
 | lf t=>rfl
 | un t a iha=>simp only [val,Ex.dp,iha,ygv]
 | bi t a b iha ihb=>simp only [val,Ex.dp,iha,ihb,ygv]
 | tr t a b c iha ihb ihc=>simp only [val,Ex.dp,iha,ihb,ihc,ygv]
theorem agg_ar {op:Int} (h:yts op=true):ar op=1:=by
 simp [yts] at h
 unfold ar;rw [if_neg (by omega),if_neg (by omega),if_pos (by omega)]
theorem yxt {op:Int} (h:ar op≠1):yts op=false:=by
 cases hb:yts op
 ·rfl
 ·exact absurd (agg_ar hb) h
theorem val_nest (E:Ex):E.ok→val yma E=E.ns:=by
 induction E with
 | lf t=>intro h;have h':ar t.1=0:=h;simp only [val,Ex.ns,yma,yxt (op:=t.1) (by omega)];rfl
 | un t a iha=>intro ⟨h,ha⟩;simp only [val,Ex.ns,iha ha,yma]
 | bi t a b iha ihb=>intro ⟨h,ha,hb⟩;simp only [val,Ex.ns,iha ha,ihb hb,yma,yxt (op:=t.1) (by omega)];rfl
 | tr t a b c iha ihb ihc=>intro ⟨h,ha,hb,hc⟩;simp only [val,Ex.ns,iha ha,ihb hb,ihc hc,yma,yxt (op:=t.1) (by omega)];rfl
abbrev Open:=List (Nat × Bool)
structure Lev where
 S:Open
 d:Nat
 n:Nat
end
section
open Go.RowKit
def zqg (op:Int):Bool:=decide (11≤op) && decide (op≤17)
def ynz (kinds:List Int) (t:Tm):Int:=
 if t.1=2∨t.1=3∨t.1=10∨t.1=15 then 2 else if t.1=4∨t.1=11∨t.1=17 then 3 else if t.1=5∨t.1=12 then kinds.getD t.2.toNat 0 else 1
def ty1 (op a:Int):Int:=
 if op=19∨op=20∨op=21 then (if a=2 then 2 else 0) else if op=22 then (if a=2 then 1 else 0) else if op=23 then (if a=2 then 3 else 0) else (if a=1 then 1 else 0)
def ty2 (op a b:Int):Int:=
 if op=35∨op=36 then (if a=b∧a≠0 then 2 else 0) else if op=41∨op=42 then (if a=2∧b=2 then 2 else 0) else if a=1∧b=1 then (if 37≤op∧op≤40 then 2 else 1) else 0
def ty3 (a b c:Int):Int:=if a=2∧b=c then b else 0
def ty (kinds:List Int):Bool→Ex→Int
 | bound,.lf t=>if zqg t.1 && !bound then 0 else ynz kinds t
 | bound,.un t a=>ty1 t.1 (ty kinds (bound || yts t.1) a)
 | bound,.bi t a b=>ty2 t.1 (ty kinds bound a) (ty kinds bound b)
 | bound,.tr _ a b c=>ty3 (ty kinds bound a) (ty kinds bound b) (ty kinds bound c)
theorem zxn (op a:Int):0≤ty1 op a∧ty1 op a≤3∧(ty1 op a≠0→a≠0):=by
 unfold ty1;repeat' split
 all_goals omega
theorem zxo (op a b:Int):0≤ty2 op a b∧ty2 op a b≤3∧(ty2 op a b≠0→a≠0∧b≠0):=by
 unfold ty2;repeat' split
 all_goals omega
theorem zxp (a b c:Int) (h:0≤b∧b≤3):0≤ty3 a b c∧ty3 a b c≤3∧(ty3 a b c≠0→a≠0∧b≠0∧c≠0):=by
 unfold ty3;split <;> omega
def yij (kinds:List Int):Bool:=kinds.all fun k=>decide (k=1) || (decide (k=2) || decide (k=3))
theorem leafTy_bd (kinds:List Int) (hk:yij kinds=true) (t:Tm):0≤ynz kinds t∧ynz kinds t≤3:=by
 unfold ynz
 repeat' split
 ·omega
 ·omega
 ·rw [List.getD_eq_getElem?_getD]
  cases h:kinds[t.2.toNat]? with
  | none=>simp
  | some k=>
   have:=List.mem_of_getElem? h
   unfold yij at hk
   rw [List.all_eq_true] at hk
   have:=hk k this
   simp at this
   simp;omega
 ·omega
theorem ty_bd (kinds:List Int) (hk:yij kinds=true) (E:Ex):∀ bound,0≤ty kinds bound E∧ty kinds bound E≤3:=by
 induction E with
 | lf t=>intro bound;have:=leafTy_bd kinds hk t;simp only [ty];split <;> omega
 | un t a iha=>intro bound;have:=zxn t.1 (ty kinds (bound || yts t.1) a);simp only [ty];omega
 | bi t a b iha ihb=>intro bound;have:=zxo t.1 (ty kinds bound a) (ty kinds bound b);simp only [ty];omega
 | tr t a b c iha ihb ihc=>intro bound;have:=zxp (ty kinds bound a) (ty kinds bound b) (ty kinds bound c) (ihb bound);simp only [ty];omega
def ofF (l:List Tm) (kinds:List Int) (bound:Bool):Int × Int:=
 if 6 < kinds.length then (0,7) else if yij kinds=false then (0,7) else if yed l kinds.length=false then (0,7) else
 match yha l with
 | none=>(0,7)
 | some E=>if ty kinds bound E=0 then (0,6) else (ty kinds bound E,0)
theorem zoa (l:List Tm) (kinds:List Int) (bound:Bool) (h:6 < kinds.length):ofF l kinds bound=(0,7):=by unfold ofF;rw [if_pos h]
theorem zie (l:List Tm) (kinds:List Int) (bound:Bool) (h:yij kinds=false):ofF l kinds bound=(0,7):=by unfold ofF;rw [if_pos h];split <;> rfl
theorem yzk (l:List Tm) (kinds:List Int) (bound:Bool) (h:yed l kinds.length=false):ofF l kinds bound=(0,7):=by unfold ofF;rw [if_pos h];split <;> (try split) <;> rfl
theorem zwt (l:List Tm) (kinds:List Int) (bound:Bool) (E:Ex) (h6:¬ 6 < kinds.length) (hk:yij kinds=true) (hv:yed l kinds.length=true) (hp:yha l=some E) :
  ofF l kinds bound=if ty kinds bound E=0 then (0,6) else (ty kinds bound E,0):=by
 unfold ofF;rw [if_neg h6,if_neg (by simp [hk]),if_neg (by simp [hv]),hp]
theorem yri {l:List Tm} {vars:Int} (h:yed l vars=true):∃ E,yha l=some E∧E.ok∧E.fl=l∧l.length≤200∧l.all (yxu vars)=true∧E.dp≤24∧E.ns≤2:=by
 unfold yed at h
 cases hp:yha l with
 | none=>rw [hp] at h;cases h
 | some E=>
  rw [hp] at h
  simp only [Bool.and_eq_true,decide_eq_true_eq] at h
  obtain ⟨h1,h2⟩:=yjb hp
  exact ⟨E,rfl,h1,h2,h.1,h.2.1,h.2.2.1,h.2.2.2⟩
end
section
open Go.RowKit
set_option maxHeartbeats 400000 in
theorem ygu (op:Int) (w:World):Calls Tryz.prog 217 #[.int .i64 op] w fun e w'=>e=.returned (.int .i64 (ar op))∧w=w':=by
 go_enter Tryz.func217,Tryz.ntmps217
 go_wp2
 all_goals go_ret
 all_goals exact ⟨yci (by unfold ar;(repeat' split) <;> omega),rfl⟩
set_option maxHeartbeats 400000 in
theorem yil (op:Int) (w:World):Calls Tryz.prog 221 #[.int .i64 op] w fun e w'=>e=.returned (.bool (yts op))∧w=w':=by
 go_enter Tryz.func221,Tryz.ntmps221
 go_wp2
 all_goals go_ret
 all_goals exact ⟨yak (by rw [Bool.eq_iff_iff];simp [yts];omega),rfl⟩
set_option maxHeartbeats 400000 in
theorem near_any (op:Int) (w:World):Calls Tryz.prog 222 #[.int .i64 op] w fun e w'=>e=.returned (.bool (zqg op))∧w=w':=by
 go_enter Tryz.func222,Tryz.ntmps222
 go_wp2
 all_goals go_ret
 all_goals exact ⟨yak (by rw [Bool.eq_iff_iff];simp [zqg];omega),rfl⟩
set_option maxHeartbeats 400000 in
theorem yuu (op:Int) (w:World):Calls Tryz.prog 236 #[.int .i64 op] w fun e w'=>e=.returned (.int .i64 (ar op))∧w=w':=by
 go_enter Tryz.func236,Tryz.ntmps236
 go_wp2
 all_goals go_ret
 all_goals refine ⟨yci ?_,rfl⟩
 all_goals try simp only [beq_iff_eq,beq_eq_false_iff_ne,ne_eq] at *
 all_goals (unfold ar;(repeat' split) <;> omega)
def yfs (w:World) (v:Value) (l:List Tm):Prop:=Row w v 2 l.length (l.flatMap fun t=>[.int .i64 t.1,.int .i64 t.2])
theorem yfs.below {w w':World} {v:Value} {l:List Tm} (h:yfs w v l) (hb:Below w.heap.size w w'):yfs w' v l:=Row.below h hb
theorem yfs.open {w:World} {v:Value} {l:List Tm} (h:yfs w v l):∃ a cap,v=.slice a l.length cap∧l.length≤cap∧cap≤9223372036854775807 ∧
  (0 < l.length→∃ g o,a=some ⟨g,o,none⟩∧g < w.heap.size∧∀ i t,l[i]?=some t→w.cell? ⟨g,o+i * 2,none⟩=some (.int .i64 t.1)∧w.cell? ⟨g,o+i * 2+1,none⟩=some (.int .i64 t.2)):=by
 obtain ⟨a,cap,hv,h1,h2,h3,h4⟩:=Row.open h
 refine ⟨a,cap,hv,h1,h2,fun hn=>?_⟩
 obtain ⟨g,o,ha,hg,hc⟩:=h4 hn
 exact ⟨g,o,ha,hg,fun i t ht=>⟨hc _ _ (yio _ 2 (fun _=>rfl) l i 0 t _ ht rfl),hc _ _ (yio _ 2 (fun _=>rfl) l i 1 t _ ht rfl)⟩⟩
def yry (w k:Nat) (l:List Tm):Int:=match zjn w (l.drop k) with|none=>-1|some n=>(k:Int)+n
theorem yrz (m k:Nat) (l:List Tm) (hm:1≤m) (h:l.length≤k):yry m k l=-1:=by
 obtain ⟨m,rfl⟩:∃ q,m=q+1:=⟨m - 1,by omega⟩
 unfold yry;rw [List.drop_eq_nil_of_le h,endN_nil]
theorem zmw (m k:Nat) (l:List Tm) (hm:1≤m) (h:k < l.length) (hn:ar l[k].1 < 0):yry m k l=-1:=by
 obtain ⟨m,rfl⟩:∃ q,m=q+1:=⟨m - 1,by omega⟩
 unfold yry;rw [List.drop_eq_getElem_cons h,zmv _ _ _ hn]
theorem yyd (m k:Nat) (l:List Tm) (hm:1≤m) (h:k < l.length) (hn:¬ ar l[k].1 < 0):yry m k l=yry (m+(ar l[k].1).toNat - 1) (k+1) l:=by
 obtain ⟨m,rfl⟩:∃ q,m=q+1:=⟨m - 1,by omega⟩
 unfold yry;rw [List.drop_eq_getElem_cons h,yls _ _ _ hn,show m+1+(ar l[k].1).toNat - 1=m+(ar l[k].1).toNat by omega]
 cases zjn (m+(ar l[k].1).toNat) (l.drop (k+1)) with
 | none=>rfl
 | some n=>simp;omega
theorem zgr (m k:Nat) (l:List Tm) (hm:1≤m) (h:k < l.length) (hn:¬ ar l[k].1 < 0) (hz:(m:Int)+(ar l[k].1 - 1)=0):yry m k l=k+1:=by
 rw [yyd m k l hm h hn,show m+(ar l[k].1).toNat - 1=0 by omega]
 unfold yry;rw [yrx];simp
set_option maxHeartbeats 1000000 in
theorem yvg (t:Tm) (vars:Int) (w:World):Calls Tryz.prog 171 #[.agg #[.int .i64 t.1,.int .i64 t.2],.int .i64 vars] w fun e w'=>e=.returned (.bool (yxu vars t))∧Below w.heap.size w w':=by
 obtain ⟨op,x⟩:=t
 have hcases:(op == 1)=true∨(op == 1)=false∧((op == 5)=true∨(op == 5)=false∧((op == 12)=true∨(op == 12)=false)):=by
  cases (op == 1) <;> cases (op == 5) <;> cases (op == 12) <;> simp
 rcases hcases with q0|⟨q0,q1|⟨q1,q2|q2⟩⟩
 all_goals
  go_enter Tryz.func171,Tryz.ntmps171
  go_wp2
  all_goals go_ret
  all_goals refine ⟨yak ?_,(Below.refl _ _).alloc (Nat.le_refl _) _⟩
  all_goals simp only [beq_iff_eq,beq_eq_false_iff_ne,ne_eq] at *
  all_goals rw [Bool.eq_iff_iff]
  all_goals simp [yxu, *]
  all_goals try omega
set_option maxHeartbeats 1000000 in
theorem end_any_in (v:Value) (l:List Tm) (at_:Nat) (w:World) (hl:l.length≤1000) (hv:Hid (yfs w v l)) (ha:at_ < l.length) :
  Calls Tryz.prog 170 #[v,.int .i64 at_] w fun e w'=>e=.returned (.int .i64 (yry 1 at_ l))∧w=w':=by
 obtain ⟨a,cap,rfl,h1,h2,h3⟩:=hv.out.open
 obtain ⟨g,o,rfl,hg,hc⟩:=h3 (by omega)
 have HC:=Lib.hid hc
 have b1:decide ((at_:Int) < 0)=false:=by simp
 have b2:decide (l.length≤at_)=false:=by simp;omega
 clear hc h3
 go_enter Tryz.func170,Tryz.ntmps170
 go_wp2
 go_loop [1,5,6] (fun i x _=>∃ k m:Nat,k≤l.length∧1≤m∧m≤2 * k+1∧i=.int .i64 k∧x=.int .i64 m∧Hid (yry 1 at_ l=yry m k l)) (fun i _ _=>l.length - (intOf i).toNat)
 case atStart=>exact ⟨at_,1,by omega,by omega,by omega,rfl,rfl,rfl⟩
 case round=>
  obtain ⟨k,m,hk,hm1,hm2,rfl,rfl,he⟩:=hrel
  by_cases hlt:k < l.length
  ·obtain ⟨c0,c1⟩:=HC.out k _ (List.getElem?_eq_getElem hlt)
   have hb:=zxy l[k].1
   have hb1:=hb.1
   have hb2:=hb.2
   clear hb
   have HD:=Lib.hid (List.drop_eq_getElem_cons hlt)
   by_cases hneg:ar l[k].1 < 0
   ·go_wp2_with (go_at_call 217;refine (ygu _ _).mono ?_;rintro e w' ⟨rfl,rfl⟩)
    go_ret
    exact ⟨yci (by rw [he.out,zmw m k l hm1 hlt hneg]),rfl⟩
   ·by_cases hz:(m:Int)+(ar l[k].1 - 1)=0
    ·have hz':((m:Int)+(ar l[k].1 - 1) == 0)=true:=by simp;omega
     have HZ:=Lib.hid hz
     clear hz
     go_wp2_with (go_at_call 217;refine (ygu _ _).mono ?_;rintro e w' ⟨rfl,rfl⟩)
     go_ret
     exact ⟨yci (by rw [he.out,zgr m k l hm1 hlt (by omega) HZ.out]),rfl⟩
    ·have hz':((m:Int)+(ar l[k].1 - 1) == 0)=false:=by simp;omega
     go_wp2_with (go_at_call 217;refine (ygu _ _).mono ?_;rintro e w' ⟨rfl,rfl⟩)
     exact ⟨⟨k+1,m+(ar l[k].1).toNat - 1,by omega,by omega,by omega,by go_num,by congr 1;omega,he.out.trans (yyd m k l hm1 hlt (by omega))⟩,by simp [intOf];omega⟩
  ·go_wp2
   go_ret
   exact ⟨yci (by rw [he.out,yrz m k l hm1 (by omega)]),rfl⟩
set_option maxHeartbeats 1000000 in
theorem rend_any_in (v:Value) (l:List Tm) (at_:Nat) (w:World) (hl:l.length≤1000) (hv:Hid (yfs w v l)) (ha:at_ < l.length) :
  Calls Tryz.prog 270 #[v,.int .i64 at_] w fun e w'=>e=.returned (.int .i64 (yry 1 at_ l))∧w=w':=by
 obtain ⟨a,cap,rfl,h1,h2,h3⟩:=hv.out.open
 obtain ⟨g,o,rfl,hg,hc⟩:=h3 (by omega)
 have HC:=Lib.hid hc
 have b1:decide ((at_:Int) < 0)=false:=by simp
 have b2:decide (l.length≤at_)=false:=by simp;omega
 clear hc h3
 go_enter Tryz.func270,Tryz.ntmps270
 go_wp2
 go_loop [5,6,7] (fun x i _=>∃ k m:Nat,k≤l.length∧1≤m∧m≤2 * k+1∧i=.int .i64 k∧x=.int .i64 m∧Hid (yry 1 at_ l=yry m k l)) (fun _ i _=>l.length - (intOf i).toNat)
 case atStart=>exact ⟨at_,1,by omega,by omega,by omega,rfl,rfl,rfl⟩
 case round=>
  obtain ⟨k,m,hk,hm1,hm2,rfl,rfl,he⟩:=hrel
  by_cases hlt:k < l.length
  ·obtain ⟨c0,c1⟩:=HC.out k _ (List.getElem?_eq_getElem hlt)
   have hb:=zxy l[k].1
   have hb1:=hb.1
   have hb2:=hb.2
   clear hb
   have HD:=Lib.hid (List.drop_eq_getElem_cons hlt)
   by_cases hneg:ar l[k].1 < 0
   ·go_wp2_with (go_at_call 236;refine (yuu _ _).mono ?_;rintro e w' ⟨rfl,rfl⟩)
    go_ret
    exact ⟨yci (by rw [he.out,zmw m k l hm1 hlt hneg]),rfl⟩
   ·by_cases hz:(m:Int)+(ar l[k].1 - 1)=0
    ·have hz':((m:Int)+(ar l[k].1 - 1) == 0)=true:=by simp;omega
     have HZ:=Lib.hid hz
     clear hz
     go_wp2_with (go_at_call 236;refine (yuu _ _).mono ?_;rintro e w' ⟨rfl,rfl⟩)
     go_ret
     exact ⟨yci (by rw [he.out,zgr m k l hm1 hlt (by omega) HZ.out]),rfl⟩
    ·have hz':((m:Int)+(ar l[k].1 - 1) == 0)=false:=by simp;omega
     go_wp2_with (go_at_call 236;refine (yuu _ _).mono ?_;rintro e w' ⟨rfl,rfl⟩)
     exact ⟨⟨k+1,m+(ar l[k].1).toNat - 1,by omega,by omega,by omega,by go_num,by congr 1;omega,he.out.trans (yyd m k l hm1 hlt (by omega))⟩,by simp [intOf];omega⟩
  ·go_wp2
   go_ret
   exact ⟨yci (by rw [he.out,yrz m k l hm1 (by omega)]),rfl⟩
end
section
open Go.ChangeShapes Go.WideShapes Go.RowKit
def Rd {H:Type} (enc:TypeId × Value→H) (P:Program) (w:World) (t:TypeId) (cs:List Value):Prop:=∃ fuel x,DataW.trod enc P w 0 (fun _=>true) true fuel t cs=some x
section
variable {H:Type} {enc:TypeId × Value→H} {P:Program} {w:World} {t:TypeId} {cs:List Value}
theorem rd_int {k:IntKind} (ht:P.underlying t=some (.int k)) (h:Rd enc P w t cs):∃ n,cs=[.int k n]∧(Lit.int k n).wf=true:=by
 obtain ⟨fuel,x,h⟩:=h
 obtain ⟨n,h1,_,h2⟩:=DataW.trod_int ht h
 exact ⟨n,h1,h2⟩
theorem wf64 {n:Int} (h:(Lit.int .i64 n).wf=true):-9223372036854775808≤n∧n≤9223372036854775807:=by
 simp only [Lit.wf,Bool.and_eq_true,decide_eq_true_eq] at h
 have e1:IntKind.i64.min=-9223372036854775808:=by decide
 have e2:IntKind.i64.max=9223372036854775807:=by decide
 omega
theorem zfb (ht:P.underlying t=some (.int .i64)) (h:Rd enc P w t cs):∃ n,cs=[.int .i64 n]∧-9223372036854775808≤n∧n≤9223372036854775807:=by
 obtain ⟨n,h1,h2⟩:=rd_int ht h
 exact ⟨n,h1,wf64 h2⟩
theorem zis {fs:Array Field} (ht:P.underlying t=some (.struct fs)) (h:Rd enc P w t cs) :
  cs.length=P.cellsOf t∧∀ (i:Nat) (f:Field),fs[i]?=some f→Rd enc P w f.type ((cs.drop f.offset).take (P.cellsOf f.type)):=by
 obtain ⟨fuel,x,h⟩:=h
 obtain ⟨xs,n,_,_,h1,h2,h3⟩:=DataW.trod_struct ht h
 refine ⟨h1,fun i f hf=>?_⟩
 have hi:i < xs.length:=by rw [h2];exact (Array.getElem?_eq_some_iff.1 hf).1
 exact ⟨n,xs[i],by rw [h3 i f hf,List.getElem?_eq_getElem hi]⟩
theorem rd_slice {e:TypeId} (ht:P.underlying t=some (.slice e)) (h:Rd enc P w t cs) :
  cs=[.slice none 0 0]∨∃ (a:Addr) (len cap:Nat),cs=[.slice (some a) len cap]∧len≤cap∧cap≤maxLen ∧
   ∀ i,i < len→∃ cs',cs'.length=P.cellsOf e∧(∀ j,j < P.cellsOf e→w.cell? ((a.add (i * P.cellsOf e)).add j)=cs'[j]?)∧Rd enc P w e cs':=by
 obtain ⟨fuel,x,h⟩:=h
 rcases Deep.open_slice ht h with ⟨h0,_⟩|⟨a,len,cap,m,n,D,Pl,h1,_,h2,h3,h4,_,h5⟩
 ·exact .inl h0
 ·refine .inr ⟨a,len,cap,h1,h2,h3,fun i hi=>?_⟩
  have hm:m=cap:=by simpa using h4
  obtain ⟨cs',h6,h7⟩:=h5 i (by omega)
  obtain ⟨_,h8,h9⟩:=World.cells?_some h6
  exact ⟨cs',h8,h9,⟨n,_,h7⟩⟩
end
def Seq {α:Type} (R:List Value→α→Prop) (size:Nat) (w:World) (v:Value) (l:List α):Prop:=
 ∃ xs,Row w v size l.length xs∧∀ i x,l[i]?=some x→R ((xs.drop (i * size)).take size) x
theorem Seq.below {α:Type} {R R':List Value→α→Prop} {size:Nat} {w w':World} {v:Value} {l:List α} (h:Seq R size w v l) (hb:Below w.heap.size w w') (hR:∀ cs x,R cs x→R' cs x):Seq R' size w' v l:=by
 obtain ⟨xs,h1,h2⟩:=h
 exact ⟨xs,h1.below hb,fun i x hx=>hR _ _ (h2 i x hx)⟩
theorem Seq.imp {α:Type} {R R':List Value→α→Prop} {size:Nat} {w:World} {v:Value} {l:List α} (h:Seq R size w v l) (hR:∀ cs x,x∈l→R cs x→R' cs x):Seq R' size w v l:=by
 obtain ⟨xs,h1,h2⟩:=h
 exact ⟨xs,h1,fun i x hx=>hR _ _ (List.mem_of_getElem? hx) (h2 i x hx)⟩
theorem flat_chunk (f:Nat→List Value) (size:Nat) (hf:∀ i,(f i).length=size) (n i:Nat) (hi:i < n):(((List.range n).flatMap f).drop (i * size)).take size=f i:=by
 apply List.ext_getElem?
 intro j
 rw [List.getElem?_take]
 split
 ·rename_i hj
  rw [List.getElem?_drop]
  obtain ⟨u,hu⟩:∃ u,(f i)[j]?=some u:=⟨_,List.getElem?_eq_getElem (by rw [hf];exact hj)⟩
  rw [hu]
  exact yio f size hf (List.range n) i j i u (by rw [List.getElem?_range hi]) hu
 ·rename_i hj
  rw [List.getElem?_eq_none (by rw [hf];omega)]
theorem zex {H:Type} {enc:TypeId × Value→H} {P:Program} {w:World} {t e:TypeId} {cs:List Value} {α:Type} {R:List Value→α→Prop} {size:Nat} (ht:P.underlying t=some (.slice e)) (hs:P.cellsOf e=size) (h0:0 < size)
  (hR:∀ cs,Rd enc P w e cs→∃ x,R cs x) (h:Rd enc P w t cs):∃ v l,cs=[v]∧Seq R size w v l:=by
 rcases rd_slice ht h with rfl|⟨a,len,cap,rfl,h1,h2,h3⟩
 ·exact ⟨_,[],rfl,[],row_nil w size,fun i x hx=>by simp at hx⟩
 ·rw [hs] at h3
  by_cases hl:len=0
  ·subst hl
   exact ⟨_,[],rfl,[],⟨_,cap,rfl,by simp,h2,by simp,(fun h=>by cases h),.inl rfl⟩,fun i x hx=>by simp at hx⟩
  have hch:∀ i:Nat,∃ q:List Value,q.length=size∧(i < len→(∀ j,j < size→w.cell? ((a.add (i * size)).add j)=q[j]?)∧∃ x,R q x):=by
   intro i
   by_cases hi:i < len
   ·obtain ⟨c,c1,c2,c3⟩:=h3 i hi
    exact ⟨c,c1,fun _=>⟨c2,hR c c3⟩⟩
   ·exact ⟨List.replicate size undef,by simp,fun h=>absurd h hi⟩
  obtain ⟨f,hf⟩:=Classical.axiomOfChoice hch
  obtain ⟨x0,_⟩:=((hf 0).2 (by omega)).2
  have hx:∀ i:Nat,∃ x:α,i < len→R (f i) x:=by
   intro i
   by_cases hi:i < len
   ·obtain ⟨x,hx⟩:=((hf i).2 hi).2
    exact ⟨x,fun _=>hx⟩
   ·exact ⟨x0,fun h=>absurd h hi⟩
  obtain ⟨g,hg⟩:=Classical.axiomOfChoice hx
  have hc0:w.cell? a=(f 0)[0]?:=by
   have:=((hf 0).2 (by omega)).1 0 h0
   simpa [Addr.add] using this
  obtain ⟨u0,hu0⟩:∃ u,(f 0)[0]?=some u:=⟨_,List.getElem?_eq_getElem (by rw [(hf 0).1];exact h0)⟩
  rw [hu0] at hc0
  obtain ⟨b,o,sp⟩:=a
  have hsp:sp=none:=by
   unfold World.cell? at hc0
   split at hc0
   ·split at hc0
    ·cases hc0
    ·rename_i hsp;simpa using hsp
   ·cases hc0
  subst hsp
  have hb:b < w.heap.size:=by
   rcases Nat.lt_or_ge b w.heap.size with h|h
   ·exact h
   ·unfold World.cell? at hc0;simp [Array.getElem?_eq_none h] at hc0
  have hadd:∀ n:Nat,(⟨b,o,none⟩:Addr).add n=⟨b,o+n,none⟩:=by intro n;unfold Addr.add;split <;> simp_all
  refine ⟨_,(List.range len).map g,rfl,(List.range len).flatMap f,?_,?_⟩
  ·rw [List.length_map,List.length_range]
   refine ⟨_,cap,rfl,h1,h2,by rw [ywx f size (fun i=>(hf i).1),List.length_range],(fun h=>by cases h),.inr ⟨b,o,rfl,hb,fun j u hu=>?_⟩⟩
   have hj:j < len * size:=by
    have:=(List.getElem?_eq_some_iff.1 hu).1
    rw [ywx f size (fun i=>(hf i).1),List.length_range] at this;exact this
   have hi:j / size < len:=(Nat.div_lt_iff_lt_mul h0).2 hj
   have hr:j % size < size:=Nat.mod_lt _ h0
   have hjd:j / size * size+j % size=j:=by rw [Nat.mul_comm];exact Nat.div_add_mod j size
   have c:=((hf (j / size)).2 hi).1 (j % size) hr
   obtain ⟨u',hu'⟩:∃ u,(f (j / size))[j % size]?=some u:=⟨_,List.getElem?_eq_getElem (by rw [(hf _).1];exact hr)⟩
   have e1:=yio f size (fun i=>(hf i).1) (List.range len) (j / size) (j % size) (j / size) u' (by rw [List.getElem?_range hi]) hu'
   rw [hjd,hu] at e1
   cases e1
   rw [hadd] at c
   have h5:(⟨b,o+j / size * size,none⟩:Addr).add (j % size)=⟨b,o+j,none⟩:=by
    have:(⟨b,o+j / size * size,none⟩:Addr).add (j % size)=⟨b,o+j / size * size+j % size,none⟩:=by unfold Addr.add;split <;> simp_all
    rw [this,Nat.add_assoc,hjd]
   rw [h5] at c
   rw [c,hu']
  ·intro i x hx
   have hi:i < len:=by
    have:=(List.getElem?_eq_some_iff.1 hx).1
    simpa using this
   rw [List.getElem?_map,List.getElem?_range hi] at hx
   simp at hx
   subst hx
   rw [flat_chunk f size (fun i=>(hf i).1) len i hi]
   exact hg i hi
theorem zfh {α:Type} {R:List Value→α→Prop} {size:Nat} {w:World} {v:Value} {l:List α} (f:α→List Value) (hf:∀ x,(f x).length=size) (h0:0 < size) (h:Seq R size w v l) (hR:∀ cs x,R cs x→cs=f x):Row w v size l.length (l.flatMap f):=by
 obtain ⟨xs,⟨a,cap,hv,h1,h2,h3,h4,h5⟩,h6⟩:=h
 refine ⟨a,cap,hv,h1,h2,ywx f size hf l,h4,?_⟩
 rcases h5 with h5|⟨g,o,ha,hg,hc⟩
 ·exact .inl h5
 ·refine .inr ⟨g,o,ha,hg,fun j u hu=>hc j u ?_⟩
  have hj:j < l.length * size:=by
   have:=(List.getElem?_eq_some_iff.1 hu).1
   rw [ywx f size hf] at this;exact this
  have hi:j / size < l.length:=(Nat.div_lt_iff_lt_mul h0).2 hj
  have hr:j % size < size:=Nat.mod_lt _ h0
  have hjd:j / size * size+j % size=j:=by rw [Nat.mul_comm];exact Nat.div_add_mod j size
  have e1:=yio f size hf l (j / size) (j % size) l[j / size] ((f l[j / size])[j % size]'(by rw [hf];exact hr)) (List.getElem?_eq_getElem hi) (List.getElem?_eq_getElem (by rw [hf];exact hr))
  rw [hjd,hu] at e1
  cases e1
  have e2:=hR _ _ (h6 (j / size) _ (List.getElem?_eq_getElem hi))
  have e3:((xs.drop (j / size * size)).take size)[j % size]?=some ((f l[j / size])[j % size]'(by rw [hf];exact hr)):=by rw [e2];exact List.getElem?_eq_getElem (by rw [hf];exact hr)
  rw [List.getElem?_take,if_pos hr,List.getElem?_drop,hjd] at e3
  exact e3
theorem rd_of {H:Type} {enc:TypeId × Value→H} {P:Program} {w:World} {t:TypeId} {v:Value} {d:DataW H} {ps:List MemPlace} (h:DataW.Trod enc P w 0 (fun _=>true) true t v d ps):Rd enc P w t v.cells.toList:=by
 obtain ⟨fuel,h⟩:=h
 exact ⟨fuel,_,h⟩
theorem zne (l:List Int):l.flatMap (fun x=>[Value.int .i64 x])=l.map (.int .i64):=by
 induction l with
 | nil=>rfl
 | cons a l ih=>rw [List.flatMap_cons,ih];rfl
def ytr (n:Int):Prop:=-9223372036854775808≤n∧n≤9223372036854775807
end
set_option maxRecDepth 100000
section
open Go.ChangeShapes Go.WideShapes Go.RowKit
section
variable {H:Type} {enc:TypeId × Value→H} {w:World} {cs:List Value} {v:Value} {base:Nat} {d:DataW H} {ps:List MemPlace}
def zwd (t:Tm):Prop:=ytr t.1∧ytr t.2
end
end
section
open Go.ChangeShapes Go.WideShapes Go.RowKit
structure VarD where
 name:ByteArray
 kind:Int
 lo:Int
 hi:Int
 perNode:Int
 perID:Int
structure SetD where
 var:Int
 val:List Tm
structure RuleD where
 name:ByteArray
 guard:List Tm
 sets:List SetD
structure ProgD where
 name:ByteArray
 vars:List VarD
 rules:List RuleD
def zpo (x:VarD):List Value:=[.string x.name,.int .i64 x.kind,.int .i64 x.lo,.int .i64 x.hi,.int .i64 x.perNode,.int .i64 x.perID]
def ytv (w:World) (cs:List Value) (s:SetD):Prop:=∃ v,cs=[.int .i64 s.var,v]∧yfs w v s.val
def zfy (w:World) (cs:List Value) (r:RuleD):Prop:=∃ gv sv,cs=[.string r.name,gv,sv]∧yfs w gv r.guard∧Seq (ytv w) 2 w sv r.sets
def zbd (w:World) (v:Value) (l:List VarD):Prop:=Row w v 6 l.length (l.flatMap zpo)
def ytu (w:World) (v:Value) (l:List RuleD):Prop:=Seq (zfy w) 3 w v l
def yqd (w:World) (v:Value) (p:ProgD):Prop:=∃ vv rv,v=.agg #[.string p.name,vv,rv]∧zbd w vv p.vars∧ytu w rv p.rules
def VarIn (x:VarD):Prop:=x.name.size≤9223372036854775807∧ytr x.kind∧ytr x.lo∧ytr x.hi∧ytr x.perNode∧ytr x.perID
def SetIn (s:SetD):Prop:=ytr s.var∧∀ t∈s.val,zwd t
def zwc (r:RuleD):Prop:=r.name.size≤9223372036854775807∧(∀ t∈r.guard,zwd t)∧∀ s∈r.sets,SetIn s
def zbc (p:ProgD):Prop:=p.name.size≤9223372036854775807∧(∀ x∈p.vars,VarIn x)∧∀ r∈p.rules,zwc r
theorem ytv.below {w w':World} {cs:List Value} {s:SetD} (hb:Below w.heap.size w w') (h:ytv w cs s):ytv w' cs s:=by
 obtain ⟨v,h1,h2⟩:=h
 exact ⟨v,h1,h2.below hb⟩
theorem zfy.below {w w':World} {cs:List Value} {r:RuleD} (hb:Below w.heap.size w w') (h:zfy w cs r):zfy w' cs r:=by
 obtain ⟨gv,sv,h1,h2,h3⟩:=h
 exact ⟨gv,sv,h1,h2.below hb,h3.below hb fun _ _=>ytv.below hb⟩
theorem zbd.below {w w':World} {v:Value} {l:List VarD} (h:zbd w v l) (hb:Below w.heap.size w w'):zbd w' v l:=Row.below h hb
theorem ytu.below {w w':World} {v:Value} {l:List RuleD} (h:ytu w v l) (hb:Below w.heap.size w w'):ytu w' v l:=Seq.below h hb fun _ _=>zfy.below hb
theorem yqd.below {w w':World} {v:Value} {p:ProgD} (h:yqd w v p) (hb:Below w.heap.size w w'):yqd w' v p:=by
 obtain ⟨vv,rv,h1,h2,h3⟩:=h
 exact ⟨vv,rv,h1,h2.below hb,h3.below hb⟩
theorem Seq.open {α:Type} {R:List Value→α→Prop} {size:Nat} {w:World} {v:Value} {l:List α} (h:Seq R size w v l):∃ a cap,v=.slice a l.length cap∧l.length≤cap∧cap≤9223372036854775807 ∧
  (0 < l.length→∃ g o,a=some ⟨g,o,none⟩∧g < w.heap.size∧∀ i x,l[i]?=some x→∃ cs,cs.length=size∧R cs x∧∀ j u,cs[j]?=some u→w.cell? ⟨g,o+i * size+j,none⟩=some u):=by
 obtain ⟨xs,h1,h2⟩:=h
 have hlen:xs.length=l.length * size:=by obtain ⟨_,_,_,_,_,h,_⟩:=h1;exact h
 obtain ⟨a,cap,hv,h3,h4,_,h5⟩:=Row.open h1
 refine ⟨a,cap,hv,h3,h4,fun hn=>?_⟩
 obtain ⟨g,o,ha,hg,hc⟩:=h5 hn
 refine ⟨g,o,ha,hg,fun i x hx=>⟨_,?_,h2 i x hx,fun j u hu=>?_⟩⟩
 ·have hi:=(List.getElem?_eq_some_iff.1 hx).1
  rw [List.length_take,List.length_drop,hlen]
  have:i * size+size≤l.length * size:=by rw [← Nat.succ_mul];exact Nat.mul_le_mul_right _ hi
  omega
 ·rw [List.getElem?_take] at hu
  split at hu
  ·rw [List.getElem?_drop] at hu
   have:=hc _ u hu
   rw [← Nat.add_assoc] at this
   exact this
  ·cases hu
theorem zbd.open {w:World} {v:Value} {l:List VarD} (h:zbd w v l):∃ a cap,v=.slice a l.length cap∧l.length≤cap∧cap≤9223372036854775807 ∧
  (0 < l.length→∃ g o,a=some ⟨g,o,none⟩∧g < w.heap.size∧∀ i x,l[i]?=some x→w.cell? ⟨g,o+i * 6,none⟩=some (.string x.name)∧w.cell? ⟨g,o+i * 6+1,none⟩=some (.int .i64 x.kind)∧w.cell? ⟨g,o+i * 6+2,none⟩=some (.int .i64 x.lo) ∧
   w.cell? ⟨g,o+i * 6+3,none⟩=some (.int .i64 x.hi)∧w.cell? ⟨g,o+i * 6+4,none⟩=some (.int .i64 x.perNode)∧w.cell? ⟨g,o+i * 6+5,none⟩=some (.int .i64 x.perID)):=by
 obtain ⟨a,cap,hv,h3,h4,_,h5⟩:=Row.open h
 refine ⟨a,cap,hv,h3,h4,fun hn=>?_⟩
 obtain ⟨g,o,ha,hg,hc⟩:=h5 hn
 refine ⟨g,o,ha,hg,fun i x hx=>?_⟩
 have h0:=fun j u hu=>yio zpo 6 (fun _=>rfl) l i j x u hx hu
 exact ⟨hc _ _ (h0 0 _ rfl),hc _ _ (h0 1 _ rfl),hc _ _ (h0 2 _ rfl),hc _ _ (h0 3 _ rfl),hc _ _ (h0 4 _ rfl),hc _ _ (h0 5 _ rfl)⟩
theorem ytu.open {w:World} {v:Value} {l:List RuleD} (h:ytu w v l):∃ a cap,v=.slice a l.length cap∧l.length≤cap∧cap≤9223372036854775807 ∧
  (0 < l.length→∃ g o,a=some ⟨g,o,none⟩∧g < w.heap.size∧∀ i r,l[i]?=some r→∃ gv sv,yfs w gv r.guard∧Seq (ytv w) 2 w sv r.sets∧w.cell? ⟨g,o+i * 3,none⟩=some (.string r.name)∧w.cell? ⟨g,o+i * 3+1,none⟩=some gv∧w.cell? ⟨g,o+i * 3+2,none⟩=some sv):=by
 obtain ⟨a,cap,hv,h3,h4,h5⟩:=Seq.open h
 refine ⟨a,cap,hv,h3,h4,fun hn=>?_⟩
 obtain ⟨g,o,ha,hg,hc⟩:=h5 hn
 refine ⟨g,o,ha,hg,fun i r hr=>?_⟩
 obtain ⟨cs,_,⟨gv,sv,rfl,q1,q2⟩,q3⟩:=hc i r hr
 exact ⟨gv,sv,q1,q2,q3 0 _ rfl,q3 1 _ rfl,q3 2 _ rfl⟩
theorem yok {w:World} {v:Value} {l:List SetD} (h:Seq (ytv w) 2 w v l):∃ a cap,v=.slice a l.length cap∧l.length≤cap∧cap≤9223372036854775807 ∧
  (0 < l.length→∃ g o,a=some ⟨g,o,none⟩∧g < w.heap.size∧∀ i s,l[i]?=some s→∃ sv,yfs w sv s.val∧w.cell? ⟨g,o+i * 2,none⟩=some (.int .i64 s.var)∧w.cell? ⟨g,o+i * 2+1,none⟩=some sv):=by
 obtain ⟨a,cap,hv,h3,h4,h5⟩:=Seq.open h
 refine ⟨a,cap,hv,h3,h4,fun hn=>?_⟩
 obtain ⟨g,o,ha,hg,hc⟩:=h5 hn
 refine ⟨g,o,ha,hg,fun i s hs=>?_⟩
 obtain ⟨cs,_,⟨sv,rfl,q1⟩,q3⟩:=hc i s hs
 exact ⟨sv,q1,q3 0 _ rfl,q3 1 _ rfl⟩
section
variable {H:Type} {enc:TypeId × Value→H} {w:World} {cs:List Value} {v:Value} {base:Nat} {d:DataW H} {ps:List MemPlace}
end
end
section
open Go.RowKit
theorem zbn (v:Value) (l:List Tm) (k:Nat) (w:World) (hl:l.length≤1000) (hv:Hid (yfs w v l)) (_hk:k≤1000) :
  Calls Tryz.prog 170 #[v,.int .i64 k] w fun e w'=>e=.returned (.int .i64 (yry 1 k l))∧w=w':=by
 by_cases h:k < l.length
 ·exact end_any_in v l k w hl hv h
 ·obtain ⟨a,cap,rfl,h1,h2,_⟩:=hv.out.open
  have H:=Lib.hid (yrz 1 k l (by omega) (by omega))
  go_enter Tryz.func170,Tryz.ntmps170
  go_wp2
  go_ret
  exact ⟨yci H.out.symm,rfl⟩
theorem zty (v:Value) (l:List Tm) (k:Nat) (w:World) (hl:l.length≤1000) (hv:Hid (yfs w v l)) (_hk:k≤1000) :
  Calls Tryz.prog 270 #[v,.int .i64 k] w fun e w'=>e=.returned (.int .i64 (yry 1 k l))∧w=w':=by
 by_cases h:k < l.length
 ·exact rend_any_in v l k w hl hv h
 ·obtain ⟨a,cap,rfl,h1,h2,_⟩:=hv.out.open
  have H:=Lib.hid (yrz 1 k l (by omega) (by omega))
  go_enter Tryz.func270,Tryz.ntmps270
  go_wp2
  go_ret
  exact ⟨yci H.out.symm,rfl⟩
theorem yye (l:List Tm):yry 1 0 l=l.length↔∃ E,yha l=some E:=by
 rw [parse_iff]
 unfold yry
 rw [List.drop_zero]
 cases h:zjn 1 l with
 | none=>simp
 | some n=>simp;omega
theorem depth1_any (op:Int) (g:Nat) (w:World) (hg:g≤1000):Calls Tryz.prog 219 #[.int .i64 op,.int .i64 g] w fun e w'=>e=.returned (.int .i64 (ygv op g:Nat))∧w=w':=by
 go_enter Tryz.func219,Tryz.ntmps219
 go_wp2
 go_ret
 exact ⟨yci (by unfold ygv;omega),rfl⟩
theorem nest1_any (op:Int) (g:Nat) (w:World) (hg:g≤1000):Calls Tryz.prog 220 #[.int .i64 op,.int .i64 g] w fun e w'=>e=.returned (.int .i64 (yma op g:Nat))∧w=w':=by
 cases ha:yts op
 all_goals
  go_enter Tryz.func220,Tryz.ntmps220
  go_wp2_with (go_at_call 221;refine (yil _ _).mono ?_;rintro e w' ⟨rfl,rfl⟩)
  go_ret
  exact ⟨yci (by unfold yma;rw [ha];simp),rfl⟩
theorem zwm (f:Int→Nat→Nat) (hf:∀ op g,f op g≤g+1) (l:List Tm):∀ x∈lev f l,x≤l.length:=by
 have hm:∀ (xs:List Nat) (b:Nat),(∀ x∈xs,x≤b)→ynj xs≤b:=by
  intro xs b
  induction xs with
  | nil=>intro _;simp [ynj]
  | cons a xs ih=>
   intro h
   have h1:=h a (List.mem_cons_self ..)
   have h2:=ih (fun x hx=>h x (List.mem_cons_of_mem _ hx))
   simp only [ynj];omega
 induction l with
 | nil=>intro x hx;simp [lev] at hx
 | cons t l ih=>
  intro x hx
  simp only [lev] at hx
  cases hx with
  | head=>
   have h1:=hm ((lev f l).take (ar t.1).toNat) l.length (fun x hx=>ih x (List.mem_of_mem_take hx))
   have h2:=hf t.1 (ynj ((lev f l).take (ar t.1).toNat))
   simp only [List.length_cons];omega
  | tail _ hx=>have:=ih x (List.mem_of_mem_drop hx);simp only [List.length_cons];omega
theorem zsx (f:Int→Nat→Nat) (l:List Tm):(lev f l).length≤l.length:=by
 induction l with
 | nil=>simp [lev]
 | cons t l ih=>simp only [lev,List.length_cons,List.length_drop];omega
theorem yyz (xs ys:List Nat):ynj (xs++ys)=max (ynj xs) (ynj ys):=by
 induction xs with
 | nil=>simp [ynj]
 | cons a xs ih=>simp only [List.cons_append,ynj,ih];omega
theorem maxl_reverse (xs:List Nat):ynj xs.reverse=ynj xs:=by
 induction xs with
 | nil=>rfl
 | cons a xs ih=>rw [List.reverse_cons,yyz,ih];simp only [ynj];omega
theorem yqk (xs:List Nat) (q:Nat) (x:Nat) (h:xs[q]?=some x):ynj (xs.take (q+1))=max (ynj (xs.take q)) x:=by
 obtain ⟨h1,h2⟩:=List.getElem?_eq_some_iff.1 h
 rw [List.take_succ_eq_append_getElem h1,yyz,h2];simp [ynj]
def yew (xs:List Nat):List Value:=xs.map fun (n:Nat)=>Value.int .i64 n
theorem yvv (xs:List Nat) (i x:Nat) (h:xs[i]?=some x):(yew xs)[i]?=some (.int .i64 x):=by unfold yew;rw [List.getElem?_map,h];rfl
theorem yoa (xs:List Nat):(yew xs).length=xs.length:=by simp [yew]
theorem ygy (xs ys:List Nat):yew (xs++ys)=yew xs++yew ys:=by simp [yew]
theorem zod {w:World} {B e cap n m:Nat} {a:Option Addr} {xs ys:List Value} (hm:ys.length=m)
  (h:w.ownsRow B e 1 (.slice a n cap) n (ys++xs)):w.ownsRow B e 1 (.slice a m cap) m ys:=by
 obtain ⟨h1,h2⟩:=h
 refine ⟨by omega,?_⟩
 rw [List.length_append] at h1
 rcases h2 with ⟨h0,h3⟩|⟨g',cap',cur,hv,hg,hh,hn,hcap,hsz,htake⟩
 ·cases h0
  exact .inl ⟨by rw [show m=0 by omega],by omega⟩
 ·cases hv
  refine .inr ⟨g',cap,cur,rfl,hg,hh,by omega,hcap,hsz,?_⟩
  have h4:=congrArg (List.take m) htake
  rw [List.take_take,Nat.min_eq_left (by omega),← hm,List.take_append_of_le_length (Nat.le_refl _),List.take_length] at h4
  rw [Nat.mul_one,← hm];exact h4
theorem zdb {P:Program} {t:TypeId} (ht:P.underlying t=some (.slice (P.elem t))) (hs:∀ w,(sizeOf (P.elem t)).run P w=.ok 1 w) (a:Option Addr) (n cap r m:Nat) (i:Int) (hi:i=r) (h:m+r=n) (hc:n≤cap) :
  ∃ sb capb,(∀ w,(Instr.slice t (.slice a n cap) (some (.int .i64 i)) none none).run P w=.ok (.slice sb m capb) w)∧m≤capb∧capb≤cap∧(∀ g o,a=some ⟨g,o,none⟩→0 < m→sb=some ⟨g,o+r,none⟩):=by
 subst hi
 refine ⟨if cap=r then a else a.map (·.add (r * 1)),cap - r,fun w=>?_,by omega,by omega,fun g o ha hr=>?_⟩
 ·rw [run_slice_l w t a n cap ht .i64 r (by omega) (by omega),hs]
  show Result.ok (sliced a r n cap 1) w=_
  unfold sliced
  rw [show n - r=m by omega]
 ·rw [if_neg (by omega),ha]
  simp only [Option.map_some,Nat.mul_one,Addr.add]
  split
  ·simp_all
  ·rfl
theorem zcz {P:Program} {t:TypeId} (ht:P.underlying t=some (.slice (P.elem t))) (hs:∀ w,(sizeOf (P.elem t)).run P w=.ok 1 w) (a:Option Addr) (n cap r:Nat) (i:Int) (hi:i=r) (h:r≤cap) :
  ∀ w,(Instr.slice t (.slice a n cap) none (some (.int .i64 i)) none).run P w=.ok (.slice a r cap) w:=by
 subst hi
 intro w
 rw [run_slice_h w t a n cap ht .i64 r (by omega) (by omega),hs]
 show Result.ok (sliced a 0 r cap 1) w=_
 unfold sliced
 by_cases h0:cap=0
 ·rw [if_pos h0];rfl
 ·rw [if_neg h0]
  cases a <;> simp [Addr.add]
theorem zim {w:World} {B e:Nat} {v x:Value} (h:w.ownsRow B e 1 v 1 [x]):∃ g cap,v=.slice (some ⟨g,0,none⟩) 1 cap∧1≤cap∧cap≤9223372036854775807∧w.cell? ⟨g,0,none⟩=some x:=by
 have h5:=h
 obtain ⟨h1,h2⟩:=h
 rcases h2 with ⟨h0,h3⟩|⟨g,cap,cur,rfl,hg,hh,hn,hcap,hsz,htake⟩
 ·omega
 ·unfold maxLen at hcap
  have hc:=h5.cells (g:=g) rfl 0 x rfl
  exact ⟨g,cap,rfl,hn,by omega,by simpa [Addr.add] using hc⟩
theorem zil {w:World} {B e n cap:Nat} {a:Option Addr} {xs:List Value} (h:w.ownsRow B e 1 (.slice a n cap) n xs):n≤cap∧cap≤9223372036854775807∧(0 < n→∃ g,a=some ⟨g,0,none⟩∧∀ j u,xs[j]?=some u→w.cell? ⟨g,j,none⟩=some u):=by
 obtain ⟨a',cap',hv,h1,h2,h3,h4⟩:=(zcv h).open
 cases hv
 refine ⟨h1,h2,fun hn=>?_⟩
 rcases h.2 with ⟨h0,h5⟩|⟨g,cap,cur,hv,hg,hh,hn',hcap,hsz,htake⟩
 ·omega
 ·cases hv
  refine ⟨g,rfl,fun j u hu=>?_⟩
  have hc:=h.cells (g:=g) rfl j u hu
  have h0:(⟨g,0,none⟩:Addr).add j=⟨g,j,none⟩:=by unfold Addr.add;split <;> simp_all
  rw [h0] at hc;exact hc
theorem zhn (f:Int→Nat→Nat) (l:List Tm) (E:Ex) (hf:yeb l=some [E]) (j:Nat) (hj:j < l.length) :
  0≤ar l[j].1∧∃ lo seg:List Nat,(lev f (l.drop (j+1))).reverse=lo++seg∧(seg.length:Int)=ar l[j].1∧(lev f (l.drop j)).reverse=lo++[f l[j].1 (ynj seg)]:=by
 obtain ⟨G',hG'⟩:=forest_suffix l j _ hf
 rw [List.drop_eq_getElem_cons hj] at hG'
 obtain ⟨G,hG,h0,hle,_⟩:=ysc _ _ _ hG'
 have hlen:(lev f (l.drop (j+1))).length=G.length:=by rw [yul f _ G hG,List.length_map]
 refine ⟨h0,((lev f (l.drop (j+1))).drop (ar l[j].1).toNat).reverse,((lev f (l.drop (j+1))).take (ar l[j].1).toNat).reverse,?_,?_,?_⟩
 ·rw [← List.reverse_append,List.take_append_drop]
 ·rw [List.length_reverse,List.length_take,hlen];omega
 ·rw [List.drop_eq_getElem_cons hj]
  simp only [lev,List.reverse_cons,maxl_reverse]
theorem zko:(Tryz.prog.info? 3).map (fun i=>(i.zero,i.size,i.bytes))=some (some (.int .i64 0),1,8):=by kernel_rfl
theorem zfj (w:World):(sizeOf (Tryz.prog.elem 26)).run Tryz.prog w=.ok 1 w:=by kernel_rfl
theorem ytp:Tryz.prog.underlying 26=some (.slice (Tryz.prog.elem 26)):=by kernel_rfl
set_option maxHeartbeats 4000000 in
theorem levels_depth (v:Value) (l:List Tm) (E:Ex) (w:World) (hl:l.length≤1000) (hv:Hid (yfs w v l)) (hp:Hid (yha l=some E)) :
  Calls Tryz.prog 218 #[v,.func (.func 219) #[] #[]] w fun e w'=>e=.returned (.tuple #[.int .i64 (val ygv E:Nat),.bool true])∧Below w.heap.size w w':=by
 obtain ⟨i0,hi,hz0,hz1,hz2⟩:=info_parts zko
 have Hi:=Lib.hid hi
 have Hz0:=Lib.hid hz0
 have Hz1:=Lib.hid hz1
 have Hz2:=Lib.hid hz2
 clear hi hz0 hz1 hz2
 obtain ⟨hok,hfl⟩:=yjb hp.out
 have HF:Hid (yeb l=some [E]):=by rw [← hfl];have:=yyk E hok [] [] rfl;rw [List.append_nil] at this;exact this
 have hpos:0 < l.length:=by rw [← hfl];exact E.fl_pos
 have HE:=Lib.hid ((yye l).2 ⟨E,hp.out⟩)
 have hne:(yry 1 0 l != (l.length:Int))=false:=by rw [HE.out];simp
 clear hok hfl
 obtain ⟨a0,cap0,rfl,h1,h2,h3⟩:=hv.out.open
 obtain ⟨g0,o0,rfl,hg0,hc⟩:=h3 hpos
 have HC:=Lib.hid hc
 clear h3 hc
 go_enter Tryz.func218,Tryz.ntmps218
 go_wp2_with (go_at_call 170;refine (zbn _ l 0 _ hl hv (by omega)).mono ?_;rintro e w' ⟨rfl,rfl⟩)
 go_loopg [6,7,8,9,11] l.length (fun m st i _ _ _ wr=>m≤l.length∧i=.int .i64 ((m:Int) - 1)∧wr.ownsRow w.heap.size 3 1 st (lev ygv (l.drop m)).length (yew (lev ygv (l.drop m)).reverse)∧Below w.heap.size w wr)
 case atStart=>
  refine ⟨Nat.le_refl _,rfl,?_,Below.refl _ _⟩
  rw [List.drop_length];exact World.ownsRow_nil _ _ _ _
 case round=>
  obtain ⟨hm,rfl,hown,hbel⟩:=hrel
  by_cases h0:gk=0
  ·subst h0
   rw [List.drop_zero,yul ygv l [E] HF.out] at hown
   obtain ⟨g,cap,rfl,hc1,hc2,hcell⟩:=zim hown
   go_wp2_with fail
   go_ret2
   exact ⟨rfl,hbel⟩
  ·obtain ⟨j,rfl⟩:∃ j,gk=j+1:=⟨gk - 1,by omega⟩
   have hj:j < l.length:=by omega
   obtain ⟨ha0,lo,seg,hr1,hr2,hr3⟩:=zhn ygv l E HF.out j hj
   have hlen:(lev ygv (l.drop (j+1))).length=lo.length+seg.length:=by rw [← List.length_reverse,hr1,List.length_append]
   have hsegb:ynj seg≤1000:=by
    have h1:=zwm ygv (by intro op g;simp only [ygv];first|omega|(split <;> omega)) (l.drop (j+1))
    have h2:∀ (xs:List Nat) (b:Nat),(∀ x∈xs,x≤b)→ynj xs≤b:=by
     intro xs b
     induction xs with
     | nil=>intro _;simp [ynj]
     | cons a xs ih=>
      intro h
      have h1:=h a (List.mem_cons_self ..)
      have h2:=ih (fun x hx=>h x (List.mem_cons_of_mem _ hx))
      simp only [ynj];omega
    refine Nat.le_trans (h2 seg (l.drop (j+1)).length fun x hx=>h1 x ?_) (by rw [List.length_drop];omega)
    rw [← List.mem_reverse,hr1];exact List.mem_append_right _ hx
   have e1:((j+1:Nat):Int) - 1=j:=by omega
   rw [e1]
   rw [hr1,hlen] at hown
   have H3:=Lib.hid hr3
   obtain ⟨sa,scap,rfl⟩:=zin hown
   obtain ⟨hn1,hn2,hn3⟩:=zil hown
   obtain ⟨sb,capb,hsl,hb1,hb2,hb3⟩:=zdb ytp zfj sa (lo.length+seg.length) scap lo.length seg.length (((lo.length+seg.length:Nat):Int) - ar l[j].1) (by omega) (by omega) hn1
   have hsl2:=zcz ytp zfj sa (lo.length+seg.length) scap lo.length (((lo.length+seg.length:Nat):Int) - ar l[j].1) (by omega) (by omega)
   obtain ⟨c0,c1⟩:=HC.out j _ (List.getElem?_eq_getElem hj)
   rw [← hbel.cell (p:=⟨g0,_,none⟩) hg0] at c0 c1
   have HR2:=Lib.hid hr2
   have hra:ar l[j].1≤((lo.length+seg.length:Nat):Int):=by omega
   have hlo:lo.length+seg.length≤1000:=by have h1:=zsx ygv (l.drop (j+1));rw [List.length_drop] at h1;omega
   have hnpos:(0 < seg.length→0 < lo.length+seg.length):=by omega
   have hlo2:lo.length≤scap:=by omega
   have hlo3:lo.length≤1000:=by omega
   generalize hN:lo.length+seg.length=n at *
   have HN:=Lib.hid hN
   clear hN
   clear hr1 hr2 hr3 hlen e1 h0
   go_wp2_with (go_at_call 217;refine (ygu _ _).mono ?_;rintro e w' ⟨rfl,rfl⟩)
   go_loop [9,11,37] (fun gr _ q=>∃ k:Nat,k≤seg.length∧q=.int .i64 k∧gr=.int .i64 (ynj (seg.take k):Nat)) (fun _ _ q=>seg.length - (intOf q).toNat)
   case atStart=>exact ⟨0,by omega,rfl,rfl⟩
   case round=>
    obtain ⟨k,hk,rfl,rfl⟩:=hrel
    by_cases hq:k < seg.length
    ·obtain ⟨g,rfl,hcs⟩:=hn3 (by have:=HN.out;omega)
     obtain rfl:=hb3 g 0 rfl (by omega)
     obtain ⟨x,hx⟩:∃ x,seg[k]?=some x:=⟨seg[k],List.getElem?_eq_getElem hq⟩
     have hcell:=hcs (lo.length+k) _ (yvv (lo++seg) (lo.length+k) x (by rw [List.getElem?_append_right (by omega),Nat.add_sub_cancel_left];exact hx))
     have HM:=Lib.hid (yqk seg k x hx)
     clear hcs hx
     simp only [Nat.zero_add]
     generalize ynj (seg.take k)=mk at *
     go_wp2_with fail
     refine ⟨⟨k+1,by omega,by go_num,?_⟩,by simp [intOf];omega⟩
     rw [HM.out]
     congr 1
     split <;> omega
    ·obtain rfl:k=seg.length:=by omega
     rw [List.take_length]
     go_wp2_with fail
     have hown':wr.ownsRow w.heap.size 3 1 (.slice sa lo.length scap) lo.length (yew lo):=zod (yoa lo) (by rw [ygy] at hown;exact hown)
     go_region_law (first|(go_simp;go_at_call 219;refine (depth1_any _ _ _ hsegb).mono ?_;rintro e w' ⟨rfl,rfl⟩;dsimp only)|(refine step_append_lies _ rfl (.tmp 47) (.tmp 56) 26 rfl w.heap.size 3 i0 (.int .i64 0) 1 8 Tryz.underlying26 Hi.out Hz0.out Hz1.out Hz2.out rfl (by decide) _ _ _ rfl (by exact zik hown' (by repeat (first|exact Below.refl _ _|apply Below.drew|refine Below.alloc ?_ (by simp) _))) ⟨wr.heap.size,0,none⟩ 1 1 [.int .i64 (ygv l[j].1 (ynj seg):Nat)] rfl rfl (by exact zib _ _ _ _ (by simp)) (by simp [Value.oneCell']) (by decide) (by unfold maxLen;omega) (by omega) (by have:=hbel.size;simp;omega) _ rfl ?_;intro g2 cap2 w2 hown2 hgrow2 _ _))
     have HO:w2.ownsRow w.heap.size 3 1 (.slice (some ⟨g2,0,none⟩) (lo.length+1) cap2) (lev ygv (l.drop j)).length (yew (lev ygv (l.drop j)).reverse):=by
      have e5:=congrArg List.length H3.out
      rw [List.length_reverse,List.length_append] at e5
      rw [e5,H3.out,ygy];exact hown2
     have HB:Below w.heap.size w w2:=Below.grown (by repeat (first|exact hbel|apply Below.drew|refine Below.alloc ?_ (by have:=hbel.size;simp;omega) _)) hgrow2 (by have:=hbel.size;simp;omega) (zww hown')
     clear hown2 hgrow2 hown'
     go_wp2_with fail
     go_roundg j
     case measure=>omega
     case rel=>exact ⟨by omega,by go_num,HO,HB⟩
set_option maxHeartbeats 4000000 in
theorem levels_nest (v:Value) (l:List Tm) (E:Ex) (w:World) (hl:l.length≤1000) (hv:Hid (yfs w v l)) (hp:Hid (yha l=some E)) :
  Calls Tryz.prog 218 #[v,.func (.func 220) #[] #[]] w fun e w'=>e=.returned (.tuple #[.int .i64 (val yma E:Nat),.bool true])∧Below w.heap.size w w':=by
 obtain ⟨i0,hi,hz0,hz1,hz2⟩:=info_parts zko
 have Hi:=Lib.hid hi
 have Hz0:=Lib.hid hz0
 have Hz1:=Lib.hid hz1
 have Hz2:=Lib.hid hz2
 clear hi hz0 hz1 hz2
 obtain ⟨hok,hfl⟩:=yjb hp.out
 have HF:Hid (yeb l=some [E]):=by rw [← hfl];have:=yyk E hok [] [] rfl;rw [List.append_nil] at this;exact this
 have hpos:0 < l.length:=by rw [← hfl];exact E.fl_pos
 have HE:=Lib.hid ((yye l).2 ⟨E,hp.out⟩)
 have hne:(yry 1 0 l != (l.length:Int))=false:=by rw [HE.out];simp
 clear hok hfl
 obtain ⟨a0,cap0,rfl,h1,h2,h3⟩:=hv.out.open
 obtain ⟨g0,o0,rfl,hg0,hc⟩:=h3 hpos
 have HC:=Lib.hid hc
 clear h3 hc
 go_enter Tryz.func218,Tryz.ntmps218
 go_wp2_with (go_at_call 170;refine (zbn _ l 0 _ hl hv (by omega)).mono ?_;rintro e w' ⟨rfl,rfl⟩)
 go_loopg [6,7,8,9,11] l.length (fun m st i _ _ _ wr=>m≤l.length∧i=.int .i64 ((m:Int) - 1)∧wr.ownsRow w.heap.size 3 1 st (lev yma (l.drop m)).length (yew (lev yma (l.drop m)).reverse)∧Below w.heap.size w wr)
 case atStart=>
  refine ⟨Nat.le_refl _,rfl,?_,Below.refl _ _⟩
  rw [List.drop_length];exact World.ownsRow_nil _ _ _ _
 case round=>
  obtain ⟨hm,rfl,hown,hbel⟩:=hrel
  by_cases h0:gk=0
  ·subst h0
   rw [List.drop_zero,yul yma l [E] HF.out] at hown
   obtain ⟨g,cap,rfl,hc1,hc2,hcell⟩:=zim hown
   go_wp2_with fail
   go_ret2
   exact ⟨rfl,hbel⟩
  ·obtain ⟨j,rfl⟩:∃ j,gk=j+1:=⟨gk - 1,by omega⟩
   have hj:j < l.length:=by omega
   obtain ⟨ha0,lo,seg,hr1,hr2,hr3⟩:=zhn yma l E HF.out j hj
   have hlen:(lev yma (l.drop (j+1))).length=lo.length+seg.length:=by rw [← List.length_reverse,hr1,List.length_append]
   have hsegb:ynj seg≤1000:=by
    have h1:=zwm yma (by intro op g;simp only [yma];first|omega|(split <;> omega)) (l.drop (j+1))
    have h2:∀ (xs:List Nat) (b:Nat),(∀ x∈xs,x≤b)→ynj xs≤b:=by
     intro xs b
     induction xs with
     | nil=>intro _;simp [ynj]
     | cons a xs ih=>
      intro h
      have h1:=h a (List.mem_cons_self ..)
      have h2:=ih (fun x hx=>h x (List.mem_cons_of_mem _ hx))
      simp only [ynj];omega
    refine Nat.le_trans (h2 seg (l.drop (j+1)).length fun x hx=>h1 x ?_) (by rw [List.length_drop];omega)
    rw [← List.mem_reverse,hr1];exact List.mem_append_right _ hx
   have e1:((j+1:Nat):Int) - 1=j:=by omega
   rw [e1]
   rw [hr1,hlen] at hown
   have H3:=Lib.hid hr3
   obtain ⟨sa,scap,rfl⟩:=zin hown
   obtain ⟨hn1,hn2,hn3⟩:=zil hown
   obtain ⟨sb,capb,hsl,hb1,hb2,hb3⟩:=zdb ytp zfj sa (lo.length+seg.length) scap lo.length seg.length (((lo.length+seg.length:Nat):Int) - ar l[j].1) (by omega) (by omega) hn1
   have hsl2:=zcz ytp zfj sa (lo.length+seg.length) scap lo.length (((lo.length+seg.length:Nat):Int) - ar l[j].1) (by omega) (by omega)
   obtain ⟨c0,c1⟩:=HC.out j _ (List.getElem?_eq_getElem hj)
   rw [← hbel.cell (p:=⟨g0,_,none⟩) hg0] at c0 c1
   have HR2:=Lib.hid hr2
   have hra:ar l[j].1≤((lo.length+seg.length:Nat):Int):=by omega
   have hlo:lo.length+seg.length≤1000:=by have h1:=zsx yma (l.drop (j+1));rw [List.length_drop] at h1;omega
   have hnpos:(0 < seg.length→0 < lo.length+seg.length):=by omega
   have hlo2:lo.length≤scap:=by omega
   have hlo3:lo.length≤1000:=by omega
   generalize hN:lo.length+seg.length=n at *
   have HN:=Lib.hid hN
   clear hN
   clear hr1 hr2 hr3 hlen e1 h0
   go_wp2_with (go_at_call 217;refine (ygu _ _).mono ?_;rintro e w' ⟨rfl,rfl⟩)
   go_loop [9,11,37] (fun gr _ q=>∃ k:Nat,k≤seg.length∧q=.int .i64 k∧gr=.int .i64 (ynj (seg.take k):Nat)) (fun _ _ q=>seg.length - (intOf q).toNat)
   case atStart=>exact ⟨0,by omega,rfl,rfl⟩
   case round=>
    obtain ⟨k,hk,rfl,rfl⟩:=hrel
    by_cases hq:k < seg.length
    ·obtain ⟨g,rfl,hcs⟩:=hn3 (by have:=HN.out;omega)
     obtain rfl:=hb3 g 0 rfl (by omega)
     obtain ⟨x,hx⟩:∃ x,seg[k]?=some x:=⟨seg[k],List.getElem?_eq_getElem hq⟩
     have hcell:=hcs (lo.length+k) _ (yvv (lo++seg) (lo.length+k) x (by rw [List.getElem?_append_right (by omega),Nat.add_sub_cancel_left];exact hx))
     have HM:=Lib.hid (yqk seg k x hx)
     clear hcs hx
     simp only [Nat.zero_add]
     generalize ynj (seg.take k)=mk at *
     go_wp2_with fail
     refine ⟨⟨k+1,by omega,by go_num,?_⟩,by simp [intOf];omega⟩
     rw [HM.out]
     congr 1
     split <;> omega
    ·obtain rfl:k=seg.length:=by omega
     rw [List.take_length]
     go_wp2_with fail
     have hown':wr.ownsRow w.heap.size 3 1 (.slice sa lo.length scap) lo.length (yew lo):=zod (yoa lo) (by rw [ygy] at hown;exact hown)
     go_region_law (first|(go_simp;go_at_call 220;refine (nest1_any _ _ _ hsegb).mono ?_;rintro e w' ⟨rfl,rfl⟩;dsimp only)|(refine step_append_lies _ rfl (.tmp 47) (.tmp 56) 26 rfl w.heap.size 3 i0 (.int .i64 0) 1 8 Tryz.underlying26 Hi.out Hz0.out Hz1.out Hz2.out rfl (by decide) _ _ _ rfl (by exact zik hown' (by repeat (first|exact Below.refl _ _|apply Below.drew|refine Below.alloc ?_ (by simp) _))) ⟨wr.heap.size,0,none⟩ 1 1 [.int .i64 (yma l[j].1 (ynj seg):Nat)] rfl rfl (by exact zib _ _ _ _ (by simp)) (by simp [Value.oneCell']) (by decide) (by unfold maxLen;omega) (by omega) (by have:=hbel.size;simp;omega) _ rfl ?_;intro g2 cap2 w2 hown2 hgrow2 _ _))
     have HO:w2.ownsRow w.heap.size 3 1 (.slice (some ⟨g2,0,none⟩) (lo.length+1) cap2) (lev yma (l.drop j)).length (yew (lev yma (l.drop j)).reverse):=by
      have e5:=congrArg List.length H3.out
      rw [List.length_reverse,List.length_append] at e5
      rw [e5,H3.out,ygy];exact hown2
     have HB:Below w.heap.size w w2:=Below.grown (by repeat (first|exact hbel|apply Below.drew|refine Below.alloc ?_ (by have:=hbel.size;simp;omega) _)) hgrow2 (by have:=hbel.size;simp;omega) (zww hown')
     clear hown2 hgrow2 hown'
     go_wp2_with fail
     go_roundg j
     case measure=>omega
     case rel=>exact ⟨by omega,by go_num,HO,HB⟩
theorem yys (v fv:Value) (l:List Tm) (w:World) (hl:l.length≤1000) (hv:Hid (yfs w v l)) (hp:Hid (yha l=none)) :
  Calls Tryz.prog 218 #[v,fv] w fun e w'=>e=.returned (.tuple #[.int .i64 0,.bool false])∧w=w':=by
 have hne:(yry 1 0 l != (l.length:Int))=true:=by
  rw [bne_iff_ne]
  intro h
  obtain ⟨E,hE⟩:=(yye l).1 h
  rw [hp.out] at hE;cases hE
 obtain ⟨a0,cap0,rfl,h1,h2,h3⟩:=hv.out.open
 clear h3
 go_enter Tryz.func218,Tryz.ntmps218
 go_wp2_with (go_at_call 170;refine (zbn _ l 0 _ hl hv (by omega)).mono ?_;rintro e w' ⟨rfl,rfl⟩)
 go_ret2
 exact ⟨rfl,rfl⟩
def yvl (l:List Tm):Nat:=match yha l with|none=>0|some E=>E.dp
def zkw (l:List Tm):Nat:=match yha l with|none=>0|some E=>E.ns
theorem depth_any (v:Value) (l:List Tm) (w:World) (hl:l.length≤1000) (hv:Hid (yfs w v l)) :
  Calls Tryz.prog 172 #[v] w fun e w'=>e=.returned (.int .i64 (yvl l))∧Below w.heap.size w w':=by
 cases hp:yha l with
 | none=>
  have H:Hid (yvl l=0):=by unfold yvl;rw [hp];rfl
  have HP:=Lib.hid hp
  clear hp
  go_enter Tryz.func172,Tryz.ntmps172
  go_wp2_with (go_at_call 218;refine (yys _ _ l _ hl hv HP).mono ?_;rintro e w' ⟨rfl,rfl⟩)
  go_ret
  exact ⟨yci (by rw [H.out];rfl),Below.refl _ _⟩
 | some E=>
  have H:Hid (yvl l=val ygv E):=by unfold yvl;rw [hp,val_depth];rfl
  have HP:=Lib.hid hp
  clear hp
  go_enter Tryz.func172,Tryz.ntmps172
  go_wp2_with (go_at_call 218;refine (levels_depth _ l E _ hl hv HP).mono ?_;rintro e w' ⟨rfl,hb⟩)
  go_ret
  exact ⟨yci (by rw [H.out]),hb⟩
theorem nest_any (v:Value) (l:List Tm) (w:World) (hl:l.length≤1000) (hv:Hid (yfs w v l)) :
  Calls Tryz.prog 173 #[v] w fun e w'=>e=.returned (.int .i64 (zkw l))∧Below w.heap.size w w':=by
 cases hp:yha l with
 | none=>
  have H:Hid (zkw l=0):=by unfold zkw;rw [hp];rfl
  have HP:=Lib.hid hp
  clear hp
  go_enter Tryz.func173,Tryz.ntmps173
  go_wp2_with (go_at_call 218;refine (yys _ _ l _ hl hv HP).mono ?_;rintro e w' ⟨rfl,rfl⟩)
  go_ret
  exact ⟨yci (by rw [H.out];rfl),Below.refl _ _⟩
 | some E=>
  have H:Hid (zkw l=val yma E):=by unfold zkw;rw [hp,val_nest E (yjb hp).1];rfl
  have HP:=Lib.hid hp
  clear hp
  go_enter Tryz.func173,Tryz.ntmps173
  go_wp2_with (go_at_call 218;refine (levels_nest _ l E _ hl hv HP).mono ?_;rintro e w' ⟨rfl,hb⟩)
  go_ret
  exact ⟨yci (by rw [H.out]),hb⟩
end
section
open Go.RowKit
def xaf (l:List Tm):Bool:=(yha l).isSome
theorem zzy (l:List Tm) (E:Ex) (h:yha l=some E):(yry 1 0 l != (l.length:Int))=false∧(yry 1 0 l == (l.length:Int))=true:=by
 rw [(yye l).2 ⟨E,h⟩];simp
theorem zzx (l:List Tm) (h:yha l=none):(yry 1 0 l != (l.length:Int))=true∧(yry 1 0 l == (l.length:Int))=false:=by
 have:yry 1 0 l≠(l.length:Int):=fun hq=>by
  obtain ⟨E,hE⟩:=(yye l).1 hq
  rw [h] at hE;cases hE
 simp [this]
theorem one_any (v:Value) (l:List Tm) (w:World) (hl:l.length≤1000) (hv:Hid (yfs w v l)) :
  Calls Tryz.prog 288 #[v] w fun e w'=>e=.returned (.bool (xaf l))∧w=w':=by
 obtain ⟨a0,cap0,rfl,h1,h2,h3⟩:=hv.out.open
 clear h3
 cases hp:yha l with
 | none=>
  have H:Hid (xaf l=false):=by unfold xaf;rw [hp];rfl
  obtain ⟨_,he⟩:=zzx l hp
  clear hp
  by_cases h0:0 < l.length
  all_goals
   go_enter Tryz.func288,Tryz.ntmps288
   go_wp2_with (go_at_call 270;refine (zty _ l 0 _ hl hv (by omega)).mono ?_;rintro e w' ⟨rfl,rfl⟩)
   go_ret
   exact ⟨yak H.out.symm,rfl⟩
 | some E=>
  have H:Hid (xaf l=true):=by unfold xaf;rw [hp];rfl
  have h0:0 < l.length:=by rw [← (yjb hp).2];exact E.fl_pos
  obtain ⟨_,he⟩:=zzy l E hp
  clear hp
  go_enter Tryz.func288,Tryz.ntmps288
  go_wp2_with (go_at_call 270;refine (zty _ l 0 _ hl hv (by omega)).mono ?_;rintro e w' ⟨rfl,rfl⟩)
  go_ret
  exact ⟨yak H.out.symm,rfl⟩
theorem valid_none {l:List Tm} (vars:Int) (h:yha l=none):yed l vars=false:=by unfold yed;rw [h]
theorem valid_long {l:List Tm} (vars:Int) (h:200 < l.length):yed l vars=false:=by
 unfold yed
 cases yha l with
 | none=>rfl
 | some E=>simp;omega
theorem valid_arg {l:List Tm} (vars:Int) (k:Nat) (hk:k < l.length) (h:yxu vars l[k]=false):yed l vars=false:=by
 unfold yed
 cases yha l with
 | none=>rfl
 | some E=>
  have:l.all (yxu vars)=false:=by rw [List.all_eq_false];exact ⟨l[k],List.getElem_mem hk,by simp [h]⟩
  simp only [this,Bool.false_and,Bool.and_false]
theorem valid_rest {l:List Tm} (vars:Int) (E:Ex) (hp:yha l=some E) (h:l.length≤200) (ha:(l.take l.length).all (yxu vars)=true):yed l vars=(decide (E.dp≤24) && decide (E.ns≤2)):=by
 rw [List.take_length] at ha
 unfold yed;rw [hp];simp [ha,h]
theorem args_snoc (l:List Tm) (vars:Int) (k:Nat) (h:k < l.length) (ha:(l.take k).all (yxu vars)=true) (hw:yxu vars l[k]=true):(l.take (k+1)).all (yxu vars)=true:=by
 rw [List.take_succ_eq_append_getElem h,List.all_append,ha];simp [hw]
set_option maxHeartbeats 2000000 in
theorem yif (v:Value) (l:List Tm) (vars:Int) (w:World) (hl:l.length≤1000) (hv:Hid (yfs w v l)) :
  Calls Tryz.prog 112 #[v,.int .i64 vars] w fun e w'=>e=.returned (.bool (yed l vars))∧Below w.heap.size w w':=by
 obtain ⟨a0,cap0,rfl,h1,h2,h3⟩:=hv.out.open
 have HC:=Lib.hid h3
 clear h3
 by_cases h200:200 < l.length
 ·have H:=Lib.hid (valid_long vars h200)
  go_enter Tryz.func112,Tryz.ntmps112
  go_wp2_with fail
  go_ret
  exact ⟨yak H.out.symm,Below.refl _ _⟩
 cases hp:yha l with
 | none=>
  have H:=Lib.hid (valid_none vars hp)
  obtain ⟨he,_⟩:=zzx l hp
  clear hp
  go_enter Tryz.func112,Tryz.ntmps112
  go_wp2_with (go_at_call 170;refine (zbn _ l 0 _ hl hv (by omega)).mono ?_;rintro e w' ⟨rfl,rfl⟩)
  go_ret
  exact ⟨yak H.out.symm,Below.refl _ _⟩
 | some E=>
  have HP:=Lib.hid hp
  obtain ⟨he,_⟩:=zzy l E hp
  clear hp
  go_enter Tryz.func112,Tryz.ntmps112
  go_wp2_with (go_at_call 170;refine (zbn _ l 0 _ hl hv (by omega)).mono ?_;rintro e w' ⟨rfl,rfl⟩)
  go_loopw [6,19] (fun _ i wr=>∃ k:Nat,k≤l.length∧i=.int .i64 k∧Hid ((l.take k).all (yxu vars)=true)∧Below w.heap.size w wr) (fun _ i _=>l.length - (intOf i).toNat)
  case atStart=>exact ⟨0,by omega,rfl,rfl,Below.refl _ _⟩
  case round=>
   obtain ⟨k,hk,rfl,ha,hbel⟩:=hrel
   by_cases hlt:k < l.length
   ·obtain ⟨g,o,rfl,hg,hc⟩:=HC.out (by omega)
    obtain ⟨c0,c1⟩:=hc k _ (List.getElem?_eq_getElem hlt)
    rw [← hbel.cell (p:=⟨g,_,none⟩) hg] at c0 c1
    clear hc
    have hbs:=hbel.size
    rcases Bool.eq_false_or_eq_true (yxu vars l[k]) with hw|hw
    ·have H:=Lib.hid (args_snoc l vars k hlt ha.out hw)
     go_wp2_with (go_at_call 171;refine (yvg l[k] vars _).mono ?_;rintro e w1 ⟨rfl,hb1⟩)
     exact ⟨⟨k+1,by omega,by go_num,H,(hbel.alloc hbs _).trans (hb1.mono (by simp;omega))⟩,by simp [intOf];omega⟩
    ·have H:=Lib.hid (valid_arg vars k hlt hw)
     go_wp2_with (go_at_call 171;refine (yvg l[k] vars _).mono ?_;rintro e w1 ⟨rfl,hb1⟩)
     go_ret
     exact ⟨yak H.out.symm,(hbel.alloc hbs _).trans (hb1.mono (by simp;omega))⟩
   ·obtain rfl:k=l.length:=by omega
    have H:=Lib.hid (valid_rest vars E HP.out (by omega) ha.out)
    have HD:Hid (yvl l=E.dp):=by unfold yvl;rw [HP.out];rfl
    have HN:Hid (zkw l=E.ns):=by unfold zkw;rw [HP.out];rfl
    by_cases hd:yvl l≤24
    all_goals
     go_wp2_with (first|(go_at_call 172;refine (depth_any _ l _ hl (hv.out.below hbel)).mono ?_;rintro e w1 ⟨rfl,hb1⟩)|(go_at_call 173;refine (nest_any _ l _ hl (hv.out.below (zpx hbel hb1))).mono ?_;rintro e w2 ⟨rfl,hb2⟩))
     go_ret
    ·refine ⟨yak ?_,zpx (zpx hbel hb1) hb2⟩
     rw [H.out,← HD.out,← HN.out];simp [hd];omega
    ·refine ⟨yak ?_,zpx hbel hb1⟩
     rw [H.out,← HD.out];simp;omega
end
section
open Go.RowKit
def ywh (k:Int):Bool:=decide (k=1) || (decide (k=2) || decide (k=3))
theorem ycx (k:Int) (w:World):Calls Tryz.prog 174 #[.int .i64 k] w fun e w'=>e=.returned (.bool (ywh k))∧w=w':=by
 go_enter Tryz.func174,Tryz.ntmps174
 go_wp2
 all_goals go_ret
 all_goals refine ⟨yak ?_,rfl⟩
 all_goals (rw [Bool.eq_iff_iff];simp [ywh];try omega)
theorem ifTrue_any (c:Bool) (k:Int) (w:World):Calls Tryz.prog 250 #[.bool c,.int .i64 k] w fun e w'=>e=.returned (.int .i64 (if c=true then k else 0))∧w=w':=by
 cases c
 all_goals
  go_enter Tryz.func250,Tryz.ntmps250
  go_wp2
  go_ret
  exact ⟨yci (by simp),rfl⟩
def zix (op a b c:Int):Int:=if ar op=1 then ty1 op a else if ar op=2 then ty2 op a b else ty3 a b c
set_option maxHeartbeats 4000000 in
theorem yuv (op a b c:Int) (w:World) (h1:18≤op) (h2:op≤43) :
  Calls Tryz.prog 224 #[.int .i64 op,.agg #[.int .i64 a,.int .i64 b,.int .i64 c]] w fun e w'=>e=.returned (.int .i64 (zix op a b c))∧Below w.heap.size w w':=by
 have hop:op=18∨op=19∨op=20∨op=21∨op=22∨op=23∨op=24∨op=25∨op=26∨op=27∨op=28∨op=29∨op=30∨op=31∨op=32∨op=33∨op=34∨op=35∨op=36∨op=37∨op=38∨op=39∨op=40∨op=41∨op=42∨op=43:=by omega
 rcases hop with rfl|rfl|rfl|rfl|rfl|rfl|rfl|rfl|rfl|rfl|rfl|rfl|rfl|rfl|rfl|rfl|rfl|rfl|rfl|rfl|rfl|rfl|rfl|rfl|rfl|rfl
 all_goals
  clear h1 h2
  go_enter Tryz.func224,Tryz.ntmps224
  go_wp2_with fail
  go_quiet (fail)
  go_wp2_with (go_at_call 250;refine (ifTrue_any _ _ _).mono ?_;rintro e w' ⟨rfl,rfl⟩)
  all_goals go_ret
  all_goals refine ⟨yci ?_,below_drewN ((Below.refl _ _).alloc (Nat.le_refl _) _) _⟩
  all_goals try simp only [beq_iff_eq,beq_eq_false_iff_ne,bne_iff_ne,bne_eq_false_iff_eq,ne_eq] at *
  all_goals (simp [zix,ar,ty1,ty2,ty3, *];try omega)
theorem zkk (kinds:List Int) (i:Nat) (h:i < kinds.length):kinds[i]?=some (kinds.getD i 0):=by
 rw [List.getD_eq_getElem?_getD,List.getElem?_eq_getElem h];rfl
set_option maxHeartbeats 4000000 in
theorem leaf_any (ev kv:Value) (kinds:List Int) (op x:Int) (w:World) (hk:Hid (yvd .i64 w kv kinds)) (h1:1≤op) (h2:op≤17) (hx:op=5∨op=12→0≤x∧x < kinds.length) :
  Calls Tryz.prog 223 #[.agg #[ev,kv],.agg #[.int .i64 op,.int .i64 x]] w fun e w'=>e=.returned (.int .i64 (ynz kinds (op,x)))∧Below w.heap.size w w':=by
 obtain ⟨a,cap,rfl,i1,i2,i3,i4⟩:=hk.out.open
 have HC:=Lib.hid i4
 have HX:=Lib.hid hx
 clear i4 hx i3
 have hop:op=1∨op=2∨op=3∨op=4∨op=5∨op=6∨op=7∨op=8∨op=9∨op=10∨op=11∨op=12∨op=13∨op=14∨op=15∨op=16∨op=17:=by omega
 rcases hop with rfl|rfl|rfl|rfl|rfl|rfl|rfl|rfl|rfl|rfl|rfl|rfl|rfl|rfl|rfl|rfl|rfl
 all_goals clear h1 h2
 case inr.inr.inr.inr.inl=>
  obtain ⟨x0,x1⟩:=HX.out (by omega)
  obtain ⟨x,rfl⟩:=Int.eq_ofNat_of_zero_le x0
  obtain ⟨g,o,rfl,hg,hc⟩:=HC.out (by omega)
  have c0:=hc x _ (zkk kinds x (by omega))
  have hxl:x < kinds.length:=by omega
  have HL:=Lib.hid (show ynz kinds (5,(x:Int))=kinds.getD x 0 by simp [ynz])
  clear hc x0 x1
  generalize kinds.getD x 0=kx at *
  go_enter Tryz.func223,Tryz.ntmps223
  go_wp2_with fail
  go_ret
  refine ⟨yci HL.out.symm,?_⟩
  repeat (first|exact Below.refl _ _|refine Below.alloc ?_ (by simp) _)
 case inr.inr.inr.inr.inr.inr.inr.inr.inr.inr.inr.inl=>
  obtain ⟨x0,x1⟩:=HX.out (by omega)
  obtain ⟨x,rfl⟩:=Int.eq_ofNat_of_zero_le x0
  obtain ⟨g,o,rfl,hg,hc⟩:=HC.out (by omega)
  have c0:=hc x _ (zkk kinds x (by omega))
  have hxl:x < kinds.length:=by omega
  have HL:=Lib.hid (show ynz kinds (12,(x:Int))=kinds.getD x 0 by simp [ynz])
  clear hc x0 x1
  generalize kinds.getD x 0=kx at *
  go_enter Tryz.func223,Tryz.ntmps223
  go_wp2_with fail
  go_ret
  refine ⟨yci HL.out.symm,?_⟩
  repeat (first|exact Below.refl _ _|refine Below.alloc ?_ (by simp) _)
 all_goals
  go_enter Tryz.func223,Tryz.ntmps223
  go_wp2_with fail
  go_ret
  refine ⟨yci (by simp [ynz]),?_⟩
  repeat (first|exact Below.refl _ _|refine Below.alloc ?_ (by simp) _)
end
section
open Go.RowKit
theorem ar_zero {op:Int} (h:ar op=0):1≤op∧op≤17:=by
 unfold ar at h;(repeat' split at h) <;> omega
theorem ar_one {op:Int} (h:ar op=1):18≤op∧op≤29:=by
 unfold ar at h;(repeat' split at h) <;> omega
theorem ar_two {op:Int} (h:ar op=2):30≤op∧op≤42:=by
 unfold ar at h;(repeat' split at h) <;> omega
theorem ar_three {op:Int} (h:ar op=3):op=43:=by
 unfold ar at h;(repeat' split at h) <;> omega
theorem arg_leaf {kinds:List Int} {t:Tm} (h:yxu kinds.length t=true):t.1=5∨t.1=12→0≤t.2∧t.2 < kinds.length:=by
 intro h5
 unfold yxu at h
 rw [if_neg (by omega),if_pos h5] at h
 simpa using h
theorem ywu {l:List Tm} {p:Nat} {t:Tm} {r:List Tm} (h:l.drop p=t::r):p < l.length∧l[p]?=some t∧l.drop (p+1)=r:=by
 have h1:p < l.length:=by
  rcases Nat.lt_or_ge p l.length with h1|h1
  ·exact h1
  ·rw [List.drop_eq_nil_of_le h1] at h;cases h
 rw [List.drop_eq_getElem_cons h1] at h
 simp only [List.cons.injEq] at h
 exact ⟨h1,by rw [List.getElem?_eq_getElem h1,h.1],h.2⟩
def ReadRet (kinds:List Int) (bound:Bool) (E:Ex) (p:Nat) (w:World) (e:Ending) (w':World):Prop:=
 e=.returned (.tuple #[.int .i64 (ty kinds bound E),.int .i64 ((p+E.fl.length:Nat):Int)])∧Below w.heap.size w w'
def yjg (ev kv:Value) (l:List Tm) (kinds:List Int) (E:Ex):Prop:=
 ∀ (p:Nat) (r:List Tm) (bound:Bool) (w:World),l.drop p=E.fl++r→yfs w ev l→yvd .i64 w kv kinds →
  Calls Tryz.prog 175 #[.agg #[ev,kv],.int .i64 p,.bool bound] w (ReadRet kinds bound E p w)
set_option maxHeartbeats 1000000 in
theorem read_leaf (ev kv:Value) (l:List Tm) (kinds:List Int) (t:Tm) (hl:l.length≤1000) (h0:ar t.1=0) (ha:Hid (yxu kinds.length t=true)):yjg ev kv l kinds (.lf t):=by
 intro p r bound w hd ht hk
 obtain ⟨a0,cap0,rfl,h1,h2,h3⟩:=ht.open
 obtain ⟨hp,hpt,_⟩:=ywu hd
 obtain ⟨g,o,rfl,hg,hc⟩:=h3 (by omega)
 obtain ⟨c0,c1⟩:=hc p t hpt
 obtain ⟨h11,h17⟩:=ar_zero h0
 have HT:=Lib.hid ht
 have HK:=Lib.hid hk
 have HR:Hid (ty kinds bound (.lf t)=if zqg t.1 && !bound then 0 else ynz kinds t):=rfl
 have hz:(ar t.1 == 0)=true:=by rw [h0];rfl
 have hlen:Hid ((Ex.lf t).fl.length=1):=rfl
 clear hc h3 hpt hd ht hk h0
 obtain ⟨op,x⟩:=t
 simp only at *
 rcases Bool.eq_false_or_eq_true (zqg op) with hn|hn <;> cases bound
 all_goals
  go_enter Tryz.func175,Tryz.ntmps175
  go_wp2_with (first|(go_at_call 217;refine (ygu _ _).mono ?_;rintro e w' ⟨rfl,rfl⟩)|(go_at_call 222;refine (near_any _ _).mono ?_;rintro e w' ⟨rfl,rfl⟩)|(go_at_call 223;refine (leaf_any _ _ kinds op x _ (by exact yvd.below HK.out (by repeat (first|exact Below.refl _ _|refine Below.alloc ?_ (by simp) _))) h11 h17 (arg_leaf ha.out)).mono ?_;rintro e w1 ⟨rfl,hb1⟩))
  go_ret2
  refine ⟨by rw [HR.out,hlen.out];simp [hn],?_⟩
  first|exact Below.trans (by repeat (first|exact Below.refl _ _|refine Below.alloc ?_ (by simp) _)) (hb1.mono (by simp;omega))|(repeat (first|exact Below.refl _ _|refine Below.alloc ?_ (by simp) _))
set_option maxHeartbeats 2000000 in
theorem read_un (ev kv:Value) (l:List Tm) (kinds:List Int) (t:Tm) (A:Ex) (hl:l.length≤1000) (h0:ar t.1=1) (ihA:yjg ev kv l kinds A):yjg ev kv l kinds (.un t A):=by
 intro p r bound w hd ht hk
 obtain ⟨a0,cap0,rfl,h1,h2,h3⟩:=ht.open
 simp only [Ex.fl,List.cons_append] at hd
 obtain ⟨hp,hpt,hd1⟩:=ywu hd
 obtain ⟨g,o,rfl,hg,hc⟩:=h3 (by omega)
 obtain ⟨c0,c1⟩:=hc p t hpt
 obtain ⟨h18,h29⟩:=ar_one h0
 have HT:=Lib.hid ht
 have HK:=Lib.hid hk
 have HD1:=Lib.hid hd1
 have HIA:=Lib.hid ihA
 have HR:Hid (ty kinds bound (.un t A)=zix t.1 (ty kinds (bound || yts t.1) A) 0 0):=by unfold zix;rw [if_pos h0];rfl
 have hz:(ar t.1 == 0)=false:=by rw [h0];rfl
 have hlen:=Lib.hid (show (Ex.un t A).fl.length=1+A.fl.length by simp [Ex.fl];omega)
 have hpl:p+1≤1000:=by omega
 clear hc h3 hpt hd ht hk hd1 ihA
 obtain ⟨op,x⟩:=t
 simp only at *
 rcases Bool.eq_false_or_eq_true (yts op) with hn|hn <;> cases bound
 all_goals
  simp only [hn,Bool.or_true,Bool.or_false] at HR
  go_enter Tryz.func175,Tryz.ntmps175
  go_wp2_with (first|(go_at_call 217;refine (ygu _ _).mono ?_;rintro e w' ⟨rfl,rfl⟩)|(go_at_call 221;refine (yil _ _).mono ?_;rintro e w' ⟨rfl,rfl⟩))
  refine wp_loop_rounds 2 ?_
  rw [rounds_succ]
  go_wp2_with fail
  rw [show ((p:Int)+1)=((p+1:Nat):Int) by omega]
  refine (HIA.out (p+1) r _ _ HD1.out (by exact yfs.below HT.out (by repeat (first|exact Below.refl _ _|refine Below.alloc ?_ (by first|(simp;done)|(simp;omega)) _))) (by exact yvd.below HK.out (by repeat (first|exact Below.refl _ _|refine Below.alloc ?_ (by first|(simp;done)|(simp;omega)) _)))).mono ?_
  rintro e w1 ⟨rfl,hb1⟩
  obtain ⟨hcl,hfz⟩:=zpw hb1
  have hsz:=hb1.size
  simp at hsz
  generalize ty kinds _ A=ta at *
  go_wp2_with fail
  rw [rounds_succ]
  go_wp2_with (first|(go_at_call 224;refine (yuv _ _ _ _ _ (by omega) (by omega)).mono ?_;rintro e w2 ⟨rfl,hb2⟩))
  have B1:Below w.heap.size w w1:=Below.trans (by repeat (first|exact Below.refl _ _|refine Below.alloc ?_ (by first|(simp;done)|(simp;omega)) _)) (hb1.mono (by simp;omega))
  have B2:=B1.size
  go_ret2
  refine ⟨by rw [HR.out,hlen.out];simp;omega,Below.trans (B1.setCell ?_ _) (hb2.mono ?_)⟩
  ·simp;omega
  ·simp;omega
set_option maxHeartbeats 4000000 in
theorem read_bi (ev kv:Value) (l:List Tm) (kinds:List Int) (t:Tm) (A B:Ex) (hl:l.length≤1000) (h0:ar t.1=2) (ihA:yjg ev kv l kinds A) (ihB:yjg ev kv l kinds B):yjg ev kv l kinds (.bi t A B):=by
 intro p r bound w hd ht hk
 obtain ⟨a0,cap0,rfl,h1,h2,h3⟩:=ht.open
 simp only [Ex.fl,List.cons_append,List.append_assoc] at hd
 obtain ⟨hp,hpt,hd1⟩:=ywu hd
 obtain ⟨g,o,rfl,hg,hc⟩:=h3 (by omega)
 obtain ⟨c0,c1⟩:=hc p t hpt
 have h18:18≤t.1∧t.1≤43:=by have:=ar_two h0;omega
 have h18a:=h18.1
 have h18b:=h18.2
 have HT:=Lib.hid ht
 have HK:=Lib.hid hk
 have HDA:=Lib.hid hd1
 have hdB:l.drop (p+1+A.fl.length)=B.fl++r:=by rw [← List.drop_drop,hd1,List.drop_append_of_le_length (Nat.le_refl _),List.drop_length,List.nil_append]
 have HDB:=Lib.hid hdB
 have HIA:=Lib.hid ihA
 have HIB:=Lib.hid ihB
 have HR:Hid (ty kinds bound (.bi t A B)=zix t.1 (ty kinds bound A) (ty kinds bound B) 0):=by unfold zix;rw [if_neg (by omega),if_pos h0];rfl
 have hz:(ar t.1 == 0)=false:=by rw [h0];rfl
 have hn:yts t.1=false:=yxt (by omega)
 have hlen:=Lib.hid (show (Ex.bi t A B).fl.length=1+A.fl.length+B.fl.length by simp [Ex.fl];omega)
 have hll:Hid (l.length - p=1+A.fl.length+B.fl.length+r.length):=by
  have:=congrArg List.length hd
  rw [List.length_drop] at this
  simp at this
  unfold Hid;omega
 clear hc h3 hpt hd ht hk hd1 ihA ihB hdB h18
 obtain ⟨op,x⟩:=t
 simp only at *
 cases bound
 all_goals
  go_enter Tryz.func175,Tryz.ntmps175
  go_wp2_with (first|(go_at_call 217;refine (ygu _ _).mono ?_;rintro e w' ⟨rfl,rfl⟩)|(go_at_call 221;refine (yil _ _).mono ?_;rintro e w' ⟨rfl,rfl⟩))
  refine wp_loop_rounds 3 ?_
  rw [rounds_succ]
  go_wp2_with fail
  rw [show ((p:Int)+1)=((p+1:Nat):Int) by omega]
  refine (HIA.out (p+1) _ _ _ HDA.out (by exact yfs.below HT.out (by repeat (first|exact Below.refl _ _|refine Below.alloc ?_ (by first|(simp;done)|(simp;omega)) _))) (by exact yvd.below HK.out (by repeat (first|exact Below.refl _ _|refine Below.alloc ?_ (by first|(simp;done)|(simp;omega)) _)))).mono ?_
  rintro e w1 ⟨rfl,hb1⟩
  obtain ⟨hcl1,hfz1⟩:=zpw hb1
  have hsz1:=hb1.size
  simp at hsz1
  have B1:Below w.heap.size w w1:=Below.trans (by repeat (first|exact Below.refl _ _|refine Below.alloc ?_ (by first|(simp;done)|(simp;omega)) _)) (hb1.mono (by simp;omega))
  have B1s:=B1.size
  have z1a:w.heap.size < w1.heap.size:=by omega
  have z1b:w.heap.size+1 < w1.heap.size:=by omega
  have z1c:w.heap.size+1+1 < w1.heap.size:=by omega
  generalize ty kinds _ A=ta at *
  generalize hq1:p+1+A.fl.length=q1 at *
  have HQ1:=Lib.hid hq1
  clear hq1
  have hqb2:q1≤1000:=by have e1:=HQ1.out;have e2:=hll.out;omega
  go_wp2_with fail
  rw [rounds_succ]
  go_wp2_with fail
  refine (HIB.out q1 _ _ _ HDB.out (by exact yfs.below HT.out (B1.setCell (by first|(simp;done)|(simp;omega)) _)) (by exact yvd.below HK.out (B1.setCell (by first|(simp;done)|(simp;omega)) _))).mono ?_
  rintro e w2 ⟨rfl,hb2⟩
  obtain ⟨hcl2,hfz2⟩:=zpw hb2
  have hsz2:=hb2.size
  simp at hsz2
  have B2:Below w.heap.size w w2:=Below.trans (B1.setCell (by first|(simp;done)|(simp;omega)) _) (hb2.mono (by simp;omega))
  have B2s:=B2.size
  have z2a:w.heap.size < w2.heap.size:=by omega
  have z2b:w.heap.size+1 < w2.heap.size:=by omega
  have z2c:w.heap.size+1+1 < w2.heap.size:=by omega
  generalize ty kinds _ B=tb at *
  generalize hq2:q1+B.fl.length=q2 at *
  have HQ2:=Lib.hid hq2
  clear hq2
  have hqe:q2≤1000:=by have e1:=HQ1.out;have e2:=hll.out;have e3:=HQ2.out;omega
  go_wp2_with fail
  rw [rounds_succ]
  go_wp2_with (first|(go_at_call 224;refine (yuv _ _ _ _ _ (by omega) (by omega)).mono ?_;rintro e wz ⟨rfl,hbz⟩))
  go_ret2
  refine ⟨?_,Below.trans (B2.setCell ?_ _) (hbz.mono ?_)⟩
  ·rw [HR.out,hlen.out,show p+(1+A.fl.length+B.fl.length)=q2 by have e1:=HQ1.out;have e3:=HQ2.out;omega];rfl
  ·first|(simp;done)|(simp;omega)
  ·simp;omega
set_option maxHeartbeats 4000000 in
theorem read_tr (ev kv:Value) (l:List Tm) (kinds:List Int) (t:Tm) (A B C:Ex) (hl:l.length≤1000) (h0:ar t.1=3) (ihA:yjg ev kv l kinds A) (ihB:yjg ev kv l kinds B) (ihC:yjg ev kv l kinds C):yjg ev kv l kinds (.tr t A B C):=by
 intro p r bound w hd ht hk
 obtain ⟨a0,cap0,rfl,h1,h2,h3⟩:=ht.open
 simp only [Ex.fl,List.cons_append,List.append_assoc] at hd
 obtain ⟨hp,hpt,hd1⟩:=ywu hd
 obtain ⟨g,o,rfl,hg,hc⟩:=h3 (by omega)
 obtain ⟨c0,c1⟩:=hc p t hpt
 have h18:18≤t.1∧t.1≤43:=by have:=ar_three h0;omega
 have h18a:=h18.1
 have h18b:=h18.2
 have HT:=Lib.hid ht
 have HK:=Lib.hid hk
 have HDA:=Lib.hid hd1
 have hdB:l.drop (p+1+A.fl.length)=B.fl++(C.fl++r):=by rw [← List.drop_drop,hd1,List.drop_append_of_le_length (Nat.le_refl _),List.drop_length,List.nil_append]
 have HDB:=Lib.hid hdB
 have hdC:l.drop (p+1+A.fl.length+B.fl.length)=C.fl++r:=by rw [← List.drop_drop,hdB,List.drop_append_of_le_length (Nat.le_refl _),List.drop_length,List.nil_append]
 have HDC:=Lib.hid hdC
 have HIA:=Lib.hid ihA
 have HIB:=Lib.hid ihB
 have HIC:=Lib.hid ihC
 have HR:Hid (ty kinds bound (.tr t A B C)=zix t.1 (ty kinds bound A) (ty kinds bound B) (ty kinds bound C)):=by unfold zix;rw [if_neg (by omega),if_neg (by omega)];rfl
 have hz:(ar t.1 == 0)=false:=by rw [h0];rfl
 have hn:yts t.1=false:=yxt (by omega)
 have hlen:=Lib.hid (show (Ex.tr t A B C).fl.length=1+A.fl.length+B.fl.length+C.fl.length by simp [Ex.fl];omega)
 have hll:Hid (l.length - p=1+A.fl.length+B.fl.length+C.fl.length+r.length):=by
  have:=congrArg List.length hd
  rw [List.length_drop] at this
  simp at this
  unfold Hid;omega
 clear hc h3 hpt hd ht hk hd1 ihA ihB ihC hdB hdC h18
 obtain ⟨op,x⟩:=t
 simp only at *
 cases bound
 all_goals
  go_enter Tryz.func175,Tryz.ntmps175
  go_wp2_with (first|(go_at_call 217;refine (ygu _ _).mono ?_;rintro e w' ⟨rfl,rfl⟩)|(go_at_call 221;refine (yil _ _).mono ?_;rintro e w' ⟨rfl,rfl⟩))
  refine wp_loop_rounds 4 ?_
  rw [rounds_succ]
  go_wp2_with fail
  rw [show ((p:Int)+1)=((p+1:Nat):Int) by omega]
  refine (HIA.out (p+1) _ _ _ HDA.out (by exact yfs.below HT.out (by repeat (first|exact Below.refl _ _|refine Below.alloc ?_ (by first|(simp;done)|(simp;omega)) _))) (by exact yvd.below HK.out (by repeat (first|exact Below.refl _ _|refine Below.alloc ?_ (by first|(simp;done)|(simp;omega)) _)))).mono ?_
  rintro e w1 ⟨rfl,hb1⟩
  obtain ⟨hcl1,hfz1⟩:=zpw hb1
  have hsz1:=hb1.size
  simp at hsz1
  have B1:Below w.heap.size w w1:=Below.trans (by repeat (first|exact Below.refl _ _|refine Below.alloc ?_ (by first|(simp;done)|(simp;omega)) _)) (hb1.mono (by simp;omega))
  have B1s:=B1.size
  have z1a:w.heap.size < w1.heap.size:=by omega
  have z1b:w.heap.size+1 < w1.heap.size:=by omega
  have z1c:w.heap.size+1+1 < w1.heap.size:=by omega
  generalize ty kinds _ A=ta at *
  generalize hq1:p+1+A.fl.length=q1 at *
  have HQ1:=Lib.hid hq1
  clear hq1
  have hqb2:q1≤1000:=by have e1:=HQ1.out;have e2:=hll.out;omega
  go_wp2_with fail
  rw [rounds_succ]
  go_wp2_with fail
  refine (HIB.out q1 _ _ _ HDB.out (by exact yfs.below HT.out (B1.setCell (by first|(simp;done)|(simp;omega)) _)) (by exact yvd.below HK.out (B1.setCell (by first|(simp;done)|(simp;omega)) _))).mono ?_
  rintro e w2 ⟨rfl,hb2⟩
  obtain ⟨hcl2,hfz2⟩:=zpw hb2
  have hsz2:=hb2.size
  simp at hsz2
  have B2:Below w.heap.size w w2:=Below.trans (B1.setCell (by first|(simp;done)|(simp;omega)) _) (hb2.mono (by simp;omega))
  have B2s:=B2.size
  have z2a:w.heap.size < w2.heap.size:=by omega
  have z2b:w.heap.size+1 < w2.heap.size:=by omega
  have z2c:w.heap.size+1+1 < w2.heap.size:=by omega
  generalize ty kinds _ B=tb at *
  generalize hq2:q1+B.fl.length=q2 at *
  have HQ2:=Lib.hid hq2
  clear hq2
  have hqb3:q2≤1000:=by have e1:=HQ1.out;have e2:=hll.out;have e3:=HQ2.out;omega
  go_wp2_with fail
  rw [rounds_succ]
  go_wp2_with fail
  refine (HIC.out q2 _ _ _ HDC.out (by exact yfs.below HT.out (B2.setCell (by first|(simp;done)|(simp;omega)) _)) (by exact yvd.below HK.out (B2.setCell (by first|(simp;done)|(simp;omega)) _))).mono ?_
  rintro e w3 ⟨rfl,hb3⟩
  obtain ⟨hcl3,hfz3⟩:=zpw hb3
  have hsz3:=hb3.size
  simp at hsz3
  have B3:Below w.heap.size w w3:=Below.trans (B2.setCell (by first|(simp;done)|(simp;omega)) _) (hb3.mono (by simp;omega))
  have B3s:=B3.size
  have z3a:w.heap.size < w3.heap.size:=by omega
  have z3b:w.heap.size+1 < w3.heap.size:=by omega
  have z3c:w.heap.size+1+1 < w3.heap.size:=by omega
  generalize ty kinds _ C=tc at *
  generalize hq3:q2+C.fl.length=q3 at *
  have HQ3:=Lib.hid hq3
  clear hq3
  have hqe:q3≤1000:=by have e1:=HQ1.out;have e2:=hll.out;have e3:=HQ2.out;have e4:=HQ3.out;omega
  go_wp2_with fail
  rw [rounds_succ]
  go_wp2_with (first|(go_at_call 224;refine (yuv _ _ _ _ _ (by omega) (by omega)).mono ?_;rintro e wz ⟨rfl,hbz⟩))
  go_ret2
  refine ⟨?_,Below.trans (B3.setCell ?_ _) (hbz.mono ?_)⟩
  ·rw [HR.out,hlen.out,show p+(1+A.fl.length+B.fl.length+C.fl.length)=q3 by have e1:=HQ1.out;have e3:=HQ2.out;have e4:=HQ3.out;omega];rfl
  ·first|(simp;done)|(simp;omega)
  ·simp;omega
theorem read_any (ev kv:Value) (l:List Tm) (kinds:List Int) (hl:l.length≤1000) (E:Ex):E.ok→(∀ t∈E.fl,yxu kinds.length t=true)→yjg ev kv l kinds E:=by
 induction E with
 | lf t=>intro h ha;exact read_leaf ev kv l kinds t hl h (ha t (by simp [Ex.fl]))
 | un t a iha=>intro h ha;exact read_un ev kv l kinds t a hl h.1 (iha h.2 fun t ht=>ha t (by simp [Ex.fl,ht]))
 | bi t a b iha ihb=>intro h ha;exact read_bi ev kv l kinds t a b hl h.1 (iha h.2.1 fun t ht=>ha t (by simp [Ex.fl,ht])) (ihb h.2.2 fun t ht=>ha t (by simp [Ex.fl,ht]))
 | tr t a b c iha ihb ihc=>intro h ha;exact read_tr ev kv l kinds t a b c hl h.1 (iha h.2.1 fun t ht=>ha t (by simp [Ex.fl,ht])) (ihb h.2.2.1 fun t ht=>ha t (by simp [Ex.fl,ht])) (ihc h.2.2.2 fun t ht=>ha t (by simp [Ex.fl,ht]))
end
section
open Go.RowKit
theorem xal (ev kv:Value) (l:List Tm) (kinds:List Int) (bound:Bool) (E:Ex) (w:World) (hl:l.length≤1000) (ho:Hid E.ok) (ha:Hid (∀ t∈l,yxu kinds.length t=true)) (hf:Hid (E.fl=l)) (ht:yfs w ev l) (hk:yvd .i64 w kv kinds) :
  Calls Tryz.prog 175 #[.agg #[ev,kv],.int .i64 0,.bool bound] w fun e w'=>e=.returned (.tuple #[.int .i64 (ty kinds bound E),.int .i64 l.length])∧Below w.heap.size w w':=
 (read_any ev kv l kinds hl E ho.out (by rw [hf.out];exact ha.out) 0 [] bound w (by simp [hf.out]) ht hk).mono fun e w' ⟨he,hb⟩=>⟨by rw [he,Nat.zero_add,hf.out],hb⟩
theorem kindsB_bad {kinds:List Int} (k:Nat) (hk:k < kinds.length) (h:ywh kinds[k]=false):yij kinds=false:=by
 unfold yij
 rw [List.all_eq_false]
 exact ⟨kinds[k],List.getElem_mem hk,by unfold ywh at h;simp [h]⟩
theorem kindsB_step {kinds:List Int} (k:Nat) (hk:k < kinds.length) (h:yij (kinds.take k)=true) (hw:ywh kinds[k]=true):yij (kinds.take (k+1))=true:=by
 rw [List.take_succ_eq_append_getElem hk]
 unfold yij at *
 rw [List.all_append,h]
 unfold ywh at hw
 simpa using hw
def zxv (l:List Tm) (kinds:List Int) (bound:Bool) (w:World) (e:Ending) (w':World):Prop:=
 e=.returned (.tuple #[.int .i64 (ofF l kinds bound).1,.int .i64 (ofF l kinds bound).2])∧Below w.heap.size w w'
theorem zco {l:List Tm} {kinds:List Int} {bound:Bool} {w w':World} {a b:Int} (h:ofF l kinds bound=(a,b)) (hb:Below w.heap.size w w'):zxv l kinds bound w (.returned (.tuple #[.int .i64 a,.int .i64 b])) w':=by
 unfold zxv;rw [h];exact ⟨rfl,hb⟩
set_option maxHeartbeats 4000000 in
theorem of_any (ev kv:Value) (l:List Tm) (kinds:List Int) (bound:Bool) (w:World) (hl:l.length≤1000) (hv:Hid (yfs w ev l)) (hk:Hid (yvd .i64 w kv kinds)) :
  Calls Tryz.prog 113 #[ev,kv,.bool bound] w (zxv l kinds bound w):=by
 obtain ⟨a0,cap0,rfl,i1,i2,i3,i4⟩:=hk.out.open
 have HC:=Lib.hid i4
 obtain ⟨a1,cap1,rfl,_,_,j3⟩:=hv.out.open
 clear i3 i4 j3
 by_cases h6:6 < kinds.length
 ·have H:=Lib.hid (zoa l kinds bound h6)
  go_enter Tryz.func113,Tryz.ntmps113
  go_wp2_with fail
  go_ret2
  exact zco H.out (Below.refl _ _)
 have b6:decide (6 < kinds.length)=false:=by simp;omega
 have b6':decide (6 < (kinds.length:Int))=false:=by simp;omega
 cases hval:yed l kinds.length with
 | false=>
  have H:=Lib.hid (yzk l kinds bound hval)
  go_enter Tryz.func113,Tryz.ntmps113
  go_wp2_with fail
  go_loop [9,18] (fun _ i=>∃ k:Nat,k≤kinds.length∧i=.int .i64 k) (fun _ i=>kinds.length - (intOf i).toNat)
  case atStart=>exact ⟨0,by omega,rfl⟩
  case round=>
   obtain ⟨k,hkl,rfl⟩:=hrel
   by_cases hlt:k < kinds.length
   ·obtain ⟨g,o,rfl,hg,hc⟩:=HC.out (by omega)
    have c0:=hc k _ (List.getElem?_eq_getElem hlt)
    clear hc
    rcases Bool.eq_false_or_eq_true (ywh kinds[k]) with hw|hw
    ·go_wp2_with (go_at_call 174;refine (ycx _ _).mono ?_;rintro e w1 ⟨rfl,rfl⟩)
     exact ⟨⟨k+1,by omega,by go_num⟩,by simp [intOf];omega⟩
    ·go_wp2_with (go_at_call 174;refine (ycx _ _).mono ?_;rintro e w1 ⟨rfl,rfl⟩)
     go_ret2
     exact zco H.out (Below.refl _ _)
   ·go_wp2_with (go_at_call 112;refine (yif _ l _ _ hl hv).mono ?_;rintro e w1 ⟨rfl,hb1⟩)
    go_ret2
    exact zco H.out hb1
 | true=>
  obtain ⟨E,hp,ho,hf,hlen,harg,_,_⟩:=yri hval
  have HO:=Lib.hid ho
  have HF:=Lib.hid hf
  have HA:=Lib.hid (List.all_eq_true.1 harg)
  have HP:=Lib.hid hp
  have HV:=Lib.hid hval
  clear ho hf harg hp
  go_enter Tryz.func113,Tryz.ntmps113
  go_wp2_with fail
  go_loop [9,18] (fun _ i=>∃ k:Nat,k≤kinds.length∧i=.int .i64 k∧Hid (yij (kinds.take k)=true)) (fun _ i=>kinds.length - (intOf i).toNat)
  case atStart=>exact ⟨0,by omega,rfl,rfl⟩
  case round=>
   obtain ⟨k,hkl,rfl,hall⟩:=hrel
   by_cases hlt:k < kinds.length
   ·obtain ⟨g,o,rfl,hg,hc⟩:=HC.out (by omega)
    have c0:=hc k _ (List.getElem?_eq_getElem hlt)
    clear hc
    rcases Bool.eq_false_or_eq_true (ywh kinds[k]) with hw|hw
    ·have HN:=Lib.hid (kindsB_step k hlt hall.out hw)
     go_wp2_with (go_at_call 174;refine (ycx _ _).mono ?_;rintro e w1 ⟨rfl,rfl⟩)
     exact ⟨⟨k+1,by omega,by go_num,HN⟩,by simp [intOf];omega⟩
    ·have HN:=Lib.hid (zie l kinds bound (kindsB_bad k hlt hw))
     go_wp2_with (go_at_call 174;refine (ycx _ _).mono ?_;rintro e w1 ⟨rfl,rfl⟩)
     go_ret2
     exact zco HN.out (Below.refl _ _)
   ·have hkk:=hall.out
    rw [List.take_of_length_le (by omega)] at hkk
    have HN:=Lib.hid (zwt l kinds bound E h6 hkk HV.out HP.out)
    clear hkk
    by_cases hz:ty kinds bound E=0
    ·have hz':(ty kinds bound E == 0)=true:=by simp [hz]
     have HZ:=Lib.hid hz
     clear hz
     go_wp2_with (go_at_call 112;refine (yif _ l _ _ hl hv).mono ?_;rintro e w1 ⟨rfl,hb1⟩)
     refine (xal _ _ l kinds bound E _ hl HO HA HF (by exact hv.out.below (hb1.alloc (by have:=hb1.size;omega) _)) (by exact hk.out.below (hb1.alloc (by have:=hb1.size;omega) _))).mono ?_
     rintro e w2 ⟨rfl,hb2⟩
     have hs1:=hb1.size
     go_wp2_with fail
     go_ret2
     exact zco (by rw [HN.out,if_pos HZ.out]) ((hb1.alloc hs1 _).trans (hb2.mono (by simp;omega)))
    ·have hz':(ty kinds bound E == 0)=false:=by simp [hz]
     go_wp2_with (go_at_call 112;refine (yif _ l _ _ hl hv).mono ?_;rintro e w1 ⟨rfl,hb1⟩)
     refine (xal _ _ l kinds bound E _ hl HO HA HF (by exact hv.out.below (hb1.alloc (by have:=hb1.size;omega) _)) (by exact hk.out.below (hb1.alloc (by have:=hb1.size;omega) _))).mono ?_
     rintro e w2 ⟨rfl,hb2⟩
     have hs1:=hb1.size
     go_wp2_with fail
     go_ret2
     exact zco (by rw [HN.out,if_neg hz]) ((hb1.alloc hs1 _).trans (hb2.mono (by simp;omega)))
end
section
open Go.RowKit
theorem zvq (ev kv:Value) (l:List Tm) (kinds:List Int) (bound:Bool) (a b:Int) (w:World) (hl:l.length≤1000) (hv:yfs w ev l) (hk:yvd .i64 w kv kinds) (h:ofF l kinds bound=(a,b)) :
  Calls Tryz.prog 113 #[ev,kv,.bool bound] w fun e w'=>e=.returned (.tuple #[.int .i64 a,.int .i64 b])∧Below w.heap.size w w':=
 (of_any ev kv l kinds bound w hl hv hk).mono fun e w' ⟨he,hb⟩=>⟨by rw [he,h],hb⟩
end
end Go.Proofs.YtfhejdcijbgikaaGreatDoor
