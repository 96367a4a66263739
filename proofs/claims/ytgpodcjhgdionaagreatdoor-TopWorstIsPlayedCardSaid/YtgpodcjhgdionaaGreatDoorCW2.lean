/- Part 2 of the texts under TopWorstIsPlayed. -/
import Derived.Below
import Derived.Still
import Derived.Laws.MakeOwn
import Derived.RangeFuncRecord
import Derived.RangeFuncLeaves
import Derived.OrdersIn
import Derived.Test.YtgpodcjhgdionaaGreatDoorCW1
set_option linter.unusedVariables false
namespace Go.Proofs.YtgpodcjhgdionaaGreatDoor
open Go.Proofs.Tryz
variable{w w':World}{ok0 ok ok':Nat->Prop}{x:Operand}{P:Program}{id n t i b N g size:Nat}{u:Value}{l:List Oper}{Q':Exit->Act->World->Prop}{a:Act}{ag ea:Bool}{ez:List Value}{lf:Oper->Bool}{o:Oper}{rs:List ResultVar}{k:IntKind}{f:FuncId}{dst:Option Tmp}{rd:Option Nat}{ty:TypeId}{c:Code}{op:Op}{fn:Func}
section
open Go.RowKit
inductive AV where
 | v (x:Value)
 | sl (size:Nat) (rows:List (List AV))
 | dp (row:List AV) (off:Nat)
 | lp (id off:Nat)
 | ls (id size len:Nat)
 | agg (cs:List AV)
 | tup (cs:List AV)
 | fn (f:Nat) (caps:List AV)
 | fm (f:Nat) (first:List AV)
 | mp (id:Nat)
 | mv (es:List (Value × Value))
 | one
 | any
abbrev Live:=Nat->Option (Option Nat × Nat)
def xnc(size len n:Nat)(x:Value):Option Nat->Prop
 | some b=>∃ cap,x=.slice (some ⟨b,0,none⟩) len cap/\len<=cap/\cap<=maxLen/\cap * size=n
 | none=>x=.slice none 0 0/\len=0
def yeb:AV->Bool
 | .v x=>x.oneCell'
 | .agg _=>false
 | .tup _=>false
 | .any=>false
 | _=>true
def xim(w:World)(b:Nat)(es:List (Value × Value)):Prop:=∃ en clock,w.heap[b]?=some (.map en clock)/\en.toList.map (fun e=>(e.key,e.val))=es/\(en.toList.map (·.born)).Nodup/\∀ e∈en.toList,e.born < clock
def ytc(ok:Nat->Prop)(w:World)(r:Nat)(es left:List (Value × Value))(cur:Option (Value × Value)):Prop:=
 ∃ (b:Nat) (en:Array MapEntry) (clock:Nat) (seen:Array Nat) (st:Nat),ok b/\w.heap[b]?=some (.map en clock)/\en.toList.map (fun e=>(e.key,e.val))=es/\(en.toList.map (·.born)).Nodup/\(∀ e∈en.toList,e.born < clock)/\w.heap[r]?=some (.mapIter (some b) clock seen st)/\clock<=st /\
  List.Perm left ((en.toList.filter fun e=>!seen.contains e.born).map fun e=>(e.key,e.val))/\∀ p,cur=some p->∃ (e:MapEntry) (seen':Array Nat),e∈en.toList/\(e.key,e.val)=p/\seen=seen'.push e.born/\st=clock
inductive Rel (ok:Nat->Prop) (w:World):Live->AV->Value->Prop
 | v {lv:Live} (x:Value):Rel ok w lv (.v x) x
 | any {lv:Live} (x:Value):Rel ok w lv .any x
 | one {lv:Live} (x:Value) (h1:x.oneCell'=true):Rel ok w lv .one x
 | sl {lv:Live} {size:Nat} {rows:List (List AV)} (a:Option Addr) (cap:Nat) (u:Nat->Nat->Value) (g o:Nat) (hn:rows.length<=cap) (hc:cap<=maxLen) (ha:a=none->cap=0)
   (hr:∀ row∈rows,row.length=size) (hg:rows≠[]->a=some ⟨g,o,none⟩/\ok g)
   (hcell:∀ (i j:Nat) (row:List AV) (c:AV),rows[i]?=some row->row[j]?=some c->w.cell? ⟨g,o+i * size+j,none⟩=some (u i j)/\yeb c=true)
   (hrel:∀ (i j:Nat) (row:List AV) (c:AV),rows[i]?=some row->row[j]?=some c->Rel ok w (fun _=>none) c (u i j)):Rel ok w lv (.sl size rows) (.slice a rows.length cap)
 | dp {lv:Live} {row:List AV} {off:Nat} (g o:Nat) (u:Nat->Value) (hg:ok g)
   (hcell:∀ (j:Nat) (c:AV),row[j]?=some c->w.cell? ⟨g,o+j,none⟩=some (u j)/\yeb c=true)
   (hrel:∀ (j:Nat) (c:AV),row[j]?=some c->Rel ok w (fun _=>none) c (u j)):Rel ok w lv (.dp row off) (.pointer (some ⟨g,o+off,none⟩))
 | lp {lv:Live} {id off:Nat} (x:Value) (h1:x.oneCell'=true) (h:∀ b n,lv id=some (some b,n)->x=.pointer (some ⟨b,off,none⟩)):Rel ok w lv (.lp id off) x
 | ls {lv:Live} {id size len:Nat} (x:Value) (h1:x.oneCell'=true) (h:∀ b n,lv id=some (b,n)->xnc size len n x b):Rel ok w lv (.ls id size len) x
 | agg {lv:Live} {cs:List AV} (vs:List Value) (hl:vs.length=cs.length) (hc:∀ c∈cs,yeb c=true) (hr:∀ (i:Nat) (c:AV) (u:Value),cs[i]?=some c->vs[i]?=some u->Rel ok w lv c u):Rel ok w lv (.agg cs) (.agg vs.toArray)
 | tup {lv:Live} {cs:List AV} (vs:List Value) (hl:vs.length=cs.length) (hr:∀ (i:Nat) (c:AV) (u:Value),cs[i]?=some c->vs[i]?=some u->Rel ok w lv c u):Rel ok w lv (.tup cs) (.tuple vs.toArray)
 | fn {lv:Live} {f:Nat} {cs:List AV} (vs:List Value) (hl:vs.length=cs.length) (hr:∀ (i:Nat) (c:AV) (u:Value),cs[i]?=some c->vs[i]?=some u->Rel ok w lv c u):Rel ok w lv (.fn f cs) (.func (.func f) #[] vs.toArray)
 | fm {lv:Live} {f:Nat} {cs:List AV} (vs:List Value) (hl:vs.length=cs.length) (hr:∀ (i:Nat) (c:AV) (u:Value),cs[i]?=some c->vs[i]?=some u->Rel ok w lv c u):Rel ok w lv (.fm f cs) (.func (.func f) vs.toArray #[])
 | mp {lv:Live} {id:Nat} (x:Value) (h1:x.oneCell'=true) (h:∀ b n,lv id=some (some b,n)->x=.map (some b)):Rel ok w lv (.mp id) x
 | mv {lv:Live} {es:List (Value × Value)} (b:Nat) (hg:ok b) (h:xim w b es):Rel ok w lv (.mv es) (.map (some b))
theorem Rel.oneCell{lv:Live}{x:AV}(h:Rel ok w lv x u)(hc:yeb x=true):u.oneCell'=true:=by
 cases h <;> simp_all[yeb,Value.oneCell']
def xlt:Obj->Bool
 | .deferred _=>true
 | _=>false
def ytd(w w':World)(g:Nat):Prop:=∀ o,w.heap[g]?=some o->xlt o=false->w'.heap[g]?=some o
theorem ytd.of_eq(h:w'.heap[g]?=w.heap[g]?):ytd w w' g:=fun o ho _=>h.trans ho
theorem ytd.cell{o:Nat}{v:Value}(h:ytd w w' g)(hc:w.cell? ⟨g,o,none⟩=some v):w'.cell? ⟨g,o,none⟩=some v:=by
 cases hb:w.heap[g]? with
 | none=>simp[World.cell?,hb]at hc
 | some ob=>
  have hd:xlt ob=false:=by cases ob <;> first|rfl|(simp[World.cell?,hb]at hc)
  exact(World.cell?_of_block (w:=w) (by rw[h ob hb hd,hb])).trans hc
theorem ytc.keepD{r:Nat}{es left:List (Value × Value)}{cur:Option (Value × Value)}(h:ytc ok w r es left cur)(hk:∀ g,ok g->ok' g/\ytd w w' g)(hr:w'.heap[r]?=w.heap[r]?):ytc ok' w' r es left cur:=by
 obtain⟨b,en,clock,seen,st,h2,h3,h4,h5,h6,h7,h8⟩:=h;exact⟨b,en,clock,seen,st,(hk b h2).1,(hk b h2).2 _ h3 rfl,h4,h5,h6,by rw[hr];exact h7,h8⟩
theorem ytc.keep{r:Nat}{es left:List (Value × Value)}{cur:Option (Value × Value)}(h:ytc ok w r es left cur)(hk:∀ g,ok g->ok' g/\w'.heap[g]?=w.heap[g]?)(hr:w'.heap[r]?=w.heap[r]?):ytc ok' w' r es left cur:=
 h.keepD (fun g hg=>⟨(hk g hg).1,.of_eq (hk g hg).2⟩) hr
theorem Rel.keepD{lv:Live}{x:AV}(h:Rel ok w lv x u)(hk:∀ g,ok g->ok' g/\ytd w w' g):Rel ok' w' lv x u:=by
 induction h with
 | v x=>exact .v x
 | any x=>exact .any x
 | one x h=>exact .one x h
 | @sl lv size rows a cap u g o hn hc ha hr hg hcell hrel ih=>
  refine .sl a cap u g o hn hc ha hr (fun h=>⟨(hg h).1,(hk _ (hg h).2).1⟩) (fun i j row c h1 h2=>?_) ih;have h3:=hcell i j row c h1 h2;have hne:rows≠[]:=by intro h;simp[h]at h1
  exact⟨(hk g (hg hne).2).2.cell h3.1,h3.2⟩
 | @dp lv row off g o u hg hcell hrel ih=>
  exact .dp g o u (hk g hg).1 (fun j c h=>⟨(hk g hg).2.cell (hcell j c h).1,(hcell j c h).2⟩) ih
 | lp x h1 h=>exact .lp x h1 h
 | ls x h1 h=>exact .ls x h1 h
 | agg vs hl hc hr ih=>exact .agg vs hl hc ih
 | tup vs hl hr ih=>exact .tup vs hl ih
 | fn vs hl hr ih=>exact .fn vs hl ih
 | fm vs hl hr ih=>exact .fm vs hl ih
 | mp x h1 h=>exact .mp x h1 h
 | mv b hg h=>exact .mv b (hk b hg).1 (by obtain⟨en,c,h1,h2⟩:=h;exact⟨en,c,(hk b hg).2 _ h1 rfl,h2⟩)
theorem Rel.keep{lv:Live}{x:AV}(h:Rel ok w lv x u)(hk:∀ g,ok g->ok' g/\w'.heap[g]?=w.heap[g]?):Rel ok' w' lv x u:=
 h.keepD fun g hg=>⟨(hk g hg).1,.of_eq (hk g hg).2⟩
def ment(i:Nat):AV->Bool
 | .lp id _=>Nat.beq id i
 | .ls id _ _=>Nat.beq id i
 | .mp id=>Nat.beq id i
 | .agg cs=>mentL cs
 | .tup cs=>mentL cs
 | .fn _ cs=>mentL cs
 | .fm _ cs=>mentL cs
 | _=>false
 where mentL:List AV->Bool
 | []=>false
 | c::cs=>ment i c || mentL cs
theorem ygj:∀ {cs:List AV} {j:Nat} {c:AV},cs[j]?=some c->ment.mentL i cs=false->ment i c=false
 | [],j,c,h,_=>by simp at h
 | d::cs,0,c,h,hm=>by
  simp at h;subst h;simp only[ment.mentL,qea]at hm;exact hm.1
 | d::cs,j+1,c,h,hm=>by
  simp only[ment.mentL,qea]at hm;exact ygj (by simpa using h) hm.2
theorem Rel.relive{lv:Live}{x:AV}(h:Rel ok w lv x u):∀ {lv':Live},(∀ id b n,lv' id=some (b,n)->ment id x=true->lv id=some (b,n))->Rel ok w lv' x u:=by
 induction h with
 | v x=>intro lv' hk;exact .v x
 | any x=>intro lv' hk;exact .any x
 | one x h=>intro lv' hk;exact .one x h
 | sl a cap u g o hn hc ha hr hg hcell hrel ih=>intro lv' hk;exact .sl a cap u g o hn hc ha hr hg hcell hrel
 | dp g o u hg hcell hrel ih=>intro lv' hk;exact .dp g o u hg hcell hrel
 | @lp lv id off x h1 h=>intro lv' hk;exact .lp x h1 fun b n hb=>h b n (hk _ b n hb (by simp[ment]))
 | ls x h1 h=>intro lv' hk;exact .ls x h1 fun b n hb=>h b n (hk _ b n hb (by simp[ment]))
 | mv b hg h=>intro lv' hk;exact .mv b hg h
 | mp x h1 h=>intro lv' hk;exact .mp x h1 fun b n hb=>h b n (hk _ b n hb (by simp[ment]))
 | @agg lv cs vs hl hc hr ih=>
  intro lv' hk;refine .agg vs hl hc fun i c u h1 h2=>ih i c u h1 h2 fun id b n hb hm=>hk id b n hb ?_;simp only[ment];cases hq:ment.mentL id cs with
  | true=>rfl
  | false=>rw[ygj h1 hq]at hm;exact hm
 | @tup lv cs vs hl hr ih=>
  intro lv' hk;refine .tup vs hl fun i c u h1 h2=>ih i c u h1 h2 fun id b n hb hm=>hk id b n hb ?_;simp only[ment];cases hq:ment.mentL id cs with
  | true=>rfl
  | false=>rw[ygj h1 hq]at hm;exact hm
 | @fn lv f cs vs hl hr ih=>
  intro lv' hk;refine .fn vs hl fun i c u h1 h2=>ih i c u h1 h2 fun id b n hb hm=>hk id b n hb ?_;simp only[ment];cases hq:ment.mentL id cs with
  | true=>rfl
  | false=>rw[ygj h1 hq]at hm;exact hm
 | @fm lv f cs vs hl hr ih=>
  intro lv' hk;refine .fm vs hl fun i c u h1 h2=>ih i c u h1 h2 fun id b n hb hm=>hk id b n hb ?_;simp only[ment];cases hq:ment.mentL id cs with
  | true=>rfl
  | false=>rw[ygj h1 hq]at hm;exact hm
def yas:AV->Bool
 | .lp _ _=>false
 | .ls _ _ _=>false
 | .mp _=>false
 | .agg cs=>pureL cs
 | .tup cs=>pureL cs
 | .fn _ cs=>pureL cs
 | .fm _ cs=>pureL cs
 | _=>true
 where pureL:List AV->Bool
 | []=>true
 | c::cs=>yas c && pureL cs
theorem yas.ment:∀ {x:AV},yas x=true->ment i x=false
 | .v _,_=>rfl
 | .sl _ _,_=>rfl
 | .dp _ _,_=>rfl
 | .lp _ _,h=>by simp[yas]at h
 | .ls _ _ _,h=>by simp[yas]at h
 | .mp _,h=>by simp[yas]at h
 | .any,_=>rfl
 | .one,_=>rfl
 | .mv _,_=>rfl
 | .agg cs,h=>rows (cs:=cs) h
 | .tup cs,h=>rows (cs:=cs) h
 | .fn _ cs,h=>rows (cs:=cs) h
 | .fm _ cs,h=>rows (cs:=cs) h
 where rows:∀ {cs:List AV},yas.pureL cs=true->ment.mentL i cs=false
 | [],_=>rfl
 | c::cs,h=>by
  simp only[yas.pureL,qad]at h;simp only[ment.mentL,qea];exact⟨yas.ment h.1,rows h.2⟩
theorem yas.pureL.ment{cs:List AV}(h:yas.pureL cs=true):ment.mentL i cs=false:=yas.ment.rows h
inductive LObj where
 | cells (xs:List AV)
 | vec (xs:List AV)
 | map (es:List (Value × Value))
 | iter (es left:List (Value × Value)) (cur:Option (Value × Value))
 | siter (s:ByteArray) (pos:Nat)
 | tcells (e:TypeId) (xs:List AV)
 | tvec (e:TypeId) (xs:List AV)
 | mcells (xs:List AV)
def isC:LObj->Bool
 | .cells _=>true
 | .tcells _ _=>true
 | _=>false
structure Bse where
 w:World
 lent:Nat->Prop
 pin:Nat->Option Nat
 rd:Option Nat
 dl:List Deferred
 gv:Nat->Value
def xgp(w:World):Bse:=⟨w,fun _=>False,fun _=>none,none,[],fun _=>undef⟩
def Bse.mine(B:Bse)(g:Nat):Prop:=B.lent g\/B.w.heap.size<=g
structure Based (B:Bse) (w:World):Prop where
 os:w.os=B.w.os
 tape:w.tape=B.w.tape
 output:w.output=B.w.output
 size:B.w.heap.size<=w.heap.size
 block:∀ k,k < B.w.heap.size->¬ B.lent k->w.heap[k]?=B.w.heap[k]?
 glob:zaw w
 gsize:GN<=B.w.heap.size
 lentG:∀ k,B.lent k->GN<=k
 rdok:∀ l,B.rd=some l->(∃ r,B.w.heap[l]?=some (.loop r))/\¬ B.lent l
theorem Based.mineG{B:Bse}(h:Based B w)(hg:B.mine g):GN<=g:=by
 rcases hg with hg|hg
 .exact h.lentG g hg
 exact qbp h.gsize hg
theorem Based.grow{B:Bse}(h:Based B w)(hb:Below w.heap.size w w'):Based B w':=
 ⟨hb.os.trans h.os,hb.tape.trans h.tape,hb.output.trans h.output,qbp h.size hb.size,fun k hk hl=>(hb.block k (qbg hk h.size)).trans (h.block k hk hl),h.glob.keep (fun k hk=>hb.block k (qbg hk (qbp h.gsize h.size))) hb.size,h.gsize,h.lentG,h.rdok⟩
theorem Based.written{B:Bse}(h:Based B w)(hb:B.mine b)(hos:w'.os=w.os)(htp:w'.tape=w.tape)(hout:w'.output=w.output)(hsz:w'.heap.size=w.heap.size)(hoth:∀ g,g≠b->w'.heap[g]?=w.heap[g]?):Based B w':=
 ⟨hos.trans h.os,htp.trans h.tape,hout.trans h.output,by rw[hsz];exact h.size,fun k hk hl=>(hoth k (by rintro rfl;rcases hb with hb|hb;exact hl hb;omega)).trans (h.block k hk hl),h.glob.keep (fun k hk=>hoth k (by have:=h.mineG hb;omega)) (by rw[hsz];exact qbf _),h.gsize,h.lentG,h.rdok⟩
theorem Based.start(hg:zaw w):Based (xgp w) w:=⟨rfl,rfl,rfl,qbf _,fun _ _ _=>rfl,hg,hg.size,fun _ h=>h.elim,fun l h=>by cases h⟩
theorem Based.below(h:Based (xgp w) w'):Below w.heap.size w w':=⟨h.os,h.tape,h.output,h.size,fun k hk=>h.block k hk (fun h=>h)⟩
def yba(B:Bse)(ok0:Nat->Prop)(lv:Live)(w:World)(g:Nat):Prop:=(ok0 g\/B.mine g)/\g < w.heap.size/\∀ id b n,lv id=some (some b,n)->b≠g
def yhd(ok:Nat->Prop)(lv:Live)(w:World)(b n:Nat)(xs:List AV):Prop:=
 ∃ c e,w.heap[b]?=some (.cells c e (0,0))/\c.size=n/\xs.length<=n/\(∀ x∈xs,yeb x=true)/\∀ (j:Nat) (x:AV) (u:Value),xs[j]?=some x->c[j]?=some u->Rel ok w lv x u
def yho(ok:Nat->Prop)(lv:Live)(w:World)(b n:Nat):LObj->Prop
 | .cells xs=>yhd ok lv w b n xs
 | .vec xs=>yhd ok lv w b n xs/\∀ x∈xs,yas x=true
 | .map es=>xim w b es
 | .iter es left cur=>ytc ok w b es left cur
 | .siter s pos=>w.heap[b]?=some (.stringIter s pos)
 | .tcells e xs=>yhd ok lv w b n xs/\w.shape? b=some (e,xs.length)
 | .tvec e xs=>yhd ok lv w b n xs/\(∀ x∈xs,yas x=true)/\w.shape? b=some (e,n)
 | .mcells xs=>yhd ok lv w b n xs
theorem yjr(h:w'.heap[b]?=w.heap[b]?):w'.shape? b=w.shape? b:=by simp[World.shape?,h]
def yge(B:Bse)(ok:Nat->Prop)(lv:Live)(w:World)(n:Nat)(x:LObj):Option Nat->Prop
 | some b=>B.mine b/\b < w.heap.size/\yho ok lv w b n x
 | none=>x=.vec []\/∃ e,x=.tvec e []
structure Inv (B:Bse) (ok0:Nat->Prop) (h:Nat->Option LObj) (lv:Live) (w:World):Prop where
 base:Based B w
 ok0lt:∀ g,ok0 g->g < B.w.heap.size
 dom:∀ id,h id=none->lv id=none
 inj:∀ i j b n m,lv i=some (some b,n)->lv j=some (some b,m)->i=j
 obj:∀ id x,h id=some x->∃ b n,lv id=some (b,n)/\yge B (yba B ok0 lv w) lv w n x b
theorem yba.lt{B:Bse}{lv:Live}(h:yba B ok0 lv w g):g < w.heap.size:=h.2.1
theorem yhd.keepD{lv:Live}{xs:List AV}(h:yhd ok lv w b n xs)(hk:∀ g,ok g->ok' g/\ytd w w' g)(hb:w'.heap[b]?=w.heap[b]?):yhd ok' lv w' b n xs:=by
 obtain⟨c,e,h1,h2,h3,h4,h5⟩:=h;exact⟨c,e,by rw[hb];exact h1,h2,h3,h4,fun j x u hx hu=>(h5 j x u hx hu).keepD hk⟩
theorem yhd.keep{lv:Live}{xs:List AV}(h:yhd ok lv w b n xs)(hk:∀ g,ok g->ok' g/\w'.heap[g]?=w.heap[g]?)(hb:w'.heap[b]?=w.heap[b]?):yhd ok' lv w' b n xs:=
 h.keepD (fun g hg=>⟨(hk g hg).1,.of_eq (hk g hg).2⟩) hb
theorem yhd.relive{lv lv':Live}{xs:List AV}(h:yhd ok lv w b n xs)(hk:∀ x∈xs,∀ id b n,lv' id=some (b,n)->ment id x=true->lv id=some (b,n)):yhd ok lv' w b n xs:=by
 obtain⟨c,e,h1,h2,h3,h4,h5⟩:=h;exact⟨c,e,h1,h2,h3,h4,fun j x u hx hu=>(h5 j x u hx hu).relive (hk x (qab hx))⟩
theorem yho.keepD{lv:Live}{x:LObj}(h:yho ok lv w b n x)(hk:∀ g,ok g->ok' g/\ytd w w' g)(hb:w'.heap[b]?=w.heap[b]?):yho ok' lv w' b n x:=by
 cases x with
 | cells xs=>exact yhd.keepD h hk hb
 | vec xs=>exact⟨yhd.keepD h.1 hk hb,h.2⟩
 | map es=>
  obtain⟨en,clock,h1,h2⟩:=h;exact⟨en,clock,by rw[hb];exact h1,h2⟩
 | iter es left cur=>exact ytc.keepD h hk hb
 | siter s pos=>exact hb.trans h
 | tcells e xs=>exact⟨yhd.keepD h.1 hk hb,(yjr hb).trans h.2⟩
 | tvec e xs=>exact⟨yhd.keepD h.1 hk hb,h.2.1,(yjr hb).trans h.2.2⟩
 | mcells xs=>exact yhd.keepD h hk hb
theorem yho.keep{lv:Live}{x:LObj}(h:yho ok lv w b n x)(hk:∀ g,ok g->ok' g/\w'.heap[g]?=w.heap[g]?)(hb:w'.heap[b]?=w.heap[b]?):yho ok' lv w' b n x:=
 h.keepD (fun g hg=>⟨(hk g hg).1,.of_eq (hk g hg).2⟩) hb
def yew(i:Nat):LObj->Bool
 | .cells xs=>ment.mentL i xs
 | .vec _=>false
 | .map _=>false
 | .iter _ _ _=>false
 | .siter _ _=>false
 | .tcells _ xs=>ment.mentL i xs
 | .tvec _ _=>false
 | .mcells xs=>ment.mentL i xs
theorem ymu{cs:List AV}{c:AV}(h:c∈cs)(hm:ment i c=true):ment.mentL i cs=true:=by
 cases hq:ment.mentL i cs with
 | true=>rfl
 | false=>
  obtain⟨j,hj⟩:=qao h;rw[ygj hj hq]at hm;cases hm
theorem yho.relive{lv lv':Live}{x:LObj}(h:yho ok lv w b n x)(hk:∀ id b n,lv' id=some (b,n)->yew id x=true->lv id=some (b,n)):yho ok lv' w b n x:=by
 cases x with
 | cells xs=>exact yhd.relive h fun x hx id b n hb hm=>hk id b n hb (ymu hx hm)
 | vec xs=>exact⟨yhd.relive h.1 fun x hx id b n hb hm=>(by rw[yas.ment (h.2 x hx)]at hm;cases hm),h.2⟩
 | map es=>exact h
 | iter es left cur=>exact h
 | siter s pos=>exact h
 | tcells e xs=>exact⟨yhd.relive h.1 fun x hx id b n hb hm=>hk id b n hb (ymu hx hm),h.2⟩
 | tvec e xs=>exact⟨yhd.relive h.1 fun x hx id b n hb hm=>(by rw[yas.ment (h.2.1 x hx)]at hm;cases hm),h.2⟩
 | mcells xs=>exact yhd.relive h fun x hx id b n hb hm=>hk id b n hb (ymu hx hm)
theorem yba.grow{B:Bse}{lv:Live}(hb:Below w.heap.size w w'):∀ g,yba B ok0 lv w g->yba B ok0 lv w' g/\w'.heap[g]?=w.heap[g]?:=
 fun g h=>⟨⟨h.1,qbg h.2.1 hb.size,h.2.2⟩,hb.block g h.2.1⟩
theorem Inv.grow{B:Bse}{h:Nat->Option LObj}{lv:Live}(hi:Inv B ok0 h lv w)(hb:Below w.heap.size w w'):Inv B ok0 h lv w':=by
 refine⟨hi.base.grow hb,hi.ok0lt,hi.dom,hi.inj,fun id x hx=>?_⟩;obtain⟨b,n,h1,h2⟩:=hi.obj id x hx;refine⟨b,n,h1,?_⟩;cases b with
 | none=>exact h2
 | some b=>exact⟨h2.1,qbg h2.2.1 hb.size,h2.2.2.keep (yba.grow hb) (hb.block b h2.2.1)⟩
theorem Rel.grow{B:Bse}{lv:Live}{x:AV}(h:Rel (yba B ok0 lv w) w lv x u)(hb:Below w.heap.size w w'):Rel (yba B ok0 lv w') w' lv x u:=h.keep (yba.grow hb)
end
variable{lv:Live}{h:Nat->Option LObj}{xs:List AV}{B:Bse}{r v:AV}{ρ:Operand->Option AV}
section
open Go.RowKit
structure SS where
 t:Nat->Option AV
 h:Nat->Option LObj
variable{Q:SS->Prop}
def yee(t:Nat->Option AV)(d:Option Tmp)(r:AV):Nat->Option AV:=
 match d with
 | none=>t
 | some d=>fun s=>if s=d then some r else t s
def evF(t:Nat->Option AV):Operand->Option AV
 | .tmp s=>match Nat.ble 1000000 s with
  | false=>t s
  | true=>none
 | .const c=>some (.v c)
 | .global _=>none
 | .func f=>some (.fn f [])
theorem xfz{s:Nat}(h:Nat.ble n s=false):s < n:=qfr fun hl=>by rw[Nat.ble_eq_true_of_le hl]at h;cases h
def ydx(B:Bse)(a:Act)(x:Nat):Value:=if x < 1000000 then a.tmps.getD x undef else B.gv x
def zgu(B:Bse)(w:World)(l:List Deferred):Prop:=
 ∃ ms,l=ms++B.dl/\ms.Nodup/\∀ d∈ms,∃ D,d={ target:=.collected D,args:=#[] }/\w.heap[D]?=some (.deferred (some []))/\B.w.heap.size<=D
theorem zgu.same{l:List Deferred}(h:zgu B w l)(hk:∀ (g:Nat),w.heap[g]?=some (.deferred (some []))->w'.heap[g]?=some (.deferred (some []))):zgu B w' l:=by
 obtain⟨ms,h1,hn,h2⟩:=h;exact⟨ms,h1,hn,fun d hd=>let ⟨D,g1,g2,g3⟩:=h2 d hd;⟨D,g1,hk D g2,g3⟩⟩
theorem zgu.grow{l:List Deferred}(h:zgu B w l)(hb:Below w.heap.size w w'):zgu B w' l:=
 h.same fun g hg=>(hb.block g (qaz.1 hg).1).trans hg
theorem yho.notDefO{x:LObj}(h:yho ok lv w b n x){o:Obj}(he:w.heap[b]?=some o):xlt o=false:=by
 cases x with
 | cells xs=>obtain⟨c,e,h1,_⟩:=h;rw[he]at h1;cases h1;rfl
 | vec xs=>obtain⟨⟨c,e,h1,_⟩,_⟩:=h;rw[he]at h1;cases h1;rfl
 | map es=>obtain⟨en,clock,h1,_⟩:=h;rw[he]at h1;cases h1;rfl
 | iter es left cur=>obtain⟨b',en,clock,seen,st,_,_,_,_,_,h1,_⟩:=h;rw[he]at h1;cases h1;rfl
 | siter s pos=>have h1:w.heap[b]?=some (.stringIter s pos):=h;rw[he]at h1;cases h1;rfl
 | tcells e xs=>obtain⟨⟨c,e,h1,_⟩,_⟩:=h;rw[he]at h1;cases h1;rfl
 | tvec e xs=>obtain⟨⟨c,e,h1,_⟩,_⟩:=h;rw[he]at h1;cases h1;rfl
 | mcells xs=>obtain⟨c,e,h1,_⟩:=h;rw[he]at h1;cases h1;rfl
theorem yho.notDef{x:LObj}(h:yho ok lv w b n x):w.heap[b]?≠some (.deferred (some [])):=fun he=>by have:=h.notDefO he;cases this
structure Sim (B:Bse) (ok0:Nat->Prop) (N:Nat) (s:SS) (lv:Live) (a:Act) (w:World):Prop where
 inv:Inv B ok0 s.h lv w
 size:a.tmps.size=N
 frame:∀ x y,s.t x=some y->(x < N\/1000000<=x)/\Rel (yba B ok0 lv w) w lv y (ydx B a x)
 defers:zgu B w a.defers
 big:N<=1000000
 pin:∀ id b o,N<=id->s.h id=some o->isC o=true->B.pin id=some b->∃ n,lv id=some (some b,n)
theorem Sim.pin_of{s s':SS}{lv':Live}(h:Sim B ok0 N s lv a w)(hi:Inv B ok0 s'.h lv' w')(hs:∀ id b n,lv' id=some (b,n)->lv id=some (b,n))(hh:∀ id o,s'.h id=some o->isC o=true->∃ o',s.h id=some o'/\isC o'=true):
  ∀ id b o,N<=id->s'.h id=some o->isC o=true->B.pin id=some b->∃ n,lv' id=some (some b,n):=by
 intro id b o hN hx hc hb;obtain⟨o',hy,hc'⟩:=hh id o hx hc;obtain⟨n,hn⟩:=h.pin id b o' hN hy hc' hb;obtain⟨b',n',h1,_⟩:=hi.obj id _ hx;have:=hs id b' n' h1;rw[hn]at this;cases this;exact⟨n,h1⟩
theorem Sim.eval{s:SS}(h:Sim B ok0 N s lv a w){y:AV}(hx:evF s.t x=some y):Rel (yba B ok0 lv w) w lv y (a.eval x):=by
 cases x with
 | tmp s=>
  simp only[evF]at hx;split at hx
  .rename_i hb;have:=(h.frame s y hx).2
   rwa [ydx,if_pos (xfz hb)]at this
  cases hx
 | const c=>simp only[evF,Option.some.injEq]at hx;subst hx;exact .v c
 | global g=>simp[evF]at hx
 | func f=>simp only[evF,Option.some.injEq]at hx;subst hx;exact .fn [] rfl (fun i c u h=>by simp at h)
def yxs(N:Nat)(o:Oper):Prop:=∀ d,o.dst=some d->d < N
theorem Sim.put{s:SS}(h:Sim B ok0 N s lv a w){d:Option Tmp}(hd:∀ x,d=some x->x < N)(hi:Inv B ok0 s.h lv w')(hb:Below w.heap.size w w')(hu:Rel (yba B ok0 lv w') w' lv r u):Sim B ok0 N ⟨yee s.t d r,s.h⟩ lv (a.put d u) w':=by
 cases d with
 | none=>exact⟨hi,h.size,fun x y hy=>⟨(h.frame x y hy).1,(h.frame x y hy).2.grow hb⟩,h.defers.grow hb,h.big,h.pin⟩
 | some d=>
  have hdn:=hd d rfl;have hbig:=h.big;refine⟨hi,by simp[Act.put,h.size],fun x y hy=>?_,h.defers.grow hb,h.big,h.pin⟩;simp only[yee]at hy;split at hy
  .rename_i hx;subst hx;simp only[Option.some.injEq]at hy;subst hy;refine⟨.inl hdn,?_⟩;rw[ydx,if_pos (qbg hdn hbig)];simp only[Act.put];rw[show (a.tmps.setIfInBounds x u).getD x undef=u by simp[Array.getD,h.size,hdn]];exact hu
  rename_i hx;refine⟨(h.frame x y hy).1,?_⟩;have:ydx B (a.put (some d) u) x=ydx B a x:=by
   unfold ydx;split
   .simp only[Act.put,qar,qbx];rw[if_neg om]
   rfl
  rw[this];exact(h.frame x y hy).2.grow hb
def yam(ops:Array Oper)(t:Nat->Option AV)(o:Oper):Option Bool:=
 match o.guard with
 | none=>some true
 | some (j,want)=>
  match (ops[j]?).bind (·.dst)with
  | none=>none
  | some d=>match Nat.ble 1000000 d with
   | true=>none
   | false=>match t d with
    | some (.v (.bool b))=>some (b == want)
    | some (.v (.tuple _))=>some false
    | _=>none
theorem Sim.wanted{s:SS}(h:Sim B ok0 N s lv a w){ops:Array Oper}{c:Bool}(hc:yam ops s.t o=some c):Region.wanted o (yielded ops a.tmps)=c:=by
 unfold yam at hc;unfold Region.wanted;cases hg:o.guard with
 | none=>simp[hg]at hc;simpa using hc
 | some g=>
  obtain⟨j,want⟩:=g;simp only[hg]at hc ⊢;cases hd:(ops[j]?).bind (·.dst)with
  | none=>simp[hd]at hc
  | some d=>
   simp only[hd]at hc;cases hbl:Nat.ble 1000000 d with
   | true=>simp[hbl]at hc
   | false=>
   have hbl':d < 1000000:=xfz hbl;simp only[hbl]at hc;cases ht:s.t d with
   | none=>simp[ht]at hc
   | some y=>
    simp only[ht]at hc;split at hc
    .rename_i b hb;simp only[Option.some.injEq]at hb hc;subst hb;have hf:=h.frame d _ ht;have hr:=hf.2;rw[ydx,if_pos hbl']at hr;generalize hu:a.tmps.getD d undef=u at hr;cases hr;have hlt:d < a.tmps.size:=by rw[h.size];exact hf.1.resolve_right (Nat.not_le.2 hbl')
     have hget:a.tmps[d]?=some (.bool b):=by
      rw[qbk hlt];simpa[Array.getD,hlt]using hu
     simp only[yielded,hd,qej,hget];rw[<- hc];cases b <;> cases want <;> rfl
    .rename_i vs hb;simp only[Option.some.injEq]at hb hc;subst hb;have hf:=h.frame d _ ht;have hr:=hf.2;rw[ydx,if_pos hbl']at hr;generalize hu:a.tmps.getD d undef=u at hr;cases hr;have hlt:d < a.tmps.size:=by rw[h.size];exact hf.1.resolve_right (Nat.not_le.2 hbl')
     have hget:a.tmps[d]?=some (.tuple vs):=by
      rw[qbk hlt];simpa[Array.getD,hlt]using hu
     simp only[yielded,hd,qej,hget];rw[<- hc];cases want <;> rfl
    cases hc
def ybu(P:Program)(h:Nat->Option LObj)(ρ:Operand->Option AV)(op:Op)(ty:TypeId)(r:AV):Prop:=
 ∀ (B:Bse) (ok0:Nat->Prop) (lv:Live) (w:World) (a:Act) (o:Oper),o.op=op->o.type=ty->Inv B ok0 h lv w ->
  (∀ x y,x∈op.operands->ρ x=some y->Rel (yba B ok0 lv w) w lv y (a.eval x))->∀ (K:Act->World->Prop) (Q:Exit->Act->World->Prop),
  (∀ u w',Rel (yba B ok0 lv w') w' lv r u->Inv B ok0 h lv w'->Below w.heap.size w w'->K (a.put o.dst u) w')->o.wp P a w K Q
theorem ybu.congr{ρ':Operand->Option AV}(hy:ybu P h ρ op ty r)(he:∀ x∈op.operands,ρ' x=ρ x):ybu P h ρ' op ty r:=
 fun B ok0 lv w a o h1 h2 hi hx K Q hK=>hy B ok0 lv w a o h1 h2 hi (fun x y hm hxy=>hx x y hm (by rw[he x hm];exact hxy)) K Q hK
def ybp(P:Program)(N:Nat)(o:Oper)(s:SS)(R:SS->Prop):Prop:=
 ∀ (B:Bse) (ok0:Nat->Prop) (lv:Live) (a:Act) (w:World),Sim B ok0 N s lv a w->∀ (Q:Exit->Act->World->Prop),o.wp P a w (fun a' w'=>∃ s' lv',R s'/\Sim B ok0 N s' lv' a' w') Q
inductive Lex (P:Program) (N:Nat) (ops:Array Oper) (lf:Oper->Bool) (Q:SS->Prop):List Oper->SS->Prop
 | nil {s:SS} (h:Q s):Lex P N ops lf Q [] s
 | calm {o:Oper} {l:List Oper} {s:SS} (r:AV) (hw:yam ops s.t o=some true) (hd:yxs N o) (hy:ybu P s.h (evF s.t) o.op o.type r) (k:Lex P N ops lf Q l ⟨yee s.t o.dst r,s.h⟩):Lex P N ops lf Q (o::l) s
 | skip {o:Oper} {l:List Oper} {s:SS} (hw:yam ops s.t o=some false) (hd:yxs N o) (k:Lex P N ops lf Q l ⟨yee s.t o.dst (.v undef),s.h⟩):Lex P N ops lf Q (o::l) s
 | loud {o:Oper} {l:List Oper} {s:SS} (R:SS->Prop) (hl:lf o=true) (hw:yam ops s.t o=some true) (hy:ybp P N o s R) (k:∀ s',R s'->Lex P N ops lf Q l s'):Lex P N ops lf Q (o::l) s
 | split {l:List Oper} {s:SS} (d:Nat) (b:Bool) (hb:s.t d=some (.v (.bool b))) (k:∀ c,b=c->Lex P N ops lf Q l ⟨yee s.t (some d) (.v (.bool c)),s.h⟩):Lex P N ops lf Q l s
theorem ykh{t:Nat->Option AV}{d:Nat}(h:t d=some r):yee t (some d) r=t:=by
 funext s;simp only[yee];split
 .rename_i e;rw[e,h]
 rfl
theorem znn{s:SS}(hs:Sim B ok0 N s lv a w)(hd:yxs N o)(hy:ybu P s.h (evF s.t) o.op o.type r){K:Act->World->Prop}(Q:Exit->Act->World->Prop)(hK:∀ a' w',Sim B ok0 N ⟨yee s.t o.dst r,s.h⟩ lv a' w'->K a' w'):o.wp P a w K Q:=
 hy B ok0 lv w a o rfl rfl hs.inv (fun x y _ hx=>hs.eval hx) K Q fun u w' hu hi hb=>hK _ _ (hs.put hd hi hb hu)
def yow:Op->Bool
 | .defer _=>true
 | _=>false
def yht(l:List Oper):Bool:=l.all fun o=>!yow o.op
def FW(rd:Option Nat):Fence:={ Fence.wide with round:=rd }
theorem callsIn_FW{args:Array Value}{R:Ending->World->Prop}:CallsIn (FW rd) n P f args w R<->Calls P f args w R:=callsIn_wide (n:=n)
theorem rowsIn_FW{row:String}{args:Array Value}{R:Value->World->Prop}(h:Rows P row args w R):RowsIn (FW rd) n P row args w R:=by
 intro c cs _;obtain⟨v,w',r,s⟩:=h c cs;exact⟨v,w',r,(stepsIn_wide (P:=P)).2 s⟩
theorem ypa{K:Act->World->Prop}{Q:Exit->Act->World->Prop}(hd:yow o.op=false)(h:o.wp P a w K Q):o.wpIn (FW rd) n P a w K Q:=by
 refine⟨fun _ _=>trivial,?_⟩;have hsem:o.semAt (FW rd).round a.eval=execOp a.eval o:=by
  unfold Oper.semAt;cases hr:(FW rd).round with
  | none=>rfl
  | some l=>cases ho:o.op <;> first|rfl|(rw[ho]at hd;cases hd)
 rw[hsem];unfold Oper.wp at h;generalize (execOp a.eval o).run P w=r at h;unfold Oper.upon at h;split at h
 .exact h
 .exact h
 .exact h
 .exact ⟨fun hc=>(by cases hc),callsIn_FW.2 h⟩
 .exact ⟨fun hc=>(by cases hc),rowsIn_FW h⟩
 .exact h
 exact h.elim
theorem lex_ops{ops:Array Oper}(hQ:∀ s lv a w,Q s->Sim B ok0 N s lv a w->Q' .normal a w){s:SS}(hnd:∀ (i:Nat) (o:Oper),ops[i]?=some o->yow o.op=false)(h:Lex P N ops lf Q l s):∀ (k:Nat),(∀ j,l[j]?=ops[k+j]?)->∀ (lv:Live) (a:Act) (w:World),Sim B ok0 N s lv a w->wpOpsIn (FW B.rd) n P ops Q' (List.range' k l.length) a w:=by
 induction h with
 | nil h=>intro k hl lv a w hs;exact hQ _ lv a w h hs
 | @calm o l s r hw hd hy k ih=>
  intro k hl lv a w hs;have h0:ops[k]?=some o:=by simpa using(hl 0).symm
  simp only[qaj,qek,wpOpsIn,h0,hs.wanted hw,if_true];exact ypa (hnd k o h0) (znn hs hd hy Q' fun a' w' hs'=>ih (k+1) (fun j=>by have:=hl (j+1);simpa[qdf,qda 1 j]using this) lv a' w' hs')
 | @skip o l s hw hd k ih=>
  intro k hl lv a w hs;have h0:ops[k]?=some o:=by simpa using(hl 0).symm
  simp only[qaj,qek,wpOpsIn,h0,hs.wanted hw,qbj,if_false];exact⟨fun _ _=>trivial,ih (k+1) (fun j=>by have:=hl (j+1);simpa[qdf,qda 1 j]using this) lv _ w (hs.put hd hs.inv (Below.refl _ _) (.v _))⟩
 | @loud o l s R hl' hw hy k ih=>
  intro k hl lv a w hs;have h0:ops[k]?=some o:=by simpa using(hl 0).symm
  simp only[qaj,qek,wpOpsIn,h0,hs.wanted hw,if_true];refine ypa (hnd k o h0) (Oper.wp_mono (fun a' w' ⟨s',lv',hR,hs'⟩=>?_) (hy B ok0 lv a w hs Q'));exact ih s' hR (k+1) (fun j=>by have:=hl (j+1);simpa[qdf,qda 1 j]using this) lv' a' w' hs'
 | @split l s d b hb k ih=>
  intro k hl lv a w hs;refine ih b rfl k hl lv a w ?_;rw[ykh hb];exact hs
section
variable(P:Program)(N:Nat)(ops:Array Oper)(lf:Oper->Bool)(Q:SS->Prop)
def aOp(i:Nat)(K:SS->Prop)(s:SS):Prop:=
 match ops[i]? with
 | none=>K s
 | some o=>yxs N o/\((∃ r,((yam ops s.t o=some true/\ybu P s.h (evF s.t) o.op o.type r)\/(yam ops s.t o=some false/\r=.v undef))/\K ⟨yee s.t o.dst r,s.h⟩) \/
   (lf o=true/\yam ops s.t o=some true/\∃ R,ybp P N o s R/\∀ s',R s'->K s'))
def xay:Nat->Array Bool->SS->Prop
 | 0,listed,s=>Region.ready .any ops listed=[]/\Q s
 | fuel+1,listed,s=>(Region.ready .any ops listed=[]->Q s)/\∀ i∈Region.ready .any ops listed,aOp P N ops lf i (xay fuel (listed.setIfInBounds i true)) s
end
section
variable{P:Program}{N:Nat}{ops:Array Oper}{lf:Oper->Bool}{Q:SS->Prop}
theorem zvf{i:Nat}{K K':SS->Prop}{s:SS}(h:∀ s,K s->K' s)(hh:aOp P N ops lf i K s):aOp P N ops lf i K' s:=by
 unfold aOp at *;split at hh
 .exact h _ hh
 obtain⟨hd,h1⟩:=hh;refine⟨hd,?_⟩;rcases h1 with⟨r,hr,hk⟩|⟨h1,h2,R,h3,h4⟩
 .exact .inl ⟨r,hr,h _ hk⟩
 exact .inr ⟨h1,h2,R,h3,fun s' hs'=>h _ (h4 s' hs')⟩
theorem ykz{ok0:Nat->Prop}{Q':Exit->Act->World->Prop}{n:Nat}(hnd:∀ (i:Nat) (o:Oper),ops[i]?=some o->yow o.op=false)(hQ:∀ s lv a w,Q s->Sim B ok0 N s lv a w->Q' .normal a w):∀ (fuel:Nat) (listed:Array Bool) (s:SS) (lv:Live) (a:Act) (w:World),Sim B ok0 N s lv a w ->
  xay P N ops lf Q fuel listed s->wpAnyIn (FW B.rd) n P .any ops Q' fuel listed a w
 | 0,_,s,lv,a,w,hs,h=>⟨h.1,hQ s lv a w h.2 hs⟩
 | fuel+1,listed,s,lv,a,w,hs,h=>by
  refine⟨fun h0=>hQ s lv a w (h.1 h0) hs,fun i hi=>?_⟩;have h1:=h.2 i hi;unfold aOp at h1;unfold wpOpIn;split
  .rename_i ho;simp only[ho]at h1;exact ykz hnd hQ fuel _ s lv a w hs h1
  rename_i o ho;simp only[ho]at h1;obtain⟨hd,h1⟩:=h1;rcases h1 with⟨r,⟨hw,hy⟩|⟨hw,rfl⟩,hk⟩|⟨h1,hw,R,h3,h4⟩
  .simp only[hs.wanted hw,if_true];exact ypa (hnd i o ho) (znn hs hd hy Q' fun a' w' hs'=>ykz hnd hQ fuel _ _ lv a' w' hs' hk)
  .simp only[hs.wanted hw,qbj,if_false];exact⟨fun _ _=>trivial,ykz hnd hQ fuel _ _ lv _ w (hs.put hd hs.inv (Below.refl _ _) (.v _)) hk⟩
  simp only[hs.wanted hw,if_true];refine ypa (hnd i o ho) (Oper.wp_mono (fun a' w' ⟨s',lv',hR,hs'⟩=>?_) (h3 B ok0 lv a w hs Q'));exact ykz hnd hQ fuel _ s' lv' a' w' hs' (h4 s' hR)
def yzp(P:Program)(ops:Array Oper)(o:Oper)(r:AV)(s:SS):Prop:=
 (yam ops s.t o=some true/\ybu P s.h (evF s.t) o.op o.type r)\/(yam ops s.t o=some false/\r=.v undef)
theorem zgm{o:Oper}{t:Nat->Option AV}(h:∀ d,dst=some d->d ∉ o.looksAt ops):yam ops (yee t dst v) o=yam ops t o:=by
 unfold yam;cases hg:o.guard with
 | none=>rfl
 | some g=>
  obtain⟨j,want⟩:=g;simp only;cases hd:(ops[j]?).bind (·.dst)with
  | none=>rfl
  | some d=>
   simp only;cases dst with
   | none=>rfl
   | some e=>
    have:=h e rfl;simp only[Oper.looksAt,hg,hd,qat,not_or]at this;have hne:d≠e:=by intro h;subst h;simp at this
    simp[yee,hne]
theorem xcg{o:Oper}{t:Nat->Option AV}(h:∀ d,dst=some d->d ∉ o.looksAt ops):∀ x∈o.op.operands,evF (yee t dst v) x=evF t x:=by
 intro x hx;cases dst with
 | none=>rfl
 | some e=>
  cases x with
  | tmp s=>
   have:=h e rfl;simp only[Oper.looksAt,qat,not_or,List.mem_filterMap]at this;have hne:s≠e:=by
    intro hs;subst hs;exact this.1 ⟨.tmp s,by simpa using hx,rfl⟩
   simp[evF,yee,hne]
  | const c=>rfl
  | global g=>rfl
  | func f=>rfl
theorem yzp.upd{o:Oper}{s:SS}(hy:yzp P ops o r s)(h:∀ d,dst=some d->d ∉ o.looksAt ops):yzp P ops o r ⟨yee s.t dst v,s.h⟩:=by
 unfold yzp at *;simp only[zgm h];rcases hy with⟨h1,h2⟩|h1
 .exact .inl ⟨h1,h2.congr (xcg h)⟩
 exact .inr h1
theorem zsm(t:Nat->Option AV){x y:Option Tmp}(v u:AV)(h:∀ d,x=some d->y≠some d):yee (yee t x v) y u=yee (yee t y u) x v:=by
 cases x with
 | none=>rfl
 | some d=>
  cases y with
  | none=>rfl
  | some e=>
   have hne:e≠d:=fun he=>h d rfl (by rw[he]);funext s;simp only[yee];by_cases h1:s=e
   .by_cases h2:s=d
    .exact absurd (h1.symm.trans h2) hne
    simp[h1,hne]
   simp[h1]
def yhk(ops:Array Oper):Nat->Nat->Nat->Bool
 | 0,_,_=>false
 | fuel+1,j,i=>match ops[j]? with
  | none=>false
  | some o=>o.after.any (fun e=>Region.binds .any e && e.on == i) || o.after.any (fun e=>Region.binds .any e && yhk ops fuel e.on i)
def yqc(ops:Array Oper)(listed:Array Bool):Prop:=∀ k o,listed.getD k false=true->ops[k]?=some o->∀ e∈o.after,Region.binds .any e=true->listed.getD e.on false=true
theorem yep{listed:Array Bool}(hc:yqc ops listed):∀ (fuel j i:Nat) (o:Oper),ops[j]?=some o->(∀ e∈o.after,Region.binds .any e=true->listed.getD e.on false=true)->yhk ops fuel j i=true->listed.getD i false=true
 | 0,_,_,_,_,_,h=>by simp[yhk]at h
 | fuel+1,j,i,o,ho,ha,h=>by
  simp only[yhk,ho,qck]at h;rcases h with h|h
  .obtain ⟨e,he,hb⟩:=qgk.1 h;simp only[qad,beq_iff_eq]at hb;rw[<- hb.2];exact ha e he hb.1
  obtain⟨e,he,hb⟩:=qgk.1 h;simp only[qad]at hb;have h1:=ha e he hb.1;cases ho':ops[e.on]? with
  | none=>
   have:=hb.2;cases fuel with
   | zero=>simp[yhk]at this
   | succ f=>simp[yhk,ho']at this
  | some o'=>exact yep hc fuel e.on i o' ho' (hc e.on o' h1 ho') hb.2
theorem yqc.set{listed:Array Bool}(hc:yqc ops listed){i:Nat}(hr:i∈Region.ready .any ops listed):yqc ops (listed.setIfInBounds i true):=by
 obtain⟨_,oi,hoi,hall⟩:=mem_ready.1 hr;intro k o hk ho e he hb;refine getD_set_true ?_;by_cases hki:i=k
 .subst hki;rw[hoi]at ho;cases ho;exact hall e he hb
 rw[getD_set_ne false hki]at hk;exact hc k o hk ho e he hb
theorem aOp_put{j:Nat}{oi oj:Oper}(hj:ops[j]?=some oj)(hap:oi.apart ops oj=true)(hlj:lf oj=false){K:SS->Prop}{s:SS}(hy:yzp P ops oi v s)(h:aOp P N ops lf j K ⟨yee s.t oi.dst v,s.h⟩):aOp P N ops lf j (fun s'=>yzp P ops oi v s'/\K ⟨yee s'.t oi.dst v,s'.h⟩) s:=by
 obtain⟨h1,h2,h3⟩:=Oper.apart_spec hap;unfold aOp at *;simp only[hj]at *;obtain⟨hd,h⟩:=h;refine⟨hd,?_⟩;rcases h with⟨r,hr,hk⟩|⟨h4,_⟩
 .refine .inl ⟨r,?_,hy.upd h3,?_⟩
  .rw [zgm h1]at hr;rcases hr with⟨h5,h6⟩|h5
   .exact .inl ⟨h5,h6.congr fun x hx=>(xcg h1 x hx).symm⟩
   exact .inr h5
  rw[<- zsm s.t v r h2];exact hk
 rw[hlj]at h4;cases h4
theorem yrs{i:Nat}{oi:Oper}(hi:ops[i]?=some oi)(hdi:yxs N oi):∀ (fuel:Nat) (listed:Array Bool) (s:SS),yqc ops listed ->
   (∀ j oj,ops[j]?=some oj->j≠i->listed.getD j true=false->yhk ops ops.size j i=true\/(oi.apart ops oj=true/\lf oj=false)) ->
   i∈Region.ready .any ops listed->yzp P ops oi v s ->
   xay P N ops lf Q fuel (listed.setIfInBounds i true) ⟨yee s.t oi.dst v,s.h⟩->xay P N ops lf Q (fuel+1) listed s:=by
 have here:∀ (fuel:Nat) (listed:Array Bool) (s:SS),yzp P ops oi v s->xay P N ops lf Q fuel (listed.setIfInBounds i true) ⟨yee s.t oi.dst v,s.h⟩->aOp P N ops lf i (xay P N ops lf Q fuel (listed.setIfInBounds i true)) s:=by
  intro fuel listed s hy H;unfold aOp;simp only[hi];exact⟨hdi,.inl ⟨v,hy,H⟩⟩
 intro fuel;induction fuel with
 | zero=>
  intro listed s _ _ hr hy H;refine⟨fun h=>(by rw[h]at hr;cases hr),fun j hj=>?_⟩;by_cases hji:j=i
  .subst hji;exact here 0 listed s hy H
  have:=ready_mono hj hji;rw[H.1]at this;cases this
 | succ fuel ih=>
  intro listed s hcl hfree hr hy H;refine⟨fun h=>(by rw[h]at hr;cases hr),fun j hj=>?_⟩;by_cases hji:j=i
  .subst hji;exact here _ listed s hy H
  have h1:=H.2 j (ready_mono hj hji);obtain⟨hjun,oj,hoj,hall⟩:=mem_ready.1 hj;have hiun:=(mem_ready.1 hr).1;have hfj:oi.apart ops oj=true/\lf oj=false:=by
   rcases hfree j oj hoj hji hjun with h|h
   .have hli:=yep hcl ops.size j i oj hoj hall h;rcases qbh i listed.size with h'|h'
    .simp [h']at hiun hli;rw[hiun]at hli;cases hli
    simp[qed h']at hli
   exact h
  have h2:=aOp_put hoj hfj.1 hfj.2 hy h1;have hfree':∀ k ok,ops[k]?=some ok->k≠i->(listed.setIfInBounds j true).getD k true=false->yhk ops ops.size k i=true\/(oi.apart ops ok=true/\lf ok=false):=fun k ok hk hki hun=>by
   refine hfree k ok hk hki ?_;by_cases hjk:j=k
   .subst hjk;exact hjun
   rw[getD_set_ne true hjk]at hun;exact hun
  refine zvf (fun s' h3=>ih (listed.setIfInBounds j true) s' (hcl.set hj) hfree' (ready_mono hr (Ne.symm hji)) h3.1 ?_) h2;rw[Array.setIfInBounds_comm _ _ hji];exact h3.2
def ywo(ops:Array Oper)(lf:Oper->Bool):List Nat->Array Bool->Bool
 | [],listed=>(Region.ready .any ops listed).isEmpty
 | k::ks,listed=>(Region.ready .any ops listed).contains k && (match ops[k]? with
   | none=>false
   | some o=>(if lf o then Region.ready .any ops listed == [k]else(List.range ops.size).all fun j=>j == k || listed.getD j true || yhk ops ops.size j k || match ops[j]? with
    | some oj=>o.apart ops oj && !lf oj
    | none=>true)) && ywo ops lf ks (listed.setIfInBounds k true)
theorem zvm{l:List Oper}{s:SS}(h:Lex P N ops lf Q l s)(hD:∀ (k:Nat) (o:Oper),ops[k]?=some o->yxs N o):∀ (ks:List Nat) (listed:Array Bool),(∀ j:Nat,l[j]?=(ks[j]?).bind (fun k:Nat=>ops[k]?))->ks.length=l.length->yqc ops listed ->
  ywo ops lf ks listed=true->xay P N ops lf Q l.length listed s:=by
 induction h with
 | @nil s h=>
  intro ks listed hl hlen hcl hB;have:ks=[]:=qax (by simpa using hlen);subst this;exact⟨by simpa[ywo]using hB,h⟩
 | @split l s d b hb k ih=>
  intro ks listed hl hlen hcl hB;have:=ih b rfl ks listed hl hlen hcl hB;rw[ykh hb]at this;exact this
 | @calm o l s r hw hd hy k ih=>
  intro ks listed hl hlen hcl hB
  match ks,hlen with
  | k::ks,hlen=>
   have h0:ops[k]?=some o:=by simpa using(hl 0).symm
   simp only[ywo,h0,qad]at hB;obtain⟨⟨hr,hf⟩,hB'⟩:=hB;have hr':k∈Region.ready .any ops listed:=by simpa using hr
   have hk:=ih ks (listed.setIfInBounds k true) (fun j=>by have:=hl (j+1);simpa using this) (by simpa using hlen) (hcl.set hr') hB';by_cases hlo:lf o=true
   .simp only[hlo,if_true,beq_iff_eq]at hf;refine⟨fun h=>(by rw[hf]at h;cases h),fun i hi=>?_⟩;rw[hf]at hi;simp only[qau]at hi;subst hi;unfold aOp;simp only[h0];exact⟨hd,.inl ⟨r,.inl ⟨hw,hy⟩,hk⟩⟩
   simp only[hlo]at hf;refine yrs h0 hd l.length listed s hcl ?_ hr' (.inl ⟨hw,hy⟩) hk;intro j oj hj hne hun;simp only[qbj,if_false,List.all_eq_true,qbt]at hf;have:=hf j (qaz.1 hj).1;simp only[hj,hun,qck,beq_iff_eq,hne,false_or,qbj,qad,qbn,or_false]at this;exact this
 | @skip o l s hw hd k ih=>
  intro ks listed hl hlen hcl hB
  match ks,hlen with
  | k::ks,hlen=>
   have h0:ops[k]?=some o:=by simpa using(hl 0).symm
   simp only[ywo,h0,qad]at hB;obtain⟨⟨hr,hf⟩,hB'⟩:=hB;have hr':k∈Region.ready .any ops listed:=by simpa using hr
   have hk:=ih ks (listed.setIfInBounds k true) (fun j=>by have:=hl (j+1);simpa using this) (by simpa using hlen) (hcl.set hr') hB';by_cases hlo:lf o=true
   .simp only[hlo,if_true,beq_iff_eq]at hf;refine⟨fun h=>(by rw[hf]at h;cases h),fun i hi=>?_⟩;rw[hf]at hi;simp only[qau]at hi;subst hi;unfold aOp;simp only[h0];exact⟨hd,.inl ⟨.v undef,.inr ⟨hw,rfl⟩,hk⟩⟩
   simp only[hlo]at hf;refine yrs h0 hd l.length listed s hcl ?_ hr' (.inr ⟨hw,rfl⟩) hk;intro j oj hj hne hun;simp only[qbj,if_false,List.all_eq_true,qbt]at hf;have:=hf j (qaz.1 hj).1;simp only[hj,hun,qck,beq_iff_eq,hne,false_or,qbj,qad,qbn,or_false]at this;exact this
 | @loud o l s R hlo hw hy k ih=>
  intro ks listed hl hlen hcl hB
  match ks,hlen with
  | k::ks,hlen=>
   have h0:ops[k]?=some o:=by simpa using(hl 0).symm
   simp only[ywo,h0,qad]at hB;obtain⟨⟨hr,hf⟩,hB'⟩:=hB;have hr':k∈Region.ready .any ops listed:=by simpa using hr
   simp only[hlo,if_true,beq_iff_eq]at hf;refine⟨fun h=>(by rw[hf]at h;cases h),fun i hi=>?_⟩;rw[hf]at hi;simp only[qau]at hi;subst hi;unfold aOp;simp only[h0];exact⟨hD _ _ h0,.inr ⟨hlo,hw,R,hy,fun s' hs'=>ih s' hs' ks (listed.setIfInBounds i true) (fun j=>by have:=hl (j+1);simpa using this) (by simpa using hlen) (hcl.set hr') hB'⟩⟩
end
theorem yup(h:yht l=true):∀ (i:Nat) (o:Oper),l.toArray[i]?=some o->yow o.op=false:=by
 intro i o ho;simp only[yht,List.all_eq_true]at h;simpa using h o (by have:=qhb ho;simpa using this)
theorem lex_region{s:SS}(hnd:yht l=true)(h:Lex P N l.toArray lf Q l s)(hQ:∀ s lv a w,Q s->Sim B ok0 N s lv a w->Q' .normal a w)(hs:Sim B ok0 N s lv a w):(Code.region id l.toArray false).wpIn (FW B.rd) n P Q' a w:=by
 refine wpIn_region ?_;have:=lex_ops (n:=n) hQ (yup hnd) h 0 (fun j=>by simp) lv a w hs
 rwa [show List.range (l.toArray).size=List.range' 0 l.length by simp[qgd]]
theorem Sim.drew{s:SS}(h:Sim B ok0 N s lv a w)(hb:Below w.heap.size w w'):Sim B ok0 N s lv a w':=
 ⟨h.inv.grow hb,h.size,fun x y hy=>⟨(h.frame x y hy).1,(h.frame x y hy).2.grow hb⟩,h.defers.grow hb,h.big,h.pin⟩
def ytk(N:Nat)(l:List Oper):Bool:=(l.all fun o=>match o.dst with|none=>true|some d=>Nat.blt d N) && yht l
theorem lex_region_draw(hm:P.follows .mixedOrders=true){m:List Oper}{s:SS}(ks:List Nat)(hks:ks.map (fun k=>l.toArray[k]?)=m.map some)(hB:ywo l.toArray lf ks (Array.replicate l.length false)=true)(hD:ytk N l=true)(h:Lex P N l.toArray lf Q m s)(hQ:∀ s lv a w,Q s->Sim B ok0 N s lv a w->Q' .normal a w)(hs:Sim B ok0 N s lv a w)(hlen:m.length=l.length):(Code.region id l.toArray true).wpIn (FW B.rd) n P Q' a w:=by
 refine wpIn_region_any hm ?_;simp only[ytk,qad]at hD;obtain⟨hD,hnd⟩:=hD;have h1:=zvm h (fun k o ho d hd=>by
  simp only[List.all_eq_true]at hD
  have:=hD o (by have:=qhb ho;simpa using this)
  simp only[hd,qhf]at this
  exact this) ks (Array.replicate l.length false) (fun j=>by
  have h2:=congrArg (fun x=>x[j]?) hks
  simp only[qak]at h2
  cases hk:ks[j]? with
  | none=>simp only[hk,Option.map_none]at h2;simp only[Option.bind_none];cases hm:m[j]? with
   | none=>rfl
   | some x=>simp[hm]at h2
  | some k=>simp only[hk,qav]at h2;simp only[qej];cases hm:m[j]? with
   | none=>simp[hm]at h2
   | some x=>simp[hm]at h2;simp[h2]) (by have:=congrArg List.length hks;simpa using this) (fun k o hk=>by
  simp only[qar,qgl]at hk
  split at hk <;> simp at hk) hB
 have h2:=ykz (n:=n) (yup hnd) hQ m.length _ s lv a _ (hs.drew (w':={ w with drawn:=w.drawn+1 }) ⟨rfl,rfl,rfl,qbf _,fun _ _=>rfl⟩) h1;simpa[hlen]using h2
end
variable{s:SS}
section
open Go.RowKit
def A(P:Program)(N:Nat)(c:Code)(Q:Exit->SS->Prop)(s:SS):Prop:=
 ∀ (B:Bse) (ok0:Nat->Prop) (lv:Live) (a:Act) (w:World),Sim B ok0 N s lv a w->c.wpIn (FW B.rd) 0 P (fun e a' w'=>∃ s' lv',Q e s'/\Sim B ok0 N s' lv' a' w') a w
section
variable{P:Program}{N:Nat}{Q:Exit->SS->Prop}{s:SS}
theorem A.mono{Q':Exit->SS->Prop}(h:A P N c Q s)(hq:∀ e s,Q e s->Q' e s):A P N c Q' s:=
 fun B ok0 lv a w hs=>wpIn_mono (h B ok0 lv a w hs) fun e a' w' ⟨s',lv',h1,h2⟩=>⟨s',lv',hq _ _ h1,h2⟩
theorem ydu(h:Q .normal s):A P N .skip Q s:=fun B ok0 lv a w hs=>wpIn_skip ⟨s,lv,h,hs⟩
theorem ype{id:Nat}(h:Q (.exit id) s):A P N (.exit id) Q s:=fun B ok0 lv a w hs=>wpIn_exit ⟨s,lv,h,hs⟩
theorem yqa(h:Q .ret s):A P N .ret Q s:=fun B ok0 lv a w hs=>wpIn_ret ⟨s,lv,h,hs⟩
theorem A_label{l:Nat}(h:Q .normal s):A P N (.label l) Q s:=fun B ok0 lv a w hs=>wpIn_label ⟨s,lv,h,hs⟩
def xme(P:Program)(N:Nat)(y:Code)(Q:Exit->SS->Prop):Exit->SS->Prop
 | .normal,s=>A P N y Q s
 | e,s=>Q e s
theorem ysv{x y:Code}(h:A P N x (xme P N y Q) s):A P N (.seq x y) Q s:=by
 intro B ok0 lv a w hs;refine wpIn_seq (wpIn_mono (h B ok0 lv a w hs) fun e a' w' ⟨s',lv',h1,h2⟩=>?_);cases e with
 | normal=>exact h1 B ok0 lv' a' w' h2
 | _=>exact⟨s',lv',h1,h2⟩
theorem rel_bool{ok:Nat->Prop}{b:Bool}(h:Rel ok w lv (.v (.bool b)) u):u=.bool b:=by cases h;rfl
theorem ykw{ok:Nat->Prop}{x:Value}(h:Rel ok w lv (.v x) u):u=x:=by cases h;rfl
theorem yux{c:Operand}{x y:Code}{b:Bool}(hc:evF s.t c=some (.v (.bool b)))(h1:b=true->A P N x Q s)(h2:b=false->A P N y Q s):A P N (.cond c x y) Q s:=by
 intro B ok0 lv a w hs;have he:=rel_bool (hs.eval hc);exact wpIn_cond_split he (fun hb=>h1 hb B ok0 lv a w hs) (fun hb=>h2 hb B ok0 lv a w hs)
def xbk(id:Nat)(Q:Exit->SS->Prop):Exit->SS->Prop
 | .exit id',s=>if Nat.beq id' id then Q .normal s else Q (.exit id') s
 | e,s=>Q e s
theorem zsx{id:Nat}(h:A P N c (xbk id Q) s):A P N (.block id c) Q s:=by
 intro B ok0 lv a w hs;refine wpIn_block (wpIn_mono (h B ok0 lv a w hs) fun e a' w' ⟨s',lv',h1,h2⟩=>?_);cases e with
 | exit id'=>
  simp only[Exit.inBlock,xbk]at *;by_cases hid:id'=id
  .rw [if_pos hid];rw[if_pos (by simp[hid])]at h1;exact⟨s',lv',h1,h2⟩
  rw[if_neg hid];rw[if_neg (by simp[hid])]at h1;exact⟨s',lv',h1,h2⟩
 | _=>exact⟨s',lv',h1,h2⟩
def Rnd(n:Nat)(I:Nat->SS->Prop)(Q:Exit->SS->Prop):Exit->SS->Prop
 | .normal,s=>∃ m,m < n/\I m s
 | e,s=>Q e s
theorem xgh(I:Nat->SS->Prop)(n:Nat)(h0:I n s)(round:∀ n s,I n s->A P N c (Rnd n I Q) s):A P N (.loop c) Q s:=by
 intro B ok0 lv a w hs b k cs hro hfn hroom;have key:∀ n s lv a w,I n s->Sim B ok0 N s lv a w ->
   ∃ e a' w',(∃ s' lv',Q e s'/\Sim B ok0 N s' lv' a' w')/\ArrivesIn (Machine.fenced P (FW B.rd)) P (lone (b.atR a (.code c::.inLoop c::k)) cs w) b k cs e a' w':=by
  intro n;induction n using Nat.strongRecOn with
  | _ n ih=>
   intro s lv a w hI hs;obtain⟨e,a₁,w₁,⟨s₁,lv₁,hq,hs₁⟩,harr⟩:=round n s hI B ok0 lv a w hs b (.inLoop c::k) cs hro hfn hroom;cases e with
   | normal=>
    obtain⟨m,hlt,hI₁⟩:=hq;obtain⟨e₂,a₂,w₂,hq₂,harr₂⟩:=ih m hlt s₁ lv₁ a₁ w₁ hI₁ hs₁;exact⟨e₂,a₂,w₂,hq₂,.of_steps (StepsIn.trans harr (.one (fenced_calm hfn hroom rfl) stepR_inLoop)) harr₂⟩
   | exit id=>exact⟨_,a₁,w₁,⟨s₁,lv₁,hq,hs₁⟩,.pass (x:=.inLoop c) rfl (fun _ _=>.inl sm) harr⟩
   | goto l=>exact⟨_,a₁,w₁,⟨s₁,lv₁,hq,hs₁⟩,.pass (x:=.inLoop c) rfl (fun _ _=>.inl sm) harr⟩
   | ret=>exact⟨_,a₁,w₁,⟨s₁,lv₁,hq,hs₁⟩,.pass (x:=.inLoop c) rfl (fun _ _=>.inl sm) harr⟩
   | panic ch=>exact⟨_,a₁,w₁,⟨s₁,lv₁,hq,hs₁⟩,.pass (x:=.inLoop c) rfl (fun _ _=>.inl sm) harr⟩
   | outgrown=>exact⟨_,a₁,w₁,⟨s₁,lv₁,hq,hs₁⟩,.pass (x:=.inLoop c) rfl (fun _ _=>.inl sm) harr⟩
 obtain⟨e,a',w',hq,harr⟩:=key n s lv a w h0 hs;exact⟨e,a',w',hq,.of_steps (.one (fenced_calm hfn hroom rfl) stepR_loop) harr⟩
theorem ydb{id:Nat}(hnd:yht l=true)(h:Lex P N l.toArray lf (Q .normal) l s):A P N (.region id l.toArray false) Q s:=
 fun B ok0 lv a w hs=>lex_region hnd h (fun s lv a w hq hs=>⟨s,lv,hq,hs⟩) hs
theorem A_region_draw(hm:P.follows .mixedOrders=true){id:Nat}{m:List Oper}(ks:List Nat)(hks:ks.map (fun k=>l.toArray[k]?)=m.map some)(hlen:m.length=l.length)(hB:ywo l.toArray lf ks (Array.replicate l.length false)=true)(hD:ytk N l=true)(h:Lex P N l.toArray lf (Q .normal) m s):A P N (.region id l.toArray true) Q s:=
 fun B ok0 lv a w hs=>lex_region_draw hm ks hks hB hD h (fun s lv a w hq hs=>⟨s,lv,hq,hs⟩) hs hlen
theorem Inv.lvat{ok0:Nat->Prop}{h:Nat->Option LObj}(hi:Inv B ok0 h lv w){id b n:Nat}(hb:lv id=some (some b,n)):∃ x,h id=some x/\B.mine b/\b < w.heap.size/\yho (yba B ok0 lv w) lv w b n x:=by
 cases hx:h id with
 | none=>rw[hi.dom id hx]at hb;cases hb
 | some x=>
  obtain⟨b',n',h1,h2⟩:=hi.obj id x hx;rw[h1]at hb;cases hb;exact⟨x,rfl,h2⟩
theorem Inv.lvlt{ok0:Nat->Prop}{h:Nat->Option LObj}(hi:Inv B ok0 h lv w){id b n:Nat}(hb:lv id=some (some b,n)):b < w.heap.size:=by
 obtain⟨x,_,_,h3,_⟩:=hi.lvat hb;exact h3
def ycw:Option LObj->Option (List AV)
 | some (.cells xs)=>some xs
 | some (.vec xs)=>some xs
 | some (.tcells _ xs)=>some xs
 | some (.tvec _ xs)=>some xs
 | some (.mcells xs)=>some xs
 | _=>none
def yti:Option LObj->Option (List AV)
 | some (.cells xs)=>some xs
 | some (.vec (x::xs))=>some (x::xs)
 | some (.tcells _ (x::xs))=>some (x::xs)
 | some (.tvec _ (x::xs))=>some (x::xs)
 | _=>none
theorem Inv.blk{ok0:Nat->Prop}{h:Nat->Option LObj}(hi:Inv B ok0 h lv w){id:Nat}(hx:ycw (h id)=some xs)(hne:xs≠[]\/h id=some (.cells xs)):∃ b n,lv id=some (some b,n)/\B.mine b/\b < w.heap.size/\yhd (yba B ok0 lv w) lv w b n xs:=by
 cases ho:h id with
 | none=>simp[ho,ycw]at hx
 | some ob=>
  obtain⟨b,n,h1,h2⟩:=hi.obj id ob ho;cases b with
  | none=>
   simp only[yge]at h2;rcases h2 with rfl|⟨e,rfl⟩
   .simp only[ho,ycw,Option.some.injEq]at hx;subst hx;rcases hne with h|h
    .exact absurd rfl h
    rw[ho]at h;cases h
   simp only[ho,ycw,Option.some.injEq]at hx;subst hx;rcases hne with h|h
   .exact absurd rfl h
   rw[ho]at h;cases h
  | some b=>
   obtain⟨h2,h3,h4⟩:=h2;cases ob with
   | cells ys=>simp only[ho,ycw,Option.some.injEq]at hx;subst hx;exact⟨b,n,h1,h2,h3,h4⟩
   | vec ys=>simp only[ho,ycw,Option.some.injEq]at hx;subst hx;exact⟨b,n,h1,h2,h3,h4.1⟩
   | map es=>simp[ho,ycw]at hx
   | iter es left cur=>simp[ho,ycw]at hx
   | siter s pos=>simp[ho,ycw]at hx
   | tcells e ys=>simp only[ho,ycw,Option.some.injEq]at hx;subst hx;exact⟨b,n,h1,h2,h3,h4.1⟩
   | tvec e ys=>simp only[ho,ycw,Option.some.injEq]at hx;subst hx;exact⟨b,n,h1,h2,h3,h4.1⟩
   | mcells ys=>simp only[ho,ycw,Option.some.injEq]at hx;subst hx;exact⟨b,n,h1,h2,h3,h4⟩
theorem ygf{o:Option LObj}(h:yti o=some xs):ycw o=some xs/\(xs≠[]\/o=some (.cells xs)):=by
 unfold yti at h;split at h
 .cases h;exact⟨rfl,.inr rfl⟩
 .cases h;exact⟨rfl,.inl sm⟩
 .cases h;exact⟨rfl,.inl sm⟩
 .cases h;exact⟨rfl,.inl sm⟩
 cases h
def Sub(s' s:SS):Prop:=(∀ x y,s'.t x=some y->s.t x=some y)/\∀ id x,s'.h id=some x->s.h id=some x
theorem Inv.weak{ok0:Nat->Prop}{h h':Nat->Option LObj}(hi:Inv B ok0 h lv w)(hh:∀ id x,h' id=some x->h id=some x):
  ∃ lv',Inv B ok0 h' lv' w/\(∀ id b n,lv' id=some (b,n)->lv id=some (b,n))/\∀ g,yba B ok0 lv w g->yba B ok0 lv' w g:=by
 refine⟨fun id=>if (h' id).isSome then lv id else none,?_,?_,?_⟩
 .have hsub:∀ id b n,(fun id=>if (h' id).isSome then lv id else none) id=some (b,n)->lv id=some (b,n):=by
   intro id b n hb;simp only at hb;split at hb
   .exact hb
   cases hb
  have hok:∀ g,yba B ok0 lv w g->yba B ok0 (fun id=>if (h' id).isSome then lv id else none) w g:=fun g hg=>⟨hg.1,hg.2.1,fun id b n hb=>hg.2.2 id b n (hsub id b n hb)⟩;refine⟨hi.base,hi.ok0lt,fun id hn=>by simp[hn],fun i j b n m h1 h2=>hi.inj i j b n m (hsub _ _ _ h1) (hsub _ _ _ h2),fun id x hx=>?_⟩;obtain⟨b,n,h1,h2⟩:=hi.obj id x (hh id x hx);refine⟨b,n,by simp[hx,h1],?_⟩;cases b with
  | none=>exact h2
  | some b=>
  obtain⟨h2,h3,h4⟩:=h2;refine⟨h2,h3,?_⟩;exact(h4.relive fun id b n hb _=>hsub id b n hb).keep (fun g hg=>⟨hok g hg,rfl⟩) rfl
 .intro id b n hb;simp only at hb;split at hb
  .exact hb
  cases hb
 intro g hg;refine⟨hg.1,hg.2.1,fun id b n hb=>hg.2.2 id b n ?_⟩;simp only at hb;split at hb
 .exact hb
 cases hb
theorem Sim.weak{ok0:Nat->Prop}{s':SS}(hs:Sim B ok0 N s lv a w)(hsub:Sub s' s):∃ lv',Sim B ok0 N s' lv' a w:=by
 obtain⟨lv',h1,h2,h3⟩:=hs.inv.weak hsub.2;refine⟨lv',h1,hs.size,fun x y hy=>?_,hs.defers,hs.big,hs.pin_of h1 h2 fun id o hx hc=>⟨o,hsub.2 id _ hx,hc⟩⟩;have:=hs.frame x y (hsub.1 x y hy);exact⟨this.1,(this.2.relive fun id b n hb _=>h2 id b n hb).keep fun g hg=>⟨h3 g hg,rfl⟩⟩
theorem ypf{s':SS}(h:A P N c Q s')(hsub:Sub s' s):A P N c Q s:=by
 intro B ok0 lv a w hs;obtain⟨lv',hs'⟩:=hs.weak hsub;exact h B ok0 lv' a w hs'
end
def ylj (P : Program) (f : FuncId) : Prop := ∃ fn, P.funcs[f]? = some fn ∧ (fn.name == "runtime.NumGoroutine") = false ∧ fn.body.isNone = false
def ybn(ok:Nat->Prop)(w:World)(lv:Live)(xs:List AV)(us:List Value):Prop:=us.length=xs.length/\∀ (i:Nat) (x:AV) (u:Value),xs[i]?=some x->us[i]?=some u->Rel ok w lv x u
def Con(P:Program)(f:FuncId)(args:List AV)(r:AV):Prop:=
 ylj P f/\yas r=true/\∀ (ok0:Nat->Prop) (w:World) (us:List Value),zaw w->(∀ g,ok0 g->g < w.heap.size)->ybn ok0 w (fun _=>none) args us ->
  Calls P f us.toArray w fun e w'=>∃ u,e=.returned u/\Rel (fun g=>(ok0 g\/w.heap.size<=g)/\g < w'.heap.size) w' (fun _=>none) r u/\Below w.heap.size w w'
def zte(args:List AV)(s:Nat):Option AV:=args[s]?
def Frz(h:Nat->Option LObj)(x y:AV):Prop:=
 ∀ (B:Bse) (ok0:Nat->Prop) (lv:Live) (w:World) (u:Value),Inv B ok0 h lv w->Rel (yba B ok0 lv w) w lv x u->Rel (fun g=>(ok0 g\/B.mine g)/\g < w.heap.size) w (fun _=>none) y u
theorem Frz.pure{x:AV}:Frz h x x:=by
 intro B ok0 lv w u hi hr;exact(hr.relive fun id b n hb _=>by cases hb).keep fun g hg=>⟨⟨hg.1,hg.2.1⟩,rfl⟩
theorem ysn:Rel ok w lv (.sl size []) (.slice none 0 0):=
 .sl (rows:=[]) none 0 (fun _ _=>undef) 0 0 sm (by simp[maxLen]) (fun _=>rfl) sm sm (fun i j row c h=>by simp at h) (fun i j row c h=>by simp at h)
theorem Frz.nil{h:Nat->Option LObj}{size:Nat}:Frz h (.v (.slice none 0 0)) (.sl size []):=by
 intro B ok0 lv w u hi hr;rw[ykw hr];exact ysn
theorem Frz.tup{h:Nat->Option LObj}{xs ys:List AV}(hl:xs.length=ys.length)(hf:∀ (i:Nat) (x y:AV),xs[i]?=some x->ys[i]?=some y->Frz h x y):Frz h (.tup xs) (.tup ys):=by
 intro B ok0 lv w u hi hr;cases hr with
 | tup vs h1 h2=>
  refine .tup vs (h1.trans hl) fun i y u hy hu=>?_;obtain⟨x,hx⟩:∃ x,xs[i]?=some x:=⟨_,qae (by have:=(qaa.1 hy).1;omega)⟩;exact hf i x y hx hy B ok0 lv w u hi (h2 i x u hx hu)
theorem Frz.tup2{a b a' b':AV}(h1:Frz h a a')(h2:Frz h b b'):Frz h (.tup [a,b]) (.tup [a',b']):=by
 refine .tup rfl fun i x y hx hy=>?_
 match i with
 | 0=>simp at hx hy;subst hx hy;exact h1
 | 1=>simp at hx hy;subst hx hy;exact h2
 | i+2=>simp at hx
theorem Frz.tup3{a b c a' b' c':AV}(h1:Frz h a a')(h2:Frz h b b')(h3:Frz h c c'):Frz h (.tup [a,b,c]) (.tup [a',b',c']):=by
 refine .tup rfl fun i x y hx hy=>?_
 match i with
 | 0=>simp at hx hy;subst hx hy;exact h1
 | 1=>simp at hx hy;subst hx hy;exact h2
 | 2=>simp at hx hy;subst hx hy;exact h3
 | i+3=>simp at hx
theorem ysd{len:Nat}{rows:List (List AV)}(hi:Inv B ok0 h lv w)(hr:Rel (yba B ok0 lv w) w lv (.ls id size len) u)(hx:ycw (h id)=some xs)(hlen:rows.length=len)(hsize:∀ row∈rows,row.length=size)(hfl:rows.flatten=xs)(hp:∀ x∈xs,∀ i,ment i x=false)(ok':Nat->Prop)(hk1:∀ g,yba B ok0 lv w g->ok' g)(hk2:∀ b n,lv id=some (some b,n)->ok' b):Rel ok' w (fun _=>none) (.sl size rows) u:=by
 subst hlen;cases hr with
 | ls _ hone hls=>
  have hnil:(∃ n,lv id=some (none,n))\/∃ b n,lv id=some (some b,n)/\B.mine b/\b < w.heap.size/\yhd (yba B ok0 lv w) lv w b n xs:=by
   cases ho:h id with
   | none=>simp[ho,ycw]at hx
   | some ob=>
    obtain⟨b,n,h1,h2⟩:=hi.obj id ob ho;cases b with
    | none=>exact .inl ⟨n,h1⟩
    | some b=>
     obtain⟨h2,h3,h4⟩:=h2;cases ob with
     | cells ys=>simp only[ho,ycw,Option.some.injEq]at hx;subst hx;exact .inr ⟨b,n,h1,h2,h3,h4⟩
     | vec ys=>simp only[ho,ycw,Option.some.injEq]at hx;subst hx;exact .inr ⟨b,n,h1,h2,h3,h4.1⟩
     | map es=>simp[ho,ycw]at hx
     | iter es left cur=>simp[ho,ycw]at hx
     | siter s pos=>simp[ho,ycw]at hx
     | tcells e ys=>simp only[ho,ycw,Option.some.injEq]at hx;subst hx;exact .inr ⟨b,n,h1,h2,h3,h4.1⟩
     | tvec e ys=>simp only[ho,ycw,Option.some.injEq]at hx;subst hx;exact .inr ⟨b,n,h1,h2,h3,h4.1⟩
     | mcells ys=>simp only[ho,ycw,Option.some.injEq]at hx;subst hx;exact .inr ⟨b,n,h1,h2,h3,h4⟩
  rcases hnil with⟨n,h1⟩|⟨b,n,h1,h2,h3,h4⟩
  .obtain ⟨rfl,h0⟩:=hls _ _ h1;obtain rfl:=qax h0;exact ysn
  obtain⟨cap,rfl,hcap,hmax,hn⟩:=hls (some b) n h1;obtain⟨c,e,g1,g2,g3,g4,g5⟩:=h4;have hget:∀ (rows:List (List AV)),(∀ row∈rows,row.length=size)->∀ (i j:Nat) (row:List AV) (x:AV),rows[i]?=some row->row[j]?=some x->rows.flatten[i * size+j]?=some x:=by
   intro rows;induction rows with
   | nil=>intro _ i j row x h;simp at h
   | cons r rows ih=>
    intro hs i j row x hrow hx;have hr:=hs r sm;rw[qcc];cases i with
    | zero=>
     simp at hrow;subst hrow;rw[qhg,qay,qam (qaa.1 hx).1];exact hx
    | succ i=>
     rw[qdi,qah (by rw[hr];omega),hr,show i * size+size+j - size=i * size+j by omega];exact ih (fun r h=>hs r (by simp[h])) i j row x (by simpa using hrow) hx
  have hcells:∀ (i j:Nat) (row:List AV) (x:AV),rows[i]?=some row->row[j]?=some x->∃ u,c[i * size+j]?=some u/\Rel (yba B ok0 lv w) w lv x u/\yeb x=true/\∀ k,ment k x=false:=by
   intro i j row x hrow hx;have h5:=hget rows hsize i j row x hrow hx;rw[hfl]at h5;have hlt:=(qaa.1 h5).1;have hlt':i * size+j < c.size:=by omega
   have hm:=qab h5;exact⟨_,qbk hlt',g5 _ x _ h5 (qbk hlt'),g4 x hm,hp x hm⟩
  refine .sl _ cap (fun i j=>c.getD (i * size+j) undef) b 0 hcap hmax (fun h=>by cases h) hsize (fun _=>⟨rfl,hk2 b n h1⟩) (fun i j row x hrow hx=>?_) (fun i j row x hrow hx=>?_)
  .obtain ⟨u,hu,_,hc,_⟩:=hcells i j row x hrow hx;refine⟨?_,hc⟩;simp only[World.cell?,g1];simp[hu]
  obtain⟨u,hu,hr,_,hm⟩:=hcells i j row x hrow hx;have:c.getD (i * size+j) undef=u:=by simp[hu]
  simp only[this];exact(hr.relive fun id b n hb _=>by cases hb).keep fun g hg=>⟨hk1 g hg,rfl⟩
theorem Frz.ls{len:Nat}{rows:List (List AV)}(hx:ycw (h id)=some xs)(hlen:rows.length=len)(hsize:∀ row∈rows,row.length=size)(hfl:rows.flatten=xs)(hp:∀ x∈xs,∀ i,ment i x=false):Frz h (.ls id size len) (.sl size rows):=
 fun B ok0 lv w u hi hr=>ysd hi hr hx hlen hsize hfl hp _ (fun g hg=>⟨hg.1,hg.2.1⟩) fun b n hb=>by obtain⟨_,_,h1,h2,_⟩:=hi.lvat hb;exact⟨.inr h1,h2⟩
def xef(s:SS):ResultVar->Option AV
 | .tmp t=>match Nat.ble 1000000 t with
  | false=>s.t t
  | true=>none
 | .cell _ _=>none
def xjq(s:SS):List ResultVar->Option (List AV)
 | []=>some []
 | r::rs=>match xef s r,xjq s rs with
  | some x,some xs=>some (x::xs)
  | _,_=>none
def xkv(s:SS)(rs:List ResultVar):Option AV:=
 match xjq s rs with
 | some [x]=>some x
 | some xs=>some (.tup xs)
 | none=>none
def xbb(tmps:Array Value):ResultVar->Sem Value
 | .tmp t=>pure (tmps.getD t undef)
 | .cell b t=>do loadVar t (<- asAddr (tmps.getD b undef))
theorem zyo(P:Program)(hs:Sim B ok0 N s lv a w):∀ (rs:List ResultVar) (xs:List AV),xjq s rs=some xs ->
  ∃ us:List Value,ybn (yba B ok0 lv w) w lv xs us/\(rs.mapM (xbb a.tmps)).run P w=.ok us w
 | [],xs,h=>by simp only[xjq,Option.some.injEq]at h;subst h;exact⟨[],⟨rfl,fun i x u h=>by simp at h⟩,sm⟩
 | r::rs,xs,h=>by
  simp only[xjq]at h;split at h
  .rename_i x xs' h1 h2;simp only[Option.some.injEq]at h;subst h;obtain⟨us,hus,hrun⟩:=zyo P hs rs xs' h2;cases r with
   | cell b t=>simp[xef]at h1
   | tmp t=>
    have hx:Rel (yba B ok0 lv w) w lv x (a.tmps.getD t undef):=by
     simp only[xef]at h1;split at h1
     .rename_i hb;have:=(hs.frame t x h1).2
      rwa [ydx,if_pos (xfz hb)]at this
     cases h1
    refine⟨a.tmps.getD t undef::us,⟨by simp[hus.1],fun i y u hy hu=>?_⟩,?_⟩
    .cases i with
     | zero=>simp only[qas,Option.some.injEq]at hy hu;subst hy hu;exact hx
     | succ i=>exact hus.2 i y u (by simpa using hy) (by simpa using hu)
    simp only[List.mapM_cons,xbb,Sem.run_bind,Sem.run_pure,Result.andThen_ok,hrun]
  cases h
theorem resA_run(hs:Sim B ok0 N s lv a w)(hr:fn.results=rs.toArray){x:AV}(h:xkv s rs=some x):
  ∃ u,Rel (yba B ok0 lv w) w lv x u/\(results fn a.tmps).run P w=.ok u w:=by
 unfold xkv at h;have key:∀ xs,xjq s rs=some xs->∃ us:List Value,ybn (yba B ok0 lv w) w lv xs us/\(results fn a.tmps).run P w=.ok (if h:us.toArray.size=1 then us.toArray[0]else .tuple us.toArray) w:=by
  intro xs hx;obtain⟨us,h1,h2⟩:=zyo P hs rs xs hx;refine⟨us,h1,?_⟩;have e:results fn a.tmps=(fn.results.mapM (xbb a.tmps) >>= fun vs=>pure (if h:vs.size=1 then vs[0]else .tuple vs)):=rfl;have e2:(List.toArray <$> rs.mapM (xbb a.tmps))=(rs.mapM (xbb a.tmps) >>= fun l=>pure l.toArray):=rfl;rw[e,hr,List.mapM_toArray,e2];simp only[Sem.run_bind,h2,Result.andThen_ok,Sem.run_pure]
 split at h
 .rename_i y hy;simp only[Option.some.injEq]at h;subst h;obtain⟨us,h1,h2⟩:=key _ hy
  match us,h1 with
  | [u],h1=>exact⟨u,h1.2 0 _ _ rfl rfl,by simpa using h2⟩
 .rename_i xs hne hy;simp only[Option.some.injEq]at h;subst h;obtain⟨us,h1,h2⟩:=key _ hy;refine⟨.tuple us.toArray,.tup us h1.1 h1.2,?_⟩;rw[h2,dif_neg];intro h;have hl:=h1.1;simp only[qdg]at h;rw[h]at hl
  match xs,hl with
  | [x],_=>exact hne x rfl
 cases h
def xmc(rs:List ResultVar)(y:AV):Exit->SS->Prop
 | .normal,s=>∃ x,xkv s rs=some x/\Frz s.h x y
 | .ret,s=>∃ x,xkv s rs=some x/\Frz s.h x y
 | _,_=>False
theorem yfm(us:List Value)(n i:Nat)(u:Value)(h:us[i]?=some u):(us.toArray++Array.replicate n undef).getD i undef=u:=by
 have hlt:=(qaa.1 h).1;rw[qar,Array.getElem?_append_left (by simpa using hlt)];simp[h]
structure Shut (w w':World):Prop where
 os:w'.os=w.os
 tape:w'.tape=w.tape
 output:w'.output=w.output
 size:w'.heap.size=w.heap.size
 keep:∀ g,ytd w w' g
theorem Shut.put{D:Nat}{l:Option (List Deferred)}(h:w.heap[D]?=some (.deferred l)):Shut w (w.putObj D (.deferred none)):=
 ⟨rfl,rfl,rfl,sm,fun g o ho hd=>by
  by_cases e:g=D
  .subst e;rw[h]at ho;cases ho;cases hd
  exact(World.putObj_heap_other e).trans ho⟩
theorem Sim.shut(hs:Sim B ok0 N s lv a w)(h:Shut w w')(ho:∀ k,k < B.w.heap.size->w'.heap[k]?=w.heap[k]?){l:List Deferred}(hl:zgu B w' l):Sim B ok0 N s lv { a with defers:=l } w':=by
 have hok:∀ g,yba B ok0 lv w g->yba B ok0 lv w' g/\ytd w w' g:=fun g hg=>⟨⟨hg.1,by rw[h.size];exact hg.2.1,hg.2.2⟩,h.keep g⟩;refine⟨⟨⟨h.os.trans hs.inv.base.os,h.tape.trans hs.inv.base.tape,h.output.trans hs.inv.base.output,by rw[h.size];exact hs.inv.base.size,fun k hk hl=>(ho k hk).trans (hs.inv.base.block k hk hl),hs.inv.base.glob.keep (fun k hk=>ho k (qbg hk hs.inv.base.gsize)) (by rw[h.size];exact qbf _),hs.inv.base.gsize,hs.inv.base.lentG,hs.inv.base.rdok⟩,hs.inv.ok0lt,hs.inv.dom,hs.inv.inj,fun id x hx=>?_⟩,hs.size,fun x y hy=>⟨(hs.frame x y hy).1,(hs.frame x y hy).2.keepD hok⟩,hl,hs.big,hs.pin⟩;obtain⟨b,n,h1,h2⟩:=hs.inv.obj id x hx;refine⟨b,n,h1,?_⟩;cases b with
 | none=>exact h2
 | some b=>
  obtain⟨g1,g2,g3⟩:=h2;obtain⟨ob,hob⟩:∃ ob,w.heap[b]?=some ob:=⟨_,qbk g2⟩;have hd:xlt ob=false:=by
   have:=g3.notDefO hob;exact this
  exact⟨g1,by rw[h.size];exact g2,g3.keepD hok (by rw[h.keep b ob hob hd,hob])⟩
theorem yck{R:Ending->World->Prop}(hB:B.dl=[]){fr:FrameMode}(hfr:fr=.returning)(fin:∀ (a:Act) (w:World),Sim B ok0 N s lv a w->∃ v,(results fn a.tmps).run P w=.ok v w/\R (.returned v) w):∀ (ms:List Deferred) (a:Act) (w:World),a.defers=ms->Sim B ok0 N s lv a w->LeavesInM Fence.wide n P fn a.tmps R a.defers fr w
 | [],a,w,hm,hs=>by rw[hm,hfr];exact fin a w hs
 | d::ms,a,w,hm,hs=>by
  obtain⟨ms',h1,hn,h2⟩:=hs.defers;rw[hB,qba,hm]at h1;subst h1;obtain⟨D,hd,hD,hge⟩:=h2 d sm;rw[hm];refine⟨by rw[hfr];simp,.inl ⟨D,_,by rw[hd],run_takeDeferred hD,?_⟩⟩;simp only[qcq]at hn;have hsh:=Shut.put hD;have hs':=hs.shut hsh (fun k hk=>World.putObj_heap_other om) (l:=ms) ⟨ms,by rw[hB,qba],hn.2,fun d' hd'=>by
   obtain⟨D',e1,e2,e3⟩:=h2 d' (by simp[hd'])
   refine⟨D',e1,(World.putObj_heap_other fun e=>?_).trans e2,e3⟩
   subst e
   exact hn.1 (by rw[hd,<- e1];exact hd')⟩
  exact yck hB hfr fin ms { a with defers:=ms } _ rfl hs'
theorem con_of_A {args:List AV} (hf : P.funcs[f]? = some fn) (hn : (fn.name == "runtime.NumGoroutine") = false) (hb : fn.body = some c) (hN : fn.ntmps = N) (hrs : fn.results = rs.toArray) (hlen : (Nat.ble args.length N && Nat.ble N 1000000) = true) (hp : yas r = true) (h:A P N c (xmc rs r) ⟨zte args,fun _=>none⟩):Con P f args r:=by
 refine⟨⟨fn,hf,hn,by simp[hb]⟩,hp,fun ok0 w us hG hok hus=>?_⟩;simp only[qad,qdr]at hlen;obtain⟨hlen',hbig⟩:=hlen;refine(callsIn_wide (n:=0)).1 (callsIn_of_wp_marks hf hb trivial ?_);have hs:Sim (xgp w) ok0 N ⟨zte args,fun _=>none⟩ (fun _=>none) { tmps:=us.toArray++Array.replicate (fn.ntmps - us.toArray.size) undef,defers:=[] } w:=by
  refine⟨⟨Based.start hG,hok,fun _ _=>rfl,(fun i j b n m h=>by cases h),(fun id x hx=>by cases hx)⟩,?_,fun x y hy=>?_,⟨[],rfl,qdu,fun d hd=>by cases hd⟩,hbig,fun id b xs _ hx=>by cases hx⟩
  .simp [hN,hus.1];omega
  have hlt:=(qaa.1 hy).1;refine⟨.inl om,?_⟩;obtain⟨u,hu⟩:∃ u,us[x]?=some u:=⟨_,qae (by rw[hus.1];exact hlt)⟩;rw[ydx,if_pos om];simp only[yfm us _ x u hu];exact(hus.2 x y u hy hu).keep fun g hg=>⟨⟨.inl hg,hok g hg,fun id b n hb=>by cases hb⟩,rfl⟩
 refine wpIn_mono (h _ ok0 _ _ w hs) fun e a' w' ⟨s',lv',hq,hs'⟩=>?_;have fin:∀ x,xkv s' rs=some x->Frz s'.h x r->∀ (a':Act) (w':World),Sim (xgp w) ok0 N s' lv' a' w'->∃ v,(results fn a'.tmps).run P w'=.ok v w'/\∃ u,Ending.returned v=.returned u/\Rel (fun g=>(ok0 g\/w.heap.size<=g)/\g < w'.heap.size) w' (fun _=>none) r u/\Below w.heap.size w w':=by
  intro x hx hfz a' w' hs';obtain⟨u,hu,hrun⟩:=resA_run (P:=P) hs' hrs hx;exact⟨u,hrun,u,rfl,(hfz _ _ _ _ _ hs'.inv hu).keep (fun g hg=>⟨⟨hg.1.imp (fun h=>h) (fun h=>h.elim (fun h=>h.elim) (fun h=>h)),hg.2⟩,rfl⟩),hs'.inv.base.below⟩
 cases e with
 | normal=>obtain⟨x,hx,hfz⟩:=hq;exact yck rfl rfl (fin x hx hfz) _ a' w' rfl hs'
 | ret=>obtain⟨x,hx,hfz⟩:=hq;exact yck rfl rfl (fin x hx hfz) _ a' w' rfl hs'
 | _=>exact hq.elim
theorem ygm(h:ylj P f)(args:Array Value)(w:World):(callFunc f args).run P w=.ok (.enter f args) w:=by
 obtain⟨fn,h1,h2,h3⟩:=h;unfold callFunc;simp only[Sem.run_bind,program,Sem.run,Result.andThen_ok,h1,h2,h3,qbj,if_false,Sem.run_pure]
def evL(ρ:Operand->Option AV):List Operand->Option (List AV)
 | []=>some []
 | x::xs=>match ρ x,evL ρ xs with
  | some y,some ys=>some (y::ys)
  | _,_=>none
theorem yue:∀ (xs:List Operand) (ys:List AV),(∀ x y,x∈xs->ρ x=some y->Rel ok w lv y (a.eval x))->evL ρ xs=some ys->ybn ok w lv ys (xs.map a.eval)
 | [],ys,_,h=>by simp only[evL,Option.some.injEq]at h;subst h;exact⟨rfl,fun i x u h=>by simp at h⟩
 | x::xs,ys,hr,h=>by
  simp only[evL]at h;split at h
  .rename_i y ys' h1 h2;simp only[Option.some.injEq]at h;subst h;have:=yue xs ys' (fun z y hz=>hr z y (by simp[hz])) h2;refine⟨by simp[this.1],fun i y' u hy hu=>?_⟩;cases i with
   | zero=>simp only[qas,Option.some.injEq,qce]at hy hu;subst hy hu;exact hr x y sm h1
   | succ i=>exact this.2 i y' u (by simpa using hy) (by simpa using hu)
  cases h
theorem zkj{g:Operand}{args:List Operand}{ats:Array TypeId}{caps:List AV}(hf:ρ g=some (.fn f caps))(hx:evL ρ args=some xs)(hc:Con P f (xs++caps) r):
  ybu P h ρ (.call { callee:=.value g,args:=args.toArray,argTypes:=ats }) ty r:=by
 intro B ok0 lv w a o ho hty hi hops K Q hK;have hfr:=hops g _ (by simp[Op.operands,Call.operands]) hf;have har:=yue (a:=a) args xs (fun x y hm=>hops x y (by simp[Op.operands,Call.operands,hm])) hx;generalize hv:a.eval g=v at hfr;cases hfr with
 | fn vs hl hr=>
  have hall:ybn (yba B ok0 lv w) w (fun _=>none) (xs++caps) (args.map a.eval++vs):=by
   refine⟨by simp[har.1,hl] ,fun i x u hx hu=>?_⟩;refine Rel.relive (lv:=lv) ?_ (fun id b n hb _=>by cases hb);by_cases hlt:i < xs.length
   .rw [qam hlt]at hx;rw[qam (by rw[har.1];exact hlt)]at hu;exact har.2 i x u hx hu
   rw[qah om]at hx;rw[qah (by rw[har.1];omega),har.1]at hu;exact hr _ x u hx hu
  have hrun:(execOp a.eval o).run P w=.ok (.enter f (args.map a.eval++vs).toArray) w:=by
   unfold execOp;simp only[ho,resolve,Deferred.ofValue,hv,Sem.run_bind,Sem.run_pure,Result.andThen_ok,invoke];rw[ygm hc.1];simp
  unfold Oper.wp;rw[hrun];refine(hc.2.2 (yba B ok0 lv w) w (args.map a.eval++vs) hi.base.glob (fun g hg=>hg.lt) hall).mono fun e w' ⟨u,he,hu,hb⟩=>?_;subst he;refine hK u w' ?_ (hi.grow hb) hb;refine Rel.keep (Rel.relive hu fun id b n _ hm=>by rw[yas.ment hc.2.1]at hm;cases hm) fun g hg=>⟨?_,rfl⟩;rcases hg.1 with h1|h1
  .exact ⟨h1.1,hg.2,h1.2.2⟩
  exact⟨.inr (.inr (qbp hi.base.size h1)),hg.2,fun id b n hb=>by have:=hi.lvlt hb;omega⟩
end
section
open Go.RowKit
inductive TK where
 | int (k:IntKind)
 | bool
 | string
 | strct (fields:List (Nat × Nat × Bool))
 | arr (n esize:Nat) (eagg:Bool)
 | slc (elem esize:Nat) (eagg:Bool) (ebytes:Nat) (ezero:List Value)
 | map (key elem:Nat)
 | other
structure Ty where
 kind:TK
 size:Nat
 agg:Bool
 zero:List Value
def xmg:TypeDesc->Bool
 | .struct _=>true
 | .array _ _=>true
 | _=>false
def yix(P:Program)(t s:Nat)(ag:Bool):Prop:=(P.info? t).map (·.size)=some s/\(P.underlying t).map xmg=some ag
def yte(P:Program)(t:Nat)(z:List Value):Prop:=(P.info? t).map (fun i=>i.zero.map Value.cells)=some (some z.toArray)
def ygb(P:Program)(t:Nat):TK->Prop
 | .int k=>P.underlying t=some (.int k)
 | .bool=>P.underlying t=some .bool
 | .string=>P.underlying t=some .string
 | .strct fs=>∃ flds,P.underlying t=some (.struct flds)/\flds.size=fs.length/\∀ (i o s:Nat) (ag:Bool),fs[i]?=some (o,s,ag)->∃ f,flds[i]?=some f/\f.offset=o/\yix P f.type s ag/\s≠0
 | .arr n es ea=>∃ e,P.underlying t=some (.array n e)/\yix P e es ea
 | .slc e es ea eb ez=>P.underlying t=some (.slice e)/\yix P e es ea/\(P.info? e).map (·.bytes)=some eb/\yte P e ez/\ez.length=es/\0 < es
 | .map k e=>P.underlying t=some (.map k e)
 | .other=>True
def xmf(P:Program)(t:Nat)(y:Ty):Prop:=yix P t y.size y.agg/\yte P t y.zero/\ygb P t y.kind
def TOK(P:Program)(T:Nat->Option Ty):Prop:=∀ t y,T t=some y->xmf P t y
section
variable{P:Program}{w:World}
theorem yix.run{s:Nat}(h:yix P t s ag):(sizeOf t).run P w=.ok s w/\(isAgg t).run P w=.ok ag w:=by
 obtain⟨h1,h2⟩:=h;cases hi:P.info? t with
 | none=>simp[hi]at h1
 | some i=>
  simp only[hi,qav,Option.some.injEq]at h1;cases hd:P.underlying t with
  | none=>simp[hd]at h2
  | some d=>
   simp only[hd,qav,Option.some.injEq]at h2;refine⟨by simp[sizeOf,typeInfo,hi,h1],?_⟩;unfold isAgg;rw[Sem.run_bind,run_underlying hd];cases d <;> simp_all[xmg]
theorem yte.run{z:List Value}(h:yte P t z):∃ v,(zeroValue t).run P w=.ok v w/\v.cells=z.toArray:=by
 unfold yte at h;cases hi:P.info? t with
 | none=>simp[hi]at h
 | some i=>
  simp only[hi,qav,Option.some.injEq]at h;cases hz:i.zero with
  | none=>simp[hz]at h
  | some v=>
   simp only[hz,qav,Option.some.injEq]at h;exact⟨v,by simp[zeroValue,typeInfo,hi,hz],h⟩
variable{h:Nat->Option LObj}{ρ:Operand->Option AV}{ty:TypeId}
theorem yay {r:AV} (hr:∀ (B:Bse) (ok0:Nat->Prop) (lv:Live) (w:World) (a:Act) (o:Oper),o.op=op->o.type=ty->Inv B ok0 h lv w->(∀ x y,x∈op.operands->ρ x=some y->Rel (yba B ok0 lv w) w lv y (a.eval x)) ->
  ∃ u,(execOp a.eval o).run P w=.ok (.value u) w/\Rel (yba B ok0 lv w) w lv r u):ybu P h ρ op ty r:=by
 intro B ok0 lv w a o ho hty hi hx K Q hK;obtain⟨u,h1,h2⟩:=hr B ok0 lv w a o ho hty hi hx;unfold Oper.wp;rw[h1];exact hK u w h2 hi (Below.refl _ _)
theorem yield_move{x:Operand}{y:AV}(hx:ρ x=some y):ybu P h ρ (.move x) ty y:=
 yay fun B ok0 lv w a o ho hty hi hops=>⟨a.eval x,by simp[execOp,ho],hops x y (by simp[Op.operands]) hx⟩
theorem yield_assign{x:Operand}{y:AV}(hx:ρ x=some y):ybu P h ρ (.assign x) ty y:=
 yay fun B ok0 lv w a o ho hty hi hops=>⟨a.eval x,by simp[execOp,ho],hops x y (by simp[Op.operands]) hx⟩
theorem zkk{c x y:Operand}{b:Bool}{r:AV}(hc:ρ c=some (.v (.bool b)))(hr:(if b then ρ x else ρ y)=some r):ybu P h ρ (.pick c x y) ty r:=
 yay fun B ok0 lv w a o ho hty hi hops=>by
  have h1:=ykw (hops c _ (by simp[Op.operands]) hc);refine⟨if b then a.eval x else a.eval y,by simp[execOp,ho,h1,asBool],?_⟩;cases b
  .exact hops y r (by simp[Op.operands]) hr
  exact hops x r (by simp[Op.operands]) hr
def zgg:Nat->List AV->Option (List AV)
 | 0,_=>some []
 | n+1,x::xs=>match zgg n xs with
  | some ys=>some (x::ys)
  | none=>none
 | _+1,[]=>none
theorem ysu:∀ {n:Nat} {xs ys:List AV},zgg n xs=some ys->ys.length=n/\∀ (j:Nat) (y:AV),ys[j]?=some y->xs[j]?=some y
 | 0,xs,ys,h=>by simp only[zgg,Option.some.injEq]at h;subst h;exact⟨rfl,fun j y h=>by simp at h⟩
 | n+1,[],ys,h=>by simp[zgg]at h
 | n+1,x::xs,ys,h=>by
  simp only[zgg]at h;split at h
  .rename_i zs hz;simp only[Option.some.injEq]at h;subst h;obtain⟨h1,h2⟩:=ysu hz;refine⟨by simp[h1],fun j y hy=>?_⟩;cases j with
   | zero=>simpa using hy
   | succ j=>exact h2 j y (by simpa using hy)
  cases h
def ztn(ag:Bool)(size:Nat)(l:List AV):Option AV:=
 match ag,l with
 | false,x::_=>some x
 | false,[]=>none
 | true,l=>match zgg size l with
  | some ys=>some (.agg ys)
  | none=>none
def yok(ok:Nat->Prop)(w:World)(lv:Live)(g o:Nat)(xs:List AV):Prop:=∀ (j:Nat) (x:AV),xs[j]?=some x->yeb x=true/\∃ u,w.cell? ⟨g,o+j,none⟩=some u/\Rel ok w lv x u
theorem yok.drop{ok:Nat->Prop}{g o:Nat}{xs:List AV}(hc:yok ok w lv g o xs)(k:Nat):yok ok w lv g (o+k) (xs.drop k):=by
 intro j x hx;rw[qby]at hx;have:=hc (k+j) x hx;rw[<- qdf]at this;exact this
theorem ymt{ok:Nat->Prop}{g o:Nat}{xs:List AV}{t s:Nat}{r:AV}(hs:yix P t s ag)(hc:yok ok w lv g o xs)(hr:ztn ag s xs=some r):∃ u,(loadVar t ⟨g,o,none⟩).run P w=.ok u w/\Rel ok w lv r u:=by
 obtain⟨h1,h2⟩:=hs.run (w:=w);unfold loadVar;cases ag with
 | false=>
  match xs,hr with
  | x::xs,hr=>
   simp only[ztn,Option.some.injEq]at hr;subst hr;obtain⟨_,u,hu,hrel⟩:=hc 0 x rfl;simp only[qdv]at hu;exact⟨u,by simp[h2,run_load,hu],hrel⟩
 | true=>
  simp only[ztn]at hr;split at hr
  .rename_i ys hy;simp only[Option.some.injEq]at hr;subst hr;obtain⟨h3,h4⟩:=ysu hy;have hcell:∀ j,j < s->∃ y u,ys[j]?=some y/\yeb y=true/\w.cell? ⟨g,o+j,none⟩=some u/\Rel ok w lv y u:=fun j hj=>by
    have hy:=qae (l:=ys) (i:=j) om;obtain⟨g1,u,g2,g3⟩:=hc j _ (h4 j _ hy);exact⟨_,u,hy,g1,g2,g3⟩
   let f:Nat->Value:=fun j=>(w.cell? ⟨g,o+j,none⟩).getD undef
   have hl:(loadCells ⟨g,o,none⟩ s).run P w=.ok ((List.range s).map f).toArray w:=run_loadCells w _ s f fun j hj=>by
    obtain⟨y,u,_,_,hu,_⟩:=hcell j hj;have:(⟨g,o,none⟩:Addr).add j=⟨g,o+j,none⟩:=by unfold Addr.add;split <;> simp_all
    rw[this];simp[f,hu]
   refine⟨.agg ((List.range s).map f).toArray,by simp[h1,h2,hl],.agg _ (by simp[h3]) (fun c hc=>?_) (fun i c u hi hu=>?_)⟩
   .obtain ⟨j,hj⟩:=qao hc;obtain⟨y,u,hy,h5,_⟩:=hcell j (by have:=(qaa.1 hj).1;omega);rw[hj]at hy;cases hy;exact h5
   have hi':=(qaa.1 hi).1;obtain⟨y,u',hy,_,hu',hrel⟩:=hcell i om;rw[hi]at hy;cases hy;rw[qak,qcf om]at hu;simp only[qav,Option.some.injEq,f,hu',qbu]at hu;subst hu;exact hrel
  cases hr
theorem yhr{ok0:Nat->Prop}{id off:Nat}{xs:List AV}(hi:Inv B ok0 h lv w)(hx:ycw (h id)=some xs)(hne:xs≠[]\/h id=some (.cells xs))(hr:Rel (yba B ok0 lv w) w lv (.lp id off) u):
  ∃ b n,lv id=some (some b,n)/\u=.pointer (some ⟨b,off,none⟩)/\yok (yba B ok0 lv w) w lv b 0 xs:=by
 obtain⟨b,n,h1,h2,h3,c,e,g1,g2,g3,g4,g5⟩:=hi.blk hx hne;cases hr with
 | lp _ _ hp=>
  refine⟨b,n,h1,hp b n h1,fun j x hj=>⟨g4 x (qab hj),?_⟩⟩;have hlt:=(qaa.1 hj).1;have hc:c[j]?=some (c[j]'om):=qbk _;exact⟨_,by simp only[World.cell?,g1];simp[hc],g5 j x _ hj hc⟩
theorem yor{ok:Nat->Prop}{row:List AV}{off:Nat}(hr:Rel ok w lv (.dp row off) u):
  ∃ g o,u=.pointer (some ⟨g,o+off,none⟩)/\ok g/\yok ok w (fun _=>none) g o row:=by
 cases hr with
 | dp g o u hg hc hr=>exact⟨g,o,rfl,hg,fun j x hx=>⟨(hc j x hx).2,u j,(hc j x hx).1,hr j x hx⟩⟩
theorem zjn{ok:Nat->Prop}{x:AV}(hr:Rel ok w (fun _=>none) x u)(hp:yas x=true):Rel ok w lv x u:=hr.relive fun id b n _ hm=>by rw[yas.ment hp]at hm;cases hm
theorem yxl{t s:Nat}{x:Operand}{id off:Nat}{xs:List AV}{r:AV}(hs:yix P t s ag)(hx:ρ x=some (.lp id off))(hh:ycw (h id)=some xs)(hne:xs≠[]\/h id=some (.cells xs))(hr:ztn ag s (xs.drop off)=some r):ybu P h ρ (.load t x) ty r:=
 yay fun B ok0 lv w a o ho hty hi hops=>by
  obtain⟨b,n,h1,h2,h3⟩:=yhr hi hh hne (hops x _ (by simp[Op.operands]) hx);have h4:=h3.drop off;rw[qay]at h4;obtain⟨u,h5,h6⟩:=ymt hs h4 hr;exact⟨u,by simp[execOp,ho,h2,Instr.loadAt,Instr.sureAddr,h5],h6⟩
theorem yield_load_dp{t s:Nat}{x:Operand}{row:List AV}{off:Nat}{r:AV}(hs:yix P t s ag)(hx:ρ x=some (.dp row off))(hr:ztn ag s (row.drop off)=some r)(hp:yas r=true):ybu P h ρ (.load t x) ty r:=
 yay fun B ok0 lv w a o ho hty hi hops=>by
  obtain⟨g,o',h1,h2,h3⟩:=yor (hops x _ (by simp[Op.operands]) hx);obtain⟨u,h5,h6⟩:=ymt hs (h3.drop off) hr;exact⟨u,by simp[execOp,ho,h1,Instr.loadAt,Instr.sureAddr,h5],zjn h6 hp⟩
theorem ymm(g o k:Nat):(⟨g,o,none⟩:Addr).add k=⟨g,o+k,none⟩:=by unfold Addr.add;split <;> simp_all
theorem zph{t i o s:Nat}{fs:List (Nat × Nat × Bool)}(hk:ygb P t (.strct fs))(hf:fs[i]?=some (o,s,ag))(g b:Nat):(Instr.fieldAt t (.pointer (some ⟨g,b,none⟩)) i).run P w=.ok (.pointer (some ⟨g,b+o,none⟩)) w:=by
 obtain⟨flds,h1,_,h2⟩:=hk;obtain⟨f,h3,h4,h5,h6⟩:=h2 i o s ag hf;have h7:=(h5.run (w:=w)).1;simp[Instr.fieldAt,run_underlying h1,h3,Instr.sureAddr,fieldPlace,h7,h6,ymm,h4]
theorem ytr{t i o s:Nat}{fs:List (Nat × Nat × Bool)}{x:Operand}{id off:Nat}{xs:List AV}(hk:ygb P t (.strct fs))(hf:fs[i]?=some (o,s,ag))(hx:ρ x=some (.lp id off))(hh:ycw (h id)=some xs)(hne:xs≠[]\/h id=some (.cells xs)):ybu P h ρ (.fieldAddr t x i) ty (.lp id (off+o)):=
 yay fun B ok0 lv w a o' ho hty hi hops=>by
  obtain⟨b,n,h1,h2,h3⟩:=yhr hi hh hne (hops x _ (by simp[Op.operands]) hx);refine⟨.pointer (some ⟨b,off+o,none⟩),by simp[execOp,ho,h2,zph hk hf],.lp _ rfl fun b' n' hb=>?_⟩;rw[h1]at hb;cases hb;rfl
theorem yield_field_dp{t i o s:Nat}{fs:List (Nat × Nat × Bool)}{x:Operand}{row:List AV}{off:Nat}(hk:ygb P t (.strct fs))(hf:fs[i]?=some (o,s,ag))(hx:ρ x=some (.dp row off)):ybu P h ρ (.fieldAddr t x i) ty (.dp row (off+o)):=
 yay fun B ok0 lv w a o' ho hty hi hops=>by
  have hr:=hops x _ (by simp[Op.operands]) hx;generalize hv:a.eval x=v at hr;cases hr with
  | dp g q u hg hc hr=>exact⟨.pointer (some ⟨g,q+off+o,none⟩),by simp[execOp,ho,hv,zph hk hf],by rw[qdf];exact .dp g q u hg hc hr⟩
theorem part_run{ok:Nat->Prop}{t o s:Nat}{cs:List AV}{vs:List Value}{r:AV}(hs:yix P t s ag)(hl:vs.length=cs.length)(hc:∀ c∈cs,yeb c=true)(hr:∀ (i:Nat) (c:AV) (u:Value),cs[i]?=some c->vs[i]?=some u->Rel ok w lv c u)(hg:ztn ag s (cs.drop o)=some r):
  ∃ u,(part t vs.toArray o).run P w=.ok u w/\Rel ok w lv r u:=by
 obtain⟨h1,h2⟩:=hs.run (w:=w);unfold part;cases ag with
 | false=>
  generalize hd:cs.drop o=l at hg
  match l,hg with
  | x::l,hg=>
   simp only[ztn,Option.some.injEq]at hg;subst hg;have hx:cs[o]?=some x:=by
    have:=congrArg (fun q=>q[0]?) hd;simpa using this
   obtain⟨u,hu⟩:∃ u,vs[o]?=some u:=⟨_,qae (by have:=(qaa.1 hx).1;omega)⟩;exact⟨u,by simp[h2,hu],hr o x u hx hu⟩
 | true=>
  simp only[ztn]at hg;split at hg
  .rename_i ys hy;simp only[Option.some.injEq]at hg;subst hg;obtain⟨h3,h4⟩:=ysu hy;have hle:o+s<=cs.length\/s=0:=by
    rcases qfv s with h|h
    .exact .inr h
    have:=h4 (s - 1) _ (qae om);rw[qby]at this;have:=(qaa.1 this).1;exact .inl om
   have hex:vs.toArray.extract o (o+s)=((vs.drop o).take s).toArray:=by simp
   refine⟨.agg (vs.toArray.extract o (o+s)),by simp[h1,h2],?_⟩;rw[hex];refine .agg _ ?_ (fun c hc'=>?_) (fun i c u hi hu=>?_)
   .rw [h3,qcj,qdj];omega
   .obtain ⟨j,hj⟩:=qao hc';have:=h4 j c hj;rw[qby]at this;exact hc c (qab this)
   have h5:=h4 i c hi;rw[qby]at h5;rw[qbc]at hu;split at hu
   .rw [qby]at hu;exact hr _ c u h5 hu
   cases hu
  cases hg
theorem yield_field{t i o s:Nat}{fs:List (Nat × Nat × Bool)}{x:Operand}{cs:List AV}{r:AV}(hk:ygb P t (.strct fs))(hf:fs[i]?=some (o,s,ag))(hx:ρ x=some (.agg cs))(hr:ztn ag s (cs.drop o)=some r):ybu P h ρ (.field t x i) ty r:=
 yay fun B ok0 lv w a o' ho hty hi hops=>by
  have hr':=hops x _ (by simp[Op.operands]) hx;generalize hv:a.eval x=v at hr';cases hr' with
  | agg vs hl hc hrel=>
   obtain⟨flds,h1,_,h2⟩:=hk;obtain⟨f,h3,h4,h5,h6⟩:=h2 i o s ag hf;obtain⟨u,h7,h8⟩:=part_run (w:=w) h5 hl hc hrel hr;exact⟨u,by simp[execOp,ho,hv,Instr.field,run_underlying h1,h3,asAgg,h4,h7],h8⟩
theorem yield_extract{x:Operand}{i:Nat}{cs:List AV}{r:AV}(hx:ρ x=some (.tup cs))(hr:cs[i]?=some r):ybu P h ρ (.extract x i) ty r:=
 yay fun B ok0 lv w a o' ho hty hi hops=>by
  have hr':=hops x _ (by simp[Op.operands]) hx;generalize hv:a.eval x=v at hr';cases hr' with
  | tup vs hl hrel=>
   obtain⟨u,hu⟩:∃ u,vs[i]?=some u:=⟨_,qae (by have:=(qaa.1 hr).1;omega)⟩;exact⟨u,by simp[execOp,ho,hv,Instr.extract,hu],hrel i r u hr hu⟩
theorem yvu{t e es len cap:Nat}{a:Option Addr}{i:Int}(hu:P.underlying t=some (.slice e))(hs:yix P e es ea)(g o:Nat)(ha:a=some ⟨g,o,none⟩)(h0:0<=i)(h1:i < len):
  (Instr.indexAt t (.slice a len cap) (.int k i)).run P w=.ok (.pointer (some ⟨g,o+i.toNat * es,none⟩)) w:=by
 subst ha;have h7:=(hs.run (w:=w)).1;simp[Instr.indexAt,asIntOf,run_underlying hu,h7,h0,h1,ymm]
theorem ynl{t e es eb:Nat}{x y:Operand}{i:Int}{rows:List (List AV)}{row:List AV}(hk:ygb P t (.slc e es ea eb ez))(hx:ρ x=some (.sl es rows))(hy:ρ y=some (.v (.int k i)))(h0:0<=i)(hrow:rows[i.toNat]?=some row):
  ybu P h ρ (.indexAddr t x y) ty (.dp row 0):=
 yay fun B ok0 lv w a o' ho hty hi hops=>by
  have hr:=hops x _ (by simp[Op.operands]) hx;have hiv:=ykw (hops y _ (by simp[Op.operands]) hy);generalize hv:a.eval x=v at hr;cases hr with
  | sl ad cap u g q hn hc ha hsz hg hcell hrel=>
   have hlt:=(qaa.1 hrow).1;obtain⟨rfl,hok⟩:=hg (by intro h;simp[h]at hrow);have hrun:=yvu (P:=P) (w:=w) (cap:=cap) (k:=k) hk.1 hk.2.1 g q rfl h0 (i:=i) (len:=rows.length) om;refine⟨.pointer (some ⟨g,q+i.toNat * es,none⟩),by simp[execOp,ho,hv,hiv,hrun],?_⟩;exact .dp (off:=0) g (q+i.toNat * es) (fun j=>u i.toNat j) hok (fun j c hj=>hcell i.toNat j row c hrow hj) (fun j c hj=>hrel i.toNat j row c hrow hj)
theorem yts{t e es eb:Nat}{x y:Operand}{i:Int}{id len:Nat}{ob:LObj}(hk:ygb P t (.slc e es ea eb ez))(hx:ρ x=some (.ls id es len))(hh:h id=some ob)(hy:ρ y=some (.v (.int k i)))(h0:0<=i)(h1:i < len):
  ybu P h ρ (.indexAddr t x y) ty (.lp id (i.toNat * es)):=
 yay fun B ok0 lv w a o' ho hty hi hops=>by
  have hr:=hops x _ (by simp[Op.operands]) hx;have hiv:=ykw (hops y _ (by simp[Op.operands]) hy);obtain⟨b,n,hb,_⟩:=hi.obj id ob hh;generalize hv:a.eval x=v at hr;cases hr with
  | ls _ hone hls=>
   have hl:=hls b n hb;cases b with
   | none=>have:=hl.2;omega
   | some b=>
   obtain⟨cap,rfl,hcap,hmax,hn⟩:=hl;have hrun:=yvu (P:=P) (w:=w) (cap:=cap) (k:=k) hk.1 hk.2.1 b 0 rfl h0 (i:=i) (len:=len) h1;refine⟨.pointer (some ⟨b,0+i.toNat * es,none⟩),by simp[execOp,ho,hv,hiv,hrun],.lp _ rfl fun b' n' hb'=>?_⟩;rw[hb]at hb';cases hb';simp
theorem zad{t n es:Nat}{i:Int}(hk:ygb P t (.arr n es ea))(g o:Nat)(h0:0<=i)(h1:i < n):(Instr.indexAt t (.pointer (some ⟨g,o,none⟩)) (.int k i)).run P w=.ok (.pointer (some ⟨g,o+i.toNat * es,none⟩)) w:=by
 obtain⟨e,hu,hs⟩:=hk;have h7:=(hs.run (w:=w)).1;simp[Instr.indexAt,asIntOf,run_underlying hu,h7,h0,h1,ymm,Instr.sureAddr]
theorem yoj{t n es:Nat}{x y:Operand}{i:Int}{id off:Nat}{xs:List AV}(hk:ygb P t (.arr n es ea))(hx:ρ x=some (.lp id off))(hh:ycw (h id)=some xs)(hne:xs≠[]\/h id=some (.cells xs))(hy:ρ y=some (.v (.int k i)))(h0:0<=i)(h1:i < n):
  ybu P h ρ (.indexAddr t x y) ty (.lp id (off+i.toNat * es)):=
 yay fun B ok0 lv w a o' ho hty hi hops=>by
  have hiv:=ykw (hops y _ (by simp[Op.operands]) hy);obtain⟨b,m,hb,h2,_⟩:=yhr hi hh hne (hops x _ (by simp[Op.operands]) hx);refine⟨.pointer (some ⟨b,off+i.toNat * es,none⟩),by simp[execOp,ho,h2,hiv,zad (w:=w) hk b off h0 h1],.lp _ rfl fun b' n' hb'=>?_⟩;rw[hb]at hb';cases hb';rfl
theorem yield_indexArr_dp{t n es:Nat}{x y:Operand}{i:Int}{row:List AV}{off:Nat}(hk:ygb P t (.arr n es ea))(hx:ρ x=some (.dp row off))(hy:ρ y=some (.v (.int k i)))(h0:0<=i)(h1:i < n):
  ybu P h ρ (.indexAddr t x y) ty (.dp row (off+i.toNat * es)):=
 yay fun B ok0 lv w a o' ho hty hi hops=>by
  have hiv:=ykw (hops y _ (by simp[Op.operands]) hy);have hr:=hops x _ (by simp[Op.operands]) hx;generalize hv:a.eval x=v at hr;cases hr with
  | dp g q u hg hc hr=>exact⟨.pointer (some ⟨g,q+off+i.toNat * es,none⟩),by simp[execOp,ho,hv,hiv,zad (w:=w) hk g (q+off) h0 h1],by rw[qdf];exact .dp g q u hg hc hr⟩
theorem yield_len_string{t:Nat}{x:Operand}{s:ByteArray}(hk:ygb P t .string)(hx:ρ x=some (.v (.string s))):ybu P h ρ (.call { callee:=.builtin .len,args:=#[x],argTypes:=#[t] }) ty (.v (.int .i64 s.size)):=
 yay fun B ok0 lv w a o' ho hty hi hops=>by
  have h1:=ykw (hops x _ (by simp[Op.operands,Call.operands]) hx);have hk':P.underlying t=some .string:=hk;exact⟨.int .i64 s.size,by simp[execOp,ho,resolve,invoke,builtin,Builtin.len_,h1,run_underlying hk',goInt],.v _⟩
theorem zau{t e es eb:Nat}{x:Operand}{z:Nat}{rows:List (List AV)}(hk:ygb P t (.slc e es ea eb ez))(hx:ρ x=some (.sl z rows)):ybu P h ρ (.call { callee:=.builtin .len,args:=#[x],argTypes:=#[t] }) ty (.v (.int .i64 rows.length)):=
 yay fun B ok0 lv w a o' ho hty hi hops=>by
  have hr:=hops x _ (by simp[Op.operands,Call.operands]) hx;generalize hv:a.eval x=v at hr;cases hr with
  | sl ad cap u g q hn hc ha hsz hg hcell hrel=>exact⟨.int .i64 rows.length,by simp[execOp,ho,resolve,invoke,builtin,Builtin.len_,hv,run_underlying hk.1,goInt],.v _⟩
theorem yield_len_nil{t e es eb:Nat}{x:Operand}(hk:ygb P t (.slc e es ea eb ez))(hx:ρ x=some (.v (.slice none 0 0))):ybu P h ρ (.call { callee:=.builtin .len,args:=#[x],argTypes:=#[t] }) ty (.v (.int .i64 0)):=
 yay fun B ok0 lv w a o' ho hty hi hops=>by
  have h1:=ykw (hops x _ (by simp[Op.operands,Call.operands]) hx);exact⟨.int .i64 0,by simp[execOp,ho,resolve,invoke,builtin,Builtin.len_,h1,run_underlying hk.1,goInt],.v _⟩
theorem zat{t e es eb:Nat}{x:Operand}{id z len:Nat}{ob:LObj}(hk:ygb P t (.slc e es ea eb ez))(hx:ρ x=some (.ls id z len))(hh:h id=some ob):ybu P h ρ (.call { callee:=.builtin .len,args:=#[x],argTypes:=#[t] }) ty (.v (.int .i64 len)):=
 yay fun B ok0 lv w a o' ho hty hi hops=>by
  have hr:=hops x _ (by simp[Op.operands,Call.operands]) hx;obtain⟨b,n,hb,_⟩:=hi.obj id ob hh;generalize hv:a.eval x=v at hr;cases hr with
  | ls _ hone hls=>
   have hl:=hls b n hb;cases b with
   | none=>
    obtain⟨rfl,rfl⟩:=hl;exact⟨.int .i64 0,by simp[execOp,ho,resolve,invoke,builtin,Builtin.len_,hv,run_underlying hk.1,goInt],.v _⟩
   | some b=>
   obtain⟨cap,rfl,hcap,hmax,hn⟩:=hl;exact⟨.int .i64 len,by simp[execOp,ho,resolve,invoke,builtin,Builtin.len_,hv,run_underlying hk.1,goInt],.v _⟩
def toV:AV->Option Value
 | .v x=>some x
 | .agg cs=>match toVs cs with
  | some vs=>some (.agg vs.toArray)
  | none=>none
 | _=>none
 where toVs:List AV->Option (List Value)
 | []=>some []
 | .v x::cs=>match toVs cs with
  | some vs=>some (x::vs)
  | none=>none
 | _::_=>none
theorem zzm{ok:Nat->Prop}{lv:Live}:∀ {cs:List AV} {vs us:List Value},toV.toVs cs=some vs->us.length=cs.length->(∀ (i:Nat) (c:AV) (u:Value),cs[i]?=some c->us[i]?=some u->Rel ok w lv c u)->us=vs
 | [],vs,us,h,hl,_=>by simp only[toV.toVs,Option.some.injEq]at h;subst h;exact qax (by simpa using hl)
 | .v x::cs,vs,us,h,hl,hr=>by
  simp only[toV.toVs]at h;split at h
  .rename_i vs' hv;simp only[Option.some.injEq]at h;subst h
   match us,hl with
   | u::us,hl=>
    have e1:=ykw (hr 0 _ u rfl rfl);have e2:us=vs':=zzm (ok:=ok) (lv:=lv) hv (by simpa using hl) fun i c u h1 h2=>hr (i+1) c u (by simpa using h1) (by simpa using h2);rw[e1,e2]
  cases h
 | .sl _ _::_,_,_,h,_,_=>by simp[toV.toVs]at h
 | .dp _ _::_,_,_,h,_,_=>by simp[toV.toVs]at h
 | .lp _ _::_,_,_,h,_,_=>by simp[toV.toVs]at h
 | .ls _ _ _::_,_,_,h,_,_=>by simp[toV.toVs]at h
 | .agg _::_,_,_,h,_,_=>by simp[toV.toVs]at h
 | .tup _::_,_,_,h,_,_=>by simp[toV.toVs]at h
 | .fn _ _::_,_,_,h,_,_=>by simp[toV.toVs]at h
 | .fm _ _::_,_,_,h,_,_=>by simp[toV.toVs]at h
 | .mp _::_,_,_,h,_,_=>by simp[toV.toVs]at h
 | .any::_,_,_,h,_,_=>by simp[toV.toVs]at h
 | .one::_,_,_,h,_,_=>by simp[toV.toVs]at h
 | .mv _::_,_,_,h,_,_=>by simp[toV.toVs]at h
theorem yzk{ok:Nat->Prop}{x:AV}{v:Value}(h:toV x=some v)(hr:Rel ok w lv x u):u=v:=by
 cases x with
 | v y=>simp only[toV,Option.some.injEq]at h;rw[ykw hr,h]
 | agg cs=>
  simp only[toV]at h;split at h
  .rename_i vs hv;simp only[Option.some.injEq]at h;subst h;cases hr with
   | agg us hl hc hr=>rw[zzm hv hl hr]
  cases h
 | _=>simp[toV]at h
def zgz(ρ:Operand->Option AV)(x:Operand):Value:=
 match ρ x with
 | some y=>match toV y with
  | some v=>v
  | none=>undef
 | none=>undef
def ygy(ρ:Operand->Option AV):List Operand->Bool
 | []=>true
 | x::xs=>(match ρ x with
  | some y=>(toV y).isSome
  | none=>false) && ygy ρ xs
theorem yza{ρ:Operand->Option AV}:∀ {l:List Operand},ygy ρ l=true->∀ x∈l,∃ y v,ρ x=some y/\toV y=some v
 | [],_,x,hx=>by cases hx
 | z::l,h,x,hx=>by
  simp only[ygy,qad]at h;rcases qaq.1 hx with rfl|hx
  .cases hρ:ρ x with
   | none=>simp[hρ]at h
   | some y=>
    simp only[hρ]at h;obtain⟨v,hv⟩:=qgm.1 h.1;exact⟨y,v,rfl,hv⟩
  exact yza h.2 x hx
theorem yield_pure (hs : ∀ cs b, op ≠ .select cs b) (hp : ygy ρ op.operands.toList = true) (hr : execOp (zgz ρ) ⟨none, op, ty, "", #[], none⟩ = .pure (.value u)): ybu P h ρ op ty (.v u) :=
 yay fun B ok0 lv w a o ho hty hi hops=>by
  have he:execOp a.eval o=execOp (zgz ρ) o:=execOp_congr o (fun cs b=>by rw[ho];exact hs cs b) fun x hx=>by
   rw[ho]at hx;obtain⟨y,v,h1,h2⟩:=yza hp x (by simpa using hx);rw[yzk h2 (hops x y hx h1)];simp[zgz,h1,h2]
  have hq : execOp (zgz ρ) o = execOp (zgz ρ) ⟨none, op, ty, "", #[], none⟩ := by
   subst ho hty;cases o;rfl
  exact⟨u,by rw[he,hq,hr];rfl,.v u⟩
theorem yco (hs : ∀ cs b, op ≠ .select cs b) (hp : ygy ρ op.operands.toList = true) (hr : ∀ w, (execOp (zgz ρ) ⟨none, op, ty, "", #[], none⟩).run P w = .ok (.value u) w): ybu P h ρ op ty (.v u) :=
 yay fun B ok0 lv w a o ho hty hi hops=>by
  have he:execOp a.eval o=execOp (zgz ρ) o:=execOp_congr o (fun cs b=>by rw[ho];exact hs cs b) fun x hx=>by
   rw[ho]at hx;obtain⟨y,v,h1,h2⟩:=yza hp x (by simpa using hx);rw[yzk h2 (hops x y hx h1)];simp[zgz,h1,h2]
  have hq : execOp (zgz ρ) o = execOp (zgz ρ) ⟨none, op, ty, "", #[], none⟩ := by
   subst ho hty;cases o;rfl
  exact⟨u,by rw[he,hq,hr],.v u⟩
end
end
section
open Go.RowKit
theorem ycp{a:Nat}(h:a≠b):Nat.beq a b=false:=by
 cases hq:Nat.beq a b with
 | false=>rfl
 | true=>exact absurd (qaf hq) h
def yak:List (Nat × AV)->Nat->Option AV
 | [],_=>none
 | (d,r)::t,s=>match Nat.beq s d with
  | true=>some r
  | false=>yak t s
def yac:List (Nat × Option LObj)->Nat->Option LObj
 | [],_=>none
 | (d,r)::t,s=>match Nat.beq s d with
  | true=>r
  | false=>yac t s
def S(t:List (Nat × AV))(h:List (Nat × Option LObj)):SS:=⟨yak t,yac h⟩
theorem ydm(d:Nat)(r:AV)(t:List (Nat × AV)):yee (yak t) (some d) r=yak ((d,r)::t):=by
 funext s;simp only[yee,yak];by_cases h:s=d
 .subst h;simp
 rw[if_neg h];have:Nat.beq s d=false:=ycp h;rw[this]
def yei(h:Nat->Option LObj)(i:Nat)(o:Option LObj):Nat->Option LObj:=fun s=>if s=i then o else h s
theorem yjg(i:Nat)(o:Option LObj)(h:List (Nat × Option LObj)):yei (yac h) i o=yac ((i,o)::h):=by
 funext s;simp only[yei,yac];by_cases hs:s=i
 .subst hs;simp
 rw[if_neg hs];have:Nat.beq s i=false:=ycp hs;rw[this]
def yfj:Nat->List AV->List (Nat × AV)
 | _,[]=>[]
 | k,x::xs=>(k,x)::yfj (k+1) xs
theorem zja:∀ (xs:List AV) (k s:Nat),yak (yfj k xs) s=if k<=s then xs[s - k]? else none
 | [],k,s=>by simp[yfj,yak]
 | x::xs,k,s=>by
  simp only[yfj,yak];by_cases h:s=k
  .subst h;simp
  have:Nat.beq s k=false:=ycp h;rw[this];simp only[zja xs (k+1) s];by_cases h1:k<=s
  .rw [if_pos om,if_pos h1,show s - k=(s - (k+1))+1 by omega];simp
  rw[if_neg om,if_neg h1]
theorem ylb(xs:List AV):yak (yfj 0 xs)=zte xs:=by
 funext s;simp[zja,zte]
theorem con_of {args:List AV} (hf : P.funcs[f]? = some fn) (hn : (fn.name == "runtime.NumGoroutine") = false) (hb : fn.body = some c) (hN : fn.ntmps = N) (hrs : fn.results = rs.toArray) (hlen:(Nat.ble args.length N && Nat.ble N 1000000)=true) (hp:yas r=true) (h:A P N c (xmc rs r) (S (yfj 0 args) [])):Con P f args r:=by
 refine con_of_A hf hn hb hN hrs hlen hp ?_;have:S (yfj 0 args) []=⟨zte args,fun _=>none⟩:=by
  unfold S;rw[ylb];rfl
 rw[<- this];exact h
def xnm(T:Nat->Option Ty)(h:List (Nat × Option LObj))(ti:Nat)(x:AV):Option AV:=
 match T ti with
 | some ⟨.string,_,_,_⟩=>match x with
  | .v (.string s)=>some (.v (.int .i64 s.size))
  | _=>none
 | some ⟨.slc _ _ _ _ _,_,_,_⟩=>match x with
  | .sl _ rows=>some (.v (.int .i64 rows.length))
  | .v (.slice none 0 0)=>some (.v (.int .i64 0))
  | .ls id _ len=>match yac h id with
   | some _=>some (.v (.int .i64 len))
   | none=>none
  | _=>none
 | _=>none
def xjc(t:List (Nat × AV))(op:Op)(ty:TypeId):Option AV:=
 match ygy (evF (yak t)) op.operands.toList with
 | true => match execOp (zgz (evF (yak t))) ⟨none, op, ty, "", #[], none⟩ with
  | .pure (.value u)=>some (.v u)
  | _=>none
 | false=>none
def zwp(T:Nat->Option Ty)(ti i:Nat):Option (Nat × Nat × Bool):=
 match T ti with
 | some ⟨.strct fs,_,_,_⟩=>fs[i]?
 | _=>none
def ysz(T:Nat->Option Ty)(t:List (Nat × AV))(h:List (Nat × Option LObj))(op:Op)(ty:TypeId):Option AV:=
 match op with
 | .select _ _=>none
 | .move x=>evF (yak t) x
 | .assign x=>evF (yak t) x
 | .pick c x y=>match evF (yak t) c with
  | some (.v (.bool true))=>evF (yak t) x
  | some (.v (.bool false))=>evF (yak t) y
  | _=>none
 | .load ti x=>match T ti with
  | none=>none
  | some y=>match evF (yak t) x with
   | some (.lp id off)=>match yti (yac h id)with
    | some xs=>ztn y.agg y.size (xs.drop off)
    | none=>none
   | some (.dp row off)=>match ztn y.agg y.size (row.drop off)with
    | some r=>match yas r with
     | true=>some r
     | false=>none
    | none=>none
   | _=>none
 | .fieldAddr ti x i=>match zwp T ti i with
  | none=>none
  | some (o,_,_)=>match evF (yak t) x with
   | some (.lp id off)=>match yti (yac h id)with
    | some _=>some (.lp id (off+o))
    | none=>none
   | some (.dp row off)=>some (.dp row (off+o))
   | _=>none
 | .field ti x i=>match zwp T ti i with
  | none=>none
  | some (o,s,ag)=>match evF (yak t) x with
   | some (.agg cs)=>ztn ag s (cs.drop o)
   | _=>none
 | .extract x i=>match evF (yak t) x with
  | some (.tup cs)=>cs[i]?
  | _=>none
 | .convert src dst x=>match T src,T dst with
  | some _,some ⟨.int k,_,_,_⟩=>match evF (yak t) x with
   | some (.v (.int _ n))=>some (.v (.int k (k.wrap n)))
   | _=>none
  | _,_=>none
 | .call ⟨.builtin .len,⟨[x]⟩,⟨[ti]⟩⟩=>match evF (yak t) x with
  | some y=>xnm T h ti y
  | none=>none
 | .call ⟨.builtin .max,⟨[x,y]⟩,_⟩=>match evF (yak t) x with
  | some (.v (.int k a))=>match evF (yak t) y with
   | some (.v (.int _ b))=>some (.v (.int k (if b > a then b else a)))
   | _=>none
  | _=>none
 | .call ⟨.builtin .min,⟨[x,y]⟩,_⟩=>match evF (yak t) x with
  | some (.v (.int k a))=>match evF (yak t) y with
   | some (.v (.int _ b))=>some (.v (.int k (if b < a then b else a)))
   | _=>none
  | _=>none
 | .indexAddr ti x y=>match T ti with
  | some ⟨.arr n es _,_,_,_⟩=>match evF (yak t) y with
   | some (.v (.int _ (.ofNat m)))=>match Nat.blt m n with
    | true=>match evF (yak t) x with
     | some (.lp id off)=>match yti (yac h id)with
      | some _=>some (.lp id (off+m * es))
      | none=>none
     | some (.dp row off)=>some (.dp row (off+m * es))
     | _=>none
    | false=>none
   | _=>none
  | _=>none
 | op=>xjc t op ty
theorem zdl{T:Nat->Option Ty}(hT:TOK P T){ti:Nat}{f:Nat × Nat × Bool}(h:zwp T ti i=some f):∃ fs,ygb P ti (.strct fs)/\fs[i]?=some f:=by
 unfold zwp at h;split at h
 .rename_i fs a b c he;exact⟨fs,(hT ti _ he).2.2,h⟩
 cases h
theorem pureC_sound{t:List (Nat × AV)}(hs:∀ cs b,op≠.select cs b)(hr:xjc t op ty=some r):ybu P h (evF (yak t)) op ty r:=by
 unfold xjc at hr;split at hr
 .rename_i hp;split at hr
  .rename_i u hu;simp only[Option.some.injEq]at hr;subst hr;exact yield_pure hs hp hu
  cases hr
 cases hr
theorem yme{T:Nat->Option Ty}(hT:TOK P T){t:List (Nat × AV)}{h:List (Nat × Option LObj)}(hr:ysz T t h op ty=some r):ybu P (yac h) (evF (yak t)) op ty r:=by
 unfold ysz at hr;split at hr
 .cases hr
 .exact yield_move hr
 .exact yield_assign hr
 .split at hr
  .rename_i hc;exact zkk (b:=true) hc hr
  .rename_i hc;exact zkk (b:=false) hc hr
  cases hr
 .split at hr
  .cases hr
  rename_i y hy;have hk:=(hT _ _ hy).1;split at hr
  .rename_i id off hx;split at hr
   .rename_i xs hh;exact yxl hk hx (ygf hh).1 (ygf hh).2 hr
   cases hr
  .rename_i row off hx;split at hr
   .rename_i r' hr';split at hr
    .rename_i hp;simp only[Option.some.injEq]at hr;subst hr;exact yield_load_dp hk hx hr' hp
    cases hr
   cases hr
  cases hr
 .split at hr
  .cases hr
  rename_i o s ag hf;obtain⟨fs,h1,h2⟩:=zdl hT hf;split at hr
  .rename_i id off hx;split at hr
   .rename_i xs hh;simp only[Option.some.injEq]at hr;subst hr;exact ytr h1 h2 hx (ygf hh).1 (ygf hh).2
   cases hr
  .rename_i row off hx;simp only[Option.some.injEq]at hr;subst hr;exact yield_field_dp h1 h2 hx
  cases hr
 .split at hr
  .cases hr
  rename_i o s ag hf;obtain⟨fs,h1,h2⟩:=zdl hT hf;split at hr
  .rename_i cs hx;exact yield_field h1 h2 hx hr
  cases hr
 .split at hr
  .rename_i cs hx;exact yield_extract hx hr
  cases hr
 .rename_i src dst x;split at hr
  .rename_i ys k a b c h1 h2;split at hr
   .rename_i k' n hx;simp only[Option.some.injEq]at hr;subst hr;have g1:=(hT _ _ h1).1;have g2:P.underlying dst=some (.int k):=(hT _ _ h2).2.2;obtain⟨d,hd⟩:∃ d,P.underlying src=some d:=by
     cases hq:P.underlying src with
     | none=>simp[yix,hq]at g1
     | some d=>exact⟨d,rfl⟩
    refine yco (fun cs b=>by simp) (by simp[ygy,Op.operands,hx,toV]) fun w=>?_;have he:zgz (evF (yak t)) x=.int k' n:=by simp[zgz,hx,toV]
    simp only[execOp,he,convert,Sem.run_bind,run_underlying hd,run_underlying g2,Result.andThen_ok];cases d <;> simp[Conv.intToInt]
   cases hr
  cases hr
 .rename_i x ti;split at hr
  .rename_i y hx;unfold xnm at hr;split at hr
   .rename_i hk;split at hr
    .simp only[Option.some.injEq]at hr;subst hr;exact yield_len_string (hT _ _ hk).2.2 hx
    cases hr
   .rename_i hk;split at hr
    .simp only[Option.some.injEq]at hr;subst hr;exact zau (hT _ _ hk).2.2 hx
    .simp only[Option.some.injEq]at hr;subst hr;exact yield_len_nil (hT _ _ hk).2.2 hx
    .split at hr
     .rename_i hh;simp only[Option.some.injEq]at hr;subst hr;exact zat (hT _ _ hk).2.2 hx hh
     cases hr
    cases hr
   cases hr
  cases hr
 .split at hr
  .rename_i k a hx;split at hr
   .rename_i k' b hy;simp only[Option.some.injEq]at hr;subst hr;refine yco (fun cs b=>by simp) (by simp[ygy,Op.operands,Call.operands,hx,hy,toV]) fun w=>?_;simp[execOp,resolve,invoke,builtin,Builtin.max_,Builtin.max2,zgz,hx,hy,toV]
   cases hr
  cases hr
 .split at hr
  .rename_i k a hx;split at hr
   .rename_i k' b hy;simp only[Option.some.injEq]at hr;subst hr;refine yco (fun cs b=>by simp) (by simp[ygy,Op.operands,Call.operands,hx,hy,toV]) fun w=>?_;simp[execOp,resolve,invoke,builtin,Builtin.min_,Builtin.min2,zgz,hx,hy,toV]
   cases hr
  cases hr
 .rename_i ti x y;split at hr
  .rename_i n es ea a b c hk;have g:=(hT _ _ hk).2.2;split at hr
   .rename_i k m hy;split at hr
    .rename_i hlt;have hlt':(Int.ofNat m) < n:=by
      have:m < n:=by simpa using hlt
      exact Int.ofNat_lt.2 this
     split at hr
     .rename_i id off hx;split at hr
      .rename_i xs hh;simp only[Option.some.injEq]at hr;subst hr;exact yoj g hx (ygf hh).1 (ygf hh).2 hy (Int.natCast_nonneg m) hlt'
      cases hr
     .rename_i row off hx;simp only[Option.some.injEq]at hr;subst hr;exact yield_indexArr_dp g hx hy (Int.natCast_nonneg m) hlt'
     cases hr
    cases hr
   cases hr
  cases hr
 rename_i hns _ _ _ _ _ _ _ _ _ _ _ _;exact pureC_sound (fun cs b he=>hns cs b he) hr
end
section
open Go.RowKit
def xdc:Op->Bool
 | .alloc _=>true
 | .box _ _=>true
 | .store _ _ _=>true
 | .makeSlice _ _ _=>true
 | .makeMap _ _=>true
 | .mapUpdate _ _ _ _=>true
 | .insert _ _ _ _=>true
 | .range _ _=>true
 | .next _ _=>true
 | .call ⟨.builtin .append,_,_⟩=>true
 | .call ⟨.builtin .copy,_,_⟩=>true
 | .call ⟨.builtin .delete,_,_⟩=>true
 | _=>false
def lf0(o:Oper):Bool:=xdc o.op
def lfT(_:Oper):Bool:=true
section
variable{P:Program}{T:Nat->Option Ty}{N:Nat}{ops:Array Oper}{lf:Oper->Bool}{Q:SS->Prop}{t:List (Nat × AV)}{h:List (Nat × Option LObj)}{rest:List Oper}{d:Nat}{op:Op}{ty:TypeId}{pos:String}{af:Array Edge}{gd:Option (Nat × Bool)}{r:AV}
theorem zny(hq:Q (S t h)):Lex P N ops lf Q [] (S t h):=.nil hq
theorem ycm(hy:ybu P (yac h) (evF (yak t)) op ty r)(hw:yam ops (yak t) ⟨some d,op,ty,pos,af,gd⟩=some true)(hd:Nat.blt d N=true)(k:Lex P N ops lf Q rest (S ((d,r)::t) h)):Lex P N ops lf Q (⟨some d,op,ty,pos,af,gd⟩::rest) (S t h):=by
 refine .calm r hw (fun e he=>by cases he;simpa using hd) hy ?_;have:(⟨yee (S t h).t (some d) r,(S t h).h⟩:SS)=S ((d,r)::t) h:=by unfold S;rw[ydm]
 rw[this];exact k
theorem L_yield0(hy:ybu P (yac h) (evF (yak t)) op ty r)(hw:yam ops (yak t) ⟨none,op,ty,pos,af,gd⟩=some true)(k:Lex P N ops lf Q rest (S t h)):Lex P N ops lf Q (⟨none,op,ty,pos,af,gd⟩::rest) (S t h):=
 .calm r hw (fun e he=>by cases he) hy k
theorem znx(hT:TOK P T)(hr:ysz T t h op ty=some r)(hw:yam ops (yak t) ⟨some d,op,ty,pos,af,gd⟩=some true)(hd:Nat.blt d N=true)(k:Lex P N ops lf Q rest (S ((d,r)::t) h)):Lex P N ops lf Q (⟨some d,op,ty,pos,af,gd⟩::rest) (S t h):=
 ycm (yme hT hr) hw hd k
theorem xgm(hw:yam ops (yak t) ⟨some d,op,ty,pos,af,gd⟩=some false)(hd:Nat.blt d N=true)(k:Lex P N ops lf Q rest (S ((d,.v undef)::t) h)):Lex P N ops lf Q (⟨some d,op,ty,pos,af,gd⟩::rest) (S t h):=by
 refine .skip hw (fun e he=>by cases he;simpa using hd) ?_;have:(⟨yee (S t h).t (some d) (.v undef),(S t h).h⟩:SS)=S ((d,(.v undef))::t) h:=by unfold S;rw[ydm]
 rw[this];exact k
theorem L_skip0(hw:yam ops (yak t) ⟨none,op,ty,pos,af,gd⟩=some false)(k:Lex P N ops lf Q rest (S t h)):Lex P N ops lf Q (⟨none,op,ty,pos,af,gd⟩::rest) (S t h):=
 .skip hw (fun e he=>by cases he) k
theorem yaj{l:List Oper}(d:Nat){b:Bool}(hb:yak t d=some (.v (.bool b)))(k1:b=true->Lex P N ops lf Q l (S ((d,.v (.bool true))::t) h))(k2:b=false->Lex P N ops lf Q l (S ((d,.v (.bool false))::t) h)):Lex P N ops lf Q l (S t h):=by
 refine .split d b hb fun c hc=>?_;have:(⟨yee (S t h).t (some d) (.v (.bool c)),(S t h).h⟩:SS)=S ((d,.v (.bool c))::t) h:=by unfold S;rw[ydm]
 rw[this];cases c
 .exact k2 hc
 exact k1 hc
theorem yno{l:List Oper}(d:Nat){x y:AV}(hb:yak t d=some x)(he:x=y)(k:Lex P N ops lf Q l (S ((d,y)::t) h)):Lex P N ops lf Q l (S t h):=by
 subst he;have:S ((d,x)::t) h=S t h:=by unfold S;rw[<- ydm,ykh hb]
 rw[this]at k;exact k
theorem ypg{g:Operand}{args:List Operand}{ats:Array TypeId}{caps xs:List AV}(hf:evF (yak t) g=some (.fn f caps))(hx:evL (evF (yak t)) args=some xs)(hc:Con P f (xs++caps) r)(hw:yam ops (yak t) ⟨some d,.call { callee:=.value g,args:=args.toArray,argTypes:=ats },ty,pos,af,gd⟩=some true)(hd:Nat.blt d N=true)(k:Lex P N ops lf Q rest (S ((d,r)::t) h)):Lex P N ops lf Q (⟨some d,.call { callee:=.value g,args:=args.toArray,argTypes:=ats },ty,pos,af,gd⟩::rest) (S t h):=
 ycm (zkj hf hx hc) hw hd k
def ymi(s:SS)(id:Nat):Prop:=s.h id=none/\(∀ x y,s.t x=some y->ment id y=false)/\∀ j ob,s.h j=some ob->yew id ob=false
def ydl(id:Nat):List (Nat × AV)->Bool
 | []=>true
 | (_,x)::t=>match ment id x with
  | true=>false
  | false=>ydl id t
def ybs(id:Nat):List (Nat × Option LObj)->Bool
 | []=>true
 | (i,o)::h=>match Nat.beq id i with
  | true=>false
  | false=>match o with
   | none=>ybs id h
   | some o=>match yew id o with
    | true=>false
    | false=>ybs id h
theorem yov{id:Nat}:∀ {t:List (Nat × AV)},ydl id t=true->∀ x y,yak t x=some y->ment id y=false
 | [],_,x,y,h=>by simp[yak]at h
 | (d,r)::t,hf,x,y,h=>by
  simp only[ydl]at hf;split at hf
  .cases hf
  rename_i hm;simp only[yak]at h;split at h
  .simp only[Option.some.injEq]at h;subst h;exact hm
  exact yov hf x y h
theorem yer{id:Nat}:∀ {h:List (Nat × Option LObj)},ybs id h=true->yac h id=none/\∀ j ob,yac h j=some ob->yew id ob=false
 | [],_=>⟨rfl,fun j ob h=>by simp[yac]at h⟩
 | (i,o)::h,hf=>by
  simp only[ybs]at hf;split at hf
  .cases hf
  rename_i hb;have key:ybs id h=true/\∀ ob,o=some ob->yew id ob=false:=by
   split at hf
   .exact ⟨hf,fun ob h=>by cases h⟩
   split at hf
   .cases hf
   rename_i hm;exact⟨hf,fun ob h=>by cases h;exact hm⟩
  have ih:=yer key.1;refine⟨by simp only[yac,hb];exact ih.1,fun j ob hj=>?_⟩;simp only[yac]at hj;split at hj
  .exact key.2 ob hj
  exact ih.2 j ob hj
theorem ygc{id:Nat}(h1:ydl id t=true)(h2:ybs id h=true):ymi (S t h) id:=⟨(yer h2).1,yov h1,(yer h2).2⟩
def yke(lv:Live)(id b n:Nat):Live:=fun j=>if j=id then some (some b,n)else lv j
theorem ydr(w:World)(o:Obj):(w.alloc o).heap[w.heap.size]?=some o:=by
 show (w.heap.push o)[w.heap.size]?=some o;rw[Array.getElem?_push,if_pos rfl]
theorem ydw(w:World)(o:Obj):Below w.heap.size w (w.alloc o):=(Below.refl _ _).alloc (qbf _) o
theorem Sim.newBlock{ok0:Nat->Prop}{s:SS}(hs:Sim B ok0 N s lv a w){id n:Nat}(hf:ymi s id)(hb:Below w.heap.size w w')(hsz:w'.heap.size=w.heap.size+1){ob:LObj}(hm:yew id ob=false)(hcl:isC ob=true->id < N)(hob:∀ (ok':Nat->Prop) (lv':Live),(∀ g,yba B ok0 lv w g->ok' g/\w'.heap[g]?=w.heap[g]?)->(∀ i b m,lv' i=some (b,m)->yew i ob=true->lv i=some (b,m))->yho ok' lv' w' w.heap.size n ob):Sim B ok0 N ⟨s.t,yei s.h id (some ob)⟩ (yke lv id w.heap.size n) a w':=by
 have hid:lv id=none:=hs.inv.dom id hf.1;have hlv:∀ (x:AV) ,ment id x=false->∀ j b m,yke lv id w.heap.size n j=some (b,m)->ment j x=true->lv j=some (b,m):=by
  intro x hx j b m hj hmx;by_cases h:j=id
  .subst h;rw[hx]at hmx;cases hmx
  simpa[yke,h]using hj
 have hok:∀ g,yba B ok0 lv w g->yba B ok0 (yke lv id w.heap.size n) w' g/\w'.heap[g]?=w.heap[g]?:=by
  intro g hg;refine⟨⟨hg.1,qbg hg.2.1 hb.size,fun j b m hj=>?_⟩,hb.block g hg.2.1⟩;by_cases h:j=id
  .simp only[yke,h,if_true,Option.some.injEq,Prod.mk.injEq]at hj;have:=hg.2.1;omega
  exact hg.2.2 j b m (by simpa[yke,h]using hj)
 refine⟨⟨hs.inv.base.grow hb,hs.inv.ok0lt,fun j hj=>?_,fun i j b m m' h1 h2=>?_,fun j x hx=>?_⟩,hs.size,fun x y hy=>?_,hs.defers.grow hb,hs.big,fun j b o hN hj hc hb=>?_⟩
 .by_cases h:j=id
  .subst h;simp[yei]at hj
  simp only[yei,h,if_false]at hj;simp[yke,h,hs.inv.dom j hj]
 .by_cases h3:i=id
  .by_cases h4:j=id
   .omega
   simp only[yke,h3,if_true,Option.some.injEq,Prod.mk.injEq]at h1;simp only[yke,h4,if_false]at h2;have:=hs.inv.lvlt h2;omega
  by_cases h4:j=id
  .simp only[yke,h4,if_true,Option.some.injEq,Prod.mk.injEq]at h2;simp only[yke,h3,if_false]at h1;have:=hs.inv.lvlt h1;omega
  simp only[yke,h3,h4,if_false]at h1 h2;exact hs.inv.inj i j b m m' h1 h2
 .by_cases h:j=id
  .subst h;simp only[yei,if_true,Option.some.injEq]at hx;subst hx;refine⟨some w.heap.size,n,by simp[yke],.inr hs.inv.base.size,om,?_⟩;exact hob _ _ hok fun i b m hi hmi=>by
    by_cases h:i=j
    .subst h;rw[hm]at hmi;cases hmi
    simpa[yke,h]using hi
  simp only[yei,h,if_false]at hx;obtain⟨b,m,h1,h2⟩:=hs.inv.obj j x hx;refine⟨b,m,by simp[yke,h,h1],?_⟩;cases b with
  | none=>exact h2
  | some b=>
  obtain⟨h2,h3,h4⟩:=h2;refine⟨h2,om,?_⟩;have h5:=h4.relive (lv':=yke lv id w.heap.size n) fun i b' m' hi hmi=>by
   by_cases h':i=id
   .subst h';rw[hf.2.2 j x hx]at hmi;cases hmi
   simpa[yke,h']using hi
  exact h5.keep hok (hb.block b h3)
 .have:=hs.frame x y hy;exact⟨this.1,(this.2.relive (hlv y (hf.2.1 x y hy))).keep hok⟩
 by_cases h:j=id
 .subst h;simp only[yei,if_true,Option.some.injEq]at hj;have:=hcl (by rw[hj];exact hc);omega
 simp only[yei,h,if_false]at hj;obtain⟨m,hm'⟩:=hs.pin j b o hN hj hc hb;exact⟨m,by simpa[yke,h]using hm'⟩
def yhw:List Value->List AV
 | []=>[]
 | x::xs=>.v x::yhw xs
theorem ypd:∀ l:List Value,yhw l=l.map .v
 | []=>rfl
 | x::l=>by simp[yhw,ypd l]
def yec:AV->Option (List AV)
 | .v (.agg cs)=>match cs.toList.all Value.oneCell' with
  | true=>some (yhw cs.toList)
  | false=>none
 | .agg cs=>some cs
 | .tup _=>none
 | .any=>none
 | .v x=>match x.oneCell' with
  | true=>some [.v x]
  | false=>none
 | x=>some [x]
theorem cells_one(h:u.oneCell'=true):u.cells=#[u]:=by cases u <;> simp_all[Value.oneCell',Value.cells]
theorem yye{ok:Nat->Prop}{x:AV}{cs:List AV}(h:yec x=some cs)(hr:Rel ok w lv x u):∃ vs:List Value,u.cells=vs.toArray/\ybn ok w lv cs vs/\∀ c∈cs,yeb c=true:=by
 have one:∀ (x:AV),yeb x=true->cs=[x]->Rel ok w lv x u->∃ vs:List Value,u.cells=vs.toArray/\ybn ok w lv cs vs/\∀ c∈cs,yeb c=true:=by
  intro x hx he hr;subst he;refine⟨[u],by rw[cells_one (hr.oneCell hx)],⟨rfl,fun i c v h1 h2=>?_⟩,by simpa using hx⟩;cases i with
  | zero=>simp at h1 h2;subst h1 h2;exact hr
  | succ i=>simp at h1
 cases x with
 | agg cs'=>
  simp only[yec,Option.some.injEq]at h;subst h;cases hr with
  | agg vs hl hc hr=>exact⟨vs,rfl,⟨hl,hr⟩,hc⟩
 | v y=>
  by_cases hagg:∃ q,y=.agg q
  .obtain ⟨q,rfl⟩:=hagg;simp only[yec]at h;split at h
   .rename_i ho;simp only[Option.some.injEq]at h;subst h;rw[ykw hr,ypd];refine⟨q.toList,by simp[Value.cells],⟨sm,fun i x u hx hu=>by rw[qak,hu]at hx;simp at hx;subst hx;exact .v u⟩,fun c hc=>?_⟩;obtain⟨v,hv,rfl⟩:=qag.1 hc;exact List.all_eq_true.1 ho v hv
   cases h
  have hce:yec (.v y)=match y.oneCell' with|true=>some [.v y]|false=>none:=by
   cases y <;> first|rfl|exact absurd ⟨_,rfl⟩ hagg
  rw[hce]at h;split at h
  .rename_i ho;simp only[Option.some.injEq]at h;exact one _ (by simpa[yeb]using ho) h.symm hr
  cases h
 | tup _=>simp[yec]at h
 | any=>simp[yec]at h
 | sl _ _=>simp only[yec,Option.some.injEq]at h;exact one _ rfl h.symm hr
 | dp _ _=>simp only[yec,Option.some.injEq]at h;exact one _ rfl h.symm hr
 | lp _ _=>simp only[yec,Option.some.injEq]at h;exact one _ rfl h.symm hr
 | ls _ _ _=>simp only[yec,Option.some.injEq]at h;exact one _ rfl h.symm hr
 | fn _ _=>simp only[yec,Option.some.injEq]at h;exact one _ rfl h.symm hr
 | fm _ _=>simp only[yec,Option.some.injEq]at h;exact one _ rfl h.symm hr
 | mp _=>simp only[yec,Option.some.injEq]at h;exact one _ rfl h.symm hr
 | one=>simp only[yec,Option.some.injEq]at h;exact one _ rfl h.symm hr
 | mv _=>simp only[yec,Option.some.injEq]at h;exact one _ rfl h.symm hr
theorem yyd{ok0:Nat->Prop}{cs:List AV}{vs:List Value}{e:TypeId}{extra:List Value}{n:Nat}(hn:n=vs.length+extra.length)(hw:w'.heap[w.heap.size]?=some (.cells (vs++extra).toArray e (0,0)))(hr:ybn (yba B ok0 lv w) w lv cs vs)(hc:∀ c∈cs,yeb c=true):
  ∀ (ok':Nat->Prop) (lv':Live),(∀ g,yba B ok0 lv w g->ok' g/\w'.heap[g]?=w.heap[g]?)->(∀ i b m,lv' i=some (b,m)->ment.mentL i cs=true->lv i=some (b,m))->yhd ok' lv' w' w.heap.size n cs:=by
 intro ok' lv' h1 h2;subst hn;refine⟨_,e,hw,sm,by simp[hr.1],hc,fun j x u hx hu=>?_⟩;have hlt:=(qaa.1 hx).1;have hu':vs[j]?=some u:=by
  simp only[qeh]at hu;rw[qam (by rw[hr.1];exact hlt)]at hu;exact hu
 exact((hr.2 j x u hx hu').relive fun id b n hb hm=>h2 id b n hb (ymu (qab hx) hm)).keep h1
theorem Sim.putOnly{ok0:Nat->Prop}{s:SS}(h:Sim B ok0 N s lv a w){d:Nat}(hd:d < N){r:AV}(hu:Rel (yba B ok0 lv w) w lv r u):Sim B ok0 N ⟨yee s.t (some d) r,s.h⟩ lv (a.put (some d) u) w:=
 h.put (fun x hx=>by cases hx;exact hd) h.inv (Below.refl _ _) hu
theorem zvx{o:Oper}{elem:TypeId}{y:AV}{cs:List AV}{s:SS}(ho:o.op=.box elem x)(hd:o.dst=some d)(hdN:d < N)(id:Nat)(hx:evF s.t x=some y)(hcs:yec y=some cs)(hf:ymi s id)(hm:ment.mentL id cs=false)(hidN:id < N):
  ybp P N o s (·=⟨yee s.t (some d) (.lp id 0),yei s.h id (some (.cells cs))⟩):=by
 intro B ok0 lv a w hs Q;obtain⟨vs,h1,h2,h3⟩:=yye hcs (hs.eval hx);have hrun:(execOp a.eval o).run P w=.ok (.value (.pointer (some ⟨w.heap.size,0,none⟩))) (w.alloc (.cells vs.toArray elem)):=by
  simp[execOp,ho,Instr.box,newVar,newRow,h1]
 unfold Oper.wp;rw[hrun];have hnew:=hs.newBlock (ob:=.cells cs) (n:=vs.length) hf (ydw w (.cells vs.toArray elem)) sm (by simpa[yew]using hm) (fun _=>hidN)
  (fun ok' lv' g1 g2=>yyd (extra:=[]) (e:=elem) sm (by rw[ydr];simp) h2 h3 ok' lv' g1 g2)
 simp only[Oper.upon,hd];exact⟨_,_,rfl,hnew.putOnly hdN (.lp _ rfl fun b n hb=>by simp only[yke,if_true,Option.some.injEq,Prod.mk.injEq]at hb;rw[hb.1])⟩
theorem yxy(hT:TOK P T){o:Oper}{elem:TypeId}{y:Ty}{s:SS}(ho:o.op=.alloc elem)(hd:o.dst=some d)(hdN:d < N)(id:Nat)(hy:T elem=some y)(hone:y.zero.all Value.oneCell'=true)(hf:ymi s id)(hidN:id < N) :
  ybp P N o s (·=⟨yee s.t (some d) (.lp id 0),yei s.h id (some (.cells (y.zero.map .v)))⟩):=by
 intro B ok0 lv a w hs Q;obtain⟨z,h1,h2⟩:=(hT _ _ hy).2.1.run (w:=w);have hrun:(execOp a.eval o).run P w=.ok (.value (.pointer (some ⟨w.heap.size,0,none⟩))) (w.alloc (.cells y.zero.toArray elem)):=by
  simp[execOp,ho,Instr.alloc,newVar,newRow,h1,h2]
 unfold Oper.wp;rw[hrun];have hm:ment.mentL id (y.zero.map .v)=false:=by
  induction y.zero with
  | nil=>rfl
  | cons a l ih=>simp[ment.mentL,ment,ih]
 have hra:ybn (yba B ok0 lv w) w lv (y.zero.map .v) y.zero:=⟨sm,fun i x u hx hu=>by rw[qak,hu]at hx;simp at hx;subst hx;exact .v u⟩;have hnew:=hs.newBlock (ob:=.cells (y.zero.map .v)) (n:=y.zero.length) hf (ydw w (.cells y.zero.toArray elem)) sm (by simpa[yew]using hm) (fun _=>hidN)
  (fun ok' lv' g1 g2=>yyd (extra:=[]) (e:=elem) sm (by rw[ydr];simp) hra (fun c hc=>by
   obtain⟨v,hv,rfl⟩:=qag.1 hc
   exact List.all_eq_true.1 hone v hv) ok' lv' g1 g2)
 simp only[Oper.upon,hd];exact⟨_,_,rfl,hnew.putOnly hdN (.lp _ rfl fun b n hb=>by simp only[yke,if_true,Option.some.injEq,Prod.mk.injEq]at hb;rw[hb.1])⟩
theorem yef{t':List (Nat × AV)}{h':List (Nat × Option LObj)}{o:Oper}(hl:lf o=true)(hw:yam ops (yak t) o=some true)(hy:ybp P N o (S t h) (·=S t' h'))(k:Lex P N ops lf Q rest (S t' h')):Lex P N ops lf Q (o::rest) (S t h):=
 .loud _ hl hw hy fun s' hs'=>by rw[hs'];exact k
theorem ytz{i:Nat}{ob:Option LObj}:(⟨yee (yak t) (some d) r,yei (yac h) i ob⟩:SS)=S ((d,r)::t) ((i,ob)::h):=by unfold S;rw[ydm,yjg]
theorem xjv{elem:TypeId}{y:AV}{cs:List AV}(hx:evF (yak t) x=some y)(hcs:yec y=some cs)(h1:ydl d t=true)(h2:ybs d h=true)(hm:ment.mentL d cs=false)(hl:lf ⟨some d,.box elem x,ty,pos,af,gd⟩=true)(hw:yam ops (yak t) ⟨some d,.box elem x,ty,pos,af,gd⟩=some true)(hd:Nat.blt d N=true)(k:Lex P N ops lf Q rest (S ((d,.lp d 0)::t) ((d,some (.cells cs))::h))):Lex P N ops lf Q (⟨some d,.box elem x,ty,pos,af,gd⟩::rest) (S t h):=
 yef hl hw (by rw[<- ytz];exact zvx rfl rfl (by simpa using hd) d hx hcs (ygc h1 h2) hm (by simpa using hd)) k
theorem zkn(hT:TOK P T){elem:TypeId}{y:Ty}(hy:T elem=some y)(hone:y.zero.all Value.oneCell'=true)(h1:ydl d t=true)(h2:ybs d h=true)(hl:lf ⟨some d,.alloc elem,ty,pos,af,gd⟩=true)(hw:yam ops (yak t) ⟨some d,.alloc elem,ty,pos,af,gd⟩=some true)(hd:Nat.blt d N=true)
  (k:Lex P N ops lf Q rest (S ((d,.lp d 0)::t) ((d,some (.cells (yhw y.zero)))::h))):Lex P N ops lf Q (⟨some d,.alloc elem,ty,pos,af,gd⟩::rest) (S t h):=
 yef hl hw (by rw[<- ytz,ypd];exact yxy hT rfl rfl (by simpa using hd) d hy hone (ygc h1 h2) (by simpa using hd)) k
end
end
section
open Go.RowKit
section
variable{P:Program}{T:Nat->Option Ty}{N:Nat}{ops:Array Oper}{lf:Oper->Bool}{Q:SS->Prop}{t:List (Nat × AV)}{h:List (Nat × Option LObj)}{rest:List Oper}{d:Nat}{op:Op}{ty:TypeId}{pos:String}{af:Array Edge}{gd:Option (Nat × Bool)}{r:AV}
theorem Sim.write{ok0:Nat->Prop}{s:SS}(hs:Sim B ok0 N s lv a w){id b n:Nat}(hl:lv id=some (some b,n))(hos:w'.os=w.os)(htp:w'.tape=w.tape)(hout:w'.output=w.output)(hsz:w'.heap.size=w.heap.size)(hoth:∀ g,g≠b->w'.heap[g]?=w.heap[g]?){ob:LObj}(hcl:isC ob=true->∃ o',s.h id=some o'/\isC o'=true)(hob:∀ (ok':Nat->Prop),(∀ g,yba B ok0 lv w g->ok' g/\w'.heap[g]?=w.heap[g]?)->yho ok' lv w' b n ob):Sim B ok0 N ⟨s.t,yei s.h id (some ob)⟩ lv a w':=by
 obtain⟨x0,hx0,hb1,hb2,hb3⟩:=hs.inv.lvat hl;have hok:∀ g,yba B ok0 lv w g->yba B ok0 lv w' g/\w'.heap[g]?=w.heap[g]?:=fun g hg=>⟨⟨hg.1,by rw[hsz];exact hg.2.1,hg.2.2⟩,hoth g (hg.2.2 id b n hl).symm⟩;refine⟨⟨?_,hs.inv.ok0lt,fun j hj=>?_,hs.inv.inj,fun j x hx=>?_⟩,hs.size,fun x y hy=>⟨(hs.frame x y hy).1,(hs.frame x y hy).2.keep hok⟩,hs.defers.same (fun g hg=>(hoth g fun e=>by subst e;exact(hs.inv.lvat hl).choose_spec.2.2.2.notDef hg).trans hg),hs.big,fun j b' o hN hj hc hb'=>?_⟩
 .exact hs.inv.base.written hb1 hos htp hout hsz hoth
 .by_cases h:j=id
  .subst h;simp[yei]at hj
  simp only[yei,h,if_false]at hj;exact hs.inv.dom j hj
 .by_cases h:j=id
  .subst h;simp only[yei,if_true,Option.some.injEq]at hx;subst hx;exact⟨some b,n,hl,hb1,by rw[hsz];exact hb2,hob _ hok⟩
  simp only[yei,h,if_false]at hx;obtain⟨b',m,h1,h2⟩:=hs.inv.obj j x hx;refine⟨b',m,h1,?_⟩;cases b' with
  | none=>exact h2
  | some b'=>
   obtain⟨h2,h3,h4⟩:=h2;refine⟨h2,by rw[hsz];exact h3,h4.keep hok (hoth b' ?_)⟩;intro he;subst he;exact h (hs.inv.inj j id b' m n h1 hl)
 by_cases h:j=id
 .subst h;simp only[yei,if_true,Option.some.injEq]at hj;obtain⟨o',hy,hc'⟩:=hcl (by rw[hj];exact hc);exact hs.pin j b' o' hN hy hc' hb'
 simp only[yei,h,if_false]at hj;exact hs.pin j b' o hN hj hc hb'
theorem ylz{ys:List AV}(h:yas.pureL ys=true):∀ x∈ys,yas x=true:=by
 induction ys with
 | nil=>intro x hx;cases hx
 | cons y ys ih=>
  simp only[yas.pureL,qad]at h;intro x hx;rcases qaq.1 hx with rfl|hx
  .exact h.1
  exact ih h.2 x hx
def zbj:LObj->List AV
 | .cells xs=>xs
 | .vec xs=>xs
 | .map _=>[]
 | .iter _ _ _=>[]
 | .siter _ _=>[]
 | .tcells _ xs=>xs
 | .tvec _ xs=>xs
 | .mcells xs=>xs
inductive Stored:LObj->Nat->List AV->LObj->Prop
 | cells {xs:List AV} {off:Nat} {cs:List AV} (h:off+cs.length<=xs.length):Stored (.cells xs) off cs (.cells (xs.take off++cs++xs.drop (off+cs.length)))
 | vec {xs:List AV} {off:Nat} {cs:List AV} (h:off+cs.length<=xs.length) (hp:∀ c∈cs,yas c=true) (hne:xs≠[]):Stored (.vec xs) off cs (.vec (xs.take off++cs++xs.drop (off+cs.length)))
 | tcells {e:TypeId} {xs:List AV} {off:Nat} {cs:List AV} (h:off+cs.length<=xs.length) (hne:xs≠[]):Stored (.tcells e xs) off cs (.tcells e (xs.take off++cs++xs.drop (off+cs.length)))
 | mcells {xs:List AV} {off:Nat} {cs:List AV} (h:off+cs.length<=xs.length) (hne:xs≠[]):Stored (.mcells xs) off cs (.mcells (xs.take off++cs++xs.drop (off+cs.length)))
theorem zsa{ok0:Nat->Prop}{b n off:Nat}{xs cs:List AV}{vs:List Value}{c:Array Value}{e:TypeId}(g1:w.heap[b]?=some (.cells c e (0,0)))(g2:c.size=n)(g3:xs.length<=n)(g4:∀ x∈xs,yeb x=true)(g5:∀ (j:Nat) (x:AV) (u:Value),xs[j]?=some x->c[j]?=some u->Rel (yba B ok0 lv w) w lv x u)(hr:ybn (yba B ok0 lv w) w lv cs vs)(hc:∀ x∈cs,yeb x=true)(hle:off+cs.length<=xs.length)(hw:w'.heap[b]?=some (.cells (c.toList.take off++vs++c.toList.drop (off+vs.length)).toArray e (0,0)))(ok':Nat->Prop)(hk:∀ g,yba B ok0 lv w g->ok' g/\w'.heap[g]?=w.heap[g]?):yhd ok' lv w' b n (xs.take off++cs++xs.drop (off+cs.length)):=by
 have hl:=hr.1;refine⟨_,e,hw,so,so,fun x hx=>?_,fun j x u hx hu=>?_⟩
 .simp only[qat]at hx;rcases hx with(hx|hx)|hx
  .exact g4 x (qcv hx)
  .exact hc x hx
  exact g4 x (qdn hx)
 simp only[qeh]at hu;by_cases h1:j < off
 .rw [qbd,qam so,qbc,if_pos h1]at hx;rw[qbd,qam so,qbc,if_pos h1]at hu;exact(g5 j x u hx (by simpa using hu)).keep hk
 by_cases h2:j < off+cs.length
 .have e1:(xs.take off).length=off:=by simp;omega
  have e2:(c.toList.take off).length=off:=by simp;omega
  rw[qbd,qah om,e1,qam om]at hx;rw[qbd,qah om,e2,qam om]at hu;exact(hr.2 _ x u hx hu).keep hk
 have e1:(xs.take off++cs).length=off+cs.length:=by simp;omega
 have e2:(c.toList.take off++vs).length=off+vs.length:=by simp;omega
 rw[qah om,e1,qby]at hx;rw[qah om,e2,qby,hl]at hu;exact(g5 _ x u hx (by simpa using hu)).keep hk
theorem yig{o:Oper}{ti sz:Nat}{ag:Bool}{y:Operand}{id off:Nat}{ob ob':LObj}{v:AV}{cs:List AV}{s:SS}(ho:o.op=.store ti x y)(hd:o.dst=none)(hsz:yix P ti sz ag)(hx:evF s.t x=some (.lp id off))(hy:evF s.t y=some v)(hcs:yec v=some cs)(hcl:cs.length=sz)(hob:s.h id=some ob)(hst:Stored ob off cs ob'):
  ybp P N o s (·=⟨s.t,yei s.h id (some ob')⟩):=by
 intro B ok0 lv a w hs Q;obtain⟨vs,h1,h2,h3⟩:=yye hcs (hs.eval hy);have hcO:ycw (s.h id)=some (zbj ob)/\(zbj ob≠[]\/s.h id=some (.cells (zbj ob)))/\off+cs.length<=(zbj ob).length:=by
  rw[hob];cases hst with
  | cells h=>exact⟨rfl,.inr rfl,h⟩
  | vec h hp hne=>exact⟨rfl,.inl hne,h⟩
  | tcells h hne=>exact⟨rfl,.inl hne,h⟩
  | mcells h hne=>exact⟨rfl,.inl hne,h⟩
 obtain⟨hcO,hne,hle⟩:=hcO;obtain⟨b,n,hl,hb1,hb2,c,e,g1,g2,g3,g4,g5⟩:=hs.inv.blk hcO hne;have hp:=hs.eval hx;generalize hv:a.eval x=p at hp;cases hp with
 | lp _ _ hlp=>
  have hp:=hlp b n hl;subst hp;have hcells:vs.length=sz:=by rw[h2.1,hcl]
  have hst':=run_storeCells_at P b off e vs 0 c w g1 (by simp[h2.1];omega) (fun v hv=>by
   obtain⟨i,hi⟩:=qao hv
   obtain⟨q,hq⟩:∃ q,cs[i]?=some q:=⟨_,qae (by have:=(qaa.1 hi).1;rw[h2.1]at this;exact this)⟩
   exact(h2.2 i q v hq hi).oneCell (h3 q (qab hq)))
  simp only[qdv]at hst';have hrun:(execOp a.eval o).run P w=.ok .skip (w.setRow b (c.toList.take off++vs++c.toList.drop (off+vs.length)).toArray):=by
   simp[execOp,ho,hv,Instr.storeAt,Instr.sureAddr,storeVar,(hsz.run (w:=w)).1,hcells,h1,hst']
  unfold Oper.wp;rw[hrun];simp only[Oper.upon,hd,Act.put];refine⟨_,lv,rfl,hs.write (w':=w.setRow b (c.toList.take off++vs++c.toList.drop (off+vs.length)).toArray) hl rfl rfl rfl sm (fun g hg=>setRow_other w b g _ hg) (fun hy=>by cases hst <;> first|(cases hy;done)|exact⟨_,hob,rfl⟩) fun ok' hk=>?_⟩;have hblk:=zsa (n:=n) (off:=off) g1 g2 g3 g4 g5 h2 h3 hle (setRow_heap w b c _ e _ g1) ok' hk;cases hst with
  | cells h=>exact hblk
  | mcells h hne=>exact hblk
  | @vec xs _ _ h hp hne=>
   obtain⟨xo,hxo,_,_,hpu⟩:=hs.inv.lvat hl;rw[hob]at hxo;cases hxo;refine⟨hblk,fun x hx=>?_⟩;simp only[qat]at hx;rcases hx with(hx|hx)|hx
   .exact hpu.2 x (qcv hx)
   .exact hp x hx
   exact hpu.2 x (qdn hx)
  | @tcells e' xs _ _ h hne=>
   obtain⟨xo,hxo,_,_,hpu⟩:=hs.inv.lvat hl;rw[hob]at hxo;cases hxo;refine⟨hblk,?_⟩;have h3:(xs.take off++cs++xs.drop (off+cs.length)).length=xs.length:=by simp;omega
   rw[h3];have h4:=setRow_heap w b c (c.toList.take off++vs++c.toList.drop (off+vs.length)).toArray e _ g1;have h5:=hpu.2;simp only[World.shape?,g1]at h5;simp only[World.shape?,h4];have h6:(c.toList.take off++vs++c.toList.drop (off+vs.length)).toArray.size=c.size:=by simp;omega
   rw[h6];exact h5
def yjl:Nat->List AV->List AV->Option (List AV)
 | 0,[],xs=>some xs
 | 0,c::cs,_::xs=>match yjl 0 cs xs with
  | some ys=>some (c::ys)
  | none=>none
 | 0,_::_,[]=>none
 | off+1,cs,x::xs=>match yjl off cs xs with
  | some ys=>some (x::ys)
  | none=>none
 | _+1,_,[]=>none
theorem ylf:∀ {off:Nat} {cs xs ys:List AV},yjl off cs xs=some ys->off+cs.length<=xs.length/\ys=xs.take off++cs++xs.drop (off+cs.length)
 | 0,[],xs,ys,h=>by simp only[yjl,Option.some.injEq]at h;subst h;simp
 | 0,c::cs,[],ys,h=>by simp[yjl]at h
 | 0,c::cs,x::xs,ys,h=>by
  simp only[yjl]at h;split at h
  .rename_i zs hz;simp only[Option.some.injEq]at h;subst h;obtain⟨h1,h2⟩:=ylf hz;refine⟨by simp at h1 ⊢;omega,by rw[h2];simp⟩
  cases h
 | off+1,cs,[],ys,h=>by simp[yjl]at h
 | off+1,cs,x::xs,ys,h=>by
  simp only[yjl]at h;split at h
  .rename_i zs hz;simp only[Option.some.injEq]at h;subst h;obtain⟨h1,h2⟩:=ylf hz;refine⟨so,by rw[h2,show off+1+cs.length=(off+cs.length)+1 by omega];simp⟩
  cases h
theorem S_h{i:Nat}{ob:Option LObj}:(⟨yak t,yei (yac h) i ob⟩:SS)=S t ((i,ob)::h):=by unfold S;rw[yjg]
theorem L_store(hT:TOK P T){ti:Nat}{y:Ty}{v:Operand}{id off:Nat}{xs cs ys:List AV}{u:AV}(hy:T ti=some y)(hx:evF (yak t) x=some (.lp id off))(hv:evF (yak t) v=some u)(hcs:yec u=some cs)(hcl:Nat.beq cs.length y.size=true)(hh:yac h id=some (.cells xs))(hsp:yjl off cs xs=some ys)(hl:lf ⟨none,.store ti x v,ty,pos,af,gd⟩=true)(hw:yam ops (yak t) ⟨none,.store ti x v,ty,pos,af,gd⟩=some true)(k:Lex P N ops lf Q rest (S t ((id,some (.cells ys))::h))):Lex P N ops lf Q (⟨none,.store ti x v,ty,pos,af,gd⟩::rest) (S t h):=by
 obtain⟨h1,h2⟩:=ylf hsp;refine yef hl hw (by rw[<- S_h];exact yig rfl rfl (hT _ _ hy).1 hx hv hcs (by simpa using hcl) hh (by rw[h2];exact .cells h1)) k
theorem yom(hT:TOK P T){ti:Nat}{y:Ty}{v:Operand}{id off:Nat}{xs:List AV}{u:AV}(hy:T ti=some y)(hx:evF (yak t) x=some (.lp id off))(hv:evF (yak t) v=some u)(hcs:yec u=some [u])(hcl:Nat.beq 1 y.size=true)(hh:yac h id=some (.vec xs))(hlt:off < xs.length)(hp:yas u=true)(hl:lf ⟨none,.store ti x v,ty,pos,af,gd⟩=true)(hw:yam ops (yak t) ⟨none,.store ti x v,ty,pos,af,gd⟩=some true)(k:Lex P N ops lf Q rest (S t ((id,some (.vec (xs.set off u)))::h))):Lex P N ops lf Q (⟨none,.store ti x v,ty,pos,af,gd⟩::rest) (S t h):=by
 have he:xs.set off u=xs.take off++[u]++xs.drop (off+[u].length):=by
  rw[qem,if_pos hlt];simp
 refine yef hl hw (by rw[<- S_h,he];exact yig rfl rfl (hT _ _ hy).1 hx hv hcs (by simpa using hcl) hh (.vec so (by simpa using hp) (by intro h0;simp[h0]at hlt))) k
end
end
section
def xau:List (Nat × Ty)->Nat->Option Ty
 | [],_=>none
 | (d,r)::t,s=>match Nat.beq s d with
  | true=>some r
  | false=>xau t s
def xih(P:Program):List (Nat × Ty)->Prop
 | []=>True
 | (t,y)::r=>xmf P t y/\xih P r
theorem xho:∀ {l:List (Nat × Ty)},xih P l->TOK P (xau l)
 | [],_,t,y,h=>by simp[xau]at h
 | (d,r)::l,ha,t,y,h=>by
  simp only[xau]at h;split at h
  .rename_i hb;simp only[Option.some.injEq]at h;subst h;rw[qaf hb];exact ha.1
  exact xho ha.2 t y h
def xbh(P:Program):List Field->List (Nat × Nat × Bool)->Prop
 | [],[]=>True
 | [],_::_=>False
 | _::_,[]=>False
 | f::fl,x::r=>(f.offset=x.1/\yix P f.type x.2.1 x.2.2/\x.2.1≠0)/\xbh P fl r
theorem zpm:∀ {fl:List Field} {r:List (Nat × Nat × Bool)},xbh P fl r->∀ (i o s:Nat) (ag:Bool),r[i]?=some (o,s,ag)->∃ f,fl[i]?=some f/\f.offset=o/\yix P f.type s ag/\s≠0
 | [],[],_,i,o,s,ag,h=>by simp at h
 | _::_,[],h,_,_,_,_,_=>h.elim
 | [],_::_,h,_,_,_,_,_=>h.elim
 | f::fl,x::r,ha,0,o,s,ag,h=>by
  simp only[qas,Option.some.injEq]at h;subst h;exact⟨f,rfl,ha.1⟩
 | f::fl,x::r,ha,i+1,o,s,ag,h=>by
  obtain⟨g,h1,h2⟩:=zpm ha.2 i o s ag (by simpa using h);exact⟨g,by simpa using h1,h2⟩
theorem zpn:∀ {fl:List Field} {r:List (Nat × Nat × Bool)},xbh P fl r->fl.length=r.length
 | [],[],_=>rfl
 | _::_,[],h=>h.elim
 | [],_::_,h=>h.elim
 | f::fl,x::r,ha=>by simp[zpn ha.2]
theorem strct_of{flds:List Field}{fs:List (Nat × Nat × Bool)}(hu:P.underlying t=some (.struct flds.toArray))(hf:xbh P flds fs):ygb P t (.strct fs):=
 ⟨_,hu,by simpa using zpn hf,fun i o s ag h=>by obtain⟨f,h1,h2⟩:=zpm hf i o s ag h;exact⟨f,by simpa using h1,h2⟩⟩
end
end Go.Proofs.YtgpodcjhgdionaaGreatDoor
