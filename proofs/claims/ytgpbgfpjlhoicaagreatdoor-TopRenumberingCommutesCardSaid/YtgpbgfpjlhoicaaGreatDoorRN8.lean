/- Part 8 of the texts under TopRenumberingCommutes: joined, with what it needs alone. -/
import Derived.RangeFuncNested
import Derived.RangeFuncSeq
import Derived.Test.YtgpbgfpjlhoicaaGreatDoorRN6
import Derived.Test.YtgpbgfpjlhoicaaGreatDoorRN7
set_option linter.unusedVariables false
set_option maxHeartbeats 4000000
namespace Go.Proofs.YtgpbgfpjlhoicaaGreatDoor
section
open Go.RowKit
theorem Inv.mineOf {B:Bse} {ok0:Nat→Prop} {h:Nat→Option LObj} {lv:Live} {w:World} (hi:Inv B ok0 h lv w) {b:Nat} (hb:ybn lv b):B.mine b∧b < w.heap.size:=by
 obtain ⟨id,n,h⟩:=hb
 obtain ⟨_,_,h1,h2,_⟩:=hi.lvat h
 exact ⟨h1,h2⟩
theorem Inv.rebase {B:Bse} {ok0:Nat→Prop} {h:Nat→Option LObj} {lv:Live} {w:World} (hi:Inv B ok0 h lv w) {W1:World} (hG:ywh W1) (hsz:w.heap.size≤W1.heap.size) (hok:∀ g,yax B ok0 lv w g→W1.heap[g]?=w.heap[g]?) (hlv:∀ b,ybn lv b→W1.heap[b]?=w.heap[b]?)
  (pin:Nat→Option Nat) (rd:Option Nat) (dl:List Deferred) (gv:Nat→Value) (hrd:∀ l,rd=some l→(∃ r,W1.heap[l]?=some (.loop r))∧¬ ybn lv l):Inv ⟨W1,ybn lv,pin,rd,dl,gv⟩ (yax B ok0 lv w) h lv W1:=by
 have hk:∀ g,yax B ok0 lv w g→yax ⟨W1,ybn lv,pin,rd,dl,gv⟩ (yax B ok0 lv w) lv W1 g∧W1.heap[g]?=w.heap[g]?:=fun g hg=>⟨⟨.inl hg,Nat.lt_of_lt_of_le hg.2.1 hsz,hg.2.2⟩,hok g hg⟩
 refine ⟨⟨rfl,rfl,rfl,Nat.le_refl _,fun _ _ _=>rfl,hG,hG.size,fun k hk=>hi.base.mineG (hi.mineOf hk).1,hrd⟩,fun g hg=>Nat.lt_of_lt_of_le hg.2.1 hsz,hi.dom,hi.inj,fun id x hx=>?_⟩
 obtain ⟨b,n,h1,h2⟩:=hi.obj id x hx
 refine ⟨b,n,h1,?_⟩
 cases b with
 | none=>exact h2
 | some b=>exact ⟨.inl ⟨id,n,h1⟩,Nat.lt_of_lt_of_le h2.2.1 hsz,h2.2.2.keep hk (hlv b ⟨id,n,h1⟩)⟩
theorem ok_back {B:Bse} {ok0:Nat→Prop} {h:Nat→Option LObj} {lv:Live} {w:World} (h0:Inv B ok0 h lv w) {W1:World} (hsz:w.heap.size≤W1.heap.size) {pin:Nat→Option Nat} {rd:Option Nat} {dl:List Deferred} {gv:Nat→Value} {lv':Live} {w':World} {g:Nat} (hg:yax ⟨W1,ybn lv,pin,rd,dl,gv⟩ (yax B ok0 lv w) lv' w' g):ok0 g∨B.mine g:=by
 rcases hg.1 with h|h|h
 ·exact h.1
 ·exact .inr (h0.mineOf h).1
 ·exact .inr (.inr (by have:=h0.base.size;simp only at h;omega))
theorem Inv.back {B:Bse} {ok0:Nat→Prop} {h:Nat→Option LObj} {lv:Live} {w:World} (h0:Inv B ok0 h lv w) {W1:World} (hsz:w.heap.size≤W1.heap.size) {pin:Nat→Option Nat} {rd:Option Nat} {dl:List Deferred} {gv:Nat→Value} {h':Nat→Option LObj} {lv':Live} {w':World}
  (hi:Inv ⟨W1,ybn lv,pin,rd,dl,gv⟩ (yax B ok0 lv w) h' lv' w') {W2:World} (hB:Based B W2) (hsz2:w'.heap.size≤W2.heap.size) (hok:∀ g,yax ⟨W1,ybn lv,pin,rd,dl,gv⟩ (yax B ok0 lv w) lv' w' g→W2.heap[g]?=w'.heap[g]?) (hlv:∀ b,ybn lv' b→W2.heap[b]?=w'.heap[b]?) :
  Inv B ok0 h' lv' W2∧∀ g,yax ⟨W1,ybn lv,pin,rd,dl,gv⟩ (yax B ok0 lv w) lv' w' g→yax B ok0 lv' W2 g∧W2.heap[g]?=w'.heap[g]?:=by
 have hk:∀ g,yax ⟨W1,ybn lv,pin,rd,dl,gv⟩ (yax B ok0 lv w) lv' w' g→yax B ok0 lv' W2 g∧W2.heap[g]?=w'.heap[g]?:=fun g hg=>⟨⟨ok_back h0 hsz hg,Nat.lt_of_lt_of_le hg.2.1 hsz2,hg.2.2⟩,hok g hg⟩
 refine ⟨⟨hB,h0.ok0lt,hi.dom,hi.inj,fun id x hx=>?_⟩,hk⟩
 obtain ⟨b,n,h1,h2⟩:=hi.obj id x hx
 refine ⟨b,n,h1,?_⟩
 cases b with
 | none=>exact h2
 | some b=>
  refine ⟨?_,Nat.lt_of_lt_of_le h2.2.1 hsz2,h2.2.2.keep hk (hlv b ⟨id,n,h1⟩)⟩
  rcases h2.1 with h3|h3
  ·exact (h0.mineOf h3).1
  ·exact .inr (by have:=h0.base.size;simp only at h3;omega)
theorem live_back {ok0:Nat→Prop} {h':Nat→Option LObj} {W1:World} {lv lv':Live} {w':World} {pin:Nat→Option Nat} {rd:Option Nat} {dl:List Deferred} {gv:Nat→Value} (hi:Inv ⟨W1,ybn lv,pin,rd,dl,gv⟩ ok0 h' lv' w') {b:Nat} (hb:ybn lv' b):ybn lv b∨W1.heap.size≤b:=(hi.mineOf hb).1
theorem zmx:∀ (ps:List Nat) (vs:List Value) (tm:Array Value),ps.length=vs.length→ps.Nodup→(∀ p∈ps,p < tm.size) →
  ((ps.zip vs).foldl (fun t (x:Nat × Value)=>t.setIfInBounds x.1 x.2) tm).size=tm.size∧(∀ x,x ∉ ps→((ps.zip vs).foldl (fun t (x:Nat × Value)=>t.setIfInBounds x.1 x.2) tm).getD x undef=tm.getD x undef) ∧
   ∀ (j p:Nat) (v:Value),ps[j]?=some p→vs[j]?=some v→((ps.zip vs).foldl (fun t (x:Nat × Value)=>t.setIfInBounds x.1 x.2) tm).getD p undef=v
 | [],[],tm,_,_,_=>⟨rfl,fun _ _=>rfl,fun j p v h=>by simp at h⟩
 | p::ps,v::vs,tm,hl,hn,hlt=>by
  simp only [List.nodup_cons] at hn
  obtain ⟨h1,h2,h3⟩:=zmx ps vs (tm.setIfInBounds p v) (by simpa using hl) hn.2 (fun q hq=>by simpa using hlt q (by simp [hq]))
  have hset:∀ x,x≠p→(tm.setIfInBounds p v).getD x undef=tm.getD x undef:=fun x hx=>by
   simp only [Array.getD_eq_getD_getElem?,Array.getElem?_setIfInBounds]
   rw [if_neg (by omega)]
  simp only [List.zip_cons_cons,List.foldl_cons]
  refine ⟨by rw [h1];simp,fun x hx=>?_,fun j q u hj hu=>?_⟩
  ·simp only [List.mem_cons,not_or] at hx
   rw [h2 x hx.2,hset x hx.1]
  ·cases j with
   | zero=>
    simp only [List.getElem?_cons_zero,Option.some.injEq] at hj hu
    subst hj hu
    rw [h2 p hn.1]
    have:=hlt p (by simp)
    simp [Array.getD,this]
   | succ j=>exact h3 j q u (by simpa using hj) (by simpa using hu)
 | [],_::_,_,h,_,_=>by simp at h
 | _::_,[],_,h,_,_=>by simp at h
theorem zff:∀ {ps:List Nat} {el:List AV} {x:Nat} {y:AV},look (ps.zip el) x=some y→∃ j:Nat,ps[j]?=some x∧el[j]?=some y
 | [],_,x,y,h=>by simp [look] at h
 | _::_,[],x,y,h=>by simp [look] at h
 | p::ps,e::el,x,y,h=>by
  simp only [List.zip_cons_cons,look] at h
  cases hb:Nat.beq x p with
  | true=>
   simp only [hb,Option.some.injEq] at h
   exact ⟨0,by simp [Nat.eq_of_beq_eq_true hb],by simp [h]⟩
  | false=>
   simp only [hb] at h
   obtain ⟨j,h1,h2⟩:=zff h
   exact ⟨j+1,by simpa using h1,by simpa using h2⟩
theorem ysp:∀ {ps:List Nat} {el:List AV} {x:Nat},ps.length=el.length→look (ps.zip el) x=none→x ∉ ps
 | [],_,x,_,_=>by simp
 | _::_,[],x,hl,_=>by simp at hl
 | p::ps,e::el,x,hl,h=>by
  simp only [List.zip_cons_cons,look] at h
  cases hb:Nat.beq x p with
  | true=>simp [hb] at h
  | false=>
   simp only [hb] at h
   simp only [List.mem_cons,not_or]
   exact ⟨fun e=>by subst e;simp at hb,ysp (by simpa using hl) h⟩
def zag (t0:Nat→Option AV) (ps:List Nat) (el:List AV) (x:Nat):Option AV:=
 match Nat.ble 1000000 x with
 | true=>t0 (x - 1000000)
 | false=>match look (ps.zip el) x with
  | some y=>some y
  | none=>t0 x
def zxj (t0:Nat→Option AV) (hk:Nat→Nat→Option LObj) (k:Nat) (Q:Exit→SS→Prop):Exit→SS→Prop
 | .normal,s=>(∀ x y,t0 x=some y→s.t (x+1000000)=some y)∧∀ id o,hk (k+1) id=some o→s.h id=some o
 | .ret,s=>∃ hx:Nat→Option LObj,(∀ x y,t0 x=some y→s.t (x+1000000)=some y)∧(∀ id o,hx id=some o→s.h id=some o)∧Q .ret ⟨t0,hx⟩
 | .exit i,s=>∃ hx:Nat→Option LObj,(∀ x y,t0 x=some y→s.t (x+1000000)=some y)∧(∀ id o,hx id=some o→s.h id=some o)∧Q (.exit i) ⟨t0,hx⟩
 | _,_=>False
theorem ymz {w:World} {l:Nat} {o:Obj} (h:w.heap[l]?=some o):w.putObj l o=w:=by
 have:w.heap.setIfInBounds l o=w.heap:=by
  apply Array.ext_getElem?
  intro i
  rw [Array.getElem?_setIfInBounds]
  split
  ·rename_i e
   subst e
   split
   ·exact h.symm
   ·rename_i hlt
    rw [Array.getElem?_eq_none (by omega)]
  ·rfl
 unfold World.putObj
 rw [this]
theorem yor {w:World} {l:Nat} {o o':Obj}:(w.putObj l o).putObj l o'=w.putObj l o':=by
 unfold World.putObj
 simp only [World.mk.injEq,and_true]
 apply Array.ext_getElem?
 intro i
 simp only [Array.getElem?_setIfInBounds,Array.size_setIfInBounds]
 split <;> rfl
theorem ywr {w:World} (h:ywh w) {l:Nat} {o:Obj} (hl:GN≤l):ywh (w.putObj l o):=
 h.keep (fun k hk=>World.putObj_heap_other (by omega)) (by simp)
section
variable {P:Program} {N:Nat} {g:Operand} {ps:List Nat} {assign body:Code} {Q:Exit→SS→Prop} {s:SS} {gf:Nat} {caps:List AV} {els:List (List AV)}
def yid (B:Bse) (Bx:Bse) (okx:Nat→Prop) (N l:Nat) (rec:LoopState→Option Code→Loop) (t0:Nat→Option AV) (vt:Nat→Value) (o:Loop) (h:Nat→Option LObj) (W:World):Prop:=
 W.heap[l]?=some (.loop o)∧∃ lv',Inv Bx okx h lv' (W.putObj l (.loop (rec .ready none)))∧(∀ x y,t0 x=some y→Rel (yax Bx okx lv' (W.putObj l (.loop (rec .ready none)))) (W.putObj l (.loop (rec .ready none))) lv' y (vt x)) ∧
  ∀ id b o,N≤id→h id=some o→isC o=true→B.pin id=some b→∃ n,lv' id=some (some b,n)
theorem yid.grow {B Bx:Bse} {okx:Nat→Prop} {N l:Nat} {rec:LoopState→Option Code→Loop} {t0:Nat→Option AV} {vt:Nat→Value} {o:Loop} {h:Nat→Option LObj} {W W2:World} (hK:yid B Bx okx N l rec t0 vt o h W) (hb:Below W.heap.size W W2):yid B Bx okx N l rec t0 vt o h W2:=by
 obtain ⟨h1,lv',h2,h3,h4⟩:=hK
 have hlt:=(Array.getElem?_eq_some_iff.1 h1).1
 have hb':Below (W.putObj l (.loop (rec .ready none))).heap.size (W.putObj l (.loop (rec .ready none))) (W2.putObj l (.loop (rec .ready none))):=by
  refine ⟨hb.os,hb.tape,hb.output,by simpa using hb.size,fun k hk=>?_⟩
  by_cases e:k=l
  ·subst e
   rw [World.putObj_heap_same hlt,World.putObj_heap_same (Nat.lt_of_lt_of_le hlt hb.size)]
  ·rw [World.putObj_heap_other e,World.putObj_heap_other e]
   exact hb.block k (by simpa using hk)
 exact ⟨(hb.block l hlt).trans h1,lv',h2.grow hb',fun x y hx=>(h3 x y hx).grow hb',h4⟩
theorem yuj {B:Bse} {ok0:Nat→Prop} {h:Nat→Option LObj} {lv:Live} {w:World} (hi:Inv B ok0 h lv w) {l:Nat} (h1:¬ B.mine l) {b:Nat} (hb:ybn lv b):b≠l:=by
 rintro rfl;exact h1 (hi.mineOf hb).1
theorem round_K {B Bx:Bse} {okx:Nat→Prop} {l:Nat} {rec:LoopState→Option Code→Loop} {t0:Nat→Option AV} {tm:Array Value} {vt:Nat→Value} {fn:FuncId} (hrec:∀ st pe,(rec st pe).state=st∧(rec st pe).pending=pe∧∀ st' pe',{ rec st pe with state:=st',pending:=pe' }=rec st' pe')
  (hl:Bx.w.heap[l]?=some (.loop (rec .ready none))) (hlx:¬ Bx.lent l) (hlk:¬ okx l) (hdis:∀ g,okx g→¬ Bx.lent g) (hlg:GN≤l) (htm:tm.size=N) (hvt:∀ x,x < 1000000→vt x=tm.getD x undef) (hbig:N≤1000000) (hps:∀ p∈ps,p < N) (hpn:ps.Nodup) (ht0:∀ x y,t0 x=some y→x < N∨1000000≤x) {hk:Nat→Nat→Option LObj} {k:Nat} {el:List AV} (hel:el.length=ps.length∧yav.pureL el=true)
  (round:A P N assign (fun e s1=>e=.normal∧A P N body (zxj t0 hk k Q) s1) ⟨zag t0 ps el,hk k⟩) {vs:List Value} {W:World} (hK:yid B Bx okx N l rec t0 vt (rec .ready none) (hk k) W) (hvs:ybm okx W (fun _=>none) el vs) :
  RoundIn Fence.wide 0 P l fn ((ps.toArray.zip vs.toArray).foldl (fun tmps (x:Nat × Value)=>tmps.setIfInBounds x.1 x.2) tm) assign body W fun e W'=>
   (e=.returned (.bool true)∧yid B Bx okx N l rec t0 vt (rec .ready none) (hk (k+1)) W') ∨
   (e=.returned (.bool false)∧∃ c h,((c=.ret∧Q .ret ⟨t0,h⟩)∨∃ i,c=.exit i∧Q (.exit i) ⟨t0,h⟩)∧yid B Bx okx N l rec t0 vt (rec .done (some c)) h W'):=by
 obtain ⟨hWl,lv1,i1,f1,p1⟩:=hK
 rw [ymz hWl] at i1 f1
 have hlt:=(Array.getElem?_eq_some_iff.1 hWl).1
 have hltx:=(Array.getElem?_eq_some_iff.1 hl).1
 have hmx:¬ Bx.mine l:=fun h=>by rcases h with h|h;exact hlx h;omega
 have hnl1:∀ b,ybn lv1 b→b≠l:=fun b hb=>yuj i1 hmx hb
 have hnok1:∀ g,yax Bx okx lv1 W g→g≠l:=fun g hg e=>by subst e;rcases hg.1 with h|h;exact hlk h;exact hmx h
 obtain ⟨hvl,hvr⟩:=hvs
 obtain ⟨z1,z2,z3⟩:=zmx ps vs tm (by rw [hvl,hel.1]) hpn (fun p hp=>by rw [htm];exact hps p hp)
 have hfold:(ps.toArray.zip vs.toArray).foldl (fun tmps (x:Nat × Value)=>tmps.setIfInBounds x.1 x.2) tm=(ps.zip vs).foldl (fun t (x:Nat × Value)=>t.setIfInBounds x.1 x.2) tm:=by
  rw [List.zip_toArray,List.foldl_toArray]
 rw [hfold]
 generalize (ps.zip vs).foldl (fun t (x:Nat × Value)=>t.setIfInBounds x.1 x.2) tm=tr at z1 z2 z3
 have j1:=i1.rebase (W1:=W) i1.base.glob (Nat.le_refl _) (fun _ _=>rfl) (fun _ _=>rfl) B.pin (some l) [] (fun x=>vt (x - 1000000)) (fun l' h=>by cases h;exact ⟨⟨_,hWl⟩,fun h=>hnl1 l h rfl⟩)
 have up1:∀ g,yax Bx okx lv1 W g→yax ⟨W,ybn lv1,B.pin,some l,[],fun x=>vt (x - 1000000)⟩ (yax Bx okx lv1 W) lv1 W g:=fun g hg=>⟨.inl hg,hg.2.1,hg.2.2⟩
 have s1:Sim ⟨W,ybn lv1,B.pin,some l,[],fun x=>vt (x - 1000000)⟩ (yax Bx okx lv1 W) N ⟨zag t0 ps el,hk k⟩ lv1 { tmps:=tr,defers:=[] } W:=by
  refine ⟨j1,by simp only;rw [z1,htm],fun x y hy=>?_,⟨[],rfl,List.nodup_nil,fun d hd=>by cases hd⟩,hbig,p1⟩
  unfold zag at hy
  cases hb:Nat.ble 1000000 x with
  | true=>
   simp only [hb] at hy
   have hx:1000000≤x:=by simpa using hb
   refine ⟨.inr hx,?_⟩
   rw [ydl,if_neg (by omega)]
   exact (f1 _ y hy).keep fun g hg=>⟨up1 g hg,rfl⟩
  | false=>
   simp only [hb] at hy
   have hx:=zul hb
   cases hz:look (ps.zip el) x with
   | some y'=>
    simp only [hz,Option.some.injEq] at hy
    subst hy
    obtain ⟨j,hj1,hj2⟩:=zff hz
    have hpx:=hps x (List.mem_of_getElem? hj1)
    refine ⟨.inl hpx,?_⟩
    obtain ⟨u,hu⟩:∃ u,vs[j]?=some u:=⟨_,List.getElem?_eq_getElem (by rw [hvl];exact (List.getElem?_eq_some_iff.1 hj2).1)⟩
    rw [ydl,if_pos hx]
    simp only
    rw [z3 j x u hj1 hu]
    have hp:yav y'=true:=yoq hel.2 y' (List.mem_of_getElem? hj2)
    refine ((hvr j y' u hj2 hu).relive (fun id b n _ hm=>by rw [yav.ment hp] at hm;cases hm)).keep fun g hg=>⟨up1 g ⟨.inl hg,Nat.lt_of_lt_of_le (i1.ok0lt g hg) i1.base.size,fun id b n hb e=>?_⟩,rfl⟩
    subst e
    rcases (i1.mineOf ⟨id,n,hb⟩).1 with h|h
    ·exact hdis b hg h
    ·have:=i1.ok0lt b hg;omega
   | none=>
    simp only [hz] at hy
    have hxN:x < N:=(ht0 x y hy).resolve_right (by omega)
    refine ⟨.inl hxN,?_⟩
    rw [ydl,if_pos hx]
    simp only
    rw [z2 x (ysp hel.1.symm hz),← hvt x hx]
    exact (f1 x y hy).keep fun g hg=>⟨up1 g hg,rfl⟩
 have hA:=round _ _ _ _ _ s1
 refine roundIn_of_wpIn trivial (wpIn_mono hA ?_)
 rintro e a2 W2 ⟨s2,lv2,⟨rfl,hbody⟩,h2⟩
 have hW2l:W2.heap[l]?=some (.loop (rec .ready none)):=(h2.inv.base.block l hlt fun h=>hnl1 l h rfl).trans hWl
 have hsz2:W.heap.size≤W2.heap.size:=h2.inv.base.size
 have hm2:¬ Bse.mine ⟨W,ybn lv1,B.pin,some l,[],fun x=>vt (x - 1000000)⟩ l:=fun h=>by rcases h with h|h;exact hnl1 l h rfl;simp only at h;omega
 have hnl2:∀ b,ybn lv2 b→b≠l:=fun b hb=>yuj h2.inv hm2 hb
 have hnok2:∀ g,yax ⟨W,ybn lv1,B.pin,some l,[],fun x=>vt (x - 1000000)⟩ (yax Bx okx lv1 W) lv2 W2 g→g≠l:=fun g hg e=>by subst e;rcases hg.1 with h|h;exact hnok1 _ h rfl;exact hm2 h
 refine ⟨_,run_beginRound hW2l (hrec _ _).1,?_⟩
 rw [(hrec _ _).2.2,(hrec _ _).2.1]
 generalize hW3:W2.putObj l (.loop (rec .busy none))=W3
 have hW3l:W3.heap[l]?=some (.loop (rec .busy none)):=by rw [← hW3];exact World.putObj_heap_same (by omega)
 have hW3o:∀ k,k≠l→W3.heap[k]?=W2.heap[k]?:=fun k hk=>by rw [← hW3];exact World.putObj_heap_other hk
 have hW3s:W3.heap.size=W2.heap.size:=by rw [← hW3];simp
 have j3:=h2.inv.rebase (W1:=W3) (by rw [← hW3];exact ywr h2.inv.base.glob hlg) (by omega) (fun g hg=>hW3o g (hnok2 g hg)) (fun b hb=>hW3o b (hnl2 b hb)) B.pin (some l) a2.defers (fun x=>vt (x - 1000000)) (fun l' h=>by cases h;exact ⟨⟨_,hW3l⟩,fun h=>hnl2 l h rfl⟩)
 have up3:∀ g,yax ⟨W,ybn lv1,B.pin,some l,[],fun x=>vt (x - 1000000)⟩ (yax Bx okx lv1 W) lv2 W2 g→yax ⟨W3,ybn lv2,B.pin,some l,a2.defers,fun x=>vt (x - 1000000)⟩ (yax ⟨W,ybn lv1,B.pin,some l,[],fun x=>vt (x - 1000000)⟩ (yax Bx okx lv1 W) lv2 W2) lv2 W3 g∧W3.heap[g]?=W2.heap[g]?:=
  fun g hg=>⟨⟨.inl hg,by rw [hW3s];exact hg.2.1,hg.2.2⟩,hW3o g (hnok2 g hg)⟩
 have s3:Sim ⟨W3,ybn lv2,B.pin,some l,a2.defers,fun x=>vt (x - 1000000)⟩ (yax ⟨W,ybn lv1,B.pin,some l,[],fun x=>vt (x - 1000000)⟩ (yax Bx okx lv1 W) lv2 W2) N s2 lv2 a2 W3:=
  ⟨j3,h2.size,fun x y hx=>⟨(h2.frame x y hx).1,(h2.frame x y hx).2.keep up3⟩,⟨[],rfl,List.nodup_nil,fun d hd=>by cases hd⟩,hbig,h2.pin⟩
 refine wpIn_mono (hbody _ _ _ _ _ s3) ?_
 rintro e a4 W4 ⟨s4,lv4,hq,h4⟩
 have hlt3:l < W3.heap.size:=by omega
 have hW4l:W4.heap[l]?=some (.loop (rec .busy none)):=(h4.inv.base.block l hlt3 fun h=>hnl2 l h rfl).trans hW3l
 have hsz4:W3.heap.size≤W4.heap.size:=h4.inv.base.size
 have fin:∀ (h':Nat→Option LObj) (st:LoopState) (pe:Option Code),(∀ x y,t0 x=some y→s4.t (x+1000000)=some y)→(∀ id o,h' id=some o→s4.h id=some o)→yid B Bx okx N l rec t0 vt (rec st pe) h' (W4.putObj l (.loop (rec st pe))):=by
  intro h' st pe hgt hsub
  refine ⟨World.putObj_heap_same (by omega),?_⟩
  rw [yor]
  obtain ⟨lv5,i5,sub5,ok5⟩:=h4.inv.weak hsub
  generalize hW5:W4.putObj l (.loop (rec .ready none))=W5
  have hW5l:W5.heap[l]?=some (.loop (rec .ready none)):=by rw [← hW5];exact World.putObj_heap_same (by omega)
  have hW5o:∀ k,k≠l→W5.heap[k]?=W4.heap[k]?:=fun k hk=>by rw [← hW5];exact World.putObj_heap_other hk
  have hW5s:W5.heap.size=W4.heap.size:=by rw [← hW5];simp
  have hm3:¬ Bse.mine ⟨W3,ybn lv2,B.pin,some l,a2.defers,fun x=>vt (x - 1000000)⟩ l:=fun h=>by rcases h with h|h;exact hnl2 l h rfl;simp only at h;omega
  have hG5:ywh W5:=by rw [← hW5];exact ywr h4.inv.base.glob hlg
  have hb1:Based ⟨W,ybn lv1,B.pin,some l,[],fun x=>vt (x - 1000000)⟩ W5:=by
   have b4:=h4.inv.base
   have b2:=h2.inv.base
   have e5:W5.os=W4.os∧W5.tape=W4.tape∧W5.output=W4.output:=by rw [← hW5];exact ⟨rfl,rfl,rfl⟩
   have e3:W3.os=W2.os∧W3.tape=W2.tape∧W3.output=W2.output:=by rw [← hW3];exact ⟨rfl,rfl,rfl⟩
   refine ⟨e5.1.trans (b4.os.trans (e3.1.trans b2.os)),e5.2.1.trans (b4.tape.trans (e3.2.1.trans b2.tape)),e5.2.2.trans (b4.output.trans (e3.2.2.trans b2.output)),by simp only;omega,fun k hk hnl=>?_,hG5,b2.gsize,b2.lentG,b2.rdok⟩
   by_cases e:k=l
   ·subst e;exact hW5l.trans hWl.symm
   ·refine (hW5o k e).trans ((b4.block k (by simp only at hk ⊢;omega) fun h=>?_).trans ((hW3o k e).trans (b2.block k hk hnl)))
    rcases live_back h2.inv h with h'|h'
    ·exact hnl h'
    ·simp only at hk;omega
  obtain ⟨k1,k2⟩:=Inv.back h2.inv (by omega) i5 hb1 (by omega) (fun g hg=>hW5o g fun e=>by
   subst e
   rcases hg.1 with h|h
   ·exact hnok2 _ h rfl
   ·exact hm3 h) (fun b hb=>hW5o b (yuj i5 hm3 hb))
  have hbx:Based Bx W5:=by
   have bx:=i1.base
   refine ⟨hb1.os.trans bx.os,hb1.tape.trans bx.tape,hb1.output.trans bx.output,Nat.le_trans bx.size hb1.size,fun k hk hnl=>?_,hG5,bx.gsize,bx.lentG,bx.rdok⟩
   refine (hb1.block k (Nat.lt_of_lt_of_le hk bx.size) fun h=>?_).trans (bx.block k hk hnl)
   rcases (i1.mineOf h).1 with h'|h'
   ·exact hnl h'
   ·omega
  obtain ⟨q1,q2⟩:=Inv.back i1 (Nat.le_refl _) k1 hbx (Nat.le_refl _) (fun _ _=>rfl) (fun _ _=>rfl)
  refine ⟨lv5,q1,fun x y hx=>?_,fun id b o hN hx hc hb=>?_⟩
  ·have hf:=(h4.frame _ _ (hgt x y hx)).2
   rw [ydl,if_neg (by omega)] at hf
   simp only [Nat.add_sub_cancel] at hf
   have hf5:=(hf.relive fun id b n hb _=>sub5 id b n hb).keep (fun g hg=>⟨ok5 g hg,rfl⟩)
   exact (hf5.keep k2).keep q2
  ·obtain ⟨n,hn⟩:=h4.pin id b o hN (hsub id o hx) hc hb
   obtain ⟨b',n',g1,_⟩:=i5.obj id _ hx
   have:=sub5 id b' n' g1
   rw [hn] at this
   cases this
   exact ⟨n,g1⟩
 cases e with
 | normal=>
  refine ⟨_,_,run_endRound none hW4l,.inl ⟨rfl,?_⟩⟩
  rw [(hrec _ _).2.2]
  exact fin _ .ready none hq.1 hq.2
 | ret=>
  obtain ⟨hx,g1,g2,g3⟩:=hq
  refine ⟨_,_,run_endRound (some .ret) hW4l,.inr ⟨rfl,.ret,hx,.inl ⟨rfl,g3⟩,?_⟩⟩
  rw [(hrec _ _).2.2]
  exact fin _ .done (some .ret) g1 g2
 | exit i=>
  obtain ⟨hx,g1,g2,g3⟩:=hq
  refine ⟨_,_,run_endRound (some (.exit i)) hW4l,.inr ⟨rfl,.exit i,hx,.inr ⟨i,rfl,g3⟩,?_⟩⟩
  rw [(hrec _ _).2.2]
  exact fin _ .done (some (.exit i)) g1 g2
 | goto l=>exact hq.elim
 | panic c=>exact hq.elim
 | outgrown=>exact hq.elim
theorem Inv.weakC {B:Bse} {ok0:Nat→Prop} {h h':Nat→Option LObj} {lv:Live} {w:World} {ids:List Nat} (hi:Inv B ok0 h lv w) (hh:∀ id o,h' id=some o→h id=some o∨id∈ids∧∃ x xs,o=.cells (x::xs)∧h id=some (.vec (x::xs))) :
  ∃ lv',Inv B ok0 h' lv' w∧(∀ id b n,lv' id=some (b,n)→lv id=some (b,n))∧∀ g,yax B ok0 lv w g→yax B ok0 lv' w g:=by
 obtain ⟨lv',h1,h2,h3⟩:=hi.weak (h':=fun i=>match h' i with|none=>none|some _=>h i) fun i o ho=>by
  split at ho
  ·cases ho
  ·exact ho
 refine ⟨lv',⟨h1.base,h1.ok0lt,fun id hn=>h1.dom id (by simp [hn]),h1.inj,fun id o ho=>?_⟩,h2,h3⟩
 rcases hh id o ho with e|⟨_,x,xs,rfl,e⟩
 ·exact h1.obj id o (by simp only [ho];exact e)
 ·obtain ⟨b,n,q1,q2⟩:=h1.obj id (.vec (x::xs)) (by simp only [ho];exact e)
  refine ⟨b,n,q1,?_⟩
  cases b with
  | none=>simp [ygo] at q2
  | some b=>exact ⟨q2.1,q2.2.1,q2.2.2.1⟩
def zyh (lv:Live) (ids:List Nat) (p:Nat→Option Nat) (x:Nat):Option Nat:=
 match yky x ids with
 | true=>match lv x with
  | some (some b,_)=>some b
  | _=>none
 | false=>p x
structure LoopAt (P:Program) (N:Nat) (ps:List Nat) (assign body:Code) (Q:Exit→SS→Prop) (t0:Nat→Option AV) (caps:List AV) (ids:List Nat) (B Bx:Bse) (okx:Nat→Prop) (l:Nat) (rec:LoopState→Option Code→Loop) (vt:Nat→Value) (lv:Live) (lb:List Value) (W1:World):Prop where
 okLt:∀ g,okx g→g < W1.heap.size
 len:lb.length=caps.length
 caps:∀ (i:Nat) (c:AV) (u:Value),caps[i]?=some c→lb[i]?=some u→Rel okx W1 lv c u
 pin:∀ id∈ids,∃ b n,lv id=some (some b,n)∧B.pin id=some b
 pinx:∀ x,Bx.pin x=none
 mx:¬ Bx.mine l
 gl:GN≤l
 keep:∀ o h W',yid B Bx okx N l rec t0 vt o h W'→W1.heap.size≤W'.heap.size∧∀ g,okx g→W'.heap[g]?=W1.heap[g]?
 yield:∀ (hk:Nat→Nat→Option LObj) (k:Nat) (el:List AV) (vs:List Value) (W:World),(el.length=ps.length∧yav.pureL el=true)→A P N assign (fun e s1=>e=.normal∧A P N body (zxj t0 hk k Q) s1) ⟨zag t0 ps el,hk k⟩→yid B Bx okx N l rec t0 vt (rec .ready none) (hk k) W→ybm okx W (fun _=>none) el vs →
  YieldAt Fence.wide 0 P l vs.toArray W fun e W'=>(e=.returned (.bool true)∧yid B Bx okx N l rec t0 vt (rec .ready none) (hk (k+1)) W')∨(e=.returned (.bool false)∧∃ c h,((c=.ret∧Q .ret ⟨t0,h⟩)∨∃ i,c=.exit i∧Q (.exit i) ⟨t0,h⟩)∧yid B Bx okx N l rec t0 vt (rec .done (some c)) h W')
theorem A_rangeG (ids:List Nat) (hgv:evF s.t g=some (.fn gf caps)) (hbody:ynx P gf) (hps:∀ p∈ps,p < N) (hpn:ps.Nodup) (t0:Nat→Option AV) (ht0:∀ x y,t0 x=some y→s.t x=some y∧(x < N∨1000000≤x))
  (H0 HE:Nat→Option LObj) (h0:∀ id o,H0 id=some o→s.h id=some o∨id∈ids∧∃ x xs,o=.cells (x::xs)∧s.h id=some (.vec (x::xs))) (hids:∀ id∈ids,N≤id∧∃ xs,H0 id=some (.cells xs))
  (Q':Exit→SS→Prop) (hQ:∀ e h,Q' e ⟨t0,h⟩→∃ h',(∀ i o,h' i=some o→h i=some o∧i ∉ ids)∧Q e ⟨t0,h'⟩)
  (hcall:∀ (B Bx:Bse) (okx:Nat→Prop) (l:Nat) (rec:LoopState→Option Code→Loop) (vt:Nat→Value) (lv:Live) (lb:List Value) (W1:World),LoopAt P N ps assign body Q' t0 caps ids B Bx okx l rec vt lv lb W1→yid B Bx okx N l rec t0 vt (rec .ready none) H0 W1 →
   CallsIn Fence.wide 0 P gf (#[.func (.yield l) #[] #[]]++lb.toArray) W1 fun e W'=>(∃ v,e=.returned v)∧(yid B Bx okx N l rec t0 vt (rec .ready none) HE W'∨∃ (c:Code) (h:Nat→Option LObj),((c=.ret∧Q' .ret ⟨t0,h⟩)∨∃ i,c=.exit i∧Q' (.exit i) ⟨t0,h⟩)∧yid B Bx okx N l rec t0 vt (rec .done (some c)) h W'))
  (done:Q' .normal ⟨t0,HE⟩):A P N (.rangeFunc g ps.toArray assign body) Q s:=by
 intro B ok0 lvs a w hs
 have hfr:=hs.eval hgv
 generalize hv:a.eval g=v at hfr
 cases hfr with
 | fn lb hl hr=>
 obtain ⟨lv,hi,hsub,hok⟩:=hs.inv.weakC h0
 have hbig:=hs.big
 have hframe0:∀ x y,t0 x=some y→Rel (yax B ok0 lv w) w lv y (ydl B a x):=by
  intro x y hx
  obtain ⟨g1,g2⟩:=ht0 x y hx
  have:=(hs.frame x y g1).2
  exact (this.relive fun id b n hb _=>hsub id b n hb).keep fun g hg=>⟨hok g hg,rfl⟩
 have hcaps:∀ (i:Nat) (c:AV) (u:Value),caps[i]?=some c→lb[i]?=some u→Rel (yax B ok0 lv w) w lv c u:=fun i c u h1 h2=>((hr i c u h1 h2).relive (fun id b n hb _=>hsub id b n hb)).keep fun g hg=>⟨hok g hg,rfl⟩
 have hpin0:∀ id b o,N≤id→H0 id=some o→isC o=true→id ∉ ids→B.pin id=some b→∃ n,lv id=some (some b,n):=by
  intro id b o hN hx hc hni hb
  obtain ⟨n,hn⟩:=hs.pin id b o hN ((h0 id o hx).resolve_right fun h=>hni h.1) hc hb
  obtain ⟨b',n',g1,_⟩:=hi.obj id _ hx
  have:=hsub id b' n' g1
  rw [hn] at this
  cases this
  exact ⟨n,g1⟩
 obtain ⟨Bp,hBp⟩:∃ Bp:Bse,Bp.pin=zyh lv ids B.pin:=⟨⟨B.w,B.lent,zyh lv ids B.pin,B.rd,B.dl,B.gv⟩,rfl⟩
 have hpins:∀ id b o,N≤id→H0 id=some o→isC o=true→Bp.pin id=some b→∃ n,lv id=some (some b,n):=by
  intro id b o hN hx hc hb
  rw [hBp,zyh] at hb
  split at hb
  ·split at hb
   ·rename_i b' n hlv
    cases hb
    exact ⟨n,hlv⟩
   ·cases hb
  ·rename_i hm
   exact hpin0 id b o hN hx hc (fun h=>by rw [ydc.2 h] at hm;cases hm) hb
 have hpinB:∀ id b,id ∉ ids→B.pin id=some b→Bp.pin id=some b:=by
  intro id b hni hb
  rw [hBp,zyh]
  split
  ·rename_i hm;exact absurd (ydc.1 hm) hni
  ·exact hb
 refine wpIn_rangeFunc fun fn hfn=>?_
 obtain ⟨l,mark,W1,D0,henter,hgrow,hl1,hlw,hmark⟩:∃ (l:Nat) (mark:List Deferred) (W1:World) (D0:Nat),
   (Instr.enterLoop fn a.tmps ps.toArray assign body (FW B.rd).round).run P w=.ok (l,mark) W1∧Below w.heap.size w W1∧W1.heap[l]?=some (.loop ({ state:=.ready,pending:=none,fn,tmps:=a.tmps,params:=ps.toArray,assign,body,defers:=D0 }:Loop))∧w.heap.size≤l ∧
   (mark=[]∨∃ D,mark=[{ target:=.collected D,args:=#[] }]∧W1.heap[D]?=some (.deferred (some []))∧w.heap.size≤D∧D≠l):=by
  cases hrd:B.rd with
  | none=>
   refine ⟨_,_,_,w.heap.size,run_enterLoop_outer _ _ _ _ _,((Below.refl _ w).alloc (Nat.le_refl _) _).alloc (by simp) _,?_,by omega,.inr ⟨_,rfl,?_,Nat.le_refl _,by omega⟩⟩
   ·have:=World.alloc_heap_new (w.alloc (.deferred (some []))) (.loop { state:=.ready,pending:=none,fn,tmps:=a.tmps,params:=ps.toArray,assign,body,defers:=w.heap.size })
    rwa [World.size_alloc] at this
   ·exact (Below.heap_alloc _ _ _ (by simp)).trans (World.alloc_heap_new w _)
  | some l0=>
   obtain ⟨⟨r0,hr0⟩,hnl⟩:=hs.inv.base.rdok l0 hrd
   have hr1:w.heap[l0]?=some (.loop r0):=(hs.inv.base.block l0 (Array.getElem?_eq_some_iff.1 hr0).1 hnl).trans hr0
   exact ⟨_,_,_,r0.defers,run_enterLoop_inner hr1 _ _ _ _ _,(Below.refl _ w).alloc (Nat.le_refl _) _,World.alloc_heap_new w _,Nat.le_refl _,.inl rfl⟩
 obtain ⟨rec,hrecd⟩:∃ rec:LoopState→Option Code→Loop,rec=fun st pe=>({ state:=st,pending:=pe,fn,tmps:=a.tmps,params:=ps.toArray,assign,body,defers:=D0 }:Loop):=⟨_,rfl⟩
 have hrec:∀ st pe,(rec st pe).state=st∧(rec st pe).pending=pe∧∀ st' pe',{ rec st pe with state:=st',pending:=pe' }=rec st' pe':=fun st pe=>by subst hrecd;exact ⟨rfl,rfl,fun _ _=>rfl⟩
 have hl1':W1.heap[l]?=some (.loop (rec .ready none)):=by rw [hrecd];exact hl1
 have hG1:ywh W1:=(hi.base.grow hgrow).glob
 have hGN:GN≤w.heap.size:=Nat.le_trans hi.base.gsize hi.base.size
 have hltw:∀ b,ybn lv b→b < w.heap.size:=fun b hb=>(hi.mineOf hb).2
 have hlt1:=(Array.getElem?_eq_some_iff.1 hl1').1
 have j1:=hi.rebase hG1 hgrow.size (fun g hg=>hgrow.block g hg.2.1) (fun b hb=>hgrow.block b (hltw b hb)) (fun _=>none) none [] (fun _=>undef) (fun l h=>by cases h)
 have hnlive:∀ g,yax B ok0 lv w g→¬ ybn lv g:=fun g hg ⟨id,n,h⟩=>hg.2.2 id g n h rfl
 refine ⟨l,mark,W1,{ target:=.fn (.func gf) lb.toArray,args:=#[.func (.yield l) #[] #[]] },W1,gf,#[.func (.yield l) #[] #[]]++lb.toArray,W1,henter,?_,fun _ _=>trivial,?_,fun hc=>(by cases hc),?_⟩
 ·simp only [resolve,hv]
  simp [go_sem]
 ·simp [invoke,go_sem,ygl hbody]
 ·have hK0:yid Bp ⟨W1,ybn lv,fun _=>none,none,[],fun _=>undef⟩ (yax B ok0 lv w) N l rec t0 (ydl B a) (rec .ready none) H0 W1:=by
   refine ⟨hl1',lv,?_,fun x y hx=>?_,hpins⟩
   ·rw [ymz hl1'];exact j1
   ·rw [ymz hl1']
    exact (hframe0 x y hx).keep fun g hg=>⟨⟨.inl hg,Nat.lt_of_lt_of_le hg.2.1 hgrow.size,hg.2.2⟩,hgrow.block g hg.2.1⟩
  have hback:∀ (o:Loop) (h:Nat→Option LObj) (W:World),yid Bp ⟨W1,ybn lv,fun _=>none,none,[],fun _=>undef⟩ (yax B ok0 lv w) N l rec t0 (ydl B a) o h W→∀ h':Nat→Option LObj,(∀ i o,h' i=some o→h i=some o∧i ∉ ids)→∃ lv',Sim B ok0 N ⟨t0,h'⟩ lv' { a with defers:=mark++a.defers } (W.putObj l (.loop { o with state:=.exhausted })):=by
   rintro o h W ⟨hWl,lv',i1,f1,p1⟩ h' hh'
   have hlt:=(Array.getElem?_eq_some_iff.1 hWl).1
   have b1:=i1.base
   generalize hW5:W.putObj l (.loop { o with state:=.exhausted })=W5
   have hW5o:∀ k,k≠l→W5.heap[k]?=(W.putObj l (.loop (rec .ready none))).heap[k]?:=fun k hk=>by rw [← hW5,World.putObj_heap_other hk,World.putObj_heap_other hk]
   have hW5s:W5.heap.size=(W.putObj l (.loop (rec .ready none))).heap.size:=by rw [← hW5];simp
   have hG5:ywh W5:=by
    have:=ywr (o:=.loop { o with state:=.exhausted }) b1.glob (l:=l) (by omega)
    rwa [yor,hW5] at this
   have e5:W5.os=W.os∧W5.tape=W.tape∧W5.output=W.output:=by rw [← hW5];exact ⟨rfl,rfl,rfl⟩
   have hold:∀ k,k < w.heap.size→¬ ybn lv k→W5.heap[k]?=w.heap[k]?:=fun k hk hn=>(hW5o k (by omega)).trans ((b1.block k (Nat.lt_of_lt_of_le hk hgrow.size) hn).trans (hgrow.block k hk))
   have hbB:Based B W5:=by
    refine ⟨e5.1.trans (b1.os.trans (hgrow.os.trans hi.base.os)),e5.2.1.trans (b1.tape.trans (hgrow.tape.trans hi.base.tape)),e5.2.2.trans (b1.output.trans (hgrow.output.trans hi.base.output)),?_,fun k hk hnl=>?_,hG5,hi.base.gsize,hi.base.lentG,hi.base.rdok⟩
    ·rw [hW5s];exact Nat.le_trans hi.base.size (Nat.le_trans hgrow.size b1.size)
    ·refine (hold k (Nat.lt_of_lt_of_le hk hi.base.size) fun hb=>?_).trans (hi.base.block k hk hnl)
     rcases (hi.mineOf hb).1 with h'|h'
     ·exact hnl h'
     ·omega
   have hmx:¬ Bse.mine ⟨W1,ybn lv,fun _=>none,none,[],fun _=>undef⟩ l:=fun h=>by rcases h with h|h;exact absurd (hltw l h) (by omega);simp only at h;omega
   obtain ⟨k1,k2⟩:=Inv.back hi hgrow.size i1 hbB (by omega) (fun g hg=>hW5o g fun e=>by
    subst e
    rcases hg.1 with h|h
    ·have:=h.2.1;omega
    ·exact hmx h) (fun b hb=>hW5o b (yuj i1 hmx hb))
   obtain ⟨lv2,k3,k4,k5⟩:=k1.weak (h':=h') fun i o ho=>(hh' i o ho).1
   refine ⟨lv2,k3,hs.size,fun x y hx=>⟨(ht0 x y hx).2,?_⟩,?_,hbig,fun id b o hN hx hc hb=>?_⟩
   ·exact (((f1 x y hx).keep k2).relive fun id b n hb _=>k4 id b n hb).keep fun g hg=>⟨k5 g hg,rfl⟩
   rotate_left
   ·obtain ⟨n,hn⟩:=p1 id b o hN (hh' id o hx).1 hc (hpinB id b (hh' id o hx).2 hb)
    obtain ⟨b',n',g1,_⟩:=k3.obj id _ hx
    have:=k4 id b' n' g1
    rw [hn] at this
    cases this
    exact ⟨n,g1⟩
   ·obtain ⟨ms,g1,g2,g3⟩:=hs.defers
    have hm:∀ d∈ms,∃ D,d={ target:=.collected D,args:=#[] }∧W5.heap[D]?=some (.deferred (some []))∧B.w.heap.size≤D∧D < w.heap.size:=by
     intro d hd
     obtain ⟨D,q1,q2,q3⟩:=g3 d hd
     have hDlt:=(Array.getElem?_eq_some_iff.1 q2).1
     exact ⟨D,q1,(hold D hDlt fun ⟨id,n,h⟩=>(hi.lvat h).choose_spec.2.2.2.notDef q2).trans q2,q3,hDlt⟩
    refine ⟨mark++ms,by simp only;rw [g1,List.append_assoc],?_,fun d hd=>?_⟩
    ·rcases hmark with rfl|⟨D,rfl,_,hD,_⟩
     ·simpa using g2
     ·simp only [List.cons_append,List.nil_append,List.nodup_cons]
      refine ⟨fun hin=>?_,g2⟩
      obtain ⟨D',q1,_,_,q4⟩:=hm _ hin
      simp only [Deferred.mk.injEq,Target.collected.injEq,and_true] at q1
      omega
    ·rcases List.mem_append.1 hd with hd|hd
     ·rcases hmark with rfl|⟨D,rfl,hD1,hD2,hD3⟩
      ·cases hd
      ·simp only [List.mem_singleton] at hd
       refine ⟨D,hd,?_,Nat.le_trans hi.base.size hD2⟩
       exact (hW5o D hD3).trans ((b1.block D (Array.getElem?_eq_some_iff.1 hD1).1 fun h=>by have:=hltw D h;omega).trans hD1)
     ·obtain ⟨D,q1,q2,q3,_⟩:=hm d hd
      exact ⟨D,q1,q2,q3⟩
  have hmx1:¬ Bse.mine ⟨W1,ybn lv,fun _=>none,none,[],fun _=>undef⟩ l:=fun h=>by rcases h with h|h;exact absurd (hltw l h) (by omega);simp only at h;omega
  have hcall:=hcall Bp ⟨W1,ybn lv,fun _=>none,none,[],fun _=>undef⟩ (yax B ok0 lv w) l rec (ydl B a) lv lb W1 ⟨fun g hg=>Nat.lt_of_lt_of_le hg.2.1 hgrow.size,hl,fun i x u hx hu=>(hcaps i x u hx hu).keep fun g hg=>⟨hg,hgrow.block g hg.2.1⟩,fun id hid=>?_,fun _=>rfl,hmx1,by omega,fun o h W' hK=>?_,fun hk k el vs W2 hel' round hK hvs=>?_⟩ hK0
  ·have hcall':CallsIn (FW B.rd) (0 - 1) P gf (#[.func (.yield l) #[] #[]]++lb.toArray) W1 _:=hcall
   refine hcall'.mono ?_
   rintro e W' ⟨⟨v,rfl⟩,hK|⟨c,h,hc,hK⟩⟩
   ·obtain ⟨h',hh',done⟩:=hQ _ _ done
    obtain ⟨lv',hsim⟩:=hback _ _ _ hK h' hh'
    refine ⟨none,W'.putObj l (.loop { rec .ready none with state:=.exhausted }),?_,⟨_,lv',done,hsim⟩⟩
    exact (run_endLoop (P:=P) hK.1 (by rw [(hrec _ _).1];simp)).trans (congrArg (fun x=>Result.ok x (W'.putObj l (.loop { rec .ready none with state:=.exhausted }))) (hrec _ _).2.1)
   ·have hc':∃ h',(∀ i o,h' i=some o→h i=some o∧i ∉ ids)∧((c=.ret∧Q .ret ⟨t0,h'⟩)∨∃ i,c=.exit i∧Q (.exit i) ⟨t0,h'⟩):=by
     rcases hc with ⟨rfl,hq⟩|⟨i,rfl,hq⟩
     ·obtain ⟨h',hh',q⟩:=hQ _ _ hq;exact ⟨h',hh',.inl ⟨rfl,q⟩⟩
     ·obtain ⟨h',hh',q⟩:=hQ _ _ hq;exact ⟨h',hh',.inr ⟨i,rfl,q⟩⟩
    obtain ⟨h',hh',hc⟩:=hc'
    obtain ⟨lv',hsim⟩:=hback _ _ _ hK h' hh'
    refine ⟨some c,W'.putObj l (.loop { rec .done (some c) with state:=.exhausted }),?_,?_⟩
    ·exact (run_endLoop (P:=P) hK.1 (by rw [(hrec _ _).1];simp)).trans (congrArg (fun x=>Result.ok x (W'.putObj l (.loop { rec .done (some c) with state:=.exhausted }))) (hrec _ _).2.1)
    ·rcases hc with ⟨rfl,hq⟩|⟨i,rfl,hq⟩
     ·exact wpIn_ret ⟨_,lv',hq,hsim⟩
     ·exact wpIn_exit ⟨_,lv',hq,hsim⟩
  ·obtain ⟨hN,xs,hx⟩:=hids id hid
   obtain ⟨b,n,g1,g2⟩:=hi.obj id _ hx
   cases b with
   | none=>simp [ygo] at g2
   | some b=>exact ⟨b,n,g1,by rw [hBp,zyh,ydc.2 hid,g1]⟩
  ·obtain ⟨_,lv',hI,_,_⟩:=hK
   have hb:=hI.base
   refine ⟨by simpa using hb.size,fun g hg=>?_⟩
   have hne:g≠l:=by have:=hg.2.1;omega
   rw [← World.putObj_heap_other (w:=W') (o:=.loop (rec .ready none)) hne]
   exact hb.block g (Nat.lt_of_lt_of_le hg.2.1 hgrow.size) (hnlive g hg)
  ·refine ⟨fn,_,assign,body,?_,round_K hrec hl1' (fun h=>by have:=hltw l h;omega) (fun h=>by have:=h.2.1;omega) (fun g hg=>hnlive g hg) (by omega) hs.size (fun x hx=>by rw [ydl,if_pos hx]) hbig hps hpn (fun x y hx=>(ht0 x y hx).2) hel' round hK hvs⟩
   have:=run_yield (P:=P) (args:=vs.toArray) hK.1 (by rw [hrecd];simp [hvs.1,hel'.1])
   rw [hrecd] at this
   exact this
end
end
section
open Go.RowKit
def zee:List (Nat × AV)→List (Nat × AV)
 | []=>[]
 | (x,y)::t=>(x+1000000,y)::zee t
theorem ypm:∀ (t:List (Nat × AV)) (x:Nat),look (zee t) (x+1000000)=look t x
 | [],x=>rfl
 | (a,y)::t,x=>by
  simp only [zee,look]
  have e:Nat.beq (x+1000000) (a+1000000)=Nat.beq x a:=by
   cases h:Nat.beq x a with
   | true=>rw [Nat.eq_of_beq_eq_true h];simp
   | false=>
    refine yct fun e=>?_
    obtain rfl:x=a:=by omega
    simp at h
  rw [e]
  cases Nat.beq x a with
  | true=>rfl
  | false=>exact ypm t x
theorem yqq:∀ {t:List (Nat × AV)} {x:Nat} {y:AV},look (zee t) x=some y→1000000≤x
 | [],x,y,h=>by simp [zee,look] at h
 | (a,z)::t,x,y,h=>by
  simp only [zee,look] at h
  cases hb:Nat.beq x (a+1000000) with
  | true=>have:=Nat.eq_of_beq_eq_true hb;omega
  | false=>simp only [hb] at h;exact yqq h
theorem yzd:∀ {a b:List (Nat × AV)} {x:Nat},look (a++b) x=match look a x with|some y=>some y|none=>look b x
 | [],b,x=>rfl
 | (d,r)::a,b,x=>by
  simp only [List.cons_append,look]
  cases Nat.beq x d with
  | true=>rfl
  | false=>exact yzd
def zpk (n:Nat):List Nat→Bool
 | []=>true
 | x::t=>Nat.blt x n && zpk n t
theorem yul {n:Nat}:∀ {t:List Nat},zpk n t=true→∀ x∈t,x < n
 | [],_,x,h=>by cases h
 | a::t,hl,x,h=>by
  simp only [zpk,Bool.and_eq_true,Nat.blt_eq] at hl
  rcases List.mem_cons.1 h with rfl|h
  ·exact hl.1
  ·exact yul hl.2 x h
theorem ymv:∀ {l:List Nat},yeb l=true→l.Nodup
 | [],_=>List.nodup_nil
 | k::l,h=>by
  simp only [yeb] at h
  cases hm:yky k l with
  | true=>simp [hm] at h
  | false=>
   simp only [hm] at h
   exact List.nodup_cons.2 ⟨fun hin=>(by rw [ydc.2 hin] at hm;cases hm),ymv h⟩
def zsf:List (Nat × AV)→List (Nat × AV)
 | []=>[]
 | (x,y)::t=>match Nat.ble 1000000 x with
  | true=>zsf t
  | false=>(x,y)::zsf t
theorem yso:∀ {t:List (Nat × AV)} {x:Nat},look (zsf t) x=match Nat.ble 1000000 x with|true=>none|false=>look t x
 | [],x=>by cases h:Nat.ble 1000000 x <;> rfl
 | (a,z)::t,x=>by
  have ih:=yso (t:=t) (x:=x)
  simp only [zsf]
  cases ha:Nat.ble 1000000 a with
  | true=>
   simp only
   rw [ih]
   cases hx:Nat.ble 1000000 x with
   | true=>rfl
   | false=>
    simp only [look]
    rw [yct (fun e=>by subst e;rw [ha] at hx;cases hx)]
  | false=>
   simp only [look]
   cases hb:Nat.beq x a with
   | true=>rw [Nat.eq_of_beq_eq_true hb,ha]
   | false=>simp only;rw [ih]
def znh (n:Nat):List (Nat × AV)→Bool
 | []=>true
 | (x,_)::t=>(Nat.blt x n || Nat.ble 1000000 x) && znh n t
theorem yyw {n:Nat}:∀ {t:List (Nat × AV)},znh n t=true→∀ x y,look t x=some y→x < n∨1000000≤x
 | [],_,x,y,h=>by simp [look] at h
 | (a,z)::t,hl,x,y,h=>by
  simp only [znh,Bool.and_eq_true,Bool.or_eq_true,Nat.blt_eq,Nat.ble_eq] at hl
  simp only [look] at h
  cases hb:Nat.beq x a with
  | true=>rw [Nat.eq_of_beq_eq_true hb];exact hl.1
  | false=>simp only [hb] at h;exact yyw hl.2 x y h
def ztf (ps:List Nat) (el:List AV) (t0:List (Nat × AV)):List (Nat × AV):=ps.zip el++(zsf t0++zee t0)
theorem roundL_look {ps:List Nat} {el:List AV} {t0:List (Nat × AV)} {x:Nat} {y:AV} (hps:zpk 1000000 ps=true) (hx:look (ztf ps el t0) x=some y):zag (look t0) ps el x=some y:=by
 simp only [ztf,yzd,yso] at hx
 unfold zag
 cases hb:Nat.ble 1000000 x with
 | true=>
  have hx1:1000000≤x:=by simpa using hb
  simp only
  cases hz:look (ps.zip el) x with
  | some y'=>
   obtain ⟨j,hj,_⟩:=zff hz
   have:=yul hps x (List.mem_of_getElem? hj)
   omega
  | none=>
   simp only [hz,hb] at hx
   have:=ypm t0 (x - 1000000)
   rw [show x - 1000000+1000000=x by omega] at this
   rw [← this];exact hx
 | false=>
  simp only
  have hx1:=zul hb
  cases hz:look (ps.zip el) x with
  | some y'=>simp only [hz] at hx;exact hx
  | none=>
   simp only [hz,hb] at hx
   simp only
   cases hz2:look t0 x with
   | some y'=>simp only [hz2] at hx;exact hx
   | none=>simp only [hz2] at hx;have:=yqq hx;omega
theorem zzv {t0 t1:List (Nat × AV)} {hk:Nat→List (Nat × Option LObj)} {h1:List (Nat × Option LObj)} {k:Nat} {Q:Exit→SS→Prop} (g1:zbc t1 (zee t0)) (g2:∀ id o,hlook (hk (k+1)) id=some o→hlook h1 id=some o):zxj (look t0) (fun k=>hlook (hk k)) k Q .normal (S t1 h1):=
 ⟨fun x y hx=>yco g1 _ y (by rw [ypm];exact hx),g2⟩
section
variable {P:Program} {n:Nat} {ops:Array Oper} {Q:Exit→Act→World→Prop} {a:Act} {w:World}
theorem opI {i:Nat} {rest:List Nat} {o:Oper} (u:Value) (ho:ops[i]?=some o) (hg:o.guard=none) (hd:ymt o.op=false) (hr:(execOp a.eval o).run P w=.ok (.value u) w) (k:wpOpsIn Fence.wide n P ops Q rest (a.put o.dst u) w):wpOpsIn Fence.wide n P ops Q (i::rest) a w:=by
 have hw:Region.wanted o (yielded ops a.tmps)=true:=by simp [Region.wanted,hg]
 simp only [wpOpsIn,ho,hw,if_true]
 refine ymw (rd:=none) hd ?_
 unfold Oper.wp
 rw [hr]
 exact k
theorem opI_yield {i:Nat} {rest:List Nat} {o:Oper} {g:Operand} {args:Array Operand} {ats:Array TypeId} {l:Nat} {R:Ending→World→Prop} (ho:ops[i]?=some o) (hg:o.guard=none) (hop:o.op=.call { callee:=.value g,args:=args,argTypes:=ats }) (hv:a.eval g=.func (.yield l) #[] #[])
  (hy:YieldAt Fence.wide 0 P l (args.map a.eval) w R) (k:∀ e w',R e w'→∃ u,e=.returned u∧wpOpsIn Fence.wide n P ops Q rest (a.put o.dst u) w'):wpOpsIn Fence.wide n P ops Q (i::rest) a w:=by
 have hw:Region.wanted o (yielded ops a.tmps)=true:=by simp [Region.wanted,hg]
 simp only [wpOpsIn,ho,hw,if_true]
 obtain ⟨fn,tmps,assign,body,hrun,hround⟩:=hy
 refine ⟨fun _ _=>trivial,?_⟩
 have hrun2:(o.semAt (Fence.wide).round a.eval).run P w=.ok (.round l fn tmps assign body) w:=by
  show (execOp a.eval o).run P w=_
  unfold execOp
  simp only [hop,resolve,Deferred.ofValue,hv,Sem.run_bind,Sem.run_pure,Result.andThen_ok,invoke]
  simpa using hrun
 rw [hrun2]
 refine ⟨fun hc=>(by cases hc),?_⟩
 have hround':RoundIn Fence.wide (n - 1) P l fn tmps assign body w R:=⟨trivial,fun c cs _=>hround.2 c cs (room_wide _)⟩
 refine hround'.mono fun e w' hR=>?_
 obtain ⟨u,rfl,hk⟩:=k e w' hR
 exact hk
end
end
section
open Go.RowKit
theorem yap {j d:Nat} {o:Option LObj} {h:List (Nat × Option LObj)} (hne:j≠d):hlook ((d,o)::h) j=hlook h j:=by
 simp only [hlook]
 rw [yct hne]
theorem ybe {d:Nat} {o:Option LObj} {h:List (Nat × Option LObj)}:hlook ((d,o)::h) d=o:=by
 simp [hlook]
theorem ygz {d:Nat} {a b:Option LObj} {h:List (Nat × Option LObj)}:hlook ((d,a)::(d,b)::h)=hlook ((d,a)::h):=by
 funext j
 by_cases hj:j=d
 ·subst hj;rw [ybe,ybe]
 ·rw [yap hj,yap hj,yap hj]
def fam (M k:Nat):Nat:=(k+1) * 1000000+M
theorem yfl (M k:Nat):1000000≤fam M k:=by unfold fam;omega
theorem yrf {M i j:Nat} (h:fam M i=fam M j):i=j:=by unfold fam at h;omega
theorem yef {d M k:Nat} (h:d < 1000000):d≠fam M k:=by have:=yfl M k;omega
def yqm (M:Nat):Nat→List (List AV)→List (Nat × Option LObj)
 | _,[]=>[]
 | k,r::rs=>(fam M k,some (.vec r))::yqm M (k+1) rs
def yfn (M sz:Nat):Nat→List (List AV)→List AV
 | _,[]=>[]
 | k,r::rs=>.ls (fam M k) sz (r.length / sz)::yfn M sz (k+1) rs
def yjd:List AV→LObj
 | []=>.vec []
 | x::xs=>.mcells (x::xs)
def yec (M sz:Nat) (rows:List (List AV)) (extra:List AV):List (Nat × Option LObj):=
 (M,some (yjd (yfn M sz 0 rows++extra)))::yqm M 0 rows
theorem yej (M sz:Nat):∀ (k:Nat) (rows:List (List AV)),(yfn M sz k rows).length=rows.length
 | _,[]=>rfl
 | k,r::rs=>by simp [yfn,yej M sz (k+1) rs]
theorem yfe (M sz:Nat):∀ (k i:Nat) (rows:List (List AV)),(yfn M sz k rows)[i]?=(rows[i]?).map fun r=>.ls (fam M (k+i)) sz (r.length / sz)
 | _,_,[]=>by simp [yfn]
 | k,0,r::rs=>by simp [yfn]
 | k,i+1,r::rs=>by
  simp only [yfn,List.getElem?_cons_succ,yfe M sz (k+1) i rs]
  rw [show k+1+i=k+(i+1) by omega]
theorem ykw (M:Nat):∀ (k i:Nat) (rows:List (List AV)),hlook (yqm M k rows) (fam M (k+i))=(rows[i]?).map LObj.vec
 | _,_,[]=>by simp [yqm,hlook]
 | k,0,r::rs=>by simp [yqm,hlook]
 | k,i+1,r::rs=>by
  simp only [yqm,List.getElem?_cons_succ]
  rw [yap (fun h=>by have:=yrf h;omega),show k+(i+1)=k+1+i by omega]
  exact ykw M (k+1) i rs
theorem yjp (M:Nat) {j:Nat}:∀ (k:Nat) (rows:List (List AV)),(∀ i,k≤i→j≠fam M i)→hlook (yqm M k rows) j=none
 | _,[],_=>rfl
 | k,r::rs,h=>by
  simp only [yqm]
  rw [yap (h k (Nat.le_refl k))]
  exact yjp M (k+1) rs fun i hi=>h i (by omega)
def zgi:List (Nat × Option LObj)→Bool
 | []=>true
 | (k,_)::h=>match Nat.ble 1000000 k with
  | true=>false
  | false=>zgi h
theorem yba:∀ (f g:List (Nat × Option LObj)) {j:Nat},(∀ x∈f,x.1≠j)→hlook (f++g) j=hlook g j
 | [],g,j,_=>rfl
 | (k,o)::f,g,j,h=>by
  rw [List.cons_append,yap (fun e=>h (k,o) (List.mem_cons_self) e.symm)]
  exact yba f g fun x hx=>h x (List.mem_cons_of_mem _ hx)
theorem ycz:∀ (f g:List (Nat × Option LObj)) {j:Nat},hlook (f++g) j=hlook f j∨((∀ x∈f,x.1≠j)∧hlook (f++g) j=hlook g j)
 | [],g,j=>.inr ⟨by simp,rfl⟩
 | (k,o)::f,g,j=>by
  simp only [List.cons_append,hlook]
  cases hb:Nat.beq j k with
  | true=>exact .inl rfl
  | false=>
   rcases ycz f g (j:=j) with h|⟨h1,h2⟩
   ·exact .inl h
   ·refine .inr ⟨fun x hx=>?_,h2⟩
    rcases List.mem_cons.1 hx with rfl|hx
    ·intro e;simp only at e;subst e;simp at hb
    ·exact h1 x hx
theorem yfq:∀ {f:List (Nat × Option LObj)},zgi f=true→∀ x∈f,x.1 < 1000000
 | [],_,x,hx=>by simp at hx
 | (k,o)::f,h,x,hx=>by
  simp only [zgi] at h
  cases hb:Nat.ble 1000000 k with
  | true=>simp [hb] at h
  | false=>
   simp only [hb] at h
   rcases List.mem_cons.1 hx with rfl|hx
   ·exact zul hb
   ·exact yfq h x hx
variable {f:List (Nat × Option LObj)} {M sz:Nat} {rows:List (List AV)} {extra:List AV}
theorem yun (hf:zgi f=true) (hM:M < 1000000) {i:Nat} {r:List AV} (hr:rows[i]?=some r):hlook (f++yec M sz rows extra) (fam M i)=some (.vec r):=by
 rw [yba f _ fun x hx=>yef (yfq hf x hx)]
 unfold yec
 rw [yap (Ne.symm (yef hM))]
 have:=ykw M 0 i rows
 rw [Nat.zero_add] at this
 rw [this,hr]
 rfl
theorem yyt {j:Nat} (hj:j < 1000000) (o o':LObj) (rows rows':List (List AV)):j≠M→hlook (f++(M,some o)::yqm M 0 rows) j=hlook (f++(M,some o')::yqm M 0 rows') j:=fun hne=>by
 rcases ycz f ((M,some o)::yqm M 0 rows) (j:=j) with h|⟨h1,h2⟩
 ·rcases ycz f ((M,some o')::yqm M 0 rows') (j:=j) with h'|⟨h1',h2'⟩
  ·rw [h,h']
  ·rw [h,h2']
   rw [yap hne,yjp M 0 _ fun i _=>yef hj]
   rw [← List.append_nil f,yba f [] h1']
   rfl
 ·rw [h2,yba f _ h1]
  rw [yap hne,yap hne,yjp M 0 _ fun i _=>yef hj,yjp M 0 _ fun i _=>yef hj]
theorem zlb {h:Nat→Option LObj} (hf:zgi f=true) (hM:M < 1000000) (h1:∀ j,j < 1000000→h j=hlook (f++yec M sz rows extra) j) (h2:∀ i,h (fam M i)=(rows[i]?).map LObj.vec) (h3:∀ j,1000000≤j→(∀ i,j≠fam M i)→h j=none):h=hlook (f++yec M sz rows extra):=by
 funext j
 by_cases hj:j < 1000000
 ·exact h1 j hj
 ·by_cases he:∃ i,j=fam M i
  ·obtain ⟨i,rfl⟩:=he
   rw [h2,yba f _ fun x hx=>yef (yfq hf x hx)]
   unfold yec
   rw [yap (Ne.symm (yef hM))]
   have:=ykw M 0 i rows
   rw [Nat.zero_add] at this
   exact this.symm
  ·have he':∀ i,j≠fam M i:=fun i e=>he ⟨i,e⟩
   rw [h3 j (by omega) he',yba f _ fun x hx=>by have:=yfq hf x hx;omega]
   unfold yec
   rw [yap (by omega),yjp M 0 _ fun i _=>he' i]
theorem zcq (hf:zgi f=true) (hM:M < 1000000) (i:Nat):hlook (f++yec M sz rows extra) (fam M i)=(rows[i]?).map LObj.vec:=by
 rw [yba f _ fun x hx=>yef (yfq hf x hx)]
 unfold yec
 rw [yap (Ne.symm (yef hM))]
 have:=ykw M 0 i rows
 rwa [Nat.zero_add] at this
theorem zsi (hf:zgi f=true) (hM:M < 1000000) {j:Nat} (hj:1000000≤j) (he:∀ i,j≠fam M i):hlook (f++yec M sz rows extra) j=none:=by
 rw [yba f _ fun x hx=>by have:=yfq hf x hx;omega]
 unfold yec
 rw [yap (by omega),yjp M 0 _ fun i _=>he i]
theorem matC_set (M sz k i:Nat) (rows:List (List AV)) (r:List AV) (hl:∀ r',rows[i]?=some r'→r.length=r'.length):yfn M sz k (rows.set i r)=yfn M sz k rows:=by
 apply List.ext_getElem?
 intro j
 rw [yfe,yfe,List.getElem?_set]
 by_cases h:i=j
 ·subst h
  by_cases hi:i < rows.length
  ·have:=hl _ (List.getElem?_eq_getElem hi)
   simp [hi,this]
  ·simp [hi]
 ·simp [h]
theorem mat_upd (hf:zgi f=true) (hM:M < 1000000) {i:Nat} {r r':List AV} (hr:rows[i]?=some r') (hl:r.length=r'.length):hlook ((fam M i,some (.vec r))::(f++yec M sz rows extra))=hlook (f++yec M sz (rows.set i r) extra):=by
 have hi:i < rows.length:=(List.getElem?_eq_some_iff.1 hr).1
 refine zlb hf hM (fun j hj=>?_) (fun k=>?_) (fun j hj he=>?_)
 ·rw [yap (yef hj)]
  unfold yec
  rw [matC_set _ _ _ _ _ _ fun r'' h''=>by rw [hr] at h'';cases h'';exact hl]
  by_cases hjM:j=M
  ·subst hjM
   rcases ycz f ((j,some (yjd (yfn j sz 0 rows++extra)))::yqm j 0 rows) (j:=j) with h|⟨h1,h2⟩
   ·rcases ycz f ((j,some (yjd (yfn j sz 0 rows++extra)))::yqm j 0 (rows.set i r)) (j:=j) with h'|⟨h1',h2'⟩
    ·rw [h,h']
    ·rw [yba f _ h1',yba f _ h1']
     rw [ybe,ybe]
   ·rw [yba f _ h1,yba f _ h1]
    rw [ybe,ybe]
  ·exact yyt hj _ _ _ _ hjM
 ·by_cases hk:k=i
  ·subst hk
   rw [ybe]
   simp [hi]
  ·rw [yap (fun e=>hk (yrf e)),zcq hf hM,List.getElem?_set,if_neg (fun e=>hk e.symm)]
 ·rw [yap (he i),zsi hf hM hj he]
theorem mat_add (hf:zgi f=true) (hM:M < 1000000) {n:Nat} {r:List AV} {ex ex':List AV} (hn:n=rows.length) (he:.ls (fam M n) sz (r.length / sz)::ex'=ex):hlook ((fam M n,some (.vec r))::(f++(M,some (yjd (yfn M sz 0 rows++ex)))::yqm M 0 rows))=hlook (f++yec M sz (rows++[r]) ex'):=by
 subst hn he
 have hc:yfn M sz 0 (rows++[r])++ex'=yfn M sz 0 rows++.ls (fam M rows.length) sz (r.length / sz)::ex':=by
  have:∀ (rows:List (List AV)) (k:Nat),yfn M sz k (rows++[r])=yfn M sz k rows++[.ls (fam M (k+rows.length)) sz (r.length / sz)]:=by
   intro rows
   induction rows with
   | nil=>intro k;simp [yfn]
   | cons a rs ih=>
    intro k
    simp only [List.cons_append,yfn,ih (k+1),List.length_cons]
    rw [show k+1+rs.length=k+(rs.length+1) by omega]
  rw [this]
  simp
 refine zlb hf hM (fun j hj=>?_) (fun k=>?_) (fun j hj he=>?_)
 ·rw [yap (yef hj)]
  unfold yec
  rw [hc]
  by_cases hjM:j=M
  ·subst hjM
   rcases ycz f ((j,some (yjd (yfn j sz 0 rows++.ls (fam j rows.length) sz (r.length / sz)::ex')))::yqm j 0 rows) (j:=j) with h|⟨h1,h2⟩
   ·rcases ycz f ((j,some (yjd (yfn j sz 0 rows++.ls (fam j rows.length) sz (r.length / sz)::ex')))::yqm j 0 (rows++[r])) (j:=j) with h'|⟨h1',h2'⟩
    ·rw [h,h']
    ·rw [yba f _ h1',yba f _ h1']
     rw [ybe,ybe]
   ·rw [yba f _ h1,yba f _ h1]
    rw [ybe,ybe]
  ·exact yyt hj _ _ _ _ hjM
 ·by_cases hk:k=rows.length
  ·subst hk
   rw [ybe]
   simp
  ·rw [yap (fun e=>hk (yrf e))]
   have:=zcq (sz:=sz) (rows:=rows) (extra:=.ls (fam M rows.length) sz (r.length / sz)::ex') hf hM k
   unfold yec at this
   rw [this,List.getElem?_append]
   by_cases h1:k < rows.length
   ·simp [h1]
   ·rw [if_neg h1,List.getElem?_eq_none (by omega),List.getElem?_eq_none (by simp;omega)]
 ·rw [yap (he _)]
  exact zsi (extra:=.ls (fam M rows.length) sz (r.length / sz)::ex') hf hM hj he
theorem zij {M sz:Nat} {r:List AV}:∀ (k:Nat) (rows:List (List AV)),yfn M sz k (rows++[r])=yfn M sz k rows++[.ls (fam M (k+rows.length)) sz (r.length / sz)]
 | k,[]=>by simp [yfn]
 | k,a::rs=>by
  simp only [List.cons_append,yfn,zij (k+1) rs,List.length_cons]
  rw [show k+1+rs.length=k+(rs.length+1) by omega]
theorem ykx {f:List (Nat × Option LObj)} {M:Nat} (hk:(f.all fun x=>!Nat.beq x.1 M)=true):∀ x∈f,x.1≠M:=fun x hx e=>by
 have:=List.all_eq_true.1 hk x hx
 simp [e] at this
theorem zsh (hf:zgi f=true) (hM:Nat.blt M 1000000=true) (hk:(f.all fun x=>!Nat.beq x.1 M)=true) {i k:Nat} {r:List AV} {a:AV} {ex:List AV} {rows':List (List AV)} (hi:i=rows.length) (hr:r.length / sz=k) (he:extra=a::ex) (hrows:rows'=rows++[r]) :
  hlook ((M,some (yjd ((yfn M sz 0 rows++extra).set i (.ls (fam M i) sz k))))::(fam M i,some (.vec r))::(f++yec M sz rows extra))=hlook (f++yec M sz rows' ex):=by
 subst hi hr he hrows
 have hM':M < 1000000:=by simpa using hM
 have hset:(yfn M sz 0 rows++a::ex).set rows.length (.ls (fam M rows.length) sz (r.length / sz))=yfn M sz 0 (rows++[r])++ex:=by
  rw [zij,List.append_assoc,List.set_append_right _ _ (Nat.le_of_eq (yej _ _ _ _)),yej,Nat.sub_self,Nat.zero_add]
  rfl
 rw [hset]
 refine zlb hf hM' (fun j hj=>?_) (fun k=>?_) (fun j hj he=>?_)
 ·by_cases hjM:j=M
  ·subst hjM
   rw [ybe,yba f _ (ykx hk)]
   exact ybe.symm
  ·rw [yap hjM,yap (yef hj)]
   exact yyt hj _ _ _ _ hjM
 ·rw [yap (Ne.symm (yef hM'))]
  by_cases hk:k=rows.length
  ·subst hk
   rw [ybe]
   simp
  ·rw [yap (fun e=>hk (yrf e)),zcq hf hM',List.getElem?_append]
   by_cases h1:k < rows.length
   ·simp [h1]
   ·rw [if_neg h1,List.getElem?_eq_none (by omega),List.getElem?_eq_none (by simp;omega)]
 ·rw [yap (by omega),yap (he _),zsi hf hM' hj he]
theorem yea (hk:(f.all fun x=>!Nat.beq x.1 M)=true):hlook (f++yec M sz rows extra) M=some (yjd (yfn M sz 0 rows++extra)):=by
 rw [yba f _ (ykx hk)]
 exact ybe
def yok:AV→Bool
 | .lp id _=>Nat.blt id 1000000
 | .ls id _ _=>Nat.blt id 1000000
 | .mp id=>Nat.blt id 1000000
 | .agg cs=>lowL cs
 | .tup cs=>lowL cs
 | .fn _ cs=>lowL cs
 | .fm _ cs=>lowL cs
 | _=>true
 where lowL:List AV→Bool
 | []=>true
 | c::cs=>yok c && lowL cs
theorem zko {id j:Nat} (h:Nat.blt id 1000000=true) (hj:1000000≤j):Nat.beq id j=false:=yct (by have h2:id < 1000000:=(by simpa using h);omega)
theorem yok.ment {j:Nat} (hj:1000000≤j):∀ {x:AV},yok x=true→ment j x=false
 | .v _,_=>rfl
 | .any,_=>rfl
 | .one,_=>rfl
 | .sl _ _,_=>rfl
 | .dp _ _,_=>rfl
 | .mv _,_=>rfl
 | .lp id _,h=>zko h hj
 | .ls id _ _,h=>zko h hj
 | .mp id,h=>zko h hj
 | .agg cs,h=>rowsM (cs:=cs) h
 | .tup cs,h=>rowsM (cs:=cs) h
 | .fn _ cs,h=>rowsM (cs:=cs) h
 | .fm _ cs,h=>rowsM (cs:=cs) h
 where rowsM:∀ {cs:List AV},yok.lowL cs=true→ment.mentL j cs=false
 | [],_=>rfl
 | c::cs,h=>by
  simp only [yok.lowL,Bool.and_eq_true] at h
  simp only [ment.mentL,Bool.or_eq_false_iff]
  exact ⟨yok.ment hj h.1,rowsM h.2⟩
def zvl:List (Nat × AV)→Bool
 | []=>true
 | (_,x)::t=>match yok x with
  | true=>zvl t
  | false=>false
theorem ysq:∀ {t:List (Nat × AV)},zvl t=true→∀ x y,look t x=some y→yok y=true
 | [],_,x,y,h=>by simp [look] at h
 | (d,r)::t,hl,x,y,h=>by
  simp only [zvl] at hl
  cases hr:yok r with
  | false=>simp [hr] at hl
  | true=>
   simp only [hr] at hl
   simp only [look] at h
   cases hb:Nat.beq x d with
   | true=>simp only [hb,Option.some.injEq] at h;subst h;exact hr
   | false=>simp only [hb] at h;exact ysq hl x y h
def zqc:LObj→Bool
 | .cells xs=>yok.lowL xs
 | .tcells _ xs=>yok.lowL xs
 | .mcells xs=>yok.lowL xs
 | _=>true
theorem zqc.ment {j:Nat} (hj:1000000≤j) {o:LObj} (h:zqc o=true):yfr j o=false:=by
 cases o <;> first|rfl|exact yok.ment.rowsM hj h
def zkd:List (Nat × Option LObj)→Bool
 | []=>true
 | (k,o)::h=>match Nat.ble 1000000 k with
  | true=>false
  | false=>match o with
   | none=>zkd h
   | some o=>match zqc o with
    | true=>zkd h
    | false=>false
theorem ypn:∀ {h:List (Nat × Option LObj)},zkd h=true→zgi h=true
 | [],_=>rfl
 | (k,o)::h,hl=>by
  simp only [zkd] at hl
  simp only [zgi]
  cases hb:Nat.ble 1000000 k with
  | true=>simp [hb] at hl
  | false=>
   simp only [hb] at hl ⊢
   cases o with
   | none=>exact ypn hl
   | some o=>
    cases ho:zqc o with
    | false=>simp [ho] at hl
    | true=>simp only [ho] at hl;exact ypn hl
theorem yju:∀ {h:List (Nat × Option LObj)},zkd h=true→∀ j ob,hlook h j=some ob→zqc ob=true∧j < 1000000
 | [],_,j,ob,h=>by simp [hlook] at h
 | (k,o)::h,hl,j,ob,hj=>by
  simp only [zkd] at hl
  cases hb:Nat.ble 1000000 k with
  | true=>simp [hb] at hl
  | false=>
   simp only [hb] at hl
   simp only [hlook] at hj
   cases hk:Nat.beq j k with
   | true=>
    simp only [hk] at hj
    subst hj
    cases ho:zqc ob with
    | false=>simp [ho] at hl
    | true=>exact ⟨rfl,by rw [Nat.eq_of_beq_eq_true hk];exact zul hb⟩
   | false=>
    simp only [hk] at hj
    cases o with
    | none=>exact yju hl j ob hj
    | some o=>
     cases ho:zqc o with
     | false=>simp [ho] at hl
     | true=>simp only [ho] at hl;exact yju hl j ob hj
theorem zla (x:AV) (hx:yok x=true):∀ n,yok.lowL (List.replicate n x)=true
 | 0=>rfl
 | n+1=>by simp [List.replicate_succ,yok.lowL,hx,zla x hx n]
theorem znp (d:Nat) (x:AV) (hx:ment d x=false):∀ n,ment.mentL d (List.replicate n x)=false
 | 0=>rfl
 | n+1=>by simp [List.replicate_succ,ment.mentL,hx,znp d x hx n]
theorem ypo (d:Nat) (xs:List AV):yfr d (yjd xs)=ment.mentL d xs:=by cases xs <;> rfl
theorem zim {d M sz:Nat}:∀ (k:Nat) (rows:List (List AV)),(∀ i,k≤i→i < k+rows.length→d≠fam M i)→ment.mentL d (yfn M sz k rows)=false
 | _,[],_=>rfl
 | k,r::rs,h=>by
  simp only [yfn,ment.mentL,Bool.or_eq_false_iff]
  refine ⟨yct (Ne.symm (h k (Nat.le_refl k) (by simp))),zim (k+1) rs fun i h1 h2=>h i (by omega) (by simp;omega)⟩
theorem zil {d:Nat}:∀ {a b:List AV},ment.mentL d (a++b)=(ment.mentL d a || ment.mentL d b)
 | [],b=>rfl
 | x::a,b=>by simp only [List.cons_append,ment.mentL,zil,Bool.or_assoc]
theorem ypj {d:Nat}:∀ {a b:List (Nat × Option LObj)},ybp d a=true→ybp d b=true→ybp d (a++b)=true
 | [],b,_,h=>h
 | (i,o)::a,b,h1,h2=>by
  simp only [ybp,List.cons_append] at h1 ⊢
  cases hb:Nat.beq d i with
  | true=>simp [hb] at h1
  | false=>
   simp only [hb] at h1 ⊢
   cases o with
   | none=>exact ypj h1 h2
   | some o=>
    cases ho:yfr d o with
    | true=>simp [ho] at h1
    | false=>simp only [ho] at h1 ⊢;exact ypj h1 h2
theorem yyn {d M:Nat}:∀ (k:Nat) (rows:List (List AV)),(∀ i,k≤i→i < k+rows.length→d≠fam M i)→ybp d (yqm M k rows)=true
 | _,[],_=>rfl
 | k,r::rs,h=>by
  simp only [yqm,ybp,yfr]
  rw [yct (h k (Nat.le_refl k) (by simp))]
  exact yyn (k+1) rs fun i h1 h2=>h i (by omega) (by simp;omega)
theorem yyo {d:Nat} (hd:d≠M) (hr:∀ i,i < rows.length→d≠fam M i) (he:ment.mentL d extra=false):ybp d (yec M sz rows extra)=true:=by
 unfold yec
 simp only [ybp,ypo,zil,he,Bool.or_false]
 rw [yct hd,zim 0 rows fun i _ hi=>hr i (by omega)]
 exact yyn 0 rows fun i _ hi=>hr i (by omega)
theorem zrp {d:Nat} (h1:ybp d f=true) (h2:Nat.beq d M=false) (h3:Nat.blt d 1000000=true) (he:ment.mentL d extra=false):ybp d (f++yec M sz rows extra)=true:=
 ypj h1 (yyo (by rintro rfl;simp at h2) (fun i _=>yef (by simpa using h3)) he)
theorem yuk {j:Nat} (hj:1000000≤j):∀ {h:List (Nat × Option LObj)},zkd h=true→ybp j h=true
 | [],_=>rfl
 | (k,o)::h,hl=>by
  simp only [zkd] at hl
  simp only [ybp]
  cases hb:Nat.ble 1000000 k with
  | true=>simp [hb] at hl
  | false=>
   simp only [hb] at hl
   rw [yct (by have:=zul hb;omega)]
   cases o with
   | none=>exact yuk hj hl
   | some o=>
    cases ho:zqc o with
    | false=>simp [ho] at hl
    | true=>
     simp only [ho] at hl
     simp only [zqc.ment hj ho]
     exact yuk hj hl
theorem zhu {t:List (Nat × AV)} {n:Nat} (ht:zvl t=true) (hf:zkd f=true) (hM:Nat.blt M 1000000=true) (hn:n=rows.length) (he:yok.lowL extra=true):ylg (S t (f++yec M sz rows extra)) (fam M n):=by
 have hM':M < 1000000:=by simpa using hM
 have hb:=yfl M n
 have h2:ybp (fam M n) (f++yec M sz rows extra)=true:=ypj (yuk hb hf) (yyo (Ne.symm (yef hM')) (fun i hi e=>by have:=yrf e;omega) (yok.ment.rowsM hb he))
 exact ⟨(yei h2).1,fun x y h=>(ysq ht x y h |> yok.ment hb),(yei h2).2⟩
section
variable {P:Program} {T:Nat→Option Ty} {N:Nat} {ops:Array Oper} {lf:Oper→Bool} {Q:SS→Prop} {t:List (Nat × AV)} {h:List (Nat × Option LObj)} {rest:List Oper} {d:Nat} {op:Op} {ty:TypeId} {pos:String} {af:Array Edge} {gd:Option (Nat × Bool)} {r:AV}
theorem zuv {l:List Oper} {t:List (Nat × AV)} {h h':List (Nat × Option LObj)} (he:hlook h=hlook h') (k:Lex P N ops lf Q l (S t h')):Lex P N ops lf Q l (S t h):=by
 have:S t h=S t h':=by unfold S;rw [he]
 rw [this]
 exact k
theorem L_makeI (hT:TOK P T) {ti e es eb sz:Nat} {ea ag:Bool} {ez z:List Value} {x y:Operand} {m:Nat} (id:Nat) (hk:T ti=some ⟨.slc e es ea eb ez,sz,ag,z⟩) (hone:ez.all Value.oneCell'=true) (hx:evF (look t) x=some (.v (.int .i64 m))) (hy:evF (look t) y=some (.v (.int .i64 m))) (hm:m≤4294967296∧eb * m≤281474976710656)
  (hf:ylg (S t h) id) (hl:lf ⟨some d,.makeSlice ti x y,ty,pos,af,gd⟩=true) (hw:yaj ops (look t) ⟨some d,.makeSlice ti x y,ty,pos,af,gd⟩=some true) (hd:Nat.blt d N=true)
  (k:Lex P N ops lf Q rest (S ((d,.ls id es m)::t) ((id,some (.vec (yna m (ykq ez))))::h))):Lex P N ops lf Q (⟨some d,.makeSlice ti x y,ty,pos,af,gd⟩::rest) (S t h):=
 yed hl hw (by rw [← yrb];exact yss hT rfl rfl (by simpa using hd) id hk hone hx hy hm hf) k
theorem L_appendNilI (hT:TOK P T) {ti e es eb sz:Nat} {ea ag:Bool} {ez z:List Value} {x y:Operand} {rows:List (List AV)} (id:Nat) (hk:T ti=some ⟨.slc e es ea eb ez,sz,ag,z⟩) (hx:evF (look t) x=some (.v (.slice none 0 0))) (hy:evF (look t) y=some (.sl es rows))
  (hcp:∀ c∈rows.flatten,yav c=true) (hlim:rows.length≤4294967296∧rows.length * eb≤140737488355328) (hf:ylg (S t h) id) (hl:lf ⟨some d,.call { callee:=.builtin .append,args:=#[x,y],argTypes:=#[ti,ti] },ty,pos,af,gd⟩=true)
  (hw:yaj ops (look t) ⟨some d,.call { callee:=.builtin .append,args:=#[x,y],argTypes:=#[ti,ti] },ty,pos,af,gd⟩=some true) (hd:Nat.blt d N=true) (k:Lex P N ops lf Q rest (S ((d,.ls id es rows.length)::t) ((id,some (.vec rows.flatten))::h))) :
  Lex P N ops lf Q (⟨some d,.call { callee:=.builtin .append,args:=#[x,y],argTypes:=#[ti,ti] },ty,pos,af,gd⟩::rest) (S t h):=by
 refine yed hl hw ?_ k
 rw [← yrb]
 exact yhz hT id rfl rfl (by simpa using hd) hk hx hf hy (fun ok w lv u hr=>yvy hr) hcp hlim
theorem ymp (xs:List AV):ycq (some (yjd xs))=some xs:=by cases xs <;> rfl
theorem yqv {xs:List AV} (h:xs≠[]):yjd xs=.mcells xs:=by cases xs <;> simp_all [yjd]
theorem yrx (hT:TOK P T) {ti:Nat} {y:Ty} {x v:Operand} {id off:Nat} {xs:List AV} {u:AV} (hy:T ti=some y) (hx:evF (look t) x=some (.lp id off)) (hv:evF (look t) v=some u) (hcs:ydq u=some [u]) (hcl:Nat.beq 1 y.size=true) (hh:hlook h id=some (yjd xs)) (hlt:off < xs.length)
  (hl:lf ⟨none,.store ti x v,ty,pos,af,gd⟩=true) (hw:yaj ops (look t) ⟨none,.store ti x v,ty,pos,af,gd⟩=some true) (k:Lex P N ops lf Q rest (S t ((id,some (yjd (xs.set off u)))::h))):Lex P N ops lf Q (⟨none,.store ti x v,ty,pos,af,gd⟩::rest) (S t h):=by
 have hne:xs≠[]:=by intro h0;simp [h0] at hlt
 have he:xs.set off u=xs.take off++[u]++xs.drop (off+[u].length):=by
  rw [List.set_eq_take_append_cons_drop,if_pos hlt];simp
 rw [yqv hne] at hh
 rw [yqv (by intro h0;have:=congrArg List.length h0;simp at this;exact hne this)] at k
 refine yed hl hw (by rw [← S_h,he];exact yjg rfl rfl (hT _ _ hy).1 hx hv hcs (by simpa using hcl) hh (.mcells (by simp;omega) hne)) k
theorem ymh (hT:TOK P T) {ti:Nat} {y:Ty} {x v:Operand} {id off:Nat} {xs:List AV} {u:AV} {h':List (Nat × Option LObj)} (hy:T ti=some y) (hx:evF (look t) x=some (.lp id off)) (hv:evF (look t) v=some u) (hcs:ydq u=some [u]) (hcl:Nat.beq 1 y.size=true) (hh:hlook h id=some (.vec xs)) (hlt:off < xs.length) (hp:yav u=true)
  (he:hlook ((id,some (.vec (xs.set off u)))::h)=hlook h') (hl:lf ⟨none,.store ti x v,ty,pos,af,gd⟩=true) (hw:yaj ops (look t) ⟨none,.store ti x v,ty,pos,af,gd⟩=some true) (k:Lex P N ops lf Q rest (S t h')):Lex P N ops lf Q (⟨none,.store ti x v,ty,pos,af,gd⟩::rest) (S t h):=
 zeb hT hy hx hv hcs hcl hh hlt hp hl hw (zuv he k)
theorem yxk {c:Code} {Q:Exit→SS→Prop} (id:Nat) {xs:List AV} (ys:List AV) (hx:hlook h id=some (.vec xs)) (he:xs=ys) (k:A P N c Q (S t ((id,some (yjd ys))::h))):A P N c Q (S t h):=by
 subst he
 intro B ok0 lv a w hs
 refine k B ok0 lv a w ⟨⟨hs.inv.base,hs.inv.ok0lt,fun j hj=>?_,hs.inv.inj,fun j x hj=>?_⟩,hs.size,hs.frame,hs.defers,hs.big,fun j b ws hN hj hc hb=>?_⟩
 ·refine hs.inv.dom j ?_
  simp only [S,hlook] at hj ⊢
  split at hj
  ·cases hj
  ·exact hj
 ·simp only [S,hlook] at hj
  split at hj
  ·rename_i hb
   cases hj
   have e:=Nat.eq_of_beq_eq_true hb
   subst e
   obtain ⟨b,n,h1,h2⟩:=hs.inv.obj j _ hx
   refine ⟨b,n,h1,?_⟩
   cases xs with
   | nil=>exact h2
   | cons x xs=>
    cases b with
    | none=>simp [ygo] at h2
    | some b=>exact ⟨h2.1,h2.2.1,h2.2.2.1⟩
  ·exact hs.inv.obj j x hj
 ·simp only [S,hlook] at hj
  split at hj
  ·cases hj
   cases xs <;> cases hc
  ·exact hs.pin j b ws hN hj hc hb
end
theorem yol {id:Nat} {o:LObj} (h:hlook (yec M sz rows extra) id=some o):id=M∨∃ i,i < rows.length∧id=fam M i:=by
 by_cases hM:id=M
 ·exact .inl hM
 ·unfold yec at h
  rw [yap hM] at h
  by_cases he:∃ i,id=fam M i
  ·obtain ⟨i,rfl⟩:=he
   have h2:=ykw M 0 i rows
   rw [Nat.zero_add] at h2
   rw [h2] at h
   refine .inr ⟨i,?_,rfl⟩
   cases hr:rows[i]? with
   | none=>simp [hr] at h
   | some r=>exact (List.getElem?_eq_some_iff.1 hr).1
  ·rw [yjp M 0 rows fun i _ e=>he ⟨i,e⟩] at h
   cases h
theorem yhb:hlook (yec M sz rows extra) M=some (yjd (yfn M sz 0 rows++extra)):=ybe
theorem ymu (hM:M < 1000000) (i:Nat):hlook (yec M sz rows extra) (fam M i)=(rows[i]?).map LObj.vec:=by
 have:=zcq (f:=[]) (sz:=sz) (rows:=rows) (extra:=extra) rfl hM i
 simpa using this
theorem noC_mat (hM:M < 1000000) {id:Nat} {o:LObj} (h:hlook (yec M sz rows extra) id=some o):isC o=false:=by
 rcases yol h with rfl|⟨i,_,rfl⟩
 ·rw [yhb] at h
  cases h
  cases yfn id sz 0 rows++extra <;> rfl
 ·rw [ymu hM] at h
  cases hr:rows[i]? with
  | none=>simp [hr] at h
  | some r=>simp only [hr,Option.map_some,Option.some.injEq] at h;subst h;rfl
theorem zsg (hf:zgi f=true) (hM:M < 1000000) (hk:(f.all fun x=>!Nat.beq x.1 M)=true):∀ id o,hlook (yec M sz rows extra) id=some o→hlook (f++yec M sz rows extra) id=some o:=fun id o h=>by
 rw [yba f _ fun x hx=>?_]
 ·exact h
 ·rcases yol h with rfl|⟨i,_,rfl⟩
  ·have:=List.all_eq_true.1 hk x hx
   intro e
   simp [e] at this
  ·exact yef (yfq hf x hx)
theorem conO_of {P : Program} {T : Nat → Option Ty} (hT : TOK P T) {fid : FuncId} {fn : Func} {c : Code} {N : Nat} {rs : List ResultVar} {args : List AV} {r : AV} {M sz : Nat} {rows : List (List AV)} (hf : P.funcs[fid]? = some fn) (hn : (fn.name == "runtime.NumGoroutine") = false) (hb : fn.body = some c) (hN : fn.ntmps = N) (hrs : fn.results = rs.toArray) (hlen : (Nat.ble args.length N && Nat.ble N 1000000) = true) (hM : Nat.blt M 1000000 = true)
  (h:A P N c (zql T rs r (hlook (yec M sz rows []))) (S (yfz 0 args) [])):ywc P fid args (fun _=>none) r (hlook (yec M sz rows [])):=
 yyc hT hf hn hb hN hrs hlen (fun id o ho hc=>by rw [noC_mat (by simpa using hM) ho] at hc;cases hc) h
theorem ziy {σ:Nat→Nat}:∀ {x:AV},yav x=true→yez σ x=x
 | .v _,_=>rfl
 | .any,_=>rfl
 | .one,_=>rfl
 | .sl _ _,_=>rfl
 | .dp _ _,_=>rfl
 | .mv _,_=>rfl
 | .agg cs,h=>by simp only [yez,rows (cs:=cs) h]
 | .tup cs,h=>by simp only [yez,rows (cs:=cs) h]
 | .fn _ cs,h=>by simp only [yez,rows (cs:=cs) h]
 | .fm _ cs,h=>by simp only [yez,rows (cs:=cs) h]
 where rows:∀ {cs:List AV},yav.pureL cs=true→yez.renL σ cs=cs
 | [],_=>rfl
 | c::cs,h=>by
  simp only [yav.pureL,Bool.and_eq_true] at h
  simp only [yez.renL,ziy h.1,rows h.2]
def zpy (d j:Nat):Nat:=match Nat.ble 1000000 j with
 | false=>d
 | true=>d+(j / 1000000) * 1000000
theorem yse {d j:Nat} (h:j < 1000000):zpy d j=d:=by
 unfold zpy
 cases hb:Nat.ble 1000000 j with
 | false=>rfl
 | true=>have:=Nat.le_of_ble_eq_true hb;omega
theorem famS_high {d j:Nat} (h:1000000≤j):zpy d j=d+(j / 1000000) * 1000000:=by
 unfold zpy
 cases hb:Nat.ble 1000000 j with
 | false=>have:=zul hb;omega
 | true=>rfl
theorem fam_div {M k:Nat} (hM:M < 1000000):fam M k / 1000000=k+1:=by unfold fam;omega
theorem ykh {d M k:Nat} (hM:M < 1000000):zpy d (fam M k)=fam d k:=by
 rw [famS_high (yfl M k),fam_div hM]
 unfold fam
 omega
theorem ziz {d M sz:Nat} (hM:M < 1000000):∀ (k:Nat) (rows:List (List AV)),yez.renL (zpy d) (yfn M sz k rows)=yfn d sz k rows
 | _,[]=>rfl
 | k,r::rs=>by simp only [yfn,yez.renL,yez,ykh hM,ziz hM (k+1) rs]
theorem zda {ids:List Nat} {M sz:Nat}:∀ (k:Nat) (rows:List (List AV)),(∀ i,i < k+rows.length→fam M i∈ids)→yel.onlyL ids (yfn M sz k rows)=true
 | _,[],_=>rfl
 | k,r::rs,h=>by
  simp only [yfn,yel.onlyL,yel,Bool.and_eq_true]
  exact ⟨List.contains_iff_mem.2 (h k (by simp)),zda (k+1) rs fun i hi=>h i (by simp;omega)⟩
theorem zcg {d:Nat}:∀ {h:List (Nat × Option LObj)},ybp d h=true→∀ x∈h,x.1≠d
 | [],_,x,hx=>by simp at hx
 | (k,o)::h,hh,x,hx=>by
  simp only [ybp] at hh
  cases hb:Nat.beq d k with
  | true=>simp [hb] at hh
  | false=>
   simp only [hb] at hh
   rcases List.mem_cons.1 hx with rfl|hx
   ·intro e
    simp only at e
    subst e
    simp at hb
   ·refine zcg ?_ x hx
    cases o with
    | none=>exact hh
    | some o=>
     cases ho:yfr d o with
     | true=>simp [ho] at hh
     | false=>simpa [ho] using hh
section
variable {P:Program} {T:Nat→Option Ty} {N:Nat} {ops:Array Oper} {lf:Oper→Bool} {Q:SS→Prop} {t:List (Nat × AV)} {h:List (Nat × Option LObj)} {rest:List Oper} {d:Nat} {op:Op} {ty:TypeId} {pos:String} {af:Array Edge} {gd:Option (Nat × Bool)} {r:AV}
theorem L_callO {g:Operand} {args:List Operand} {ats:Array TypeId} {fid:FuncId} {caps xs:List AV} {M0 sz:Nat} {rows:List (List AV)} (hc:ywc P fid (xs++caps) (fun _=>none) r (hlook (yec M0 sz rows []))) (hM:Nat.blt M0 1000000=true) (hg:evF (look t) g=some (.fn fid caps)) (hx:evL (evF (look t)) args=some xs) (hp:yav.pureL (xs++caps)=true)
  (hr:yel (M0::(List.range rows.length).map (fam M0)) r=true) (h1:ydg d t=true) (h2:zvl t=true) (h3:ybp d h=true) (h4:zkd h=true) (h5:Nat.blt d 1000000=true) (hl:lf ⟨some d,.call { callee:=.value g,args:=args.toArray,argTypes:=ats },ty,pos,af,gd⟩=true)
  (hw:yaj ops (look t) ⟨some d,.call { callee:=.value g,args:=args.toArray,argTypes:=ats },ty,pos,af,gd⟩=some true) (hd:Nat.blt d N=true) (k:Lex P N ops lf Q rest (S ((d,yez (zpy d) r)::t) (h++yec d sz rows []))) :
  Lex P N ops lf Q (⟨some d,.call { callee:=.value g,args:=args.toArray,argTypes:=ats },ty,pos,af,gd⟩::rest) (S t h):=by
 have hM':M0 < 1000000:=by simpa using hM
 have hd':d < 1000000:=by simpa using h5
 have hids:∀ i∈M0::(List.range rows.length).map (fam M0),i=M0∨∃ j,j < rows.length∧i=fam M0 j:=fun i hi=>by
  rcases List.mem_cons.1 hi with rfl|hi
  ·exact .inl rfl
  ·obtain ⟨j,hj,rfl⟩:=List.mem_map.1 hi
   exact .inr ⟨j,by simpa using hj,rfl⟩
 have hfam:∀ j,j < rows.length→fam M0 j∈M0::(List.range rows.length).map (fam M0):=fun j hj=>List.mem_cons_of_mem _ (List.mem_map.2 ⟨j,by simpa using hj,rfl⟩)
 have hsig:∀ i∈M0::(List.range rows.length).map (fam M0),zpy d i=d∨1000000≤zpy d i:=fun i hi=>by
  rcases hids i hi with rfl|⟨j,_,rfl⟩
  ·exact .inl (yse hM')
  ·exact .inr (by rw [ykh hM'];exact yfl d j)
 refine yed hl hw ?_ k
 refine ypf (σ:=zpy d) (ids:=M0::(List.range rows.length).map (fam M0)) (hm:=fun _=>none) (hm':=hlook (yec M0 sz rows [])) (r:=r) (args0:=xs++caps) rfl rfl (by simpa using hd) (.inl hg) hx ?_ hc ?_ (fun id hs=>by simp at hs) ?_ (fun id o ho=>by cases ho) hr ?_ ?_ ?_ ?_
 ·have:∀ l:List AV,yav.pureL l=true→l=l.map (yez (zpy d)):=by
   intro l hl
   rw [← ybx,ziy.rows hl]
  exact this _ hp
 ·intro i hi j hj e
  rcases hids i hi with rfl|⟨a,_,rfl⟩ <;> rcases hids j hj with rfl|⟨b,_,rfl⟩
  ·rfl
  ·rw [yse hM',ykh hM'] at e
   exact absurd e (yef hd')
  ·rw [yse hM',ykh hM'] at e
   exact absurd e.symm (yef hd')
  ·rw [ykh hM',ykh hM'] at e
   rw [yrf e]
 ·intro id hs
  obtain ⟨o,ho⟩:=Option.isSome_iff_exists.1 hs
  rcases yol ho with rfl|⟨i,hi,rfl⟩
  ·exact List.mem_cons_self
  ·exact hfam i hi
 ·intro id o ho
  rcases yol ho with rfl|⟨i,hi,rfl⟩
  ·rw [yhb] at ho
   cases ho
   rw [List.append_nil]
   have:=zda (M:=id) (sz:=sz) (ids:=id::(List.range rows.length).map (fam id)) 0 rows fun i hi=>hfam i (by omega)
   cases hm:yfn id sz 0 rows with
   | nil=>rfl
   | cons a l=>rw [hm] at this;exact this
  ·rw [ymu hM'] at ho
   cases hr:rows[i]? with
   | none=>simp [hr] at ho
   | some r=>simp only [hr,Option.map_some,Option.some.injEq] at ho;subst ho;rfl
 ·intro x y hy
  simp only [S,look] at hy
  cases hb:Nat.beq x d with
  | true=>
   simp only [hb,Option.some.injEq] at hy
   exact .inl ⟨Nat.eq_of_beq_eq_true hb,hy.symm⟩
  | false=>
   simp only [hb] at hy
   refine .inr ⟨by rintro rfl;simp at hb,.inr ⟨hy,.inl fun i hi=>?_⟩⟩
   rcases hsig i hi with e|e
   ·rw [e];exact yms h1 x y hy
   ·exact yok.ment e (ysq h2 x y hy)
 ·intro i hi
  show hlook (h++yec d sz rows []) (zpy d i)=_
  rw [yba h _ fun x hx=>?_]
  ·rcases hids i hi with rfl|⟨j,_,rfl⟩
   ·rw [yse hM',yhb,yhb]
    simp only [List.append_nil,Option.map_some,Option.some.injEq]
    have:=ziz (d:=d) (sz:=sz) hM' 0 rows
    cases hm:yfn i sz 0 rows with
    | nil=>rw [hm] at this;rw [← this];rfl
    | cons a l=>rw [hm] at this;rw [← this];rfl
   ·rw [ykh hM',ymu hd',ymu hM']
    cases rows[j]? <;> rfl
  ·rcases hsig i hi with e|e
   ·rw [e];exact zcg h3 x hx
   ·have:=yfq (ypn h4) x hx
    omega
 ·intro j ob' hj hob
  have hob2:hlook h j=some ob':=by
   rcases ycz h (yec d sz rows []) (j:=j) with e|⟨_,e⟩
   ·exact e.symm.trans hob
   ·have hob3:hlook (yec d sz rows []) j=some ob':=e.symm.trans hob
    exfalso
    rcases yol hob3 with rfl|⟨i,hi,rfl⟩
    ·exact hj M0 List.mem_cons_self (yse hM')
    ·exact hj (fam M0 i) (hfam i hi) (ykh hM')
  refine ⟨fun i hi=>?_,ob',hob2,.inl rfl⟩
  rcases hsig i hi with e|e
  ·rw [e];exact (yei h3).2 j ob' hob2
  ·exact zqc.ment e (yju h4 j ob' hob2).1
end
theorem ls_to_slM {h:Nat→Option LObj} {id len:Nat} {xs ys:List AV} {B:Bse} {ok0:Nat→Prop} {lv:Live} {w:World} {u:Value} (hi:Inv B ok0 h lv w) (hr:Rel (yax B ok0 lv w) w lv (.ls id 1 len) u) (hx:h id=some (yjd xs)) (hlen:ys.length=len) (hxy:xs.length=ys.length)
  (ok':Nat→Prop) (hk2:∀ b n,lv id=some (some b,n)→ok' b) (hconv:∀ (j:Nat) (x y:AV),xs[j]?=some x→ys[j]?=some y→ydw y=true∧∀ u,Rel (yax B ok0 lv w) w lv x u→Rel ok' w (fun _=>none) y u):Rel ok' w (fun _=>none) (.sl 1 (ys.map fun y=>[y])) u:=by
 subst hlen
 cases hr with
 | ls _ hone hls=>
  have hnil:(∃ n,lv id=some (none,n))∨∃ b n,lv id=some (some b,n)∧B.mine b∧b < w.heap.size∧yhf (yax B ok0 lv w) lv w b n xs:=by
   obtain ⟨b,n,h1,h2⟩:=hi.obj id _ hx
   cases b with
   | none=>exact .inl ⟨n,h1⟩
   | some b=>
    obtain ⟨h2,h3,h4⟩:=h2
    cases xs with
    | nil=>exact .inr ⟨b,n,h1,h2,h3,h4.1⟩
    | cons x xs=>exact .inr ⟨b,n,h1,h2,h3,h4⟩
  rcases hnil with ⟨n,h1⟩|⟨b,n,h1,h2,h3,h4⟩
  ·obtain ⟨rfl,h0⟩:=hls _ _ h1
   obtain rfl:=List.eq_nil_of_length_eq_zero h0
   exact yur
  obtain ⟨cap,rfl,hcap,hmax,hn⟩:=hls (some b) n h1
  obtain ⟨c,e,g1,g2,g3,g4,g5⟩:=h4
  have hcells:∀ (i j:Nat) (row:List AV) (y:AV),(ys.map fun y=>[y])[i]?=some row→row[j]?=some y→j=0∧∃ u,c[i]?=some u∧ydw y=true∧Rel ok' w (fun _=>none) y u:=by
   intro i j row y hrow hy
   rw [List.getElem?_map] at hrow
   cases hyi:ys[i]? with
   | none=>simp [hyi] at hrow
   | some y'=>
    simp only [hyi,Option.map_some,Option.some.injEq] at hrow
    subst hrow
    match j with
    | j+1=>simp at hy
    | 0=>
     simp only [List.getElem?_cons_zero,Option.some.injEq] at hy
     subst hy
     have hlt:=(List.getElem?_eq_some_iff.1 hyi).1
     obtain ⟨x,hxi⟩:∃ x,xs[i]?=some x:=⟨_,List.getElem?_eq_getElem (by omega)⟩
     have hci:i < c.size:=by omega
     obtain ⟨q1,q2⟩:=hconv i x y' hxi hyi
     exact ⟨rfl,_,Array.getElem?_eq_getElem hci,q1,q2 _ (g5 i x _ hxi (Array.getElem?_eq_getElem hci))⟩
  have hl:(ys.map fun y=>[y]).length=ys.length:=by simp
  have:=Rel.sl (ok:=ok') (w:=w) (lv:=fun _=>none) (size:=1) (rows:=ys.map fun y=>[y]) (some ⟨b,0,none⟩) cap (fun i _=>c.getD i undef) b 0 (by rw [hl];exact hcap) hmax (fun h=>by cases h) (fun row hr=>by obtain ⟨y,_,rfl⟩:=List.mem_map.1 hr;rfl) (fun _=>⟨rfl,hk2 b n h1⟩) (fun i j row x hrow hx=>?_) (fun i j row x hrow hx=>?_)
  ·rw [hl] at this
   exact this
  ·obtain ⟨rfl,u,hu,hc,_⟩:=hcells i j row x hrow hx
   refine ⟨?_,hc⟩
   simp only [World.cell?,g1]
   simp [Nat.zero_add,hu,Array.getD_eq_getD_getElem?]
  ·obtain ⟨rfl,u,hu,_,hr⟩:=hcells i j row x hrow hx
   have:c.getD i undef=u:=by simp [Array.getD_eq_getD_getElem?,hu]
   simp only [this]
   exact hr
theorem Frz.mat {els:List (List (List AV))} (hf:zgi f=true) (hM:Nat.blt M 1000000=true) (hk:(f.all fun x=>!Nat.beq x.1 M)=true) (hs:0 < sz) (hsz:∀ r∈els,∀ e∈r,e.length=sz) {n:Nat} (hn:n=els.length) (hrows:rows=els.map List.flatten) :
  Frz (hlook (f++yec M sz rows [])) (.ls M 1 n) (.sl 1 (els.map fun r=>[.sl sz r])):=by
 subst hn hrows
 have hM':M < 1000000:=by simpa using hM
 intro B ok0 lv w u hi hr
 have h1:hlook (f++yec M sz (els.map List.flatten) []) M=some (yjd (yfn M sz 0 (els.map List.flatten))):=by
  rw [zsg hf hM' hk M _ yhb,List.append_nil]
 have hlv:∀ id b n,lv id=some (some b,n)→(ok0 b∨B.mine b)∧b < w.heap.size:=fun id b n hb=>by obtain ⟨_,_,h1,h2,_⟩:=hi.lvat hb;exact ⟨.inr h1,h2⟩
 have:=ls_to_slM (ys:=els.map fun r=>.sl sz r) hi hr h1 (by simp) (by rw [yej];simp) (fun g=>(ok0 g∨B.mine g)∧g < w.heap.size) (fun b n hb=>hlv M b n hb) (fun j x y hx hy=>?_)
 ·rw [List.map_map] at this
  exact this
 ·rw [yfe,List.getElem?_map] at hx
  rw [List.getElem?_map] at hy
  cases hj:els[j]? with
  | none=>simp [hj] at hx
  | some r=>
   simp only [hj,Option.map_some,Option.some.injEq] at hx hy
   subst hx hy
   refine ⟨rfl,fun u hu=>?_⟩
   rw [Nat.zero_add] at hu
   have hrow:=zcq (f:=f) (sz:=sz) (rows:=els.map List.flatten) (extra:=[]) hf hM' j
   rw [List.getElem?_map,hj] at hrow
   simp only [Option.map_some] at hrow
   have hr1:∀ e∈r,e.length=sz:=hsz r (List.mem_of_getElem? hj)
   have hfl:r.flatten.length / sz=r.length:=by
    have:∀ r:List (List AV),(∀ e∈r,e.length=sz)→r.flatten.length=r.length * sz:=by
     intro r
     induction r with
     | nil=>intro _;simp
     | cons e r ih=>
      intro he
      rw [List.flatten_cons,List.length_append,ih fun e h=>he e (by simp [h]),he e (by simp),List.length_cons,Nat.succ_mul,Nat.add_comm]
    rw [this r hr1]
    exact Nat.mul_div_cancel _ hs
   rw [hfl] at hu
   refine ysr hi hu (by rw [hrow];rfl) rfl hr1 rfl (fun x hx i=>?_) _ (fun g hg=>⟨hg.1,hg.2.1⟩) (fun b n hb=>hlv _ b n hb)
   obtain ⟨b,n,q1,q2⟩:=hi.obj _ _ hrow
   cases b with
   | none=>
    rcases q2 with q2|⟨e,q2⟩
    ·simp only [LObj.vec.injEq] at q2
     rw [q2] at hx
     simp at hx
    ·cases q2
   | some b=>exact yav.ment (q2.2.2.2 x hx)
theorem ygb {α:Type} {P:Program} {N:Nat} {c:Code} {Q:Exit→SS→Prop} {t0:List (Nat × AV)} {h0:List (Nat × Option LObj)} (t:α→List (Nat × AV)) (h:α→List (Nat × Option LObj)) (m:α→Nat) (I:α→Prop) (a:α) (hI:I a) (h1:zbc t0 (t a)) (h2:∀ id o,hlook (h a) id=some o→hlook h0 id=some o) (round:∀ a,I a→A P N c (zyu t h m I a Q) (S (t a) (h a))):A P N (.loop c) Q (S t0 h0):=by
 refine zus (fun n s=>∃ b,I b∧m b=n∧Sub (S (t b) (h b)) s) (m a) ⟨a,hI,rfl,yco h1,h2⟩ ?_
 rintro n s ⟨b,hb,rfl,hsub⟩
 refine (yrw (round b hb) hsub).mono fun e s' hq=>?_
 cases e with
 | normal=>
  obtain ⟨b',h3,h4,h5⟩:=hq
  exact ⟨m b',h4,b',h3,rfl,h5⟩
 | _=>exact hq
theorem zae {α:Type} {t:α→List (Nat × AV)} {h:α→List (Nat × Option LObj)} {m:α→Nat} {I:α→Prop} {a:α} {Q:Exit→SS→Prop} {t1:List (Nat × AV)} {h1:List (Nat × Option LObj)} (b:α) (hI:I b) (hm:m b < m a) (g1:zbc t1 (t b)) (g2:∀ id o,hlook (h b) id=some o→hlook h1 id=some o):zyu t h m I a Q .normal (S t1 h1):=
 ⟨b,hI,hm,yco g1,g2⟩
theorem hsE {h h':List (Nat × Option LObj)} (e:hlook h=hlook h'):∀ id o,hlook h' id=some o→hlook h id=some o:=fun id o ho=>by rw [e];exact ho
theorem yfc:∀ {f g:List (Nat × Option LObj)} {j:Nat} {o:LObj},hlook f j=some o→hlook (f++g) j=some o
 | [],g,j,o,h=>by simp [hlook] at h
 | (k,x)::f,g,j,o,h=>by
  simp only [hlook,List.cons_append] at h ⊢
  cases hb:Nat.beq j k with
  | true=>simpa [hb] using h
  | false=>simp only [hb] at h ⊢;exact yfc h
theorem hsM {f':List (Nat × Option LObj)} (hs:yuy f f') (hf:zgi f=true) (hM:Nat.blt M 1000000=true) (hk:(f.all fun x=>!Nat.beq x.1 M)=true):∀ id o,hlook (f'++yec M sz rows extra) id=some o→hlook (f++yec M sz rows extra) id=some o:=fun id o ho=>by
 rcases ycz f' (yec M sz rows extra) (j:=id) with e|⟨_,e⟩
 ·rw [e] at ho
  exact yfc (yaq hs id o ho)
 ·rw [e] at ho
  exact zsg hf (by simpa using hM) hk id o ho
end
section
open Go.RowKit
def zxs (P:Program) (t:Nat):Option (Nat × Bool):=match P.info? t with
 | some i=>(match P.underlying t with
  | some d=>some (i.size,zzh d)
  | none=>none)
 | none=>none
theorem zgb {P:Program} {t s:Nat} {ag:Bool} (h:zxs P t=some (s,ag)):yhk P t s ag:=by
 unfold zxs at h
 split at h
 ·rename_i i hi
  split at h
  ·rename_i d hd
   simp only [Option.some.injEq,Prod.mk.injEq] at h
   exact ⟨by rw [hi];simp [h.1],by rw [hd];simp [h.2]⟩
  ·cases h
 ·cases h
def zzd (P:Program) (t:Nat):Option (List Value):=match P.info? t with
 | some i=>(match i.zero with
  | some z=>some z.cells.toList
  | none=>none)
 | none=>none
theorem ztv {P:Program} {t:Nat} {z:List Value} (h:zzd P t=some z):yry P t z:=by
 unfold zzd at h
 split at h
 ·rename_i i hi
  split at h
  ·rename_i u hu
   simp only [Option.some.injEq] at h
   subst h
   unfold yry
   rw [hi];simp [hu]
  ·cases h
 ·cases h
def zhr (P:Program):List Field→Option (List (Nat × Nat × Bool))
 | []=>some []
 | f::l=>match zxs P f.type with
  | some (s+1,ag)=>(match zhr P l with
   | some r=>some ((f.offset,s+1,ag)::r)
   | none=>none)
  | _=>none
theorem zhs {P:Program}:∀ {l:List Field} {r:List (Nat × Nat × Bool)},zhr P l=some r→zqm P l r
 | [],r,h=>by simp only [zhr,Option.some.injEq] at h;subst h;exact trivial
 | f::l,r,h=>by
  unfold zhr at h
  split at h
  ·rename_i s ag hs
   split at h
   ·rename_i r' hr
    simp only [Option.some.injEq] at h
    subst h
    exact ⟨⟨rfl,zgb hs,by simp⟩,zhs hr⟩
   ·cases h
  ·cases h
def zzr (P:Program) (t:Nat):TK→Option TK
 | .other=>some .other
 | _=>match P.underlying t with
  | some (.int k)=>some (.int k)
  | some .bool=>some .bool
  | some .string=>some .string
  | some (.struct fs)=>(match zhr P fs.toList with
   | some r=>some (.strct r)
   | none=>none)
  | some (.array n e)=>(match zxs P e with
   | some (s,a)=>some (.arr n s a)
   | none=>none)
  | some (.slice e)=>(match zxs P e with
   | some (s,a)=>(match P.info? e with
    | some i=>(match zzd P e with
     | some z=>(match Nat.beq z.length s && Nat.blt 0 s with
      | true=>some (.slc e s a i.bytes z)
      | false=>none)
     | none=>none)
    | none=>none)
   | none=>none)
  | some (.map k e)=>some (.map k e)
  | _=>none
theorem kdAt_ok {P:Program} {t:Nat} {k0 k:TK} (h:zzr P t k0=some k):yeu P t k:=by
 unfold zzr at h
 split at h
 ·simp only [Option.some.injEq] at h;subst h;exact trivial
 split at h
 ·rename_i hu;simp only [Option.some.injEq] at h;subst h;exact hu
 ·rename_i hu;simp only [Option.some.injEq] at h;subst h;exact hu
 ·rename_i hu;simp only [Option.some.injEq] at h;subst h;exact hu
 ·rename_i fs hu
  split at h
  ·rename_i r hr
   simp only [Option.some.injEq] at h
   subst h
   exact strct_of (flds:=fs.toList) (by simpa using hu) (zhs hr)
  ·cases h
 ·rename_i n e hu
  split at h
  ·rename_i s a hs
   simp only [Option.some.injEq] at h
   subst h
   exact ⟨e,hu,zgb hs⟩
  ·cases h
 ·rename_i e hu
  split at h
  ·rename_i s a hs
   split at h
   ·rename_i i hi
    split at h
    ·rename_i z hz
     split at h
     ·rename_i hb
      simp only [Option.some.injEq] at h
      subst h
      simp only [Bool.and_eq_true] at hb
      exact ⟨hu,zgb hs,by rw [hi];rfl,ztv hz,Nat.eq_of_beq_eq_true hb.1,by simpa [Nat.blt_eq] using hb.2⟩
     ·cases h
    ·cases h
   ·cases h
  ·cases h
 ·rename_i a b hu;simp only [Option.some.injEq] at h;subst h;exact hu
 ·cases h
def zup (P:Program) (x:Nat × Ty):Option Ty:=match zxs P x.1 with
 | some (s,a)=>(match zzd P x.1 with
  | some z=>(match zzr P x.1 x.2.kind with
   | some k=>some ⟨k,s,a,z⟩
   | none=>none)
  | none=>none)
 | none=>none
theorem rowAt_ok {P:Program} {x:Nat × Ty} (h:zup P x=some x.2):zzf P x.1 x.2:=by
 unfold zup at h
 split at h
 ·rename_i s a hs
  split at h
  ·rename_i z hz
   split at h
   ·rename_i k hk
    simp only [Option.some.injEq] at h
    rw [← h]
    exact ⟨zgb hs,ztv hz,kdAt_ok hk⟩
   ·cases h
  ·cases h
 ·cases h
theorem zgr {P:Program}:∀ {l:List (Nat × Ty)},l.map (zup P)=l.map (fun x=>some x.2)→zwh P l
 | [],_=>trivial
 | (t,y)::l,h=>by
  simp only [List.map_cons,List.cons.injEq] at h
  exact ⟨rowAt_ok (x:=(t,y)) h.1,zgr h.2⟩
theorem tok_tab {P:Program} {l:List (Nat × Ty)} (h:l.map (zup P)=l.map (fun x=>some x.2)):TOK P (zpw l):=zwa (zgr h)
end
end Go.Proofs.YtgpbgfpjlhoicaaGreatDoor
