/- Part 7 of the texts under TopColoursConverge: joined, with what it needs alone. -/
import Derived.RangeFuncNested
import Derived.RangeFuncSeq
import Derived.Test.YtfhejdcijbgikaaGreatDoorCC1
import Derived.Test.YtfhejdcijbgikaaGreatDoorCC5
import Derived.Test.YtfhejdcijbgikaaGreatDoorCC6
set_option linter.unusedVariables false
set_option maxHeartbeats 4000000
namespace Go.Proofs.YtfhejdcijbgikaaGreatDoor
section
open Go.RowKit
theorem Inv.mineOf {B:Bse} {ok0:Nat→Prop} {h:Nat→Option LObj} {lv:Live} {w:World} (hi:Inv B ok0 h lv w) {b:Nat} (hb:ybn lv b):B.mine b∧b < w.heap.size:=by
 obtain ⟨id,n,h⟩:=hb
 obtain ⟨_,_,h1,h2,_⟩:=hi.lvat h
 exact ⟨h1,h2⟩
theorem Inv.rebase {B:Bse} {ok0:Nat→Prop} {h:Nat→Option LObj} {lv:Live} {w:World} (hi:Inv B ok0 h lv w) {W1:World} (hG:ywf W1) (hsz:w.heap.size≤W1.heap.size) (hok:∀ g,yaw B ok0 lv w g→W1.heap[g]?=w.heap[g]?) (hlv:∀ b,ybn lv b→W1.heap[b]?=w.heap[b]?)
  (pin:Nat→Option Nat) (rd:Option Nat) (dl:List Deferred) (gv:Nat→Value) (hrd:∀ l,rd=some l→(∃ r,W1.heap[l]?=some (.loop r))∧¬ ybn lv l):Inv ⟨W1,ybn lv,pin,rd,dl,gv⟩ (yaw B ok0 lv w) h lv W1:=by
 have hk:∀ g,yaw B ok0 lv w g→yaw ⟨W1,ybn lv,pin,rd,dl,gv⟩ (yaw B ok0 lv w) lv W1 g∧W1.heap[g]?=w.heap[g]?:=fun g hg=>⟨⟨.inl hg,Nat.lt_of_lt_of_le hg.2.1 hsz,hg.2.2⟩,hok g hg⟩
 refine ⟨⟨rfl,rfl,rfl,Nat.le_refl _,fun _ _ _=>rfl,hG,hG.size,fun k hk=>hi.base.mineG (hi.mineOf hk).1,hrd⟩,fun g hg=>Nat.lt_of_lt_of_le hg.2.1 hsz,hi.dom,hi.inj,fun id x hx=>?_⟩
 obtain ⟨b,n,h1,h2⟩:=hi.obj id x hx
 refine ⟨b,n,h1,?_⟩
 cases b with
 | none=>exact h2
 | some b=>exact ⟨.inl ⟨id,n,h1⟩,Nat.lt_of_lt_of_le h2.2.1 hsz,h2.2.2.keep hk (hlv b ⟨id,n,h1⟩)⟩
theorem ok_back {B:Bse} {ok0:Nat→Prop} {h:Nat→Option LObj} {lv:Live} {w:World} (h0:Inv B ok0 h lv w) {W1:World} (hsz:w.heap.size≤W1.heap.size) {pin:Nat→Option Nat} {rd:Option Nat} {dl:List Deferred} {gv:Nat→Value} {lv':Live} {w':World} {g:Nat} (hg:yaw ⟨W1,ybn lv,pin,rd,dl,gv⟩ (yaw B ok0 lv w) lv' w' g):ok0 g∨B.mine g:=by
 rcases hg.1 with h|h|h
 ·exact h.1
 ·exact .inr (h0.mineOf h).1
 ·exact .inr (.inr (by have:=h0.base.size;simp only at h;omega))
theorem Inv.back {B:Bse} {ok0:Nat→Prop} {h:Nat→Option LObj} {lv:Live} {w:World} (h0:Inv B ok0 h lv w) {W1:World} (hsz:w.heap.size≤W1.heap.size) {pin:Nat→Option Nat} {rd:Option Nat} {dl:List Deferred} {gv:Nat→Value} {h':Nat→Option LObj} {lv':Live} {w':World}
  (hi:Inv ⟨W1,ybn lv,pin,rd,dl,gv⟩ (yaw B ok0 lv w) h' lv' w') {W2:World} (hB:Based B W2) (hsz2:w'.heap.size≤W2.heap.size) (hok:∀ g,yaw ⟨W1,ybn lv,pin,rd,dl,gv⟩ (yaw B ok0 lv w) lv' w' g→W2.heap[g]?=w'.heap[g]?) (hlv:∀ b,ybn lv' b→W2.heap[b]?=w'.heap[b]?) :
  Inv B ok0 h' lv' W2∧∀ g,yaw ⟨W1,ybn lv,pin,rd,dl,gv⟩ (yaw B ok0 lv w) lv' w' g→yaw B ok0 lv' W2 g∧W2.heap[g]?=w'.heap[g]?:=by
 have hk:∀ g,yaw ⟨W1,ybn lv,pin,rd,dl,gv⟩ (yaw B ok0 lv w) lv' w' g→yaw B ok0 lv' W2 g∧W2.heap[g]?=w'.heap[g]?:=fun g hg=>⟨⟨ok_back h0 hsz hg,Nat.lt_of_lt_of_le hg.2.1 hsz2,hg.2.2⟩,hok g hg⟩
 refine ⟨⟨hB,h0.ok0lt,hi.dom,hi.inj,fun id x hx=>?_⟩,hk⟩
 obtain ⟨b,n,h1,h2⟩:=hi.obj id x hx
 refine ⟨b,n,h1,?_⟩
 cases b with
 | none=>exact h2
 | some b=>
  refine ⟨?_,Nat.lt_of_lt_of_le h2.2.1 hsz2,h2.2.2.keep hk (hlv b ⟨id,n,h1⟩)⟩
  rcases h2.1 with h3|h3
  ·exact (h0.mineOf h3).1
  ·exact .inr (by have:=h0.base.size;simp only at h3;omega)
theorem live_back {ok0:Nat→Prop} {h':Nat→Option LObj} {W1:World} {lv lv':Live} {w':World} {pin:Nat→Option Nat} {rd:Option Nat} {dl:List Deferred} {gv:Nat→Value} (hi:Inv ⟨W1,ybn lv,pin,rd,dl,gv⟩ ok0 h' lv' w') {b:Nat} (hb:ybn lv' b):ybn lv b∨W1.heap.size≤b:=(hi.mineOf hb).1
def zdj (P:Program) (f:FuncId) (caps:List AV) (els:List (List AV)):Prop:=
 yjf P f∧∀ (l:Nat) (ok:Nat→Prop) (W:World) (us:List Value) (J:Nat→World→Prop) (X:World→Prop),(∀ g,ok g→g < W.heap.size)→ybk ok W (fun _=>none) caps us →
  (∀ k W',J k W'→W.heap.size≤W'.heap.size∧∀ g,ok g→W'.heap[g]?=W.heap[g]?)→(∀ k W1 W2,J k W1→Below W1.heap.size W1 W2→J k W2)→(∀ W1 W2,X W1→Below W1.heap.size W1 W2→X W2) →
  (∀ k el vs W1,els[k]?=some el→J k W1→ybk ok W1 (fun _=>none) el vs→YieldAt Fence.wide 0 P l vs.toArray W1 fun e W'=>(e=.returned (.bool true)∧J (k+1) W')∨(e=.returned (.bool false)∧X W')) →
  J 0 W→CallsIn Fence.wide 0 P f (#[.func (.yield l) #[] #[]]++us.toArray) W fun e W'=>(∃ v,e=.returned v)∧(J els.length W'∨X W')
theorem znf:∀ (ps:List Nat) (vs:List Value) (tm:Array Value),ps.length=vs.length→ps.Nodup→(∀ p∈ps,p < tm.size) →
  ((ps.zip vs).foldl (fun t (x:Nat × Value)=>t.setIfInBounds x.1 x.2) tm).size=tm.size∧(∀ x,x ∉ ps→((ps.zip vs).foldl (fun t (x:Nat × Value)=>t.setIfInBounds x.1 x.2) tm).getD x undef=tm.getD x undef) ∧
   ∀ (j p:Nat) (v:Value),ps[j]?=some p→vs[j]?=some v→((ps.zip vs).foldl (fun t (x:Nat × Value)=>t.setIfInBounds x.1 x.2) tm).getD p undef=v
 | [],[],tm,_,_,_=>⟨rfl,fun _ _=>rfl,fun j p v h=>by simp at h⟩
 | p::ps,v::vs,tm,hl,hn,hlt=>by
  simp only [List.nodup_cons] at hn
  obtain ⟨h1,h2,h3⟩:=znf ps vs (tm.setIfInBounds p v) (by simpa using hl) hn.2 (fun q hq=>by simpa using hlt q (by simp [hq]))
  have hset:∀ x,x≠p→(tm.setIfInBounds p v).getD x undef=tm.getD x undef:=fun x hx=>by
   simp only [Array.getD_eq_getD_getElem?,Array.getElem?_setIfInBounds]
   rw [if_neg (by omega)]
  simp only [List.zip_cons_cons,List.foldl_cons]
  refine ⟨by rw [h1];simp,fun x hx=>?_,fun j q u hj hu=>?_⟩
  ·simp only [List.mem_cons,not_or] at hx
   rw [h2 x hx.2,hset x hx.1]
  ·cases j with
   | zero=>
    simp only [List.getElem?_cons_zero,Option.some.injEq] at hj hu
    subst hj hu
    rw [h2 p hn.1]
    have:=hlt p (by simp)
    simp [Array.getD,this]
   | succ j=>exact h3 j q u (by simpa using hj) (by simpa using hu)
 | [],_::_,_,h,_,_=>by simp at h
 | _::_,[],_,h,_,_=>by simp at h
theorem zek:∀ {ps:List Nat} {el:List AV} {x:Nat} {y:AV},look (ps.zip el) x=some y→∃ j:Nat,ps[j]?=some x∧el[j]?=some y
 | [],_,x,y,h=>by simp [look] at h
 | _::_,[],x,y,h=>by simp [look] at h
 | p::ps,e::el,x,y,h=>by
  simp only [List.zip_cons_cons,look] at h
  cases hb:Nat.beq x p with
  | true=>
   simp only [hb,Option.some.injEq] at h
   exact ⟨0,by simp [Nat.eq_of_beq_eq_true hb],by simp [h]⟩
  | false=>
   simp only [hb] at h
   obtain ⟨j,h1,h2⟩:=zek h
   exact ⟨j+1,by simpa using h1,by simpa using h2⟩
theorem ysq:∀ {ps:List Nat} {el:List AV} {x:Nat},ps.length=el.length→look (ps.zip el) x=none→x ∉ ps
 | [],_,x,_,_=>by simp
 | _::_,[],x,hl,_=>by simp at hl
 | p::ps,e::el,x,hl,h=>by
  simp only [List.zip_cons_cons,look] at h
  cases hb:Nat.beq x p with
  | true=>simp [hb] at h
  | false=>
   simp only [hb] at h
   simp only [List.mem_cons,not_or]
   exact ⟨fun e=>by subst e;simp at hb,ysq (by simpa using hl) h⟩
def yvz (t0:Nat→Option AV) (ps:List Nat) (el:List AV) (x:Nat):Option AV:=
 match Nat.ble 1000000 x with
 | true=>t0 (x - 1000000)
 | false=>match look (ps.zip el) x with
  | some y=>some y
  | none=>t0 x
def zvf (t0:Nat→Option AV) (hk:Nat→Nat→Option LObj) (k:Nat) (Q:Exit→SS→Prop):Exit→SS→Prop
 | .normal,s=>(∀ x y,t0 x=some y→s.t (x+1000000)=some y)∧∀ id o,hk (k+1) id=some o→s.h id=some o
 | .ret,s=>∃ hx:Nat→Option LObj,(∀ x y,t0 x=some y→s.t (x+1000000)=some y)∧(∀ id o,hx id=some o→s.h id=some o)∧Q .ret ⟨t0,hx⟩
 | .exit i,s=>∃ hx:Nat→Option LObj,(∀ x y,t0 x=some y→s.t (x+1000000)=some y)∧(∀ id o,hx id=some o→s.h id=some o)∧Q (.exit i) ⟨t0,hx⟩
 | _,_=>False
theorem ymw {w:World} {l:Nat} {o:Obj} (h:w.heap[l]?=some o):w.putObj l o=w:=by
 have:w.heap.setIfInBounds l o=w.heap:=by
  apply Array.ext_getElem?
  intro i
  rw [Array.getElem?_setIfInBounds]
  split
  ·rename_i e
   subst e
   split
   ·exact h.symm
   ·rename_i hlt
    rw [Array.getElem?_eq_none (by omega)]
  ·rfl
 unfold World.putObj
 rw [this]
theorem yod {w:World} {l:Nat} {o o':Obj}:(w.putObj l o).putObj l o'=w.putObj l o':=by
 unfold World.putObj
 simp only [World.mk.injEq,and_true]
 apply Array.ext_getElem?
 intro i
 simp only [Array.getElem?_setIfInBounds,Array.size_setIfInBounds]
 split <;> rfl
theorem ywy {w:World} (h:ywf w) {l:Nat} {o:Obj} (hl:GN≤l):ywf (w.putObj l o):=
 h.keep (fun k hk=>World.putObj_heap_other (by omega)) (by simp)
section
variable {P:Program} {N:Nat} {g:Operand} {ps:List Nat} {assign body:Code} {Q:Exit→SS→Prop} {s:SS} {gf:Nat} {caps:List AV} {els:List (List AV)}
def yhe (B:Bse) (Bx:Bse) (okx:Nat→Prop) (N l:Nat) (rec:LoopState→Option Code→Loop) (t0:Nat→Option AV) (vt:Nat→Value) (o:Loop) (h:Nat→Option LObj) (W:World):Prop:=
 W.heap[l]?=some (.loop o)∧∃ lv',Inv Bx okx h lv' (W.putObj l (.loop (rec .ready none)))∧(∀ x y,t0 x=some y→Rel (yaw Bx okx lv' (W.putObj l (.loop (rec .ready none)))) (W.putObj l (.loop (rec .ready none))) lv' y (vt x)) ∧
  ∀ id b o,N≤id→h id=some o→isC o=true→B.pin id=some b→∃ n,lv' id=some (some b,n)
theorem yhe.grow {B Bx:Bse} {okx:Nat→Prop} {N l:Nat} {rec:LoopState→Option Code→Loop} {t0:Nat→Option AV} {vt:Nat→Value} {o:Loop} {h:Nat→Option LObj} {W W2:World} (hK:yhe B Bx okx N l rec t0 vt o h W) (hb:Below W.heap.size W W2):yhe B Bx okx N l rec t0 vt o h W2:=by
 obtain ⟨h1,lv',h2,h3,h4⟩:=hK
 have hlt:=(Array.getElem?_eq_some_iff.1 h1).1
 have hb':Below (W.putObj l (.loop (rec .ready none))).heap.size (W.putObj l (.loop (rec .ready none))) (W2.putObj l (.loop (rec .ready none))):=by
  refine ⟨hb.os,hb.tape,hb.output,by simpa using hb.size,fun k hk=>?_⟩
  by_cases e:k=l
  ·subst e
   rw [World.putObj_heap_same hlt,World.putObj_heap_same (Nat.lt_of_lt_of_le hlt hb.size)]
  ·rw [World.putObj_heap_other e,World.putObj_heap_other e]
   exact hb.block k (by simpa using hk)
 exact ⟨(hb.block l hlt).trans h1,lv',h2.grow hb',fun x y hx=>(h3 x y hx).grow hb',h4⟩
theorem yum {B:Bse} {ok0:Nat→Prop} {h:Nat→Option LObj} {lv:Live} {w:World} (hi:Inv B ok0 h lv w) {l:Nat} (h1:¬ B.mine l) {b:Nat} (hb:ybn lv b):b≠l:=by
 rintro rfl;exact h1 (hi.mineOf hb).1
theorem round_K {B Bx:Bse} {okx:Nat→Prop} {l:Nat} {rec:LoopState→Option Code→Loop} {t0:Nat→Option AV} {tm:Array Value} {vt:Nat→Value} {fn:FuncId} (hrec:∀ st pe,(rec st pe).state=st∧(rec st pe).pending=pe∧∀ st' pe',{ rec st pe with state:=st',pending:=pe' }=rec st' pe')
  (hl:Bx.w.heap[l]?=some (.loop (rec .ready none))) (hlx:¬ Bx.lent l) (hlk:¬ okx l) (hdis:∀ g,okx g→¬ Bx.lent g) (hlg:GN≤l) (htm:tm.size=N) (hvt:∀ x,x < 1000000→vt x=tm.getD x undef) (hbig:N≤1000000) (hps:∀ p∈ps,p < N) (hpn:ps.Nodup) (ht0:∀ x y,t0 x=some y→x < N∨1000000≤x) {hk:Nat→Nat→Option LObj} {k:Nat} {el:List AV} (hel:el.length=ps.length∧yap.pureL el=true)
  (round:A P N assign (fun e s1=>e=.normal∧A P N body (zvf t0 hk k Q) s1) ⟨yvz t0 ps el,hk k⟩) {vs:List Value} {W:World} (hK:yhe B Bx okx N l rec t0 vt (rec .ready none) (hk k) W) (hvs:ybk okx W (fun _=>none) el vs) :
  RoundIn Fence.wide 0 P l fn ((ps.toArray.zip vs.toArray).foldl (fun tmps (x:Nat × Value)=>tmps.setIfInBounds x.1 x.2) tm) assign body W fun e W'=>
   (e=.returned (.bool true)∧yhe B Bx okx N l rec t0 vt (rec .ready none) (hk (k+1)) W') ∨
   (e=.returned (.bool false)∧∃ c h,((c=.ret∧Q .ret ⟨t0,h⟩)∨∃ i,c=.exit i∧Q (.exit i) ⟨t0,h⟩)∧yhe B Bx okx N l rec t0 vt (rec .done (some c)) h W'):=by
 obtain ⟨hWl,lv1,i1,f1,p1⟩:=hK
 rw [ymw hWl] at i1 f1
 have hlt:=(Array.getElem?_eq_some_iff.1 hWl).1
 have hltx:=(Array.getElem?_eq_some_iff.1 hl).1
 have hmx:¬ Bx.mine l:=fun h=>by rcases h with h|h;exact hlx h;omega
 have hnl1:∀ b,ybn lv1 b→b≠l:=fun b hb=>yum i1 hmx hb
 have hnok1:∀ g,yaw Bx okx lv1 W g→g≠l:=fun g hg e=>by subst e;rcases hg.1 with h|h;exact hlk h;exact hmx h
 obtain ⟨hvl,hvr⟩:=hvs
 obtain ⟨z1,z2,z3⟩:=znf ps vs tm (by rw [hvl,hel.1]) hpn (fun p hp=>by rw [htm];exact hps p hp)
 have hfold:(ps.toArray.zip vs.toArray).foldl (fun tmps (x:Nat × Value)=>tmps.setIfInBounds x.1 x.2) tm=(ps.zip vs).foldl (fun t (x:Nat × Value)=>t.setIfInBounds x.1 x.2) tm:=by
  rw [List.zip_toArray,List.foldl_toArray]
 rw [hfold]
 generalize (ps.zip vs).foldl (fun t (x:Nat × Value)=>t.setIfInBounds x.1 x.2) tm=tr at z1 z2 z3
 have j1:=i1.rebase (W1:=W) i1.base.glob (Nat.le_refl _) (fun _ _=>rfl) (fun _ _=>rfl) B.pin (some l) [] (fun x=>vt (x - 1000000)) (fun l' h=>by cases h;exact ⟨⟨_,hWl⟩,fun h=>hnl1 l h rfl⟩)
 have up1:∀ g,yaw Bx okx lv1 W g→yaw ⟨W,ybn lv1,B.pin,some l,[],fun x=>vt (x - 1000000)⟩ (yaw Bx okx lv1 W) lv1 W g:=fun g hg=>⟨.inl hg,hg.2.1,hg.2.2⟩
 have s1:Sim ⟨W,ybn lv1,B.pin,some l,[],fun x=>vt (x - 1000000)⟩ (yaw Bx okx lv1 W) N ⟨yvz t0 ps el,hk k⟩ lv1 { tmps:=tr,defers:=[] } W:=by
  refine ⟨j1,by simp only;rw [z1,htm],fun x y hy=>?_,⟨[],rfl,List.nodup_nil,fun d hd=>by cases hd⟩,hbig,p1⟩
  unfold yvz at hy
  cases hb:Nat.ble 1000000 x with
  | true=>
   simp only [hb] at hy
   have hx:1000000≤x:=by simpa using hb
   refine ⟨.inr hx,?_⟩
   rw [yct,if_neg (by omega)]
   exact (f1 _ y hy).keep fun g hg=>⟨up1 g hg,rfl⟩
  | false=>
   simp only [hb] at hy
   have hx:=zvo hb
   cases hz:look (ps.zip el) x with
   | some y'=>
    simp only [hz,Option.some.injEq] at hy
    subst hy
    obtain ⟨j,hj1,hj2⟩:=zek hz
    have hpx:=hps x (List.mem_of_getElem? hj1)
    refine ⟨.inl hpx,?_⟩
    obtain ⟨u,hu⟩:∃ u,vs[j]?=some u:=⟨_,List.getElem?_eq_getElem (by rw [hvl];exact (List.getElem?_eq_some_iff.1 hj2).1)⟩
    rw [yct,if_pos hx]
    simp only
    rw [z3 j x u hj1 hu]
    have hp:yap y'=true:=yjw hel.2 y' (List.mem_of_getElem? hj2)
    refine ((hvr j y' u hj2 hu).relive (fun id b n _ hm=>by rw [yap.ment hp] at hm;cases hm)).keep fun g hg=>⟨up1 g ⟨.inl hg,Nat.lt_of_lt_of_le (i1.ok0lt g hg) i1.base.size,fun id b n hb e=>?_⟩,rfl⟩
    subst e
    rcases (i1.mineOf ⟨id,n,hb⟩).1 with h|h
    ·exact hdis b hg h
    ·have:=i1.ok0lt b hg;omega
   | none=>
    simp only [hz] at hy
    have hxN:x < N:=(ht0 x y hy).resolve_right (by omega)
    refine ⟨.inl hxN,?_⟩
    rw [yct,if_pos hx]
    simp only
    rw [z2 x (ysq hel.1.symm hz),← hvt x hx]
    exact (f1 x y hy).keep fun g hg=>⟨up1 g hg,rfl⟩
 have hA:=round _ _ _ _ _ s1
 refine roundIn_of_wpIn trivial (wpIn_mono hA ?_)
 rintro e a2 W2 ⟨s2,lv2,⟨rfl,hbody⟩,h2⟩
 have hW2l:W2.heap[l]?=some (.loop (rec .ready none)):=(h2.inv.base.block l hlt fun h=>hnl1 l h rfl).trans hWl
 have hsz2:W.heap.size≤W2.heap.size:=h2.inv.base.size
 have hm2:¬ Bse.mine ⟨W,ybn lv1,B.pin,some l,[],fun x=>vt (x - 1000000)⟩ l:=fun h=>by rcases h with h|h;exact hnl1 l h rfl;simp only at h;omega
 have hnl2:∀ b,ybn lv2 b→b≠l:=fun b hb=>yum h2.inv hm2 hb
 have hnok2:∀ g,yaw ⟨W,ybn lv1,B.pin,some l,[],fun x=>vt (x - 1000000)⟩ (yaw Bx okx lv1 W) lv2 W2 g→g≠l:=fun g hg e=>by subst e;rcases hg.1 with h|h;exact hnok1 _ h rfl;exact hm2 h
 refine ⟨_,run_beginRound hW2l (hrec _ _).1,?_⟩
 rw [(hrec _ _).2.2,(hrec _ _).2.1]
 generalize hW3:W2.putObj l (.loop (rec .busy none))=W3
 have hW3l:W3.heap[l]?=some (.loop (rec .busy none)):=by rw [← hW3];exact World.putObj_heap_same (by omega)
 have hW3o:∀ k,k≠l→W3.heap[k]?=W2.heap[k]?:=fun k hk=>by rw [← hW3];exact World.putObj_heap_other hk
 have hW3s:W3.heap.size=W2.heap.size:=by rw [← hW3];simp
 have j3:=h2.inv.rebase (W1:=W3) (by rw [← hW3];exact ywy h2.inv.base.glob hlg) (by omega) (fun g hg=>hW3o g (hnok2 g hg)) (fun b hb=>hW3o b (hnl2 b hb)) B.pin (some l) a2.defers (fun x=>vt (x - 1000000)) (fun l' h=>by cases h;exact ⟨⟨_,hW3l⟩,fun h=>hnl2 l h rfl⟩)
 have up3:∀ g,yaw ⟨W,ybn lv1,B.pin,some l,[],fun x=>vt (x - 1000000)⟩ (yaw Bx okx lv1 W) lv2 W2 g→yaw ⟨W3,ybn lv2,B.pin,some l,a2.defers,fun x=>vt (x - 1000000)⟩ (yaw ⟨W,ybn lv1,B.pin,some l,[],fun x=>vt (x - 1000000)⟩ (yaw Bx okx lv1 W) lv2 W2) lv2 W3 g∧W3.heap[g]?=W2.heap[g]?:=
  fun g hg=>⟨⟨.inl hg,by rw [hW3s];exact hg.2.1,hg.2.2⟩,hW3o g (hnok2 g hg)⟩
 have s3:Sim ⟨W3,ybn lv2,B.pin,some l,a2.defers,fun x=>vt (x - 1000000)⟩ (yaw ⟨W,ybn lv1,B.pin,some l,[],fun x=>vt (x - 1000000)⟩ (yaw Bx okx lv1 W) lv2 W2) N s2 lv2 a2 W3:=
  ⟨j3,h2.size,fun x y hx=>⟨(h2.frame x y hx).1,(h2.frame x y hx).2.keep up3⟩,⟨[],rfl,List.nodup_nil,fun d hd=>by cases hd⟩,hbig,h2.pin⟩
 refine wpIn_mono (hbody _ _ _ _ _ s3) ?_
 rintro e a4 W4 ⟨s4,lv4,hq,h4⟩
 have hlt3:l < W3.heap.size:=by omega
 have hW4l:W4.heap[l]?=some (.loop (rec .busy none)):=(h4.inv.base.block l hlt3 fun h=>hnl2 l h rfl).trans hW3l
 have hsz4:W3.heap.size≤W4.heap.size:=h4.inv.base.size
 have fin:∀ (h':Nat→Option LObj) (st:LoopState) (pe:Option Code),(∀ x y,t0 x=some y→s4.t (x+1000000)=some y)→(∀ id o,h' id=some o→s4.h id=some o)→yhe B Bx okx N l rec t0 vt (rec st pe) h' (W4.putObj l (.loop (rec st pe))):=by
  intro h' st pe hgt hsub
  refine ⟨World.putObj_heap_same (by omega),?_⟩
  rw [yod]
  obtain ⟨lv5,i5,sub5,ok5⟩:=h4.inv.weak hsub
  generalize hW5:W4.putObj l (.loop (rec .ready none))=W5
  have hW5l:W5.heap[l]?=some (.loop (rec .ready none)):=by rw [← hW5];exact World.putObj_heap_same (by omega)
  have hW5o:∀ k,k≠l→W5.heap[k]?=W4.heap[k]?:=fun k hk=>by rw [← hW5];exact World.putObj_heap_other hk
  have hW5s:W5.heap.size=W4.heap.size:=by rw [← hW5];simp
  have hm3:¬ Bse.mine ⟨W3,ybn lv2,B.pin,some l,a2.defers,fun x=>vt (x - 1000000)⟩ l:=fun h=>by rcases h with h|h;exact hnl2 l h rfl;simp only at h;omega
  have hG5:ywf W5:=by rw [← hW5];exact ywy h4.inv.base.glob hlg
  have hb1:Based ⟨W,ybn lv1,B.pin,some l,[],fun x=>vt (x - 1000000)⟩ W5:=by
   have b4:=h4.inv.base
   have b2:=h2.inv.base
   have e5:W5.os=W4.os∧W5.tape=W4.tape∧W5.output=W4.output:=by rw [← hW5];exact ⟨rfl,rfl,rfl⟩
   have e3:W3.os=W2.os∧W3.tape=W2.tape∧W3.output=W2.output:=by rw [← hW3];exact ⟨rfl,rfl,rfl⟩
   refine ⟨e5.1.trans (b4.os.trans (e3.1.trans b2.os)),e5.2.1.trans (b4.tape.trans (e3.2.1.trans b2.tape)),e5.2.2.trans (b4.output.trans (e3.2.2.trans b2.output)),by simp only;omega,fun k hk hnl=>?_,hG5,b2.gsize,b2.lentG,b2.rdok⟩
   by_cases e:k=l
   ·subst e;exact hW5l.trans hWl.symm
   ·refine (hW5o k e).trans ((b4.block k (by simp only at hk ⊢;omega) fun h=>?_).trans ((hW3o k e).trans (b2.block k hk hnl)))
    rcases live_back h2.inv h with h'|h'
    ·exact hnl h'
    ·simp only at hk;omega
  obtain ⟨k1,k2⟩:=Inv.back h2.inv (by omega) i5 hb1 (by omega) (fun g hg=>hW5o g fun e=>by
   subst e
   rcases hg.1 with h|h
   ·exact hnok2 _ h rfl
   ·exact hm3 h) (fun b hb=>hW5o b (yum i5 hm3 hb))
  have hbx:Based Bx W5:=by
   have bx:=i1.base
   refine ⟨hb1.os.trans bx.os,hb1.tape.trans bx.tape,hb1.output.trans bx.output,Nat.le_trans bx.size hb1.size,fun k hk hnl=>?_,hG5,bx.gsize,bx.lentG,bx.rdok⟩
   refine (hb1.block k (Nat.lt_of_lt_of_le hk bx.size) fun h=>?_).trans (bx.block k hk hnl)
   rcases (i1.mineOf h).1 with h'|h'
   ·exact hnl h'
   ·omega
  obtain ⟨q1,q2⟩:=Inv.back i1 (Nat.le_refl _) k1 hbx (Nat.le_refl _) (fun _ _=>rfl) (fun _ _=>rfl)
  refine ⟨lv5,q1,fun x y hx=>?_,fun id b o hN hx hc hb=>?_⟩
  ·have hf:=(h4.frame _ _ (hgt x y hx)).2
   rw [yct,if_neg (by omega)] at hf
   simp only [Nat.add_sub_cancel] at hf
   have hf5:=(hf.relive fun id b n hb _=>sub5 id b n hb).keep (fun g hg=>⟨ok5 g hg,rfl⟩)
   exact (hf5.keep k2).keep q2
  ·obtain ⟨n,hn⟩:=h4.pin id b o hN (hsub id o hx) hc hb
   obtain ⟨b',n',g1,_⟩:=i5.obj id _ hx
   have:=sub5 id b' n' g1
   rw [hn] at this
   cases this
   exact ⟨n,g1⟩
 cases e with
 | normal=>
  refine ⟨_,_,run_endRound none hW4l,.inl ⟨rfl,?_⟩⟩
  rw [(hrec _ _).2.2]
  exact fin _ .ready none hq.1 hq.2
 | ret=>
  obtain ⟨hx,g1,g2,g3⟩:=hq
  refine ⟨_,_,run_endRound (some .ret) hW4l,.inr ⟨rfl,.ret,hx,.inl ⟨rfl,g3⟩,?_⟩⟩
  rw [(hrec _ _).2.2]
  exact fin _ .done (some .ret) g1 g2
 | exit i=>
  obtain ⟨hx,g1,g2,g3⟩:=hq
  refine ⟨_,_,run_endRound (some (.exit i)) hW4l,.inr ⟨rfl,.exit i,hx,.inr ⟨i,rfl,g3⟩,?_⟩⟩
  rw [(hrec _ _).2.2]
  exact fin _ .done (some (.exit i)) g1 g2
 | goto l=>exact hq.elim
 | panic c=>exact hq.elim
 | outgrown=>exact hq.elim
theorem Inv.weakC {B:Bse} {ok0:Nat→Prop} {h h':Nat→Option LObj} {lv:Live} {w:World} {ids:List Nat} (hi:Inv B ok0 h lv w) (hh:∀ id o,h' id=some o→h id=some o∨id∈ids∧∃ x xs,o=.cells (x::xs)∧h id=some (.vec (x::xs))) :
  ∃ lv',Inv B ok0 h' lv' w∧(∀ id b n,lv' id=some (b,n)→lv id=some (b,n))∧∀ g,yaw B ok0 lv w g→yaw B ok0 lv' w g:=by
 obtain ⟨lv',h1,h2,h3⟩:=hi.weak (h':=fun i=>match h' i with|none=>none|some _=>h i) fun i o ho=>by
  split at ho
  ·cases ho
  ·exact ho
 refine ⟨lv',⟨h1.base,h1.ok0lt,fun id hn=>h1.dom id (by simp [hn]),h1.inj,fun id o ho=>?_⟩,h2,h3⟩
 rcases hh id o ho with e|⟨_,x,xs,rfl,e⟩
 ·exact h1.obj id o (by simp only [ho];exact e)
 ·obtain ⟨b,n,q1,q2⟩:=h1.obj id (.vec (x::xs)) (by simp only [ho];exact e)
  refine ⟨b,n,q1,?_⟩
  cases b with
  | none=>simp [yfb] at q2
  | some b=>exact ⟨q2.1,q2.2.1,q2.2.2.1⟩
def xah (lv:Live) (ids:List Nat) (p:Nat→Option Nat) (x:Nat):Option Nat:=
 match yll x ids with
 | true=>match lv x with
  | some (some b,_)=>some b
  | _=>none
 | false=>p x
structure LoopAt (P:Program) (N:Nat) (ps:List Nat) (assign body:Code) (Q:Exit→SS→Prop) (t0:Nat→Option AV) (caps:List AV) (ids:List Nat) (B Bx:Bse) (okx:Nat→Prop) (l:Nat) (rec:LoopState→Option Code→Loop) (vt:Nat→Value) (lv:Live) (lb:List Value) (W1:World):Prop where
 okLt:∀ g,okx g→g < W1.heap.size
 len:lb.length=caps.length
 caps:∀ (i:Nat) (c:AV) (u:Value),caps[i]?=some c→lb[i]?=some u→Rel okx W1 lv c u
 pin:∀ id∈ids,∃ b n,lv id=some (some b,n)∧B.pin id=some b
 pinx:∀ x,Bx.pin x=none
 mx:¬ Bx.mine l
 gl:GN≤l
 keep:∀ o h W',yhe B Bx okx N l rec t0 vt o h W'→W1.heap.size≤W'.heap.size∧∀ g,okx g→W'.heap[g]?=W1.heap[g]?
 yield:∀ (hk:Nat→Nat→Option LObj) (k:Nat) (el:List AV) (vs:List Value) (W:World),(el.length=ps.length∧yap.pureL el=true)→A P N assign (fun e s1=>e=.normal∧A P N body (zvf t0 hk k Q) s1) ⟨yvz t0 ps el,hk k⟩→yhe B Bx okx N l rec t0 vt (rec .ready none) (hk k) W→ybk okx W (fun _=>none) el vs →
  YieldAt Fence.wide 0 P l vs.toArray W fun e W'=>(e=.returned (.bool true)∧yhe B Bx okx N l rec t0 vt (rec .ready none) (hk (k+1)) W')∨(e=.returned (.bool false)∧∃ c h,((c=.ret∧Q .ret ⟨t0,h⟩)∨∃ i,c=.exit i∧Q (.exit i) ⟨t0,h⟩)∧yhe B Bx okx N l rec t0 vt (rec .done (some c)) h W')
theorem zlz (ids:List Nat) (hgv:evF s.t g=some (.fn gf caps)) (hbody:yjf P gf) (hps:∀ p∈ps,p < N) (hpn:ps.Nodup) (t0:Nat→Option AV) (ht0:∀ x y,t0 x=some y→s.t x=some y∧(x < N∨1000000≤x))
  (H0 HE:Nat→Option LObj) (h0:∀ id o,H0 id=some o→s.h id=some o∨id∈ids∧∃ x xs,o=.cells (x::xs)∧s.h id=some (.vec (x::xs))) (hids:∀ id∈ids,N≤id∧∃ xs,H0 id=some (.cells xs))
  (Q':Exit→SS→Prop) (hQ:∀ e h,Q' e ⟨t0,h⟩→∃ h',(∀ i o,h' i=some o→h i=some o∧i ∉ ids)∧Q e ⟨t0,h'⟩)
  (hcall:∀ (B Bx:Bse) (okx:Nat→Prop) (l:Nat) (rec:LoopState→Option Code→Loop) (vt:Nat→Value) (lv:Live) (lb:List Value) (W1:World),LoopAt P N ps assign body Q' t0 caps ids B Bx okx l rec vt lv lb W1→yhe B Bx okx N l rec t0 vt (rec .ready none) H0 W1 →
   CallsIn Fence.wide 0 P gf (#[.func (.yield l) #[] #[]]++lb.toArray) W1 fun e W'=>(∃ v,e=.returned v)∧(yhe B Bx okx N l rec t0 vt (rec .ready none) HE W'∨∃ (c:Code) (h:Nat→Option LObj),((c=.ret∧Q' .ret ⟨t0,h⟩)∨∃ i,c=.exit i∧Q' (.exit i) ⟨t0,h⟩)∧yhe B Bx okx N l rec t0 vt (rec .done (some c)) h W'))
  (done:Q' .normal ⟨t0,HE⟩):A P N (.rangeFunc g ps.toArray assign body) Q s:=by
 intro B ok0 lvs a w hs
 have hfr:=hs.eval hgv
 generalize hv:a.eval g=v at hfr
 cases hfr with
 | fn lb hl hr=>
 obtain ⟨lv,hi,hsub,hok⟩:=hs.inv.weakC h0
 have hbig:=hs.big
 have hframe0:∀ x y,t0 x=some y→Rel (yaw B ok0 lv w) w lv y (yct B a x):=by
  intro x y hx
  obtain ⟨g1,g2⟩:=ht0 x y hx
  have:=(hs.frame x y g1).2
  exact (this.relive fun id b n hb _=>hsub id b n hb).keep fun g hg=>⟨hok g hg,rfl⟩
 have hcaps:∀ (i:Nat) (c:AV) (u:Value),caps[i]?=some c→lb[i]?=some u→Rel (yaw B ok0 lv w) w lv c u:=fun i c u h1 h2=>((hr i c u h1 h2).relive (fun id b n hb _=>hsub id b n hb)).keep fun g hg=>⟨hok g hg,rfl⟩
 have hpin0:∀ id b o,N≤id→H0 id=some o→isC o=true→id ∉ ids→B.pin id=some b→∃ n,lv id=some (some b,n):=by
  intro id b o hN hx hc hni hb
  obtain ⟨n,hn⟩:=hs.pin id b o hN ((h0 id o hx).resolve_right fun h=>hni h.1) hc hb
  obtain ⟨b',n',g1,_⟩:=hi.obj id _ hx
  have:=hsub id b' n' g1
  rw [hn] at this
  cases this
  exact ⟨n,g1⟩
 obtain ⟨Bp,hBp⟩:∃ Bp:Bse,Bp.pin=xah lv ids B.pin:=⟨⟨B.w,B.lent,xah lv ids B.pin,B.rd,B.dl,B.gv⟩,rfl⟩
 have hpins:∀ id b o,N≤id→H0 id=some o→isC o=true→Bp.pin id=some b→∃ n,lv id=some (some b,n):=by
  intro id b o hN hx hc hb
  rw [hBp,xah] at hb
  split at hb
  ·split at hb
   ·rename_i b' n hlv
    cases hb
    exact ⟨n,hlv⟩
   ·cases hb
  ·rename_i hm
   exact hpin0 id b o hN hx hc (fun h=>by rw [ydg.2 h] at hm;cases hm) hb
 have hpinB:∀ id b,id ∉ ids→B.pin id=some b→Bp.pin id=some b:=by
  intro id b hni hb
  rw [hBp,xah]
  split
  ·rename_i hm;exact absurd (ydg.1 hm) hni
  ·exact hb
 refine wpIn_rangeFunc fun fn hfn=>?_
 obtain ⟨l,mark,W1,D0,henter,hgrow,hl1,hlw,hmark⟩:∃ (l:Nat) (mark:List Deferred) (W1:World) (D0:Nat),
   (Instr.enterLoop fn a.tmps ps.toArray assign body (FW B.rd).round).run P w=.ok (l,mark) W1∧Below w.heap.size w W1∧W1.heap[l]?=some (.loop ({ state:=.ready,pending:=none,fn,tmps:=a.tmps,params:=ps.toArray,assign,body,defers:=D0 }:Loop))∧w.heap.size≤l ∧
   (mark=[]∨∃ D,mark=[{ target:=.collected D,args:=#[] }]∧W1.heap[D]?=some (.deferred (some []))∧w.heap.size≤D∧D≠l):=by
  cases hrd:B.rd with
  | none=>
   refine ⟨_,_,_,w.heap.size,run_enterLoop_outer _ _ _ _ _,((Below.refl _ w).alloc (Nat.le_refl _) _).alloc (by simp) _,?_,by omega,.inr ⟨_,rfl,?_,Nat.le_refl _,by omega⟩⟩
   ·have:=World.alloc_heap_new (w.alloc (.deferred (some []))) (.loop { state:=.ready,pending:=none,fn,tmps:=a.tmps,params:=ps.toArray,assign,body,defers:=w.heap.size })
    rwa [World.size_alloc] at this
   ·exact (Below.heap_alloc _ _ _ (by simp)).trans (World.alloc_heap_new w _)
  | some l0=>
   obtain ⟨⟨r0,hr0⟩,hnl⟩:=hs.inv.base.rdok l0 hrd
   have hr1:w.heap[l0]?=some (.loop r0):=(hs.inv.base.block l0 (Array.getElem?_eq_some_iff.1 hr0).1 hnl).trans hr0
   exact ⟨_,_,_,r0.defers,run_enterLoop_inner hr1 _ _ _ _ _,(Below.refl _ w).alloc (Nat.le_refl _) _,World.alloc_heap_new w _,Nat.le_refl _,.inl rfl⟩
 obtain ⟨rec,hrecd⟩:∃ rec:LoopState→Option Code→Loop,rec=fun st pe=>({ state:=st,pending:=pe,fn,tmps:=a.tmps,params:=ps.toArray,assign,body,defers:=D0 }:Loop):=⟨_,rfl⟩
 have hrec:∀ st pe,(rec st pe).state=st∧(rec st pe).pending=pe∧∀ st' pe',{ rec st pe with state:=st',pending:=pe' }=rec st' pe':=fun st pe=>by subst hrecd;exact ⟨rfl,rfl,fun _ _=>rfl⟩
 have hl1':W1.heap[l]?=some (.loop (rec .ready none)):=by rw [hrecd];exact hl1
 have hG1:ywf W1:=(hi.base.grow hgrow).glob
 have hGN:GN≤w.heap.size:=Nat.le_trans hi.base.gsize hi.base.size
 have hltw:∀ b,ybn lv b→b < w.heap.size:=fun b hb=>(hi.mineOf hb).2
 have hlt1:=(Array.getElem?_eq_some_iff.1 hl1').1
 have j1:=hi.rebase hG1 hgrow.size (fun g hg=>hgrow.block g hg.2.1) (fun b hb=>hgrow.block b (hltw b hb)) (fun _=>none) none [] (fun _=>undef) (fun l h=>by cases h)
 have hnlive:∀ g,yaw B ok0 lv w g→¬ ybn lv g:=fun g hg ⟨id,n,h⟩=>hg.2.2 id g n h rfl
 refine ⟨l,mark,W1,{ target:=.fn (.func gf) lb.toArray,args:=#[.func (.yield l) #[] #[]] },W1,gf,#[.func (.yield l) #[] #[]]++lb.toArray,W1,henter,?_,fun _ _=>trivial,?_,fun hc=>(by cases hc),?_⟩
 ·simp only [resolve,hv]
  simp [go_sem]
 ·simp [invoke,go_sem,yfh hbody]
 ·have hK0:yhe Bp ⟨W1,ybn lv,fun _=>none,none,[],fun _=>undef⟩ (yaw B ok0 lv w) N l rec t0 (yct B a) (rec .ready none) H0 W1:=by
   refine ⟨hl1',lv,?_,fun x y hx=>?_,hpins⟩
   ·rw [ymw hl1'];exact j1
   ·rw [ymw hl1']
    exact (hframe0 x y hx).keep fun g hg=>⟨⟨.inl hg,Nat.lt_of_lt_of_le hg.2.1 hgrow.size,hg.2.2⟩,hgrow.block g hg.2.1⟩
  have hback:∀ (o:Loop) (h:Nat→Option LObj) (W:World),yhe Bp ⟨W1,ybn lv,fun _=>none,none,[],fun _=>undef⟩ (yaw B ok0 lv w) N l rec t0 (yct B a) o h W→∀ h':Nat→Option LObj,(∀ i o,h' i=some o→h i=some o∧i ∉ ids)→∃ lv',Sim B ok0 N ⟨t0,h'⟩ lv' { a with defers:=mark++a.defers } (W.putObj l (.loop { o with state:=.exhausted })):=by
   rintro o h W ⟨hWl,lv',i1,f1,p1⟩ h' hh'
   have hlt:=(Array.getElem?_eq_some_iff.1 hWl).1
   have b1:=i1.base
   generalize hW5:W.putObj l (.loop { o with state:=.exhausted })=W5
   have hW5o:∀ k,k≠l→W5.heap[k]?=(W.putObj l (.loop (rec .ready none))).heap[k]?:=fun k hk=>by rw [← hW5,World.putObj_heap_other hk,World.putObj_heap_other hk]
   have hW5s:W5.heap.size=(W.putObj l (.loop (rec .ready none))).heap.size:=by rw [← hW5];simp
   have hG5:ywf W5:=by
    have:=ywy (o:=.loop { o with state:=.exhausted }) b1.glob (l:=l) (by omega)
    rwa [yod,hW5] at this
   have e5:W5.os=W.os∧W5.tape=W.tape∧W5.output=W.output:=by rw [← hW5];exact ⟨rfl,rfl,rfl⟩
   have hold:∀ k,k < w.heap.size→¬ ybn lv k→W5.heap[k]?=w.heap[k]?:=fun k hk hn=>(hW5o k (by omega)).trans ((b1.block k (Nat.lt_of_lt_of_le hk hgrow.size) hn).trans (hgrow.block k hk))
   have hbB:Based B W5:=by
    refine ⟨e5.1.trans (b1.os.trans (hgrow.os.trans hi.base.os)),e5.2.1.trans (b1.tape.trans (hgrow.tape.trans hi.base.tape)),e5.2.2.trans (b1.output.trans (hgrow.output.trans hi.base.output)),?_,fun k hk hnl=>?_,hG5,hi.base.gsize,hi.base.lentG,hi.base.rdok⟩
    ·rw [hW5s];exact Nat.le_trans hi.base.size (Nat.le_trans hgrow.size b1.size)
    ·refine (hold k (Nat.lt_of_lt_of_le hk hi.base.size) fun hb=>?_).trans (hi.base.block k hk hnl)
     rcases (hi.mineOf hb).1 with h'|h'
     ·exact hnl h'
     ·omega
   have hmx:¬ Bse.mine ⟨W1,ybn lv,fun _=>none,none,[],fun _=>undef⟩ l:=fun h=>by rcases h with h|h;exact absurd (hltw l h) (by omega);simp only at h;omega
   obtain ⟨k1,k2⟩:=Inv.back hi hgrow.size i1 hbB (by omega) (fun g hg=>hW5o g fun e=>by
    subst e
    rcases hg.1 with h|h
    ·have:=h.2.1;omega
    ·exact hmx h) (fun b hb=>hW5o b (yum i1 hmx hb))
   obtain ⟨lv2,k3,k4,k5⟩:=k1.weak (h':=h') fun i o ho=>(hh' i o ho).1
   refine ⟨lv2,k3,hs.size,fun x y hx=>⟨(ht0 x y hx).2,?_⟩,?_,hbig,fun id b o hN hx hc hb=>?_⟩
   ·exact (((f1 x y hx).keep k2).relive fun id b n hb _=>k4 id b n hb).keep fun g hg=>⟨k5 g hg,rfl⟩
   rotate_left
   ·obtain ⟨n,hn⟩:=p1 id b o hN (hh' id o hx).1 hc (hpinB id b (hh' id o hx).2 hb)
    obtain ⟨b',n',g1,_⟩:=k3.obj id _ hx
    have:=k4 id b' n' g1
    rw [hn] at this
    cases this
    exact ⟨n,g1⟩
   ·obtain ⟨ms,g1,g2,g3⟩:=hs.defers
    have hm:∀ d∈ms,∃ D,d={ target:=.collected D,args:=#[] }∧W5.heap[D]?=some (.deferred (some []))∧B.w.heap.size≤D∧D < w.heap.size:=by
     intro d hd
     obtain ⟨D,q1,q2,q3⟩:=g3 d hd
     have hDlt:=(Array.getElem?_eq_some_iff.1 q2).1
     exact ⟨D,q1,(hold D hDlt fun ⟨id,n,h⟩=>(hi.lvat h).choose_spec.2.2.2.notDef q2).trans q2,q3,hDlt⟩
    refine ⟨mark++ms,by simp only;rw [g1,List.append_assoc],?_,fun d hd=>?_⟩
    ·rcases hmark with rfl|⟨D,rfl,_,hD,_⟩
     ·simpa using g2
     ·simp only [List.cons_append,List.nil_append,List.nodup_cons]
      refine ⟨fun hin=>?_,g2⟩
      obtain ⟨D',q1,_,_,q4⟩:=hm _ hin
      simp only [Deferred.mk.injEq,Target.collected.injEq,and_true] at q1
      omega
    ·rcases List.mem_append.1 hd with hd|hd
     ·rcases hmark with rfl|⟨D,rfl,hD1,hD2,hD3⟩
      ·cases hd
      ·simp only [List.mem_singleton] at hd
       refine ⟨D,hd,?_,Nat.le_trans hi.base.size hD2⟩
       exact (hW5o D hD3).trans ((b1.block D (Array.getElem?_eq_some_iff.1 hD1).1 fun h=>by have:=hltw D h;omega).trans hD1)
     ·obtain ⟨D,q1,q2,q3,_⟩:=hm d hd
      exact ⟨D,q1,q2,q3⟩
  have hmx1:¬ Bse.mine ⟨W1,ybn lv,fun _=>none,none,[],fun _=>undef⟩ l:=fun h=>by rcases h with h|h;exact absurd (hltw l h) (by omega);simp only at h;omega
  have hcall:=hcall Bp ⟨W1,ybn lv,fun _=>none,none,[],fun _=>undef⟩ (yaw B ok0 lv w) l rec (yct B a) lv lb W1 ⟨fun g hg=>Nat.lt_of_lt_of_le hg.2.1 hgrow.size,hl,fun i x u hx hu=>(hcaps i x u hx hu).keep fun g hg=>⟨hg,hgrow.block g hg.2.1⟩,fun id hid=>?_,fun _=>rfl,hmx1,by omega,fun o h W' hK=>?_,fun hk k el vs W2 hel' round hK hvs=>?_⟩ hK0
  ·have hcall':CallsIn (FW B.rd) (0 - 1) P gf (#[.func (.yield l) #[] #[]]++lb.toArray) W1 _:=hcall
   refine hcall'.mono ?_
   rintro e W' ⟨⟨v,rfl⟩,hK|⟨c,h,hc,hK⟩⟩
   ·obtain ⟨h',hh',done⟩:=hQ _ _ done
    obtain ⟨lv',hsim⟩:=hback _ _ _ hK h' hh'
    refine ⟨none,W'.putObj l (.loop { rec .ready none with state:=.exhausted }),?_,⟨_,lv',done,hsim⟩⟩
    exact (run_endLoop (P:=P) hK.1 (by rw [(hrec _ _).1];simp)).trans (congrArg (fun x=>Result.ok x (W'.putObj l (.loop { rec .ready none with state:=.exhausted }))) (hrec _ _).2.1)
   ·have hc':∃ h',(∀ i o,h' i=some o→h i=some o∧i ∉ ids)∧((c=.ret∧Q .ret ⟨t0,h'⟩)∨∃ i,c=.exit i∧Q (.exit i) ⟨t0,h'⟩):=by
     rcases hc with ⟨rfl,hq⟩|⟨i,rfl,hq⟩
     ·obtain ⟨h',hh',q⟩:=hQ _ _ hq;exact ⟨h',hh',.inl ⟨rfl,q⟩⟩
     ·obtain ⟨h',hh',q⟩:=hQ _ _ hq;exact ⟨h',hh',.inr ⟨i,rfl,q⟩⟩
    obtain ⟨h',hh',hc⟩:=hc'
    obtain ⟨lv',hsim⟩:=hback _ _ _ hK h' hh'
    refine ⟨some c,W'.putObj l (.loop { rec .done (some c) with state:=.exhausted }),?_,?_⟩
    ·exact (run_endLoop (P:=P) hK.1 (by rw [(hrec _ _).1];simp)).trans (congrArg (fun x=>Result.ok x (W'.putObj l (.loop { rec .done (some c) with state:=.exhausted }))) (hrec _ _).2.1)
    ·rcases hc with ⟨rfl,hq⟩|⟨i,rfl,hq⟩
     ·exact wpIn_ret ⟨_,lv',hq,hsim⟩
     ·exact wpIn_exit ⟨_,lv',hq,hsim⟩
  ·obtain ⟨hN,xs,hx⟩:=hids id hid
   obtain ⟨b,n,g1,g2⟩:=hi.obj id _ hx
   cases b with
   | none=>simp [yfb] at g2
   | some b=>exact ⟨b,n,g1,by rw [hBp,xah,ydg.2 hid,g1]⟩
  ·obtain ⟨_,lv',hI,_,_⟩:=hK
   have hb:=hI.base
   refine ⟨by simpa using hb.size,fun g hg=>?_⟩
   have hne:g≠l:=by have:=hg.2.1;omega
   rw [← World.putObj_heap_other (w:=W') (o:=.loop (rec .ready none)) hne]
   exact hb.block g (Nat.lt_of_lt_of_le hg.2.1 hgrow.size) (hnlive g hg)
  ·refine ⟨fn,_,assign,body,?_,round_K hrec hl1' (fun h=>by have:=hltw l h;omega) (fun h=>by have:=h.2.1;omega) (fun g hg=>hnlive g hg) (by omega) hs.size (fun x hx=>by rw [yct,if_pos hx]) hbig hps hpn (fun x y hx=>(ht0 x y hx).2) hel' round hK hvs⟩
   have:=run_yield (P:=P) (args:=vs.toArray) hK.1 (by rw [hrecd];simp [hvs.1,hel'.1])
   rw [hrecd] at this
   exact this
theorem A_rangeF (hgv:evF s.t g=some (.fn gf caps)) (hit:zdj P gf caps els) (hpe:∀ el∈els,el.length=ps.length∧yap.pureL el=true) (hps:∀ p∈ps,p < N) (hpn:ps.Nodup) (t0:Nat→Option AV) (ht0:∀ x y,t0 x=some y→s.t x=some y∧(x < N∨1000000≤x))
  (hk:Nat→Nat→Option LObj) (h0:∀ id o,hk 0 id=some o→s.h id=some o) (round:∀ k el,els[k]?=some el→A P N assign (fun e s1=>e=.normal∧A P N body (zvf t0 hk k Q) s1) ⟨yvz t0 ps el,hk k⟩)
  (done:Q .normal ⟨t0,hk els.length⟩):A P N (.rangeFunc g ps.toArray assign body) Q s:=
 zlz [] hgv hit.1 hps hpn t0 ht0 (hk 0) (hk els.length) (fun id o h=>.inl (h0 id o h)) (fun id h=>by cases h) Q (fun e h hq=>⟨h,fun i o ho=>⟨ho,by simp⟩,hq⟩) (fun B Bx okx l rec vt lv lb W1 hL hK0=>hit.2 l okx W1 lb (fun k W=>yhe B Bx okx N l rec t0 vt (rec .ready none) (hk k) W)
  (fun W=>∃ (c:Code) (h:Nat→Option LObj),((c=.ret∧Q .ret ⟨t0,h⟩)∨∃ i,c=.exit i∧Q (.exit i) ⟨t0,h⟩)∧yhe B Bx okx N l rec t0 vt (rec .done (some c)) h W)
  hL.okLt ⟨hL.len,fun i x u hx hu=>(hL.caps i x u hx hu).relive fun id b n hb _=>by cases hb⟩ (fun k W' hK=>hL.keep _ _ _ hK) (fun k W2 W3 hK hb=>hK.grow hb) (fun W2 W3 ⟨c,h,hc,hK⟩ hb=>⟨c,h,hc,hK.grow hb⟩) (fun k el vs W2 hel hK hvs=>hL.yield hk k el vs W2 (hpe el (List.mem_of_getElem? hel)) (round k el hel) hK hvs) hK0) done
end
end
section
open Go.RowKit
def zar:List (Nat × AV)→List (Nat × AV)
 | []=>[]
 | (x,y)::t=>(x+1000000,y)::zar t
theorem ylx:∀ (t:List (Nat × AV)) (x:Nat),look (zar t) (x+1000000)=look t x
 | [],x=>rfl
 | (a,y)::t,x=>by
  simp only [zar,look]
  have e:Nat.beq (x+1000000) (a+1000000)=Nat.beq x a:=by
   cases h:Nat.beq x a with
   | true=>rw [Nat.eq_of_beq_eq_true h];simp
   | false=>
    refine yck fun e=>?_
    obtain rfl:x=a:=by omega
    simp at h
  rw [e]
  cases Nat.beq x a with
  | true=>rfl
  | false=>exact ylx t x
theorem yqj:∀ {t:List (Nat × AV)} {x:Nat} {y:AV},look (zar t) x=some y→1000000≤x
 | [],x,y,h=>by simp [zar,look] at h
 | (a,z)::t,x,y,h=>by
  simp only [zar,look] at h
  cases hb:Nat.beq x (a+1000000) with
  | true=>have:=Nat.eq_of_beq_eq_true hb;omega
  | false=>simp only [hb] at h;exact yqj h
theorem yyv:∀ {a b:List (Nat × AV)} {x:Nat},look (a++b) x=match look a x with|some y=>some y|none=>look b x
 | [],b,x=>rfl
 | (d,r)::a,b,x=>by
  simp only [List.cons_append,look]
  cases Nat.beq x d with
  | true=>rfl
  | false=>exact yyv
def zht (n:Nat):List Nat→Bool
 | []=>true
 | x::t=>Nat.blt x n && zht n t
theorem ypi {n:Nat}:∀ {t:List Nat},zht n t=true→∀ x∈t,x < n
 | [],_,x,h=>by cases h
 | a::t,hl,x,h=>by
  simp only [zht,Bool.and_eq_true,Nat.blt_eq] at hl
  rcases List.mem_cons.1 h with rfl|h
  ·exact hl.1
  ·exact ypi hl.2 x h
theorem yjt:∀ {l:List Nat},ycq l=true→l.Nodup
 | [],_=>List.nodup_nil
 | k::l,h=>by
  simp only [ycq] at h
  cases hm:yll k l with
  | true=>simp [hm] at h
  | false=>
   simp only [hm] at h
   exact List.nodup_cons.2 ⟨fun hin=>(by rw [ydg.2 hin] at hm;cases hm),yjt h⟩
def ztb:List (Nat × AV)→List (Nat × AV)
 | []=>[]
 | (x,y)::t=>match Nat.ble 1000000 x with
  | true=>ztb t
  | false=>(x,y)::ztb t
theorem ysp:∀ {t:List (Nat × AV)} {x:Nat},look (ztb t) x=match Nat.ble 1000000 x with|true=>none|false=>look t x
 | [],x=>by cases h:Nat.ble 1000000 x <;> rfl
 | (a,z)::t,x=>by
  have ih:=ysp (t:=t) (x:=x)
  simp only [ztb]
  cases ha:Nat.ble 1000000 a with
  | true=>
   simp only
   rw [ih]
   cases hx:Nat.ble 1000000 x with
   | true=>rfl
   | false=>
    simp only [look]
    rw [yck (fun e=>by subst e;rw [ha] at hx;cases hx)]
  | false=>
   simp only [look]
   cases hb:Nat.beq x a with
   | true=>rw [Nat.eq_of_beq_eq_true hb,ha]
   | false=>simp only;rw [ih]
def zhk (n:Nat):List (Nat × AV)→Bool
 | []=>true
 | (x,_)::t=>(Nat.blt x n || Nat.ble 1000000 x) && zhk n t
theorem yqy {n:Nat}:∀ {t:List (Nat × AV)},zhk n t=true→∀ x y,look t x=some y→x < n∨1000000≤x
 | [],_,x,y,h=>by simp [look] at h
 | (a,z)::t,hl,x,y,h=>by
  simp only [zhk,Bool.and_eq_true,Bool.or_eq_true,Nat.blt_eq,Nat.ble_eq] at hl
  simp only [look] at h
  cases hb:Nat.beq x a with
  | true=>rw [Nat.eq_of_beq_eq_true hb];exact hl.1
  | false=>simp only [hb] at h;exact yqy hl.2 x y h
def zot (ps:List Nat) (el:List AV) (t0:List (Nat × AV)):List (Nat × AV):=ps.zip el++(ztb t0++zar t0)
theorem yzu {ps:List Nat} {el:List AV} {t0:List (Nat × AV)} {x:Nat} {y:AV} (hps:zht 1000000 ps=true) (hx:look (zot ps el t0) x=some y):yvz (look t0) ps el x=some y:=by
 simp only [zot,yyv,ysp] at hx
 unfold yvz
 cases hb:Nat.ble 1000000 x with
 | true=>
  have hx1:1000000≤x:=by simpa using hb
  simp only
  cases hz:look (ps.zip el) x with
  | some y'=>
   obtain ⟨j,hj,_⟩:=zek hz
   have:=ypi hps x (List.mem_of_getElem? hj)
   omega
  | none=>
   simp only [hz,hb] at hx
   have:=ylx t0 (x - 1000000)
   rw [show x - 1000000+1000000=x by omega] at this
   rw [← this];exact hx
 | false=>
  simp only
  have hx1:=zvo hb
  cases hz:look (ps.zip el) x with
  | some y'=>simp only [hz] at hx;exact hx
  | none=>
   simp only [hz,hb] at hx
   simp only
   cases hz2:look t0 x with
   | some y'=>simp only [hz2] at hx;exact hx
   | none=>simp only [hz2] at hx;have:=yqj hx;omega
theorem zqy {P:Program} {N:Nat} {g:Operand} {ps:List Nat} {assign body:Code} {Q:Exit→SS→Prop} {t:List (Nat × AV)} {h:List (Nat × Option LObj)} {gf:Nat} {caps:List AV} {els:List (List AV)} (hgv:evF (look t) g=some (.fn gf caps)) (hit:zdj P gf caps els)
  (hpe:∀ el∈els,el.length=ps.length∧yap.pureL el=true) (hps:(zht N ps && (ycq ps && zht 1000000 ps))=true) (t0:List (Nat × AV)) (ht0:ywl t t0) (hlt:zhk N t0=true) (hk:Nat→List (Nat × Option LObj)) (h0:∀ id o,hlook (hk 0) id=some o→hlook h id=some o)
  (round:∀ k el,els[k]?=some el→A P N assign (fun e s1=>e=.normal∧A P N body (zvf (look t0) (fun k=>hlook (hk k)) k Q) s1) (S (zot ps el t0) (hk k))) (done:Q .normal (S t0 (hk els.length))):A P N (.rangeFunc g ps.toArray assign body) Q (S t h):=by
 simp only [Bool.and_eq_true] at hps
 refine A_rangeF hgv hit hpe (ypi hps.1) (yjt hps.2.1) (look t0) (fun x y hx=>⟨ybv ht0 x y hx,yqy hlt x y hx⟩) (fun k=>hlook (hk k)) h0 (fun k el hel=>?_) done
 exact ynm (round k el hel) ⟨fun x y hx=>yzu hps.2.2 hx,fun id o ho=>ho⟩
theorem zzg {t0 t1:List (Nat × AV)} {hk:Nat→List (Nat × Option LObj)} {h1:List (Nat × Option LObj)} {k:Nat} {Q:Exit→SS→Prop} (g1:ywl t1 (zar t0)) (g2:∀ id o,hlook (hk (k+1)) id=some o→hlook h1 id=some o):zvf (look t0) (fun k=>hlook (hk k)) k Q .normal (S t1 h1):=
 ⟨fun x y hx=>ybv g1 _ y (by rw [ylx];exact hx),g2⟩
section
variable {P:Program} {n:Nat} {ops:Array Oper} {Q:Exit→Act→World→Prop} {a:Act} {w:World}
theorem opI {i:Nat} {rest:List Nat} {o:Oper} (u:Value) (ho:ops[i]?=some o) (hg:o.guard=none) (hd:ymr o.op=false) (hr:(execOp a.eval o).run P w=.ok (.value u) w) (k:wpOpsIn Fence.wide n P ops Q rest (a.put o.dst u) w):wpOpsIn Fence.wide n P ops Q (i::rest) a w:=by
 have hw:Region.wanted o (yielded ops a.tmps)=true:=by simp [Region.wanted,hg]
 simp only [wpOpsIn,ho,hw,if_true]
 refine ymu (rd:=none) hd ?_
 unfold Oper.wp
 rw [hr]
 exact k
theorem yzm {i:Nat} {rest:List Nat} {o:Oper} {g:Operand} {args:Array Operand} {ats:Array TypeId} {l:Nat} {R:Ending→World→Prop} (ho:ops[i]?=some o) (hg:o.guard=none) (hop:o.op=.call { callee:=.value g,args:=args,argTypes:=ats }) (hv:a.eval g=.func (.yield l) #[] #[])
  (hy:YieldAt Fence.wide 0 P l (args.map a.eval) w R) (k:∀ e w',R e w'→∃ u,e=.returned u∧wpOpsIn Fence.wide n P ops Q rest (a.put o.dst u) w'):wpOpsIn Fence.wide n P ops Q (i::rest) a w:=by
 have hw:Region.wanted o (yielded ops a.tmps)=true:=by simp [Region.wanted,hg]
 simp only [wpOpsIn,ho,hw,if_true]
 obtain ⟨fn,tmps,assign,body,hrun,hround⟩:=hy
 refine ⟨fun _ _=>trivial,?_⟩
 have hrun2:(o.semAt (Fence.wide).round a.eval).run P w=.ok (.round l fn tmps assign body) w:=by
  show (execOp a.eval o).run P w=_
  unfold execOp
  simp only [hop,resolve,Deferred.ofValue,hv,Sem.run_bind,Sem.run_pure,Result.andThen_ok,invoke]
  simpa using hrun
 rw [hrun2]
 refine ⟨fun hc=>(by cases hc),?_⟩
 have hround':RoundIn Fence.wide (n - 1) P l fn tmps assign body w R:=⟨trivial,fun c cs _=>hround.2 c cs (room_wide _)⟩
 refine hround'.mono fun e w' hR=>?_
 obtain ⟨u,rfl,hk⟩:=k e w' hR
 exact hk
end
end
section
open Go.RowKit
theorem yaq {j d:Nat} {o:Option LObj} {h:List (Nat × Option LObj)} (hne:j≠d):hlook ((d,o)::h) j=hlook h j:=by
 simp only [hlook]
 rw [yck hne]
theorem ybb {d:Nat} {o:Option LObj} {h:List (Nat × Option LObj)}:hlook ((d,o)::h) d=o:=by
 simp [hlook]
theorem yfx {d:Nat} {a b:Option LObj} {h:List (Nat × Option LObj)}:hlook ((d,a)::(d,b)::h)=hlook ((d,a)::h):=by
 funext j
 by_cases hj:j=d
 ·subst hj;rw [ybb,ybb]
 ·rw [yaq hj,yaq hj,yaq hj]
def fam (M k:Nat):Nat:=(k+1) * 1000000+M
theorem ydw (M k:Nat):1000000≤fam M k:=by unfold fam;omega
theorem yqv {M i j:Nat} (h:fam M i=fam M j):i=j:=by unfold fam at h;omega
theorem ydr {d M k:Nat} (h:d < 1000000):d≠fam M k:=by have:=ydw M k;omega
def yne (M:Nat):Nat→List (List AV)→List (Nat × Option LObj)
 | _,[]=>[]
 | k,r::rs=>(fam M k,some (.vec r))::yne M (k+1) rs
def yev (M sz:Nat):Nat→List (List AV)→List AV
 | _,[]=>[]
 | k,r::rs=>.ls (fam M k) sz (r.length / sz)::yev M sz (k+1) rs
def yhc:List AV→LObj
 | []=>.vec []
 | x::xs=>.mcells (x::xs)
def yce (M sz:Nat) (rows:List (List AV)) (extra:List AV):List (Nat × Option LObj):=
 (M,some (yhc (yev M sz 0 rows++extra)))::yne M 0 rows
theorem ydf (M sz:Nat):∀ (k:Nat) (rows:List (List AV)),(yev M sz k rows).length=rows.length
 | _,[]=>rfl
 | k,r::rs=>by simp [yev,ydf M sz (k+1) rs]
theorem yeh (M sz:Nat):∀ (k i:Nat) (rows:List (List AV)),(yev M sz k rows)[i]?=(rows[i]?).map fun r=>.ls (fam M (k+i)) sz (r.length / sz)
 | _,_,[]=>by simp [yev]
 | k,0,r::rs=>by simp [yev]
 | k,i+1,r::rs=>by
  simp only [yev,List.getElem?_cons_succ,yeh M sz (k+1) i rs]
  rw [show k+1+i=k+(i+1) by omega]
theorem yle (M:Nat):∀ (k i:Nat) (rows:List (List AV)),hlook (yne M k rows) (fam M (k+i))=(rows[i]?).map LObj.vec
 | _,_,[]=>by simp [yne,hlook]
 | k,0,r::rs=>by simp [yne,hlook]
 | k,i+1,r::rs=>by
  simp only [yne,List.getElem?_cons_succ]
  rw [yaq (fun h=>by have:=yqv h;omega),show k+(i+1)=k+1+i by omega]
  exact yle M (k+1) i rs
theorem yjm (M:Nat) {j:Nat}:∀ (k:Nat) (rows:List (List AV)),(∀ i,k≤i→j≠fam M i)→hlook (yne M k rows) j=none
 | _,[],_=>rfl
 | k,r::rs,h=>by
  simp only [yne]
  rw [yaq (h k (Nat.le_refl k))]
  exact yjm M (k+1) rs fun i hi=>h i (by omega)
def zel:List (Nat × Option LObj)→Bool
 | []=>true
 | (k,_)::h=>match Nat.ble 1000000 k with
  | true=>false
  | false=>zel h
theorem ybe:∀ (f g:List (Nat × Option LObj)) {j:Nat},(∀ x∈f,x.1≠j)→hlook (f++g) j=hlook g j
 | [],g,j,_=>rfl
 | (k,o)::f,g,j,h=>by
  rw [List.cons_append,yaq (fun e=>h (k,o) (List.mem_cons_self) e.symm)]
  exact ybe f g fun x hx=>h x (List.mem_cons_of_mem _ hx)
theorem ycz:∀ (f g:List (Nat × Option LObj)) {j:Nat},hlook (f++g) j=hlook f j∨((∀ x∈f,x.1≠j)∧hlook (f++g) j=hlook g j)
 | [],g,j=>.inr ⟨by simp,rfl⟩
 | (k,o)::f,g,j=>by
  simp only [List.cons_append,hlook]
  cases hb:Nat.beq j k with
  | true=>exact .inl rfl
  | false=>
   rcases ycz f g (j:=j) with h|⟨h1,h2⟩
   ·exact .inl h
   ·refine .inr ⟨fun x hx=>?_,h2⟩
    rcases List.mem_cons.1 hx with rfl|hx
    ·intro e;simp only at e;subst e;simp at hb
    ·exact h1 x hx
theorem yfy:∀ {f:List (Nat × Option LObj)},zel f=true→∀ x∈f,x.1 < 1000000
 | [],_,x,hx=>by simp at hx
 | (k,o)::f,h,x,hx=>by
  simp only [zel] at h
  cases hb:Nat.ble 1000000 k with
  | true=>simp [hb] at h
  | false=>
   simp only [hb] at h
   rcases List.mem_cons.1 hx with rfl|hx
   ·exact zvo hb
   ·exact yfy h x hx
variable {f:List (Nat × Option LObj)} {M sz:Nat} {rows:List (List AV)} {extra:List AV}
theorem ylh (hf:zel f=true) (hM:M < 1000000) {i:Nat} {r:List AV} (hr:rows[i]?=some r):hlook (f++yce M sz rows extra) (fam M i)=some (.vec r):=by
 rw [ybe f _ fun x hx=>ydr (yfy hf x hx)]
 unfold yce
 rw [yaq (Ne.symm (ydr hM))]
 have:=yle M 0 i rows
 rw [Nat.zero_add] at this
 rw [this,hr]
 rfl
theorem yyp {j:Nat} (hj:j < 1000000) (o o':LObj) (rows rows':List (List AV)):j≠M→hlook (f++(M,some o)::yne M 0 rows) j=hlook (f++(M,some o')::yne M 0 rows') j:=fun hne=>by
 rcases ycz f ((M,some o)::yne M 0 rows) (j:=j) with h|⟨h1,h2⟩
 ·rcases ycz f ((M,some o')::yne M 0 rows') (j:=j) with h'|⟨h1',h2'⟩
  ·rw [h,h']
  ·rw [h,h2']
   rw [yaq hne,yjm M 0 _ fun i _=>ydr hj]
   rw [← List.append_nil f,ybe f [] h1']
   rfl
 ·rw [h2,ybe f _ h1]
  rw [yaq hne,yaq hne,yjm M 0 _ fun i _=>ydr hj,yjm M 0 _ fun i _=>ydr hj]
theorem zks {h:Nat→Option LObj} (hf:zel f=true) (hM:M < 1000000) (h1:∀ j,j < 1000000→h j=hlook (f++yce M sz rows extra) j) (h2:∀ i,h (fam M i)=(rows[i]?).map LObj.vec) (h3:∀ j,1000000≤j→(∀ i,j≠fam M i)→h j=none):h=hlook (f++yce M sz rows extra):=by
 funext j
 by_cases hj:j < 1000000
 ·exact h1 j hj
 ·by_cases he:∃ i,j=fam M i
  ·obtain ⟨i,rfl⟩:=he
   rw [h2,ybe f _ fun x hx=>ydr (yfy hf x hx)]
   unfold yce
   rw [yaq (Ne.symm (ydr hM))]
   have:=yle M 0 i rows
   rw [Nat.zero_add] at this
   exact this.symm
  ·have he':∀ i,j≠fam M i:=fun i e=>he ⟨i,e⟩
   rw [h3 j (by omega) he',ybe f _ fun x hx=>by have:=yfy hf x hx;omega]
   unfold yce
   rw [yaq (by omega),yjm M 0 _ fun i _=>he' i]
theorem zci (hf:zel f=true) (hM:M < 1000000) (i:Nat):hlook (f++yce M sz rows extra) (fam M i)=(rows[i]?).map LObj.vec:=by
 rw [ybe f _ fun x hx=>ydr (yfy hf x hx)]
 unfold yce
 rw [yaq (Ne.symm (ydr hM))]
 have:=yle M 0 i rows
 rwa [Nat.zero_add] at this
theorem ztd (hf:zel f=true) (hM:M < 1000000) {j:Nat} (hj:1000000≤j) (he:∀ i,j≠fam M i):hlook (f++yce M sz rows extra) j=none:=by
 rw [ybe f _ fun x hx=>by have:=yfy hf x hx;omega]
 unfold yce
 rw [yaq (by omega),yjm M 0 _ fun i _=>he i]
theorem matC_set (M sz k i:Nat) (rows:List (List AV)) (r:List AV) (hl:∀ r',rows[i]?=some r'→r.length=r'.length):yev M sz k (rows.set i r)=yev M sz k rows:=by
 apply List.ext_getElem?
 intro j
 rw [yeh,yeh,List.getElem?_set]
 by_cases h:i=j
 ·subst h
  by_cases hi:i < rows.length
  ·have:=hl _ (List.getElem?_eq_getElem hi)
   simp [hi,this]
  ·simp [hi]
 ·simp [h]
theorem zku (hf:zel f=true) (hM:M < 1000000) {i:Nat} {r r':List AV} (hr:rows[i]?=some r') (hl:r.length=r'.length):hlook ((fam M i,some (.vec r))::(f++yce M sz rows extra))=hlook (f++yce M sz (rows.set i r) extra):=by
 have hi:i < rows.length:=(List.getElem?_eq_some_iff.1 hr).1
 refine zks hf hM (fun j hj=>?_) (fun k=>?_) (fun j hj he=>?_)
 ·rw [yaq (ydr hj)]
  unfold yce
  rw [matC_set _ _ _ _ _ _ fun r'' h''=>by rw [hr] at h'';cases h'';exact hl]
  by_cases hjM:j=M
  ·subst hjM
   rcases ycz f ((j,some (yhc (yev j sz 0 rows++extra)))::yne j 0 rows) (j:=j) with h|⟨h1,h2⟩
   ·rcases ycz f ((j,some (yhc (yev j sz 0 rows++extra)))::yne j 0 (rows.set i r)) (j:=j) with h'|⟨h1',h2'⟩
    ·rw [h,h']
    ·rw [ybe f _ h1',ybe f _ h1']
     rw [ybb,ybb]
   ·rw [ybe f _ h1,ybe f _ h1]
    rw [ybb,ybb]
  ·exact yyp hj _ _ _ _ hjM
 ·by_cases hk:k=i
  ·subst hk
   rw [ybb]
   simp [hi]
  ·rw [yaq (fun e=>hk (yqv e)),zci hf hM,List.getElem?_set,if_neg (fun e=>hk e.symm)]
 ·rw [yaq (he i),ztd hf hM hj he]
theorem mat_add (hf:zel f=true) (hM:M < 1000000) {n:Nat} {r:List AV} {ex ex':List AV} (hn:n=rows.length) (he:.ls (fam M n) sz (r.length / sz)::ex'=ex):hlook ((fam M n,some (.vec r))::(f++(M,some (yhc (yev M sz 0 rows++ex)))::yne M 0 rows))=hlook (f++yce M sz (rows++[r]) ex'):=by
 subst hn he
 have hc:yev M sz 0 (rows++[r])++ex'=yev M sz 0 rows++.ls (fam M rows.length) sz (r.length / sz)::ex':=by
  have:∀ (rows:List (List AV)) (k:Nat),yev M sz k (rows++[r])=yev M sz k rows++[.ls (fam M (k+rows.length)) sz (r.length / sz)]:=by
   intro rows
   induction rows with
   | nil=>intro k;simp [yev]
   | cons a rs ih=>
    intro k
    simp only [List.cons_append,yev,ih (k+1),List.length_cons]
    rw [show k+1+rs.length=k+(rs.length+1) by omega]
  rw [this]
  simp
 refine zks hf hM (fun j hj=>?_) (fun k=>?_) (fun j hj he=>?_)
 ·rw [yaq (ydr hj)]
  unfold yce
  rw [hc]
  by_cases hjM:j=M
  ·subst hjM
   rcases ycz f ((j,some (yhc (yev j sz 0 rows++.ls (fam j rows.length) sz (r.length / sz)::ex')))::yne j 0 rows) (j:=j) with h|⟨h1,h2⟩
   ·rcases ycz f ((j,some (yhc (yev j sz 0 rows++.ls (fam j rows.length) sz (r.length / sz)::ex')))::yne j 0 (rows++[r])) (j:=j) with h'|⟨h1',h2'⟩
    ·rw [h,h']
    ·rw [ybe f _ h1',ybe f _ h1']
     rw [ybb,ybb]
   ·rw [ybe f _ h1,ybe f _ h1]
    rw [ybb,ybb]
  ·exact yyp hj _ _ _ _ hjM
 ·by_cases hk:k=rows.length
  ·subst hk
   rw [ybb]
   simp
  ·rw [yaq (fun e=>hk (yqv e))]
   have:=zci (sz:=sz) (rows:=rows) (extra:=.ls (fam M rows.length) sz (r.length / sz)::ex') hf hM k
   unfold yce at this
   rw [this,List.getElem?_append]
   by_cases h1:k < rows.length
   ·simp [h1]
   ·rw [if_neg h1,List.getElem?_eq_none (by omega),List.getElem?_eq_none (by simp;omega)]
 ·rw [yaq (he _)]
  exact ztd (extra:=.ls (fam M rows.length) sz (r.length / sz)::ex') hf hM hj he
theorem zhv {M sz:Nat} {r:List AV}:∀ (k:Nat) (rows:List (List AV)),yev M sz k (rows++[r])=yev M sz k rows++[.ls (fam M (k+rows.length)) sz (r.length / sz)]
 | k,[]=>by simp [yev]
 | k,a::rs=>by
  simp only [List.cons_append,yev,zhv (k+1) rs,List.length_cons]
  rw [show k+1+rs.length=k+(rs.length+1) by omega]
theorem yjp {f:List (Nat × Option LObj)} {M:Nat} (hk:(f.all fun x=>!Nat.beq x.1 M)=true):∀ x∈f,x.1≠M:=fun x hx e=>by
 have:=List.all_eq_true.1 hk x hx
 simp [e] at this
theorem zkt (hf:zel f=true) (hM:Nat.blt M 1000000=true) (hk:(f.all fun x=>!Nat.beq x.1 M)=true) {i k:Nat} {r:List AV} {a:AV} {ex:List AV} {rows':List (List AV)} (hi:i=rows.length) (hr:r.length / sz=k) (he:extra=a::ex) (hrows:rows'=rows++[r]) :
  hlook ((M,some (yhc ((yev M sz 0 rows++extra).set i (.ls (fam M i) sz k))))::(fam M i,some (.vec r))::(f++yce M sz rows extra))=hlook (f++yce M sz rows' ex):=by
 subst hi hr he hrows
 have hM':M < 1000000:=by simpa using hM
 have hset:(yev M sz 0 rows++a::ex).set rows.length (.ls (fam M rows.length) sz (r.length / sz))=yev M sz 0 (rows++[r])++ex:=by
  rw [zhv,List.append_assoc,List.set_append_right _ _ (Nat.le_of_eq (ydf _ _ _ _)),ydf,Nat.sub_self,Nat.zero_add]
  rfl
 rw [hset]
 refine zks hf hM' (fun j hj=>?_) (fun k=>?_) (fun j hj he=>?_)
 ·by_cases hjM:j=M
  ·subst hjM
   rw [ybb,ybe f _ (yjp hk)]
   exact ybb.symm
  ·rw [yaq hjM,yaq (ydr hj)]
   exact yyp hj _ _ _ _ hjM
 ·rw [yaq (Ne.symm (ydr hM'))]
  by_cases hk:k=rows.length
  ·subst hk
   rw [ybb]
   simp
  ·rw [yaq (fun e=>hk (yqv e)),zci hf hM',List.getElem?_append]
   by_cases h1:k < rows.length
   ·simp [h1]
   ·rw [if_neg h1,List.getElem?_eq_none (by omega),List.getElem?_eq_none (by simp;omega)]
 ·rw [yaq (by omega),yaq (he _),ztd hf hM' hj he]
theorem ybt (hk:(f.all fun x=>!Nat.beq x.1 M)=true):hlook (f++yce M sz rows extra) M=some (yhc (yev M sz 0 rows++extra)):=by
 rw [ybe f _ (yjp hk)]
 exact ybb
def ymt:AV→Bool
 | .lp id _=>Nat.blt id 1000000
 | .ls id _ _=>Nat.blt id 1000000
 | .mp id=>Nat.blt id 1000000
 | .agg cs=>lowL cs
 | .tup cs=>lowL cs
 | .fn _ cs=>lowL cs
 | .fm _ cs=>lowL cs
 | _=>true
 where lowL:List AV→Bool
 | []=>true
 | c::cs=>ymt c && lowL cs
theorem zkd {id j:Nat} (h:Nat.blt id 1000000=true) (hj:1000000≤j):Nat.beq id j=false:=yck (by have h2:id < 1000000:=(by simpa using h);omega)
theorem ymt.ment {j:Nat} (hj:1000000≤j):∀ {x:AV},ymt x=true→ment j x=false
 | .v _,_=>rfl
 | .any,_=>rfl
 | .one,_=>rfl
 | .sl _ _,_=>rfl
 | .dp _ _,_=>rfl
 | .mv _,_=>rfl
 | .lp id _,h=>zkd h hj
 | .ls id _ _,h=>zkd h hj
 | .mp id,h=>zkd h hj
 | .agg cs,h=>rowsM (cs:=cs) h
 | .tup cs,h=>rowsM (cs:=cs) h
 | .fn _ cs,h=>rowsM (cs:=cs) h
 | .fm _ cs,h=>rowsM (cs:=cs) h
 where rowsM:∀ {cs:List AV},ymt.lowL cs=true→ment.mentL j cs=false
 | [],_=>rfl
 | c::cs,h=>by
  simp only [ymt.lowL,Bool.and_eq_true] at h
  simp only [ment.mentL,Bool.or_eq_false_iff]
  exact ⟨ymt.ment hj h.1,rowsM h.2⟩
def zvn:List (Nat × AV)→Bool
 | []=>true
 | (_,x)::t=>match ymt x with
  | true=>zvn t
  | false=>false
theorem ysr:∀ {t:List (Nat × AV)},zvn t=true→∀ x y,look t x=some y→ymt y=true
 | [],_,x,y,h=>by simp [look] at h
 | (d,r)::t,hl,x,y,h=>by
  simp only [zvn] at hl
  cases hr:ymt r with
  | false=>simp [hr] at hl
  | true=>
   simp only [hr] at hl
   simp only [look] at h
   cases hb:Nat.beq x d with
   | true=>simp only [hb,Option.some.injEq] at h;subst h;exact hr
   | false=>simp only [hb] at h;exact ysr hl x y h
def zqu:LObj→Bool
 | .cells xs=>ymt.lowL xs
 | .tcells _ xs=>ymt.lowL xs
 | .mcells xs=>ymt.lowL xs
 | _=>true
theorem zqu.ment {j:Nat} (hj:1000000≤j) {o:LObj} (h:zqu o=true):yez j o=false:=by
 cases o <;> first|rfl|exact ymt.ment.rowsM hj h
def zjr:List (Nat × Option LObj)→Bool
 | []=>true
 | (k,o)::h=>match Nat.ble 1000000 k with
  | true=>false
  | false=>match o with
   | none=>zjr h
   | some o=>match zqu o with
    | true=>zjr h
    | false=>false
theorem ypg:∀ {h:List (Nat × Option LObj)},zjr h=true→zel h=true
 | [],_=>rfl
 | (k,o)::h,hl=>by
  simp only [zjr] at hl
  simp only [zel]
  cases hb:Nat.ble 1000000 k with
  | true=>simp [hb] at hl
  | false=>
   simp only [hb] at hl ⊢
   cases o with
   | none=>exact ypg hl
   | some o=>
    cases ho:zqu o with
    | false=>simp [ho] at hl
    | true=>simp only [ho] at hl;exact ypg hl
theorem yjq:∀ {h:List (Nat × Option LObj)},zjr h=true→∀ j ob,hlook h j=some ob→zqu ob=true∧j < 1000000
 | [],_,j,ob,h=>by simp [hlook] at h
 | (k,o)::h,hl,j,ob,hj=>by
  simp only [zjr] at hl
  cases hb:Nat.ble 1000000 k with
  | true=>simp [hb] at hl
  | false=>
   simp only [hb] at hl
   simp only [hlook] at hj
   cases hk:Nat.beq j k with
   | true=>
    simp only [hk] at hj
    subst hj
    cases ho:zqu ob with
    | false=>simp [ho] at hl
    | true=>exact ⟨rfl,by rw [Nat.eq_of_beq_eq_true hk];exact zvo hb⟩
   | false=>
    simp only [hk] at hj
    cases o with
    | none=>exact yjq hl j ob hj
    | some o=>
     cases ho:zqu o with
     | false=>simp [ho] at hl
     | true=>simp only [ho] at hl;exact yjq hl j ob hj
theorem zen (x:AV) (hx:ymt x=true):∀ n,ymt.lowL (List.replicate n x)=true
 | 0=>rfl
 | n+1=>by simp [List.replicate_succ,ymt.lowL,hx,zen x hx n]
theorem zer (d:Nat) (x:AV) (hx:ment d x=false):∀ n,ment.mentL d (List.replicate n x)=false
 | 0=>rfl
 | n+1=>by simp [List.replicate_succ,ment.mentL,hx,zer d x hx n]
theorem yiz (d:Nat) (xs:List AV):yez d (yhc xs)=ment.mentL d xs:=by cases xs <;> rfl
theorem zhx {d M sz:Nat}:∀ (k:Nat) (rows:List (List AV)),(∀ i,k≤i→i < k+rows.length→d≠fam M i)→ment.mentL d (yev M sz k rows)=false
 | _,[],_=>rfl
 | k,r::rs,h=>by
  simp only [yev,ment.mentL,Bool.or_eq_false_iff]
  refine ⟨yck (Ne.symm (h k (Nat.le_refl k) (by simp))),zhx (k+1) rs fun i h1 h2=>h i (by omega) (by simp;omega)⟩
theorem yzb {d:Nat}:∀ {a b:List AV},ment.mentL d (a++b)=(ment.mentL d a || ment.mentL d b)
 | [],b=>rfl
 | x::a,b=>by simp only [List.cons_append,ment.mentL,yzb,Bool.or_assoc]
theorem ypc {d:Nat}:∀ {a b:List (Nat × Option LObj)},ybr d a=true→ybr d b=true→ybr d (a++b)=true
 | [],b,_,h=>h
 | (i,o)::a,b,h1,h2=>by
  simp only [ybr,List.cons_append] at h1 ⊢
  cases hb:Nat.beq d i with
  | true=>simp [hb] at h1
  | false=>
   simp only [hb] at h1 ⊢
   cases o with
   | none=>exact ypc h1 h2
   | some o=>
    cases ho:yez d o with
    | true=>simp [ho] at h1
    | false=>simp only [ho] at h1 ⊢;exact ypc h1 h2
theorem yym {d M:Nat}:∀ (k:Nat) (rows:List (List AV)),(∀ i,k≤i→i < k+rows.length→d≠fam M i)→ybr d (yne M k rows)=true
 | _,[],_=>rfl
 | k,r::rs,h=>by
  simp only [yne,ybr,yez]
  rw [yck (h k (Nat.le_refl k) (by simp))]
  exact yym (k+1) rs fun i h1 h2=>h i (by omega) (by simp;omega)
theorem yyn {d:Nat} (hd:d≠M) (hr:∀ i,i < rows.length→d≠fam M i) (he:ment.mentL d extra=false):ybr d (yce M sz rows extra)=true:=by
 unfold yce
 simp only [ybr,yiz,yzb,he,Bool.or_false]
 rw [yck hd,zhx 0 rows fun i _ hi=>hr i (by omega)]
 exact yym 0 rows fun i _ hi=>hr i (by omega)
theorem yse {d:Nat} (h1:ybr d f=true) (h2:Nat.beq d M=false) (h3:Nat.blt d 1000000=true) (he:ment.mentL d extra=false):ybr d (f++yce M sz rows extra)=true:=
 ypc h1 (yyn (by rintro rfl;simp at h2) (fun i _=>ydr (by simpa using h3)) he)
theorem yun {j:Nat} (hj:1000000≤j):∀ {h:List (Nat × Option LObj)},zjr h=true→ybr j h=true
 | [],_=>rfl
 | (k,o)::h,hl=>by
  simp only [zjr] at hl
  simp only [ybr]
  cases hb:Nat.ble 1000000 k with
  | true=>simp [hb] at hl
  | false=>
   simp only [hb] at hl
   rw [yck (by have:=zvo hb;omega)]
   cases o with
   | none=>exact yun hj hl
   | some o=>
    cases ho:zqu o with
    | false=>simp [ho] at hl
    | true=>
     simp only [ho] at hl
     simp only [zqu.ment hj ho]
     exact yun hj hl
theorem yyo {t:List (Nat × AV)} {n:Nat} (ht:zvn t=true) (hf:zjr f=true) (hM:Nat.blt M 1000000=true) (hn:n=rows.length) (he:ymt.lowL extra=true):ymi (S t (f++yce M sz rows extra)) (fam M n):=by
 have hM':M < 1000000:=by simpa using hM
 have hb:=ydw M n
 have h2:ybr (fam M n) (f++yce M sz rows extra)=true:=ypc (yun hb hf) (yyn (Ne.symm (ydr hM')) (fun i hi e=>by have:=yqv e;omega) (ymt.ment.rowsM hb he))
 exact ⟨(yef h2).1,fun x y h=>(ysr ht x y h |> ymt.ment hb),(yef h2).2⟩
section
variable {P:Program} {T:Nat→Option Ty} {N:Nat} {ops:Array Oper} {lf:Oper→Bool} {Q:SS→Prop} {t:List (Nat × AV)} {h:List (Nat × Option LObj)} {rest:List Oper} {d:Nat} {op:Op} {ty:TypeId} {pos:String} {af:Array Edge} {gd:Option (Nat × Bool)} {r:AV}
theorem zuz {l:List Oper} {t:List (Nat × AV)} {h h':List (Nat × Option LObj)} (he:hlook h=hlook h') (k:Lex P N ops lf Q l (S t h')):Lex P N ops lf Q l (S t h):=by
 have:S t h=S t h':=by unfold S;rw [he]
 rw [this]
 exact k
theorem zre (hT:TOK P T) {ti e es eb sz:Nat} {ea ag:Bool} {ez z:List Value} {x y:Operand} {m:Nat} (id:Nat) (hk:T ti=some ⟨.slc e es ea eb ez,sz,ag,z⟩) (hone:ez.all Value.oneCell'=true) (hx:evF (look t) x=some (.v (.int .i64 m))) (hy:evF (look t) y=some (.v (.int .i64 m))) (hm:m≤4294967296∧eb * m≤281474976710656)
  (hf:ymi (S t h) id) (hl:lf ⟨some d,.makeSlice ti x y,ty,pos,af,gd⟩=true) (hw:yah ops (look t) ⟨some d,.makeSlice ti x y,ty,pos,af,gd⟩=some true) (hd:Nat.blt d N=true)
  (k:Lex P N ops lf Q rest (S ((d,.ls id es m)::t) ((id,some (.vec (yke m (ygr ez))))::h))):Lex P N ops lf Q (⟨some d,.makeSlice ti x y,ty,pos,af,gd⟩::rest) (S t h):=
 ydi hl hw (by rw [← yqt];exact yss hT rfl rfl (by simpa using hd) id hk hone hx hy hm hf) k
theorem L_appendNilI (hT:TOK P T) {ti e es eb sz:Nat} {ea ag:Bool} {ez z:List Value} {x y:Operand} {rows:List (List AV)} (id:Nat) (hk:T ti=some ⟨.slc e es ea eb ez,sz,ag,z⟩) (hx:evF (look t) x=some (.v (.slice none 0 0))) (hy:evF (look t) y=some (.sl es rows))
  (hcp:∀ c∈rows.flatten,yap c=true) (hlim:rows.length≤4294967296∧rows.length * eb≤140737488355328) (hf:ymi (S t h) id) (hl:lf ⟨some d,.call { callee:=.builtin .append,args:=#[x,y],argTypes:=#[ti,ti] },ty,pos,af,gd⟩=true)
  (hw:yah ops (look t) ⟨some d,.call { callee:=.builtin .append,args:=#[x,y],argTypes:=#[ti,ti] },ty,pos,af,gd⟩=some true) (hd:Nat.blt d N=true) (k:Lex P N ops lf Q rest (S ((d,.ls id es rows.length)::t) ((id,some (.vec rows.flatten))::h))) :
  Lex P N ops lf Q (⟨some d,.call { callee:=.builtin .append,args:=#[x,y],argTypes:=#[ti,ti] },ty,pos,af,gd⟩::rest) (S t h):=by
 refine ydi hl hw ?_ k
 rw [← yqt]
 exact ylc hT id rfl rfl (by simpa using hd) hk hx hf hy (fun ok w lv u hr=>yzz hr) hcp hlim
theorem yfd (xs:List AV):ycl (some (yhc xs))=some xs:=by cases xs <;> rfl
theorem yhy {xs:List AV} (h:xs≠[]):yhc xs=.mcells xs:=by cases xs <;> simp_all [yhc]
theorem yki (hT:TOK P T) {ti:Nat} {y:Ty} {x v:Operand} {id off:Nat} {xs:List AV} {u:AV} (hy:T ti=some y) (hx:evF (look t) x=some (.lp id off)) (hv:evF (look t) v=some u) (hcs:ydk u=some [u]) (hcl:Nat.beq 1 y.size=true) (hh:hlook h id=some (yhc xs)) (hlt:off < xs.length)
  (hl:lf ⟨none,.store ti x v,ty,pos,af,gd⟩=true) (hw:yah ops (look t) ⟨none,.store ti x v,ty,pos,af,gd⟩=some true) (k:Lex P N ops lf Q rest (S t ((id,some (yhc (xs.set off u)))::h))):Lex P N ops lf Q (⟨none,.store ti x v,ty,pos,af,gd⟩::rest) (S t h):=by
 have hne:xs≠[]:=by intro h0;simp [h0] at hlt
 have he:xs.set off u=xs.take off++[u]++xs.drop (off+[u].length):=by
  rw [List.set_eq_take_append_cons_drop,if_pos hlt];simp
 rw [yhy hne] at hh
 rw [yhy (by intro h0;have:=congrArg List.length h0;simp at this;exact hne this)] at k
 refine ydi hl hw (by rw [← S_h,he];exact yhr rfl rfl (hT _ _ hy).1 hx hv hcs (by simpa using hcl) hh (.mcells (by simp;omega) hne)) k
theorem yhu (hT:TOK P T) {ti:Nat} {y:Ty} {x v:Operand} {id off:Nat} {xs:List AV} {u:AV} {h':List (Nat × Option LObj)} (hy:T ti=some y) (hx:evF (look t) x=some (.lp id off)) (hv:evF (look t) v=some u) (hcs:ydk u=some [u]) (hcl:Nat.beq 1 y.size=true) (hh:hlook h id=some (.vec xs)) (hlt:off < xs.length) (hp:yap u=true)
  (he:hlook ((id,some (.vec (xs.set off u)))::h)=hlook h') (hl:lf ⟨none,.store ti x v,ty,pos,af,gd⟩=true) (hw:yah ops (look t) ⟨none,.store ti x v,ty,pos,af,gd⟩=some true) (k:Lex P N ops lf Q rest (S t h')):Lex P N ops lf Q (⟨none,.store ti x v,ty,pos,af,gd⟩::rest) (S t h):=
 yop hT hy hx hv hcs hcl hh hlt hp hl hw (zuz he k)
theorem ynl {c:Code} {Q:Exit→SS→Prop} (id:Nat) {xs:List AV} (ys:List AV) (hx:hlook h id=some (.vec xs)) (he:xs=ys) (k:A P N c Q (S t ((id,some (yhc ys))::h))):A P N c Q (S t h):=by
 subst he
 intro B ok0 lv a w hs
 refine k B ok0 lv a w ⟨⟨hs.inv.base,hs.inv.ok0lt,fun j hj=>?_,hs.inv.inj,fun j x hj=>?_⟩,hs.size,hs.frame,hs.defers,hs.big,fun j b ws hN hj hc hb=>?_⟩
 ·refine hs.inv.dom j ?_
  simp only [S,hlook] at hj ⊢
  split at hj
  ·cases hj
  ·exact hj
 ·simp only [S,hlook] at hj
  split at hj
  ·rename_i hb
   cases hj
   have e:=Nat.eq_of_beq_eq_true hb
   subst e
   obtain ⟨b,n,h1,h2⟩:=hs.inv.obj j _ hx
   refine ⟨b,n,h1,?_⟩
   cases xs with
   | nil=>exact h2
   | cons x xs=>
    cases b with
    | none=>simp [yfb] at h2
    | some b=>exact ⟨h2.1,h2.2.1,h2.2.2.1⟩
  ·exact hs.inv.obj j x hj
 ·simp only [S,hlook] at hj
  split at hj
  ·cases hj
   cases xs <;> cases hc
  ·exact hs.pin j b ws hN hj hc hb
end
theorem yly {id:Nat} {o:LObj} (h:hlook (yce M sz rows extra) id=some o):id=M∨∃ i,i < rows.length∧id=fam M i:=by
 by_cases hM:id=M
 ·exact .inl hM
 ·unfold yce at h
  rw [yaq hM] at h
  by_cases he:∃ i,id=fam M i
  ·obtain ⟨i,rfl⟩:=he
   have h2:=yle M 0 i rows
   rw [Nat.zero_add] at h2
   rw [h2] at h
   refine .inr ⟨i,?_,rfl⟩
   cases hr:rows[i]? with
   | none=>simp [hr] at h
   | some r=>exact (List.getElem?_eq_some_iff.1 hr).1
  ·rw [yjm M 0 rows fun i _ e=>he ⟨i,e⟩] at h
   cases h
theorem yep:hlook (yce M sz rows extra) M=some (yhc (yev M sz 0 rows++extra)):=ybb
theorem yjs (hM:M < 1000000) (i:Nat):hlook (yce M sz rows extra) (fam M i)=(rows[i]?).map LObj.vec:=by
 have:=zci (f:=[]) (sz:=sz) (rows:=rows) (extra:=extra) rfl hM i
 simpa using this
theorem ztl (hM:M < 1000000) {id:Nat} {o:LObj} (h:hlook (yce M sz rows extra) id=some o):isC o=false:=by
 rcases yly h with rfl|⟨i,_,rfl⟩
 ·rw [yep] at h
  cases h
  cases yev id sz 0 rows++extra <;> rfl
 ·rw [yjs hM] at h
  cases hr:rows[i]? with
  | none=>simp [hr] at h
  | some r=>simp only [hr,Option.map_some,Option.some.injEq] at h;subst h;rfl
theorem yyy (hf:zel f=true) (hM:M < 1000000) (hk:(f.all fun x=>!Nat.beq x.1 M)=true):∀ id o,hlook (yce M sz rows extra) id=some o→hlook (f++yce M sz rows extra) id=some o:=fun id o h=>by
 rw [ybe f _ fun x hx=>?_]
 ·exact h
 ·rcases yly h with rfl|⟨i,_,rfl⟩
  ·have:=List.all_eq_true.1 hk x hx
   intro e
   simp [e] at this
  ·exact ydr (yfy hf x hx)
theorem zkg {P : Program} {T : Nat → Option Ty} (hT : TOK P T) {fid : FuncId} {fn : Func} {c : Code} {N : Nat} {rs : List ResultVar} {args : List AV} {r : AV} {M sz : Nat} {rows : List (List AV)} (hf : P.funcs[fid]? = some fn) (hn : (fn.name == "runtime.NumGoroutine") = false) (hb : fn.body = some c) (hN : fn.ntmps = N) (hrs : fn.results = rs.toArray) (hlen : (Nat.ble args.length N && Nat.ble N 1000000) = true) (hM : Nat.blt M 1000000 = true)
  (h:A P N c (zps T rs r (hlook (yce M sz rows []))) (S (yel 0 args) [])):ypt P fid args (fun _=>none) r (hlook (yce M sz rows [])):=
 yud hT hf hn hb hN hrs hlen (fun id o ho hc=>by rw [ztl (by simpa using hM) ho] at hc;cases hc) h
theorem ziu {σ:Nat→Nat}:∀ {x:AV},yap x=true→yec σ x=x
 | .v _,_=>rfl
 | .any,_=>rfl
 | .one,_=>rfl
 | .sl _ _,_=>rfl
 | .dp _ _,_=>rfl
 | .mv _,_=>rfl
 | .agg cs,h=>by simp only [yec,rows (cs:=cs) h]
 | .tup cs,h=>by simp only [yec,rows (cs:=cs) h]
 | .fn _ cs,h=>by simp only [yec,rows (cs:=cs) h]
 | .fm _ cs,h=>by simp only [yec,rows (cs:=cs) h]
 where rows:∀ {cs:List AV},yap.pureL cs=true→yec.renL σ cs=cs
 | [],_=>rfl
 | c::cs,h=>by
  simp only [yap.pureL,Bool.and_eq_true] at h
  simp only [yec.renL,ziu h.1,rows h.2]
def zqs (d j:Nat):Nat:=match Nat.ble 1000000 j with
 | false=>d
 | true=>d+(j / 1000000) * 1000000
theorem ysa {d j:Nat} (h:j < 1000000):zqs d j=d:=by
 unfold zqs
 cases hb:Nat.ble 1000000 j with
 | false=>rfl
 | true=>have:=Nat.le_of_ble_eq_true hb;omega
theorem famS_high {d j:Nat} (h:1000000≤j):zqs d j=d+(j / 1000000) * 1000000:=by
 unfold zqs
 cases hb:Nat.ble 1000000 j with
 | false=>have:=zvo hb;omega
 | true=>rfl
theorem fam_div {M k:Nat} (hM:M < 1000000):fam M k / 1000000=k+1:=by unfold fam;omega
theorem ykn {d M k:Nat} (hM:M < 1000000):zqs d (fam M k)=fam d k:=by
 rw [famS_high (ydw M k),fam_div hM]
 unfold fam
 omega
theorem ziv {d M sz:Nat} (hM:M < 1000000):∀ (k:Nat) (rows:List (List AV)),yec.renL (zqs d) (yev M sz k rows)=yev d sz k rows
 | _,[]=>rfl
 | k,r::rs=>by simp only [yev,yec.renL,yec,ykn hM,ziv hM (k+1) rs]
theorem yus {ids:List Nat} {M sz:Nat}:∀ (k:Nat) (rows:List (List AV)),(∀ i,i < k+rows.length→fam M i∈ids)→ydm.onlyL ids (yev M sz k rows)=true
 | _,[],_=>rfl
 | k,r::rs,h=>by
  simp only [yev,ydm.onlyL,ydm,Bool.and_eq_true]
  exact ⟨List.contains_iff_mem.2 (h k (by simp)),yus (k+1) rs fun i hi=>h i (by simp;omega)⟩
theorem zbw {d:Nat}:∀ {h:List (Nat × Option LObj)},ybr d h=true→∀ x∈h,x.1≠d
 | [],_,x,hx=>by simp at hx
 | (k,o)::h,hh,x,hx=>by
  simp only [ybr] at hh
  cases hb:Nat.beq d k with
  | true=>simp [hb] at hh
  | false=>
   simp only [hb] at hh
   rcases List.mem_cons.1 hx with rfl|hx
   ·intro e
    simp only at e
    subst e
    simp at hb
   ·refine zbw ?_ x hx
    cases o with
    | none=>exact hh
    | some o=>
     cases ho:yez d o with
     | true=>simp [ho] at hh
     | false=>simpa [ho] using hh
section
variable {P:Program} {T:Nat→Option Ty} {N:Nat} {ops:Array Oper} {lf:Oper→Bool} {Q:SS→Prop} {t:List (Nat × AV)} {h:List (Nat × Option LObj)} {rest:List Oper} {d:Nat} {op:Op} {ty:TypeId} {pos:String} {af:Array Edge} {gd:Option (Nat × Bool)} {r:AV}
theorem zjw {g:Operand} {args:List Operand} {ats:Array TypeId} {fid:FuncId} {caps xs:List AV} {M0 sz:Nat} {rows:List (List AV)} (hc:ypt P fid (xs++caps) (fun _=>none) r (hlook (yce M0 sz rows []))) (hM:Nat.blt M0 1000000=true) (hg:evF (look t) g=some (.fn fid caps)) (hx:evL (evF (look t)) args=some xs) (hp:yap.pureL (xs++caps)=true)
  (hr:ydm (M0::(List.range rows.length).map (fam M0)) r=true) (h1:ydd d t=true) (h2:zvn t=true) (h3:ybr d h=true) (h4:zjr h=true) (h5:Nat.blt d 1000000=true) (hl:lf ⟨some d,.call { callee:=.value g,args:=args.toArray,argTypes:=ats },ty,pos,af,gd⟩=true)
  (hw:yah ops (look t) ⟨some d,.call { callee:=.value g,args:=args.toArray,argTypes:=ats },ty,pos,af,gd⟩=some true) (hd:Nat.blt d N=true) (k:Lex P N ops lf Q rest (S ((d,yec (zqs d) r)::t) (h++yce d sz rows []))) :
  Lex P N ops lf Q (⟨some d,.call { callee:=.value g,args:=args.toArray,argTypes:=ats },ty,pos,af,gd⟩::rest) (S t h):=by
 have hM':M0 < 1000000:=by simpa using hM
 have hd':d < 1000000:=by simpa using h5
 have hids:∀ i∈M0::(List.range rows.length).map (fam M0),i=M0∨∃ j,j < rows.length∧i=fam M0 j:=fun i hi=>by
  rcases List.mem_cons.1 hi with rfl|hi
  ·exact .inl rfl
  ·obtain ⟨j,hj,rfl⟩:=List.mem_map.1 hi
   exact .inr ⟨j,by simpa using hj,rfl⟩
 have hfam:∀ j,j < rows.length→fam M0 j∈M0::(List.range rows.length).map (fam M0):=fun j hj=>List.mem_cons_of_mem _ (List.mem_map.2 ⟨j,by simpa using hj,rfl⟩)
 have hsig:∀ i∈M0::(List.range rows.length).map (fam M0),zqs d i=d∨1000000≤zqs d i:=fun i hi=>by
  rcases hids i hi with rfl|⟨j,_,rfl⟩
  ·exact .inl (ysa hM')
  ·exact .inr (by rw [ykn hM'];exact ydw d j)
 refine ydi hl hw ?_ k
 refine yox (σ:=zqs d) (ids:=M0::(List.range rows.length).map (fam M0)) (hm:=fun _=>none) (hm':=hlook (yce M0 sz rows [])) (r:=r) (args0:=xs++caps) rfl rfl (by simpa using hd) (.inl hg) hx ?_ hc ?_ (fun id hs=>by simp at hs) ?_ (fun id o ho=>by cases ho) hr ?_ ?_ ?_ ?_
 ·have:∀ l:List AV,yap.pureL l=true→l=l.map (yec (zqs d)):=by
   intro l hl
   rw [← ycf,ziu.rows hl]
  exact this _ hp
 ·intro i hi j hj e
  rcases hids i hi with rfl|⟨a,_,rfl⟩ <;> rcases hids j hj with rfl|⟨b,_,rfl⟩
  ·rfl
  ·rw [ysa hM',ykn hM'] at e
   exact absurd e (ydr hd')
  ·rw [ysa hM',ykn hM'] at e
   exact absurd e.symm (ydr hd')
  ·rw [ykn hM',ykn hM'] at e
   rw [yqv e]
 ·intro id hs
  obtain ⟨o,ho⟩:=Option.isSome_iff_exists.1 hs
  rcases yly ho with rfl|⟨i,hi,rfl⟩
  ·exact List.mem_cons_self
  ·exact hfam i hi
 ·intro id o ho
  rcases yly ho with rfl|⟨i,hi,rfl⟩
  ·rw [yep] at ho
   cases ho
   rw [List.append_nil]
   have:=yus (M:=id) (sz:=sz) (ids:=id::(List.range rows.length).map (fam id)) 0 rows fun i hi=>hfam i (by omega)
   cases hm:yev id sz 0 rows with
   | nil=>rfl
   | cons a l=>rw [hm] at this;exact this
  ·rw [yjs hM'] at ho
   cases hr:rows[i]? with
   | none=>simp [hr] at ho
   | some r=>simp only [hr,Option.map_some,Option.some.injEq] at ho;subst ho;rfl
 ·intro x y hy
  simp only [S,look] at hy
  cases hb:Nat.beq x d with
  | true=>
   simp only [hb,Option.some.injEq] at hy
   exact .inl ⟨Nat.eq_of_beq_eq_true hb,hy.symm⟩
  | false=>
   simp only [hb] at hy
   refine .inr ⟨by rintro rfl;simp at hb,.inr ⟨hy,.inl fun i hi=>?_⟩⟩
   rcases hsig i hi with e|e
   ·rw [e];exact ymp h1 x y hy
   ·exact ymt.ment e (ysr h2 x y hy)
 ·intro i hi
  show hlook (h++yce d sz rows []) (zqs d i)=_
  rw [ybe h _ fun x hx=>?_]
  ·rcases hids i hi with rfl|⟨j,_,rfl⟩
   ·rw [ysa hM',yep,yep]
    simp only [List.append_nil,Option.map_some,Option.some.injEq]
    have:=ziv (d:=d) (sz:=sz) hM' 0 rows
    cases hm:yev i sz 0 rows with
    | nil=>rw [hm] at this;rw [← this];rfl
    | cons a l=>rw [hm] at this;rw [← this];rfl
   ·rw [ykn hM',yjs hd',yjs hM']
    cases rows[j]? <;> rfl
  ·rcases hsig i hi with e|e
   ·rw [e];exact zbw h3 x hx
   ·have:=yfy (ypg h4) x hx
    omega
 ·intro j ob' hj hob
  have hob2:hlook h j=some ob':=by
   rcases ycz h (yce d sz rows []) (j:=j) with e|⟨_,e⟩
   ·exact e.symm.trans hob
   ·have hob3:hlook (yce d sz rows []) j=some ob':=e.symm.trans hob
    exfalso
    rcases yly hob3 with rfl|⟨i,hi,rfl⟩
    ·exact hj M0 List.mem_cons_self (ysa hM')
    ·exact hj (fam M0 i) (hfam i hi) (ykn hM')
  refine ⟨fun i hi=>?_,ob',hob2,.inl rfl⟩
  rcases hsig i hi with e|e
  ·rw [e];exact (yef h3).2 j ob' hob2
  ·exact zqu.ment e (yjq h4 j ob' hob2).1
end
theorem ls_to_slM {h:Nat→Option LObj} {id len:Nat} {xs ys:List AV} {B:Bse} {ok0:Nat→Prop} {lv:Live} {w:World} {u:Value} (hi:Inv B ok0 h lv w) (hr:Rel (yaw B ok0 lv w) w lv (.ls id 1 len) u) (hx:h id=some (yhc xs)) (hlen:ys.length=len) (hxy:xs.length=ys.length)
  (ok':Nat→Prop) (hk2:∀ b n,lv id=some (some b,n)→ok' b) (hconv:∀ (j:Nat) (x y:AV),xs[j]?=some x→ys[j]?=some y→ydt y=true∧∀ u,Rel (yaw B ok0 lv w) w lv x u→Rel ok' w (fun _=>none) y u):Rel ok' w (fun _=>none) (.sl 1 (ys.map fun y=>[y])) u:=by
 subst hlen
 cases hr with
 | ls _ hone hls=>
  have hnil:(∃ n,lv id=some (none,n))∨∃ b n,lv id=some (some b,n)∧B.mine b∧b < w.heap.size∧yhd (yaw B ok0 lv w) lv w b n xs:=by
   obtain ⟨b,n,h1,h2⟩:=hi.obj id _ hx
   cases b with
   | none=>exact .inl ⟨n,h1⟩
   | some b=>
    obtain ⟨h2,h3,h4⟩:=h2
    cases xs with
    | nil=>exact .inr ⟨b,n,h1,h2,h3,h4.1⟩
    | cons x xs=>exact .inr ⟨b,n,h1,h2,h3,h4⟩
  rcases hnil with ⟨n,h1⟩|⟨b,n,h1,h2,h3,h4⟩
  ·obtain ⟨rfl,h0⟩:=hls _ _ h1
   obtain rfl:=List.eq_nil_of_length_eq_zero h0
   exact ypl
  obtain ⟨cap,rfl,hcap,hmax,hn⟩:=hls (some b) n h1
  obtain ⟨c,e,g1,g2,g3,g4,g5⟩:=h4
  have hcells:∀ (i j:Nat) (row:List AV) (y:AV),(ys.map fun y=>[y])[i]?=some row→row[j]?=some y→j=0∧∃ u,c[i]?=some u∧ydt y=true∧Rel ok' w (fun _=>none) y u:=by
   intro i j row y hrow hy
   rw [List.getElem?_map] at hrow
   cases hyi:ys[i]? with
   | none=>simp [hyi] at hrow
   | some y'=>
    simp only [hyi,Option.map_some,Option.some.injEq] at hrow
    subst hrow
    match j with
    | j+1=>simp at hy
    | 0=>
     simp only [List.getElem?_cons_zero,Option.some.injEq] at hy
     subst hy
     have hlt:=(List.getElem?_eq_some_iff.1 hyi).1
     obtain ⟨x,hxi⟩:∃ x,xs[i]?=some x:=⟨_,List.getElem?_eq_getElem (by omega)⟩
     have hci:i < c.size:=by omega
     obtain ⟨q1,q2⟩:=hconv i x y' hxi hyi
     exact ⟨rfl,_,Array.getElem?_eq_getElem hci,q1,q2 _ (g5 i x _ hxi (Array.getElem?_eq_getElem hci))⟩
  have hl:(ys.map fun y=>[y]).length=ys.length:=by simp
  have:=Rel.sl (ok:=ok') (w:=w) (lv:=fun _=>none) (size:=1) (rows:=ys.map fun y=>[y]) (some ⟨b,0,none⟩) cap (fun i _=>c.getD i undef) b 0 (by rw [hl];exact hcap) hmax (fun h=>by cases h) (fun row hr=>by obtain ⟨y,_,rfl⟩:=List.mem_map.1 hr;rfl) (fun _=>⟨rfl,hk2 b n h1⟩) (fun i j row x hrow hx=>?_) (fun i j row x hrow hx=>?_)
  ·rw [hl] at this
   exact this
  ·obtain ⟨rfl,u,hu,hc,_⟩:=hcells i j row x hrow hx
   refine ⟨?_,hc⟩
   simp only [World.cell?,g1]
   simp [Nat.zero_add,hu,Array.getD_eq_getD_getElem?]
  ·obtain ⟨rfl,u,hu,_,hr⟩:=hcells i j row x hrow hx
   have:c.getD i undef=u:=by simp [Array.getD_eq_getD_getElem?,hu]
   simp only [this]
   exact hr
theorem Frz.mat {els:List (List (List AV))} (hf:zel f=true) (hM:Nat.blt M 1000000=true) (hk:(f.all fun x=>!Nat.beq x.1 M)=true) (hs:0 < sz) (hsz:∀ r∈els,∀ e∈r,e.length=sz) {n:Nat} (hn:n=els.length) (hrows:rows=els.map List.flatten) :
  Frz (hlook (f++yce M sz rows [])) (.ls M 1 n) (.sl 1 (els.map fun r=>[.sl sz r])):=by
 subst hn hrows
 have hM':M < 1000000:=by simpa using hM
 intro B ok0 lv w u hi hr
 have h1:hlook (f++yce M sz (els.map List.flatten) []) M=some (yhc (yev M sz 0 (els.map List.flatten))):=by
  rw [yyy hf hM' hk M _ yep,List.append_nil]
 have hlv:∀ id b n,lv id=some (some b,n)→(ok0 b∨B.mine b)∧b < w.heap.size:=fun id b n hb=>by obtain ⟨_,_,h1,h2,_⟩:=hi.lvat hb;exact ⟨.inr h1,h2⟩
 have:=ls_to_slM (ys:=els.map fun r=>.sl sz r) hi hr h1 (by simp) (by rw [ydf];simp) (fun g=>(ok0 g∨B.mine g)∧g < w.heap.size) (fun b n hb=>hlv M b n hb) (fun j x y hx hy=>?_)
 ·rw [List.map_map] at this
  exact this
 ·rw [yeh,List.getElem?_map] at hx
  rw [List.getElem?_map] at hy
  cases hj:els[j]? with
  | none=>simp [hj] at hx
  | some r=>
   simp only [hj,Option.map_some,Option.some.injEq] at hx hy
   subst hx hy
   refine ⟨rfl,fun u hu=>?_⟩
   rw [Nat.zero_add] at hu
   have hrow:=zci (f:=f) (sz:=sz) (rows:=els.map List.flatten) (extra:=[]) hf hM' j
   rw [List.getElem?_map,hj] at hrow
   simp only [Option.map_some] at hrow
   have hr1:∀ e∈r,e.length=sz:=hsz r (List.mem_of_getElem? hj)
   have hfl:r.flatten.length / sz=r.length:=by
    have:∀ r:List (List AV),(∀ e∈r,e.length=sz)→r.flatten.length=r.length * sz:=by
     intro r
     induction r with
     | nil=>intro _;simp
     | cons e r ih=>
      intro he
      rw [List.flatten_cons,List.length_append,ih fun e h=>he e (by simp [h]),he e (by simp),List.length_cons,Nat.succ_mul,Nat.add_comm]
    rw [this r hr1]
    exact Nat.mul_div_cancel _ hs
   rw [hfl] at hu
   refine yph hi hu (by rw [hrow];rfl) rfl hr1 rfl (fun x hx i=>?_) _ (fun g hg=>⟨hg.1,hg.2.1⟩) (fun b n hb=>hlv _ b n hb)
   obtain ⟨b,n,q1,q2⟩:=hi.obj _ _ hrow
   cases b with
   | none=>
    rcases q2 with q2|⟨e,q2⟩
    ·simp only [LObj.vec.injEq] at q2
     rw [q2] at hx
     simp at hx
    ·cases q2
   | some b=>exact yap.ment (q2.2.2.2 x hx)
theorem ycn {α:Type} {P:Program} {N:Nat} {c:Code} {Q:Exit→SS→Prop} {t0:List (Nat × AV)} {h0:List (Nat × Option LObj)} (t:α→List (Nat × AV)) (h:α→List (Nat × Option LObj)) (m:α→Nat) (I:α→Prop) (a:α) (hI:I a) (h1:ywl t0 (t a)) (h2:∀ id o,hlook (h a) id=some o→hlook h0 id=some o) (round:∀ a,I a→A P N c (xav t h m I a Q) (S (t a) (h a))):A P N (.loop c) Q (S t0 h0):=by
 refine zvw (fun n s=>∃ b,I b∧m b=n∧Sub (S (t b) (h b)) s) (m a) ⟨a,hI,rfl,ybv h1,h2⟩ ?_
 rintro n s ⟨b,hb,rfl,hsub⟩
 refine (ynm (round b hb) hsub).mono fun e s' hq=>?_
 cases e with
 | normal=>
  obtain ⟨b',h3,h4,h5⟩:=hq
  exact ⟨m b',h4,b',h3,rfl,h5⟩
 | _=>exact hq
theorem yir {α:Type} {t:α→List (Nat × AV)} {h:α→List (Nat × Option LObj)} {m:α→Nat} {I:α→Prop} {a:α} {Q:Exit→SS→Prop} {t1:List (Nat × AV)} {h1:List (Nat × Option LObj)} (b:α) (hI:I b) (hm:m b < m a) (g1:ywl t1 (t b)) (g2:∀ id o,hlook (h b) id=some o→hlook h1 id=some o):xav t h m I a Q .normal (S t1 h1):=
 ⟨b,hI,hm,ybv g1,g2⟩
theorem hsE {h h':List (Nat × Option LObj)} (e:hlook h=hlook h'):∀ id o,hlook h' id=some o→hlook h id=some o:=fun id o ho=>by rw [e];exact ho
theorem ydy:∀ {f g:List (Nat × Option LObj)} {j:Nat} {o:LObj},hlook f j=some o→hlook (f++g) j=some o
 | [],g,j,o,h=>by simp [hlook] at h
 | (k,x)::f,g,j,o,h=>by
  simp only [hlook,List.cons_append] at h ⊢
  cases hb:Nat.beq j k with
  | true=>simpa [hb] using h
  | false=>simp only [hb] at h ⊢;exact ydy h
theorem hsM {f':List (Nat × Option LObj)} (hs:yrf f f') (hf:zel f=true) (hM:Nat.blt M 1000000=true) (hk:(f.all fun x=>!Nat.beq x.1 M)=true):∀ id o,hlook (f'++yce M sz rows extra) id=some o→hlook (f++yce M sz rows extra) id=some o:=fun id o ho=>by
 rcases ycz f' (yce M sz rows extra) (j:=id) with e|⟨_,e⟩
 ·rw [e] at ho
  exact ydy (yag hs id o ho)
 ·rw [e] at ho
  exact yyy hf (by simpa using hM) hk id o ho
end
section
open Go.RowKit
theorem zgk {h:Nat→Option LObj} {id off:Nat} {xs:List AV} {B:Bse} {ok0:Nat→Prop} {lv:Live} {w:World} {u:Value} (hi:Inv B ok0 h lv w) (hx:h id=some (.cells xs)) (hr:Rel (yaw B ok0 lv w) w lv (.lp id off) u) (hp:yap.pureL xs=true) (ok':Nat→Prop) (hk1:∀ g,yaw B ok0 lv w g→ok' g) (hk2:∀ b n,lv id=some (some b,n)→ok' b):Rel ok' w (fun _=>none) (.dp xs off) u:=by
 obtain ⟨b,n,h1,rfl,h2⟩:=ygd hi (by rw [hx];rfl) (.inr hx) hr
 have:=Rel.dp (ok:=ok') (w:=w) (lv:=fun _=>none) (row:=xs) (off:=off) b 0 (fun j=>(w.cell? ⟨b,0+j,none⟩).getD undef) (hk2 b n h1) (fun j c hc=>?_) (fun j c hc=>?_)
 ·rwa [Nat.zero_add] at this
 ·obtain ⟨q1,v,q2,_⟩:=h2 j c hc
  exact ⟨by rw [q2];rfl,q1⟩
 ·obtain ⟨_,v,q2,q3⟩:=h2 j c hc
  rw [q2]
  exact (q3.relive fun id b n hb _=>by cases hb).keep fun g hg=>⟨hk1 g hg,rfl⟩
theorem Frz.box {h:Nat→Option LObj} {id off:Nat} {xs:List AV} (hx:h id=some (.cells xs)) (hp:yap.pureL xs=true):Frz h (.lp id off) (.dp xs off):=
 fun B ok0 lv w u hi hr=>zgk hi hx hr hp _ (fun g hg=>⟨hg.1,hg.2.1⟩) fun b n hb=>by obtain ⟨_,_,h1,h2,_⟩:=hi.lvat hb;exact ⟨.inr h1,h2⟩
theorem Frz.fn {h:Nat→Option LObj} {f:Nat} {xs ys:List AV} (hl:xs.length=ys.length) (hf:∀ (i:Nat) (x y:AV),xs[i]?=some x→ys[i]?=some y→Frz h x y):Frz h (.fn f xs) (.fn f ys):=by
 intro B ok0 lv w u hi hr
 cases hr with
 | fn vs hvl hrr=>
  refine .fn vs (hvl.trans hl) fun i c v hc hv=>?_
  obtain ⟨x,hx⟩:∃ x,xs[i]?=some x:=⟨_,List.getElem?_eq_getElem (by have:=(List.getElem?_eq_some_iff.1 hc).1;omega)⟩
  exact hf i x c hx hc B ok0 lv w v hi (hrr i x v hx hv)
theorem Frz.fn1 {h:Nat→Option LObj} {f:Nat} {x y:AV} (hf:Frz h x y):Frz h (.fn f [x]) (.fn f [y]):=
 Frz.fn rfl fun i a b ha hb=>by
  match i with
  | 0=>simp only [List.getElem?_cons_zero,Option.some.injEq] at ha hb;subst ha hb;exact hf
  | i+1=>simp at ha
variable {P:Program} {N:Nat} {t:List (Nat × AV)} {h:List (Nat × Option LObj)}
theorem Sim.freezeBox {B:Bse} {ok0:Nat→Prop} {s:SS} {lv:Live} {a:Act} {w:World} (hs:Sim B ok0 N s lv a w) {d id off:Nat} {xs:List AV} (hd:s.t d=some (.lp id off)) (hx:s.h id=some (.cells xs)) (hp:yap.pureL xs=true)
  {s':SS} (ht:∀ x y,s'.t x=some y→y=.any∨s.t x=some y) (hlt:∀ x y,s'.t x=some y→∃ z,s.t x=some z) (hid:s'.h id=none) (hh:∀ j ob',s'.h j=some ob'→∃ ob,s.h j=some ob∧ylb ob ob'):∃ lv',Sim B ok0 N ⟨yes s'.t (some d) (.dp xs off),s'.h⟩ lv' a w:=by
 obtain ⟨lv',h1,h2,h3,h4⟩:=hs.forg ht hlt hh
 refine ⟨lv',?_⟩
 have hdN:=(hs.frame d _ hd).1
 have hr:=zgk hs.inv hx (hs.frame d _ hd).2 hp (yaw B ok0 lv' w) h4 (fun b n hb=>?_)
 ·have hrl:Rel (yaw B ok0 lv' w) w lv' (.dp xs off) (yct B a d):=hr.relive fun i b n _ hm=>by simp [ment] at hm
  refine ⟨h1.inv,h1.size,fun x y hy=>?_,h1.defers,h1.big,h1.pin⟩
  simp only [yes] at hy
  split at hy
  ·rename_i e
   subst e
   simp only [Option.some.injEq] at hy
   subst hy
   exact ⟨hdN,hrl⟩
  ·exact h1.frame x y hy
 ·obtain ⟨_,_,g1,g2,_⟩:=hs.inv.lvat hb
  refine ⟨.inr g1,g2,fun j b' m hj he=>?_⟩
  subst he
  have:=hs.inv.inj j id b' m n (h2 j _ m hj) hb
  subst this
  rw [h1.inv.dom j hid] at hj
  cases hj
theorem yhg {c:Code} {Q:Exit→SS→Prop} {t':List (Nat × AV)} {h':List (Nat × Option LObj)} (d:Nat) {id off:Nat} {xs:List AV} (hd:look t d=some (.lp id off)) (hx:hlook h id=some (.cells xs)) (hp:yap.pureL xs=true)
  (ht:ysd id t=some t') (hh:ypv id h=some h') (k:A P N c Q (S ((d,.dp xs off)::t') ((id,none)::h'))):A P N c Q (S t h):=by
 intro B ok0 lv a w hs
 obtain ⟨g1,g2⟩:=ygk ht
 obtain ⟨lv',hs'⟩:=hs.freezeBox (s':=S t' ((id,none)::h')) hd hx hp (fun x y hy=>(g1 x y hy).imp (fun h=>h) And.left) g2 (by simp [S,hlook]) (fun j ob' hj=>by
  simp only [S,hlook] at hj
  split at hj
  ·cases hj
  ·exact (yfl hh j ob' hj).2)
 rw [show (⟨yes (S t' ((id,none)::h')).t (some d) (.dp xs off),(S t' ((id,none)::h')).h⟩:SS)=S ((d,.dp xs off)::t') ((id,none)::h') by unfold S;rw [yde]] at hs'
 exact k B ok0 lv' a w hs'
end
set_option maxRecDepth 100000
section
open Go.RowKit
section
variable {P:Program} {T:Nat→Option Ty} {N:Nat} {ops:Array Oper} {lf:Oper→Bool} {Q:SS→Prop} {t:List (Nat × AV)} {h:List (Nat × Option LObj)} {rest:List Oper} {d:Nat} {op:Op} {ty:TypeId} {pos:String} {af:Array Edge} {gd:Option (Nat × Bool)} {r:AV}
theorem yield_arrslice {ρ:Operand→Option AV} {hp:Nat→Option LObj} {ti n:Nat} {ea:Bool} {x y:Operand} {k:IntKind} {i:Int} {row:List AV} (hk:yfa P ti (.arr n 1 ea)) (hx:ρ x=some (.dp row 0)) (hy:ρ y=some (.v (.int k i))) (hn:row.length=n) (hm:n≤maxLen) (h0:0≤i) (h1:i≤n):ybu P hp ρ (.slice ti x none (some y) none) ty (.sl 1 ((row.take i.toNat).map fun c=>[c])):=
 yar fun B ok0 lv w a o ho hty hi' hops=>by
  have hr:=hops x _ (by simp [Op.operands]) hx
  have hiv:=yfg (hops y _ (by simp [Op.operands]) hy)
  generalize hv:a.eval x=v at hr
  cases hr with
  | dp g q u hg hc hr=>
   obtain ⟨e,he,hs⟩:=hk
   have hrun:(Instr.sliceAt ti (.pointer (some ⟨g,q,none⟩)) none (some (a.eval y)) none).run P w=.ok (.slice (some ⟨g,q,none⟩) i.toNat n) w:=by
    rw [hiv]
    have h7:=(hs.run (w:=w)).1
    by_cases hz:n=0
    ·subst hz
     have:i=0:=by omega
     subst this
     simp [Instr.sliceAt,run_underlying he,Instr.sureAddr,Instr.sliceBounds,Instr.sliceBound,asIntOf,h7]
    ·simp [Instr.sliceAt,run_underlying he,Instr.sureAddr,Instr.sliceBounds,Instr.sliceBound,asIntOf,h7,h0,h1,Addr.add]
   refine ⟨.slice (some ⟨g,q,none⟩) i.toNat n,by have hv':a.eval x=.pointer (some ⟨g,q,none⟩):=hv;simp [execOp,ho,hv',hrun],?_⟩
   have hlen:((row.take i.toNat).map fun c=>[c]).length=i.toNat:=by simp;omega
   have hget:∀ (k j:Nat) (r:List AV) (c:AV),((row.take i.toNat).map fun c=>[c])[k]?=some r→r[j]?=some c→j=0∧row[k]?=some c:=by
    intro k j r c h2 h3
    rw [List.getElem?_map,List.getElem?_take] at h2
    split at h2
    ·cases hk:row[k]? with
     | none=>rw [hk] at h2;cases h2
     | some z=>
      rw [hk] at h2
      cases h2
      cases j with
      | zero=>cases h3;exact ⟨rfl,rfl⟩
      | succ j=>cases h3
    ·cases h2
   have:=Rel.sl (ok:=yaw B ok0 lv w) (w:=w) (lv:=lv) (size:=1) (rows:=(row.take i.toNat).map fun c=>[c]) (some ⟨g,q,none⟩) n (fun k j=>u k) g q (by rw [hlen];omega) hm (fun h=>by cases h) (fun r hr=>by obtain ⟨c,_,rfl⟩:=List.mem_map.1 hr;rfl) (fun _=>⟨rfl,hg⟩) (fun k j r c h2 h3=>by
    obtain ⟨rfl,h4⟩:=hget k j r c h2 h3
    have:=hc k c h4
    rwa [show q+k * 1+0=q+k by omega]) (fun k j r c h2 h3=>by
    obtain ⟨rfl,h4⟩:=hget k j r c h2 h3
    exact hr k c h4)
   rwa [hlen] at this
theorem L_arrslice (hT:TOK P T) {ti n z:Nat} {ag ea:Bool} {zs:List Value} {x y:Operand} {k:IntKind} {i:Int} {row:List AV} (ht:T ti=some ⟨.arr n 1 ea,z,ag,zs⟩) (hx:evF (look t) x=some (.dp row 0)) (hy:evF (look t) y=some (.v (.int k i))) (hn:row.length=n) (hm:n≤maxLen) (h0:0≤i) (h1:i≤n)
  (hw:yah ops (look t) ⟨some d,.slice ti x none (some y) none,ty,pos,af,gd⟩=some true) (hd:Nat.blt d N=true) (k:Lex P N ops lf Q rest (S ((d,.sl 1 ((row.take i.toNat).map fun c=>[c]))::t) h)):Lex P N ops lf Q (⟨some d,.slice ti x none (some y) none,ty,pos,af,gd⟩::rest) (S t h):=
 yby (yield_arrslice (hT _ _ ht).2.2 hx hy hn hm h0 h1) hw hd k
theorem zmb (hT:TOK P T) {ti:Nat} {y:Ty} {x v:Operand} {id off:Nat} {xs:List AV} {u:AV} (hy:T ti=some y) (hx:evF (look t) x=some (.lp id off)) (hv:evF (look t) v=some u) (hcs:ydk u=some [u]) (hcl:Nat.beq 1 y.size=true) (hh:hlook h id=some (.cells xs)) (hlt:off < xs.length)
  (hl:lf ⟨none,.store ti x v,ty,pos,af,gd⟩=true) (hw:yah ops (look t) ⟨none,.store ti x v,ty,pos,af,gd⟩=some true) (k:Lex P N ops lf Q rest (S t ((id,some (.cells (xs.set off u)))::h))):Lex P N ops lf Q (⟨none,.store ti x v,ty,pos,af,gd⟩::rest) (S t h):=by
 have he:xs.set off u=xs.take off++[u]++xs.drop (off+[u].length):=by
  rw [List.set_eq_take_append_cons_drop,if_pos hlt];simp
 refine ydi hl hw (by rw [← S_h,he];exact yhr rfl rfl (hT _ _ hy).1 hx hv hcs (by simpa using hcl) hh (.cells (by simp;omega))) k
end
theorem A_freezeBoxS {P:Program} {N:Nat} {t:List (Nat × AV)} {c:Code} {Q:Exit→SS→Prop} {t':List (Nat × AV)} {h0 h':List (Nat × Option LObj)} (d:Nat) {id off:Nat} {xs:List AV} (hd:look t d=some (.lp id off)) (hp:yap.pureL xs=true)
  (ht:ysd id t=some t') (hh:ypv id h0=some h') (k:A P N c Q (S ((d,.dp xs off)::t') ((id,none)::h'))):A P N c Q (S t ((id,some (.cells xs))::h0)):=by
 intro B ok0 lv a w hs
 obtain ⟨g1,g2⟩:=ygk ht
 obtain ⟨lv',hs'⟩:=hs.freezeBox (s':=S t' ((id,none)::h')) hd ybb hp (fun x y hy=>(g1 x y hy).imp (fun h=>h) And.left) g2 (by simp [S,hlook]) (fun j ob' hj=>by
  by_cases e:j=id
  ·subst e;simp [S,hlook] at hj
  ·have hj:hlook ((id,none)::h') j=some ob':=hj
   rw [yaq e] at hj
   obtain ⟨_,ob,q1,q2⟩:=yfl hh j ob' hj
   exact ⟨ob,by show hlook _ _=_;rw [yaq e];exact q1,q2⟩)
 rw [show (⟨yes (S t' ((id,none)::h')).t (some d) (.dp xs off),(S t' ((id,none)::h')).h⟩:SS)=S ((d,.dp xs off)::t') ((id,none)::h') by unfold S;rw [yde]] at hs'
 exact k B ok0 lv' a w hs'
theorem zba {P:Program} {N:Nat} {x y:Code} {Q:Exit→SS→Prop} {s:SS} (t0:List (Nat × AV)) (h0:List (Nat × Option LObj)) (k1:A P N x (Mid t0 h0) s) (k2:A P N y Q (S t0 h0)):A P N x (xbh P N y Q) s:=
 k1.mono fun e s' he=>by obtain ⟨rfl,hs⟩:=he;exact ynm k2 hs
theorem zcr:∀ l:List Int,yap.pureL (l.map i64)=true
 | []=>rfl
 | a::l=>by simp [yap.pureL,yap,i64,zcr l]
def yro (f:Nat→Int) (n k:Nat):List Int:=(List.range k).map f++List.replicate (n - k) 0
theorem ytx {f:Nat→Int} {n k:Nat} (h:k≤n):(yro f n k).length=n:=by simp [yro];omega
theorem zrs {f:Nat→Int} {n k:Nat} (h:k < n):((yro f n k).map i64).set k (i64 (f k))=(yro f n (k+1)).map i64:=by
 rw [show i64 (f k)=i64 (f k) from rfl,← List.map_set]
 congr 1
 unfold yro
 rw [List.set_append_right _ _ (by simp),List.range_succ]
 obtain ⟨m,hm⟩:∃ m,n - k=m+1:=⟨n - k - 1,by omega⟩
 rw [show n - (k+1)=m by omega,hm]
 simp [List.replicate_succ]
theorem arr_take {f:Nat→Int} {n k:Nat}:(((yro f n k).map i64).take k).map (fun c=>[c])=((List.range k).map f).map fun x=>[i64 x]:=by
 unfold yro
 rw [List.map_append,List.take_append_of_le_length (by simp),List.take_of_length_le (by simp)]
 simp
end
set_option maxHeartbeats 8000000
section
open Go.RowKit
theorem tend_con (l:List Tm) (k:Nat) (E:Ex) (r:List Tm) (hl:l.length≤1000) (hk:k≤1000) (hE:l.drop k=E.fl++r) (ho:E.ok):Con Tryz.prog 170 [ygw l,i64 k] (i64 ((k+E.fl.length:Nat):Int)):=
 ygj ⟨_,Tryz.func170,rfl,rfl⟩ fun w us ok hok hr=>by
  obtain ⟨u,v,rfl,h1,h2⟩:=yrb hr
  cases h2
  have e:yry 1 k l=((k+E.fl.length:Nat):Int):=by
   unfold yry
   rw [hE,zsd E ho 0 r,yrx]
   simp
  rw [← e]
  exact (zbn u l k w hl (Lib.hid (ygo h1 hok)) hk).mono fun e w' ⟨h1,h2⟩=>⟨h1,h2 ▸ Below.refl _ _⟩
theorem yyc {α:Type} {l:List α} {k:Nat} {t:α} {r:List α} (h:l.drop k=t::r):l[k]?=some t∧l.drop (k+1)=r∧k < l.length:=by
 have h1:l[k]?=some t:=by
  have:=congrArg (fun l=>l[0]?) h
  simpa using this
 exact ⟨h1,by rw [← List.tail_drop,h];rfl,(List.getElem?_eq_some_iff.1 h1).1⟩
theorem zkh {α:Type} {l:List α} {k:Nat} {a r:List α} (h:l.drop k=a++r):l.drop (k+a.length)=r:=by
 rw [← List.drop_drop,h,List.drop_left]
structure WalkOk (p:ProgD) (g:GraphD) (c:List (List Int)) (v:Nat) (ls:List Lk) (e:List Tm) (n:Int):Prop where
 hg:ycy g=true
 hls:g.ports[v]?=some ls
 hc:c.length=g.ports.length
 hr:∀ r∈c,n≤r.length
 he:e.length≤1000
 ha:∀ t∈e,yxu n t=true
 ok:ScnOk ⟨g,c,v⟩
theorem zrr {n:Int} {t:Tm} (h:yxu n t=true):t.1=5∨t.1=12→0≤t.2∧t.2 < n:=by
 intro ht
 unfold yxu at h
 rcases ht with e|e <;> simp [e] at h <;> omega
theorem wagg_con {p:ProgD} {g:GraphD} {c:List (List Int)} {v:Nat} {ls:List Lk} {e:List Tm} {n:Int} (W:WalkOk p g c v ls e n) (t:Tm) (a:Ex) (k:Nat) (r:List Tm) (hE:e.drop k=t::(a.fl++r)) (ht:20≤t.1∧t.1≤29) (hoa:a.ok)
  (hin:∀ j:Nat,j < ls.length→InV ((⟨g,c,v⟩:Scn).val j a))
  (H:∀ j:Nat,j < ls.length→Con Tryz.prog 176 [zlt p g c v e,i64 ((k:Int)+1),i64 j] (.tup [i64 ((⟨g,c,v⟩:Scn).val j a),i64 ((k+1+a.fl.length:Nat):Int)])) :
  Con Tryz.prog 227 [zlt p g c v e,i64 t.1,i64 k] (.tup [i64 (zsj t.1 ((List.range ls.length).map fun j:Nat=>(⟨g,c,v⟩:Scn).val j a)),i64 ((k+1+a.fl.length:Nat):Int)]):=by
 have hv:=yca W.hg
 have hls:=W.hls
 have hvl:=(List.getElem?_eq_some_iff.1 hls).1
 have hlb:=hv.2.2.2.2.2.1 v ls hls
 have hll:=yeg hvl hlb
 have hll24:ls.length≤24:=(W.ok.links ls (List.mem_of_getElem? hls)).1
 have he:=W.he
 obtain ⟨hk1,hk2,hk3⟩:=yyc hE
 have hk4:k+1+a.fl.length≤e.length:=by
  have:=congrArg List.length hk2
  rw [List.length_drop,List.length_append] at this
  omega
 let f:Nat→Int:=fun j=>(⟨g,c,v⟩:Scn).val j a
 refine yao Tryz.func227 rfl rfl Tryz.ntmps227 Tryz.results227 rfl rfl ?_
 (try refine zy ?_)
 refine yeu (α:=Nat) (fun j=>[(27,i64 j),(26,i64 ls.length),(9,i64 ls.length),(8,.lp 8 0),(7,i64 (if j=0 then 0 else ((k+1+a.fl.length:Nat):Int))),(0,zlt p g c v e),(1,i64 t.1),(2,i64 k)]) (fun j=>[(8,some (.cells ((yro f 24 j).map i64)))]) (fun j=>ls.length - j) (fun j=>j≤ls.length) 0 (by omega) (by exact zs) (by exact zh) ?_
 intro j hj
 (try refine zy ?_)
 refine yac rfl (fun h=>?_) (fun h=>?_)
 ·simp at h
  (repeat (first|refine zy ?_|refine yad rfl rfl (H j h) rfl rfl ?_))
  refine yiu tok rfl rfl (by rw [ybb];rfl) (by intro h0;have:=congrArg List.length h0;simp [ytx (show j≤24 by omega)] at this) rfl (by omega) (by omega) rfl rfl ?_
  refine zmb tok rfl rfl rfl rfl rfl ybb (by simp [ytx (show j≤24 by omega)];omega) rfl rfl ?_
  refine zuz (h':=[(8,some (.cells ((yro f 24 (j+1)).map i64)))]) ?_ ?_
  ·rw [yfx,show (0+(j:Int).toNat * 1)=j by simp]
   have:=zrs (f:=f) (show j < 24 by omega)
   rw [← this]
  (try refine zy ?_)
  exact rnd (j+1) (by omega) (by omega) (by exact zs) (by exact zh)
 ·simp at h
  obtain rfl:j=ls.length:=by omega
  (try refine zy ?_)
  refine zba [(9,i64 ls.length),(8,.lp 8 0),(7,i64 ((k+1+a.fl.length:Nat):Int)),(0,zlt p g c v e),(1,i64 t.1),(2,i64 k)] [(8,some (.cells ((yro f 24 ls.length).map i64)))] ?_ ?_
  ·refine yac rfl (fun h0=>?_) (fun h0=>?_)
   ·simp at h0
    (repeat (first|refine zy ?_|refine yad rfl rfl (tend_con e k (.un t a) r he (by omega) (by rw [hE];rfl) ⟨by unfold ar;rw [if_neg (by omega),if_neg (by omega),if_pos (by omega)],hoa⟩) rfl rfl ?_))
    refine mid ?_ (by exact zh)
    refine ycr rfl (ycr rfl (ycr (yzy rfl (yvo ?_)) (by exact zs)))
    simp [Ex.fl];omega
   ·have h0:¬ ls=[]:=by simpa using h0
    (try refine zy ?_)
    refine mid ?_ (by exact zh)
    refine ycr rfl (ycr rfl (ycr (yzy rfl (yvo ?_)) (by exact zs)))
    rw [if_neg (by intro e9;exact h0 (List.length_eq_zero_iff.1 e9))]
  refine zt ?_
  refine A_freezeBoxS 8 rfl (zcr _) rfl rfl ?_
  have hlen:((List.range ls.length).map f).length=ls.length:=by simp
  (repeat (first|refine zy ?_|refine L_arrslice tok rfl rfl rfl (by simp [ytx hll24]) (by decide) (by omega) (by omega) rfl rfl ?_|refine yln 51 (y:=yam ((List.range ls.length).map f)) rfl (by rw [Int.toNat_natCast,arr_take];rfl) ?_|refine yad rfl rfl (efold_con t.1 ((List.range ls.length).map f) ht (by rw [hlen];omega) (fun x hx=>by obtain ⟨j,hj,rfl⟩:=List.mem_map.1 hx;exact hin j (List.mem_range.1 hj))) rfl rfl ?_))
  refine yaf ?_;refine ⟨_,rfl,?_⟩
  exact Frz.tup2 (yai rfl) (yai rfl)
end
section
open Go.RowKit
def zjq:Ex→List Ex
 | .lf _=>[]
 | .un _ a=>[a]
 | .bi _ a b=>[a,b]
 | .tr _ a b c=>[a,b,c]
def hd:Ex→Tm
 | .lf t=>t
 | .un t _=>t
 | .bi t _ _=>t
 | .tr t _ _ _=>t
theorem kid_facts (E A:Ex) (h:E.ok) (hA:A∈zjq E):A.ok∧A.fl.length≤E.fl.length∧(∀ t∈A.fl,t∈E.fl)∧A.dp≤E.dp∧A.ns≤E.ns:=by
 cases E with
 | lf t=>simp [zjq] at hA
 | un t a=>
  simp only [zjq,List.mem_singleton] at hA;subst hA
  refine ⟨h.2,by simp [Ex.fl],fun t ht=>by simp [Ex.fl,ht],by simp [Ex.dp],?_⟩
  simp only [Ex.ns];split <;> omega
 | bi t a b=>
  simp only [zjq,List.mem_cons,List.not_mem_nil,or_false] at hA
  rcases hA with rfl|rfl
  ·exact ⟨h.2.1,by simp [Ex.fl];omega,fun t ht=>by simp [Ex.fl,ht],by simp only [Ex.dp];omega,by simp only [Ex.ns];omega⟩
  ·exact ⟨h.2.2,by simp [Ex.fl];omega,fun t ht=>by simp [Ex.fl,ht],by simp only [Ex.dp];omega,by simp only [Ex.ns];omega⟩
 | tr t a b c=>
  simp only [zjq,List.mem_cons,List.not_mem_nil,or_false] at hA
  rcases hA with rfl|rfl|rfl
  ·exact ⟨h.2.1,by simp [Ex.fl];omega,fun t ht=>by simp [Ex.fl,ht],by simp only [Ex.dp];omega,by simp only [Ex.ns];omega⟩
  ·exact ⟨h.2.2.1,by simp [Ex.fl];omega,fun t ht=>by simp [Ex.fl,ht],by simp only [Ex.dp];omega,by simp only [Ex.ns];omega⟩
  ·exact ⟨h.2.2.2,by simp [Ex.fl];omega,fun t ht=>by simp [Ex.fl,ht],by simp only [Ex.dp];omega,by simp only [Ex.ns];omega⟩
theorem zcd (kinds:List Int) (hk:yij kinds=true) (bound:Bool) (E A:Ex) (h:E.ok) (hA:A∈zjq E) (ht:ty kinds bound E≠0):ty kinds (bound || yts (hd E).1) A≠0:=by
 cases E with
 | lf t=>simp [zjq] at hA
 | un t a=>
  simp only [zjq,List.mem_singleton] at hA;subst hA
  exact (zxn _ _).2.2 ht
 | bi t a b=>
  have hg:yts t.1=false:=yxt (by have:=h.1;omega)
  simp only [hd,hg,Bool.or_false]
  have:=(zxo _ _ _).2.2 ht
  simp only [zjq,List.mem_cons,List.not_mem_nil,or_false] at hA
  rcases hA with rfl|rfl
  ·exact this.1
  ·exact this.2
 | tr t a b c=>
  have hg:yts t.1=false:=yxt (by have:=h.1;omega)
  simp only [hd,hg,Bool.or_false]
  have:=(zxp _ _ _ (ty_bd kinds hk b bound)).2.2 ht
  simp only [zjq,List.mem_cons,List.not_mem_nil,or_false] at hA
  rcases hA with rfl|rfl|rfl
  ·exact this.1
  ·exact this.2.1
  ·exact this.2.2
end
section
open Go.RowKit
theorem ar_0 {op:Int} (h:ar op=0):1≤op∧op≤17:=by unfold ar at h;repeat' split at h <;> omega
theorem ar_1 {op:Int} (h:ar op=1):18≤op∧op≤29:=by unfold ar at h;repeat' split at h <;> omega
theorem ar_2 {op:Int} (h:ar op=2):30≤op∧op≤42:=by unfold ar at h;repeat' split at h <;> omega
theorem ar_3 {op:Int} (h:ar op=3):op=43:=by unfold ar at h;repeat' split at h <;> omega
theorem zdn {op:Int}:yts op=true↔20≤op∧op≤29:=by simp [yts]
theorem yim {e:List Tm} {k:Nat} {a r:List Tm} (h:e.drop k=a++r):∀ t∈a,t∈e:=fun t ht=>by
 have:t∈e.drop k:=by rw [h];simp [ht]
 exact List.mem_of_mem_drop this
theorem ztp {ls:List Lk} {n:Nat} (h:ls.length≤24) {j:Nat} (hj:j < ls.length):InV (j:Int):=by unfold InV ygp;omega
theorem yla {p:ProgD} {g:GraphD} {c:List (List Int)} {v:Nat} {ls:List Lk} {e:List Tm} {n:Int} (W:WalkOk p g c v ls e n) {kinds:List Int} (hk:yij kinds=true):∀ (E:Ex),E.ok→∀ (k:Nat) (r:List Tm) (b:Bool) (port:Int),e.drop k=E.fl++r→ty kinds b E≠0→InV port→(b=true→0≤port∧port < ls.length) →
  Con Tryz.prog 176 [zlt p g c v e,i64 k,i64 port] (.tup [i64 ((⟨g,c,v⟩:Scn).val port E),i64 ((k+E.fl.length:Nat):Int)])
 | .lf t,ho,k,r,b,port,hE,ht,hp,hb=>by
  obtain ⟨hk1,hk2,hk3⟩:=yyc (show e.drop k=t::r from hE)
  have he:=W.he
  have h17:=ar_0 ho
  have hnear:12≤t.1→0≤port∧port < ls.length:=fun h12=>hb (by
   cases b with
   | true=>rfl
   | false=>exact absurd (by simp only [ty];simp [zqg,h17.2];omega) ht)
  have hm:t∈e:=List.mem_of_getElem? hk1
  refine yao Tryz.func176 rfl rfl Tryz.ntmps176 Tryz.results176 rfl rfl ?_
  (try refine zy ?_)
  refine yac rfl (fun h=>?_) (fun h=>?_)
  ·(repeat (first|refine zy ?_|refine yad rfl rfl (wleaf_con p g W.hg c e v ls W.hls t port h17 hnear W.hc (fun hx=>⟨(zrr (W.ha t hm) hx).1,fun r hr=>by have:=(zrr (W.ha t hm) hx).2;have:=W.hr r hr;omega⟩)) rfl rfl ?_))
   refine yaf ?_;refine ⟨_,rfl,?_⟩
   exact Frz.tup2 (yai rfl) (yai (by simp [Ex.fl]))
  ·exact absurd (by simpa using h) (by omega)
 | .un t a,ho,k,r,b,port,hE,ht,hp,hb=>by
  obtain ⟨hk1,hk2,hk3⟩:=yyc (show e.drop k=t::(a.fl++r) from hE)
  have he:=W.he
  have h17:=ar_1 ho.1
  have hlen:(Ex.un t a).fl.length=1+a.fl.length:=by simp [Ex.fl];omega
  have hka:=zcd kinds hk b (.un t a) a ho (by simp [zjq]) ht
  have hd24:ls.length≤24:=(W.ok.links ls (List.mem_of_getElem? W.hls)).1
  have hdeg:(⟨g,c,v⟩:Scn).deg=ls.length:=by simp [Scn.deg,List.getD_eq_getElem?_getD,W.hls]
  refine yao Tryz.func176 rfl rfl Tryz.ntmps176 Tryz.results176 rfl rfl ?_
  (try refine zy ?_)
  refine yac rfl (fun q1=>?_) (fun q1=>?_)
  ·exact absurd (by simpa using q1) (show ¬ t.1≤17 by omega)
  (try refine zy ?_)
  refine yac rfl (fun q2=>?_) (fun q2=>?_)
  ·have hna:yts t.1=false:=by cases h:yts t.1 with
    | false=>rfl
    | true=>exact absurd (zdn.1 h).1 (by simp at q2;omega)
   have ih:=yla W hk a ho.2 (k+1) r b port hk2 (by simpa [hd,hna] using hka) hp hb
   rw [show ((k+1:Nat):Int)=(k:Int)+1 by omega] at ih
   have hin:InV ((⟨g,c,v⟩:Scn).val port a):=zae W.ok a (fun x hx=>W.ha x (yim hk2 x hx)) hp
   (repeat (first|refine zy ?_|refine yad rfl rfl ih rfl rfl ?_|refine yad rfl rfl (eun_con _ _ hin) rfl rfl ?_))
   refine yaf ?_;refine ⟨_,rfl,?_⟩
   exact Frz.tup2 (yai (by simp only [Scn.val];rw [if_neg (by simp [hna])])) (yai (by rw [hlen];omega))
  (try refine zy ?_)
  have q2:¬ t.1≤19:=by simpa using q2
  refine yac rfl (fun q3=>?_) (fun q3=>?_)
  ·have hag:yts t.1=true:=zdn.2 (by omega)
   have hka:ty kinds true a≠0:=by simpa [hd,hag] using hka
   have H:∀ j:Nat,j < ls.length→Con Tryz.prog 176 [zlt p g c v e,i64 ((k:Int)+1),i64 j] (.tup [i64 ((⟨g,c,v⟩:Scn).val j a),i64 ((k+1+a.fl.length:Nat):Int)]):=fun j hj=>by
    have ih:=yla W hk a ho.2 (k+1) r true (j:Int) hk2 hka (ztp (n:=0) hd24 hj) (fun _=>⟨by omega,by omega⟩)
    rwa [show ((k+1:Nat):Int)=(k:Int)+1 by omega] at ih
   have hin:∀ j:Nat,j < ls.length→InV ((⟨g,c,v⟩:Scn).val j a):=fun j hj=>zae W.ok a (fun x hx=>W.ha x (yim hk2 x hx)) (ztp (n:=0) hd24 hj)
   (repeat (first|refine zy ?_|refine yad rfl rfl (wagg_con W t a k r hE (by omega) ho.2 hin H) rfl rfl ?_))
   refine yaf ?_;refine ⟨_,rfl,?_⟩
   exact Frz.tup2 (yai (by simp only [Scn.val];rw [if_pos hag,hdeg])) (yai (by rw [hlen];omega))
  ·exact absurd (by simpa using q3) (show ¬ ¬ t.1≤29 by omega)
 | .bi t a d,ho,k,r,b,port,hE,ht,hp,hb=>by
  obtain ⟨hk1,hk2,hk3⟩:=yyc (show e.drop k=t::(a.fl++(d.fl++r)) by rw [hE];simp [Ex.fl])
  have he:=W.he
  have h17:=ar_2 ho.1
  have hna:yts t.1=false:=by cases h:yts t.1 with|false=>rfl|true=>have:=zdn.1 h;omega
  have hlen:(Ex.bi t a d).fl.length=1+a.fl.length+d.fl.length:=by simp [Ex.fl];omega
  have hka:=zcd kinds hk b (.bi t a d) a ho (by simp [zjq]) ht
  have hkd:=zcd kinds hk b (.bi t a d) d ho (by simp [zjq]) ht
  simp only [hd,hna,Bool.or_false] at hka hkd
  have hk4:=zkh hk2
  have ih1:=yla W hk a ho.2.1 (k+1) _ b port hk2 hka hp hb
  have ih2:=yla W hk d ho.2.2 (k+1+a.fl.length) r b port hk4 hkd hp hb
  rw [show ((k+1:Nat):Int)=(k:Int)+1 by omega] at ih1
  have hin1:InV ((⟨g,c,v⟩:Scn).val port a):=zae W.ok a (fun x hx=>W.ha x (yim hk2 x hx)) hp
  have hin2:InV ((⟨g,c,v⟩:Scn).val port d):=zae W.ok d (fun x hx=>W.ha x (yim hk4 x hx)) hp
  refine yao Tryz.func176 rfl rfl Tryz.ntmps176 Tryz.results176 rfl rfl ?_
  (try refine zy ?_)
  refine yac rfl (fun q1=>?_) (fun q1=>?_)
  ·exact absurd (by simpa using q1) (show ¬ t.1≤17 by omega)
  (try refine zy ?_)
  refine yac rfl (fun q2=>?_) (fun q2=>?_)
  ·exact absurd (by simpa using q2) (show ¬ t.1≤19 by omega)
  (try refine zy ?_)
  refine yac rfl (fun q3=>?_) (fun q3=>?_)
  ·exact absurd (by simpa using q3) (show ¬ t.1≤29 by omega)
  (try refine zy ?_)
  refine yac rfl (fun q4=>?_) (fun q4=>?_)
  ·(repeat (first|refine zy ?_|refine yad rfl rfl ih1 rfl rfl ?_|refine yad rfl rfl ih2 rfl rfl ?_|refine yad rfl rfl (ebin_con _ _ _ hin1 hin2) rfl rfl ?_))
   refine yaf ?_;refine ⟨_,rfl,?_⟩
   exact Frz.tup2 (yai (by simp only [Scn.val];exact biP_eq h17)) (yai (by rw [hlen];omega))
  ·exact absurd (by simpa using q4) (show ¬ ¬ t.1≤42 by omega)
 | .tr t a d f,ho,k,r,b,port,hE,ht,hp,hb=>by
  obtain ⟨hk1,hk2,hk3⟩:=yyc (show e.drop k=t::(a.fl++(d.fl++(f.fl++r))) by rw [hE];simp [Ex.fl])
  have he:=W.he
  have h17:=ar_3 ho.1
  have hna:yts t.1=false:=by cases h:yts t.1 with|false=>rfl|true=>have:=zdn.1 h;omega
  have hlen:(Ex.tr t a d f).fl.length=1+a.fl.length+d.fl.length+f.fl.length:=by simp [Ex.fl];omega
  have hka:=zcd kinds hk b (.tr t a d f) a ho (by simp [zjq]) ht
  have hkd:=zcd kinds hk b (.tr t a d f) d ho (by simp [zjq]) ht
  have hkf:=zcd kinds hk b (.tr t a d f) f ho (by simp [zjq]) ht
  simp only [hd,hna,Bool.or_false] at hka hkd hkf
  have hk4:=zkh hk2
  have hk5:=zkh hk4
  have ih1:=yla W hk a ho.2.1 (k+1) _ b port hk2 hka hp hb
  have ih2:=yla W hk d ho.2.2.1 (k+1+a.fl.length) _ b port hk4 hkd hp hb
  have ih3:=yla W hk f ho.2.2.2 (k+1+a.fl.length+d.fl.length) r b port hk5 hkf hp hb
  rw [show ((k+1:Nat):Int)=(k:Int)+1 by omega] at ih1
  refine yao Tryz.func176 rfl rfl Tryz.ntmps176 Tryz.results176 rfl rfl ?_
  (try refine zy ?_)
  refine yac rfl (fun q1=>?_) (fun q1=>?_)
  ·exact absurd (by simpa using q1) (show ¬ t.1≤17 by omega)
  (try refine zy ?_)
  refine yac rfl (fun q2=>?_) (fun q2=>?_)
  ·exact absurd (by simpa using q2) (show ¬ t.1≤19 by omega)
  (try refine zy ?_)
  refine yac rfl (fun q3=>?_) (fun q3=>?_)
  ·exact absurd (by simpa using q3) (show ¬ t.1≤29 by omega)
  (try refine zy ?_)
  refine yac rfl (fun q4=>?_) (fun q4=>?_)
  ·exact absurd (by simpa using q4) (show ¬ t.1≤42 by omega)
  (repeat (first|refine zy ?_|refine yad rfl rfl ih1 rfl rfl ?_|refine yad rfl rfl ih2 rfl rfl ?_|refine yad rfl rfl ih3 rfl rfl ?_))
  refine yac rfl (fun q5=>?_) (fun q5=>?_)
  ·(try refine zy ?_)
   refine yaf ?_;refine ⟨_,rfl,?_⟩
   exact Frz.tup2 (yai (by simp only [Scn.val];rw [if_pos (by simpa using q5)])) (yai (by rw [hlen];omega))
  ·(try refine zy ?_)
   refine yaf ?_;refine ⟨_,rfl,?_⟩
   exact Frz.tup2 (yai (by simp only [Scn.val];rw [if_neg (by simpa using q5)])) (yai (by rw [hlen];omega))
end
end Go.Proofs.YtfhejdcijbgikaaGreatDoor
