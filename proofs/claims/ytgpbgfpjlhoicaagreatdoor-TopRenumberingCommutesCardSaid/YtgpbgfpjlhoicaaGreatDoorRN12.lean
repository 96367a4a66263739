/- Part 12 of the texts under TopRenumberingCommutes: joined, with what it needs alone. -/
import Derived.WalkKit
import Derived.Laws.Bits64b
import Derived.Test.YtgpbgfpjlhoicaaGreatDoorRN1
import Derived.Test.YtgpbgfpjlhoicaaGreatDoorRN7
import Derived.Test.YtgpbgfpjlhoicaaGreatDoorRN8
import Derived.Test.YtgpbgfpjlhoicaaGreatDoorRN9
import Derived.Test.YtgpbgfpjlhoicaaGreatDoorRN10
import Derived.Test.YtgpbgfpjlhoicaaGreatDoorRN11
set_option linter.unusedVariables false
set_option maxRecDepth 100000
set_option maxHeartbeats 8000000
namespace Go.Proofs.YtgpbgfpjlhoicaaGreatDoor
section
open Go.RowKit
theorem rul_get {p:ProgD} {s:Scn} (h:0≤zqf p s):∃ (i:Nat) (r:RuleD),zqf p s=i∧p.rules[i]?=some r:=by
 unfold zqf at *
 rcases zrv (p.rules.map fun r=>s.of r.guard) 0 with e|⟨e1,e2⟩
 ·omega
 ·obtain ⟨r,hr⟩:=ycg (show (zmy (p.rules.map fun r=>s.of r.guard) 0).toNat < p.rules.length by simp at e2;omega)
  exact ⟨_,r,by omega,hr⟩
def zlo (p:ProgD) (g:GraphD) (c:List (List Int)) (set:BitVec 32) (k:Nat):List (List Int):=(yxh p g c set).take k++c.drop k
theorem stpK_zero {p:ProgD} {g:GraphD} {c:List (List Int)} {set:BitVec 32}:zlo p g c set 0=c:=by simp [zlo]
theorem stpK_all {p:ProgD} {g:GraphD} {c:List (List Int)} {set:BitVec 32}:zlo p g c set c.length=yxh p g c set:=by
 unfold zlo
 rw [List.take_of_length_le (by simp [yhx]),List.drop_length,List.append_nil]
theorem zom {p:ProgD} {g:GraphD} {c:List (List Int)} {set:BitVec 32} {k:Nat} (hk:k≤c.length):(zlo p g c set k).length=c.length:=by
 simp [zlo,yhx];omega
theorem zjm {p:ProgD} {g:GraphD} {c:List (List Int)} {set:BitVec 32} {k:Nat} {r:List Int} (hr:c[k]?=some r):zlo p g c set (k+1)=(zlo p g c set k).set k (if set.getLsbD k then zvw p g c k else r):=by
 have hk:=(List.getElem?_eq_some_iff.1 hr).1
 have hs:=zfz (p:=p) (g:=g) (set:=set) hr
 unfold zlo
 rw [ybj hs,List.set_append_right _ _ (by simp [yhx];omega)]
 have e:((yxh p g c set).take k).length=k:=by simp [yhx];omega
 rw [e,Nat.sub_self,List.append_assoc]
 congr 1
 have hd:c.drop k=r::c.drop (k+1):=by
  rw [← (List.getElem?_eq_some_iff.1 hr).2,List.getElem_cons_drop]
 rw [hd];rfl
theorem stpK_at {p:ProgD} {g:GraphD} {c:List (List Int)} {set:BitVec 32} {k:Nat} (hk:k < c.length):(zlo p g c set k)[k]?=c[k]?:=by
 have e:((yxh p g c set).take k).length=k:=by simp [yhx];omega
 unfold zlo
 rw [List.getElem?_append_right (by omega),e,Nat.sub_self,List.getElem?_drop,Nat.add_zero]
theorem stpK_same {p:ProgD} {g:GraphD} {c:List (List Int)} {set:BitVec 32} {k:Nat} (hk:k < c.length) (hs:set.getLsbD k=false):zlo p g c set (k+1)=zlo p g c set k:=by
 obtain ⟨r,hr⟩:=ycg hk
 have hat:=stpK_at (p:=p) (g:=g) (set:=set) hk
 rw [zjm hr,hs,if_neg (by simp)]
 apply List.ext_getElem?
 intro j
 rw [List.getElem?_set]
 split
 ·rename_i e
  subst e
  rw [if_pos (by rw [zom (by omega)];exact hk),hat,hr]
 ·rfl
theorem A_freezeCfg {P:Program} {N:Nat} {Q:Exit→SS→Prop} {t:List (Nat × AV)} {code:Code} {t':List (Nat × AV)} {h f f':List (Nat × Option LObj)} {M:Nat} {c:List (List Int)} (hh:hlook h=hlook (f++yec M 1 (zgj c) [])) (ht':zbc t t') (ht:zvl t'=true) (hf:zkd f=true) (hf':yuy f f') (hl':zkd f'=true) (hM:Nat.blt M 1000000=true) (hkey:(f.all fun x=>!Nat.beq x.1 M)=true) (hkey':(f'.all fun x=>!Nat.beq x.1 M)=true)
  (k:A P N code Q (S t' ((M,some (.vec (c.map yah)))::f'))):A P N code Q (S t h):=by
 refine A_freezeRows (els:=c.map fun r=>r.map fun x=>[i64 x]) (sz:=1) (f:=f) (M:=M) ?_ ht' ht hf hf' hl' hM hkey hkey' (by omega) (by intro r hr e he;obtain ⟨r0,_,rfl⟩:=List.mem_map.1 hr;obtain ⟨q,_,rfl⟩:=List.mem_map.1 he;rfl) ?_
 ·have:(c.map fun r=>r.map fun x=>[i64 x]).map List.flatten=zgj c:=by
   simp only [zgj,List.map_map];congr 1;funext r;exact ygg r
  rw [hh,this]
 ·rw [List.map_map]
  exact k
theorem frz_cfgV {h:Nat→Option LObj} {id n:Nat} {c:List (List Int)} (hx:h id=some (.vec (c.map yah))) (hn:n=c.length):Frz h (.ls id 1 n) (yhm c):=by
 subst hn
 refine Frz.ls (rows:=c.map fun r=>[yah r]) (by rw [hx];rfl) (by simp) (by intro r hr;obtain ⟨z,_,rfl⟩:=List.mem_map.1 hr;rfl) ?_ (by intro x hx i;obtain ⟨z,_,rfl⟩:=List.mem_map.1 hx;rfl)
 clear hx
 induction c with
 | nil=>rfl
 | cons r c ih=>simp [ih]
theorem mstep_con {p:ProgD} {g:GraphD} {c:List (List Int)} (h:CfgOk p g c) (set:BitVec 32) (hset:∀ v:Nat,v < c.length→set.getLsbD v=true→zuf p g c v=true):Con Tryz.prog 116 [ykk p g,yhm c,ycb set] (yhm (yxh p g c set)):=by
 have h24:=h.n24
 have hl:=h.len
 have h6:=h.vars6
 have hrows:∀ r∈c,r.length≤1000:=fun r hr=>by have:=h.rowlen r hr;omega
 refine yao Tryz.func116 rfl rfl Tryz.ntmps116 Tryz.results116 rfl rfl ?_
 (repeat (first|refine zy ?_|refine L_callO (zmj c (by omega) hrows) rfl rfl rfl rfl rfl rfl rfl rfl rfl rfl rfl rfl rfl ?_))
 refine A_freezeCfg (f:=[]) (f':=[]) (M:=10) (c:=c) (t':=[(13,i64 (0:Nat)),(12,i64 c.length),(7,.ls 10 1 c.length),(0,ykk p g),(1,yhm c),(2,ycb set)]) rfl (by exact zs) rfl rfl yak rfl rfl rfl rfl ?_
 refine ygb (α:=Nat) (fun k=>[(13,i64 k),(12,i64 c.length),(7,.ls 10 1 c.length),(0,ykk p g),(1,yhm c),(2,ycb set)]) (fun k=>[(10,some (.vec ((zlo p g c set k).map yah)))]) (fun k=>c.length - k) (fun k=>k≤c.length) 0 (by omega) (by exact zs) (hsE (by rw [stpK_zero])) ?_
 intro k hk
 (try refine zy ?_)
 refine yac rfl (fun h1=>?_) (fun h1=>?_)
 ·simp at h1
  obtain ⟨st,hst⟩:=ycg h1
  have hkl:=zom (p:=p) (g:=g) (set:=set) hk
  (repeat (first|refine ymi tok rfl (by constructor <;> omega) rfl rfl ?_|refine ygr rfl rfl (by omega) rfl rfl ?_|refine ygs rfl rfl (by omega) rfl rfl ?_|refine ymg rfl rfl rfl rfl ?_|refine yfg rfl rfl rfl rfl ?_|refine yhh rfl rfl rfl rfl ?_|refine ybu rfl rfl rfl rfl ?_|refine zI ?_|refine zL ?_|refine zC ?_|refine yes ?_|refine ydt ?_|refine zR ?_|refine zD ?_|refine zK ?_|refine zB ?_|refine zA ?_|refine zS ?_|refine zU ?_|refine zV ?_|refine zF ?_|refine zN ?_|with_reducible refine ybh ?_|with_reducible refine ybw ?_|refine yby ?_|refine ybt ?_|refine yde ?_|refine zT ?_|refine zE ?_|refine zX ?_))
  refine yac rfl (fun h2=>?_) (fun h2=>?_)
  ·rw [zln] at h2
   have h2:set.getLsbD k=true:=by simpa using h2
   have hen:=hset k h1 h2
   obtain ⟨i,r,hi,hr⟩:=rul_get (p:=p) (s:=⟨g,c,k⟩) (by simpa [zuf] using hen)
   (repeat (first|refine zy ?_|refine yaf rfl rfl (zin h h1) rfl rfl (ynz 29 (y:=i64 i) rfl (yoj hi) ?_)|refine yaf rfl rfl (mmove_con h h1 hr) rfl rfl ?_))
   have hrow:zxo p (yat p g) ⟨g,c,k⟩ i=zvw p g c k:=by unfold zvw;rw [hi];rfl
   refine ybv tok rfl rfl rfl rfl (by omega) (by omega) rfl rfl ?_
   refine ymh tok rfl rfl rfl rfl rfl rfl (by rw [List.length_map,hkl];omega) rfl (congrArg (fun z=>hlook ((10,some (LObj.vec z))::_)) (show _=(zlo p g c set (k+1)).map yah by rw [zjm hst,h2,if_pos rfl,List.map_set,hrow];simp)) rfl rfl ?_
   (try refine zy ?_)
   exact zae (k+1) (by omega) (by omega) (by exact zs) (yaq (yad rfl yak))
  ·rw [zln] at h2
   have h2:set.getLsbD k=false:=by simpa using h2
   (try refine zy ?_)
   refine zae (k+1) (by omega) (by omega) (by exact zs) (hsE (by rw [stpK_same h1 h2]))
 ·simp at h1
  obtain rfl:k=c.length:=by omega
  (try refine zy ?_)
  refine yae ?_;refine ⟨_,rfl,?_⟩
  rw [stpK_all]
  exact frz_cfgV rfl (by rw [yhx])
end
section
open Go.RowKit
theorem zeh {p:ProgD} {g:GraphD} {c:List (List Int)} (hc:c.length≤24) (v:Nat):(yll p g c).getLsbD v=(decide (v < c.length) && zuf p g c v):=by
 unfold yll
 rcases Nat.lt_or_ge v 32 with h|h
 ·exact ypw _ _ _ h
 ·rw [BitVec.getLsbD_of_ge _ _ h,show decide (v < c.length)=false by simp;omega];rfl
theorem ztp {A B:BitVec 32} (h:A &&& ~~~B=0#32) {v:Nat} (hv:A.getLsbD v=true):B.getLsbD v=true:=by
 rcases Nat.lt_or_ge v 32 with h9|h9
 ·have:=congrArg (fun X=>BitVec.getLsbD X v) h
  simp only [BitVec.getLsbD_and,BitVec.getLsbD_not,hv,BitVec.getLsbD_zero,Bool.true_and] at this
  simpa [h9] using this
 ·rw [BitVec.getLsbD_of_ge _ _ h9] at hv;cases hv
theorem CfgOk.step {p:ProgD} {g:GraphD} {c:List (List Int)} (h:CfgOk p g c) (set:BitVec 32):CfgOk p g (yxh p g c set):=⟨h.fair,stp_check h.fair h.chk set⟩
end
section
open Go.RowKit
def yqp (c:List (List Int)):Bool:=decide (c.length≤30) && c.all fun r=>decide (r.length≤10)
theorem lightC_in {c:List (List Int)} (h:yqp c=true):zpa c:=by
 simp only [yqp,Bool.and_eq_true,decide_eq_true_eq,List.all_eq_true] at h
 exact ⟨by omega,fun r hr=>by have:=h.2 r hr;omega⟩
theorem lightCfg_con (c:List (List Int)):Con Tryz.prog 18 [yhm c] (ybq (yqp c)):=by
 refine yao Tryz.func18 rfl rfl Tryz.ntmps18 Tryz.results18 rfl rfl ?_
 (try refine zy ?_)
 refine yac rfl (fun h=>?_) (fun h=>?_)
 ·(try refine zy ?_)
  refine yae ?_;refine ⟨_,rfl,?_⟩
  simp at h
  exact yag (by simp [yqp];omega)
 have hl:c.length≤30:=by simp at h;omega
 (try refine zy ?_)
 refine ydi (α:=Nat) (fun k=>[(3,i64 k),(0,yhm c)]) (fun k=>[]) (fun k=>c.length - k) (fun k=>k≤c.length∧(c.take k).all (fun r=>decide (r.length≤10))=true) 0 ⟨by omega,rfl⟩ (by exact zs) (by exact zh) ?_
 intro k ⟨hk,hok⟩
 (try refine zy ?_)
 refine yac rfl (fun h1=>?_) (fun h1=>?_)
 ·simp at h1
  obtain ⟨r,hr⟩:=ycg h1
  (try refine zy ?_)
  refine yac rfl (fun h2=>?_) (fun h2=>?_)
  ·(try refine zy ?_)
   refine yae ?_;refine ⟨_,rfl,?_⟩
   simp at h2
   exact yag (by rw [yqp,ymj hr (by simp;omega),Bool.and_false])
  ·(try refine zy ?_)
   simp at h2
   exact rnd (k+1) ⟨by omega,yoa hr hok (by simp;omega)⟩ (by omega) (by exact zs) (by exact zh)
 ·simp at h1
  obtain rfl:k=c.length:=by omega
  (try refine zy ?_)
  refine yae ?_;refine ⟨_,rfl,?_⟩
  rw [List.take_length] at hok
  exact yag (by simp only [yqp,hok,hl];rfl)
end
section
open Go.RowKit
def ytk (r:RuleD):Nat:=r.guard.length+(r.sets.map fun x=>x.val.length).sum
def zjp (p:ProgD):Nat:=(p.rules.map ytk).sum
theorem zoq {α:Type} {f:α→Nat} {m:Nat}:∀ {l:List α},(∀ x∈l,f x≤m)→(l.map f).sum≤l.length * m
 | [],_=>by simp
 | a::l,h=>by
  have:=zoq (l:=l) fun x hx=>h x (by simp [hx])
  have:=h a (by simp)
  simp only [List.map_cons,List.sum_cons,List.length_cons,Nat.succ_mul]
  omega
theorem yxi {p:ProgD} (h:yds p=true):p.rules.length≤16∧(∀ r∈p.rules,r.guard.length≤250∧r.sets.length≤10∧∀ x∈r.sets,x.val.length≤250)∧zjp p≤44000∧∀ r∈p.rules,ytk r≤2750:=by
 unfold yds at h
 simp only [Bool.and_eq_true,decide_eq_true_eq,List.all_eq_true] at h
 have hr:∀ r∈p.rules,r.guard.length≤250∧r.sets.length≤10∧∀ x∈r.sets,x.val.length≤250:=fun r hr=>by
  have:=h.2.2.2.2 r hr
  unfold ynn at this
  simp only [Bool.and_eq_true,decide_eq_true_eq,List.all_eq_true] at this
  refine ⟨by omega,by omega,fun x hx=>?_⟩
  have:=this.2.2.2 x hx
  omega
 have ht:∀ r∈p.rules,ytk r≤2750:=fun r hr'=>by
  obtain ⟨h1,h2,h3⟩:=hr r hr'
  have:=zoq (f:=fun x:SetD=>x.val.length) h3
  unfold ytk
  omega
 refine ⟨h.2.2.1,hr,?_,ht⟩
 have:=zoq ht
 unfold zjp
 omega
theorem zor {α:Type} {f:α→Nat} {l:List α} {k:Nat} {x:α} (h:l[k]?=some x):((l.take (k+1)).map f).sum=((l.take k).map f).sum+f x:=by
 rw [ybj h];simp
theorem zos {α:Type} {f:α→Nat} (l:List α) (k:Nat):((l.take k).map f).sum≤(l.map f).sum:=by
 have:=congrArg (fun l=>(l.map f).sum) (List.take_append_drop k l)
 simp only [List.map_append,List.sum_append] at this
 omega
theorem zjq (p:ProgD) (hl:yds p=true):Con Tryz.prog 44 [ytn p] (i64 (zjp p)):=by
 obtain ⟨h1,h2,h3,h4⟩:=yxi hl
 refine yao Tryz.func44 rfl rfl Tryz.ntmps44 Tryz.results44 rfl rfl ?_
 (try refine zy ?_)
 refine ydi (α:=Nat) (fun k=>[(4,i64 k),(3,i64 (((p.rules.take k).map ytk).sum:Nat)),(1,.lp 1 0)]) (fun k=>[(1,some (.cells [zdp p.name,.sl 6 (p.vars.map ydj),.sl 3 (p.rules.map ydo)]))]) (fun k=>p.rules.length - k) (fun k=>k≤p.rules.length) 0 (by omega) (by exact zs) (by exact zh) ?_
 intro k hk
 have hb1:=zos (f:=ytk) p.rules k
 have hb1:((p.rules.take k).map ytk).sum≤44000:=Nat.le_trans hb1 h3
 (try refine zy ?_)
 refine yac rfl (fun q1=>?_) (fun q1=>?_)
 ·simp at q1
  obtain ⟨r,hr⟩:=ycg q1
  obtain ⟨g1,g2,g3⟩:=h2 r (List.mem_of_getElem? hr)
  (try refine zy ?_)
  refine ydi (α:=Nat) (fun j=>[(5,i64 j),(4,i64 k),(3,i64 (((p.rules.take k).map ytk).sum+r.guard.length+((r.sets.take j).map fun x=>x.val.length).sum:Nat)),(1,.lp 1 0)]) (fun j=>[(1,some (.cells [zdp p.name,.sl 6 (p.vars.map ydj),.sl 3 (p.rules.map ydo)]))]) (fun j=>r.sets.length - j) (fun j=>j≤r.sets.length) 0 (by omega) ?_ (by exact zh) ?_
  ·refine yas rfl (yas rfl (yas (yhe rfl (yoj (by simp))) (by exact zs)))
  intro j hj
  have hb2:=zos (f:=fun x:SetD=>x.val.length) r.sets j
  have hb2:((r.sets.take j).map fun x=>x.val.length).sum≤2500:=Nat.le_trans hb2 (Nat.le_trans (zoq g3) (by omega))
  (try refine zy ?_)
  refine yac rfl (fun q2=>?_) (fun q2=>?_)
  ·simp at q2
   obtain ⟨x,hx⟩:=ycg q2
   have:=g3 x (List.mem_of_getElem? hx)
   (try refine zy ?_)
   refine rnd (j+1) (by omega) (by omega) ?_ (by exact zh)
   refine yas rfl (yas rfl (yas (yhe rfl (yoj ?_)) (by exact zs)))
   rw [zor hx];omega
  ·simp at q2
   obtain rfl:j=r.sets.length:=by omega
   (try refine zy ?_)
   refine rnd (k+1) (by omega) (by omega) ?_ (by exact zh)
   refine yas rfl (yas (yhe rfl (yoj ?_)) (by exact zs))
   rw [zor hr,ytk,List.take_length];omega
 ·simp at q1
  obtain rfl:k=p.rules.length:=by omega
  (try refine zy ?_)
  refine yae ?_;refine ⟨_,rfl,?_⟩
  exact yai (by rw [List.take_length];rfl)
def zxm (g:GraphD):Nat:=g.ports.foldl (fun d l=>max d l.length) 1
theorem deg_snoc {l:List (List Lk)} {k:Nat} {x:List Lk} (h:l[k]?=some x):(l.take (k+1)).foldl (fun d l=>max d l.length) 1=max ((l.take k).foldl (fun d l=>max d l.length) 1) x.length:=by
 rw [ybj h,List.foldl_append];rfl
theorem zvf {m:Nat}:∀ {l:List (List Lk)} {d:Nat},d≤m→(∀ x∈l,x.length≤m)→l.foldl (fun d l=>max d l.length) d≤m
 | [],d,h,_=>h
 | a::l,d,h,hl=>zvf (l:=l) (by have:=hl a (by simp);show max d a.length≤m;omega) fun x hx=>hl x (by simp [hx])
theorem yyd (g:GraphD) (hl:yjt g=true):Con Tryz.prog 45 [ynl g] (i64 (zxm g)):=by
 obtain ⟨h1,h2,h3⟩:=(ydh g).1 hl
 refine yao Tryz.func45 rfl rfl Tryz.ntmps45 Tryz.results45 rfl rfl ?_
 (try refine zy ?_)
 refine ydi (α:=Nat) (fun k=>[(4,i64 k),(3,i64 ((g.ports.take k).foldl (fun d l=>max d l.length) 1:Nat)),(1,.lp 1 0)]) (fun k=>[(1,some (.cells [yah g.ids,yau g.ports]))]) (fun k=>g.ports.length - k) (fun k=>k≤g.ports.length) 0 (by omega) (yas rfl (yas (yhe rfl (yoj (by simp))) (by exact zs))) (by exact zh) ?_
 intro k hk
 (try refine zy ?_)
 refine yac rfl (fun q1=>?_) (fun q1=>?_)
 ·simp at q1
  obtain ⟨ls,hls⟩:=ycg q1
  (try refine zy ?_)
  refine rnd (k+1) (by omega) (by omega) ?_ (by exact zh)
  refine yas rfl (yas (yhe rfl (yoj ?_)) (by exact zs))
  rw [deg_snoc hls]
  generalize (g.ports.take k).foldl (fun d l=>max d l.length) 1=d
  split <;> omega
 ·simp at q1
  obtain rfl:k=g.ports.length:=by omega
  (try refine zy ?_)
  refine yae ?_;refine ⟨_,rfl,?_⟩
  exact yai (by rw [List.take_length];rfl)
theorem zre (g:GraphD) (hl:yjt g=true):zxm g≤30:=by
 obtain ⟨h1,h2,h3⟩:=(ydh g).1 hl
 exact zvf (by omega) h3
theorem zyk {a b c A B C:Nat} (ha:a≤A) (hb:b≤B) (hc:c≤C):0≤(a:Int) * b∧(a:Int) * b≤(A * B:Nat)∧0≤(a:Int) * b * c∧(a:Int) * b * c≤(A * B * C:Nat)∧0≤(a:Int) * b * c * c∧(a:Int) * b * c * c≤(A * B * C * C:Nat):=by
 have h1:a * b≤A * B:=Nat.mul_le_mul ha hb
 have h2:a * b * c≤A * B * C:=Nat.mul_le_mul h1 hc
 have h3:a * b * c * c≤A * B * C * C:=Nat.mul_le_mul h2 hc
 have e1:(a:Int) * b=((a * b:Nat):Int):=by simp
 have e2:(a:Int) * b * c=((a * b * c:Nat):Int):=by simp
 have e3:(a:Int) * b * c * c=((a * b * c * c:Nat):Int):=by simp
 rw [e3,e2,e1]
 omega
def yos (p:ProgD) (g:GraphD):Bool:=yds p && yjt g && decide ((zjp p:Int) * g.ports.length * zxm g * zxm g≤100000)
theorem quick_con (p:ProgD) (g:GraphD) (hin:yhi p):Con Tryz.prog 43 [ytn p,ynl g] (ybq (yos p g)):=by
 refine yao Tryz.func43 rfl rfl Tryz.ntmps43 Tryz.results43 rfl rfl ?_
 (repeat (first|refine zy ?_|refine yaf rfl rfl (lightP_con p hin) rfl rfl ?_))
 refine yay 9 rfl (fun h1=>?_) (fun h1=>?_)
 ·(try refine zy ?_)
  refine yae ?_;refine ⟨_,rfl,?_⟩
  exact yag (by simp at h1;simp [yos,h1])
 have h1:yds p=true:=by simpa using h1
 (repeat (first|refine zy ?_|refine yaf rfl rfl (lightGraph_con g) rfl rfl ?_))
 refine yac rfl (fun h2=>?_) (fun h2=>?_)
 ·(try refine zy ?_)
  refine yae ?_;refine ⟨_,rfl,?_⟩
  exact yag (by simp at h2;simp [yos,h2])
 have h2:yjt g=true:=by simpa using h2
 have hm:=zyk (yxi h1).2.2.1 ((ydh g).1 h2).2.1 (zre g h2)
 (repeat (first|refine zy ?_|refine yaf rfl rfl (yyd g h2) rfl rfl ?_|refine yaf rfl rfl (zjq p h1) rfl rfl ?_))
 refine yae ?_;refine ⟨_,rfl,?_⟩
 exact yag (by simp [yos,h1,h2])
def yyh (p:ProgD) (g:GraphD) (c:List (List Int)) (n:Int):Bool:=yos p g && decide ((zjp p:Int) * g.ports.length * zxm g * zxm g≤20000) && yqp c && decide (n≤40) && (yhl p g c == 0)
theorem tfair_con (p:ProgD) (g:GraphD) (c:List (List Int)) (n:Int) (hin:yhi p):Con Tryz.prog 8 [ytn p,ynl g,yhm c,i64 n] (ybq (yyh p g c n)):=by
 refine yao Tryz.func8 rfl rfl Tryz.ntmps8 Tryz.results8 rfl rfl ?_
 (repeat (first|refine zy ?_|refine yaf rfl rfl (quick_con p g hin) rfl rfl ?_))
 refine yay 12 rfl (fun h1=>?_) (fun h1=>?_)
 ·have h1:yos p g=true:=h1
  have hl1:yds p=true:=by unfold yos at h1;simp only [Bool.and_eq_true] at h1;exact h1.1.1
  have hl2:yjt g=true:=by unfold yos at h1;simp only [Bool.and_eq_true] at h1;exact h1.1.2
  have hm:=zyk (yxi hl1).2.2.1 ((ydh g).1 hl2).2.1 (zre g hl2)
  (repeat (first|refine zy ?_|refine yaf rfl rfl (yyd g hl2) rfl rfl ?_|refine yaf rfl rfl (zjq p hl1) rfl rfl ?_))
  refine yay 27 rfl (fun h2=>?_) (fun h2=>?_)
  ·(repeat (first|refine zy ?_|refine yaf rfl rfl (lightCfg_con c) rfl rfl ?_))
   refine yay 31 rfl (fun h3=>?_) (fun h3=>?_)
   ·have h3:yqp c=true:=h3
    (try refine zy ?_)
    refine yay 35 rfl (fun h4=>?_) (fun h4=>?_)
    ·(repeat (first|refine zy ?_|refine yaf rfl rfl (rvalid10_con p g c ⟨hin,zfe hl1,hl2⟩ (lightC_in h3)) rfl rfl ?_))
     refine yae ?_;refine ⟨_,rfl,?_⟩
     simp at h2 h4
     exact yag (by simp [yyh,h1,h2,h3,h4])
    ·(try refine zy ?_)
     refine yae ?_;refine ⟨_,rfl,?_⟩
     simp at h4
     exact yag (by simp [yyh];omega)
   ·(try refine zy ?_)
    refine yae ?_;refine ⟨_,rfl,?_⟩
    have h3:yqp c=false:=h3
    exact yag (by simp [yyh,h3])
  ·(try refine zy ?_)
   refine yae ?_;refine ⟨_,rfl,?_⟩
   simp at h2
   exact yag (by simp [yyh];omega)
 ·(try refine zy ?_)
  refine yae ?_;refine ⟨_,rfl,?_⟩
  have h1:yos p g=false:=h1
  exact yag (by simp [yyh,h1])
theorem fairT_ok {p:ProgD} {g:GraphD} {c:List (List Int)} {n:Int} (hin:yhi p) (h:yyh p g c n=true):CfgOk p g c∧n≤40∧yqp c=true:=by
 unfold yyh yos at h
 simp only [Bool.and_eq_true,decide_eq_true_eq,beq_iff_eq] at h
 exact ⟨⟨⟨hin,zfe h.1.1.1.1.1.1,h.1.1.1.1.1.2⟩,h.2⟩,h.1.2,h.1.1.2⟩
theorem fairT_light {p:ProgD} {g:GraphD} {c:List (List Int)} {n:Int} (h:yyh p g c n=true):yds p=true:=by
 unfold yyh yos at h
 simp only [Bool.and_eq_true] at h
 exact h.1.1.1.1.1.1
theorem zed {α:Type} {f:α→Bool} {l:List α} {k:Nat} {x:α} (h:l[k]?=some x):(l.take (k+1)).any f=((l.take k).any f || f x):=by
 rw [ybj h];simp
end
section
open Go.RowKit
variable {P:Program} {T:Nat→Option Ty} {N:Nat} {ops:Array Oper} {lf:Oper→Bool} {Q:SS→Prop} {t:List (Nat × AV)} {h:List (Nat × Option LObj)} {rest:List Oper} {d:Nat} {op:Op} {ty:TypeId} {pos:String} {af:Array Edge} {gd:Option (Nat × Bool)} {r:AV}
theorem zga (B C:BitVec 32):IntKind.u32.wrap ((B.toNat:Int) - C.toNat)=((B - C).toNat:Int):=by
 have:=B.isLt
 have:=C.isLt
 rw [BitVec.toNat_sub]
 simp only [IntKind.wrap,IntKind.signed,IntKind.bits,Bool.false_and,if_false,Bool.false_eq_true]
 omega
theorem negU_val (B:BitVec 32):IntKind.u32.wrap (0 - (B.toNat:Int))=((-B).toNat:Int):=by
 have:=B.isLt
 rw [BitVec.toNat_neg]
 simp only [IntKind.wrap,IntKind.signed,IntKind.bits,Bool.false_and,if_false,Bool.false_eq_true]
 omega
theorem zkh (hT:TOK P T) {z:Int} {X:BitVec 32} (hr:yqd T t h op ty=some (.v (.int .u32 (IntKind.u32.wrap z)))) (hz:IntKind.u32.wrap z=(X.toNat:Int)) (hw:yaj ops (look t) ⟨some d,op,ty,pos,af,gd⟩=some true) (hd:Nat.blt d N=true) (k:Lex P N ops lf Q rest (S ((d,ycb X)::t) h)):Lex P N ops lf Q (⟨some d,op,ty,pos,af,gd⟩::rest) (S t h):=by
 rw [hz] at hr
 exact zgm hT hr hw hd k
theorem yxq (hT:TOK P T) {x y:Operand} {B C:BitVec 32} {tx ty':TypeId} (hx:evF (look t) x=some (ycb B)) (hy:evF (look t) y=some (ycb C)) (hr:yqd T t h (.binOp .sub tx x y ty') ty=some (.v (.int .u32 (IntKind.u32.wrap ((B.toNat:Int) - C.toNat)))))
  (hw:yaj ops (look t) ⟨some d,.binOp .sub tx x y ty',ty,pos,af,gd⟩=some true) (hd:Nat.blt d N=true) (k:Lex P N ops lf Q rest (S ((d,ycb (B - C))::t) h)):Lex P N ops lf Q (⟨some d,.binOp .sub tx x y ty',ty,pos,af,gd⟩::rest) (S t h):=
 zkh hT hr (zga B C) hw hd k
theorem yxp (hT:TOK P T) {x y:Operand} {B:BitVec 32} {tx ty':TypeId} (hx:evF (look t) x=some (ycb B)) (hy:evF (look t) y=some (.v (.int .u32 1))) (hr:yqd T t h (.binOp .sub tx x y ty') ty=some (.v (.int .u32 (IntKind.u32.wrap ((B.toNat:Int) - 1)))))
  (hw:yaj ops (look t) ⟨some d,.binOp .sub tx x y ty',ty,pos,af,gd⟩=some true) (hd:Nat.blt d N=true) (k:Lex P N ops lf Q rest (S ((d,ycb (B - 1#32))::t) h)):Lex P N ops lf Q (⟨some d,.binOp .sub tx x y ty',ty,pos,af,gd⟩::rest) (S t h):=
 zkh hT hr (zga B 1#32) hw hd k
theorem yxo (hT:TOK P T) {x:Operand} {B:BitVec 32} {tx:TypeId} (hx:evF (look t) x=some (ycb B)) (hr:yqd T t h (.unOp .neg tx x) ty=some (.v (.int .u32 (IntKind.u32.wrap (0 - (B.toNat:Int))))))
  (hw:yaj ops (look t) ⟨some d,.unOp .neg tx x,ty,pos,af,gd⟩=some true) (hd:Nat.blt d N=true) (k:Lex P N ops lf Q rest (S ((d,ycb (-B))::t) h)):Lex P N ops lf Q (⟨some d,.unOp .neg tx x,ty,pos,af,gd⟩::rest) (S t h):=
 zkh hT hr (negU_val B) hw hd k
def zwn (n:Nat):BitVec 32:=(1#32 <<< n) - 1#32
theorem allV_bit:∀ (n:Nat),n≤24→∀ i,i < 32→(zwn n).getLsbD i=decide (i < n):=by decide +kernel
end
section
open Go.RowKit
theorem has_con (B:BitVec 32) (v:Nat) (hv:v < 32):Con Tryz.prog 56 [ycb B,i64 v] (ybq (B.getLsbD v)):=by
 refine yao Tryz.func56 rfl rfl Tryz.ntmps56 Tryz.results56 rfl rfl ?_
 (repeat (first|refine ymi tok rfl (by constructor <;> omega) rfl rfl ?_|refine ygr rfl rfl (by omega) rfl rfl ?_|refine ygs rfl rfl (by omega) rfl rfl ?_|refine ymg rfl rfl rfl rfl ?_|refine yfg rfl rfl rfl rfl ?_|refine yhh rfl rfl rfl rfl ?_|refine ybu rfl rfl rfl rfl ?_|refine zI ?_|refine zL ?_|refine zC ?_|refine yes ?_|refine ydt ?_|refine zR ?_|refine zD ?_|refine zK ?_|refine zB ?_|refine zA ?_|refine zS ?_|refine zU ?_|refine zV ?_|refine zF ?_|refine zN ?_|with_reducible refine ybh ?_|with_reducible refine ybw ?_|refine yby ?_|refine ybt ?_|refine yde ?_|refine zT ?_|refine zE ?_|refine zX ?_))
 refine yay 7 rfl (fun h1=>?_) (fun h1=>?_)
 ·(repeat (first|refine ymi tok rfl (by constructor <;> omega) rfl rfl ?_|refine ygr rfl rfl (by omega) rfl rfl ?_|refine ygs rfl rfl (by omega) rfl rfl ?_|refine ymg rfl rfl rfl rfl ?_|refine yfg rfl rfl rfl rfl ?_|refine yhh rfl rfl rfl rfl ?_|refine ybu rfl rfl rfl rfl ?_|refine zI ?_|refine zL ?_|refine zC ?_|refine yes ?_|refine ydt ?_|refine zR ?_|refine zD ?_|refine zK ?_|refine zB ?_|refine zA ?_|refine zS ?_|refine zU ?_|refine zV ?_|refine zF ?_|refine zN ?_|with_reducible refine ybh ?_|with_reducible refine ybw ?_|refine yby ?_|refine ybt ?_|refine yde ?_|refine zT ?_|refine zE ?_|refine zX ?_))
  refine yay 11 rfl (fun h2=>?_) (fun h2=>?_)
  ·(repeat (first|refine ymi tok rfl (by constructor <;> omega) rfl rfl ?_|refine ygr rfl rfl (by omega) rfl rfl ?_|refine ygs rfl rfl (by omega) rfl rfl ?_|refine ymg rfl rfl rfl rfl ?_|refine yfg rfl rfl rfl rfl ?_|refine yhh rfl rfl rfl rfl ?_|refine ybu rfl rfl rfl rfl ?_|refine zI ?_|refine zL ?_|refine zC ?_|refine yes ?_|refine ydt ?_|refine zR ?_|refine zD ?_|refine zK ?_|refine zB ?_|refine zA ?_|refine zS ?_|refine zU ?_|refine zV ?_|refine zF ?_|refine zN ?_|with_reducible refine ybh ?_|with_reducible refine ybw ?_|refine yby ?_|refine ybt ?_|refine yde ?_|refine zT ?_|refine zE ?_|refine zX ?_))
   refine yae ?_;refine ⟨_,rfl,?_⟩
   rw [← zln]
   exact Frz.pure
  ·exact absurd h2 (by simp;omega)
 ·exact absurd h1 (by simp)
def zbh (l:List Int) (n:Nat):Bool:=decide (l.length=n∧(∀ x∈l,0≤x∧x < n)∧l.Nodup)
def yig (l:List Int) (v:Nat):Nat:=(l.getD v 0).toNat
def ygq (l:List Int) (u:Nat):Nat:=l.idxOf (u:Int)
theorem zfm {l:List Int} {n:Nat} (h:zbh l n=true):Ren n (yig l) (ygq l):=by
 obtain ⟨h1,h2,h3⟩:=of_decide_eq_true h
 have hget:∀ v,v < n→∃ x,l[v]?=some x∧0≤x∧x < n∧yig l v=x.toNat:=fun v hv=>by
  obtain ⟨x,hx⟩:=ycg (show v < l.length by omega)
  have:=h2 x (List.mem_of_getElem? hx)
  exact ⟨x,hx,this.1,this.2,by simp [yig,List.getD_eq_getElem?_getD,hx]⟩
 have hall:∀ u,u < n→(u:Int)∈l:=fun u hu=>by
  by_cases hm:(u:Int)∈l
  ·exact hm
  ·exfalso
   have:=List.Nodup.length_le_of_subset (l₁:=(u:Int)::l) (l₂:=(List.range n).map fun v:Nat=>(v:Int)) (List.nodup_cons.2 ⟨hm,h3⟩) fun x hx=>by
    rcases List.mem_cons.1 hx with rfl|hx
    ·exact List.mem_map.2 ⟨u,List.mem_range.2 hu,rfl⟩
    ·have:=h2 x hx
     exact List.mem_map.2 ⟨x.toNat,List.mem_range.2 (by omega),by omega⟩
   simp at this
   omega
 refine ⟨fun v hv=>?_,fun u hu=>?_,fun v hv=>?_,fun u hu=>?_⟩
 ·obtain ⟨x,_,h4,h5,h6⟩:=hget v hv
  omega
 ·have:=List.idxOf_lt_length_of_mem (hall u hu)
  unfold ygq;omega
 ·obtain ⟨x,hx,h4,h5,h6⟩:=hget v hv
  unfold ygq
  rw [h6,show ((x.toNat:Nat):Int)=x by omega]
  obtain ⟨hv',e⟩:=List.getElem?_eq_some_iff.1 hx
  rw [← e]
  exact h3.idxOf_getElem _ _
 ·have hm:=hall u hu
  have hlt:=List.idxOf_lt_length_of_mem hm
  have:l[l.idxOf (u:Int)]?=some (u:Int):=by rw [List.getElem?_eq_getElem hlt,List.getElem_idxOf hlt]
  simp [yig,ygq,List.getD_eq_getElem?_getD,this]
theorem zii (l:List Tm) (hl:l.length≤1000):Con Tryz.prog 46 [yeq l] (ybq (ywf l)):=by
 refine yao Tryz.func46 rfl rfl Tryz.ntmps46 Tryz.results46 rfl rfl ?_
 (try refine zy ?_)
 refine ydi (α:=Nat) (fun k=>[(3,i64 k),(0,yeq l)]) (fun k=>[]) (fun k=>l.length - k) (fun k=>k≤l.length∧(l.take k).any (fun t=>zaf t.1)=false) 0 ⟨by omega,rfl⟩ (by exact zs) yak ?_
 rintro k ⟨hk,hok⟩
 (try refine zy ?_)
 refine yac rfl (fun h1=>?_) (fun h1=>?_)
 ·simp at h1
  obtain ⟨t,ht⟩:=ycg h1
  have hany:=zed (f:=fun t:Tm=>zaf t.1) ht
  have hbad:zaf t.1=true→ywf l=true:=fun e=>List.any_eq_true.2 ⟨t,List.mem_of_getElem? ht,e⟩
  (try refine zy ?_)
  refine yay 16 rfl (fun h2=>?_) (fun h2=>?_)
  ·(try refine zy ?_)
   refine yae ?_;refine ⟨_,rfl,?_⟩
   exact yag (.symm <| hbad (by simp only [zaf,h2,Bool.true_or]))
  ·(try refine zy ?_)
   refine yac rfl (fun h3=>?_) (fun h3=>?_)
   ·(try refine zy ?_)
    refine yae ?_;refine ⟨_,rfl,?_⟩
    exact yag (.symm <| hbad (by simp only [zaf,h3,Bool.or_true]))
   ·(try refine zy ?_)
    refine rnd (k+1) ⟨by omega,?_⟩ (by omega) (by exact zs) yak
    rw [hany,hok,Bool.false_or,zaf,h2,h3];rfl
 ·simp at h1
  obtain rfl:k=l.length:=by omega
  (try refine zy ?_)
  refine yae ?_;refine ⟨_,rfl,?_⟩
  rw [List.take_length] at hok
  exact yag hok.symm
theorem rooted_con (p:ProgD) (hl:yds p=true):Con Tryz.prog 9 [ytn p] (ybq (zte p)):=by
 obtain ⟨h1,h2,h3,h4⟩:=yxi hl
 let rB:RuleD→Bool:=fun r=>ywf r.guard || r.sets.any fun x=>ywf x.val
 refine yao Tryz.func9 rfl rfl Tryz.ntmps9 Tryz.results9 rfl rfl ?_
 (try refine zy ?_)
 refine ydi (α:=Nat) (fun k=>[(3,i64 k),(1,.lp 1 0)]) (fun k=>[(1,some (.cells [zdp p.name,.sl 6 (p.vars.map ydj),.sl 3 (p.rules.map ydo)]))]) (fun k=>p.rules.length - k) (fun k=>k≤p.rules.length∧(p.rules.take k).any rB=false) 0 ⟨by omega,rfl⟩ (by exact zs) (by exact zh) ?_
 rintro k ⟨hk,hok⟩
 (try refine zy ?_)
 refine yac rfl (fun q1=>?_) (fun q1=>?_)
 ·simp at q1
  obtain ⟨r,hr⟩:=ycg q1
  have hany:=zed (f:=rB) hr
  have hm:=List.mem_of_getElem? hr
  have hbad:rB r=true→zte p=true:=fun e=>List.any_eq_true.2 ⟨r,hm,e⟩
  obtain ⟨g1,g2,g3⟩:=h2 r hm
  (repeat (first|refine zy ?_|refine yaf rfl rfl (zii r.guard (by omega)) rfl rfl ?_))
  refine yac rfl (fun q2=>?_) (fun q2=>?_)
  ·(try refine zy ?_)
   refine yae ?_;refine ⟨_,rfl,?_⟩
   exact yag (.symm <| hbad (by show (ywf r.guard || _)=true;rw [q2];rfl))
  (try refine zy ?_)
  refine ydi (α:=Nat) (fun j=>[(4,i64 j),(3,i64 k),(1,.lp 1 0)]) (fun j=>[(1,some (.cells [zdp p.name,.sl 6 (p.vars.map ydj),.sl 3 (p.rules.map ydo)]))]) (fun j=>r.sets.length - j) (fun j=>j≤r.sets.length∧(r.sets.take j).any (fun x=>ywf x.val)=false) 0 ⟨by omega,rfl⟩ (by exact zs) (by exact zh) ?_
  rintro j ⟨hj,hok2⟩
  (try refine zy ?_)
  refine yac rfl (fun q3=>?_) (fun q3=>?_)
  ·simp at q3
   obtain ⟨x,hx⟩:=ycg q3
   have hxm:=List.mem_of_getElem? hx
   have hany2:=zed (f:=fun x:SetD=>ywf x.val) hx
   have:=g3 x hxm
   (repeat (first|refine zy ?_|refine yaf rfl rfl (zii x.val (by omega)) rfl rfl ?_))
   refine yac rfl (fun q4=>?_) (fun q4=>?_)
   ·(try refine zy ?_)
    refine yae ?_;refine ⟨_,rfl,?_⟩
    exact yag (.symm <| hbad (by show (_ || r.sets.any fun x=>ywf x.val)=true;rw [Bool.or_eq_true];exact .inr (List.any_eq_true.2 ⟨x,hxm,q4⟩)))
   ·(try refine zy ?_)
    refine rnd (j+1) ⟨by omega,?_⟩ (by omega) (by exact zs) (by exact zh)
    rw [hany2,hok2,Bool.false_or];exact q4
  ·simp at q3
   obtain rfl:j=r.sets.length:=by omega
   (try refine zy ?_)
   refine rnd (k+1) ⟨by omega,?_⟩ (by omega) (by exact zs) (by exact zh)
   rw [List.take_length] at hok2
   rw [hany,hok,Bool.false_or]
   show (ywf r.guard || _)=false
   rw [q2,hok2];rfl
 ·simp at q1
  obtain rfl:k=p.rules.length:=by omega
  (try refine zy ?_)
  refine yae ?_;refine ⟨_,rfl,?_⟩
  rw [List.take_length] at hok
  exact yag hok.symm
theorem nodup_snoc {l:List Int} {k:Nat} {x:Int} (hx:l[k]?=some x) (h:(l.take k).Nodup) (hn:x ∉ l.take k):(l.take (k+1)).Nodup:=by
 rw [ybj hx,List.nodup_append]
 exact ⟨h,by simp,fun a ha b hb e=>by cases List.mem_singleton.1 hb;subst e;exact hn ha⟩
theorem rperm_con (l:List Int) (n:Nat) (hn:n≤1000):Con Tryz.prog 10 [yah l,i64 n] (ybq (zbh l n)):=by
 refine yao Tryz.func10 rfl rfl Tryz.ntmps10 Tryz.results10 rfl rfl ?_
 (try refine zy ?_)
 refine yac rfl (fun h1=>?_) (fun h1=>?_)
 ·(try refine zy ?_)
  refine yae ?_;refine ⟨_,rfl,?_⟩
  have h1:¬ l.length=n:=fun e=>by rw [e] at h1;simp at h1
  exact yag (by unfold zbh;rw [decide_eq_false];exact fun h=>h1 h.1)
 have hlen:l.length=n:=by
  have:(l.length:Int)=n:=by simpa [bne] using h1
  omega
 (try refine zy ?_)
 refine ydi (α:=Nat) (fun k=>[(5,i64 k),(1,i64 n),(0,yah l)]) (fun k=>[]) (fun k=>n - k) (fun k=>k≤n∧(∀ x∈l.take k,0≤x∧x < n)∧(l.take k).Nodup) 0 ⟨by omega,by simp,by simp⟩ (by exact zs) yak ?_
 rintro k ⟨hk,hin,hnd⟩
 (try refine zy ?_)
 refine yac rfl (fun h2=>?_) (fun h2=>?_)
 ·simp at h2
  obtain ⟨x,hx⟩:=ycg (show k < l.length by omega)
  have hxm:=List.mem_of_getElem? hx
  (repeat (first|refine zy ?_|refine yaf rfl rfl (yyu x 0 ((n:Int) - 1)) rfl rfl ?_))
  refine yac rfl (fun h3=>?_) (fun h3=>?_)
  ·(try refine zy ?_)
   refine yae ?_;refine ⟨_,rfl,?_⟩
   have h3:¬ (0≤x∧x < n):=by
    simp [inB] at h3;omega
   exact yag (by unfold zbh;rw [decide_eq_false];exact fun h=>h3 (h.2.1 x hxm))
  have h3:0≤x∧x < n:=by
   simp [inB] at h3;omega
  (try refine zy ?_)
  refine ydi (α:=Nat) (fun j=>[(6,i64 j),(5,i64 k),(1,i64 n),(0,yah l)]) (fun j=>[]) (fun j=>k - j) (fun j=>j≤k∧x ∉ l.take j) 0 ⟨by omega,by simp⟩ (by exact zs) yak ?_
  rintro j ⟨hj,hno⟩
  (try refine zy ?_)
  refine yac rfl (fun h4=>?_) (fun h4=>?_)
  ·simp at h4
   obtain ⟨y,hy⟩:=ycg (show j < l.length by omega)
   (try refine zy ?_)
   refine yac rfl (fun h5=>?_) (fun h5=>?_)
   ·(try refine zy ?_)
    refine yae ?_;refine ⟨_,rfl,?_⟩
    have h5:y=x:=by simpa using h5
    subst h5
    exact yag (by
     unfold zbh
     rw [decide_eq_false]
     intro h
     have:=(List.getElem?_inj (show j < l.length by omega) h.2.2).1 (hy.trans hx.symm)
     omega)
   ·(try refine zy ?_)
    have h5:¬ y=x:=by simpa using h5
    refine rnd (j+1) ⟨by omega,?_⟩ (by omega) (by exact zs) yak
    rw [ybj hy,List.mem_append,List.mem_singleton]
    exact fun h=>h.elim hno fun e=>h5 e.symm
  ·simp at h4
   obtain rfl:j=k:=by omega
   (try refine zy ?_)
   refine rnd (j+1) ⟨by omega,fun z hz=>?_,nodup_snoc hx hnd hno⟩ (by omega) (by exact zs) yak
   rw [ybj hx,List.mem_append,List.mem_singleton] at hz
   rcases hz with hz|rfl
   ·exact hin z hz
   ·exact h3
 ·simp at h2
  obtain rfl:k=n:=by omega
  (try refine zy ?_)
  refine yae ?_;refine ⟨_,rfl,?_⟩
  rw [List.take_of_length_le (by omega)] at hin hnd
  exact yag (by unfold zbh;rw [decide_eq_true];exact ⟨hlen,hin,hnd⟩)
def ytg (l:List Int) (n k:Nat):List AV:=(List.range n).map fun u:Nat=>ybq (decide ((u:Int)∈l.take k))
theorem zfx {l:List Int} {n k u:Nat} (h:u < n):(ytg l n k)[u]?=some (ybq (decide ((u:Int)∈l.take k))):=by simp [ytg,h]
theorem seenK_next {l:List Int} {n k:Nat} {x:Int} (hx:l[k]?=some x) (h0:0≤x∧x < n):(ytg l n k).set x.toNat (ybq true)=ytg l n (k+1):=by
 apply List.ext_getElem?
 intro u
 rw [List.getElem?_set]
 by_cases hu:u < n
 ·rw [zfx hu,zfx hu,ybj hx]
  by_cases e:x.toNat=u
  ·rw [if_pos e,if_pos (by simp [ytg];omega)]
   rw [decide_eq_true]
   simp;exact .inr (by omega)
  ·rw [if_neg e]
   have:¬ (u:Int)=x:=by omega
   simp [this]
 ·rw [List.getElem?_eq_none (l:=ytg l n (k+1)) (by simp [ytg];omega),List.getElem?_eq_none (l:=ytg l n k) (by simp [ytg];omega)]
  simp [ytg]
  omega
theorem perm_con (l:List Int) (n:Nat) (hn:n≤24) (h:zbh l n=true):Con Tryz.prog 50 [yah l,i64 n] (ybq true):=by
 obtain ⟨hlen,hin,hnd⟩:=of_decide_eq_true h
 refine yao Tryz.func50 rfl rfl Tryz.ntmps50 Tryz.results50 rfl rfl ?_
 (try refine zy ?_)
 refine yac rfl (fun h1=>?_) (fun h1=>?_)
 ·simp [hlen] at h1
 (repeat (first|refine zy ?_|refine zbm tok rfl rfl rfl rfl (by constructor <;> omega) rfl rfl rfl rfl rfl ?_))
 refine ygb (α:=Nat) (fun k=>[(16,i64 k),(15,i64 l.length),(14,yah l),(5,.ls 13 1 n),(1,i64 n)]) (fun k=>[(13,some (.vec (ytg l n k)))]) (fun k=>n - k) (fun k=>k≤n) 0 (by omega) (by exact zs) ?_ ?_
 ·refine yaq (yad ?_ yak)
  show some _=some _
  congr 2
  rw [show ykq [Value.bool false]=[ybq false] from rfl,zvu]
  simp only [ytg,List.take_zero,List.not_mem_nil,decide_false]
  rw [List.map_const',List.length_range]
 intro k hk
 (try refine zy ?_)
 refine yac rfl (fun h2=>?_) (fun h2=>?_)
 ·simp [hlen] at h2
  obtain ⟨x,hx⟩:=ycg (show k < l.length by omega)
  have h0:=hin x (List.mem_of_getElem? hx)
  obtain ⟨a,rfl⟩:∃ a:Nat,x=a:=⟨x.toNat,by omega⟩
  have ha:a < n:=by omega
  have hno:(a:Int) ∉ l.take k:=fun hm=>by
   obtain ⟨i,hi⟩:=List.getElem?_of_mem hm
   have hik:i < k:=by have:=(List.getElem?_eq_some_iff.1 hi).1;simp at this;omega
   rw [List.getElem?_take,if_pos hik] at hi
   have:=(List.getElem?_inj (show i < l.length by omega) hnd).1 (hi.trans hx.symm)
   omega
  have hat:=zfx (l:=l) (k:=k) ha
  rw [decide_eq_false hno] at hat
  (try refine zy ?_)
  refine yay 22 rfl (fun h3=>?_) (fun h3=>?_)
  ·simp at h3;omega
  (try refine zy ?_)
  refine yay 27 rfl (fun h4=>?_) (fun h4=>?_)
  ·simp at h4;omega
  (repeat (first|refine zy ?_|refine ybv tok rfl rfl rfl rfl (by omega) (by omega) rfl rfl ?_|refine yqy (r:=ybq false) tok rfl rfl rfl rfl (by rw [show ((a:Int).toNat * 1)=a by simp];exact hat) rfl rfl ?_))
  refine ymh tok rfl rfl rfl rfl rfl rfl (by simp [ytg];omega) rfl (congrArg (fun z=>hlook ((13,some (LObj.vec z))::_)) (show _=ytg l n (k+1) by rw [show ((a:Int).toNat * 1)=(a:Int).toNat by simp];exact seenK_next hx h0)) rfl rfl ?_
  (try refine zy ?_)
  exact zae (k+1) (by omega) (by omega) (by exact zs) (yaq (yad rfl yak))
 ·simp [hlen] at h2
  obtain rfl:k=n:=by omega
  (try refine zy ?_)
  refine yae ?_;refine ⟨_,rfl,?_⟩
  exact Frz.pure
theorem yum (B:BitVec 32) (l:List Int) (n:Nat) (hn:n≤24) (h:zbh l n=true):Con Tryz.prog 15 [ycb B,yah l] (ycb (yin (ygq l) n B)):=by
 obtain ⟨hlen,hin,hnd⟩:=of_decide_eq_true h
 have R:=zfm h
 let mK:Nat→BitVec 32:=fun k=>(List.range k).foldl (fun A v=>if B.getLsbD v then A ||| (1#32 <<< yig l v) else A) 0#32
 have hnext:∀ k,mK (k+1)=if B.getLsbD k then mK k ||| (1#32 <<< yig l k) else mK k:=fun k=>by
  show List.foldl _ _ _=_
  rw [List.range_succ,List.foldl_append];rfl
 have hone:∀ {k u:Nat},u < 32→(1#32 <<< k).getLsbD u=decide (u=k):=fun {k u} hu=>by
  rw [BitVec.getLsbD_shiftLeft]
  by_cases e:u=k
  ·subst e;simp [hu]
  ·simp [e,BitVec.getLsbD_one];omega
 have hbit:∀ k,k≤n→∀ u,u < 32→(mK k).getLsbD u=(decide (u < n) && (decide (ygq l u < k) && B.getLsbD (ygq l u))):=by
  intro k
  induction k with
  | zero=>intro _ u _;simp [mK]
  | succ k ih=>
   intro hk u hu
   have ih:=ih (by omega) u hu
   rw [hnext]
   have hf:=R.lt k (by omega)
   by_cases hb:B.getLsbD k=true
   ·rw [if_pos hb,BitVec.getLsbD_or,ih,hone hu]
    by_cases e:u=yig l k
    ·subst e
     rw [R.back k (by omega),hb];simp [hf]
    ·by_cases hun:u < n
     ·have:ygq l u≠k:=fun q=>e (by rw [← q,R.forth u hun])
      have:(ygq l u < k+1)↔ygq l u < k:=by omega
      simp [e,this]
     ·simp [e,hun]
   ·rw [if_neg hb,ih]
    by_cases hun:u < n
    ·by_cases q:ygq l u=k
     ·rw [q];simp [hb]
     ·have:(ygq l u < k+1)↔ygq l u < k:=by omega
      simp [this]
    ·simp [hun]
 have hall:mK n=yin (ygq l) n B:=by
  apply BitVec.eq_of_getLsbD_eq
  intro u hu
  rw [hbit n (by omega) u hu,ydv hu]
  by_cases hun:u < n
  ·have:=R.ilt u hun;simp [this]
  ·simp [hun]
 refine yao Tryz.func15 rfl rfl Tryz.ntmps15 Tryz.results15 rfl rfl ?_
 (try refine zy ?_)
 refine ydi (α:=Nat) (fun k=>[(6,i64 k),(5,ycb (mK k)),(0,ycb B),(1,yah l)]) (fun k=>[]) (fun k=>n - k) (fun k=>k≤n) 0 (by omega) (by exact zs) yak ?_
 intro k hk
 (try refine zy ?_)
 refine yac rfl (fun h1=>?_) (fun h1=>?_)
 ·simp [hlen] at h1
  obtain ⟨x,hx⟩:=ycg (show k < l.length by omega)
  have h0:=hin x (List.mem_of_getElem? hx)
  have hfx:yig l k=x.toNat:=by simp [yig,List.getD_eq_getElem?_getD,hx]
  (repeat (first|refine zy ?_|refine yaf rfl rfl (has_con B k (by omega)) rfl rfl ?_))
  refine yac rfl (fun h2=>?_) (fun h2=>?_)
  ·(repeat (first|refine ymi tok rfl (by constructor <;> omega) rfl rfl ?_|refine ygr rfl rfl (by omega) rfl rfl ?_|refine ygs rfl rfl (by omega) rfl rfl ?_|refine ymg rfl rfl rfl rfl ?_|refine yfg rfl rfl rfl rfl ?_|refine yhh rfl rfl rfl rfl ?_|refine ybu rfl rfl rfl rfl ?_|refine zI ?_|refine zL ?_|refine zC ?_|refine yes ?_|refine ydt ?_|refine zR ?_|refine zD ?_|refine zK ?_|refine zB ?_|refine zA ?_|refine zS ?_|refine zU ?_|refine zV ?_|refine zF ?_|refine zN ?_|with_reducible refine ybh ?_|with_reducible refine ybw ?_|refine yby ?_|refine ybt ?_|refine yde ?_|refine zT ?_|refine zE ?_|refine zX ?_))
   refine rnd (k+1) (by omega) (by omega) (yas rfl (yas (yhe rfl ?_) (by exact zs))) yak
   rw [hnext,if_pos h2,hfx]
  ·(try refine zy ?_)
   refine rnd (k+1) (by omega) (by omega) (yas rfl (yas (yhe rfl ?_) (by exact zs))) yak
   rw [hnext,if_neg (by rw [h2];simp)]
 ·simp [hlen] at h1
  obtain rfl:k=n:=by omega
  (try refine zy ?_)
  refine yae ?_;refine ⟨_,rfl,?_⟩
  rw [← hall]
  exact Frz.pure
end
section
open Go.RowKit
def zjz (n k:Nat):List AV:=(List.range k).map (fun v:Nat=>i64 v)++List.replicate (n - k) (i64 0)
theorem fidK_len {n k:Nat} (h:k≤n):(zjz n k).length=n:=by simp [zjz];omega
theorem fidK_next {n k:Nat} (h:k < n):(zjz n k).set k (i64 k)=zjz n (k+1):=by
 unfold zjz
 rw [List.set_append_right _ _ (by simp),List.range_succ]
 obtain ⟨m,hm⟩:∃ m,n - k=m+1:=⟨n - k - 1,by omega⟩
 rw [show n - (k+1)=m by omega,hm]
 simp [List.replicate_succ]
theorem zhf (n:Nat) (hn:n≤24):ywc Tryz.prog 51 [i64 n] (hlook []) (.agg [.ls 6 1 n,.ls 8 1 n]) (hlook [(6,some (.vec (zjz n n))),(8,some (.vec (List.replicate n ynp)))]):=by
 refine yyc tok Tryz.func51 rfl rfl Tryz.ntmps51 Tryz.results51 rfl (fun id o h h2=>?_) ?_
 ·simp only [hlook] at h
  split at h
  ·cases h;cases h2
  ·split at h
   ·cases h;cases h2
   ·cases h
 (repeat (first|with_reducible refine ybw ?_|with_reducible refine ybh ?_|refine ybt ?_));refine ydt ?_;refine yci (lf:=lfT) rfl ?_
 (try refine zo ?_)
 refine zt ?_
 have hz1:yna n (ykq [Value.int .i64 0])=zjz n 0:=by
  rw [show ykq [Value.int .i64 0]=[i64 0] from rfl,zvu];simp [zjz]
 have hz2:yna n (ykq [Value.slice none 0 0])=List.replicate n ynp:=by
  rw [show ykq [Value.slice none 0 0]=[ynp] from rfl,zvu]
 refine zbk [(3,.lp 3 0),(2,.lp 2 0)] [(3,some (.cells [.ls 6 1 n,.ls 8 1 n])),(6,some (.vec (yna n (ykq [Value.int .i64 0])))),(8,some (.vec (yna n (ykq [Value.slice none 0 0])))),(2,some (.cells (ykq zxg.zero)))] ?_ ?_
 ·have hlim:n≤4294967296∧8 * n≤281474976710656:=by constructor <;> omega
  have hlim2:n≤4294967296∧24 * n≤281474976710656:=by constructor <;> omega
  refine ycv (lf:=lf0) yzi rfl ?_
  repeat' (first
   | refine zo ?_
   | refine zbm tok rfl rfl rfl rfl (by first|exact hlim|exact hlim2) rfl rfl rfl rfl rfl ?_
   | exact mid (by exact zs) (by exact zh)
   | exact trivial
   | refine ⟨⟨_,rfl,?_⟩,?_⟩
   | refine ycj [0,1,4,6] (yaa rfl (yaa rfl (yaa rfl (yaa rfl ybb)))) rfl (by decide +kernel) ?_
   | refine ycj [1,4,6] (yaa rfl (yaa rfl (yaa rfl ybb))) rfl (by decide +kernel) ?_
   | refine ycj [2,3,4,6] (yaa rfl (yaa rfl (yaa rfl (yaa rfl ybb)))) rfl (by decide +kernel) ?_
   | refine ycj [3,4,6] (yaa rfl (yaa rfl (yaa rfl ybb))) rfl (by decide +kernel) ?_
   | refine ycj [4,6] (yaa rfl (yaa rfl ybb)) rfl (by decide +kernel) ?_
   | refine ycj [5,6] (yaa rfl (yaa rfl ybb)) rfl (by decide +kernel) ?_
   | refine ycl [1,2,5] _ rfl (by decide +kernel) (by simp) ?_
   | refine ycl [0,3,5] _ rfl (by decide +kernel) (by simp) ?_
   | refine ycl [1,3,5] _ rfl (by decide +kernel) (by simp) ?_
   | refine ycl [0,2,5] _ rfl (by decide +kernel) (by simp) ?_
   | refine ycl [1,3] _ rfl (by decide +kernel) (by simp) ?_
   | refine ycl [2,5] _ rfl (by decide +kernel) (by simp) ?_
   | refine ycl [0,5] _ rfl (by decide +kernel) (by simp) ?_
   | refine ycl [0,3] _ rfl (by decide +kernel) (by simp) ?_
   | refine ycl [3,5] _ rfl (by decide +kernel) (by simp) ?_
   | refine ycl [0,2] _ rfl (by decide +kernel) (by simp) ?_
   | refine ycl [4,5] _ rfl (by decide +kernel) (by simp) ?_
   | refine ycl [1,5] _ rfl (by decide +kernel) (by simp) ?_
   | refine ycl [1,2] _ rfl (by decide +kernel) (by simp) ?_)
 rw [hz1,hz2]
 (repeat (first|refine zy ?_|refine L_lenI tok rfl rfl rfl rfl rfl ?_))
 refine ygb (α:=Nat) (fun k=>[(13,i64 k),(12,i64 n),(3,.lp 3 0),(2,.lp 2 0)]) (fun k=>[(6,some (.vec (zjz n k))),(3,some (.cells [.ls 6 1 n,.ls 8 1 n])),(8,some (.vec (List.replicate n ynp))),(2,some (.cells (ykq zxg.zero)))]) (fun k=>n - k) (fun k=>k≤n) 0 (by omega) (by exact zs) (yaq (yad rfl (yad rfl (yad rfl (yad rfl yak))))) ?_
 intro k hk
 (try refine zy ?_)
 refine yac rfl (fun h1=>?_) (fun h1=>?_)
 ·simp at h1
  have hil:=fidK_len hk
  (repeat (first|refine zy ?_|refine ybv tok rfl rfl rfl rfl (by omega) (by omega) rfl rfl ?_))
  refine ymh tok rfl rfl rfl rfl rfl rfl (by rw [hil];omega) rfl (congrArg (fun z=>hlook ((6,some (LObj.vec z))::_)) (show _=zjz n (k+1) by rw [show ((k:Int).toNat * 1)=k by simp,fidK_next h1])) rfl rfl ?_
  (try refine zy ?_)
  exact zae (k+1) (by omega) (by omega) (by exact zs) (yaq (yad rfl (yad rfl (yad rfl (yad rfl yak)))))
 ·simp at h1
  obtain rfl:k=n:=by omega
  (try refine zy ?_)
  refine yae ⟨_,rfl,yng _,?_⟩
  exact yaq (yad rfl (yad rfl yak))
def ylu (n:Nat) (r:Nat→Nat→Bool) (v k:Nat):List Lk:=((List.range k).filter fun u=>v != u && r (min v u) (max v u)).map fun u:Nat=>((u:Int),(1:Int))
def zxp (n:Nat) (r:Nat→Nat→Bool):GraphD:=⟨(List.range n).map fun v:Nat=>(v:Int),(List.range n).map fun v=>ylu n r v n⟩
theorem linkR_len {n:Nat} {r:Nat→Nat→Bool} {v k:Nat}:(ylu n r v k).length≤k:=by
 unfold ylu
 rw [List.length_map]
 have:=List.length_filter_le (fun u=>v != u && r (min v u) (max v u)) (List.range k)
 simpa using this
theorem zcn {n:Nat} {r:Nat→Nat→Bool} {v k:Nat}:ylu n r v (k+1)=if (v != k && r (min v k) (max v k))=true then ylu n r v k++[((k:Int),(1:Int))] else ylu n r v k:=by
 unfold ylu
 rw [List.range_succ,List.filter_append,List.map_append]
 simp only [List.filter_cons,List.filter_nil]
 split <;> simp
def rwF (n:Nat) (r:Nat→Nat→Bool) (v k:Nat):List (List AV):=((List.range v).map fun u=>(ylu n r u n).flatMap ycs)++(ylu n r v k).flatMap ycs::List.replicate (n - v - 1) []
def rwO (n:Nat) (r:Nat→Nat→Bool) (v:Nat):List (List AV):=((List.range v).map fun u=>(ylu n r u n).flatMap ycs)++List.replicate (n - v) []
theorem rwF_zero {n:Nat} {r:Nat→Nat→Bool} {v:Nat} (h:v < n):rwO n r v=rwF n r v 0:=by
 unfold rwO rwF
 rw [show n - v=(n - v - 1)+1 by omega,List.replicate_succ]
 rfl
theorem zai {n:Nat} {r:Nat→Nat→Bool} {v:Nat}:((List.range v).map fun u=>(ylu n r u n).flatMap ycs).length=v:=by simp
theorem rwF_at {n:Nat} {r:Nat→Nat→Bool} {v k:Nat}:(rwF n r v k)[v]?=some ((ylu n r v k).flatMap ycs):=by
 unfold rwF
 rw [List.getElem?_append_right (by rw [zai];omega),zai,Nat.sub_self];rfl
theorem rwF_len {n:Nat} {r:Nat→Nat→Bool} {v k:Nat} (h:v < n):(rwF n r v k).length=n:=by
 unfold rwF
 rw [List.length_append,zai,List.length_cons,List.length_replicate];omega
theorem rwF_next {n:Nat} {r:Nat→Nat→Bool} {v k:Nat} (h:v < n):(rwF n r v k).set v ((ylu n r v (k+1)).flatMap ycs)=rwF n r v (k+1):=by
 unfold rwF
 rw [List.set_append_right _ _ (by rw [zai];omega),zai,Nat.sub_self,List.set_cons_zero]
theorem rwF_end {n:Nat} {r:Nat→Nat→Bool} {v:Nat} (h:v < n):rwF n r v n=rwO n r (v+1):=by
 unfold rwF rwO
 rw [List.range_succ,List.map_append]
 simp [Nat.sub_sub]
theorem flat_lenF (l:List Lk):(l.flatMap ycs).length=l.length * 2:=by
 induction l with
 | nil=>rfl
 | cons a l ih=>simp [List.flatMap_cons,ih,ycs];omega
theorem znn {M sz v:Nat} {rows:List (List AV)} {r:List AV} {m:Nat} (h:rows[v]?=some r) (hm:r.length / sz=m):(yfn M sz 0 rows++[])[v]?=some (.ls (fam M v) sz m):=by
 rw [List.append_nil,yfe,h]
 simp only [Option.map_some,hm,Nat.zero_add]
def zsz (n:Nat):List (Nat × Option LObj):=[(5,some (.cells [yah ((List.range n).map fun v:Nat=>(v:Int)),.ls 61 1 n])),(4,some (.cells [AV.v (Value.slice none 0 0),AV.v (Value.slice none 0 0)]))]
theorem related_con {f:Nat} {r:Nat→Nat→Bool} (n:Nat) (hn:n≤24) (hf:∀ a b:Nat,a < n→b < n→Con Tryz.prog f [i64 a,i64 b] (ybq (r a b))):Con Tryz.prog 168 [i64 n,.fn f []] (ynl (zxp n r)):=by
 have hids:zjz n n=((List.range n).map fun v:Nat=>(v:Int)).map i64:=by simp [zjz]
 refine yfy tok Tryz.func168 rfl rfl Tryz.ntmps168 Tryz.results168 rfl rfl ?_
 (repeat (first|with_reducible refine ybw ?_|with_reducible refine ybh ?_|refine ybt ?_));refine ydt ?_;refine yci (lf:=lfT) rfl ?_
 (try refine zo ?_)
 refine zt ?_;refine yci (lf:=lfT) rfl ?_
 (try refine zo ?_)
 refine yxm [(6,60),(8,61)] (zhf n hn) rfl rfl rfl rfl rfl rfl rfl yak rfl rfl rfl rfl rfl rfl ?_
 (try refine zo ?_)
 refine zt ?_
 refine ztz (t':=[(5,.lp 5 0),(4,.lp 4 0),(0,i64 n),(1,.fn f [])]) (h':=[(5,some (.cells [.ls 60 1 n,.ls 61 1 n])),(60,some (.vec (zjz n n))),(61,some (.vec (List.replicate n ynp))),(4,some (.cells [AV.v (Value.slice none 0 0),AV.v (Value.slice none 0 0)]))]) ?_ (by exact zs) (by exact zh)
 refine ylf 5 0 (((List.range n).map fun v:Nat=>(v:Int)).map fun z=>[i64 z]) rfl rfl rfl (by simp) (fun row hr=>by obtain ⟨y,_,rfl⟩:=List.mem_map.1 hr;rfl) (by rw [hids,ygg]) rfl rfl rfl rfl ?_
 refine yxk 61 (List.replicate n ynp) rfl rfl ?_
 refine ztz (t':=[(5,.lp 5 0),(4,.lp 4 0),(0,i64 n),(1,.fn f [])]) (h':=zsz n++[(61,some (yjd (List.replicate n ynp)))]) ?_ (by exact zs) (by exact zh)
 refine yxl (f:=zsz n) 61 2 n rfl rfl rfl rfl rfl ?_
 (try refine zy ?_)
 refine ygb (α:=Nat) (fun v=>[(11,i64 v),(10,i64 n),(5,.lp 5 0),(4,.lp 4 0),(0,i64 n),(1,.fn f [])]) (fun v=>zsz n++yec 61 2 (rwO n r v) []) (fun v=>n - v) (fun v=>v≤n) 0 (by omega) (by exact zs) (hsE (by simp [rwO])) ?_
 intro v hv
 (try refine zy ?_)
 refine yac rfl (fun h1=>?_) (fun h1=>?_)
 ·simp at h1
  (try refine zy ?_)
  refine ygb (α:=Nat) (fun u=>[(15,i64 u),(14,i64 n),(6,i64 v),(11,i64 v),(10,i64 n),(5,.lp 5 0),(4,.lp 4 0),(0,i64 n),(1,.fn f [])]) (fun u=>zsz n++yec 61 2 (rwF n r v u) []) (fun u=>n - u) (fun u=>u≤n) 0 (by omega) (by exact zs) (hsE (by rw [rwF_zero h1])) ?_
  intro u hu
  (try refine zy ?_)
  refine yac rfl (fun h2=>?_) (fun h2=>?_)
  ·simp at h2
   have hcall:=hf (min v u) (max v u) (by omega) (by omega)
   have hsame:(v != u && r (min v u) (max v u))=false→rwF n r v (u+1)=rwF n r v u:=fun e=>by
    unfold rwF;rw [zcn,e,if_neg (by simp)]
   (try refine zw ?_)
   refine yay 21 rfl (fun h3=>?_) (fun h3=>?_)
   ·have hne:v≠u:=by
     intro e;subst e;simp at h3
    (repeat (first|refine zw ?_|refine ynz 25 (y:=i64 ((min v u:Nat):Int)) rfl (yoj (by split <;> omega)) ?_|refine ynz 28 (y:=i64 ((max v u:Nat):Int)) rfl (yoj (by split <;> omega)) ?_|refine yaf rfl rfl hcall rfl rfl ?_))
    refine yac rfl (fun h4=>?_) (fun h4=>?_)
    ·have hnx:ylu n r v (u+1)=ylu n r v u++[((u:Int),(1:Int))]:=by rw [zcn,if_pos (by simp [hne,h4])]
     have hll:=linkR_len (n:=n) (r:=r) (v:=v) (k:=u)
     have hfl:=flat_lenF (ylu n r v u)
     have hrow:=rwF_at (n:=n) (r:=r) (v:=v) (k:=u)
     have hcell:=znn (M:=61) (sz:=2) hrow (m:=(ylu n r v u).length) (by rw [hfl];omega)
     have hk1:((v:Int).toNat * 1)=v:=by simp
     have hlr:=rwF_len (n:=n) (r:=r) (k:=u) h1
     (try refine zw ?_)
     refine ycv (lf:=lf0) yzi rfl ?_
     refine ymk [3,4,5,6,7,8,9,10] 6 (yaa rfl (yaa rfl (yaa rfl (yaa rfl (yaa rfl (yaa rfl (yaa rfl (yaa rfl ybb)))))))) rfl (by kernel_rfl) ?_
     (repeat (first|refine zo ?_|refine ybv tok rfl rfl (yea (f:=zsz n) rfl) rfl (by omega) (by omega) rfl rfl ?_|refine yqy (r:=.ls (fam 61 v) 2 (ylu n r v u).length) tok rfl rfl rfl (by rw [yea (f:=zsz n) rfl];exact ymp _) (by rw [hk1];exact hcell) rfl rfl ?_))
     have hat:hlook (zsz n++(61,some (yjd ((yfn 61 2 0 (rwF n r v u)++[]).set v .one)))::yqm 61 0 ((rwF n r v u).set v ((ylu n r v u).flatMap ycs++[[i64 u,i64 1]].flatten))) 61=some (yjd ((yfn 61 2 0 (rwF n r v u)++[]).set v .one)):=by rw [yba _ _ (ykx rfl),ybe]
     refine yrz tok yok [(0,31,.lp 5 (0+1)),(1,32,.ls 61 1 n),(2,33,i64 v)] 11 42 [38] (.ls (fam 61 v) 2 ((ylu n r v u).length+1)) (req:=[(5,.lp 5 0),(6,i64 v)]) 2 rfl (by kernel_rfl) rfl rfl rfl (by kernel_rfl) (by kernel_rfl) rfl ⟨⟨rfl,rfl,rfl⟩,⟨rfl,rfl,rfl⟩,trivial⟩ rfl
      ⟨⟨_,[(5,.lp 5 0),(6,i64 v)],rfl,rfl,rfl,by kernel_rfl,by kernel_rfl,by kernel_rfl,by kernel_rfl,rfl,rfl,rfl⟩,⟨_,[(31,.lp 5 (0+1)),(5,.lp 5 0),(6,i64 v)],rfl,rfl,rfl,by kernel_rfl,by kernel_rfl,by kernel_rfl,by kernel_rfl,rfl,rfl,rfl⟩,⟨_,[(5,.lp 5 0),(6,i64 v)],rfl,rfl,rfl,by kernel_rfl,by kernel_rfl,by kernel_rfl,by kernel_rfl,rfl,rfl,rfl⟩,trivial⟩ rfl rfl rfl
      (fun t ht hl=>yoi (s:=⟨t,_⟩) (t':=yis [38] t) (i:=v) (news:=[[i64 u,i64 1]]) (f:=zsz n) tok (fun x y h=>(zev hl h).imp (fun e=>e) fun e=>⟨e.1,yok.ment (yfl _ _) e.2⟩) (fun x y h=>yys h) rfl rfl rfl (ht 38 _ rfl) hrow hfl (ht 41 _ rfl) (by intro c hc;simp at hc;rcases hc with rfl|rfl <;> rfl) (by constructor <;> simp <;> omega) rfl rfl rfl rfl rfl rfl) ?_
     refine ycj [12,13] (yaa rfl (yaa rfl ybb)) rfl (by kernel_rfl) ?_
     refine ybv tok rfl rfl hat rfl (by omega) (by omega) rfl rfl ?_
     refine yrx tok rfl rfl rfl rfl rfl hat (by rw [List.length_set,List.append_nil,yej,hlr];omega) rfl rfl ?_
     refine zuv (h':=zsz n++yec 61 2 (rwF n r v (u+1)) []) ?_ ?_
     ·rw [hk1]
      refine (zeu (f:=zsz n) rfl (by omega) rfl (by rw [hlr];exact h1) (by rw [List.length_append,hfl];simp)).trans ?_
      rw [← rwF_next h1,hnx,List.flatMap_append]
      rfl
     (try refine zy ?_)
     exact zae (u+1) (by omega) (by omega) (by exact zs) (fun _ _ h=>h)
    ·(try refine zy ?_)
     exact zae (u+1) (by omega) (by omega) (by exact zs) (hsE (by rw [hsame (by rw [show r (min v u) (max v u)=false from h4];simp)]))
   ·(try refine zy ?_)
    exact zae (u+1) (by omega) (by omega) (by exact zs) (hsE (by rw [hsame (by
     have:v=u:=by
      have:(v:Int)=u:=by simpa using h3
      omega
     subst this;simp)]))
  ·simp at h2
   obtain rfl:u=n:=by omega
   (try refine zy ?_)
   exact zae (v+1) (by omega) (by omega) (by exact zs) (hsE (by rw [rwF_end h1]))
 ·simp at h1
  obtain rfl:v=n:=by omega
  (try refine zy ?_)
  refine yae ?_;refine ⟨_,rfl,?_⟩
  refine Frz.aggL rfl rfl fun i x y hx hy=>?_
  have hi:=(List.getElem?_eq_some_iff.1 hx).1
  have:i=0∨i=1:=by simp at hi;omega
  rcases this with rfl|rfl
  ·cases hx;cases hy;exact Frz.pure
  ·cases hx
   simp only [zxp,List.getElem?_cons_succ,List.getElem?_cons_zero,Option.some.injEq] at hy
   subst hy
   have:=Frz.mat (f:=(4,some (.cells [yah ((List.range v).map fun u:Nat=>(u:Int)),.ls 61 1 v]))::zsz v) (M:=61) (sz:=2) (rows:=rwO v r v) (els:=(zxp v r).ports.map fun ls=>ls.map ycs) rfl rfl rfl (by omega) (by intro e he x hx;obtain ⟨q,_,rfl⟩:=List.mem_map.1 he;obtain ⟨z,_,rfl⟩:=List.mem_map.1 hx;rfl) (n:=v) (by simp [zxp]) (by
    simp only [rwO,zxp,Nat.sub_self,List.replicate_zero,List.append_nil,List.map_map]
    exact List.map_congr_left fun u _=>List.flatMap_def)
   rw [List.map_map] at this
   exact this
theorem path1_con (a b:Nat) (h:a < 30∧b < 30):Con Tryz.prog 100 [i64 a,i64 b] (ybq (a+1 == b)):=by
 refine yao Tryz.func100 rfl rfl Tryz.ntmps100 Tryz.results100 rfl rfl ?_
 (try refine zy ?_)
 refine yae ?_;refine ⟨_,rfl,?_⟩
 exact yag (by rw [Bool.eq_iff_iff,beq_iff_eq,beq_iff_eq];omega)
def zpo (n:Nat):GraphD:=zxp n fun a b=>a+1 == b
theorem path_con (n:Nat) (hn:1≤n∧n≤24):Con Tryz.prog 48 [i64 n] (.tup [ynl (zpo n),i64 0]):=by
 have hr:=related_con (f:=100) (r:=fun a b=>a+1 == b) n hn.2 fun a b ha hb=>path1_con a b (by omega)
 have ho:Con Tryz.prog 99 [i64 n,.fn 100 []] (.tup [ynl (zpo n),i64 0]):=by
  refine yfy tok Tryz.func99 rfl rfl Tryz.ntmps99 Tryz.results99 rfl rfl ?_
  (try refine zy ?_)
  refine yay 8 rfl (fun h1=>?_) (fun h1=>?_)
  ·simp at h1;omega
  (try refine zy ?_)
  refine yac rfl (fun h2=>?_) (fun h2=>?_)
  ·simp at h2;omega
  (repeat (first|refine zy ?_|refine yaf rfl rfl hr rfl rfl ?_))
  refine yae ?_;refine ⟨_,rfl,?_⟩
  exact Frz.pure
 refine yfy tok Tryz.func48 rfl rfl Tryz.ntmps48 Tryz.results48 rfl rfl ?_
 (repeat (first|refine zy ?_|refine yaf rfl rfl ho rfl rfl ?_))
 refine yae ?_;refine ⟨_,rfl,?_⟩
 exact Frz.pure
end
section
open Go.RowKit
def zvb (g:GraphD) (v j w:Nat):Nat:=if w < v then (g.ports.getD w []).length else if w=v then j else 0
def lkR (f:Nat→Nat) (g:GraphD) (w k:Nat):List AV:=(((g.ports.getD w []).take k).map (ykz f)).flatMap ycs
def yke (f i:Nat→Nat) (g:GraphD) (v j:Nat):List (List AV):=(List.range g.ports.length).map fun u=>lkR f g (i u) (zvb g v j (i u))
def zpz (i:Nat→Nat) (g:GraphD) (v:Nat):List AV:=(List.range g.ports.length).map fun u:Nat=>i64 (if i u < v then g.ids.getD (i u) 0 else u)
section
variable {f i:Nat→Nat} {g:GraphD}
theorem ytf {v j:Nat}:(yke f i g v j).length=g.ports.length:=by simp [yke]
theorem zah {v j u:Nat} (h:u < g.ports.length):(yke f i g v j)[u]?=some (lkR f g (i u) (zvb g v j (i u))):=by simp [yke,h]
theorem rowsR_at (R:Ren g.ports.length f i) {v j:Nat} (h:v < g.ports.length):(yke f i g v j)[f v]?=some (lkR f g v j):=by
 rw [zah (R.lt v h),R.back v h];simp [zvb]
theorem rowsR_next (R:Ren g.ports.length f i) {v j:Nat} (h:v < g.ports.length):(yke f i g v j).set (f v) (lkR f g v (j+1))=yke f i g v (j+1):=by
 apply List.ext_getElem?
 intro u
 rw [List.getElem?_set,ytf]
 by_cases hu:u < g.ports.length
 ·rw [zah hu,zah hu]
  by_cases e:f v=u
  ·subst e
   rw [if_pos rfl,if_pos (R.lt v h),R.back v h];simp [zvb]
  ·have:i u≠v:=fun q=>e (by rw [← q,R.forth u hu])
   rw [if_neg e];simp [zvb,this]
 ·have:=R.lt v h
  rw [if_neg (by omega),List.getElem?_eq_none (by rw [ytf];omega),List.getElem?_eq_none (by rw [ytf];omega)]
theorem rowsR_end {v:Nat} {ls:List Lk} (hls:g.ports[v]?=some ls):yke f i g v ls.length=yke f i g (v+1) 0:=by
 unfold yke
 refine List.map_congr_left fun u _=>?_
 congr 1
 unfold zvb
 by_cases h1:i u < v
 ·rw [if_pos h1,if_pos (by omega)]
 ·by_cases h2:i u=v
  ·rw [if_neg h1,if_pos h2,if_pos (by omega),h2];simp [List.getD_eq_getElem?_getD,hls]
  ·rw [if_neg h1,if_neg h2,if_neg (by omega)];split <;> rfl
theorem flat_lenR (l:List Lk):(l.flatMap ycs).length=l.length * 2:=by
 induction l with
 | nil=>rfl
 | cons a l ih=>simp [List.flatMap_cons,ih,ycs];omega
theorem lkR_len {v k:Nat} {ls:List Lk} (hls:g.ports[v]?=some ls) (hk:k≤ls.length):(lkR f g v k).length=k * 2:=by
 unfold lkR
 rw [flat_lenR,List.length_map,List.length_take,List.getD_eq_getElem?_getD,hls,Option.getD_some,Nat.min_eq_left hk]
theorem lkR_next {v k:Nat} {ls:List Lk} {x:Lk} (hls:g.ports[v]?=some ls) (hx:ls[k]?=some x):lkR f g v (k+1)=lkR f g v k++ycs (ykz f x):=by
 unfold lkR
 rw [List.getD_eq_getElem?_getD,hls,Option.getD_some,ybj hx]
 simp
theorem rowsR_zero:yke f i g 0 0=List.replicate g.ports.length []:=by
 rw [List.eq_replicate_iff]
 refine ⟨by simp [yke],fun x hx=>?_⟩
 obtain ⟨u,_,rfl⟩:=List.mem_map.1 hx
 simp [lkR,zvb]
theorem rowsR_fin (R:Ren g.ports.length f i):yke f i g g.ports.length 0=(ybz f i g).ports.map fun ls=>ls.flatMap ycs:=by
 unfold yke ybz renL
 rw [List.map_map,List.map_map]
 refine List.map_congr_left fun u hu=>?_
 have:=R.ilt u (List.mem_range.1 hu)
 simp [lkR,zvb,this]
theorem yws {v:Nat}:(zpz i g v).length=g.ports.length:=by simp [zpz]
theorem zne {v u:Nat} (h:u < g.ports.length):(zpz i g v)[u]?=some (i64 (if i u < v then g.ids.getD (i u) 0 else u)):=by simp [zpz,h]
theorem idsR_next (R:Ren g.ports.length f i) {v:Nat} {a:Int} (h:v < g.ports.length) (ha:g.ids[v]?=some a):(zpz i g v).set (f v) (i64 a)=zpz i g (v+1):=by
 apply List.ext_getElem?
 intro u
 rw [List.getElem?_set,yws]
 by_cases hu:u < g.ports.length
 ·rw [zne hu,zne hu]
  by_cases e:f v=u
  ·subst e
   rw [if_pos rfl,if_pos (R.lt v h),R.back v h];simp [List.getD_eq_getElem?_getD,ha]
  ·have hne:i u≠v:=fun q=>e (by rw [← q,R.forth u hu])
   have:(i u < v+1)↔i u < v:=by omega
   rw [if_neg e];simp only [this]
 ·have:=R.lt v h
  rw [if_neg (by omega),List.getElem?_eq_none (by rw [yws];omega),List.getElem?_eq_none (by rw [yws];omega)]
theorem idsR_zero:zpz i g 0=zjz g.ports.length g.ports.length:=by simp [zpz,zjz]
theorem idsR_fin (hl:g.ids.length=g.ports.length) (R:Ren g.ports.length f i):zpz i g g.ports.length=(ybz f i g).ids.map i64:=by
 unfold zpz ybz renL
 rw [List.map_map,hl]
 refine List.map_congr_left fun u hu=>?_
 have:=R.ilt u (List.mem_range.1 hu)
 simp [this]
end
def zkc (g:GraphD) (f i:Nat→Nat) (v:Nat):List (Nat × Option LObj):=[(60,some (.vec (zpz i g v))),(6,some (.cells [.ls 60 1 g.ports.length,.ls 61 1 g.ports.length])),(2,some (.cells [yah g.ids,yau g.ports])),(4,some (.cells [AV.v (Value.slice none 0 0),AV.v (Value.slice none 0 0)]))]
theorem relabel_con (g:GraphD) (hg:ybs g=true) (hlg:yjt g=true) (l:List Int) (hp:zbh l g.ports.length=true):Con Tryz.prog 13 [ynl g,yah l] (.tup [ynl (ybz (yig l) (ygq l) g),i64 0]):=by
 have hf:=yal hg
 have R:=zfm hp
 obtain ⟨hlen,hin,hnd⟩:=of_decide_eq_true hp
 have hgv:=zcj g hlg
 rw [hg] at hgv
 have hpm:=perm_con l g.ids.length (by omega) (by rw [hf.2.2.1];exact hp)
 have hem:=zhf g.ids.length (by omega)
 refine yfy tok Tryz.func13 rfl rfl Tryz.ntmps13 Tryz.results13 rfl rfl ?_
 (repeat (first|with_reducible refine ybw ?_|with_reducible refine ybh ?_|refine ybt ?_));refine ydt ?_;refine yci (lf:=lfT) rfl ?_
 (try refine zo ?_)
 refine zt ?_;refine yci (lf:=lfT) rfl ?_
 (repeat (first|refine zo ?_|refine yaf rfl rfl hgv rfl rfl ?_))
 (repeat (first|refine zy ?_|refine yaf rfl rfl hpm rfl rfl ?_|refine yxm [(6,60),(8,61)] hem rfl rfl rfl rfl rfl rfl rfl yak rfl rfl rfl rfl rfl rfl ?_))
 rw [hf.2.2.1]
 refine ztz (t':=[(29,i64 0),(28,i64 g.ports.length),(27,yau g.ports),(6,.lp 6 0),(2,.lp 2 0),(4,.lp 4 0),(1,yah l)]) (h':=[(6,some (.cells [.ls 60 1 g.ports.length,.ls 61 1 g.ports.length])),(60,some (.vec (zjz g.ports.length g.ports.length))),(61,some (.vec (List.replicate g.ports.length ynp))),(2,some (.cells [yah g.ids,yau g.ports])),(4,some (.cells [AV.v (Value.slice none 0 0),AV.v (Value.slice none 0 0)]))]) ?_ (by exact zs) (yad rfl (yad rfl (yad rfl (yad rfl (yad rfl yak)))))
 refine yxk 61 (List.replicate g.ports.length ynp) rfl rfl ?_
 rw [← idsR_zero (i:=ygq l)]
 refine ztz (t':=[(29,i64 0),(28,i64 g.ports.length),(27,yau g.ports),(6,.lp 6 0),(2,.lp 2 0),(4,.lp 4 0),(1,yah l)]) (h':=zkc g (yig l) (ygq l) 0++[(61,some (yjd (List.replicate g.ports.length ynp)))]) ?_ (by exact zs) (yad rfl (yad rfl (yad rfl (yad rfl (yad rfl yak)))))
 refine yxl (f:=zkc g (yig l) (ygq l) 0) 61 2 g.ports.length rfl rfl rfl rfl rfl ?_
 refine ygb (α:=Nat) (fun v=>[(29,i64 v),(28,i64 g.ports.length),(27,yau g.ports),(6,.lp 6 0),(2,.lp 2 0),(4,.lp 4 0),(1,yah l)]) (fun v=>zkc g (yig l) (ygq l) v++yec 61 2 (yke (yig l) (ygq l) g v 0) []) (fun v=>g.ports.length - v) (fun v=>v≤g.ports.length) 0 (by omega) (by exact zs) (hsE (by rw [rowsR_zero])) ?_
 intro v hv
 (try refine zy ?_)
 refine yac rfl (fun h1=>?_) (fun h1=>?_)
 ·simp at h1
  obtain ⟨ls,hls⟩:=ycg h1
  have hll:=ydp h1 (hf.2.2.2.2.2.1 v ls hls)
  obtain ⟨x,hx⟩:=ycg (show v < l.length by omega)
  obtain ⟨a,ha⟩:=ycg (show v < g.ids.length by omega)
  have hx0:=hin x (List.mem_of_getElem? hx)
  obtain ⟨w,rfl⟩:∃ w:Nat,x=w:=⟨x.toNat,by omega⟩
  have hw:yig l v=w:=by simp [yig,List.getD_eq_getElem?_getD,hx]
  have hwn:=R.lt v h1
  rw [hw] at hwn
  (repeat (first|refine zy ?_|refine ybv tok rfl rfl rfl rfl (by omega) (by omega) rfl rfl ?_))
  refine ymh tok rfl rfl rfl rfl rfl rfl (by rw [yws];omega) rfl (congrArg (fun z=>hlook ((60,some (LObj.vec z))::_)) (show _=zpz (ygq l) g (v+1) by rw [show ((w:Int).toNat * 1)=w by simp,← hw];exact idsR_next R h1 ha)) rfl rfl ?_
  (try refine zy ?_)
  refine ygb (α:=Nat) (fun j=>[(48,i64 j),(47,i64 ls.length),(46,ygx ls),(7,i64 v),(29,i64 v),(28,i64 g.ports.length),(27,yau g.ports),(6,.lp 6 0),(2,.lp 2 0),(4,.lp 4 0),(1,yah l)]) (fun j=>zkc g (yig l) (ygq l) (v+1)++yec 61 2 (yke (yig l) (ygq l) g v j) []) (fun j=>ls.length - j) (fun j=>j≤ls.length) 0 (by omega) (by exact zs) (hsE ygz) ?_
  intro j hj
  (try refine zy ?_)
  refine yac rfl (fun h2=>?_) (fun h2=>?_)
  ·simp at h2
   obtain ⟨lk,hlk⟩:=ycg h2
   have hb:=ypl (hf.2.2.2.2.2.1 v ls hls) lk (List.mem_of_getElem? hlk)
   obtain ⟨to,wt,rfl⟩:∃ (to:Nat) (wt:Int),lk=((to:Int),wt):=⟨lk.1.toNat,lk.2,by rw [Int.toNat_of_nonneg hb.1]⟩
   obtain ⟨y,hy⟩:=ycg (show to < l.length by simp at hb;omega)
   have hy0:=hin y (List.mem_of_getElem? hy)
   obtain ⟨z,rfl⟩:∃ z:Nat,y=z:=⟨y.toNat,by omega⟩
   have hz:ykz (yig l) ((to:Int),wt)=((z:Int),wt):=by simp [ykz,yig,List.getD_eq_getElem?_getD,hy]
   (repeat (first|refine zw ?_|refine zkg tok rfl rfl rfl (zrp (f:=zkc g (yig l) (ygq l) (v+1)) rfl rfl rfl rfl) rfl rfl rfl ?_))
   obtain ⟨fr,hfr⟩:∃ fr,fr=(10,some (LObj.cells [i64 to,i64 wt]))::zkc g (yig l) (ygq l) (v+1):=⟨_,rfl⟩
   have hrow:=rowsR_at (j:=j) R h1
   rw [hw] at hrow
   have hfl:=lkR_len (f:=yig l) hls hj
   have hcell:=znn (M:=61) (sz:=2) hrow (m:=j) (by rw [hfl];omega)
   have hk1:((w:Int).toNat * 1)=w:=by simp
   have hlr:=ytf (f:=yig l) (i:=ygq l) (g:=g) (v:=v) (j:=j)
   refine zqk (t':=[(10,.lp 10 0),(48,i64 j),(47,i64 ls.length),(46,ygx ls),(7,i64 v),(29,i64 v),(28,i64 g.ports.length),(27,yau g.ports),(6,.lp 6 0),(2,.lp 2 0),(4,.lp 4 0),(1,yah l)]) (h':=((10,some (LObj.cells [i64 to,i64 wt]))::zkc g (yig l) (ygq l) (v+1))++yec 61 2 (yke (yig l) (ygq l) g v j) []) ?_ (by exact zs) (hsE ygz)
   refine ycv (lf:=lf0) yzi rfl ?_
   refine ymk [6,7,8,9,10,11,12,13,14,15,16,17,18,19,20,21,22] 9 (yaa rfl (yaa rfl (yaa rfl (yaa rfl (yaa rfl (yaa rfl (yaa rfl (yaa rfl (yaa rfl (yaa rfl (yaa rfl (yaa rfl (yaa rfl (yaa rfl (yaa rfl (yaa rfl (yaa rfl ybb))))))))))))))))) rfl (by kernel_rfl) ?_
   (repeat (first|refine zo ?_|refine ybv tok rfl rfl (yea (f:=(10,some (LObj.cells [i64 to,i64 wt]))::zkc g (yig l) (ygq l) (v+1)) rfl) rfl (by omega) (by omega) rfl rfl ?_|refine yqy (r:=.ls (fam 61 w) 2 j) tok rfl rfl rfl (by rw [yea (f:=(10,some (LObj.cells [i64 to,i64 wt]))::zkc g (yig l) (ygq l) (v+1)) rfl];exact ymp _) (by rw [hk1];exact hcell) rfl rfl ?_))
   have hat:hlook (((10,some (LObj.cells [i64 to,i64 wt]))::zkc g (yig l) (ygq l) (v+1))++(61,some (yjd ((yfn 61 2 0 (yke (yig l) (ygq l) g v j)++[]).set w .one)))::yqm 61 0 ((yke (yig l) (ygq l) g v j).set w (lkR (yig l) g v j++[[i64 z,i64 wt]].flatten))) 61=some (yjd ((yfn 61 2 0 (yke (yig l) (ygq l) g v j)++[]).set w .one)):=by rw [yba _ _ (ykx rfl),ybe]
   have hix:((l.map fun z:Int=>[i64 z])[(v:Int).toNat]?)=some [i64 w]:=by rw [Int.toNat_natCast,List.getElem?_map,hx];rfl
   refine yrz tok yok [(0,52,.lp 6 (0+1)),(1,53,.ls 61 1 g.ports.length),(2,54,yah l),(3,55,i64 v),(4,56,.dp [i64 w] 0),(5,57,i64 w)] 23 75 [65] (.ls (fam 61 w) 2 (j+1)) (req:=[(6,.lp 6 0),(1,yah l),(7,i64 v)]) 2 rfl (by kernel_rfl) rfl rfl rfl (by kernel_rfl) (by kernel_rfl) rfl ⟨⟨rfl,rfl,rfl⟩,⟨rfl,rfl,rfl⟩,⟨rfl,rfl,rfl⟩,trivial⟩ rfl
    ⟨⟨_,[(6,.lp 6 0),(1,yah l),(7,i64 v)],rfl,rfl,rfl,by kernel_rfl,by kernel_rfl,by kernel_rfl,by kernel_rfl,rfl,rfl,rfl⟩,⟨_,[(52,.lp 6 (0+1)),(6,.lp 6 0),(1,yah l),(7,i64 v)],rfl,rfl,rfl,by kernel_rfl,by kernel_rfl,by kernel_rfl,by kernel_rfl,rfl,rfl,rfl⟩,⟨_,[(6,.lp 6 0),(1,yah l),(7,i64 v)],rfl,rfl,rfl,by kernel_rfl,by kernel_rfl,by kernel_rfl,by kernel_rfl,rfl,rfl,rfl⟩,⟨_,[(6,.lp 6 0),(1,yah l),(7,i64 v)],rfl,rfl,rfl,by kernel_rfl,by kernel_rfl,by kernel_rfl,by kernel_rfl,rfl,rfl,rfl⟩,
     ⟨_,[(54,yah l),(55,i64 v),(6,.lp 6 0),(1,yah l),(7,i64 v)],rfl,rfl,rfl,by kernel_rfl,ync rfl rfl rfl (by omega) hix,ync rfl rfl rfl (by omega) hix,by kernel_rfl,rfl,rfl,rfl⟩,⟨_,[(54,yah l),(55,i64 v),(56,.dp [i64 w] 0),(6,.lp 6 0),(1,yah l),(7,i64 v)],rfl,rfl,rfl,by kernel_rfl,by kernel_rfl,by kernel_rfl,by kernel_rfl,rfl,rfl,rfl⟩,trivial⟩ rfl rfl rfl
    (fun t ht hl=>yoi (s:=⟨t,_⟩) (t':=yis [65] t) (i:=w) (news:=[[i64 z,i64 wt]]) (f:=(10,some (LObj.cells [i64 to,i64 wt]))::zkc g (yig l) (ygq l) (v+1)) tok (fun x y h=>(zev hl h).imp (fun e=>e) fun e=>⟨e.1,yok.ment (yfl _ _) e.2⟩) (fun x y h=>yys h) rfl rfl rfl (ht 65 _ rfl) hrow hfl (ht 74 _ rfl) (by intro c hc;simp at hc;rcases hc with rfl|rfl <;> rfl) (by constructor <;> simp <;> omega) rfl rfl rfl rfl rfl rfl) ?_
   refine ycj [24,25] (yaa rfl (yaa rfl ybb)) rfl (by kernel_rfl) ?_
   refine ybv tok rfl rfl hat rfl (by omega) (by omega) rfl rfl ?_
   refine yrx tok rfl rfl rfl rfl rfl hat (by rw [List.length_set,List.append_nil,yej,hlr];omega) rfl rfl ?_
   refine zuv (h':=((10,some (LObj.cells [i64 to,i64 wt]))::zkc g (yig l) (ygq l) (v+1))++yec 61 2 (yke (yig l) (ygq l) g v (j+1)) []) ?_ ?_
   ·rw [hk1]
    refine (zeu (f:=(10,some (LObj.cells [i64 to,i64 wt]))::zkc g (yig l) (ygq l) (v+1)) rfl (by omega) rfl (by rw [hlr];exact hwn) (by rw [List.length_append,hfl];simp)).trans ?_
    have hnx:=lkR_next (f:=yig l) hls hlk
    rw [hz] at hnx
    have hrn:=rowsR_next (j:=j) R h1
    rw [hw,hnx] at hrn
    rw [← hrn]
    rfl
   (try refine zy ?_)
   exact zae (j+1) (by omega) (by omega) (by exact zs) (hsM (f:=(10,some (LObj.cells [i64 to,i64 wt]))::zkc g (yig l) (ygq l) (v+1)) (f':=zkc g (yig l) (ygq l) (v+1)) (yad rfl (yad rfl (yad rfl (yad rfl yak)))) rfl rfl rfl)
  ·simp at h2
   obtain rfl:j=ls.length:=by omega
   (try refine zy ?_)
   exact zae (v+1) (by omega) (by omega) (by exact zs) (hsE (by rw [rowsR_end hls]))
 ·simp at h1
  obtain rfl:v=g.ports.length:=by omega
  (try refine zy ?_)
  refine yae ?_;refine ⟨_,rfl,?_⟩
  refine Frz.tup2 (Frz.aggL rfl rfl fun j x y hx hy=>?_) Frz.pure
  have hj:=(List.getElem?_eq_some_iff.1 hx).1
  have:j=0∨j=1:=by simp at hj;omega
  rcases this with rfl|rfl
  ·cases hx;cases hy
   refine zrt (l:=(ybz (yig l) (ygq l) g).ids) ?_ (by rw [ytd,hf.2.2.1])
   rw [← idsR_fin hf.2.2.1 R];rfl
  ·cases hx
   simp only [List.getElem?_cons_succ,List.getElem?_cons_zero,Option.some.injEq] at hy
   subst hy
   have:=Frz.mat (f:=(4,some (.cells [.ls 60 1 g.ports.length,.ls 61 1 g.ports.length]))::zkc g (yig l) (ygq l) g.ports.length) (M:=61) (sz:=2) (rows:=yke (yig l) (ygq l) g g.ports.length 0) (els:=(ybz (yig l) (ygq l) g).ports.map fun ls=>ls.map ycs) rfl rfl rfl (by omega) (by intro e he x hx;obtain ⟨q,_,rfl⟩:=List.mem_map.1 he;obtain ⟨z,_,rfl⟩:=List.mem_map.1 hx;rfl) (n:=g.ports.length) (by rw [List.length_map,yhd]) (by
    rw [rowsR_fin R,List.map_map]
    exact List.map_congr_left fun u _=>List.flatMap_def)
   rw [List.map_map] at this
   exact this
end
section
open Go.RowKit
def tzV (B:BitVec 32):Nat:=B.ctz.toNat
theorem yla {B:BitVec 32} (h:B≠0#32):tzV B < 32∧B.getLsbD (tzV B)=true∧∀ u,u < tzV B→B.getLsbD u=false:=by
 refine ⟨?_,BitVec.getLsbD_true_ctz_of_ne_zero h,fun u hu=>BitVec.getLsbD_false_of_lt_ctz hu⟩
 have:=BitVec.ctz_lt_iff_ne_zero.2 h
 simpa [BitVec.lt_def,tzV] using this
theorem znm {B:BitVec 32} (h:B≠0#32) (u:Nat):(∃ j,j < u∧B.getLsbD j=true)↔tzV B < u:=by
 obtain ⟨_,h2,h3⟩:=yla h
 constructor
 ·rintro ⟨j,hj,hb⟩
  rcases Nat.lt_or_ge j (tzV B) with h4|h4
  ·rw [h3 j h4] at hb;cases hb
  ·omega
 ·intro hu;exact ⟨_,hu,h2⟩
theorem zkz {B:BitVec 32} (h:B≠0#32) (u:Nat):(B &&& (B - 1#32)).getLsbD u=(B.getLsbD u && decide (u≠tzV B)):=by
 rcases Nat.lt_or_ge u 32 with hu|hu
 ·obtain ⟨_,h2,h3⟩:=yla h
  have e:B - 1#32 = ~~~(-B):=(BitVec.not_neg B).symm
  rw [BitVec.getLsbD_and,e,BitVec.getLsbD_not,BitVec.getLsbD_neg]
  have hl:=znm h u
  by_cases h4:tzV B < u
  ·simp [hu,hl.2 h4,show u≠tzV B by omega]
  ·by_cases h5:u=tzV B
   ·subst h5
    rw [decide_eq_false (show ¬ ∃ j,j < tzV B∧B.getLsbD j=true from fun q=>h4 (hl.1 q)),h2]
    simp
   ·simp [h3 u (by omega)]
 ·rw [BitVec.getLsbD_of_ge _ _ hu,BitVec.getLsbD_of_ge _ _ hu];rfl
theorem zfh {B:BitVec 32} (h:B≠0#32):B &&& -B=1#32 <<< tzV B:=by
 obtain ⟨h1,h2,h3⟩:=yla h
 apply BitVec.eq_of_getLsbD_eq
 intro u hu
 rw [BitVec.getLsbD_and,BitVec.getLsbD_neg,BitVec.getLsbD_shiftLeft]
 have hl:=znm h u
 by_cases h4:tzV B < u
 ·have:¬ u - tzV B=0:=by omega
  simp [hu,hl.2 h4,BitVec.getLsbD_one,this]
 ·by_cases h5:u=tzV B
  ·subst h5
   rw [decide_eq_false (show ¬ ∃ j,j < tzV B∧B.getLsbD j=true from fun q=>h4 (hl.1 q)),h2]
   simp [h1]
  ·simp [h3 u (by omega),show u < tzV B by omega]
def ycu (B:BitVec 32):List Nat:=(List.range 32).filter B.getLsbD
theorem zcd (p:Nat→Bool) (k:Nat) (hk:p k=true) (hl:∀ u,u < k→p u=false):∀ n,k < n→(List.range n).filter p=k::(List.range n).filter fun u=>p u && decide (u≠k)
 | 0,h=>by omega
 | n+1,h=>by
  rw [List.range_succ,List.filter_append,List.filter_append]
  by_cases e:k=n
  ·subst e
   have e1:(List.range k).filter p=[]:=List.filter_eq_nil_iff.2 fun u hu=>by simp [hl u (List.mem_range.1 hu)]
   have e2:((List.range k).filter fun u=>p u && decide (u≠k))=[]:=List.filter_eq_nil_iff.2 fun u hu=>by simp [hl u (List.mem_range.1 hu)]
   rw [e1,e2]
   simp [hk]
  ·rw [zcd p k hk hl n (by omega)]
   have:decide (n≠k)=true:=by simp;omega
   simp only [List.filter_cons,List.filter_nil,this,Bool.and_true,List.cons_append]
theorem zcx {B:BitVec 32} (h:B≠0#32):ycu B=tzV B::ycu (B &&& (B - 1#32)):=by
 obtain ⟨h1,h2,h3⟩:=yla h
 unfold ycu
 rw [zcd B.getLsbD (tzV B) h2 h3 32 h1]
 congr 1
 exact List.filter_congr fun u _=>(zkz h u).symm
theorem zir {B:BitVec 32}:ycu B=[]↔B=0#32:=by
 constructor
 ·intro h
  refine BitVec.eq_of_getLsbD_eq fun u hu=>?_
  rw [BitVec.getLsbD_zero]
  simpa using List.filter_eq_nil_iff.1 h u (List.mem_range.2 hu)
 ·rintro rfl
  exact List.filter_eq_nil_iff.2 fun u _=>by simp
def ypt (B:BitVec 32):Nat→BitVec 32
 | 0=>B
 | k+1=>ypt B k &&& (ypt B k - 1#32)
theorem yxa (B:BitVec 32):∀ k,ycu (ypt B k)=(ycu B).drop k
 | 0=>rfl
 | k+1=>by
  have ih:=yxa B k
  rw [← List.tail_drop,← ih]
  show ycu (ypt B k &&& (ypt B k - 1#32))=_
  by_cases h:ypt B k=0#32
  ·rw [h];simp [zir.2]
  ·rw [zcx h];rfl
theorem znz {B:BitVec 32} {k:Nat}:ypt B k=0#32↔(ycu B).length≤k:=by
 rw [← zir,yxa,List.drop_eq_nil_iff]
theorem rem_at {B:BitVec 32} {k:Nat} (h:ypt B k≠0#32):(ycu B)[k]?=some (tzV (ypt B k)):=by
 have e:=yxa B k
 rw [zcx h] at e
 have:=congrArg List.head? e
 rw [List.head?_drop] at this
 exact this.symm
theorem ysx {B:BitVec 32} {v:Nat}:v∈ycu B↔v < 32∧B.getLsbD v=true:=by
 unfold ycu
 rw [List.mem_filter,List.mem_range]
theorem zlg {B:BitVec 32}:(B &&& (B - 1#32) == 0#32)=true↔∀ u v,B.getLsbD u=true→B.getLsbD v=true→u=v:=by
 rw [beq_iff_eq]
 by_cases h:B=0#32
 ·subst h;simp
 obtain ⟨h1,h2,h3⟩:=yla h
 constructor
 ·intro e u v hu hv
  have key:∀ u,B.getLsbD u=true→u=tzV B:=fun u hu=>by
   have:=zkz h u
   rw [e,BitVec.getLsbD_zero,hu] at this
   simpa using this
  rw [key u hu,key v hv]
 ·intro q
  refine BitVec.eq_of_getLsbD_eq fun u hu=>?_
  rw [zkz h,BitVec.getLsbD_zero]
  cases hb:B.getLsbD u with
  | false=>rfl
  | true=>simp [q u _ hb h2]
end
section
open Go.RowKit
set_option maxHeartbeats 1000000 in
theorem tz32_core (x k idx:Nat) (w:World) (hx0:((x:Int) == 0)=false) (key:bits BinOp.and IntKind.u32 (x:Int) (-(x:Int) % 4294967296) * 125613361 % 4294967296 / 134217728=(idx:Int))
  (hi:idx < 32) (hk:k < 32) (hcell:w.cell? ⟨0,idx,none⟩=some (.int .u8 k)) :
  Calls Tryz.prog 226 #[.int .u32 x] w fun e w'=>e=.returned (.int .i64 k)∧w'=w:=by
 go_enter Tryz.func226,Tryz.ntmps226
 go_wp2_with (simp only [key])
 go_ret
 exact ⟨rfl,rfl⟩
theorem tab32_at:∀ k:Fin 32,2 ^ k.val * 125613361 % 4294967296 / 134217728 < 32∧zuq[2 ^ k.val * 125613361 % 4294967296 / 134217728]?=some (k.val:Int):=by decide +kernel
theorem glob32 {w:World} (h:ywh w) {j:Nat} {z:Int} (hz:zuq[j]?=some z):w.cell? ⟨0,j,none⟩=some (.int .u8 z):=by
 unfold ywh Lib.TabIs World.var? at h
 rw [zmz] at h
 simp only [Option.bind_some] at h
 split at h
 ·rename_i cs a b hc
  cases h
  simp [World.cell?,hc,hz]
 ·cases h
theorem tz_con (B:BitVec 32) (h:B≠0#32):Con Tryz.prog 226 [ycb B] (i64 (tzV B)):=by
 refine ⟨⟨_,Tryz.func226,rfl,rfl⟩,rfl,fun ok0 w us hG hok hr=>?_⟩
 obtain ⟨u,rfl,hu⟩:=relAll1' hr
 cases hu
 have hlt:=(yla h).1
 have hB:=B.isLt
 have hne:B.toNat≠0:=fun e=>h (BitVec.eq_of_toNat_eq (by simpa using e))
 obtain ⟨t1,t2⟩:=tab32_at ⟨tzV B,hlt⟩
 have hlow:=congrArg BitVec.toNat (zfh h)
 rw [BitVec.toNat_shiftLeft,BitVec.toNat_and,BitVec.toNat_neg,Nat.mod_eq_of_lt (show 2 ^ 32 - B.toNat < 2 ^ 32 by omega)] at hlow
 simp only [BitVec.toNat_ofNat,Nat.shiftLeft_eq] at hlow
 have hp:2 ^ tzV B < 2 ^ 32:=Nat.pow_lt_pow_right (by omega) hlt
 rw [show (1 % 2 ^ 32) * 2 ^ tzV B=2 ^ tzV B by omega,Nat.mod_eq_of_lt hp] at hlow
 have e1:-(B.toNat:Int) % 4294967296=((-B).toNat:Int):=by
  rw [BitVec.toNat_neg];omega
 have e2:bits .and .u32 (B.toNat:Int) ((-B).toNat:Int)=((B &&& -B).toNat:Int):=by
  have h1:BitVec.ofInt IntKind.u32.bits (B.toNat:Int)=B:=yhc B
  have h2:BitVec.ofInt IntKind.u32.bits ((-B).toNat:Int)=-B:=yhc (-B)
  unfold bits
  simp only [h1,h2]
  exact yxj (B &&& -B)
 have e3:(B &&& -B).toNat=2 ^ tzV B:=by
  rw [BitVec.toNat_and,BitVec.toNat_neg,Nat.mod_eq_of_lt (show 2 ^ 32 - B.toNat < 2 ^ 32 by omega)];exact hlow
 refine (tz32_core B.toNat (tzV B) _ w (by simp;omega) ?_ t1 hlt (glob32 hG t2)).mono ?_
 ·rw [e1,e2,e3]
  generalize 2 ^ tzV B=m
  omega
 ·rintro e w' ⟨rfl,rfl⟩
  exact ⟨_,rfl,.v _,Below.refl _ _⟩
end
set_option maxHeartbeats 4000000
section
open Go.RowKit
def zpt (c:Array Value) (v:Value):Array Value:=(c.toList.take 0++[v]++c.toList.drop 1).toArray
def zoz (W:World) (b:Nat) (v:Value):Prop:=∃ c e,W.heap[b]?=some (.cells c e (0,0))∧c[0]?=some v
def zdz (P:Program) (f:FuncId) (els:List (List AV)) (st:Nat→Value):Prop:=
 ynx P f∧∀ (l:Nat) (ok:Nat→Prop) (W:World) (b:Nat) (J J':Nat→World→Prop) (X:World→Prop),
  (∀ k W',J k W'→zoz W' b (st k)∧ywh W')→(∀ k W',J' k W'→zoz W' b (st k)) →
  (∀ k W1 W2,J k W1→Below W1.heap.size W1 W2→J k W2)→(∀ k W1 W2,J' k W1→Below W1.heap.size W1 W2→J' k W2)→(∀ W1 W2,X W1→Below W1.heap.size W1 W2→X W2) →
  (∀ k c e W1,J' k W1→W1.heap[b]?=some (.cells c e (0,0))→J (k+1) (W1.setRow b (zpt c (st (k+1))))) →
  (∀ k el vs W1,els[k]?=some el→J k W1→ybm ok W1 (fun _=>none) el vs→YieldAt Fence.wide 0 P l vs.toArray W1 fun e W'=>(e=.returned (.bool true)∧J' k W')∨(e=.returned (.bool false)∧X W')) →
  J 0 W→CallsIn Fence.wide 0 P f (#[.func (.yield l) #[] #[]]++[Value.pointer (some ⟨b,0,none⟩)].toArray) W fun e W'=>(∃ v,e=.returned v)∧(J els.length W'∨X W')
def ylb (id:Nat) (v:Value) (h:Nat→Option LObj):Nat→Option LObj:=fun i=>match Nat.beq i id with
 | true=>some (.cells [.v v])
 | false=>h i
theorem ykt {id:Nat} {v:Value} {h:Nat→Option LObj}:ylb id v h id=some (.cells [.v v]):=by simp [ylb]
theorem withB_upd {id:Nat} {v v':Value} {h:Nat→Option LObj}:yeg (ylb id v h) id (some (.cells [.v v']))=ylb id v' h:=by
 funext i
 unfold yeg ylb
 by_cases e:i=id
 ·subst e;simp
 ·simp [e,yct e]
section
variable {P:Program} {N:Nat} {g:Operand} {ps:List Nat} {assign body:Code} {Q:Exit→SS→Prop} {s:SS} {gf:Nat} {els:List (List AV)} {st:Nat→Value}
variable {B Bx:Bse} {okx:Nat→Prop} {l:Nat} {rec:LoopState→Option Code→Loop} {t0:Nat→Option AV} {vt:Nat→Value} {o:Loop} {h:Nat→Option LObj} {W:World} {id b:Nat} {v v':Value}
theorem yid.cellB (hK:yid B Bx okx N l rec t0 vt o (ylb id v h) W) (hl:¬ Bx.mine l) (hN:N≤id) (hp:B.pin id=some b):zoz W b v:=by
 obtain ⟨hWl,lv',i1,f1,p1⟩:=hK
 obtain ⟨n,hlv⟩:=p1 id b _ hN ykt rfl hp
 obtain ⟨b',n',g1,g2⟩:=i1.obj id _ ykt
 rw [hlv] at g1
 cases g1
 have hbl:b≠l:=yuj i1 hl ⟨id,n,hlv⟩
 obtain ⟨g3,g4,c,e,q1,q2,q3,q4,q5⟩:=g2
 rw [World.putObj_heap_other hbl] at q1
 simp only [List.length_cons,List.length_nil] at q3
 obtain ⟨u,hu⟩:∃ u,c[0]?=some u:=⟨_,Array.getElem?_eq_getElem (by omega)⟩
 have:=q5 0 _ u rfl hu
 cases this
 exact ⟨c,e,q1,hu⟩
theorem yid.glob (hK:yid B Bx okx N l rec t0 vt o h W) (hl:GN≤l):ywh W:=by
 obtain ⟨hWl,lv',i1,_,_⟩:=hK
 have:=ywr (o:=.loop o) i1.base.glob hl
 rwa [yor,ymz hWl] at this
theorem yid.write (hK:yid B Bx okx N l rec t0 vt o (ylb id v h) W) (hl:¬ Bx.mine l) (hpx:∀ x,Bx.pin x=none) (hN:N≤id) (hp:B.pin id=some b) {c:Array Value} {e:TypeId} (hc:W.heap[b]?=some (.cells c e (0,0))) (hv':v'.oneCell'=true):yid B Bx okx N l rec t0 vt o (ylb id v' h) (W.setRow b (zpt c v')):=by
 obtain ⟨hWl,lv',i1,f1,p1⟩:=hK
 obtain ⟨n,hlv⟩:=p1 id b _ hN ykt rfl hp
 obtain ⟨b',n',g1,g2⟩:=i1.obj id _ ykt
 rw [hlv] at g1
 cases g1
 have hbl:b≠l:=yuj i1 hl ⟨id,n,hlv⟩
 obtain ⟨g3,g4,c',e',q1,q2,q3,q4,q5⟩:=g2
 have q1':=q1
 rw [World.putObj_heap_other hbl,hc] at q1'
 cases q1'
 have hlt:=(Array.getElem?_eq_some_iff.1 hWl).1
 have hos:((W.setRow b (zpt c v')).putObj l (.loop (rec .ready none))).os=(W.putObj l (.loop (rec .ready none))).os∧((W.setRow b (zpt c v')).putObj l (.loop (rec .ready none))).tape=(W.putObj l (.loop (rec .ready none))).tape∧((W.setRow b (zpt c v')).putObj l (.loop (rec .ready none))).output=(W.putObj l (.loop (rec .ready none))).output∧((W.setRow b (zpt c v')).putObj l (.loop (rec .ready none))).heap.size=(W.putObj l (.loop (rec .ready none))).heap.size:=⟨rfl,rfl,rfl,by simp⟩
 have hsz:(W.setRow b (zpt c v')).heap.size=W.heap.size:=by simp
 have hoth:∀ g,g≠b→((W.setRow b (zpt c v')).putObj l (.loop (rec .ready none))).heap[g]?=(W.putObj l (.loop (rec .ready none))).heap[g]?:=by
  intro g hg
  by_cases hgl:g=l
  ·subst hgl
   rw [World.putObj_heap_same (by rw [hsz];exact hlt),World.putObj_heap_same hlt]
  ·rw [World.putObj_heap_other hgl,World.putObj_heap_other hgl,setRow_other W b g _ hg]
 have hwb:((W.setRow b (zpt c v')).putObj l (.loop (rec .ready none))).heap[b]?=some (.cells (zpt c v') e (0,0)):=by
  rw [World.putObj_heap_other hbl];exact setRow_heap W b c _ e _ hc
 generalize hw':(W.setRow b (zpt c v')).putObj l (.loop (rec .ready none))=w' at hos hoth hwb
 have hsim:Sim Bx okx 0 ⟨fun _=>none,ylb id v h⟩ lv' { tmps:=#[],defers:=Bx.dl } (W.putObj l (.loop (rec .ready none))):=
  ⟨i1,rfl,fun x y hx=>(by cases hx),⟨[],rfl,List.nodup_nil,fun d hd=>(by cases hd)⟩,by omega,fun id b o hN hx hc hb=>by rw [hpx] at hb;cases hb⟩
 have hw:=(hsim.write hlv hos.1 hos.2.1 hos.2.2.1 hos.2.2.2 hoth (ob:=.cells [.v v']) (fun _=>⟨_,ykt,rfl⟩) fun ok' hk=>
  zjl (w:=W.putObj l (.loop (rec .ready none))) (xs:=[.v v]) (cs:=[.v v']) (vs:=[v']) (off:=0) q1 q2 q3 q4 q5 ⟨rfl,fun j x u hx hu=>by
   cases j with
   | zero=>cases hx;cases hu;exact .v _
   | succ j=>simp at hx⟩ (fun x hx=>by cases List.mem_singleton.1 hx;exact hv') (by simp) hwb ok' hk).inv
 rw [withB_upd] at hw
 refine ⟨(setRow_other W b l _ hbl.symm).trans hWl,lv',?_,fun x y hx=>?_,fun id' b' o' hN' hx hc' hb'=>?_⟩
 ·rw [hw'];exact hw
 ·rw [hw']
  exact (f1 x y hx).keep fun g hg=>⟨⟨hg.1,by rw [hos.2.2.2];exact hg.2.1,hg.2.2⟩,hoth g fun e=>hg.2.2 id b n hlv e.symm⟩
 ·by_cases e:id'=id
  ·subst e;exact p1 id' b' _ hN' ykt rfl hb'
  ·exact p1 id' b' o' hN' (by simpa [ylb,yct e] using hx) hc' hb'
def zux (id:Nat) (Q:Exit→SS→Prop) (e:Exit) (s:SS):Prop:=∃ h',(∀ i o,h' i=some o→s.h i=some o∧i ∉ [id])∧Q e ⟨s.t,h'⟩
theorem A_rangeB (hgv:evF s.t g=some (.fn gf [.lp id 0])) (hit:zdz P gf els st) (hst:∀ k,(st k).oneCell'=true) (hN:N≤id) (hpe:∀ el∈els,el.length=ps.length∧yav.pureL el=true) (hps:∀ p∈ps,p < N) (hpn:ps.Nodup) (ht0:∀ x y,t0 x=some y→s.t x=some y∧(x < N∨1000000≤x))
  (hk:Nat→Nat→Option LObj) (hv:s.h id=some (.vec [.v (st 0)])) (h0:∀ i o,hk 0 i=some o→s.h i=some o) (round:∀ k el,els[k]?=some el→A P N assign (fun e s1=>e=.normal∧A P N body (zxj t0 (fun j=>ylb id (st k) (hk j)) k (zux id Q)) s1) ⟨zag t0 ps el,ylb id (st k) (hk k)⟩)
  (done:zux id Q .normal ⟨t0,ylb id (st els.length) (hk els.length)⟩):A P N (.rangeFunc g ps.toArray assign body) Q s:=by
 refine A_rangeG [id] hgv hit.1 hps hpn t0 ht0 (ylb id (st 0) (hk 0)) (ylb id (st els.length) (hk els.length)) (fun i o ho=>?_) (fun i hi=>?_) (zux id Q) (fun e h hq=>hq) (fun B Bx okx l rec vt lv lb W1 hL hK0=>?_) done
 ·by_cases e:i=id
  ·subst e
   rw [ykt] at ho
   cases ho
   exact .inr ⟨by simp,_,_,rfl,hv⟩
  ·exact .inl (h0 i o (by simpa [ylb,yct e] using ho))
 ·cases List.mem_singleton.1 hi;exact ⟨hN,_,ykt⟩
 obtain ⟨b,n,hlv,hp⟩:=hL.pin id (List.mem_singleton_self _)
 have hlb:lb=[Value.pointer (some ⟨b,0,none⟩)]:=by
  have h1:=hL.len
  match lb,h1,hL.caps with
  | [u],_,hc=>
   have:=hc 0 _ u rfl rfl
   cases this with
   | lp _ _ h=>rw [h b n hlv]
 subst hlb
 exact hit.2 l okx W1 b (fun k W=>yid B Bx okx N l rec t0 vt (rec .ready none) (ylb id (st k) (hk k)) W) (fun k W=>yid B Bx okx N l rec t0 vt (rec .ready none) (ylb id (st k) (hk (k+1))) W)
  (fun W=>∃ (c:Code) (h:Nat→Option LObj),((c=.ret∧zux id Q .ret ⟨t0,h⟩)∨∃ i,c=.exit i∧zux id Q (.exit i) ⟨t0,h⟩)∧yid B Bx okx N l rec t0 vt (rec .done (some c)) h W)
  (fun k W' hK=>⟨hK.cellB hL.mx hN hp,hK.glob hL.gl⟩) (fun k W' hK=>hK.cellB hL.mx hN hp) (fun k W2 W3 hK hb=>hK.grow hb) (fun k W2 W3 hK hb=>hK.grow hb) (fun W2 W3 ⟨c,h,hc,hK⟩ hb=>⟨c,h,hc,hK.grow hb⟩) (fun k c e W2 hK hc=>hK.write hL.mx hL.pinx hN hp hc (hst _))
  (fun k el vs W2 hel hK hvs=>hL.yield (fun j=>ylb id (st k) (hk j)) k el vs W2 (hpe el (List.mem_of_getElem? hel)) (round k el hel) hK hvs) hK0
def zzb (id:Nat) (l:List (Nat × Option LObj)):Bool:=l.all fun x=>!Nat.beq x.1 id
theorem yzo {id:Nat}:∀ {l:List (Nat × Option LObj)},zzb id l=true→∀ i o,hlook l i=some o→i ∉ [id]
 | [],_,i,o,h=>by simp [hlook] at h
 | (k,x)::l,hl,i,o,h=>by
  simp only [zzb,List.all_cons,Bool.and_eq_true,Bool.not_eq_true'] at hl
  simp only [hlook] at h
  cases hb:Nat.beq i k with
  | true=>
   rw [Nat.eq_of_beq_eq_true hb]
   intro hm
   rw [List.mem_singleton.1 hm] at hl
   simp at hl
  | false=>rw [hb] at h;exact yzo (l:=l) hl.2 i o h
theorem zlu {t:List (Nat × AV)} {h:List (Nat × Option LObj)} (id:Nat) (hgv:evF (look t) g=some (.fn gf [.lp id 0])) (hit:zdz P gf els st) (hst:∀ k,(st k).oneCell'=true) (hN:Nat.ble N id=true)
  (hpe:∀ el∈els,el.length=ps.length∧yav.pureL el=true) (hps:(zpk N ps && (yeb ps && zpk 1000000 ps))=true) (t0:List (Nat × AV)) (ht0:zbc t t0) (hlt:znh N t0=true) (hk:Nat→List (Nat × Option LObj)) (hv:hlook h id=some (.vec [.v (st 0)])) (h0:∀ i o,hlook (hk 0) i=some o→hlook h i=some o) (hoff:zzb id (hk els.length)=true)
  (round:∀ k el,els[k]?=some el→A P N assign (fun e s1=>e=.normal∧A P N body (zxj (look t0) (fun j=>hlook ((id,some (.cells [.v (st k)]))::hk j)) k (zux id Q)) s1) (S (ztf ps el t0) ((id,some (.cells [.v (st k)]))::hk k))) (done:Q .normal (S t0 (hk els.length))):A P N (.rangeFunc g ps.toArray assign body) Q (S t h):=by
 simp only [Bool.and_eq_true] at hps
 have hd:zux id Q .normal ⟨look t0,ylb id (st els.length) (hlook (hk els.length))⟩:=⟨hlook (hk els.length),fun i o ho=>by
  have hn:=yzo hoff i o ho
  refine ⟨?_,hn⟩
  have:i≠id:=fun e=>hn (by simp [e])
  simpa [ylb,yct this] using ho,done⟩
 refine A_rangeB hgv hit hst (by simpa using hN) hpe (yul hps.1) (ymv hps.2.1) (t0:=look t0) (fun x y hx=>⟨yco ht0 x y hx,yyw hlt x y hx⟩) (fun k=>hlook (hk k)) hv h0 (fun k el hel=>?_) hd
 refine yrw (round k el hel) ⟨fun x y hx=>roundL_look hps.2.2 hx,fun id o ho=>ho⟩
theorem rndN_ret {t0' t1:List (Nat × AV)} {hk:Nat→List (Nat × Option LObj)} {h1:List (Nat × Option LObj)} {k:Nat} (hx:List (Nat × Option LObj)) (g1:zbc t1 (zee t0')) (g2:yuy h1 hx) (ho:zzb id hx=true) (hq:Q .ret (S t0' hx)):zxj (look t0') (fun k=>hlook (hk k)) k (zux id Q) .ret (S t1 h1):=
 ⟨hlook hx,fun x y hx=>yco g1 _ y (by rw [ypm];exact hx),yaq g2,hlook hx,fun i o h=>⟨h,yzo ho i o h⟩,hq⟩
end
end
set_option maxHeartbeats 8000000
section
open Go.RowKit
section
variable {P:Program} {n:Nat} {ops:Array Oper} {Q:Exit→Act→World→Prop} {a:Act} {w:World}
theorem opI_call {i d:Nat} {rest:List Nat} {o:Oper} {f:FuncId} {args:Array Value} {R:Ending→World→Prop} (hlt:d < a.tmps.size) (ho:ops[i]?=some o) (hdst:o.dst=some d) (hg:o.guard=none) (hd:ymt o.op=false) (hr:(execOp a.eval o).run P w=.ok (.enter f args) w) (hc:Calls P f args w R)
  (k:∀ e w',R e w'→∃ u,e=.returned u∧∀ a':Act,a'.tmps.size=a.tmps.size→a'.defers=a.defers→a'.eval (.tmp d)=u→(∀ x,x≠d→a'.eval (.tmp x)=a.eval (.tmp x))→wpOpsIn Fence.wide n P ops Q rest a' w'):wpOpsIn Fence.wide n P ops Q (i::rest) a w:=by
 have hw:Region.wanted o (yielded ops a.tmps)=true:=by simp [Region.wanted,hg]
 simp only [wpOpsIn,ho,hw,if_true]
 refine ymw (rd:=none) hd ?_
 unfold Oper.wp
 rw [hr]
 refine hc.mono fun e w' hR=>?_
 obtain ⟨u,rfl,hk⟩:=k e w' hR
 show wpOpsIn _ _ _ _ _ _ (a.put o.dst u) w'
 rw [hdst]
 exact hk _ ywz yps (yiw hlt) fun x hx=>yrp hx
theorem opI_skip {i:Nat} {rest:List Nat} {o:Oper} {w':World} (ho:ops[i]?=some o) (hdst:o.dst=none) (hg:o.guard=none) (hd:ymt o.op=false) (hr:(execOp a.eval o).run P w=.ok .skip w') (k:wpOpsIn Fence.wide n P ops Q rest a w'):wpOpsIn Fence.wide n P ops Q (i::rest) a w:=by
 have hw:Region.wanted o (yielded ops a.tmps)=true:=by simp [Region.wanted,hg]
 simp only [wpOpsIn,ho,hw,if_true]
 refine ymw (rd:=none) hd ?_
 unfold Oper.wp
 rw [hr]
 show wpOpsIn _ _ _ _ _ _ (a.put o.dst undef) w'
 rw [hdst]
 exact k
end
theorem ev_func {a:Act} {f:FuncId}:a.eval (.func f)=.func (.func f) #[] #[]:=rfl
def zgk (B:BitVec 32):Value:=.int .u32 (B.toNat:Int)
def yqs (B:BitVec 32):List (List AV):=(ycu B).map fun v:Nat=>[i64 v]
def leftOf (w:World) (b:Nat):Nat:=match w.cell? ⟨b,0,none⟩ with
 | some (.int _ z)=>(ycu (BitVec.ofInt 32 z)).length
 | _=>0
theorem zoz.cell {W:World} {b:Nat} {v:Value} (h:zoz W b v):W.cell? ⟨b,0,none⟩=some v:=by
 obtain ⟨c,e,h1,h2⟩:=h
 simp [World.cell?,h1,h2]
theorem zvk {W:World} {b:Nat} {v:Value} (hv:v.oneCell'=true) (h:W.cell? ⟨b,0,none⟩=some v):(loadVar 40 ⟨b,0,none⟩).run Tryz.prog W=.ok v W:=by
 obtain ⟨u,h1,h2⟩:=ywu (P:=Tryz.prog) (ok:=fun _=>True) (w:=W) (lv:=fun _=>none) (g:=b) (o:=0) (xs:=[.v v]) (t:=40) (s:=1) (ag:=false) (r:=.v v) (tok _ _ (show TT 40=some _ from rfl)).1 (fun j x hx=>by
  match j with
  | 0=>simp only [List.getElem?_cons_zero,Option.some.injEq] at hx;subst hx;exact ⟨hv,_,h,.v _⟩
  | j+1=>simp at hx) rfl
 cases h2
 exact h1
theorem zcy (B:BitVec 32):zdz Tryz.prog 225 (yqs B) (fun k=>zgk (ypt B k)):=by
 refine ⟨⟨_,Tryz.func225,rfl,rfl⟩,fun l ok W b J J' X hJ hJ' hJg hJg' hXg hput hround h0=>?_⟩
 refine callsIn_of_wp Tryz.func225 rfl trivial ?_
 rw [Tryz.ntmps225]
 rw [show (#[Value.func (.yield l) #[] #[]]++[Value.pointer (some ⟨b,0,none⟩)].toArray:Array Value)=[Value.func (.yield l) #[] #[],Value.pointer (some ⟨b,0,none⟩)].toArray by simp]
 generalize ha:({ tmps:=[Value.func (.yield l) #[] #[],Value.pointer (some ⟨b,0,none⟩)].toArray++Array.replicate (14 - [Value.func (.yield l) #[] #[],Value.pointer (some ⟨b,0,none⟩)].toArray.size) undef,defers:=[] }:Act)=a0
 have hs0:a0.tmps.size=14:=by rw [← ha];simp only [Array.size_append,Array.size_replicate,List.size_toArray,List.length_cons,List.length_nil]
 have e0:a0.eval (.tmp 0)=.func (.yield l) #[] #[]:=by rw [← ha];simp only [Act.eval];exact ylp [Value.func (.yield l) #[] #[],Value.pointer (some ⟨b,0,none⟩)] _ 0 _ rfl
 have e1:a0.eval (.tmp 1)=.pointer (some ⟨b,0,none⟩):=by rw [← ha];simp only [Act.eval];exact ylp [Value.func (.yield l) #[] #[],Value.pointer (some ⟨b,0,none⟩)] _ 1 _ rfl
 have hd0:a0.defers=[]:=by rw [← ha]
 clear ha
 have hrem:∀ k,(zgk (ypt B k)).oneCell'=true:=fun k=>rfl
 have hleft:∀ k w,zoz w b (zgk (ypt B k))→leftOf w b=(ycu B).length - k:=fun k w h=>by
  unfold leftOf
  rw [h.cell]
  show (ycu (BitVec.ofInt 32 ((ypt B k).toNat:Int))).length=_
  rw [yhc,yxa,List.length_drop]
 refine wpIn_block (wpIn_loop (fun a w=>∃ k,k≤(ycu B).length∧J k w∧a.tmps.size=14∧a.defers=[]∧a.eval (.tmp 0)=.func (.yield l) #[] #[]∧a.eval (.tmp 1)=.pointer (some ⟨b,0,none⟩)) (fun a w=>leftOf w b) ⟨0,by omega,h0,hs0,hd0,e0,e1⟩ ?_)
 clear e0 e1 hs0 hd0 h0 a0
 rintro a0 w ⟨k,hk,hj,hs0,hd0,e0,e1⟩
 obtain ⟨hc,hG⟩:=hJ k w hj
 have hl:=zvk (hrem k) hc.cell
 refine wpIn_seq (wpIn_seq (wpIn_region ?_))
 refine zty (d:=3) (zgk (ypt B k)) (by omega) rfl rfl rfl rfl (by simp [execOp,e1,Instr.loadAt,Instr.sureAddr,hl]) fun a1 s1 d1 q1 n1=>?_
 refine zty (d:=4) (.bool (ypt B k != 0#32)) (by omega) rfl rfl rfl rfl (by
  rw [← ynd]
  simp [execOp,q1,zgk,zmq,eqGuard,binOp,Op.intCmp]) fun a2 s2 d2 q2 n2=>?_
 refine wpIn_cond_split q2 (fun hb=>?_) (fun hb=>?_)
 ·have hne:ypt B k≠0#32:=by simpa using hb
  refine wpIn_skip ?_
  refine wpIn_seq (wpIn_block (wpIn_seq (wpIn_region ?_)))
  refine zty (d:=9) (.func (.yield l) #[] #[]) (by omega) rfl rfl rfl rfl (by simp [execOp,n2,n1,e0]) fun a3 s3 d3 q3 n3=>?_
  refine zty (d:=10) (zgk (ypt B k)) (by omega) rfl rfl rfl rfl (by simp [execOp,n3,n2,n1,e1,Instr.loadAt,Instr.sureAddr,hl]) fun a4 s4 d4 q4 n4=>?_
  refine opI_call (d:=11) (by omega) rfl rfl rfl rfl (f:=226) (args:=#[zgk (ypt B k)]) (by simp [execOp,resolve,invoke,q4,ev_func,Deferred.ofValue,ygl (P:=Tryz.prog) ⟨_,Tryz.func226,rfl,rfl⟩]) (yvj (tz_con _ hne) (us:=[zgk (ypt B k)]) hG (ok:=fun _=>False) (fun _ h=>h.elim) (ybi (.v _) yff)) fun e w' hR=>?_
  obtain ⟨rfl,hbel⟩:=hR
  refine ⟨_,rfl,fun a5 s5 d5 q5 n5=>?_⟩
  have hj':=hJg k w w' hj hbel
  have hkl:k < (ycu B).length:=Nat.lt_of_not_le fun h=>hne (znz.2 h)
  have hel:(yqs B)[k]?=some [i64 (tzV (ypt B k):Nat)]:=by
   unfold yqs;rw [List.getElem?_map,rem_at hne];rfl
  have hy:=hround k _ [.int .i64 (tzV (ypt B k):Nat)] w' hel hj' (ybi (.v _) yff)
  refine opI_yield (g:=.tmp 9) (args:=#[.tmp 11]) rfl rfl rfl (by rw [n5 9 (by simp),n4 9 (by simp),q3]) (R:=fun e W'=>(e=.returned (.bool true)∧J' k W')∨(e=.returned (.bool false)∧X W')) (by simpa [q5] using hy) fun e w2 hR2=>?_
  have e0':a5.eval (.tmp 0)=.func (.yield l) #[] #[]:=by rw [n5 0 (by simp),n4 0 (by simp),n3 0 (by simp),n2 0 (by simp),n1 0 (by simp),e0]
  have e1':a5.eval (.tmp 1)=.pointer (some ⟨b,0,none⟩):=by rw [n5 1 (by simp),n4 1 (by simp),n3 1 (by simp),n2 1 (by simp),n1 1 (by simp),e1]
  have hd5:a5.defers=[]:=by rw [d5,d4,d3,d2,d1,hd0]
  have hs5:a5.tmps.size=14:=by omega
  rcases hR2 with ⟨rfl,hj1⟩|⟨rfl,hx⟩
  ·refine ⟨_,rfl,?_⟩
   show wpOpsIn _ _ _ _ _ _ (a5.put (some 12) (.bool true)) w2
   have s6:(a5.put (some 12) (.bool true)).tmps.size=14:=by rw [ywz,hs5]
   have d6:(a5.put (some 12) (.bool true)).defers=[]:=by rw [yps,hd5]
   have q6:(a5.put (some 12) (.bool true)).eval (.tmp 12)=.bool true:=yiw (by omega)
   have n6:∀ x,x≠12→(a5.put (some 12) (.bool true)).eval (.tmp x)=a5.eval (.tmp x):=fun x hx=>yrp hx
   generalize a5.put (some 12) (.bool true)=a6 at s6 d6 q6 n6 ⊢
   refine zty (d:=13) (.bool false) (by omega) rfl rfl rfl rfl (by simp [execOp,q6,Op.unary]) fun a7 s7 d7 q7 n7=>?_
   refine wpIn_cond_false q7 (wpIn_skip ?_)
   have hc2:=hJ' k w2 hj1
   have hl2:=zvk (hrem k) hc2.cell
   obtain ⟨c,e,hb2,hc0⟩:=hc2
   have hsz:0 < c.size:=(Array.getElem?_eq_some_iff.1 hc0).1
   have f1:a7.eval (.tmp 1)=.pointer (some ⟨b,0,none⟩):=by rw [n7 1 (by simp),n6 1 (by simp),e1']
   refine wpIn_region ?_
   refine zty (d:=5) (zgk (ypt B k)) (by omega) rfl rfl rfl rfl (by simp [execOp,f1,Instr.loadAt,Instr.sureAddr,hl2]) fun a8 s8 d8 q8 n8=>?_
   refine zty (d:=6) (zgk (ypt B k)) (by omega) rfl rfl rfl rfl (by simp [execOp,n8,f1,Instr.loadAt,Instr.sureAddr,hl2]) fun a9 s9 d9 q9 n9=>?_
   refine zty (d:=7) (zgk (ypt B k - 1#32)) (by omega) rfl rfl rfl rfl (by
    have:=zga (ypt B k) 1#32
    simp only [BitVec.toNat_ofNat,Nat.reducePow,Nat.reduceMod,Int.cast_ofNat_Int] at this
    simp [execOp,q9,zgk,zmq,eqGuard,binOp,Op.intArith,this]) fun a10 s10 d10 q10 n10=>?_
   obtain ⟨X,hX⟩:∃ X,X=ypt B k - 1#32:=⟨_,rfl⟩
   obtain ⟨Z,hZ⟩:∃ Z,Z=ypt B (k+1):=⟨_,rfl⟩
   rw [← hX] at q10
   refine zty (d:=8) (zgk Z) (by omega) rfl rfl rfl rfl (by
    have:=zlz (ypt B k) X
    rw [show ypt B k &&& X=Z by rw [hZ,hX];rfl] at this
    simp [execOp,q10,n10,n9,q8,zgk,eqGuard,binOp,this]) fun a11 s11 d11 q11 n11=>?_
   rw [hZ] at q11
   have f2:a11.eval (.tmp 1)=.pointer (some ⟨b,0,none⟩):=by rw [n11 1 (by simp),n10 1 (by simp),n9 1 (by simp),n8 1 (by simp),f1]
   have hst:=run_storeCells_at Tryz.prog b 0 e [zgk (ypt B (k+1))] 0 c w2 hb2 (by simp;omega) (fun v hv=>by cases List.mem_singleton.1 hv;rfl)
   simp only [Nat.add_zero] at hst
   have hszr:yhk Tryz.prog 40 1 false:=(tok _ _ (show TT 40=some _ from rfl)).1
   have hcl:(zgk (ypt B (k+1))).cells=#[zgk (ypt B (k+1))]:=rfl
   refine opI_skip (w':=w2.setRow b (zpt c (zgk (ypt B (k+1))))) rfl rfl rfl rfl (by
    simp [execOp,f2,q11,Instr.storeAt,Instr.sureAddr,storeVar,(hszr.run (w:=w2)).1,hcl,hst,zpt]) ?_
   have hj2:=hput k c e w2 hj1 hb2
   refine ⟨⟨k+1,by omega,hj2,by omega,by rw [d11,d10,d9,d8,d7,d6],by rw [n11 0 (by simp),n10 0 (by simp),n9 0 (by simp),n8 0 (by simp),n7 0 (by simp),n6 0 (by simp),e0'],f2⟩,?_⟩
   rw [hleft _ _ (hJ _ _ hj2).1,hleft _ _ hc]
   omega
  ·refine ⟨_,rfl,?_⟩
   show wpOpsIn _ _ _ _ _ _ (a5.put (some 12) (.bool false)) w2
   have s6:(a5.put (some 12) (.bool false)).tmps.size=14:=by rw [ywz,hs5]
   have d6:(a5.put (some 12) (.bool false)).defers=[]:=by rw [yps,hd5]
   have q6:(a5.put (some 12) (.bool false)).eval (.tmp 12)=.bool false:=yiw (by omega)
   generalize a5.put (some 12) (.bool false)=a6 at s6 d6 q6 ⊢
   refine zty (d:=13) (.bool true) (by omega) rfl rfl rfl rfl (by simp [execOp,q6,Op.unary]) fun a7 s7 d7 q7 n7=>?_
   refine wpIn_cond_true q7 (wpIn_ret ?_)
   refine ⟨?_,.tuple #[],?_,⟨_,rfl⟩,.inr hx⟩
   ·show a7.defers=[]
    rw [d7,d6]
   ·simp [results,Tryz.results225]
 ·have h0:ypt B k=0#32:=by simpa using hb
  have hk2:=znz.1 h0
  obtain rfl:k=(ycu B).length:=by omega
  refine wpIn_exit ?_
  refine ⟨?_,.tuple #[],?_,⟨_,rfl⟩,.inl ?_⟩
  ·show a2.defers=[]
   rw [d2,d1,hd0]
  ·simp [results,Tryz.results225]
  ·rw [show (yqs B).length=(ycu B).length by simp [yqs]]
   exact hj
end
section
open Go.RowKit
def yme (f:Nat→Bool) (n:Nat):Nat:=((List.range n).filter f).length
def zpq (B:BitVec 32):Nat:=yme B.getLsbD 32
theorem ypr (f:Nat→Bool) (m:Nat):∀ n,yme f (m+n)=yme f m+yme (fun i=>f (m+i)) n
 | 0=>by simp [yme]
 | n+1=>by
  have ih:=ypr f m n
  unfold yme at *
  rw [show m+(n+1)=(m+n)+1 by omega,List.range_succ,List.filter_append,List.length_append,ih,List.range_succ,List.filter_append,List.length_append]
  simp only [List.filter_cons,List.filter_nil]
  cases f (m+n) <;> simp <;> omega
theorem yhv {f g:Nat→Bool} {n:Nat} (h:∀ i,i < n→f i=g i):yme f n=yme g n:=by
 unfold yme
 congr 1
 exact List.filter_congr fun i hi=>h i (List.mem_range.1 hi)
theorem zss (f:Nat→Bool) (n:Nat):yme f n≤n:=by
 unfold yme
 have:=List.length_filter_le f (List.range n)
 simpa using this
def zbi (x:Nat):Nat:=yme x.testBit 8
def yrv:ByteArray:=⟨((List.range 256).map fun n=>UInt8.ofNat (zbi n)).toArray⟩
theorem ypy {n:Nat} (h:n < 256):yrv[n]?=some (UInt8.ofNat (zbi n)):=by
 have hs:n < yrv.size:=by
  show n < (((List.range 256).map fun n=>UInt8.ofNat (zbi n)).toArray).size
  simpa using h
 rw [getElem?_pos yrv n hs]
 show some ((((List.range 256).map fun n=>UInt8.ofNat (zbi n)).toArray)[n]'(by simpa using h))=_
 simp
theorem pop_split (B:BitVec 32):zpq B=zbi (B >>> 24).toNat+zbi ((B >>> 16) &&& 255#32).toNat+zbi ((B >>> 8) &&& 255#32).toNat+zbi (B &&& 255#32).toNat:=by
 have h255:∀ i,i < 8→(255#32).getLsbD i=true:=by decide
 have e1:zbi (B >>> 24).toNat=yme (fun i=>B.getLsbD (24+i)) 8:=yhv fun i hi=>by
  show (B >>> 24).getLsbD i=_
  rw [BitVec.getLsbD_ushiftRight]
 have e2:zbi ((B >>> 16) &&& 255#32).toNat=yme (fun i=>B.getLsbD (16+i)) 8:=yhv fun i hi=>by
  show ((B >>> 16) &&& 255#32).getLsbD i=_
  rw [BitVec.getLsbD_and,BitVec.getLsbD_ushiftRight,h255 i hi,Bool.and_true]
 have e3:zbi ((B >>> 8) &&& 255#32).toNat=yme (fun i=>B.getLsbD (8+i)) 8:=yhv fun i hi=>by
  show ((B >>> 8) &&& 255#32).getLsbD i=_
  rw [BitVec.getLsbD_and,BitVec.getLsbD_ushiftRight,h255 i hi,Bool.and_true]
 have e4:zbi (B &&& 255#32).toNat=yme B.getLsbD 8:=yhv fun i hi=>by
  show (B &&& 255#32).getLsbD i=_
  rw [BitVec.getLsbD_and,h255 i hi,Bool.and_true]
 have s1:yme B.getLsbD 32=yme B.getLsbD 8+yme (fun i=>B.getLsbD (8+i)) 24:=ypr B.getLsbD 8 24
 have s2:yme (fun i=>B.getLsbD (8+i)) 24=yme (fun i=>B.getLsbD (8+i)) 8+yme (fun i=>B.getLsbD (8+(8+i))) 16:=ypr (fun i=>B.getLsbD (8+i)) 8 16
 have s3:yme (fun i=>B.getLsbD (8+(8+i))) 16=yme (fun i=>B.getLsbD (8+(8+i))) 8+yme (fun i=>B.getLsbD (8+(8+(8+i)))) 8:=ypr (fun i=>B.getLsbD (8+(8+i))) 8 8
 have f1:yme (fun i=>B.getLsbD (8+(8+i))) 8=yme (fun i=>B.getLsbD (16+i)) 8:=yhv fun i _=>by congr 1;omega
 have f2:yme (fun i=>B.getLsbD (8+(8+(8+i)))) 8=yme (fun i=>B.getLsbD (24+i)) 8:=yhv fun i _=>by congr 1;omega
 rw [e1,e2,e3,e4]
 show yme B.getLsbD 32=_
 omega
theorem zfo (n:Nat):zbi n≤8:=zss _ _
theorem zqt (B:BitVec 32):(B &&& 255#32).toNat < 256:=by
 rw [BitVec.toNat_and]
 exact Nat.lt_of_le_of_lt Nat.and_le_right (by decide)
theorem shr24 (B:BitVec 32):(B >>> 24).toNat < 256:=by
 rw [BitVec.toNat_ushiftRight,Nat.shiftRight_eq_div_pow]
 have:=B.isLt
 omega
theorem zow {n:Nat} (h:n≤8):((UInt8.ofNat n).toNat:Int)=n:=by
 rw [UInt8.toNat_ofNat']
 omega
theorem ones_con (B:BitVec 32):Con Tryz.prog 127 [ycb B] (i64 (zpq B)):=by
 have p1:=zfo (B >>> 24).toNat
 have p2:=zfo ((B >>> 16) &&& 255#32).toNat
 have p3:=zfo ((B >>> 8) &&& 255#32).toNat
 have p4:=zfo (B &&& 255#32).toNat
 refine yao Tryz.func127 rfl rfl Tryz.ntmps127 Tryz.results127 rfl rfl ?_
 (repeat (first|refine ygs rfl rfl (by omega) rfl rfl ?_|refine yfg (C:=255#32) rfl rfl rfl rfl ?_|refine ywi (s:=yrv) (b:=UInt8.ofNat (zbi (B >>> 24).toNat)) tok rfl (by kernel_rfl) rfl (by omega) (ypy (shr24 B)) rfl rfl (ynz 5 (y:=.v (.int .u8 (zbi (B >>> 24).toNat))) rfl (by rw [zow p1]) ?_)|refine ywi (s:=yrv) (b:=UInt8.ofNat (zbi ((B >>> 16) &&& 255#32).toNat)) tok rfl (by kernel_rfl) rfl (by omega) (ypy (zqt _)) rfl rfl (ynz 9 (y:=.v (.int .u8 (zbi ((B >>> 16) &&& 255#32).toNat))) rfl (by rw [zow p2]) ?_)|refine ywi (s:=yrv) (b:=UInt8.ofNat (zbi ((B >>> 8) &&& 255#32).toNat)) tok rfl (by kernel_rfl) rfl (by omega) (ypy (zqt _)) rfl rfl (ynz 14 (y:=.v (.int .u8 (zbi ((B >>> 8) &&& 255#32).toNat))) rfl (by rw [zow p3]) ?_)|refine ywi (s:=yrv) (b:=UInt8.ofNat (zbi (B &&& 255#32).toNat)) tok rfl (by kernel_rfl) rfl (by omega) (ypy (zqt _)) rfl rfl (ynz 18 (y:=.v (.int .u8 (zbi (B &&& 255#32).toNat))) rfl (by rw [zow p4]) ?_)|refine L_u8 tok rfl (by constructor <;> omega) rfl rfl ?_|refine zI ?_|refine zL ?_|refine zC ?_|refine yes ?_|refine ydt ?_|refine zR ?_|refine zD ?_|refine zK ?_|refine zB ?_|refine zA ?_|refine zS ?_|refine zU ?_|refine zV ?_|refine zF ?_|with_reducible refine ybh ?_|with_reducible refine ybw ?_|refine yby ?_|refine ybt ?_|refine yde ?_|refine zT ?_|refine zE ?_|refine zX ?_|fail))
 refine yae ?_;refine ⟨_,rfl,?_⟩
 exact yai (by rw [pop_split];omega)
end
section
open Go.RowKit
structure CntD where
 steps:Int
 moves:Int
 rounds:Int
 begun:Int
 pend:BitVec 32
def zpx:BitVec 32:=16777215#32
def ykg (k:CntD):List AV:=[i64 k.steps,i64 k.moves,i64 k.rounds,i64 k.begun,ycb k.pend]
def yjm (e:BitVec 32):CntD:=⟨0,0,0,0,e &&& zpx⟩
def zkk (k:CntD) (ch af:BitVec 32):CntD:=
 if k.pend &&& ~~~ch &&& af=0#32 then ⟨k.steps+1,k.moves+zpq ch,k.rounds+1,k.rounds+1,af⟩ else ⟨k.steps+1,k.moves+zpq ch,k.rounds,k.rounds+1,k.pend &&& ~~~ch &&& af⟩
def InM (B:BitVec 32):Prop:=B &&& ~~~zpx=0#32
structure CntOk (k:CntD):Prop where
 s0:0≤k.steps
 s1:k.steps≤4096
 r0:0≤k.rounds
 r1:k.rounds≤k.begun
 b1:k.begun≤k.steps
 b2:k.begun≤k.rounds+1
 m0:k.steps≤k.moves
 m1:k.moves≤24 * k.steps
 pend:InM k.pend
theorem zkv {B:BitVec 32} (h:InM B) {i:Nat} (hi:24≤i):B.getLsbD i=false:=by
 rcases Nat.lt_or_ge i 32 with h9|h9
 ·have:=congrArg (fun X=>BitVec.getLsbD X i) h
  simp only [BitVec.getLsbD_and,BitVec.getLsbD_not,BitVec.getLsbD_zero] at this
  have e:zpx.getLsbD i=false:=by
   have:∀ j:Fin 8,zpx.getLsbD (24+j.val)=false:=by decide
   have:=this ⟨i - 24,by omega⟩
   rwa [show 24+(i - 24)=i by omega] at this
  rw [e] at this
  simpa [h9] using this
 ·exact BitVec.getLsbD_of_ge _ _ h9
theorem znf {B:BitVec 32} (h:∀ i,24≤i→B.getLsbD i=false):InM B:=by
 apply BitVec.eq_of_getLsbD_eq
 intro i hi
 rw [BitVec.getLsbD_and,BitVec.getLsbD_not,BitVec.getLsbD_zero]
 rcases Nat.lt_or_ge i 24 with h9|h9
 ·have:∀ j:Fin 24,zpx.getLsbD j.val=true:=by decide
  rw [this ⟨i,h9⟩];simp
 ·rw [h i h9];simp
theorem zyi {B:BitVec 32} (h:InM B):zpq B≤24:=by
 have e:zpq B=yme B.getLsbD 24+yme (fun i=>B.getLsbD (24+i)) 8:=ypr _ 24 8
 have e2:yme (fun i=>B.getLsbD (24+i)) 8=0:=by
  unfold yme
  rw [List.filter_eq_nil_iff.2 (fun i _=>by simp [zkv h (show 24≤24+i by omega)])]
  rfl
 have:=zss B.getLsbD 24
 omega
theorem zst {B:BitVec 32} (h:B≠0#32):1≤zpq B:=by
 rcases Nat.eq_zero_or_pos (zpq B) with h0|h0
 ·exfalso
  refine h (BitVec.eq_of_getLsbD_eq fun i hi=>?_)
  rw [BitVec.getLsbD_zero]
  have:=List.filter_eq_nil_iff.1 (List.eq_nil_of_length_eq_zero h0) i (List.mem_range.2 hi)
  simpa using this
 ·exact h0
theorem add_ok {k:CntD} (h:CntOk k) (h4:k.steps < 4096) {ch af:BitVec 32} (hc:ch≠0#32) (h1:InM ch) (h2:InM af):CntOk (zkk k ch af):=by
 have p1:=zst hc
 have p2:=zyi h1
 obtain ⟨a1,a2,a3,a4,a5,a6,a7,a8,a9⟩:=h
 unfold zkk
 split
 ·exact ⟨by simp only;omega,by simp only;omega,by simp only;omega,by simp only;omega,by simp only;omega,by simp only;omega,by simp only;omega,by simp only;omega,h2⟩
 ·refine ⟨by simp only;omega,by simp only;omega,by simp only;omega,by simp only;omega,by simp only;omega,by simp only;omega,by simp only;omega,by simp only;omega,znf fun i hi=>?_⟩
  rw [BitVec.getLsbD_and,BitVec.getLsbD_and,zkv a9 hi];simp
theorem begin_ok {e:BitVec 32}:CntOk (yjm e):=⟨by simp [yjm],by simp [yjm],by simp [yjm],by simp [yjm],by simp [yjm],by simp [yjm],by simp [yjm],by simp [yjm],znf fun i hi=>by
 simp only [yjm]
 rw [BitVec.getLsbD_and,zkv (B:=zpx) (by unfold InM zpx;decide) hi,Bool.and_false]⟩
theorem begin_con (e:BitVec 32):Con Tryz.prog 169 [ycb e] (.agg (ykg (yjm e))):=by
 refine yfy tok Tryz.func169 rfl rfl Tryz.ntmps169 Tryz.results169 rfl rfl ?_
 (repeat (first|refine yfg (C:=zpx) rfl rfl rfl rfl ?_|refine zI ?_|refine zL ?_|refine zC ?_|refine yes ?_|refine ydt ?_|refine zR ?_|refine zD ?_|refine zK ?_|refine zB ?_|refine zA ?_|refine zS ?_|refine zU ?_|refine zV ?_|refine zF ?_|with_reducible refine ybh ?_|with_reducible refine ybw ?_|refine yby ?_|refine ybt ?_|refine yde ?_|refine zT ?_|refine zE ?_|refine zX ?_|fail))
 refine yae ?_;refine ⟨_,rfl,?_⟩
 exact Frz.pure
def ytp (l:List (BitVec 32)):AV:=.sl 1 (l.map fun B=>[ycb B])
theorem yvw (l:List (BitVec 32)) (hl:l.length≤1000) (h:∀ B∈l,InM B):Con Tryz.prog 224 [ytp l] (ybq true):=by
 refine yao Tryz.func224 rfl rfl Tryz.ntmps224 Tryz.results224 rfl rfl ?_
 (try refine zy ?_)
 refine ydi (α:=Nat) (fun k=>[(7,i64 k),(6,i64 l.length),(5,ytp l)]) (fun k=>[]) (fun k=>l.length - k) (fun k=>k≤l.length) 0 (by omega) (by exact zs) yak ?_
 intro k hk
 (try refine zy ?_)
 refine yac rfl (fun h1=>?_) (fun h1=>?_)
 ·simp at h1
  obtain ⟨B,hB⟩:=ycg h1
  have hm:=h B (List.mem_of_getElem? hB)
  (repeat (first|refine ybu (C:=zpx) rfl rfl rfl rfl ?_|refine zI ?_|refine zL ?_|refine zC ?_|refine yes ?_|refine ydt ?_|refine zR ?_|refine zD ?_|refine zK ?_|refine zB ?_|refine zA ?_|refine zS ?_|refine zU ?_|refine zV ?_|refine zF ?_|with_reducible refine ybh ?_|with_reducible refine ybw ?_|refine yby ?_|refine ybt ?_|refine yde ?_|refine zT ?_|refine zE ?_|refine zX ?_|fail))
  refine yac rfl (fun h2=>?_) (fun h2=>?_)
  ·rw [ynd,hm] at h2;simp at h2
  (try refine zy ?_)
  exact rnd (k+1) (by omega) (by omega) (by exact zs) yak
 ·simp at h1
  obtain rfl:k=l.length:=by omega
  (try refine zy ?_)
  refine yae ?_;refine ⟨_,rfl,?_⟩
  exact Frz.pure
theorem avalid_con (k:CntD) (h:CntOk k):Con Tryz.prog 223 [.agg (ykg k)] (ybq true):=by
 obtain ⟨a1,a2,a3,a4,a5,a6,a7,a8,a9⟩:=h
 have hp:=yvw [k.pend] (by simp) (by simp [a9])
 refine yao Tryz.func223 rfl rfl Tryz.ntmps223 Tryz.results223 rfl rfl ?_
 (try refine zy ?_)
 refine yay 6 rfl (fun h1=>?_) (fun h1=>?_)
 ·simp at h1;omega
 (try refine zy ?_)
 refine yay 11 rfl (fun h2=>?_) (fun h2=>?_)
 ·simp at h2;omega
 (try refine zy ?_)
 refine yay 16 rfl (fun h3=>?_) (fun h3=>?_)
 ·simp at h3;omega
 (try refine zy ?_)
 refine yay 23 rfl (fun h4=>?_) (fun h4=>?_)
 ·simp at h4;omega
 (try refine zy ?_)
 refine yac rfl (fun h5=>?_) (fun h5=>?_)
 ·simp at h5;omega
 (try refine zy ?_)
 refine yac rfl (fun h6=>?_) (fun h6=>?_)
 ·simp at h6;omega
 (try refine zy ?_)
 refine yay 41 rfl (fun h7=>?_) (fun h7=>?_)
 ·(try refine zy ?_)
  refine yay 49 rfl (fun h8=>?_) (fun h8=>?_)
  ·(repeat (first|refine zy ?_|refine yaf rfl rfl hp rfl rfl ?_))
   refine yae ?_;refine ⟨_,rfl,?_⟩
   exact Frz.pure
  ·simp at h8;omega
 ·simp at h7;omega
theorem add_con (k:CntD) (h:CntOk k) (h4:k.steps < 4096) {ch af:BitVec 32} (hc:ch≠0#32) (h1:InM ch) (h2:InM af):Con Tryz.prog 171 [.agg (ykg k),ycb ch,ycb af] (.tup [.agg (ykg (zkk k ch af)),i64 0]):=by
 have hv:=avalid_con k h
 have hp:=yvw [ch,af] (by simp) (by simp [h1,h2])
 have p1:=zst hc
 have p2:=zyi h1
 obtain ⟨a1,a2,a3,a4,a5,a6,a7,a8,a9⟩:=h
 refine yfy tok Tryz.func171 rfl rfl Tryz.ntmps171 Tryz.results171 rfl rfl ?_
 (repeat (first|refine zy ?_|refine yaf rfl rfl hv rfl rfl ?_))
 refine yay 14 rfl (fun q1=>?_) (fun q1=>?_)
 ·rw [yfw] at q1;exact absurd (by simpa using q1) hc
 (repeat (first|refine zy ?_|refine yaf rfl rfl hp rfl rfl ?_))
 refine yac rfl (fun q2=>?_) (fun q2=>?_)
 ·simp at q2;omega
 (repeat (first|refine ymi tok rfl (by constructor <;> omega) rfl rfl ?_|refine ygr rfl rfl (by omega) rfl rfl ?_|refine ygs rfl rfl (by omega) rfl rfl ?_|refine ymg rfl rfl rfl rfl ?_|refine yfg rfl rfl rfl rfl ?_|refine yhh rfl rfl rfl rfl ?_|refine ybu rfl rfl rfl rfl ?_|refine zI ?_|refine zL ?_|refine zC ?_|refine yes ?_|refine ydt ?_|refine zR ?_|refine zD ?_|refine zK ?_|refine zB ?_|refine zA ?_|refine zS ?_|refine zU ?_|refine zV ?_|refine zF ?_|refine zN ?_|with_reducible refine ybh ?_|with_reducible refine ybw ?_|refine yby ?_|refine ybt ?_|refine yde ?_|refine zT ?_|refine zE ?_|refine zX ?_|refine yaf rfl rfl (ones_con ch) rfl rfl ?_))
 refine yac rfl (fun q3=>?_) (fun q3=>?_)
 ·rw [yfw] at q3
  have e:zkk k ch af=⟨k.steps+1,k.moves+zpq ch,k.rounds+1,k.rounds+1,af⟩:=by unfold zkk;rw [if_pos (by simpa using q3)]
  rw [e]
  (try refine zy ?_)
  refine yae ?_;refine ⟨_,rfl,?_⟩
  exact Frz.pure
 ·rw [yfw] at q3
  have e:zkk k ch af=⟨k.steps+1,k.moves+zpq ch,k.rounds,k.rounds+1,k.pend &&& ~~~ch &&& af⟩:=by unfold zkk;rw [if_neg (by simpa using q3)]
  rw [e]
  (try refine zy ?_)
  refine yae ?_;refine ⟨_,rfl,?_⟩
  exact Frz.pure
end
end Go.Proofs.YtgpbgfpjlhoicaaGreatDoor
