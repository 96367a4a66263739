/- Part 13 of the texts under TopCertificatesBoundRuns. -/
import Derived.Test.YtgpodcjhgdionaaGreatDoorCB5
import Derived.Test.YtgpodcjhgdionaaGreatDoorCB8
import Derived.Test.YtgpodcjhgdionaaGreatDoorCB10
import Derived.Test.YtgpodcjhgdionaaGreatDoorCB11
import Derived.Test.YtgpodcjhgdionaaGreatDoorCB12
set_option linter.unusedVariables false
set_option maxRecDepth 100000
set_option maxHeartbeats 8000000
namespace Go.Proofs.YtgpodcjhgdionaaGreatDoor
open Go.Proofs.Tryz
variable {c:List (List Int)} {g:GraphD} {h:Nat->Option LObj} {p:ProgD} {l:List (BitVec 32)} {set B w e s:BitVec 32} {k n i u id N:Nat} {kind:Int} {xs:List AV} {P:Program}
section
open Go.RowKit
section
variable {P:Program} {n:Nat} {ops:Array Oper} {Q:Exit->Act->World->Prop} {a:Act} {w:World}
theorem opI_call {i d:Nat} {rest:List Nat} {o:Oper} {f:FuncId} {args:Array Value} {R:Ending->World->Prop} (hlt:d < a.tmps.size) (ho:ops[i]?=some o) (hdst:o.dst=some d) (hg:o.guard=none) (hd:yni o.op=false) (hr:(execOp a.eval o).run P w=.ok (.enter f args) w) (hc:Calls P f args w R)
  (k:∀ e w',R e w'->∃ u,e=.returned u/\∀ a':Act,a'.tmps.size=a.tmps.size->a'.defers=a.defers->a'.eval (.tmp d)=u->(∀ x,x≠d->a'.eval (.tmp x)=a.eval (.tmp x))->wpOpsIn Fence.wide n P ops Q rest a' w'):wpOpsIn Fence.wide n P ops Q (i::rest) a w:=by
 have hw:Region.wanted o (yielded ops a.tmps)=true:=by simp [Region.wanted,hg]
 simp only [wpOpsIn,ho,hw,if_true];refine ynl (rd:=none) hd ?_;unfold Oper.wp;rw [hr];refine hc.mono fun e w' hR=>?_;obtain ⟨u,rfl,hk⟩:=k e w' hR;show wpOpsIn _ _ _ _ _ _ (a.put o.dst u) w';rw [hdst];exact hk _ yhk yef (ycw hlt) fun x hx=>yff hx
theorem opI_skip {i:Nat} {rest:List Nat} {o:Oper} {w':World} (ho:ops[i]?=some o) (hdst:o.dst=none) (hg:o.guard=none) (hd:yni o.op=false) (hr:(execOp a.eval o).run P w=.ok .skip w') (k:wpOpsIn Fence.wide n P ops Q rest a w'):wpOpsIn Fence.wide n P ops Q (i::rest) a w:=by
 have hw:Region.wanted o (yielded ops a.tmps)=true:=by simp [Region.wanted,hg]
 simp only [wpOpsIn,ho,hw,if_true];refine ynl (rd:=none) hd ?_;unfold Oper.wp;rw [hr];show wpOpsIn _ _ _ _ _ _ (a.put o.dst undef) w';rw [hdst];exact k
end
theorem ev_func {a:Act} {f:FuncId}:a.eval (.func f)=.func (.func f) #[] #[]:=rfl
def zmt (B:BitVec 32):Value:=.int .u32 (B.toNat:Int)
def yto (B:BitVec 32):List (List AV):=(yca B).map fun v:Nat=>[i64 v]
def leftOf (w:World) (b:Nat):Nat:=match w.cell? ⟨b,0,none⟩ with
 | some (.int _ z)=>(yca (BitVec.ofInt 32 z)).length
 | _=>0
theorem zyq.cell {W:World} {b:Nat} {v:Value} (h:zyq W b v):W.cell? ⟨b,0,none⟩=some v:=by
 obtain ⟨c,e,h1,h2⟩:=h;simp [World.cell?,h1,h2]
theorem xgl {W:World} {b:Nat} {v:Value} (hv:v.oneCell'=true) (h:W.cell? ⟨b,0,none⟩=some v):(loadVar 50 ⟨b,0,none⟩).run prog W=.ok v W:=by
 obtain ⟨u,h1,h2⟩:=yjl (P:=prog) (ok:=fun _=>True) (w:=W) (lv:=fun _=>none) (g:=b) (o:=0) (xs:=[.v v]) (t:=50) (s:=1) (ag:=false) (r:=.v v) (tok _ _ (show TT 50=some _ from rfl)).1 (fun j x hx=>by
  match j with
  | 0=>simp only [qat,Option.some.injEq] at hx;subst hx;exact ⟨hv,_,h,.v _⟩
  | j+1=>simp at hx) rfl
 cases h2;exact h1
theorem ysl (B:BitVec 32):zka prog 180 (yto B) (fun k=>zmt (yso B k)):=by
 refine ⟨⟨_,Tryz.func180,rfl,rfl⟩,fun l ok W b J J' X hJ hJ' hJg hJg' hXg hput hround h0=>?_⟩;refine callsIn_of_wp Tryz.func180 rfl trivial ?_;rw [ntmps180];rw [show (#[Value.func (.yield l) #[] #[]]++[Value.pointer (some ⟨b,0,none⟩)].toArray:Array Value)=[Value.func (.yield l) #[] #[],Value.pointer (some ⟨b,0,none⟩)].toArray by simp];generalize ha:({ tmps:=[Value.func (.yield l) #[] #[],Value.pointer (some ⟨b,0,none⟩)].toArray++Array.replicate (14 - [Value.func (.yield l) #[] #[],Value.pointer (some ⟨b,0,none⟩)].toArray.size) undef,defers:=[] }:Act)=a0;have hs0:a0.tmps.size=14:=by rw [<- ha];simp only [qgu,qgi,qcx,qaj,qeb]
 have e0:a0.eval (.tmp 0)=.func (.yield l) #[] #[]:=by rw [<- ha];simp only [Act.eval];exact yej [Value.func (.yield l) #[] #[],Value.pointer (some ⟨b,0,none⟩)] _ 0 _ rfl
 have e1:a0.eval (.tmp 1)=.pointer (some ⟨b,0,none⟩):=by rw [<- ha];simp only [Act.eval];exact yej [Value.func (.yield l) #[] #[],Value.pointer (some ⟨b,0,none⟩)] _ 1 _ rfl
 have hd0:a0.defers=[]:=by rw [<- ha]
 clear ha;have hrem:∀ k,(zmt (yso B k)).oneCell'=true:=fun k=>rfl;have hleft:∀ k w,zyq w b (zmt (yso B k))->leftOf w b=(yca B).length - k:=fun k w h=>by
  unfold leftOf;rw [h.cell];show (yca (BitVec.ofInt 32 ((yso B k).toNat:Int))).length=_;rw [yig,zcd,qcw]
 refine wpIn_block (wpIn_loop (fun a w=>∃ k,k<=(yca B).length/\J k w/\a.tmps.size=14/\a.defers=[]/\a.eval (.tmp 0)=.func (.yield l) #[] #[]/\a.eval (.tmp 1)=.pointer (some ⟨b,0,none⟩)) (fun a w=>leftOf w b) ⟨0,om,h0,hs0,hd0,e0,e1⟩ ?_);clear e0 e1 hs0 hd0 h0 a0;rintro a0 w ⟨k,hk,hj,hs0,hd0,e0,e1⟩;obtain ⟨hc,hG⟩:=hJ k w hj;have hl:=xgl (hrem k) hc.cell;refine wpIn_seq (wpIn_seq (wpIn_region ?_));refine yhs (d:=3) (zmt (yso B k)) om rfl rfl rfl rfl (by simp [execOp,e1,Instr.loadAt,Instr.sureAddr,hl]) fun a1 s1 d1 q1 n1=>?_;refine yhs (d:=4) (.bool (yso B k != 0#32)) om rfl rfl rfl rfl (by
  rw [<- yfh]
  simp [execOp,q1,zmt,yfz,eqGuard,binOp,Op.intCmp]) fun a2 s2 d2 q2 n2=>?_
 refine wpIn_cond_split q2 (fun hb=>?_) (fun hb=>?_)
 .have hne:yso B k≠0#32:=by simpa using hb
  refine wpIn_skip ?_;refine wpIn_seq (wpIn_block (wpIn_seq (wpIn_region ?_)));refine yhs (d:=9) (.func (.yield l) #[] #[]) om rfl rfl rfl rfl (by simp [execOp,n2,n1,e0]) fun a3 s3 d3 q3 n3=>?_;refine yhs (d:=10) (zmt (yso B k)) om rfl rfl rfl rfl (by simp [execOp,n3,n2,n1,e1,Instr.loadAt,Instr.sureAddr,hl]) fun a4 s4 d4 q4 n4=>?_;refine opI_call (d:=11) om rfl rfl rfl rfl (f:=181) (args:=#[zmt (yso B k)]) (by simp [execOp,resolve,invoke,q4,ev_func,Deferred.ofValue,ygl (P:=prog) ⟨_,Tryz.func181,rfl,rfl⟩]) (zae (tz_con _ hne) (us:=[zmt (yso B k)]) hG (ok:=fun _=>False) (fun _ h=>h.elim) (ybj (.v _) ygu)) fun e w' hR=>?_;obtain ⟨rfl,hbel⟩:=hR;refine ⟨_,rfl,fun a5 s5 d5 q5 n5=>?_⟩;have hj':=hJg k w w' hj hbel;have hkl:k < (yca B).length:=qdg fun h=>hne (zxf.2 h);have hel:(yto B)[k]?=some [i64 (tzV (yso B k):Nat)]:=by
   unfold yto;rw [qah,rem_at hne];rfl
  have hy:=hround k _ [.int .i64 (tzV (yso B k):Nat)] w' hel hj' (ybj (.v _) ygu);refine zfc (g:=.tmp 9) (args:=#[.tmp 11]) rfl rfl rfl (by rw [n5 9 sm,n4 9 sm,q3]) (R:=fun e W'=>(e=.returned (.bool true)/\J' k W')\/(e=.returned (.bool false)/\X W')) (by simpa [q5] using hy) fun e w2 hR2=>?_;have e0':a5.eval (.tmp 0)=.func (.yield l) #[] #[]:=by rw [n5 0 sm,n4 0 sm,n3 0 sm,n2 0 sm,n1 0 sm,e0]
  have e1':a5.eval (.tmp 1)=.pointer (some ⟨b,0,none⟩):=by rw [n5 1 sm,n4 1 sm,n3 1 sm,n2 1 sm,n1 1 sm,e1]
  have hd5:a5.defers=[]:=by rw [d5,d4,d3,d2,d1,hd0]
  have hs5:a5.tmps.size=14:=by omega
  rcases hR2 with ⟨rfl,hj1⟩|⟨rfl,hx⟩
  .refine ⟨_,rfl,?_⟩;show wpOpsIn _ _ _ _ _ _ (a5.put (some 12) (.bool true)) w2;have s6:(a5.put (some 12) (.bool true)).tmps.size=14:=by rw [yhk,hs5]
   have d6:(a5.put (some 12) (.bool true)).defers=[]:=by rw [yef,hd5]
   have q6:(a5.put (some 12) (.bool true)).eval (.tmp 12)=.bool true:=ycw om;have n6:∀ x,x≠12->(a5.put (some 12) (.bool true)).eval (.tmp x)=a5.eval (.tmp x):=fun x hx=>yff hx;generalize a5.put (some 12) (.bool true)=a6 at s6 d6 q6 n6 ⊢;refine yhs (d:=13) (.bool false) om rfl rfl rfl rfl (by simp [execOp,q6,Op.unary]) fun a7 s7 d7 q7 n7=>?_;refine wpIn_cond_false q7 (wpIn_skip ?_);have hc2:=hJ' k w2 hj1;have hl2:=xgl (hrem k) hc2.cell;obtain ⟨c,e,hb2,hc0⟩:=hc2;have hsz:0 < c.size:=(qbd.1 hc0).1;have f1:a7.eval (.tmp 1)=.pointer (some ⟨b,0,none⟩):=by rw [n7 1 sm,n6 1 sm,e1']
   refine wpIn_region ?_;refine yhs (d:=5) (zmt (yso B k)) om rfl rfl rfl rfl (by simp [execOp,f1,Instr.loadAt,Instr.sureAddr,hl2]) fun a8 s8 d8 q8 n8=>?_;refine yhs (d:=6) (zmt (yso B k)) om rfl rfl rfl rfl (by simp [execOp,n8,f1,Instr.loadAt,Instr.sureAddr,hl2]) fun a9 s9 d9 q9 n9=>?_;refine yhs (d:=7) (zmt (yso B k - 1#32)) om rfl rfl rfl rfl (by
    have:=zmf (yso B k) 1#32
    simp only [qgr,Nat.reducePow,Nat.reduceMod,Int.cast_ofNat_Int] at this
    simp [execOp,q9,zmt,yfz,eqGuard,binOp,Op.intArith,this]) fun a10 s10 d10 q10 n10=>?_
   obtain ⟨X,hX⟩:∃ X,X=yso B k - 1#32:=⟨_,rfl⟩;obtain ⟨Z,hZ⟩:∃ Z,Z=yso B (k+1):=⟨_,rfl⟩;rw [<- hX] at q10;refine yhs (d:=8) (zmt Z) om rfl rfl rfl rfl (by
    have:=zum (yso B k) X
    rw [show yso B k &&& X=Z by rw [hZ,hX];rfl] at this
    simp [execOp,q10,n10,n9,q8,zmt,eqGuard,binOp,this]) fun a11 s11 d11 q11 n11=>?_
   rw [hZ] at q11;have f2:a11.eval (.tmp 1)=.pointer (some ⟨b,0,none⟩):=by rw [n11 1 sm,n10 1 sm,n9 1 sm,n8 1 sm,f1]
   have hst:=run_storeCells_at prog b 0 e [zmt (yso B (k+1))] 0 c w2 hb2 so (fun v hv=>by cases qaq.1 hv;rfl);simp only [qdi] at hst;have hszr:yip prog 50 1 false:=(tok _ _ (show TT 50=some _ from rfl)).1;have hcl:(zmt (yso B (k+1))).cells=#[zmt (yso B (k+1))]:=rfl;refine opI_skip (w':=w2.setRow b (zzj c (zmt (yso B (k+1))))) rfl rfl rfl rfl (by
    simp [execOp,f2,q11,Instr.storeAt,Instr.sureAddr,storeVar,(hszr.run (w:=w2)).1,hcl,hst,zzj]) ?_
   have hj2:=hput k c e w2 hj1 hb2;refine ⟨⟨k+1,om,hj2,om,by rw [d11,d10,d9,d8,d7,d6],by rw [n11 0 sm,n10 0 sm,n9 0 sm,n8 0 sm,n7 0 sm,n6 0 sm,e0'],f2⟩,?_⟩;rw [hleft _ _ (hJ _ _ hj2).1,hleft _ _ hc];omega
  refine ⟨_,rfl,?_⟩;show wpOpsIn _ _ _ _ _ _ (a5.put (some 12) (.bool false)) w2;have s6:(a5.put (some 12) (.bool false)).tmps.size=14:=by rw [yhk,hs5]
  have d6:(a5.put (some 12) (.bool false)).defers=[]:=by rw [yef,hd5]
  have q6:(a5.put (some 12) (.bool false)).eval (.tmp 12)=.bool false:=ycw om;generalize a5.put (some 12) (.bool false)=a6 at s6 d6 q6 ⊢;refine yhs (d:=13) (.bool true) om rfl rfl rfl rfl (by simp [execOp,q6,Op.unary]) fun a7 s7 d7 q7 n7=>?_;refine wpIn_cond_true q7 (wpIn_ret ?_);refine ⟨?_,.tuple #[],?_,⟨_,rfl⟩,.inr hx⟩
  .show a7.defers=[];rw [d7,d6]
  simp [results,Tryz.results180]
 have h0:yso B k=0#32:=by simpa using hb
 have hk2:=zxf.1 h0;obtain rfl:k=(yca B).length:=by omega
 refine wpIn_exit ?_;refine ⟨?_,.tuple #[],?_,⟨_,rfl⟩,.inl ?_⟩
 .show a2.defers=[];rw [d2,d1,hd0]
 .simp [results,Tryz.results180]
 rw [show (yto B).length=(yca B).length by simp [yto]];exact hj
end
section
open Go.RowKit
structure Ren (n:Nat) (f i:Nat->Nat):Prop where
 lt:∀ v,v < n->f v < n
 ilt:∀ v,v < n->i v < n
 back:∀ v,v < n->i (f v)=v
 forth:∀ v,v < n->f (i v)=v
theorem Ren.inj {f i:Nat->Nat} (h:Ren n f i) {v:Nat} (hu:u < n) (hv:v < n) (e:f u=f v):u=v:=by
 rw [<- h.back u hu,<- h.back v hv,e]
def renL {α:Type} (i:Nat->Nat) (l:List α) (d:α):List α:=(List.range l.length).map fun u=>l.getD (i u) d
section
variable {g:GraphD} {f i:Nat->Nat}
def rootB (op:Int):Bool:=op == 10 || op == 15
end
end
section
open Go.RowKit
def xkc (l:List Tm):Bool:=l.any fun t=>rootB t.1
def xkd (p:ProgD):Bool:=p.rules.any fun r=>xkc r.guard || r.sets.any fun x=>xkc x.val
section
variable {g:GraphD} {f i:Nat->Nat}
section
variable {p:ProgD} (hp:yed p=0) (hr:xkd p=false) (hg:ych g=true) {c:List (List Int)} (hl:c.length=g.ports.length) (R:Ren g.ports.length f i)
include hp hr hg hl R
end
def InN (n:Nat) (B:BitVec 32):Prop:=∀ u,n<=u->B.getLsbD u=false
theorem zvz {n:Nat} {A:BitVec 32} (h:A &&& ~~~B=0#32) (hB:InN n B):InN n A:=fun u hu=>by
 rcases qbi u 32 with h1|h1
 .have:=congrArg (fun X=>BitVec.getLsbD X u) h;simp only [qav,qcc,qbf,hB u hu] at this;simpa [h1] using this
 exact qbs _ _ h1
end
end
set_option maxHeartbeats 4000000
section
open Go.RowKit
variable {P:Program} {N:Nat} {Q:Exit->SS->Prop} {t:List (Nat × AV)}
theorem A_freezeRows {c:Code} {t':List (Nat × AV)} {h f f':List (Nat × Option LObj)} {M:Nat} {els:List (List (List AV))} {sz:Nat} (hh:yac h=yac (f++ybs M sz (els.map List.flatten) [])) (ht':yxu t t') (ht:xel t'=true) (hf:zpj f=true) (hf':yts f f') (hl':zpj f'=true) (hM:Nat.blt M 1000000=true) (hkey:(f.all fun x=>!Nat.beq x.1 M)=true) (hkey':(f'.all fun x=>!Nat.beq x.1 M)=true) (hs:0 < sz) (hsz:∀ r∈els,∀ e∈r,e.length=sz)
  (k:A P N c Q (S t' ((M,some (.vec (els.map fun r=>.sl sz r)))::f'))):A P N c Q (S t h):=by
 have hS:S t h=S t (f++ybs M sz (els.map List.flatten) []):=by unfold S;rw [hh]
 rw [hS];intro B ok0 lv a w hs0;have hM':M < 1000000:=by simpa using hM
 have hfl:=ysg hf;have hkn:=ynj hkey;have hkn':=ynj hkey'
 let lv':Live:=fun j=>match yac ((M,some (LObj.vec (els.map fun r=>.sl sz r)))::f') j with|some _=>lv j|none=>none
 have hlv:∀ j b n,lv' j=some (b,n)->lv j=some (b,n)/\j < 1000000:=by
  intro j b n hj;simp only [lv'] at hj;split at hj
  .rename_i o ho;refine ⟨hj,?_⟩;by_cases hjM:j=M
   .omega
   rw [yao hjM] at ho;exact (ylu hl' j o ho).2
  cases hj
 have hok:∀ g,yax B ok0 lv w g->yax B ok0 lv' w g:=fun g hg=>⟨hg.1,hg.2.1,fun j b m hj=>hg.2.2 j b m (hlv j _ m hj).1⟩;have hfree:∀ i b n,lv (fam M i)=some (some b,n)->yax B ok0 lv' w b:=fun i b n hb=>by
  obtain ⟨_,_,h1,h2,_⟩:=hs0.inv.lvat hb;refine ⟨.inr h1,h2,fun j b' m hj e=>?_⟩;subst e;obtain ⟨g1,g2⟩:=hlv j _ m hj;have:=hs0.inv.inj _ _ _ _ _ hb g1;have:=ygf M i;omega
 have hre:∀ (x:AV) (u:Value),Rel (yax B ok0 lv w) w lv x u->Rel (yax B ok0 lv' w) w lv' x u:=fun x u hr=>
  (hr.relive fun j b m hj hm=>(hlv j b m hj).1).keep fun g hg=>⟨hok g hg,rfl⟩
 refine k B ok0 lv' a w ⟨⟨hs0.inv.base,hs0.inv.ok0lt,fun j hj=>?_,fun i j b m q h1 h2=>hs0.inv.inj i j b m q (hlv i _ m h1).1 (hlv j _ q h2).1,fun j x hj=>?_⟩,hs0.size,fun x y hy=>?_,hs0.defers,hs0.big,fun j b o hN hj hc hb=>?_⟩
 .show lv' j=none;simp only [lv'];have hj:yac ((M,some (LObj.vec (els.map fun r=>.sl sz r)))::f') j=none:=hj;rw [hj]
 .have hj:yac ((M,some (LObj.vec (els.map fun r=>.sl sz r)))::f') j=some x:=hj;have e1:lv' j=lv j:=by simp only [lv',hj]
  by_cases hjM:j=M
  .subst hjM;rw [yaz] at hj;cases hj;obtain ⟨b,n,g1,g2⟩:=hs0.inv.obj j _ (ybt (sz:=sz) (rows:=els.map List.flatten) (extra:=[]) hkey);refine ⟨b,n,by rw [e1];exact g1,?_⟩;rw [qbe] at g2;cases b with
   | none=>
    have:=ygs g2;have hl:=congrArg List.length this;rw [yem,qal] at hl;have:els=[]:=qaz hl;subst this;exact .inl rfl
   | some b=>
    obtain ⟨q1,q2,q3⟩:=g2;obtain ⟨c,e,g1',g2',g3,g4,g5⟩:=yez.1 q3;refine ⟨q1,q2,⟨c,e,g1',g2',by rw [yem] at g3;simpa using g3,fun y hy=>?_,fun k y u hy hu=>?_⟩,fun y hy=>?_⟩
    .obtain ⟨r,_,rfl⟩:=qag.1 hy;rfl
    .rw [qah] at hy;cases hr:els[k]? with
     | none=>rw [hr] at hy;cases hy
     | some r=>
      rw [hr] at hy;cases hy;have hcell:(yfi j sz 0 (els.map List.flatten))[k]?=some (.ls (fam j k) sz (r.flatten.length / sz)):=by
       rw [yel,qah,hr];simp
      have hrel:=g5 k _ u hcell hu;have hrow:=ylw (f:=f) (sz:=sz) (rows:=els.map List.flatten) (extra:=[]) hfl hM' (i:=k) (r:=r.flatten) (by rw [qah,hr];rfl);have hr1:∀ e∈r,e.length=sz:=hsz r (qab hr);have hfl2:r.flatten.length / sz=r.length:=by
       have:∀ r:List (List AV),(∀ e∈r,e.length=sz)->r.flatten.length=r.length * sz:=by
        intro r;induction r with
        | nil=>intro _;simp
        | cons e r ih=>
         intro he;rw [qci,qao,ih fun e h=>he e (by simp [h]),he e sm,qaj,qdh,qcv]
       rw [this r hr1];exact Nat.mul_div_cancel _ hs
      rw [hfl2] at hrel;refine zje (ysh hs0.inv hrel (by show ycu (yac _ _)=_;rw [hrow];rfl) rfl hr1 rfl (fun x hx i=>?_) _ hok (fun b n hb=>hfree _ b n hb)) rfl;obtain ⟨b',n',p1,p2⟩:=hs0.inv.obj _ _ hrow;cases b' with
      | none=>
       rcases p2 with p2|⟨e,p2⟩
       .simp only [LObj.vec.injEq] at p2;rw [p2] at hx;simp at hx
       cases p2
      | some b'=>exact yar.ment (p2.2.2.2 x hx)
    obtain ⟨r,_,rfl⟩:=qag.1 hy;rfl
  rw [yao hjM] at hj;have hj0:=yai hf' j x hj;obtain ⟨b,n,g1,g2⟩:=hs0.inv.obj j x (yew hj0);refine ⟨b,n,by rw [e1];exact g1,?_⟩;cases b with
  | none=>exact g2
  | some b=>exact ⟨g2.1,g2.2.1,(g2.2.2.relive fun j' b n hb _=>(hlv j' b n hb).1).keep (fun g hg=>⟨hok g hg,rfl⟩) rfl⟩
 .have:=ybo ht' x y hy;exact ⟨(hs0.frame x y this).1,hre y _ (hs0.frame x y this).2⟩
 have hj:yac ((M,some (LObj.vec (els.map fun r=>.sl sz r)))::f') j=some o:=hj;have e1:lv' j=lv j:=by simp only [lv',hj]
 by_cases hjM:j=M
 .subst hjM;rw [yaz] at hj;cases hj;cases hc
 rw [yao hjM] at hj;obtain ⟨n,hn⟩:=hs0.pin j b o hN (yew (yai hf' j o hj)) hc hb;exact ⟨n,by rw [e1];exact hn⟩
end
set_option maxHeartbeats 8000000
section
open Go.RowKit
theorem xbp {l:List Int} (hx:h id=some (.vec (l.map i64))) (hn:n=l.length):Frz h (.ls id 1 n) (yah l):=by
 subst hn;exact Frz.ls (rows:=l.map fun z=>[i64 z]) (by rw [hx];rfl) sm (by intro r hr;obtain ⟨z,_,rfl⟩:=qag.1 hr;rfl) (ydj l) (by intro x hx i;obtain ⟨z,_,rfl⟩:=qag.1 hx;rfl)
theorem zmd {tbl:List (List (Int × Int))} {s:Scn}:∀ (l:List SetD) (st:List Int),(l.foldl (xgs p tbl s) st).length=st.length
 | [],st=>rfl
 | x::l,st=>by rw [qdf,zmd l];simp [xgs]
theorem zpo (h:CfgOk p g c) {v:Nat} (hv:v < c.length) {r:RuleD} (hr:p.rules[i]?=some r):Con prog 124 [ygi p g,yds c,i64 v,i64 i] (yah (xih p (yad p g) ⟨g,c,v⟩ i)):=by
 obtain ⟨st,hst⟩:=ybr hv;obtain ⟨b,hb,hsb⟩:=h.row hst;have hbl:=yjz hb;have hsl:=(ycg hsb).1;have h6:=h.vars6;have hrs:r.sets.length<=1000:=(h.fair.light.2.2 r (qab hr)).2.1;have hcv:c.getD v []=st:=by rw [qad,hst];rfl
 let row:Nat->List Int:=fun j=>(r.sets.take j).foldl (xgs p (yad p g) ⟨g,c,v⟩) st
 have hrl:∀ j,(row j).length=p.vars.length:=fun j=>by simp only [row];rw [zmd];omega
 refine ze Tryz.func124 ntmps124 Tryz.results124 ?_
 (repeat (first|refine zy ?_|refine zcv tok rfl rfl rfl (by intro c hc;rw [ydj] at hc;obtain ⟨x,_,rfl⟩:=qag.1 hc;rfl) (by constructor <;> simp <;> omega) rfl rfl rfl rfl rfl ?_))
 refine ycx (α:=Nat) (fun j=>[(28,i64 j),(27,i64 r.sets.length),(26,.sl 2 (r.sets.map zht)),(9,.ls 17 1 p.vars.length),(0,ygi p g),(1,yds c),(2,i64 v)]) (fun j=>[(17,some (.vec ((row j).map i64)))]) (fun j=>r.sets.length - j) (fun j=>j<=r.sets.length) 0 om ?_ (hsE ?_) ?_
 .refine yas rfl (yas rfl (yas rfl (yas (yfx rfl (by rw [qal,hsl,hbl])) zs)))
 .rw [ydj];rfl
 intro j hj;refine zY ?_;refine zj ?_ ?_ <;> intro h1
 .simp at h1;obtain ⟨x,hx⟩:=ybr h1;have hty:=xgt h.prog (qab hr) (qab hx);obtain ⟨y,hy⟩:=ybr (show x.var.toNat < p.vars.length by omega);obtain ⟨q,hq⟩:=ybr (show x.var.toNat < b.length by omega)
  (repeat (first|refine zy ?_|refine zc (zmi h hv hty.2.2) ?_|refine zc (bring_con _ _ _ _) ?_))
  have hbr:yji p (yad p g) v x.var.toNat ((⟨g,c,v⟩:Scn).of x.val)=yiq y.kind q.1 q.2 ((⟨g,c,v⟩:Scn).of x.val):=by
   simp only [yji,qad,hy,hb,qcp,hq]
  have hnext:row (j+1)=(row j).set x.var.toNat (yiq y.kind q.1 q.2 ((⟨g,c,v⟩:Scn).of x.val)):=by
   simp only [row];rw [yan hx,qcu,qdf,qhu,xgs,hbr]
  refine yaw tok rfl rfl rfl rfl hty.1 om rfl rfl ?_;refine yjh tok rfl rfl rfl rfl rfl rfl (by rw [qal,hrl];omega) rfl (congrArg (fun z=>yac ((17,some (LObj.vec z))::_)) (show _=(row (j+1)).map i64 by rw [qgy,hnext,qeg])) rfl rfl ?_;refine zY ?_;exact ylb (j+1) om om zs (yai (yaa rfl yag))
 simp at h1;obtain rfl:j=r.sets.length:=by omega
 refine zk ?_;have e:xih p (yad p g) ⟨g,c,v⟩ i=row r.sets.length:=by simp only [xih,hr,hcv,row,qay]
 rw [e];exact xbp rfl (hrl _).symm
end
section
open Go.RowKit
theorem ztj {s:Scn} (h:0<=zzk p s):∃ (i:Nat) (r:RuleD),zzk p s=i/\p.rules[i]?=some r:=by
 unfold zzk at *;rcases zvs (p.rules.map fun r=>s.of r.guard) 0 with e|⟨e1,e2⟩
 .omega
 obtain ⟨r,hr⟩:=ybr (show (zbc (p.rules.map fun r=>s.of r.guard) 0).toNat < p.rules.length by simp at e2;omega);exact ⟨_,r,om,hr⟩
def zqs (p:ProgD) (g:GraphD) (c:List (List Int)) (set:BitVec 32) (k:Nat):List (List Int):=(ytr p g c set).take k++c.drop k
theorem zqu:zqs p g c set 0=c:=by simp [zqs]
theorem zxx:zqs p g c set c.length=ytr p g c set:=by
 unfold zqs;rw [qak (by simp [yrk]),qcb,qbe]
theorem zme (hk:k<=c.length):(zqs p g c set k).length=c.length:=by
 simp [zqs,yrk];omega
theorem zfv {r:List Int} (hr:c[k]?=some r):zqs p g c set (k+1)=(zqs p g c set k).set k (if set.getLsbD k then zms p g c k else r):=by
 have hk:=(qaa.1 hr).1;have hs:=zto (p:=p) (g:=g) (set:=set) hr;unfold zqs;rw [yan hs,qbm _ _ (by simp [yrk];omega)];have e:((ytr p g c set).take k).length=k:=by simp [yrk];omega
 rw [e,qbn,qbb];congr 1;have hd:c.drop k=r::c.drop (k+1):=by
  rw [<- (qaa.1 hr).2,List.getElem_cons_drop]
 rw [hd];rfl
theorem stpK_at (hk:k < c.length):(zqs p g c set k)[k]?=c[k]?:=by
 have e:((ytr p g c set).take k).length=k:=by simp [yrk];omega
 unfold zqs;rw [qai om,e,qbn,qbx,qdi]
theorem zqt (hk:k < c.length) (hs:set.getLsbD k=false):zqs p g c set (k+1)=zqs p g c set k:=by
 obtain ⟨r,hr⟩:=ybr hk;have hat:=stpK_at (p:=p) (g:=g) (set:=set) hk;rw [zfv hr,hs,if_neg sm];apply qdm;intro j;rw [qcy];split
 .rename_i e;subst e;rw [if_pos (by rw [zme om];exact hk),hat,hr]
 rfl
theorem zco {Q:Exit->SS->Prop} {t:List (Nat × AV)} {code:Code} {t':List (Nat × AV)} {h f f':List (Nat × Option LObj)} {M:Nat} (hh:yac h=yac (f++ybs M 1 (yfq c) [])) (ht':yxu t t') (ht:xel t'=true) (hf:zpj f=true) (hf':yts f f') (hl':zpj f'=true) (hM:Nat.blt M 1000000=true) (hkey:(f.all fun x=>!Nat.beq x.1 M)=true) (hkey':(f'.all fun x=>!Nat.beq x.1 M)=true) (k:A P N code Q (S t' ((M,some (.vec (c.map yah)))::f'))):A P N code Q (S t h):=by
 refine A_freezeRows (els:=c.map fun r=>r.map fun x=>[i64 x]) (sz:=1) (f:=f) (M:=M) ?_ ht' ht hf hf' hl' hM hkey hkey' om (by intro r hr e he;obtain ⟨r0,_,rfl⟩:=qag.1 hr;obtain ⟨q,_,rfl⟩:=qag.1 he;rfl) ?_
 .have:(c.map fun r=>r.map fun x=>[i64 x]).map List.flatten=yfq c:=by
   simp only [yfq,qex];congr 1;funext r;exact ydj r
  rw [hh,this]
 rw [qex];exact k
theorem zvq (hx:h id=some (.vec (c.map yah))) (hn:n=c.length):Frz h (.ls id 1 n) (yds c):=by
 subst hn;refine Frz.ls (rows:=c.map fun r=>[yah r]) (by rw [hx];rfl) sm (by intro r hr;obtain ⟨z,_,rfl⟩:=qag.1 hr;rfl) ?_ (by intro x hx i;obtain ⟨z,_,rfl⟩:=qag.1 hx;rfl);clear hx;induction c with
 | nil=>rfl
 | cons r c ih=>simp [ih]
theorem zpp (h:CfgOk p g c) (set:BitVec 32) (hset:∀ v:Nat,v < c.length->set.getLsbD v=true->yrz p g c v=true):Con prog 154 [ygi p g,yds c,ybd set] (yds (ytr p g c set)):=by
 have h24:=h.n24;have hl:=h.len;have h6:=h.vars6;have hrows:∀ r∈c,r.length<=1000:=fun r hr=>by have:=h.rowlen r hr;omega
 refine ze Tryz.func154 ntmps154 Tryz.results154 ?_
 (repeat (first|refine zy ?_|refine zcx (zbn c om hrows) rfl rfl rfl rfl rfl rfl rfl rfl rfl rfl rfl rfl rfl ?_))
 refine zco (f:=[]) (f':=[]) (M:=10) (c:=c) (t':=[(13,i64 (0:Nat)),(12,i64 c.length),(7,.ls 10 1 c.length),(0,ygi p g),(1,yds c),(2,ybd set)]) rfl zs rfl rfl yag rfl rfl rfl rfl ?_;refine ycx (α:=Nat) (fun k=>[(13,i64 k),(12,i64 c.length),(7,.ls 10 1 c.length),(0,ygi p g),(1,yds c),(2,ybd set)]) (fun k=>[(10,some (.vec ((zqs p g c set k).map yah)))]) (fun k=>c.length - k) (fun k=>k<=c.length) 0 om zs (hsE (by rw [zqu])) ?_;intro k hk;refine zY ?_;refine zj ?_ ?_ <;> intro h1
 .simp at h1;obtain ⟨st,hst⟩:=ybr h1;have hkl:=zme (p:=p) (g:=g) (set:=set) hk
  (try refine zb ?_)
  refine zj ?_ ?_ <;> intro h2
  .rw [ztl] at h2;have h2:set.getLsbD k=true:=by simpa using h2
   have hen:=hset k h1 h2;obtain ⟨i,r,hi,hr⟩:=ztj (p:=p) (s:=⟨g,c,k⟩) (by simpa [yrz] using hen)
   (repeat (first|refine zy ?_|refine yte rfl rfl (ywi h h1) rfl rfl (ymj 29 (y:=i64 i) rfl (yof hi) ?_)|refine zc (zpo h h1 hr) ?_))
   have hrow:xih p (yad p g) ⟨g,c,k⟩ i=zms p g c k:=by unfold zms;rw [hi];rfl
   refine yaw tok rfl rfl rfl rfl om om rfl rfl ?_;refine yjh tok rfl rfl rfl rfl rfl rfl (by rw [qal,hkl];omega) rfl (congrArg (fun z=>yac ((10,some (LObj.vec z))::_)) (show _=(zqs p g c set (k+1)).map yah by rw [zfv hst,h2,if_pos rfl,qeg,hrow];simp)) rfl rfl ?_;refine zY ?_;exact ylb (k+1) om om zs (yai (yaa rfl yag))
  rw [ztl] at h2;have h2:set.getLsbD k=false:=by simpa using h2
  refine zY ?_;refine ylb (k+1) om om zs (hsE (by rw [zqt h1 h2]))
 simp at h1;obtain rfl:k=c.length:=by omega
 refine zk ?_;rw [zxx];exact zvq rfl (by rw [yrk])
end
section
open Go.RowKit
theorem yqn (hc:c.length<=24) (v:Nat):(ydn p g c).getLsbD v=(decide (v < c.length) && yrz p g c v):=by
 unfold ydn;rcases qbi v 32 with h|h
 .exact yik _ _ _ h
 rw [qbs _ _ h,show decide (v < c.length)=false by simp;omega];rfl
theorem zmg {A:BitVec 32} (h:A &&& ~~~B=0#32) {v:Nat} (hv:A.getLsbD v=true):B.getLsbD v=true:=by
 rcases qbi v 32 with h9|h9
 .have:=congrArg (fun X=>BitVec.getLsbD X v) h;simp only [qav,qcc,hv,qbf,qfv] at this;simpa [h9] using this
 rw [qbs _ _ h9] at hv;cases hv
theorem CfgOk.step {p:ProgD} {g:GraphD} {c:List (List Int)} (h:CfgOk p g c) (set:BitVec 32):CfgOk p g (ytr p g c set):=⟨h.fair,stp_check h.fair h.chk set⟩
end
section
open Go.RowKit
def ykt (e w:BitVec 32):BitVec 32:=if w &&& e=0#32 then e &&& -e else w &&& e
def zec (g:GraphD) (w:BitVec 32):BitVec 32:=(List.range 24).foldl (fun B v=>if w.getLsbD v && ((ynk g).getD v 0#32 &&& B == 0#32) then B ||| (1#32 <<< v) else B) 0#32
def xdf (g:GraphD) (kind:Int) (e w:BitVec 32):BitVec 32:=if kind=1 then ykt e w &&& -(ykt e w) else if kind=2 then zec g (ykt e w) else if kind=4 then e else ykt e w
theorem resolve_con (g:GraphD) (kind:Int) (hk:kind=1\/kind=3\/kind=4) (e w:BitVec 32):Con prog 101 [yxr g,i64 kind,ybd e,ybd w] (ybd (xdf g kind e w)):=by
 refine ze Tryz.func101 ntmps101 Tryz.results101 ?_
 (try refine zq ?_)
 refine yvc [(3,ybd (ykt e w)),(2,ybd e),(1,i64 kind),(4,.lp 4 0)] [(4,some (.cells [yxr g]))] ?_ ?_
 .refine zj ?_ ?_ <;> intro h1
  .rw [yeq] at h1;have h1:w &&& e=0#32:=by simpa using h1
   (try refine zq ?_)
   refine mid (yas (yfx rfl ?_) zs) zh;rw [ykt,if_pos h1]
  rw [yeq] at h1;have h1:¬ w &&& e=0#32:=by simpa using h1
  refine zY ?_;refine mid (yas (yfx rfl ?_) zs) zh;rw [ykt,if_neg h1]
 rcases hk with rfl|rfl|rfl
 ·(try refine zq ?_)
  exact zp
 .exact zkp
 exact zkp
def ztk (p:ProgD) (g:GraphD) (kind:Int) (see:AV):AV:=.agg [ygi p g,yxr g,i64 kind,ybd (xet g.ports.length),see]
theorem ywm (p:ProgD) (g:GraphD) (hf:Fair p g) (h0:ycn p g=0) (kind:Int) (f:Nat):Con prog 39 [yhb p,yfm g,i64 kind,.fn f []] (ztk p g kind (.fn f [])):=by
 have hg:=(ycv.1 h0).2.1;refine ydv tok Tryz.func39 rfl rfl ntmps39 Tryz.results39 rfl rfl ?_
 (repeat (first|refine zy ?_|refine zc (yqw p g hf h0) ?_|refine zc (yyy g hg) ?_|refine zc (zul g hg) ?_))
 exact zp
theorem yrg (h:CfgOk p g c) (kind:Int) (hk:1<=kind/\kind<=4) (n:Nat) (hn:n<=4096):Con prog 38 [yhb p,yfm g,i64 kind,yds c,i64 n] (i64 0):=by
 have hm:=ziu p g c h.fair h.cin;rw [h.chk] at hm;refine ze Tryz.func38 ntmps38 Tryz.results38 ?_
 (repeat (first|refine zz ?_|refine zc (zhs kind hk) ?_))
 refine zj ?_ ?_ <;> intro h1
 .simp at h1;omega
 exact zkp
theorem zij (c:List (List Int)) (e:BitVec 32) (k:CntD):Con prog 40 [yds c,ybd e,.agg (yir k)] (.tup []):=by
 refine ze Tryz.func40 ntmps40 Tryz.results40 ?_;refine zY ?_;exact ⟨_,rfl,Frz.pure⟩
structure RunD where
 c:List (List Int)
 e:BitVec 32
 k:CntD
 ch:List (BitVec 32)
 en:List (BitVec 32)
def xem (p:ProgD) (g:GraphD) (c:List (List Int)):RunD:=⟨c,ydn p g c,ynv (ydn p g c),[],[ydn p g c]⟩
def zql (p:ProgD) (g:GraphD) (S:RunD) (set:BitVec 32):RunD:=
 ⟨ytr p g S.c set,ydn p g (ytr p g S.c set),xag S.k set (ydn p g (ytr p g S.c set)),S.ch++[set],S.en++[ydn p g (ytr p g S.c set)]⟩
def zgv (p:ProgD) (g:GraphD) (kind:Int) (ch:Nat->BitVec 32->BitVec 32 × Bool):Nat->Nat->RunD->Option RunD
 | 0,i,S=>some S
 | m+1,i,S=>if (ch i S.e).2=true then (if yxt g kind S.e (ch i S.e).1=true then zgv p g kind ch m (i+1) (zql p g S (ch i S.e).1) else none) else some S
def traceA (S:RunD):AV:=.agg ([ynn S.ch,ynn S.en,yds S.c]++yir S.k)
def zge:Option RunD->AV
 | some S=>.tup [traceA S,i64 0]
 | none=>.tup [.agg [ynn [],ynn [],yds [],i64 0,i64 0,i64 0,i64 0,ybd 0#32],i64 11]
end
section
open Go.RowKit
theorem frz_none:Frz h (.tup [.agg [.v (.slice none 0 0),.v (.slice none 0 0),.v (.slice none 0 0),i64 0,i64 0,i64 0,i64 0,ybd 0#32],i64 11]) (zge none):=by
 refine Frz.tup2 (Frz.aggL rfl rfl fun i x y hx hy=>?_) Frz.pure;have hi:=(qaa.1 hx).1;have:i=0\/i=1\/i=2\/i=3\/i=4\/i=5\/i=6\/i=7:=by simp at hi;omega
 rcases this with rfl|rfl|rfl|rfl|rfl|rfl|rfl|rfl <;> simp only [qat,qce,Option.some.injEq] at hx hy <;> subst hx hy
 .exact Frz.nil
 .exact Frz.nil
 .exact Frz.nil
 .exact Frz.pure
 .exact Frz.pure
 .exact Frz.pure
 .exact Frz.pure
 exact Frz.pure
theorem zhg {k:CntD} {a b:BitVec 32}:(xag k a b).steps=k.steps+1:=by unfold xag;split <;> rfl
theorem yuy:∀ R:Option RunD,yar (zge R)=true
 | none=>rfl
 | some S=>rfl
def exH (S:RunD):List (Nat × Option LObj):=[(12,some (.cells (yir S.k))),(10,some (.cells [.ls 100 1 S.ch.length,.ls 101 1 S.en.length,.v (.slice none 0 0),i64 0,i64 0,i64 0,i64 0,ybd 0#32])),(100,some (.vec (S.ch.map ybd))),(101,some (.vec (S.en.map ybd)))]
theorem exec_con (h:CfgOk p g c) (kind:Int) (n:Nat) (hn:n<=4096) {f:Nat} {caps:List AV} (hcaps:(∃ r,caps=[.dp r 0])\/∃ r s,caps=[.dp r 0,.dp s 0]) (ch:Nat->BitVec 32->BitVec 32 × Bool) (hch:∀ (i:Nat) (S:RunD),i < n->CfgOk p g S.c->S.e=ydn p g S.c->Con prog f ([i64 i,ybd S.e]++caps) (.tup [ybd (ch i S.e).1,yay (ch i S.e).2])) (hper:∀ (d:List (List Int)) (s:BitVec 32),CfgOk p g d->Con prog 153 [yxr g,i64 kind,ybd (ydn p g d),ybd s] (yay (yxt g kind (ydn p g d) s))):
  Con prog 88 [ztk p g kind (.fn 40 []),yds c,i64 n,.fn f caps] (zge (zgv p g kind ch n 0 (xem p g c))):=by
 have h24:=h.n24;have hlen:=h.len;have h6:=h.vars6;have hrows:∀ r∈c,r.length<=1000:=fun r hr=>by have:=h.rowlen r hr;omega
 have hcopy:=yyn (zbn c om hrows) (r':=yds c) rfl (yum (f:=[]) (M:=8) (n:=c.length) rfl rfl rfl rfl rfl);have hand:∀ d,CfgOk p g d->ydn p g d &&& xet g.ports.length=ydn p g d:=fun d hd=>by
  have hl:=hd.len;apply qbj;intro i hi;rw [qav,zui _ h24 i hi,yqn om,hl];cases decide (i < g.ports.length) <;> simp
 rcases hcaps with ⟨r0,rfl⟩|⟨r0,s0,rfl⟩
 all_goals
  refine ydv tok Tryz.func88 rfl rfl ntmps88 Tryz.results88 rfl (yuy _) ?_
  (repeat (first|with_reducible refine ydk ?_|with_reducible refine ycd ?_|refine ycy ?_));refine ynb ?_;refine ybi (lf:=lfT) rfl ?_
  refine zO ?_;refine zt ?_;refine ybi (lf:=lfT) rfl ?_;refine zO ?_;refine zt ?_;refine yvd 10 0 100 1 rfl rfl rfl rfl rfl ?_;refine yvd 10 1 101 1 rfl rfl rfl rfl rfl ?_
  (repeat (first|refine zcu rfl rfl rfl rfl (ymj 24 (y:=ybd (ydn p g c)) rfl (by rw [hand c h]) ?_)|refine z1 ?_|refine zc hcopy ?_|refine zc (ymr h) ?_|refine zc (zno _) ?_|refine zc (zij _ _ _) ?_|refine ydx tok rfl rfl rfl sm rfl (by simp [yar]) sm rfl rfl rfl rfl rfl ?_))
  refine ycx (α:=Nat × RunD) (fun a=>[(40,i64 a.1),(39,i64 n),(1,yds a.2.c),(11,ybd a.2.e),(3,.fn f _),(4,.lp 4 0),(10,.lp 10 0),(12,.lp 12 0),(8,.lp 8 0)]) (fun a=>exH a.2++[(8,some (.cells (yit ztt.zero))),(4,some (.cells [ygi p g,yxr g,i64 kind,ybd (xet g.ports.length),AV.fn 40 []]))]) (fun a=>n - a.1) (fun a=>a.1<=n/\CfgOk p g a.2.c/\a.2.e=ydn p g a.2.c/\CntOk a.2.k/\a.2.k.steps=a.1/\a.2.ch.length=a.1/\a.2.en.length=a.1+1/\zgv p g kind ch n 0 (xem p g c)=zgv p g kind ch (n - a.1) a.1 a.2) (0,xem p g c) ⟨om,h,rfl,zus,rfl,rfl,rfl,rfl⟩ zs (yai (yaa rfl (yaa rfl (yaa rfl (yaa rfl (yaa rfl (yaa rfl yag))))))) ?_;rintro ⟨i,⟨c1,e1,k1,ch1,en1⟩⟩ ⟨hi,hS,hSe,hk,hks,hc1,he1,hex⟩;simp only at hi hS hSe hk hks hc1 he1 hex ⊢;subst hSe;refine zW ?_;refine zj ?_ ?_ <;> intro h1
  .simp at h1;have hc9:=hch i ⟨c1,ydn p g c1,k1,ch1,en1⟩ h1 hS rfl;obtain ⟨m,hm⟩:∃ m,n - i=m+1:=⟨n - i - 1,om⟩;rw [hm] at hex;simp only [zgv] at hex;generalize hset:(ch i (ydn p g c1))=set at hc9 hex;obtain ⟨set,goes⟩:=set;simp only at hc9 hex;refine zWZ ?_;refine zj ?_ ?_ <;> intro h2
   .have hfin:zgv p g kind ch n 0 (xem p g c)=some ⟨c1,ydn p g c1,k1,ch1,en1⟩:=by rw [hex,if_neg (by simpa using h2)]
    refine zW ?_;refine yvc [(10,.lp 10 0),(8,.lp 8 0)] [(10,some (.cells ([.ls 100 1 ch1.length,.ls 101 1 en1.length,yds c1]++yir k1))),(100,some (.vec (ch1.map ybd))),(101,some (.vec (en1.map ybd))),(8,some (.cells (yit ztt.zero)))] ?_ ?_
    .refine ybx (lf:=lf0) ysy rfl ?_;refine yee [0,2] 4 (yab rfl (yab rfl yak)) rfl kf ?_;refine zO ?_;refine yaq [1,3] 3 rfl kf sm ⟨⟨_,rfl,?_⟩,⟨_,rfl,?_⟩,trivial⟩
     .refine zO ?_;refine yau [3,4,5] (yab rfl (yab rfl (yab rfl yak))) rfl kf ?_;refine zO ?_;refine mid zs zh
     refine zO ?_;refine yau [1,4,5] (yab rfl (yab rfl (yab rfl yak))) rfl kf ?_;refine zO ?_;refine mid zs zh
    refine zt ?_;refine yeg 10 0 (ch1.map fun B=>[ybd B]) rfl rfl rfl sm (fun row hr=>by obtain ⟨y,_,rfl⟩:=qag.1 hr;rfl) (ycz _) rfl rfl rfl rfl ?_;refine yeg 10 1 (en1.map fun B=>[ybd B]) rfl rfl rfl sm (fun row hr=>by obtain ⟨y,_,rfl⟩:=qag.1 hr;rfl) (ycz _) rfl rfl rfl rfl ?_;refine zk ?_;rw [hfin];exact Frz.pure
   have h2:goes=true:=by simpa using h2
   rw [if_pos h2] at hex
   (repeat (first|refine zw ?_|refine zc (hper c1 set hS) ?_))
   refine zj ?_ ?_ <;> intro h3
   .have hfin:zgv p g kind ch n 0 (xem p g c)=none:=by rw [hex,if_neg (by simpa using h3)]
    refine zk ?_;rw [hfin];exact frz_none
   have h3:yxt g kind (ydn p g c1) set=true:=by simpa using h3
   rw [if_pos h3] at hex;have hp0:set≠0#32/\set &&& ~~~(ydn p g c1)=0#32:=by
    unfold yxt at h3;simp only [qac,qbt,beq_eq_false_iff_ne,beq_iff_eq] at h3;exact h3.1
   have hcl:=hS.len;have hst:=hS.step set;have hcl2:=hst.len;have hsm:=zpp hS set fun v hv hb=>by
    have:=zmg hp0.2 hb;rw [yqn om] at this;simp only [qac] at this;exact this.2
   have hin1:InM set:=zik fun v hv=>by
    cases hb:set.getLsbD v with
    | false=>rfl
    | true=>
     have:=zmg hp0.2 hb;rw [yqn om] at this;simp at this;omega
   have hin2:InM (ydn p g (ytr p g c1 set)):=zik fun v hv=>by
    rw [yqn om];have:decide (v < (ytr p g c1 set).length)=false:=by simp;omega
    rw [this];rfl
   (repeat (first|refine zcu rfl rfl rfl rfl (ymj 72 (y:=ybd (ydn p g (ytr p g c1 set))) rfl (by rw [hand _ hst]) ?_)|refine z1 ?_|refine zc hsm ?_|refine zc (ymr hst) ?_|refine zc (xah k1 hk om hp0.1 hin1 hin2) ?_|refine zc (zij _ _ _) ?_|refine ydx tok rfl rfl rfl sm rfl (by simp [yar]) so rfl rfl rfl rfl rfl ?_))
   refine ylb (i+1,zql p g ⟨c1,ydn p g c1,k1,ch1,en1⟩ set) ⟨by simp only;omega,hst,rfl,xga hk om hp0.1 hin1 hin2,by simp only [zql,zhg,hks];omega,by simp [zql,hc1],by simp [zql,he1],by simp only;rw [hex,show n - (i+1)=m by omega]⟩ (by simp only;omega) zs (yai (yaa rfl (yaa ?_ (yaa ?_ (yaa ?_ (yaa rfl (yaa rfl yag)))))))
   .show some _=some _;simp [zql]
   .show some _=some _;simp [zql,ybd]
   show some _=some _;simp [zql,ybd]
  simp at h1;obtain rfl:i=n:=by omega
  have hfin:zgv p g kind ch i 0 (xem p g c)=some ⟨c1,ydn p g c1,k1,ch1,en1⟩:=by rw [hex,qbn];rfl
  refine zW ?_;refine yvc [(10,.lp 10 0),(8,.lp 8 0)] [(10,some (.cells ([.ls 100 1 ch1.length,.ls 101 1 en1.length,yds c1]++yir k1))),(100,some (.vec (ch1.map ybd))),(101,some (.vec (en1.map ybd))),(8,some (.cells (yit ztt.zero)))] ?_ ?_
  .refine ybx (lf:=lf0) ysy rfl ?_;refine yee [0,2] 4 (yab rfl (yab rfl yak)) rfl kf ?_;refine zO ?_;refine yaq [1,3] 3 rfl kf sm ⟨⟨_,rfl,?_⟩,⟨_,rfl,?_⟩,trivial⟩
   .refine zO ?_;refine yau [3,4,5] (yab rfl (yab rfl (yab rfl yak))) rfl kf ?_;refine zO ?_;refine mid zs zh
   refine zO ?_;refine yau [1,4,5] (yab rfl (yab rfl (yab rfl yak))) rfl kf ?_;refine zO ?_;refine mid zs zh
  refine zt ?_;refine yeg 10 0 (ch1.map fun B=>[ybd B]) rfl rfl rfl sm (fun row hr=>by obtain ⟨y,_,rfl⟩:=qag.1 hr;rfl) (ycz _) rfl rfl rfl rfl ?_;refine yeg 10 1 (en1.map fun B=>[ybd B]) rfl rfl rfl sm (fun row hr=>by obtain ⟨y,_,rfl⟩:=qag.1 hr;rfl) (ycz _) rfl rfl rfl rfl ?_;refine zk ?_;rw [hfin];exact Frz.pure
end
section
open Go.RowKit
def zqj (p:ProgD) (g:GraphD) (kind:Int):List AV:=[ygi p g,yxr g,i64 kind,ybd (xet g.ports.length),.fn 40 []]
def chF (g:GraphD) (kind:Int) (ws:List (BitVec 32)) (i:Nat) (e:BitVec 32):BitVec 32 × Bool:=(xdf g kind e (ws.getD i 0#32),e != 0#32)
def xbm (p:ProgD) (g:GraphD) (kind:Int) (c:List (List Int)) (ws:List (BitVec 32)):Option RunD:=zgv p g kind (chF g kind ws) ws.length 0 (xem p g c)
structure DmnOk (p:ProgD) (g:GraphD) (kind:Int):Prop where
 kd:1<=kind/\kind<=4
 res:∀ (d:List (List Int)) (w:BitVec 32),CfgOk p g d->Con prog 101 [yxr g,i64 kind,ybd (ydn p g d),ybd w] (ybd (xdf g kind (ydn p g d) w))
 per:∀ (d:List (List Int)) (s:BitVec 32),CfgOk p g d->Con prog 153 [yxr g,i64 kind,ybd (ydn p g d),ybd s] (yay (yxt g kind (ydn p g d) s))
theorem zoa (p:ProgD) (g:GraphD) (kind:Int) (hk:kind=1\/kind=3\/kind=4):DmnOk p g kind:=
 ⟨om,fun d w _=>resolve_con g kind hk _ w,fun d s _=>yuu g kind om _ s (fun e _=>by omega)⟩
theorem follow1_con (D:DmnOk p g kind) {ws:List (BitVec 32)} (hi:i < ws.length) (hn:ws.length<=4096) {d:List (List Int)} (hd:CfgOk p g d):Con prog 100 [i64 i,ybd (ydn p g d),.dp (zqj p g kind) 0,.dp [ynn ws] 0] (.tup [ybd (chF g kind ws i (ydn p g d)).1,yay (chF g kind ws i (ydn p g d)).2]):=by
 obtain ⟨w,hw⟩:=ybr hi;have hg:ws.getD i 0#32=w:=by rw [qad,hw];rfl
 refine ze Tryz.func100 ntmps100 Tryz.results100 ?_
 (repeat (first|refine zy ?_|refine zc (D.res d w hd) ?_))
 refine zr ?_;rw [yfh];simp only [chF,hg];exact Frz.pure
theorem follow_con (h:CfgOk p g c) (D:DmnOk p g kind) (ws:List (BitVec 32)) (hn:ws.length<=4096):Con prog 54 [ztk p g kind (.fn 40 []),yds c,ynn ws] (zge (xbm p g kind c ws)):=by
 have he:=exec_con h kind ws.length hn (f:=100) (caps:=[.dp (zqj p g kind) 0,.dp [ynn ws] 0]) (.inr ⟨_,_,rfl⟩) (chF g kind ws) (fun i S hi hS hSe=>by rw [hSe];exact follow1_con D hi hn hS) (fun d s hd=>D.per d s hd);unfold xbm;generalize zgv p g kind (chF g kind ws) ws.length 0 (xem p g c)=R at he;refine ydv tok Tryz.func54 rfl rfl ntmps54 Tryz.results54 rfl (yuy _) ?_
 (repeat (first|with_reducible refine ydk ?_|with_reducible refine ycd ?_|refine ycy ?_));refine ynb ?_;refine ybi (lf:=lfT) rfl ?_
 refine zO ?_;refine zt ?_;refine yct 3 rfl rfl rfl rfl rfl ?_;refine yct 5 rfl rfl rfl rfl rfl ?_;cases R with
 | none=>
  refine zZ ?_;exact zp
 | some R=>
  refine zZ ?_;exact zp
theorem rFollow_con (h:CfgOk p g c) (D:DmnOk p g kind) (ws:List (BitVec 32)) (hn:ws.length<=4096):Con prog 30 [yhb p,yfm g,i64 kind,yds c,ynn ws] (zge (xbm p g kind c ws)):=by
 have he:=follow_con h D ws hn;generalize xbm p g kind c ws=R at he;refine ydv tok Tryz.func30 rfl rfl ntmps30 Tryz.results30 rfl (yuy _) ?_;cases R with
 | none=>
  (repeat (first|refine zz ?_|refine zc (yrg h kind D.kd ws.length hn) ?_|refine zc (ywm p g h.fair h.fit kind _) ?_))
  exact zp
 | some R=>
  (repeat (first|refine zz ?_|refine zc (yrg h kind D.kd ws.length hn) ?_|refine zc (ywm p g h.fair h.fit kind _) ?_))
  exact zp
end
section
open Go.RowKit
theorem yly (hu:u < 32):(1#32 <<< k).getLsbD u=decide (u=k):=by
 rw [qey];by_cases e:u=k
 .subst e;simp [hu]
 simp [e];omega
theorem ywl (hu:u < 32):∀ (ls:List Lk) (B:BitVec 32),(ls.foldl (fun B l=>B ||| (1#32 <<< l.1.toNat)) B).getLsbD u=(B.getLsbD u || ls.any fun l=>decide (u=l.1.toNat))
 | [],B=>by simp
 | l::ls,B=>by
  rw [qdf,ywl hu ls,qfn,yly hu,List.any_cons,Bool.or_assoc]
theorem xcm {v:Nat} {ls:List Lk} (hls:g.ports[v]?=some ls) (hu:u < 32):((ynk g).getD v 0#32).getLsbD u=ls.any fun l=>decide (u=l.1.toNat):=by
 have:(ynk g)[v]?=some (zpq ls):=by simp [ynk,hls]
 rw [qad,this,qcp,zpq,ywl hu];simp
theorem yvw:ytm g s=true<->∀ v,v < 24->s.getLsbD v=true->(ynk g).getD v 0#32 &&& s=0#32:=by
 unfold ytm;rw [List.all_eq_true];constructor
 .intro h v hv hs;have:=h v (qca.2 hv);rw [hs] at this;simpa using this
 intro h v hv;have:=h v (qca.1 hv);cases hs:s.getLsbD v with
 | false=>rfl
 | true=>rw [this hs];rfl
theorem xcn (hg:ych g=true) {v:Nat} (hu:u < g.ports.length) (hv:v < g.ports.length) (h:((ynk g).getD v 0#32).getLsbD u=true):((ynk g).getD u 0#32).getLsbD v=true/\u≠v:=by
 have hf:=yba hg;obtain ⟨ls,hls⟩:=ybr hv;obtain ⟨ls2,hls2⟩:=ybr hu;rw [xcm hls om,List.any_eq_true] at h;obtain ⟨l,hl,he⟩:=h;have he:u=l.1.toNat:=by simpa using he
 have hb:=(ybp _ _ _).1 (((yck _ _ _).1 (hf.2.2.2.2.2.1 v ls hls)).1 l hl);have hs:=hf.2.2.2.2.2.2 v ls hls l hl;rw [<- he,qad,hls2,qcp] at hs;refine ⟨?_,om⟩;rw [xcm hls2 om,List.any_eq_true];unfold yga at hs;cases hfd:ls2.find? (fun x=>x.1 == (v:Int)) with
 | none=>rw [hfd] at hs;simp at hs;omega
 | some x=>
  have hx:=List.find?_some hfd;refine ⟨x,qeu hfd,?_⟩;have:x.1=(v:Int):=by simpa using hx
  simp [this]
section
variable {g:GraphD} {f i:Nat->Nat}
end
theorem xbe (h:c.length<=32):InN c.length (ydn p g c):=fun u hu=>by
 rcases qbi u 32 with h1|h1
 .unfold ydn;rw [yik _ _ _ h1,show decide (u < c.length)=false by simpa using hu];rfl
 exact qbs _ _ h1
section
variable {p:ProgD} {g:GraphD} {f i:Nat->Nat} (hp:yed p=0) (hr:xkd p=false) (hg:ych g=true) (R:Ren g.ports.length f i)
include hp hr hg R
end
theorem wish_ok (he:InN n e) (h0:e≠0#32):ykt e w≠0#32/\ykt e w &&& ~~~e=0#32:=by
 have sub:∀ A:BitVec 32,(A &&& e) &&& ~~~e=0#32:=fun A=>by
  apply qbj;intro u hu;simp only [qav,qcc,qbf];cases e.getLsbD u <;> simp
 unfold ykt;split
 .rw [qhs e (-e)];refine ⟨?_,sub _⟩;rw [qhs,yyw h0];intro q;have:=congrArg (fun X=>BitVec.getLsbD X (tzV e)) q;simp only [yly (yhc h0).1,qbf] at this;simp at this
 rename_i h;exact ⟨h,sub _⟩
def zrl (g:GraphD) (w:BitVec 32) (k:Nat):BitVec 32:=(List.range k).foldl (fun B v=>if w.getLsbD v && ((ynk g).getD v 0#32 &&& B == 0#32) then B ||| (1#32 <<< v) else B) 0#32
theorem grd_next:zrl g w (k+1)=if w.getLsbD k && ((ynk g).getD k 0#32 &&& zrl g w k == 0#32) then zrl g w k ||| (1#32 <<< k) else zrl g w k:=by
 unfold zrl;rw [qcr,qcu];rfl
theorem xgk (hg:ych g=true) (hw:InN g.ports.length w):∀ k,k<=24->(∀ u,(zrl g w k).getLsbD u=true->u < k/\w.getLsbD u=true)/\(∀ u,(zrl g w k).getLsbD u=true->(ynk g).getD u 0#32 &&& zrl g w k=0#32)/\((∃ u,u < k/\w.getLsbD u=true)->zrl g w k≠0#32)
 | 0,_=>⟨fun u hu=>by simp [zrl] at hu,fun u hu=>by simp [zrl] at hu,fun ⟨u,hu,_⟩=>by omega⟩
 | k+1,hk=>by
  obtain ⟨a1,a2,a3⟩:=xgk hg hw k om;have h24:=(yba hg).2.1;rw [grd_next];have inn:∀ {u:Nat},w.getLsbD u=true->u < g.ports.length:=fun {u} hu=>qdg fun hge=>by rw [hw u hge] at hu;cases hu
  by_cases hc:(w.getLsbD k && ((ynk g).getD k 0#32 &&& zrl g w k == 0#32))=true
  .rw [if_pos hc];simp only [qac,beq_iff_eq] at hc;have hbit:∀ u,(zrl g w k ||| (1#32 <<< k)).getLsbD u=true->(zrl g w k).getLsbD u=true\/u=k:=fun u hu=>by
    rw [qfn,qcm] at hu;refine hu.imp (fun h=>h) fun h=>?_;rcases qbi u 32 with h1|h1
    .rw [yly h1] at h;simpa using h
    rw [qbs _ _ h1] at h;cases h
   have hkn:=inn hc.1;have hsplit:∀ u,u < g.ports.length->((ynk g).getD u 0#32 &&& zrl g w k=0#32)->((ynk g).getD u 0#32).getLsbD k=false->(ynk g).getD u 0#32 &&& (zrl g w k ||| (1#32 <<< k))=0#32:=fun u _ h1 h2=>by
    apply qbj;intro x hx;have h3:=congrArg (fun X=>BitVec.getLsbD X x) h1;simp only [qav,qbf] at h3;rw [qav,qfn,yly hx,qbf];by_cases e:x=k
    .subst e;rw [h2];rfl
    simpa [e] using h3
   refine ⟨fun u hu=>?_,fun u hu=>?_,fun _ q=>?_⟩
   .rcases hbit u hu with h|rfl
    .have:=a1 u h;exact ⟨om,this.2⟩
    exact ⟨om,hc.1⟩
   .rcases hbit u hu with h|rfl
    .have hun:=inn (a1 u h).2;refine hsplit u hun (a2 u h) ?_;cases hq:((ynk g).getD u 0#32).getLsbD k with
     | false=>rfl
     | true=>
      have:=(xcn hg hkn hun hq).1;have h3:=congrArg (fun X=>BitVec.getLsbD X u) hc.2;simp only [qav,qbf,this,h] at h3;cases h3
    refine hsplit u hkn hc.2 ?_;cases hq:((ynk g).getD u 0#32).getLsbD u with
    | false=>rfl
    | true=>exact absurd rfl (xcn hg hkn hkn hq).2
   have:=congrArg (fun X=>BitVec.getLsbD X k) q;simp only [qfn,yly (show k < 32 by omega),qbf] at this;simp at this
  rw [if_neg hc];refine ⟨fun u hu=>⟨by have:=(a1 u hu).1;omega,(a1 u hu).2⟩,a2,fun ⟨u,hu,hb⟩ q=>?_⟩;by_cases e:u=k
  .subst e;rw [hb,q] at hc;simp at hc
  exact a3 ⟨u,om,hb⟩ q
theorem xgq (hg:ych g=true) (kind:Int) (e w:BitVec 32) (he:InN g.ports.length e) (h0:e≠0#32):InN g.ports.length (xdf g kind e w)/\yxt g kind e (xdf g kind e w)=true:=by
 obtain ⟨w1,w2⟩:=wish_ok (w:=w) he h0;have hw:=zvz w2 he;have h24:=(yba hg).2.1;have fin:∀ s:BitVec 32,s≠0#32->s &&& ~~~e=0#32->(if kind=1 then s &&& (s - 1#32) == 0#32 else if kind=2 then ytm g s else if kind=4 then s == e else true)=true->InN g.ports.length s/\yxt g kind e s=true:=fun s h1 h2 h3=>by
  refine ⟨zvz h2 he,?_⟩;unfold yxt;rw [h3];simp [h1,h2]
 have trans:∀ {s:BitVec 32},(∀ u,s.getLsbD u=true->(ykt e w).getLsbD u=true)->s &&& ~~~e=0#32:=fun {s} h=>by
  apply qbj;intro u hu;rw [qav,qcc,qbf];cases hs:s.getLsbD u with
  | false=>rfl
  | true=>
   have:=congrArg (fun X=>BitVec.getLsbD X u) w2;simp only [qav,qcc,qbf,h u hs] at this;simpa using this
 unfold xdf;by_cases k1:kind=1
 .rw [if_pos k1];refine fin _ ?_ (trans fun u hu=>by rw [qav,qac] at hu;exact hu.1) ?_
  .rw [yyw w1];intro q;have:=congrArg (fun X=>BitVec.getLsbD X (tzV (ykt e w))) q;simp only [yly (yhc w1).1,qbf] at this;simp at this
  rw [if_pos k1,yyw w1,xct];have key:∀ u,(1#32 <<< tzV (ykt e w)).getLsbD u=true->u=tzV (ykt e w):=fun u hu=>by
   rcases qbi u 32 with h1|h1
   .rw [yly h1] at hu;simpa using hu
   rw [qbs _ _ h1] at hu;cases hu
  intro u v hu hv;rw [key u hu,key v hv]
 rw [if_neg k1];by_cases k2:kind=2
 .rw [if_pos k2];obtain ⟨g1,g2,g3⟩:=xgk hg hw 24 om;have hex:∃ u,u < 24/\(ykt e w).getLsbD u=true:=⟨tzV (ykt e w),by
   have:=(yhc w1).2.1
   exact qdg fun hge=>by rw [hw _ om] at this;(cases this),(yhc w1).2.1⟩
  refine fin (zec g (ykt e w)) (g3 hex) (trans fun u hu=>(g1 u hu).2) ?_;rw [if_neg k1,if_pos k2,yvw];exact fun v _ hv=>g2 v hv
 rw [if_neg k2];by_cases k4:kind=4
 .rw [if_pos k4];have hs:e &&& ~~~e=0#32:=by
   apply qbj;intro u hu;simp only [qav,qcc,qbf];cases e.getLsbD u <;> simp
  exact fin e h0 hs (by rw [if_neg k1,if_neg k2,if_pos k4];simp)
 rw [if_neg k4];exact fin _ w1 w2 (by rw [if_neg k1,if_neg k2,if_neg k4])
end
section
open Go.RowKit
def xkt:List (Nat × Option LObj):=[(0,some (.vec [.lp 0 0]))]
theorem yrp {c:Code} {Q:Exit->SS->Prop} {s:SS} (h:s.h 0=some (.vec [.lp 0 0])):A P N c Q s:=by
 intro B ok0 lv a w hs;obtain ⟨b,n,h1,h2⟩:=hs.inv.obj 0 _ h;cases b with
 | none=>simp [ygb] at h2
 | some b=>exact absurd (h2.2.2.2 (.lp 0 0) sm) (by simp [yar])
theorem ywp (B:BitVec 32):yot prog 126 [ybd B] (yac []) (.fn 180 [.lp 1 0]) (yac [(1,some (.vec [ybd B]))]):=by
 refine ynh tok Tryz.func126 rfl rfl ntmps126 Tryz.results126 rfl (fun id o h h2=>?_) ?_
 .simp only [yac] at h;split at h
  .cases h;cases h2
  cases h
 (repeat (first|with_reducible refine ydk ?_|with_reducible refine ycd ?_|refine ycy ?_));refine ynb ?_;refine ybi (lf:=lfT) rfl ?_
 refine zO ?_;refine zt ?_;refine zrr 1 [ybd B] rfl rfl (by intro y hy;cases qaq.1 hy;rfl) ?_;refine zY ?_;refine ykj ⟨_,rfl,yfa _,?_⟩;exact yai (yaa rfl yag)
theorem ywo (B:BitVec 32) (p:Nat):∀ el∈yto B,el.length=[p].length/\yar.pureL el=true:=by
 intro el h;obtain ⟨v,_,rfl⟩:=qag.1 h;exact ⟨rfl,rfl⟩
theorem ysj {el:List AV} (h:(yto B)[k]?=some el):∃ v:Nat,(yca B)[k]?=some v/\el=[i64 v]:=by
 unfold yto at h;rw [qah] at h;cases hv:(yca B)[k]? with
 | none=>rw [hv] at h;cases h
 | some v=>rw [hv] at h;cases h;exact ⟨v,rfl,rfl⟩
theorem ysk (B:BitVec 32):(yto B).length=(yca B).length:=by simp [yto]
def xfd (g:GraphD) (s:BitVec 32) (k:Nat):Bool:=((yca s).take k).all fun v=>(ynk g).getD v 0#32 &&& s == 0#32
theorem indK_all (h24:g.ports.length<=24) (hs:InN g.ports.length s):xfd g s (yca s).length=ytm g s:=by
 unfold xfd;rw [qay,qbq,yvw,List.all_eq_true];constructor
 .intro h v hv hb;simpa using h v (ygk.2 ⟨om,hb⟩)
 intro h v hv;obtain ⟨h1,h2⟩:=ygk.1 hv;have:v < g.ports.length:=qdg fun hge=>by rw [hs v hge] at h2;cases h2
 simpa using h v om h2
theorem indK_next {v:Nat} (h:(yca s)[k]?=some v):xfd g s (k+1)=(xfd g s k && ((ynk g).getD v 0#32 &&& s == 0#32)):=by
 unfold xfd;rw [yan h,qel];simp
theorem zow (g:GraphD) (h24:g.ports.length<=24) (s:BitVec 32) (hs:InN g.ports.length s):Con prog 206 [yxr g,ybd s] (yay (ytm g s)):=by
 rw [<- indK_all h24 hs];refine ydv tok Tryz.func206 rfl rfl ntmps206 Tryz.results206 rfl rfl ?_
 (repeat (first|refine zy ?_|refine yxy [(1,901)] (ywp s) rfl rfl rfl rfl rfl rfl rfl yag rfl rfl rfl rfl rfl rfl ?_))
 refine zbi 901 rfl (ysl s) (fun _=>rfl) rfl (ywo s 8) rfl [(2,.lp 2 0),(3,.lp 3 0),(4,.lp 4 0)] zs rfl (fun k=>if xfd g s k then [(2,some (.cells [yxr g])),(3,some (.cells [ybd s])),(4,some (.cells [yay false]))] else xkt) rfl ?_ ?_ ?_ ?_
 .rw [if_pos (by rfl)];exact yai zh
 .split <;> rfl
 .intro k el hel;obtain ⟨v,hv,rfl⟩:=ysj hel;have hin:=ygk.1 (qab hv);have hvn:v < g.ports.length:=qdg fun hge=>by rw [hs v hge] at hin;cases hin.2
  obtain ⟨B,hB⟩:=ybr (show v < (ynk g).length by rw [ywj];exact hvn);have hnx:=indK_next (g:=g) hv;rw [show (ynk g).getD v 0#32=B by simp [hB]] at hnx;cases hi:xfd g s k with
  | false=>exact yrp rfl
  | true=>
   simp only [if_true];refine zY ?_;refine ⟨rfl,?_⟩
   (try refine zb ?_)
   refine zj ?_ ?_ <;> intro h1
   .refine zY ?_;refine ykj ?_;rw [yfh] at h1;refine rndN_ret (hk:=fun _=>[]) (k:=0) [(4,some (.cells [yay false]))] zs zh rfl ⟨_,rfl,?_⟩;refine yae ?_;have h2:(B &&& s == 0#32)=false:=by simpa [bne] using h1
    rw [h2,qch] at hnx;cases hq:xfd g s (yca s).length with
    | false=>rfl
    | true=>
     have hk:(yca s)[k]?=some v:=hv;have:=List.all_eq_true.1 hq v (by rw [qay];exact qab hv);rw [show (ynk g).getD v 0#32=B by simp [hB],h2] at this;exact this
   refine zY ?_;rw [yfh] at h1;have h2:(B &&& s == 0#32)=true:=by simpa [bne] using h1
   refine xdg zs ?_;rw [hnx,h2,hi,if_pos (by rfl)];exact yai zh
 rw [ysk];cases hi:xfd g s (yca s).length with
 | false=>exact yrp rfl
 | true=>
  simp only [if_true];refine zk ?_;exact yae rfl
theorem in24 (hn:n<=24) (h:InN n B):yca B=(List.range 24).filter B.getLsbD:=by
 unfold yca;show (List.range (24+8)).filter B.getLsbD=_;rw [List.range_add,qck];have e:((List.range 8).map fun x=>24+x).filter B.getLsbD=[]:=List.filter_eq_nil_iff.2 fun u hu=>by
  obtain ⟨x,_,rfl⟩:=qag.1 hu;rw [h _ om];simp
 rw [e,qbe]
def xgj (g:GraphD) (w:BitVec 32) (k:Nat):BitVec 32:=((yca w).take k).foldl (fun B v=>if (ynk g).getD v 0#32 &&& B == 0#32 then B ||| (1#32 <<< v) else B) 0#32
theorem grdK_next {v:Nat} (h:(yca w)[k]?=some v):xgj g w (k+1)=if (ynk g).getD v 0#32 &&& xgj g w k == 0#32 then xgj g w k ||| (1#32 <<< v) else xgj g w k:=by
 unfold xgj;rw [yan h,qcu];rfl
theorem grdK_all (h24:g.ports.length<=24) (h:InN g.ports.length w):xgj g w (yca w).length=zec g w:=by
 unfold xgj zec;rw [qay,in24 h24 h,List.foldl_filter];congr 1;funext B v;cases w.getLsbD v <;> simp
theorem resolve2_con (g:GraphD) (h24:g.ports.length<=24) (e w:BitVec 32) (he:InN g.ports.length e):Con prog 101 [yxr g,i64 2,ybd e,ybd w] (ybd (xdf g 2 e w)):=by
 have hres:xdf g 2 e w=zec g (ykt e w):=rfl;have hsub:InN g.ports.length (ykt e w):=fun u hu=>by
  unfold ykt;split
  .rw [qav,he u hu];rfl
  rw [qav,he u hu,qch]
 rw [hres,<- grdK_all h24 hsub];refine ze Tryz.func101 ntmps101 Tryz.results101 ?_
 (try refine zq ?_)
 refine yvc [(3,ybd (ykt e w)),(2,ybd e),(1,i64 2),(4,.lp 4 0)] [(4,some (.cells [yxr g]))] ?_ ?_
 .refine zj ?_ ?_ <;> intro h1
  .rw [yeq] at h1;have h1:w &&& e=0#32:=by simpa using h1
   (try refine zq ?_)
   refine mid (yas (yfx rfl ?_) zs) zh;rw [ykt,if_pos h1]
  rw [yeq] at h1;have h1:¬ w &&& e=0#32:=by simpa using h1
  refine zY ?_;refine mid (yas (yfx rfl ?_) zs) zh;rw [ykt,if_neg h1]
 generalize ykt e w=W at hsub
 (repeat (first|refine zy ?_|refine yxy [(1,901)] (ywp W) rfl rfl rfl rfl rfl rfl rfl yag rfl rfl rfl rfl rfl rfl ?_))
 refine zbi 901 rfl (ysl W) (fun _=>rfl) rfl (ywo W 31) rfl [(9,.lp 9 0),(4,.lp 4 0)] zs rfl (fun k=>[(9,some (.cells [ybd (xgj g W k)])),(4,some (.cells [yxr g]))]) rfl (yai zh) rfl ?_ ?_
 .intro k el hel;obtain ⟨v,hv,rfl⟩:=ysj hel;have hin:=ygk.1 (qab hv);have hvn:v < g.ports.length:=qdg fun hge=>by rw [hsub v hge] at hin;cases hin.2
  obtain ⟨B,hB⟩:=ybr (show v < (ynk g).length by rw [ywj];exact hvn);have hnx:=grdK_next (g:=g) hv;rw [show (ynk g).getD v 0#32=B by simp [hB]] at hnx;refine zY ?_;refine ⟨rfl,?_⟩
  (try refine zb ?_)
  refine zj ?_ ?_ <;> intro h1
  .rw [yeq] at h1
   (try refine zb ?_)
   refine xdg zs ?_;rw [hnx,if_pos h1];exact yai zh
  rw [yeq] at h1;refine zY ?_;refine xdg zs ?_;rw [hnx,if_neg (by rw [h1];simp)];exact yai zh
 rw [ysk];exact zkp
theorem dmn_local (hg:ych g=true):DmnOk p g 2:=by
 have h24:=(yba hg).2.1;have hin:∀ d:List (List Int),CfgOk p g d->InN g.ports.length (ydn p g d):=fun d hd=>by
  rw [<- hd.len];exact xbe (by rw [hd.len];omega)
 exact ⟨om,fun d w hd=>resolve2_con g h24 _ w (hin d hd),fun d s hd=>yuu g 2 om _ s fun _ hs=>zow g h24 s (zvz hs (hin d hd))⟩
theorem dmn_any (hg:ych g=true) (hk:1<=kind/\kind<=4):DmnOk p g kind:=by
 by_cases h:kind=2
 .subst h;exact dmn_local hg
 exact zoa p g kind om
end
section
open Go.RowKit
def znw (g:GraphD) (kind:Int) (e:BitVec 32):List (BitVec 32):=if kind=1 then (yca e).map fun v=>1#32 <<< v else if kind=4 then [e] else (yzq e).filter (yxt g kind e)
def yyl (g:GraphD) (kind:Int) (e:BitVec 32):Option (List (BitVec 32)):=if e=0#32 then some [] else if kind≠1/\kind≠4/\10 < zpw e then none else some (znw g kind e)
def xlt:Option (List (BitVec 32))->AV
 | some l=>.tup [ynn l,i64 0]
 | none=>.tup [ynn [],i64 3]
theorem znv:∀ o,yar (xlt o)=true
 | some l=>rfl
 | none=>rfl
theorem yrl (e:BitVec 32):∀ n x,(ymc e n x).length<=n
 | 0,x=>by simp [ymc]
 | n+1,x=>by
  unfold ymc;split
  .simp
  have:=yrl e n (ykq e x);simp;omega
theorem yun (hx:h id=some (.vec (l.map ybd))) (hn:n=l.length):Frz h (.ls id 1 n) (ynn l):=
 Frz.ls (xs:=l.map ybd) (by rw [hx];rfl) (by rw [hn,qal]) (by intro r hr;obtain ⟨z,_,rfl⟩:=qag.1 hr;rfl) (ycz _) (by intro x hx i;obtain ⟨z,_,rfl⟩:=qag.1 hx;rfl)
theorem choices_con (g:GraphD) (h24:g.ports.length<=24) (kind:Int) (hk:1<=kind/\kind<=4) (e:BitVec 32) (he:InN g.ports.length e):Con prog 125 [yxr g,i64 kind,ybd e] (xlt (yyl g kind e)):=by
 refine ydv tok Tryz.func125 rfl rfl ntmps125 Tryz.results125 rfl (znv _) ?_;refine zY ?_;refine zj ?_ ?_ <;> intro h1
 .rw [yeq] at h1;have h1:e=0#32:=by simpa using h1
  refine zk ?_;rw [yyl,if_pos h1];exact Frz.tup2 Frz.nil Frz.pure
 rw [yeq] at h1;have h1:¬ e=0#32:=by simpa using h1
 have hcho:yyl g kind e=if kind≠1/\kind≠4/\10 < zpw e then none else some (znw g kind e):=by rw [yyl,if_neg h1]
 rw [hcho];refine zY ?_;refine yvd 8 0 902 1 rfl rfl rfl rfl rfl ?_;refine zj ?_ ?_ <;> intro q1
 .have k1:kind=1:=by simpa using q1
  subst k1;rw [if_neg sm,znw,if_pos rfl]
  (repeat (first|refine zy ?_|refine yxy [(1,901)] (ywp e) rfl rfl rfl rfl rfl rfl rfl yag rfl rfl rfl rfl rfl rfl ?_))
  refine zbi 901 rfl (ysl e) (fun _=>rfl) rfl (ywo e 18) rfl [(8,.lp 8 0)] zs rfl (fun k=>[(8,some (.cells [.ls 902 1 k])),(902,some (.vec (((yca e).take k).map fun v=>ybd (1#32 <<< v))))]) rfl (yai zh) rfl ?_ ?_
  .intro k el hel;obtain ⟨v,hv,rfl⟩:=ysj hel;have hin:=ygk.1 (qab hv);have hkl:=(qaa.1 hv).1;have hl32:=zey e;refine zY ?_;refine ⟨rfl,?_⟩
   (repeat (first|refine zbx ?_|refine ydx tok rfl rfl rfl so rfl (by simp [yar]) so rfl rfl rfl rfl rfl ?_))
   refine xdg zs (yai (yaa rfl (yaa rfl (yaa ?_ yag))));show some _=some _;rw [yan hv];simp;rfl
  rw [ysk];refine zk ?_;refine Frz.tup2 (yun ?_ sm) Frz.pure;show some _=some _;rw [qay,qex];rfl
 have k1:¬ kind=1:=by simpa using q1
 refine zY ?_;refine zj ?_ ?_ <;> intro q4
 .have k4:kind=4:=by simpa using q4
  subst k4;rw [if_neg sm,znw,if_neg om,if_pos rfl];exact zkp
 have k4:¬ kind=4:=by simpa using q4
 (repeat (first|refine zy ?_|refine zc (zwv e) ?_))
 refine zj ?_ ?_ <;> intro q5
 .refine zk ?_;rw [if_pos ⟨k1,k4,by simp at q5;omega⟩];exact Frz.tup2 Frz.nil Frz.pure
 rw [if_neg (fun h=>by have:=h.2.2;simp at q5;omega),znw,if_neg k1,if_neg k4]
 (try refine zq ?_)
 have hper:∀ x:BitVec 32,Con prog 153 [yxr g,i64 kind,ybd e,ybd x] (yay (yxt g kind e x)):=fun x=>yuu g kind hk e x fun _ hs=>zow g h24 x (zvz hs he);refine ycx (α:=BitVec 32 × List (BitVec 32)) (fun a=>[(10,ybd a.1),(8,.lp 8 0),(0,yxr g),(1,i64 kind),(2,ybd e)]) (fun a=>[(8,some (.cells [.ls 902 1 a.2.length])),(902,some (.vec (a.2.map ybd)))]) (fun a=>xjo a.1) (fun a=>ysw a.1 e/\a.2++(zgz e a.1).filter (yxt g kind e)=(yzq e).filter (yxt g kind e)) (-e &&& e,[]) ⟨yjs e,rfl⟩ zs (yai zh) ?_;rintro ⟨x,acc⟩ ⟨hx,hacc⟩;simp only at hx hacc ⊢
 (try refine zq ?_)
 refine zj ?_ ?_ <;> intro q6
 .rw [yfh] at q6;have q6:x≠0#32:=by simpa [bne] using q6
  have hfar:=zvk hx q6;rw [yzr hx q6] at hacc;have hbd:acc.length+((x::zgz e (ykq e x)).filter (yxt g kind e)).length<=4294967296:=by
   have:=congrArg List.length hacc;rw [qao] at this;rw [this];refine qbp (qdl _ _) (qbp (yrl e _ _) ?_);omega
  (repeat (first|refine zy ?_|refine zc (hper x) ?_))
  refine zj ?_ ?_ <;> intro q7
  .rw [qdt q7] at hacc hbd;simp only [qaj] at hbd
   (repeat (first|refine zq ?_|refine ydx tok rfl rfl rfl sm rfl (by simp [yar]) so rfl rfl rfl rfl rfl ?_))
   refine ylb (ykq e x,acc++[x]) ⟨yjm e x,by rw [qbb];exact hacc⟩ hfar zs (yai (yaa ?_ (yaa ?_ yag)))
   .show some _=some _;simp
   show some _=some _;simp;rfl
  rw [qfc (by rw [q7];simp)] at hacc
  (try refine zq ?_)
  exact ylb (ykq e x,acc) ⟨yjm e x,hacc⟩ hfar zs (yai zh)
 rw [yfh] at q6;have q6:x=0#32:=by simpa [bne] using q6
 rw [q6,yzs] at hacc;refine zk ?_;refine Frz.tup2 (yun ?_ (by rw [<- hacc];simp)) Frz.pure;rw [<- hacc];simp;rfl
end
section
open Go.RowKit
variable {f:Nat->Int} {v:Nat}
theorem zxn:∀ {l:List (Int × Int)} {P:Int} {x:Nat},x < l.length->(zbe l P).1[x]?=some (zbe (l.drop (x+1)) P).2
 | [],P,x,h=>by simp at h
 | r::rs,P,0,h=>by simp [zbe]
 | r::rs,P,x+1,h=>by
  simp only [zbe,qce,qdo];exact zxn (by simpa using h)
theorem zyf:∀ {t:List (List (Int × Int))} {P:Int} {k:Nat} {r:List (Int × Int)},t[k]?=some r->(zaw t P).1[k]?=some (zbe r (zaw (t.drop (k+1)) P).2).1
 | [],P,k,r,h=>by simp at h
 | r'::rs,P,0,r,h=>by
  simp only [qat,Option.some.injEq] at h;subst h;simp [zaw]
 | r'::rs,P,k+1,r,h=>by
  simp only [zaw,qce,qdo];exact zyf (by simpa using h)
theorem yzd (ht:xae (yad p g)) {n:Int} (hn:yci (yad p g)=(n,0)) {b:List (Int × Int)} (hb:(yad p g)[v]?=some b):∃ pl,(yht p g)[v]?=some pl/\pl.length=b.length/\∀ (x:Nat) (q:Int),pl[x]?=some q->1<=q/\q<=32768:=by
 refine ⟨_,zyf hb,yxa _ _,fun x q hq=>?_⟩;have hx:x < b.length:=by
  have:=(qaa.1 hq).1
  rwa [yxa] at this
 rw [zxn hx] at hq;cases hq;exact zlu ht hn hb (x+1)
def yjt (st mv pl:List Int):Nat->Int
 | 0=>0
 | x+1=>yjt st mv pl x+(mv.getD x 0 - st.getD x 0) * pl.getD x 0
def yhq (p:ProgD) (g:GraphD) (c:List (List Int)) (v:Nat):Int:=if yrz p g c v=true then yjt (c.getD v []) (zms p g c v) ((yht p g).getD v []) p.vars.length else 0
def zmh (f:Nat->Int):List Nat->Int
 | []=>0
 | v::l=>f v+zmh f l
theorem zfy (f:Nat->Int):∀ (l:List Nat) (v:Nat),zmh f (l++[v])=zmh f l+f v
 | [],v=>by simp [zmh]
 | u::l,v=>by simp only [qax,zmh,zfy f l v];omega
theorem sumN_take {l:List Nat} {j:Nat} (h:l[j]?=some v):zmh f (l.take (j+1))=zmh f (l.take j)+f v:=by rw [yan h,zfy]
theorem xdx {M:Int} (hM:0<=M) (hf:∀ v,-M<=f v/\f v<=M):∀ l:List Nat,-(l.length * M)<=zmh f l/\zmh f l<=l.length * M
 | []=>by simp [zmh]
 | v::l=>by
  obtain ⟨h1,h2⟩:=xdx hM hf l;obtain ⟨h3,h4⟩:=hf v;have e:((v::l).length:Int) * M=l.length * M+M:=by rw [qaj];rw [show ((l.length+1:Nat):Int)=(l.length:Int)+1 by omega,qev,qen]
  rw [e];simp only [zmh];omega
theorem xce {a b A B:Int} (h1:-A<=a) (h2:a<=A) (h3:1<=b) (h4:b<=B) (hA:0<=A):-(A * B)<=a * b/\a * b<=A * B:=by
 have g1:A * b<=A * B:=qfy h4 hA;have g2:a * b<=A * b:=qco h2 om;have g3:-A * b<=a * b:=qco h1 om;rw [Int.neg_mul] at g3;omega
theorem zss (h:CfgOk p g c) (hv:v < c.length):(zms p g c v).length=p.vars.length/\∀ a∈zms p g c v,-1<=a/\a<=1000000:=by
 obtain ⟨r,hr⟩:=ybr hv;have hs:=zto (p:=p) (g:=g) (set:=1#32 <<< v) hr;have h24:=h.n24;have hl:=h.len;have hb:(1#32 <<< v).getLsbD v=true:=by rw [qey];simp;omega
 rw [if_pos hb] at hs;have h':=h.step (1#32 <<< v);exact ⟨h'.rowlen _ (qab hs),h'.bd _ (qab hs)⟩
theorem yys {l:List Int} {x:Nat} {a:Int} (h:l[x]?=some a):l.getD x 0=a:=by rw [qad,h];rfl
theorem zkx {st mv pl:List Int} (hs:st.length=n) (hm:mv.length=n) (hp:pl.length=n) (h1:∀ a∈st,-1<=a/\a<=1000000) (h2:∀ a∈mv,-1<=a/\a<=1000000) (h3:∀ (x:Nat) (q:Int),pl[x]?=some q->1<=q/\q<=32768):∀ x:Nat,x<=n->-(x * 40000000000:Int)<=yjt st mv pl x/\yjt st mv pl x<=(x * 40000000000:Int)
 | 0,_=>by simp [yjt]
 | x+1,h=>by
  obtain ⟨i1,i2⟩:=zkx hs hm hp h1 h2 h3 x om;obtain ⟨a,ha⟩:=ybr (show x < st.length by omega);obtain ⟨b,hb⟩:=ybr (show x < mv.length by omega);obtain ⟨q,hq⟩:=ybr (show x < pl.length by omega);have a1:=h1 a (qab ha);have b1:=h2 b (qab hb);have q1:=h3 x q hq;have:=xce (a:=b - a) (b:=q) (A:=1000001) (B:=32768) om om q1.1 q1.2 om;simp only [yjt,yys ha,yys hb,yys hq];omega
theorem zvu (h:CfgOk p g c) {n:Int} (hn:yci (yad p g)=(n,0)) (v:Nat):-240000000000<=yhq p g c v/\yhq p g c v<=240000000000:=by
 unfold yhq;split
 .by_cases hv:v < c.length
  .obtain ⟨st,hst⟩:=ybr hv;obtain ⟨b,hb,hsb⟩:=h.row hst;obtain ⟨pl,hpl,hl,hq⟩:=yzd (ydf h.fair h.fit) hn hb;obtain ⟨m1,m2⟩:=zss h hv;have h6:=h.vars6;have:=zkx (st:=st) (mv:=zms p g c v) (pl:=pl) (n:=p.vars.length) (h.rowlen _ (qab hst)) m1 (by rw [hl,yjz hb]) (h.bd _ (qab hst)) m2 hq p.vars.length (qbh _);have e1:c.getD v []=st:=by rw [qad,hst];rfl
   have e2:(yht p g).getD v []=pl:=by rw [qad,hpl];rfl
   rw [e1,e2];omega
  have e:(yht p g)[v]?=none:=by
   rw [List.getElem?_eq_none_iff];have:=h.len;simp only [yht,yxg,yad,qal];omega
  have e2:(yht p g).getD v []=[]:=by rw [qad,e];rfl
  rw [e2];have:∀ x,yjt (c.getD v []) (zms p g c v) [] x=0:=by
   intro x;induction x with
   | zero=>rfl
   | succ x ih=>
    show yjt _ _ _ x+_ * ([]:List Int).getD x 0=0;rw [ih];simp
  rw [this];omega
 omega
abbrev ArcD:=BitVec 32 × Int
variable {F:BitVec 32->ArcD}
def yob (a:ArcD):List AV:=[ybd a.1,i64 a.2]
def yda (l:List ArcD):AV:=.sl 2 (l.map yob)
def xji (p:ProgD) (g:GraphD) (c:List (List Int)) (k:Nat) (B:BitVec 32):ArcD:=(B,k+zmh (yhq p g c) (yca B))
def ypu (p:ProgD) (g:GraphD) (kind:Int) (c:List (List Int)) (k:Nat):Option (BitVec 32 × List ArcD):=(yyl g kind (ydn p g c)).map fun l=>(ydn p g c,l.map (xji p g c k))
def xdv:Option (BitVec 32 × List ArcD)->AV
 | some (e,l)=>.tup [ybd e,yda l,i64 0]
 | none=>.tup [ybd 0#32,yda [],i64 3]
theorem stateA_pure:∀ o,yar (xdv o)=true
 | some (e,l)=>rfl
 | none=>rfl
def yfo (l:List ArcD):List AV:=(l.map yob).flatten
theorem zds (l:List ArcD):(yfo l).length=2 * l.length:=by
 unfold yfo;rw [zcj (k:=2) (fun x=>rfl)];omega
theorem zia:∀ {l:List ArcD} {i:Nat},(yfo l).take (i * 2)=yfo (l.take i)
 | [],i=>by simp [yfo]
 | a::l,0=>by simp [yfo]
 | a::l,i+1=>by
  have ih:=zia (l:=l) (i:=i);rw [show (i+1) * 2=i * 2+1+1 by omega];show ybd a.1::i64 a.2::(yfo l).take (i * 2)=_;rw [ih];rfl
theorem zhy:∀ {l:List ArcD} {i:Nat},(yfo l).drop (i * 2)=yfo (l.drop i)
 | [],i=>by simp [yfo]
 | a::l,0=>by simp
 | a::l,i+1=>by
  have ih:=zhy (l:=l) (i:=i);rw [show (i+1) * 2=i * 2+1+1 by omega];show (yfo l).drop (i * 2)=_;rw [ih];rfl
theorem flatA_app (a b:List ArcD):yfo (a++b)=yfo a++yfo b:=by simp [yfo]
theorem flatA_put {l:List ArcD} {y:ArcD} (h:i < l.length):(yfo l).take (i * 2)++yob y++(yfo l).drop (i * 2+2)=yfo (l.set i y):=by
 rw [qem,if_pos h,zia,show i * 2+2=(i+1) * 2 by omega,zhy,flatA_app,qbb];rfl
theorem zvo:∀ {l:List ArcD} {i:Nat} {y:ArcD},l[i]?=some y->(yfo l)[i * 2+1]?=some (i64 y.2)
 | [],i,y,h=>by simp at h
 | a::l,0,y,h=>by simp at h;subst h;rfl
 | a::l,i+1,y,h=>by
  rw [show (i+1) * 2+1=i * 2+1+1+1 by omega];show (yfo l)[i * 2+1]?=_;exact zvo (by simpa using h)
theorem zhz:∀ {l:List ArcD} {i:Nat} {B:BitVec 32} {x z:Int},l[i]?=some (B,x)->(yfo l).set (i * 2+1) (i64 z)=yfo (l.set i (B,z))
 | [],i,B,x,z,h=>by simp at h
 | a::l,0,B,x,z,h=>by simp at h;subst h;rfl
 | a::l,i+1,B,x,z,h=>by
  have ih:=zhz (l:=l) (i:=i) (B:=B) (x:=x) (z:=z) (by simpa using h);rw [show (i+1) * 2+1=i * 2+1+1+1 by omega];show ybd a.1::i64 a.2::(yfo l).set (i * 2+1) (i64 z)=_;rw [ih];rfl
theorem zqw:∀ (n:Nat) (x:BitVec 32),ysw x e->∀ y∈ymc e n x,ysw y e
 | 0,x,_,y,h=>by simp [ymc] at h
 | n+1,x,hx,y,h=>by
  unfold ymc at h;split at h
  .simp at h
  rcases qas.1 h with rfl|h
  .exact hx
  exact zqw n _ (yjm e x) y h
theorem choV_sub (h:yyl g kind e=some l):∀ B∈l,∀ v,B.getLsbD v=true->e.getLsbD v=true:=by
 intro B hB v hv;unfold yyl at h;split at h
 .cases h;simp at hB
 split at h
 .cases h
 cases h;unfold znw at hB;split at hB
 .obtain ⟨u,hu,rfl⟩:=qag.1 hB;have hu':=ygk.1 hu;rw [qey] at hv;simp only [qac,qbt,decide_eq_false_iff_not,decide_eq_true_eq,qfi] at hv;obtain rfl:v=u:=by omega
  exact hu'.2
 split at hB
 .obtain rfl:=qaq.1 hB;exact hv
 exact (zqw _ _ (yjs e) B (qdq.1 hB).1).bit hv
theorem zoi:∀ n:Nat,ykr n [ybd 0#32,i64 0]=yfo (List.replicate n (0#32,0))
 | 0=>rfl
 | n+1=>by simp [ykr,zoi n,qbo,yfo,yob]
def zmr (F:BitVec 32->ArcD) (l:List (BitVec 32)) (i:Nat):List ArcD:=(l.take i).map F++List.replicate (l.length - i) (0#32,0)
theorem arcK_len (h:i<=l.length):(zmr F l i).length=l.length:=by simp [zmr];omega
theorem arcK_set (h:l[i]?=some B):(zmr F l i).set i (F B)=zmr F l (i+1):=by
 have hi:=(qaa.1 h).1;unfold zmr;rw [yan h,qbm _ _ so];obtain ⟨m,hm⟩:∃ m,l.length - i=m+1:=⟨l.length - i - 1,om⟩;rw [show l.length - (i+1)=m by omega,hm];simp [qbo,qfj (Nat.le_of_lt hi)]
theorem arcK_end:zmr F l l.length=l.map F:=by simp [zmr]
theorem arcK_zero:zmr F l 0=List.replicate l.length (0#32,0):=by simp [zmr]
theorem setA_same {l:List AV} {x:AV} (h:l[k]?=some x):l.set k x=l:=by
 apply qdm;intro j;rw [qcy];split
 .rename_i e;subst e;rw [h,if_pos (qaa.1 h).1]
 rfl
theorem choL_len (g:GraphD) (kind:Int) (e:BitVec 32):(znw g kind e).length<=4294967296:=by
 unfold znw;split
 .rw [qal];have:=zey e;omega
 split
 .simp
 refine qbp (qdl _ _) (qbp (yrl e _ _) ?_);omega
theorem zki (h:yyl g kind e=some l):l.length<=4294967296:=by
 unfold yyl at h;split at h
 .cases h;simp
 split at h
 .cases h
 cases h;exact choL_len g kind e
theorem arr_skip (h:k < n) (h0:f k=0):yvg f n (k+1)=yvg f n k:=by
 unfold yvg;rw [qcr,qbu,qbb];congr 1;obtain ⟨m,hm⟩:∃ m,n - k=m+1:=⟨n - k - 1,om⟩;rw [show n - (k+1)=m by omega,hm];simp [qbo,h0]
theorem arr_at (h:k < n):(yvg f n k)[k]?=some 0:=by
 unfold yvg;rw [qai sm];simp only [qal,qdz,qbn];rw [qek,if_pos om]
theorem arr_get (h:k<=n) (hv:v < k):(yvg f n k)[v]?=some (f v):=by
 unfold yvg;rw [qam (by simpa using hv)];simp [hv]
end
set_option maxHeartbeats 4000000
section
open Go.RowKit
variable {f:FuncId}
def xfq (P:Program) (f:FuncId) (args:List AV) (r:AV):Prop:=
 ylh P f/\yar r=true/\∀ (ok0:Nat->Prop) (w:World) (us:List Value),zba w->(∀ g,ok0 g->g < w.heap.size)->ybm ok0 w (fun _=>none) args us ->
  Calls P f us.toArray w fun e w'=>∃ u,e=.returned u/\Rel (fun g=>w.heap.size<=g/\g < w'.heap.size) w' (fun _=>none) r u/\Below w.heap.size w w'
def zrj (h:Nat->Option LObj) (x y:AV):Prop:=
 ∀ (B:Bse) (ok0:Nat->Prop) (lv:Live) (w:World) (u:Value),Inv B ok0 h lv w->Rel (yax B ok0 lv w) w lv x u->Rel (fun g=>B.mine g/\g < w.heap.size) w (fun _=>none) y u
theorem zrj.v {x:Value}:zrj h (.v x) (.v x):=fun B ok0 lv w u hi hr=>by cases hr;exact .v x
theorem Rel.flat {ok ok':Nat->Prop} {w:World} {lv:Live} {size:Nat} {rows:List (List AV)} {u:Value} (h:Rel ok w lv (.sl size rows) u) (hv:∀ row∈rows,∀ c∈row,∃ v,c=.v v) (hb:∀ g o len cap,u=.slice (some ⟨g,o,none⟩) len cap->ok' g):Rel ok' w lv (.sl size rows) u:=by
 cases h with
 | sl a cap uu g o hn hc ha hr hg hcell hrel=>
  refine .sl a cap uu g o hn hc ha hr (fun hne=>⟨(hg hne).1,hb g o _ _ (by rw [(hg hne).1])⟩) hcell fun i j row c h1 h2=>?_;obtain ⟨v,rfl⟩:=hv row (qab h1) c (qab h2);have:=hrel i j row _ h1 h2;generalize uu i j=q at this ⊢;cases this;exact .v v
theorem zrj.ls {size len:Nat} {rows:List (List AV)} (hx:h id=some (.vec xs)) (hlen:rows.length=len) (hsize:∀ row∈rows,row.length=size) (hfl:rows.flatten=xs) (hv:∀ row∈rows,∀ c∈row,∃ v,c=.v v):zrj h (.ls id size len) (.sl size rows):=by
 intro B ok0 lv w u hi hr;have hp:∀ x∈xs,∀ i,ment i x=false:=fun x hm i=>by
  rw [<- hfl] at hm;obtain ⟨row,h1,h2⟩:=qda.1 hm;obtain ⟨v,rfl⟩:=hv row h1 x h2;rfl
 refine Rel.flat (Frz.ls (show ycu (h id)=some xs by rw [hx];rfl) hlen hsize hfl hp B ok0 lv w u hi hr) hv fun g o ln cap e=>?_;subst e;cases hr with
 | ls _ h1 hls=>
  obtain ⟨bo,n,g1,g2⟩:=hi.obj id _ hx;have:=hls bo n g1;cases bo with
  | none=>simp [xmg] at this
  | some b=>
   obtain ⟨cap',e,_⟩:=this;cases e;exact ⟨g2.1,g2.2.1⟩
theorem zrj.tup3 {a b c a' b' c':AV} (h1:zrj h a a') (h2:zrj h b b') (h3:zrj h c c'):zrj h (.tup [a,b,c]) (.tup [a',b',c']):=by
 intro B ok0 lv w u hi hr;cases hr with
 | tup vs hl hrr=>
  refine .tup vs (by rw [hl];rfl) fun i x v hx hv=>?_
  match i with
  | 0=>cases hx;exact h1 B ok0 lv w v hi (hrr 0 _ _ rfl hv)
  | 1=>cases hx;exact h2 B ok0 lv w v hi (hrr 1 _ _ rfl hv)
  | 2=>cases hx;exact h3 B ok0 lv w v hi (hrr 2 _ _ rfl hv)
  | i+3=>simp at hx
def EndsN (T:Nat->Option Ty) (rs:List ResultVar) (y:AV):Exit->SS->Prop
 | .normal,s=>∃ x,yrh T s rs=some x/\zrj s.h x y
 | .ret,s=>∃ x,yrh T s rs=some x/\zrj s.h x y
 | _,_=>False
theorem xaz {T:Nat → Option Ty} (hT : TOK P T) {fn:Func} {c:Code} {rs:List ResultVar} {args:List AV} {r:AV} (hf : P.funcs[f]? = some fn) (hn : (fn.name == "runtime.NumGoroutine") = false) (hb : fn.body = some c) (hN : fn.ntmps = N) (hrs : fn.results = rs.toArray) (hlen : (Nat.ble args.length N && Nat.ble N 1000000) = true) (hp : yar r = true) (h:A P N c (EndsN T rs r) (S (yfn 0 args) [])):xfq P f args r:=by
 refine ⟨⟨fn,hf,hn,by simp [hb]⟩,hp,fun ok0 w us hG hok hus=>?_⟩;simp only [qac,qdj] at hlen;obtain ⟨hlen',hbig⟩:=hlen;refine (callsIn_wide (n:=0)).1 (callsIn_of_wp_marks hf hb trivial ?_);have hst:S (yfn 0 args) []=⟨zrz args,fun _=>none⟩:=by unfold S;rw [ykw];rfl
 have hs:Sim (xgb w) ok0 N (S (yfn 0 args) []) (fun _=>none) { tmps:=us.toArray++Array.replicate (fn.ntmps - us.toArray.size) undef,defers:=[] } w:=by
  rw [hst];refine ⟨⟨Based.start hG,hok,fun _ _=>rfl,(fun i j b n m h=>by cases h),(fun id x hx=>by cases hx)⟩,?_,fun x y hy=>?_,⟨[],rfl,qdp,fun d hd=>by cases hd⟩,hbig,fun id b xs _ hx=>by cases hx⟩
  .simp [hN,hus.1];omega
  have hlt:=(qaa.1 hy).1;refine ⟨.inl om,?_⟩;obtain ⟨u,hu⟩:∃ u,us[x]?=some u:=⟨_,qae (by rw [hus.1];exact hlt)⟩;rw [ydw,if_pos om];simp only [yej us _ x u hu];exact (hus.2 x y u hy hu).keep fun g hg=>⟨⟨.inl hg,hok g hg,fun id b n hb=>by cases hb⟩,rfl⟩
 refine wpIn_mono (h _ ok0 _ _ w hs) fun e a' w' ⟨s',lv',hq,hs'⟩=>?_;have fin:∀ x,yrh T s' rs=some x->zrj s'.h x r->∀ (a':Act) (w':World),Sim (xgb w) ok0 N s' lv' a' w'->∃ v,(results fn a'.tmps).run P w'=.ok v w'/\∃ u,Ending.returned v=.returned u/\Rel (fun g=>w.heap.size<=g/\g < w'.heap.size) w' (fun _=>none) r u/\Below w.heap.size w w':=by
  intro x hx hfz a' w' hs';obtain ⟨u,hu,hrun⟩:=yri hT hs' hrs hx;exact ⟨u,hrun,u,rfl,(hfz _ _ _ _ _ hs'.inv hu).keep (fun g hg=>⟨⟨hg.1.elim (fun h=>h.elim) (fun h=>h),hg.2⟩,rfl⟩),hs'.inv.base.below⟩
 cases e with
 | normal=>obtain ⟨x,hx,hfz⟩:=hq;exact ycj rfl rfl (fin x hx hfz) _ a' w' rfl hs'
 | ret=>obtain ⟨x,hx,hfz⟩:=hq;exact ycj rfl rfl (fin x hx hfz) _ a' w' rfl hs'
 | _=>exact hq.elim
def zmv (h:Nat->Option LObj) (xs ys:List AV):Prop:=xs.length=ys.length/\∀ (i:Nat) (x y:AV),xs[i]?=some x->ys[i]?=some y->Frz h x y
theorem zmv.nil {h:Nat->Option LObj}:zmv h [] []:=⟨rfl,fun i x y hx=>by simp at hx⟩
theorem zmv.cons {x y:AV} {ys:List AV} (h1:Frz h x y) (h2:zmv h xs ys):zmv h (x::xs) (y::ys):=by
 refine ⟨by simp [h2.1],fun i a b ha hb=>?_⟩;cases i with
 | zero=>cases ha;cases hb;exact h1
 | succ i=>exact h2.2 i a b (by simpa using ha) (by simpa using hb)
theorem yield_callV {ρ:Operand->Option AV} {g:Operand} {args:List Operand} {ats:Array TypeId} {ty:TypeId} {ys:List AV} {r:AV} (hf:ρ g=some (.fn f [])) (hx:evL ρ args=some xs) (hfz:zmv h xs ys) (hc:xfq P f ys r):
  yby P h ρ (.call { callee:=.value g,args:=args.toArray,argTypes:=ats }) ty r:=by
 intro B ok0 lv w a o ho hty hi hops K Q hK;have hfr:=hops g _ (by simp [Op.operands,Call.operands]) hf;have har:=yug (a:=a) args xs (fun x y hm=>hops x y (by simp [Op.operands,Call.operands,hm])) hx;generalize hv:a.eval g=v at hfr;cases hfr with
 | fn vs hl hr=>
  have hvs:vs=[]:=qaz (by simpa using hl);subst hvs;have hall:ybm (fun g=>(ok0 g\/B.mine g)/\g < w.heap.size) w (fun _=>none) ys (args.map a.eval):=by
   refine ⟨by rw [har.1,hfz.1],fun i y u hy hu=>?_⟩;obtain ⟨x,hxi⟩:∃ x,xs[i]?=some x:=⟨_,qae (by rw [hfz.1];exact (qaa.1 hy).1)⟩;exact hfz.2 i x y hxi hy B ok0 lv w u hi (har.2 i x u hxi hu)
  have hcall:=hc.2.2 _ w _ hi.base.glob (fun g hg=>hg.2) hall;have hrun:(execOp a.eval o).run P w=.ok (.enter f (args.map a.eval).toArray) w:=by
   simp [execOp,ho,resolve,Deferred.ofValue,hv,invoke,ygl hc.1]
  unfold Oper.wp;rw [hrun];refine hcall.mono fun e w' ⟨u,he,hrel,hb⟩=>?_;subst he;have hsz:B.w.heap.size<=w.heap.size:=hi.base.size;refine hK u w' ((hrel.relive fun id b n _ hm=>by rw [yar.ment hc.2.1] at hm;cases hm).keep fun g hg=>⟨⟨.inr (.inr om),hg.2,fun id b n hb e=>?_⟩,rfl⟩) (hi.grow hb) hb;subst e;have:=(hi.mineOf ⟨id,n,hb⟩).2;omega
section
variable {P:Program} {N:Nat} {ops:Array Oper} {lf:Oper->Bool} {Q:SS->Prop} {t:List (Nat × AV)} {h:List (Nat × Option LObj)} {rest:List Oper} {d:Nat} {ty:TypeId} {pos:String} {af:Array Edge} {gd:Option (Nat × Bool)} {r:AV}
theorem zrv {g:Operand} {args:List Operand} {ats:Array TypeId} {xs:List AV} (ys:List AV) (hc:xfq P f ys r) (hf:evF (yaj t) g=some (.fn f [])) (hx:evL (evF (yaj t)) args=some xs) (hfz:zmv (yac h) xs ys) (hw:yal ops (yaj t) ⟨some d,.call { callee:=.value g,args:=args.toArray,argTypes:=ats },ty,pos,af,gd⟩=some true) (hd:Nat.blt d N=true) (k:Lex P N ops lf Q rest (S ((d,r)::t) h)):Lex P N ops lf Q (⟨some d,.call { callee:=.value g,args:=args.toArray,argTypes:=ats },ty,pos,af,gd⟩::rest) (S t h):=
 ycl (yield_callV hf hx hfz hc) hw hd k
end
end
set_option maxHeartbeats 8000000
section
open Go.RowKit
theorem zvd:ydn p g c=yns (yrz p g c) c.length:=rfl
theorem state_conN (h:CfgOk p g c) (hk:1<=kind/\kind<=4) {n:Int} (hn:yci (yad p g)=(n,0)) (k:Nat) (hkn:k<=32768):xfq prog 69 [ygn p g kind,yds c,i64 k] (xdv (ypu p g kind c k)):=by
 have h24:=h.n24;have hl:=h.len;have h6:=h.vars6;have ht:=ydf h.fair h.fit;refine xaz tok Tryz.func69 rfl rfl ntmps69 Tryz.results69 rfl (stateA_pure _) ?_;unfold ygn xdh;refine zY ?_;refine ycx (α:=Nat) (fun v=>[(23,i64 v),(22,i64 c.length),(9,ybd (yns (yrz p g c) v)),(10,.lp 10 0),(0,.dp [ygi p g,yxr g,i64 kind,ydl (yad p g),.sl 1 ((yht p g).map fun r=>[yah r])] 0),(1,yds c),(2,i64 k)]) (fun v=>[(10,some (.cells ((yvg (yhq p g c) 24 v).map i64)))]) (fun v=>c.length - v) (fun v=>v<=c.length) 0 om zs (yai (yaa rfl yag)) ?_;intro v hv;refine zY ?_;refine zj ?_ ?_ <;> intro h1
 .simp at h1;obtain ⟨st,hst⟩:=ybr h1;obtain ⟨b,hb,hsb⟩:=h.row hst;obtain ⟨pl,hpl,hpll,hplq⟩:=yzd ht hn hb;have hsl:=h.rowlen st (qab hst);have hpl6:pl.length=p.vars.length:=by rw [hpll,yjz hb]
  rcases (show zzk p ⟨g,c,v⟩ < 0\/0<=zzk p ⟨g,c,v⟩ by omega) with hr|hr
  ·(repeat (first|refine zy ?_|refine zc (ywi h h1) ?_))
   refine zj ?_ ?_ <;> intro h2
   .refine zY ?_;have he:yrz p g c v=false:=by simp only [yrz];exact decide_eq_false om
    have e1:yns (yrz p g c) (v+1)=yns (yrz p g c) v:=by rw [yns,he,if_neg sm]
    have e2:yvg (yhq p g c) 24 (v+1)=yvg (yhq p g c) 24 v:=arr_skip om (by unfold yhq;rw [he,if_neg sm]);refine ylb (v+1) om om ?_ (yai (yaa (by rw [e2];rfl) yag));rw [e1];exact zs
   simp at h2;omega
  obtain ⟨i,r,hi,hr'⟩:=ztj hr;have he:yrz p g c v=true:=by simp only [yrz];exact decide_eq_true hr
  obtain ⟨m1,m2⟩:=zss h h1;have hrow:xih p (yad p g) ⟨g,c,v⟩ i=zms p g c v:=by unfold zms;rw [hi];rfl
  obtain ⟨mv,hmv⟩:∃ mv,zms p g c v=mv:=⟨_,rfl⟩;rw [hmv] at hrow m1 m2;have hmo:=zpo h h1 hr';rw [hrow] at hmo;have e1:yns (yrz p g c) (v+1)=yns (yrz p g c) v ||| (1#32 <<< v):=by rw [yns,he,if_pos rfl]
  have b2:=zkx (st:=st) (mv:=mv) (pl:=pl) hsl m1 hpl6 (h.bd st (qab hst)) m2 hplq
  (repeat (first|refine zbxz ?_|refine yxz rfl rfl rfl rfl ?_|refine zN ?_|refine yte rfl rfl (ywi h h1) rfl rfl (ymj 32 (y:=i64 i) rfl (yof hi) ?_)))
  refine ycx (α:=Nat) (fun x=>[(48,i64 x),(47,i64 mv.length),(46,yah mv),(11,i64 v),(9,ybd (yns (yrz p g c) v ||| (1#32 <<< v))),(23,i64 v),(22,i64 c.length),(10,.lp 10 0),(0,.dp [ygi p g,yxr g,i64 kind,ydl (yad p g),.sl 1 ((yht p g).map fun r=>[yah r])] 0),(1,yds c),(2,i64 k)]) (fun x=>[(10,some (.cells (((yvg (yhq p g c) 24 v).map i64).set v (i64 (yjt st mv pl x)))))]) (fun x=>mv.length - x) (fun x=>x<=mv.length) 0 om zs ?_ ?_
  .refine yai (yaa ?_ yag);show some _=some _;rw [show i64 (yjt st mv pl 0)=i64 0 from rfl,setA_same (by rw [qah,arr_at om];rfl)]
  intro x hx;have b3:=b2 x om;refine zY ?_;refine zj ?_ ?_ <;> intro h3
  .simp at h3;obtain ⟨a,ha⟩:=ybr (show x < st.length by omega);obtain ⟨m,hm⟩:=ybr h3;obtain ⟨q,hq⟩:=ybr (show x < pl.length by omega);have a1:=h.bd st (qab hst) a (qab ha);have m3:=m2 m (qab hm);have q1:=hplq x q hq;have hb:=xce (a:=m - a) (b:=q) (A:=1000001) (B:=32768) om om q1.1 q1.2 om;have hal:(((yvg (yhq p g c) 24 v).map i64).set v (i64 (yjt st mv pl x))).length=24:=by rw [qfw,qal,yyc om]
   have hat:(((yvg (yhq p g c) 24 v).map i64).set v (i64 (yjt st mv pl x)))[0+(v:Int).toNat * 1]?=some (i64 (yjt st mv pl x)):=by
    rw [show (0+(v:Int).toNat * 1)=v by simp,qdy (by rw [qal,yyc om];omega)]
   (repeat (first|refine zy ?_|refine yft (r:=i64 (yjt st mv pl x)) tok rfl rfl rfl rfl hat rfl rfl ?_|refine yku tok rfl rfl (by rw [yaz];rfl) (by intro h0;rw [h0] at hal;simp at hal) rfl om om rfl rfl ?_))
   refine zuc tok rfl rfl rfl rfl rfl yaz (by rw [hal];simp;omega) rfl rfl ?_;refine zY ?_;have hg:yjt st mv pl x+(m - a) * q=yjt st mv pl (x+1):=by simp only [yjt,yys ha,yys hm,yys hq]
   refine ylb (x+1) om om zs (yai (yaa ?_ yag));rw [yaz,hg,show (0+(v:Int).toNat * 1)=v by simp,qhp];rfl
  simp at h3;obtain rfl:x=mv.length:=by omega
  have hgv:yhq p g c v=yjt st mv pl mv.length:=by
   unfold yhq;rw [if_pos he,hmv,m1];congr 1
   .rw [qad,hst];rfl
   rw [qad,hpl];rfl
  refine zY ?_;refine ylb (v+1) om om ?_ (yai (yaa ?_ yag))
  .rw [e1];exact zs
  rw [yaz,<- hgv,xao om]
 simp at h1;obtain rfl:v=c.length:=by omega
 rw [<- zvd];have hE:InN g.ports.length (ydn p g c):=fun u hu=>by
  by_cases h32:u < 32
  .rw [zvd,yik _ _ _ h32,decide_eq_false om];rfl
  exact qbs _ _ om
 have hcho:=choices_con g h24 kind hk (ydn p g c) hE
 (repeat (first|with_reducible refine ydk ?_|with_reducible refine ycd ?_|refine ycy ?_))
 refine zrr 10 ((yvg (yhq p g c) 24 c.length).map i64) rfl rfl (by intro y hy;obtain ⟨b,_,rfl⟩:=qag.1 hy;rfl) ?_;refine yqf (t':=[(9,ybd (ydn p g c)),(10,.lp 10 0),(0,.dp [ygi p g,yxr g,i64 kind,ydl (yad p g),.sl 1 ((yht p g).map fun r=>[yah r])] 0),(1,yds c),(2,i64 k)]) (h':=[(10,some (.vec ((yvg (yhq p g c) 24 c.length).map i64)))]) ?_ zs (yai (yaa rfl yag));unfold ypu;cases hcv:yyl g kind (ydn p g c) with
 | none=>
  rw [hcv] at hcho;refine zZ ?_;refine zr ?_;exact zrj.tup3 .v (fun B ok0 lv w u hi hr=>by cases hr;exact ysn) .v
 | some l=>
  rw [hcv] at hcho;have hll:=zki hcv
  (repeat (first|refine zz ?_|refine yqg tok rfl rfl rfl rfl co rfl rfl rfl rfl rfl ?_))
  obtain ⟨F,hF⟩:∃ F,xji p g c k=F:=⟨_,rfl⟩;refine ycx (α:=Nat) (fun i=>[(101,i64 i),(100,i64 l.length),(99,ynn l),(17,.lp 17 0),(10,.lp 10 0),(9,ybd (ydn p g c)),(2,i64 k)]) (fun i=>[(17,some (.cells [.ls 98 2 l.length])),(98,some (.vec (yfo (zmr F l i)))),(10,some (.vec ((yvg (yhq p g c) 24 c.length).map i64)))]) (fun i=>l.length - i) (fun i=>i<=l.length) 0 om zs (yai (yaa rfl (yaa ?_ (yaa rfl yag)))) ?_
  .show some _=some _;rw [arcK_zero,<- zoi];rfl
  intro i hi;refine zY ?_;refine zj ?_ ?_ <;> intro q1
  .simp at q1;obtain ⟨B,hB⟩:=ybr q1;have hal:=arcK_len (F:=F) hi;have hfl:(yfo (zmr F l i)).length=2 * l.length:=by rw [zds,hal]
   have hBsub:=choV_sub hcv B (qab hB)
   (repeat (first|refine zy ?_|refine yaw tok rfl rfl rfl rfl om om rfl rfl ?_|refine L_storeV (cs:=yob (B,(k:Int))) tok rfl rfl rfl rfl rfl rfl (by rw [hfl];simp [yob];omega) (by intro h0;rw [h0] at hfl;simp at hfl;omega) rfl rfl rfl ?_|refine yxy [(1,901)] (ywp B) rfl rfl rfl rfl rfl rfl rfl yag rfl rfl rfl rfl rfl rfl ?_))
   refine zbi 901 rfl (ysl B) (fun _=>rfl) rfl (ywo B 114) rfl [(17,.lp 17 0),(18,.lp 18 0),(10,.lp 10 0),(101,i64 i),(100,i64 l.length),(99,ynn l),(9,ybd (ydn p g c)),(2,i64 k)] zs rfl (fun j=>[(17,some (.cells [.ls 98 2 l.length])),(98,some (.vec (yfo ((zmr F l i).set i (B,k+zmh (yhq p g c) ((yca B).take j)))))),(18,some (.cells [i64 i])),(10,some (.vec ((yvg (yhq p g c) 24 c.length).map i64)))]) rfl ?_ rfl ?_ ?_
   .refine yai (yaa rfl (yaa ?_ (yaa rfl (yaa rfl yag))));show some _=some _;rw [<- flatA_put om];simp [zmh,yob]
   .intro j el hel;obtain ⟨v,hv,rfl⟩:=ysj hel;have hin:=ygk.1 (qab hv);have hvc:v < c.length:=by
     rcases qbi v c.length with h'|h'
     .exact h'
     have:=hBsub v hin.2;rw [hE v om] at this;cases this
    have hgb:=zvu h hn v;have hsb:=xdx (M:=240000000000) om (zvu h hn) ((yca B).take j);have hlj:((yca B).take j).length<=32:=by rw [qcf];have:=zey B;omega
    obtain ⟨Z,hZ⟩:∃ Z,zmh (yhq p g c) ((yca B).take j)=Z:=⟨_,rfl⟩;have hZ1:zmh (yhq p g c) ((yca B).take (j+1))=Z+yhq p g c v:=by rw [sumN_take hv,hZ]
    rw [hZ] at hsb ⊢;have hat0:((zmr F l i).set i (B,(k:Int)+Z))[i]?=some (B,(k:Int)+Z):=qdy om;have hat1:(yfo ((zmr F l i).set i (B,(k:Int)+Z)))[(i:Int).toNat * 2+1]?=some (i64 ((k:Int)+Z)):=by
     rw [show (i:Int).toNat=i by simp];exact zvo hat0
    have hat2:((yvg (yhq p g c) 24 c.length).map i64)[0+(v:Int).toNat * 1]?=some (i64 (yhq p g c v)):=by
     rw [show (0+(v:Int).toNat * 1)=v by simp,qah,arr_get om hvc];rfl
    have hfl2:(yfo ((zmr F l i).set i (B,(k:Int)+Z))).length=2 * l.length:=by rw [zds,qfw,hal]
    have hfl3:yfo ((zmr F l i).set i (B,(k:Int)+Z))≠[]:=by intro h0;rw [h0] at hfl2;simp at hfl2;omega
    have hal2:((yvg (yhq p g c) 24 c.length).map i64).length=24:=by rw [qal,yyc om]
    refine zY ?_;refine ⟨rfl,?_⟩
    (repeat (first|refine zy ?_|refine yaw tok rfl rfl rfl rfl om om rfl rfl ?_|refine L_fieldLp tok rfl rfl rfl rfl hfl3 rfl rfl ?_|refine yft (r:=i64 ((k:Int)+Z)) tok rfl rfl rfl rfl hat1 rfl rfl ?_|refine yku tok rfl rfl rfl (by intro h0;rw [h0] at hal2;simp at hal2) rfl om om rfl rfl ?_|refine yft (r:=i64 (yhq p g c v)) tok rfl rfl rfl rfl hat2 rfl rfl ?_))
    refine ykk tok rfl rfl rfl rfl rfl rfl (by rw [hfl2];simp;omega) rfl rfl rfl ?_;refine zY ?_;refine xdg zs (yai (yaa rfl (yaa rfl (yaa ?_ (yaa rfl (yaa rfl yag))))));show some _=some _;have e:=zhz (z:=(k:Int)+Z+yhq p g c v) hat0;rw [qhp] at e;rw [hZ1,<- Int.add_assoc,<- e,show (i:Int).toNat=i by simp];rfl
   rw [ysk,qay];have hnext:(zmr F l i).set i (B,(k:Int)+zmh (yhq p g c) (yca B))=zmr F l (i+1):=by rw [<- arcK_set hB,<- hF];rfl
   rw [hnext];refine zY ?_;exact ylb (i+1) om om zs (yai (yaa rfl (yaa rfl (yaa rfl yag))))
  simp at q1;obtain rfl:i=l.length:=by omega
  refine zk ?_;rw [arcK_end];refine zrj.tup3 .v (zrj.ls (xs:=yfo (l.map F)) rfl sm (fun row hr=>by obtain ⟨y,_,rfl⟩:=qag.1 hr;rfl) ?_ fun row hr x hx=>?_) .v
  .subst hF;rfl
  obtain ⟨y,_,rfl⟩:=qag.1 hr;rcases qas.1 hx with rfl|hx
  .exact ⟨_,rfl⟩
  obtain rfl:=qaq.1 hx;exact ⟨_,rfl⟩
end
set_option maxHeartbeats 4000000
section
open Go.RowKit
def xhs (P:Program) (N:Nat) (o:Oper) (s:SS) (D:List PanicEntry->SS->Prop):Prop:=
 ∀ (B:Bse) (ok0:Nat->Prop) (lv:Live) (a:Act) (w:World),Sim B ok0 N s lv a w->∀ (K:Act->World->Prop) (Q:Exit->Act->World->Prop),(∀ ch a' w',(∃ s' lv',D ch s'/\Sim B ok0 N s' lv' a' w')->Q (.panic ch) a' w')->o.wp P a w K Q
variable {P:Program} {N:Nat}
theorem xhs.mono {o:Oper} {s:SS} {D D':List PanicEntry->SS->Prop} (h:xhs P N o s D) (hD:∀ c s',D c s'->D' c s'):xhs P N o s D':=
 fun B ok0 lv a w hs K Q hQ=>h B ok0 lv a w hs K Q fun ch a' w' ⟨s',lv',h1,h2⟩=>hQ ch a' w' ⟨s',lv',hD ch s' h1,h2⟩
variable {t:List (Nat × AV)} {h:List (Nat × Option LObj)} {ty:TypeId} {pos:String} {af:Array Edge} {gd:Option (Nat × Bool)}
end
end Go.Proofs.YtgpodcjhgdionaaGreatDoor
