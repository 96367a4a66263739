/- Part 10 of the texts under TopCertificatesBoundRuns. -/
import Derived.Test.YtgpodcjhgdionaaGreatDoorCB4
import Derived.Test.YtgpodcjhgdionaaGreatDoorCB5
import Derived.Test.YtgpodcjhgdionaaGreatDoorCB6
import Derived.Test.YtgpodcjhgdionaaGreatDoorCB7
import Derived.Test.YtgpodcjhgdionaaGreatDoorCB8
import Derived.Test.YtgpodcjhgdionaaGreatDoorCB9
set_option linter.unusedVariables false
set_option maxRecDepth 100000
set_option maxHeartbeats 4000000
namespace Go.Proofs.YtgpodcjhgdionaaGreatDoor
open Go.Proofs.Tryz
variable {r:List (Int × Int)} {t:List (List (Int × Int))} {rows:List (List AV)} {l:List Int} {k v n x d:Nat} {a op:Int} {b:Int × Int} {c:List (List Int)} {g:GraphD} {α:Type} {u:Value} {P:Program} {p:ProgD} {f:Nat->Int} {w:World}
section
open Go.RowKit
def yhm (val:List AV->AV) (rows:List (List AV)):List (List AV):=(List.range rows.length).map fun (k:Nat)=>[i64 ((rows.length:Int) - 1 - (k:Int)),val (rows.getD (rows.length - 1 - k) [])]
theorem yhn (val:List AV->AV) (rows:List (List AV)):(yhm val rows).length=rows.length:=by simp [yhm]
theorem ylk {val:List AV->AV} {el:List AV} (h:(yhm val rows)[k]?=some el):k < rows.length/\∃ row,rows[rows.length - 1 - k]?=some row/\el=[i64 ((rows.length:Int) - 1 - k),val row]:=by
 have hk:k < rows.length:=by have:=(qaa.1 h).1;rwa [yhn] at this
 obtain ⟨row,hrow⟩:∃ row,rows[rows.length - 1 - k]?=some row:=⟨_,qae om⟩;refine ⟨hk,row,hrow,?_⟩;simp only [yhm,qah,qbw hk,qar,Option.some.injEq,qad,hrow,qcp] at h;exact h.symm
theorem ycw {a:Act} (h:d < a.tmps.size):(a.put (some d) u).eval (.tmp d)=u:=by
 simp [Act.put,Act.eval,Array.getD,h]
theorem yff {a:Act} (h:x≠d):(a.put (some d) u).eval (.tmp x)=a.eval (.tmp x):=by
 simp only [Act.put,Act.eval,qaw,qbz];rw [if_neg om]
theorem yfz {a:Act} {v:Value}:a.eval (.const v)=v:=rfl
theorem yhk {a:Act}:(a.put (some d) u).tmps.size=a.tmps.size:=by simp [Act.put]
theorem yef {a:Act} {d:Option Nat}:(a.put d u).defers=a.defers:=by cases d <;> rfl
theorem yhs {ops:Array Oper} {Q:Exit->Act->World->Prop} {a:Act} {i:Nat} {rest:List Nat} {o:Oper} (u:Value) (hlt:d < a.tmps.size) (ho:ops[i]?=some o) (hdst:o.dst=some d) (hg:o.guard=none) (hd:yni o.op=false) (hr:(execOp a.eval o).run P w=.ok (.value u) w) (k:∀ a':Act,a'.tmps.size=a.tmps.size->a'.defers=a.defers->a'.eval (.tmp d)=u->(∀ x,x≠d->a'.eval (.tmp x)=a.eval (.tmp x))->wpOpsIn Fence.wide n P ops Q rest a' w):wpOpsIn Fence.wide n P ops Q (i::rest) a w:=
 opI u ho hg hd hr (by rw [hdst];exact k _ yhk yef (ycw hlt) fun x hx=>yff hx)
theorem zcc {ok:Nat->Prop} {lv:Live} {a:AV} {cs:List Value} (h:ybm ok w lv [a] cs):∃ u,cs=[u]/\Rel ok w lv a u:=by
 match cs,h.1 with
 | [u],_=>exact ⟨u,rfl,h.2 0 _ _ rfl rfl⟩
theorem yzo {ok:Nat->Prop} {lv:Live} {size:Nat} {v:Value} (h:Rel ok w lv (.sl size rows) v):∃ ad cap,v=.slice ad rows.length cap/\∀ (i:Nat) (row:List AV),rows[i]?=some row->∃ g q,ad=some ⟨g,q,none⟩/\ok g/\ync ok w (fun _=>none) g (q+i * size) row:=by
 cases h with
 | sl ad cap u g q hn hc ha hsz hg hcell hrel=>
  refine ⟨ad,cap,rfl,fun i row hrow=>?_⟩;obtain ⟨rfl,hok⟩:=hg (by intro h;simp [h] at hrow);exact ⟨g,q,rfl,hok,fun j x hx=>⟨(hcell i j row x hrow hx).2,_,(hcell i j row x hrow hx).1,hrel i j row x hrow hx⟩⟩
theorem backO_iter (rows:List (List AV)) (val:List AV->AV) (hval:∀ row∈rows,zsh false 1 row=some (val row)):zcs prog 182 [.dp [.sl 1 rows] 0] (yhm val rows):=by
 refine ⟨⟨_,Tryz.func182,rfl,rfl⟩,fun l ok W us J X hok hcaps hJ hJg hXg hround h0=>?_⟩;obtain ⟨pv,rfl,hp⟩:=zcc hcaps;obtain ⟨pg,po,hpv,hpok,hpc⟩:=ylm hp;rw [qdi] at hpv;subst hpv;obtain ⟨_,sv,hsv,hsr⟩:=hpc 0 (.sl 1 rows) rfl;obtain ⟨ad,cap,rfl,hrows⟩:=yzo hsr;rw [qdi] at hsv;have hcell:∀ {k W'},J k W'->W'.cell? ⟨pg,po,none⟩=some (.slice ad rows.length cap):=fun hj=>(World.cell?_of_block (w:=W) ((hJ _ _ hj).2 pg hpok)).trans hsv;have hload:∀ {W':World},W'.cell? ⟨pg,po,none⟩=some (.slice ad rows.length cap)->(loadVar 100 ⟨pg,po,none⟩).run prog W'=.ok (.slice ad rows.length cap) W':=by
  intro W' hc;obtain ⟨u,h1,h2⟩:=yjl (P:=prog) (ok:=fun _=>True) (w:=W') (lv:=fun _=>none) (g:=pg) (o:=po) (xs:=[.v (.slice ad rows.length cap)]) (t:=100) (s:=1) (ag:=false) (r:=.v (.slice ad rows.length cap)) (tok _ _ (show TT 100=some _ from rfl)).1 (fun j x hx=>by
   match j with
   | 0=>simp only [qat,Option.some.injEq] at hx;subst hx;exact ⟨rfl,_,hc,.v _⟩
   | j+1=>simp at hx) rfl
  cases h2;exact h1
 have hkind:=(tok _ _ (show TT 100=some _ from rfl)).2.2;refine callsIn_of_wp Tryz.func182 rfl trivial ?_;rw [ntmps182];refine wpIn_seq (wpIn_region ?_);rw [show (#[Value.func (.yield l) #[] #[]]++[Value.pointer (some ⟨pg,po,none⟩)].toArray:Array Value)=[Value.func (.yield l) #[] #[],Value.pointer (some ⟨pg,po,none⟩)].toArray by simp];generalize ha:({ tmps:=[Value.func (.yield l) #[] #[],Value.pointer (some ⟨pg,po,none⟩)].toArray++Array.replicate (19 - [Value.func (.yield l) #[] #[],Value.pointer (some ⟨pg,po,none⟩)].toArray.size) undef,defers:=[] }:Act)=a0;have hs0:a0.tmps.size=19:=by rw [<- ha];simp only [qgu,qgi,qcx,qaj,qeb]
 have e0:a0.eval (.tmp 0)=.func (.yield l) #[] #[]:=by rw [<- ha];simp only [Act.eval];exact yej [Value.func (.yield l) #[] #[],Value.pointer (some ⟨pg,po,none⟩)] _ 0 _ rfl
 have e1:a0.eval (.tmp 1)=.pointer (some ⟨pg,po,none⟩):=by rw [<- ha];simp only [Act.eval];exact yej [Value.func (.yield l) #[] #[],Value.pointer (some ⟨pg,po,none⟩)] _ 1 _ rfl
 have hd0:a0.defers=[]:=by rw [<- ha]
 clear ha;refine yhs (d:=4) (.slice ad rows.length cap) om rfl rfl rfl rfl (by simp [execOp,e1,Instr.loadAt,Instr.sureAddr,hload (hcell h0)]) fun a1 s1 d1 q1 n1=>?_;refine yhs (d:=5) (.int .i64 rows.length) om rfl rfl rfl rfl (by simp [execOp,resolve,invoke,builtin,Builtin.len_,q1,run_underlying hkind.1,goInt]) fun a2 s2 d2 q2 n2=>?_;have hcap:rows.length<=9223372036854775807:=by
  cases hsr with
  | sl ad cap u g q hn hc=>unfold maxLen at hc;omega
 refine yhs (d:=6) (.int .i64 ((rows.length:Int) - 1)) om rfl rfl rfl rfl (by simp [execOp,q2,yfz,eqGuard,binOp,Op.intArith,IntWalk.i64_in ((rows.length:Int) - 1) om]) fun a3 s3 d3 q3 n3=>?_;refine yhs (d:=3) (.int .i64 ((rows.length:Int) - 1)) om rfl rfl rfl rfl (by simp [execOp,q3]) fun a4 s4 d4 q4 n4=>?_;refine wpIn_block (wpIn_loop (fun a w=>∃ k,k<=rows.length/\J k w/\a.tmps.size=19/\a.defers=[]/\a.eval (.tmp 0)=.func (.yield l) #[] #[]/\a.eval (.tmp 1)=.pointer (some ⟨pg,po,none⟩)/\a.eval (.tmp 3)=.int .i64 ((rows.length:Int) - 1 - k)) (fun a w=>(intOf (a.eval (.tmp 3))+1).toNat) ⟨0,om,h0,om,by rw [d4,d3,d2,d1,hd0],by rw [n4 0 sm,n3 0 sm,n2 0 sm,n1 0 sm,e0],by rw [n4 1 sm,n3 1 sm,n2 1 sm,n1 1 sm,e1],by rw [q4];simp⟩ ?_);clear e0 e1 hs0 hd0 s1 d1 q1 n1 s2 d2 q2 n2 s3 d3 q3 n3 s4 d4 q4 n4 a0 a1 a2 a3 a4;rintro a0 w ⟨k,hk,hj,hs0,hd0,e0,e1,e3⟩;refine wpIn_seq (wpIn_seq (wpIn_region ?_));refine yhs (d:=7) _ om rfl rfl rfl rfl (by simp [execOp,e3];rfl) fun a1 s1 d1 q1 n1=>?_;refine yhs (d:=8) (.bool (decide (0<=(rows.length:Int) - 1 - k))) om rfl rfl rfl rfl (by simp [execOp,q1,yfz,eqGuard,binOp,Op.intCmp]) fun a2 s2 d2 q2 n2=>?_;refine wpIn_cond_split q2 (fun hb=>?_) (fun hb=>?_)
 .simp only [decide_eq_true_eq] at hb;refine wpIn_skip ?_;have hcl:=hcell hj;obtain ⟨i,hi⟩:∃ i:Nat,(rows.length:Int) - 1 - k=i:=⟨rows.length - 1 - k,om⟩;have hik:i=rows.length - 1 - k:=by omega
  obtain ⟨row,hrow⟩:∃ row,rows[i]?=some row:=⟨_,qae om⟩;obtain ⟨g,q,rfl,hgok,hcells⟩:=hrows i row hrow;have hcells':ync ok w (fun _=>none) g (q+i * 1) row:=fun j x hx=>by
   obtain ⟨c1,u,c2,c3⟩:=hcells j x hx;exact ⟨c1,u,(World.cell?_of_block (w:=W) ((hJ _ _ hj).2 g hgok)).trans c2,c3.keep fun g' hg'=>⟨hg',(hJ _ _ hj).2 g' hg'⟩⟩
  obtain ⟨uv,hu1,hu2⟩:=yjl (P:=prog) (tok _ _ (show TT 103=some _ from rfl)).1 hcells' (hval row (qab hrow));refine wpIn_seq (wpIn_block (wpIn_seq (wpIn_region ?_)));refine yhs (d:=11) (.func (.yield l) #[] #[]) om rfl rfl rfl rfl (by simp [execOp,n2,n1,e0]) fun a3 s3 d3 q3 n3=>?_;refine yhs (d:=12) (.int .i64 i) om rfl rfl rfl rfl (by simp [execOp,n3,n2,n1,e3,hi]) fun a4 s4 d4 q4 n4=>?_;refine yhs (d:=13) (.slice (some ⟨g,q,none⟩) rows.length cap) om rfl rfl rfl rfl (by simp [execOp,n4,n3,n2,n1,e1,Instr.loadAt,Instr.sureAddr,hload hcl]) fun a5 s5 d5 q5 n5=>?_;refine yhs (d:=14) (.int .i64 i) om rfl rfl rfl rfl (by simp [execOp,n5,n4,n3,n2,n1,e3,hi]) fun a6 s6 d6 q6 n6=>?_;obtain ⟨z,hz⟩:∃ z,q+i * 1=z:=⟨_,rfl⟩;rw [hz] at hu1;refine yhs (d:=15) (.pointer (some ⟨g,z,none⟩)) om rfl rfl rfl rfl (by
   have hrun:=yqs (P:=prog) (w:=w) (cap:=cap) (k:=.i64) hkind.1 hkind.2.1 g q rfl (i:=(i:Int)) (len:=rows.length) om om
   simp only [qct,hz] at hrun
   simp [execOp,n6,q5,q6,hrun]) fun a7 s7 d7 q7 n7=>?_
  refine yhs (d:=16) uv om rfl rfl rfl rfl (by simp [execOp,q7,Instr.loadAt,Instr.sureAddr,hu1]) fun a8 s8 d8 q8 n8=>?_;have hel:(yhm val rows)[k]?=some [i64 ((rows.length:Int) - 1 - k),val row]:=by
   have hkl:k < (yhm val rows).length:=by rw [yhn];omega
   obtain ⟨el,hel⟩:∃ el,(yhm val rows)[k]?=some el:=⟨_,qae hkl⟩;obtain ⟨_,row',hr',rfl⟩:=ylk hel;rw [<- hik,hrow] at hr';cases hr';exact hel
  have hy:=hround k _ [.int .i64 i,uv] w hel hj ⟨rfl,fun j x u hx hu=>by
   match j with
   | 0=>simp only [qat,Option.some.injEq] at hx hu;subst hx hu;rw [hi];exact .v _
   | 1=>simp only [qce,qat,Option.some.injEq] at hx hu;subst hx hu;exact hu2
   | j+2=>simp at hx⟩
  refine zfc (g:=.tmp 11) (args:=#[.tmp 12,.tmp 16]) rfl rfl rfl (by rw [n8 11 sm,n7 11 sm,n6 11 sm,n5 11 sm,n4 11 sm,q3]) (R:=fun e W'=>(e=.returned (.bool true)/\J (k+1) W')\/(e=.returned (.bool false)/\X W')) (by
   have e12:a8.eval (.tmp 12)=.int .i64 i:=by rw [n8 12 sm,n7 12 sm,n6 12 sm,n5 12 sm,q4]
   simpa [e12,q8] using hy) fun e w' hR=>?_
  have e0':a8.eval (.tmp 0)=.func (.yield l) #[] #[]:=by rw [n8 0 sm,n7 0 sm,n6 0 sm,n5 0 sm,n4 0 sm,n3 0 sm,n2 0 sm,n1 0 sm,e0]
  have e1':a8.eval (.tmp 1)=.pointer (some ⟨pg,po,none⟩):=by rw [n8 1 sm,n7 1 sm,n6 1 sm,n5 1 sm,n4 1 sm,n3 1 sm,n2 1 sm,n1 1 sm,e1]
  have e3':a8.eval (.tmp 3)=.int .i64 ((rows.length:Int) - 1 - k):=by rw [n8 3 sm,n7 3 sm,n6 3 sm,n5 3 sm,n4 3 sm,n3 3 sm,n2 3 sm,n1 3 sm,e3]
  have hd8:a8.defers=[]:=by rw [d8,d7,d6,d5,d4,d3,d2,d1,hd0]
  have hs8:a8.tmps.size=19:=by omega
  rcases hR with ⟨rfl,hj1⟩|⟨rfl,hx⟩
  .refine ⟨_,rfl,?_⟩;show wpOpsIn _ _ _ _ _ _ (a8.put (some 17) (.bool true)) w';have s9:(a8.put (some 17) (.bool true)).tmps.size=19:=by rw [yhk,hs8]
   have d9:(a8.put (some 17) (.bool true)).defers=[]:=by rw [yef,hd8]
   have q9:(a8.put (some 17) (.bool true)).eval (.tmp 17)=.bool true:=ycw om;have n9:∀ x,x≠17->(a8.put (some 17) (.bool true)).eval (.tmp x)=a8.eval (.tmp x):=fun x hx=>yff hx;generalize a8.put (some 17) (.bool true)=a9 at s9 d9 q9 n9 ⊢;refine yhs (d:=18) (.bool false) om rfl rfl rfl rfl (by simp [execOp,q9,Op.unary]) fun a10 s10 d10 q10 n10=>?_;refine wpIn_cond_false q10 (wpIn_skip ?_);refine wpIn_region ?_;refine yhs (d:=9) _ om rfl rfl rfl rfl (by simp [execOp,n10,n9,e3'];rfl) fun a11 s11 d11 q11 n11=>?_;refine yhs (d:=10) (.int .i64 ((rows.length:Int) - 1 - k - 1)) om rfl rfl rfl rfl (by simp [execOp,q11,yfz,eqGuard,binOp,Op.intArith,IntWalk.i64_in ((rows.length:Int) - 1 - k - 1) om]) fun a12 s12 d12 q12 n12=>?_;refine yhs (d:=3) (.int .i64 ((rows.length:Int) - 1 - k - 1)) om rfl rfl rfl rfl (by simp [execOp,q12]) fun a13 s13 d13 q13 n13=>?_;refine ⟨⟨k+1,om,hj1,om,by rw [d13,d12,d11,d10,d9],by rw [n13 0 sm,n12 0 sm,n11 0 sm,n10 0 sm,n9 0 sm,e0'],by rw [n13 1 sm,n12 1 sm,n11 1 sm,n10 1 sm,n9 1 sm,e1'],by rw [q13];congr 1;omega⟩,?_⟩;rw [q13,e3];simp only [intOf];omega
  refine ⟨_,rfl,?_⟩;show wpOpsIn _ _ _ _ _ _ (a8.put (some 17) (.bool false)) w';have s9:(a8.put (some 17) (.bool false)).tmps.size=19:=by rw [yhk,hs8]
  have d9:(a8.put (some 17) (.bool false)).defers=[]:=by rw [yef,hd8]
  have q9:(a8.put (some 17) (.bool false)).eval (.tmp 17)=.bool false:=ycw om;generalize a8.put (some 17) (.bool false)=a9 at s9 d9 q9 ⊢;refine yhs (d:=18) (.bool true) om rfl rfl rfl rfl (by simp [execOp,q9,Op.unary]) fun a10 s10 d10 q10 n10=>?_;refine wpIn_cond_true q10 (wpIn_ret ?_);refine ⟨?_,.tuple #[],?_,⟨_,rfl⟩,.inr hx⟩
  .show a10.defers=[];rw [d10,d9]
  simp [results,Tryz.results182]
 simp only [decide_eq_false_iff_not] at hb;obtain rfl:k=rows.length:=by omega
 refine wpIn_exit ?_;refine ⟨?_,.tuple #[],?_,⟨_,rfl⟩,.inl ?_⟩
 .show a2.defers=[];rw [d2,d1,hd0]
 .simp [results,Tryz.results182]
 rw [yhn];exact hj
theorem backI_iter (rows:List (List AV)) (val:List AV->AV) (hval:∀ row∈rows,zsh true 2 row=some (val row)):zcs prog 183 [.dp [.sl 2 rows] 0] (yhm val rows):=by
 refine ⟨⟨_,Tryz.func183,rfl,rfl⟩,fun l ok W us J X hok hcaps hJ hJg hXg hround h0=>?_⟩;obtain ⟨pv,rfl,hp⟩:=zcc hcaps;obtain ⟨pg,po,hpv,hpok,hpc⟩:=ylm hp;rw [qdi] at hpv;subst hpv;obtain ⟨_,sv,hsv,hsr⟩:=hpc 0 (.sl 2 rows) rfl;obtain ⟨ad,cap,rfl,hrows⟩:=yzo hsr;rw [qdi] at hsv;have hcell:∀ {k W'},J k W'->W'.cell? ⟨pg,po,none⟩=some (.slice ad rows.length cap):=fun hj=>(World.cell?_of_block (w:=W) ((hJ _ _ hj).2 pg hpok)).trans hsv;have hload:∀ {W':World},W'.cell? ⟨pg,po,none⟩=some (.slice ad rows.length cap)->(loadVar 103 ⟨pg,po,none⟩).run prog W'=.ok (.slice ad rows.length cap) W':=by
  intro W' hc;obtain ⟨u,h1,h2⟩:=yjl (P:=prog) (ok:=fun _=>True) (w:=W') (lv:=fun _=>none) (g:=pg) (o:=po) (xs:=[.v (.slice ad rows.length cap)]) (t:=103) (s:=1) (ag:=false) (r:=.v (.slice ad rows.length cap)) (tok _ _ (show TT 103=some _ from rfl)).1 (fun j x hx=>by
   match j with
   | 0=>simp only [qat,Option.some.injEq] at hx;subst hx;exact ⟨rfl,_,hc,.v _⟩
   | j+1=>simp at hx) rfl
  cases h2;exact h1
 have hkind:=(tok _ _ (show TT 103=some _ from rfl)).2.2;refine callsIn_of_wp Tryz.func183 rfl trivial ?_;rw [ntmps183];refine wpIn_seq (wpIn_region ?_);rw [show (#[Value.func (.yield l) #[] #[]]++[Value.pointer (some ⟨pg,po,none⟩)].toArray:Array Value)=[Value.func (.yield l) #[] #[],Value.pointer (some ⟨pg,po,none⟩)].toArray by simp];generalize ha:({ tmps:=[Value.func (.yield l) #[] #[],Value.pointer (some ⟨pg,po,none⟩)].toArray++Array.replicate (19 - [Value.func (.yield l) #[] #[],Value.pointer (some ⟨pg,po,none⟩)].toArray.size) undef,defers:=[] }:Act)=a0;have hs0:a0.tmps.size=19:=by rw [<- ha];simp only [qgu,qgi,qcx,qaj,qeb]
 have e0:a0.eval (.tmp 0)=.func (.yield l) #[] #[]:=by rw [<- ha];simp only [Act.eval];exact yej [Value.func (.yield l) #[] #[],Value.pointer (some ⟨pg,po,none⟩)] _ 0 _ rfl
 have e1:a0.eval (.tmp 1)=.pointer (some ⟨pg,po,none⟩):=by rw [<- ha];simp only [Act.eval];exact yej [Value.func (.yield l) #[] #[],Value.pointer (some ⟨pg,po,none⟩)] _ 1 _ rfl
 have hd0:a0.defers=[]:=by rw [<- ha]
 clear ha;refine yhs (d:=4) (.slice ad rows.length cap) om rfl rfl rfl rfl (by simp [execOp,e1,Instr.loadAt,Instr.sureAddr,hload (hcell h0)]) fun a1 s1 d1 q1 n1=>?_;refine yhs (d:=5) (.int .i64 rows.length) om rfl rfl rfl rfl (by simp [execOp,resolve,invoke,builtin,Builtin.len_,q1,run_underlying hkind.1,goInt]) fun a2 s2 d2 q2 n2=>?_;have hcap:rows.length<=9223372036854775807:=by
  cases hsr with
  | sl ad cap u g q hn hc=>unfold maxLen at hc;omega
 refine yhs (d:=6) (.int .i64 ((rows.length:Int) - 1)) om rfl rfl rfl rfl (by simp [execOp,q2,yfz,eqGuard,binOp,Op.intArith,IntWalk.i64_in ((rows.length:Int) - 1) om]) fun a3 s3 d3 q3 n3=>?_;refine yhs (d:=3) (.int .i64 ((rows.length:Int) - 1)) om rfl rfl rfl rfl (by simp [execOp,q3]) fun a4 s4 d4 q4 n4=>?_;refine wpIn_block (wpIn_loop (fun a w=>∃ k,k<=rows.length/\J k w/\a.tmps.size=19/\a.defers=[]/\a.eval (.tmp 0)=.func (.yield l) #[] #[]/\a.eval (.tmp 1)=.pointer (some ⟨pg,po,none⟩)/\a.eval (.tmp 3)=.int .i64 ((rows.length:Int) - 1 - k)) (fun a w=>(intOf (a.eval (.tmp 3))+1).toNat) ⟨0,om,h0,om,by rw [d4,d3,d2,d1,hd0],by rw [n4 0 sm,n3 0 sm,n2 0 sm,n1 0 sm,e0],by rw [n4 1 sm,n3 1 sm,n2 1 sm,n1 1 sm,e1],by rw [q4];simp⟩ ?_);clear e0 e1 hs0 hd0 s1 d1 q1 n1 s2 d2 q2 n2 s3 d3 q3 n3 s4 d4 q4 n4 a0 a1 a2 a3 a4;rintro a0 w ⟨k,hk,hj,hs0,hd0,e0,e1,e3⟩;refine wpIn_seq (wpIn_seq (wpIn_region ?_));refine yhs (d:=7) _ om rfl rfl rfl rfl (by simp [execOp,e3];rfl) fun a1 s1 d1 q1 n1=>?_;refine yhs (d:=8) (.bool (decide (0<=(rows.length:Int) - 1 - k))) om rfl rfl rfl rfl (by simp [execOp,q1,yfz,eqGuard,binOp,Op.intCmp]) fun a2 s2 d2 q2 n2=>?_;refine wpIn_cond_split q2 (fun hb=>?_) (fun hb=>?_)
 .simp only [decide_eq_true_eq] at hb;refine wpIn_skip ?_;have hcl:=hcell hj;obtain ⟨i,hi⟩:∃ i:Nat,(rows.length:Int) - 1 - k=i:=⟨rows.length - 1 - k,om⟩;have hik:i=rows.length - 1 - k:=by omega
  obtain ⟨row,hrow⟩:∃ row,rows[i]?=some row:=⟨_,qae om⟩;obtain ⟨g,q,rfl,hgok,hcells⟩:=hrows i row hrow;have hcells':ync ok w (fun _=>none) g (q+i * 2) row:=fun j x hx=>by
   obtain ⟨c1,u,c2,c3⟩:=hcells j x hx;exact ⟨c1,u,(World.cell?_of_block (w:=W) ((hJ _ _ hj).2 g hgok)).trans c2,c3.keep fun g' hg'=>⟨hg',(hJ _ _ hj).2 g' hg'⟩⟩
  obtain ⟨uv,hu1,hu2⟩:=yjl (P:=prog) (tok _ _ (show TT 104=some _ from rfl)).1 hcells' (hval row (qab hrow));refine wpIn_seq (wpIn_block (wpIn_seq (wpIn_region ?_)));refine yhs (d:=11) (.func (.yield l) #[] #[]) om rfl rfl rfl rfl (by simp [execOp,n2,n1,e0]) fun a3 s3 d3 q3 n3=>?_;refine yhs (d:=12) (.int .i64 i) om rfl rfl rfl rfl (by simp [execOp,n3,n2,n1,e3,hi]) fun a4 s4 d4 q4 n4=>?_;refine yhs (d:=13) (.slice (some ⟨g,q,none⟩) rows.length cap) om rfl rfl rfl rfl (by simp [execOp,n4,n3,n2,n1,e1,Instr.loadAt,Instr.sureAddr,hload hcl]) fun a5 s5 d5 q5 n5=>?_;refine yhs (d:=14) (.int .i64 i) om rfl rfl rfl rfl (by simp [execOp,n5,n4,n3,n2,n1,e3,hi]) fun a6 s6 d6 q6 n6=>?_;obtain ⟨z,hz⟩:∃ z,q+i * 2=z:=⟨_,rfl⟩;rw [hz] at hu1;refine yhs (d:=15) (.pointer (some ⟨g,z,none⟩)) om rfl rfl rfl rfl (by
   have hrun:=yqs (P:=prog) (w:=w) (cap:=cap) (k:=.i64) hkind.1 hkind.2.1 g q rfl (i:=(i:Int)) (len:=rows.length) om om
   simp only [qct,hz] at hrun
   simp [execOp,n6,q5,q6,hrun]) fun a7 s7 d7 q7 n7=>?_
  refine yhs (d:=16) uv om rfl rfl rfl rfl (by simp [execOp,q7,Instr.loadAt,Instr.sureAddr,hu1]) fun a8 s8 d8 q8 n8=>?_;have hel:(yhm val rows)[k]?=some [i64 ((rows.length:Int) - 1 - k),val row]:=by
   have hkl:k < (yhm val rows).length:=by rw [yhn];omega
   obtain ⟨el,hel⟩:∃ el,(yhm val rows)[k]?=some el:=⟨_,qae hkl⟩;obtain ⟨_,row',hr',rfl⟩:=ylk hel;rw [<- hik,hrow] at hr';cases hr';exact hel
  have hy:=hround k _ [.int .i64 i,uv] w hel hj ⟨rfl,fun j x u hx hu=>by
   match j with
   | 0=>simp only [qat,Option.some.injEq] at hx hu;subst hx hu;rw [hi];exact .v _
   | 1=>simp only [qce,qat,Option.some.injEq] at hx hu;subst hx hu;exact hu2
   | j+2=>simp at hx⟩
  refine zfc (g:=.tmp 11) (args:=#[.tmp 12,.tmp 16]) rfl rfl rfl (by rw [n8 11 sm,n7 11 sm,n6 11 sm,n5 11 sm,n4 11 sm,q3]) (R:=fun e W'=>(e=.returned (.bool true)/\J (k+1) W')\/(e=.returned (.bool false)/\X W')) (by
   have e12:a8.eval (.tmp 12)=.int .i64 i:=by rw [n8 12 sm,n7 12 sm,n6 12 sm,n5 12 sm,q4]
   simpa [e12,q8] using hy) fun e w' hR=>?_
  have e0':a8.eval (.tmp 0)=.func (.yield l) #[] #[]:=by rw [n8 0 sm,n7 0 sm,n6 0 sm,n5 0 sm,n4 0 sm,n3 0 sm,n2 0 sm,n1 0 sm,e0]
  have e1':a8.eval (.tmp 1)=.pointer (some ⟨pg,po,none⟩):=by rw [n8 1 sm,n7 1 sm,n6 1 sm,n5 1 sm,n4 1 sm,n3 1 sm,n2 1 sm,n1 1 sm,e1]
  have e3':a8.eval (.tmp 3)=.int .i64 ((rows.length:Int) - 1 - k):=by rw [n8 3 sm,n7 3 sm,n6 3 sm,n5 3 sm,n4 3 sm,n3 3 sm,n2 3 sm,n1 3 sm,e3]
  have hd8:a8.defers=[]:=by rw [d8,d7,d6,d5,d4,d3,d2,d1,hd0]
  have hs8:a8.tmps.size=19:=by omega
  rcases hR with ⟨rfl,hj1⟩|⟨rfl,hx⟩
  .refine ⟨_,rfl,?_⟩;show wpOpsIn _ _ _ _ _ _ (a8.put (some 17) (.bool true)) w';have s9:(a8.put (some 17) (.bool true)).tmps.size=19:=by rw [yhk,hs8]
   have d9:(a8.put (some 17) (.bool true)).defers=[]:=by rw [yef,hd8]
   have q9:(a8.put (some 17) (.bool true)).eval (.tmp 17)=.bool true:=ycw om;have n9:∀ x,x≠17->(a8.put (some 17) (.bool true)).eval (.tmp x)=a8.eval (.tmp x):=fun x hx=>yff hx;generalize a8.put (some 17) (.bool true)=a9 at s9 d9 q9 n9 ⊢;refine yhs (d:=18) (.bool false) om rfl rfl rfl rfl (by simp [execOp,q9,Op.unary]) fun a10 s10 d10 q10 n10=>?_;refine wpIn_cond_false q10 (wpIn_skip ?_);refine wpIn_region ?_;refine yhs (d:=9) _ om rfl rfl rfl rfl (by simp [execOp,n10,n9,e3'];rfl) fun a11 s11 d11 q11 n11=>?_;refine yhs (d:=10) (.int .i64 ((rows.length:Int) - 1 - k - 1)) om rfl rfl rfl rfl (by simp [execOp,q11,yfz,eqGuard,binOp,Op.intArith,IntWalk.i64_in ((rows.length:Int) - 1 - k - 1) om]) fun a12 s12 d12 q12 n12=>?_;refine yhs (d:=3) (.int .i64 ((rows.length:Int) - 1 - k - 1)) om rfl rfl rfl rfl (by simp [execOp,q12]) fun a13 s13 d13 q13 n13=>?_;refine ⟨⟨k+1,om,hj1,om,by rw [d13,d12,d11,d10,d9],by rw [n13 0 sm,n12 0 sm,n11 0 sm,n10 0 sm,n9 0 sm,e0'],by rw [n13 1 sm,n12 1 sm,n11 1 sm,n10 1 sm,n9 1 sm,e1'],by rw [q13];congr 1;omega⟩,?_⟩;rw [q13,e3];simp only [intOf];omega
  refine ⟨_,rfl,?_⟩;show wpOpsIn _ _ _ _ _ _ (a8.put (some 17) (.bool false)) w';have s9:(a8.put (some 17) (.bool false)).tmps.size=19:=by rw [yhk,hs8]
  have d9:(a8.put (some 17) (.bool false)).defers=[]:=by rw [yef,hd8]
  have q9:(a8.put (some 17) (.bool false)).eval (.tmp 17)=.bool false:=ycw om;generalize a8.put (some 17) (.bool false)=a9 at s9 d9 q9 ⊢;refine yhs (d:=18) (.bool true) om rfl rfl rfl rfl (by simp [execOp,q9,Op.unary]) fun a10 s10 d10 q10 n10=>?_;refine wpIn_cond_true q10 (wpIn_ret ?_);refine ⟨?_,.tuple #[],?_,⟨_,rfl⟩,.inr hx⟩
  .show a10.defers=[];rw [d10,d9]
  simp [results,Tryz.results183]
 simp only [decide_eq_false_iff_not] at hb;obtain rfl:k=rows.length:=by omega
 refine wpIn_exit ?_;refine ⟨?_,.tuple #[],?_,⟨_,rfl⟩,.inl ?_⟩
 .show a2.defers=[];rw [d2,d1,hd0]
 .simp [results,Tryz.results183]
 rw [yhn];exact hj
end
set_option maxHeartbeats 8000000
section
open Go.RowKit
theorem backO_con (rows:List (List AV)):Con prog 127 [.sl 1 rows] (.fn 182 [.dp [.sl 1 rows] 0]):=by
 refine ze Tryz.func127 ntmps127 Tryz.results127 ?_;refine zk ?_;exact Frz.fn1 (Frz.box rfl rfl)
theorem backI_con (rows:List (List AV)):Con prog 128 [.sl 2 rows] (.fn 183 [.dp [.sl 2 rows] 0]):=by
 refine ze Tryz.func128 ntmps128 Tryz.results128 ?_;refine zk ?_;exact Frz.fn1 (Frz.box rfl rfl)
def yxq (tbl:List (List (Int × Int))):List (List Int):=tbl.map fun r=>r.map (·.1)
def xjt (tbl:List (List (Int × Int))) (i j:Nat):Int:=((tbl.getD i []).getD j (0,0)).1
theorem least1_con (tbl:List (List (Int × Int))) (i j:Nat) (r:List (Int × Int)) (hr:tbl[i]?=some r) (hj:j < r.length):Con prog 122 [i64 i,i64 j,.dp [ydl tbl] 0] (i64 (xjt tbl i j)):=by
 obtain ⟨q,hq⟩:=ybr hj;refine ze Tryz.func122 ntmps122 Tryz.results122 ?_;refine zk ?_;exact yaf (by simp [xjt,hr,hq])
theorem built_low (tbl:List (List (Int × Int))):ykh tbl (xjt tbl)=yfq (yxq tbl):=by
 apply qdm;intro i;simp only [yfq,yxq,qex,qah];cases hr:tbl[i]? with
 | none=>simp [ykh,hr]
 | some r=>
  rw [zhk hr];simp only [qar,Option.some.injEq,Function.comp];apply qdm;intro j;simp only [qah];by_cases hj:j < r.length
  .obtain ⟨q,hq⟩:=ybr hj;rw [qbw hj,hq];simp [xjt,hr,hq]
  rw [qcj (by simpa using hj),qcj om];rfl
def pairC (q:List (List Int) × Int):AV:=.tup [yds q.1,i64 q.2]
theorem yum {f:List (Nat × Option LObj)} {M:Nat} (hf:zld f=true) (hM:Nat.blt M 1000000=true) (hk:(f.all fun x=>!Nat.beq x.1 M)=true) (hn:n=c.length) (hr:rows=yfq c):Frz (yac (f++ybs M 1 rows [])) (.ls M 1 n) (yds c):=by
 subst hn hr;have:=Frz.mat (f:=f) (M:=M) (sz:=1) (rows:=yfq c) (els:=c.map fun r=>r.map fun x=>[i64 x]) hf hM hk om (by intro r hr e he;obtain ⟨r0,_,rfl⟩:=qag.1 hr;obtain ⟨q,_,rfl⟩:=qag.1 he;rfl) (n:=c.length) sm (by simp only [yfq,qex];congr 1;funext r;exact (ydj r).symm);simpa [yds,yah,Function.comp_def] using this
end
section
open Go.RowKit
def rgW (b:Int × Int):Int:=b.2 - b.1+1
def ydq (k:Int):List (Int × Int)->List Int × Int
 | []=>([],k)
 | b::r=>((b.1+(ydq k r).2.tmod (rgW b))::(ydq k r).1,(ydq k r).2.tdiv (rgW b))
def yil (k:Int):List (List (Int × Int))->List (List Int) × Int
 | []=>([],k)
 | r::t=>((ydq (yil k t).2 r).1::(yil k t).1,(ydq (yil k t).2 r).2)
theorem zre (k:Int):∀ r,(ydq k r).1.length=r.length
 | []=>rfl
 | b::r=>by simp [ydq,zre k r]
theorem yxl (k:Int):∀ t,(yil k t).1.length=t.length
 | []=>rfl
 | r::t=>by simp [yil,yxl k t]
theorem xee {k w:Int} (h0:0<=k) (hw:1<=w):0<=k.tdiv w/\k.tdiv w<=k:=by
 rw [Int.tdiv_eq_ediv_of_nonneg h0];exact ⟨Int.ediv_nonneg h0 om,Int.ediv_le_self w h0⟩
theorem xef {k w:Int} (h0:0<=k) (hw:1<=w):0<=k.tmod w/\k.tmod w < w:=by
 rw [Int.tmod_eq_emod_of_nonneg h0];exact ⟨Int.emod_nonneg k om,Int.emod_lt_of_pos k om⟩
theorem yxk {k:Int} (h0:0<=k):∀ r:List (Int × Int),(∀ b∈r,yua b)->0<=(ydq k r).2/\(ydq k r).2<=k
 | [],_=>⟨h0,qgz _⟩
 | b::r,h=>by
  have ih:=yxk h0 r fun x hx=>h x (by simp [hx]);have hb:=h b sm;have:=xee (w:=rgW b) ih.1 (by unfold rgW;have:=hb.2.1;omega);simp only [ydq];omega
theorem zmn {k:Int} (h0:0<=k):∀ t:List (List (Int × Int)),(∀ r∈t,∀ b∈r,yua b)->0<=(yil k t).2/\(yil k t).2<=k
 | [],_=>⟨h0,qgz _⟩
 | r::t,h=>by
  have ih:=zmn h0 t fun x hx=>h x (by simp [hx]);have:=yxk ih.1 r (h r sm);simp only [yil];omega
theorem yjr {l:List α} {b:α} (h:l[x]?=some b):l.drop x=b::l.drop (x+1):=by
 rw [qby (qaa.1 h).1,(qaa.1 h).2]
def zhd (k:Int) (r:List (Int × Int)) (x:Nat):List Int:=(r.take x).map (·.1)++(ydq k (r.drop x)).1
def zzp (k:Int) (t:List (List (Int × Int))) (v:Nat):List (List Int):=yxq (t.take v)++(yil k (t.drop v)).1
theorem zyo (k:Int) (r:List (Int × Int)):(zhd k r x).length=r.length:=by
 simp [zhd,zre];omega
theorem wayR_set {k:Int} (h:r[x]?=some b):(zhd k r (x+1)).set x (b.1+(ydq k (r.drop (x+1))).2.tmod (rgW b))=zhd k r x:=by
 have hx:=(qaa.1 h).1;unfold zhd;rw [yjr h,yan h,qbu,qbb,qbm _ _ so];simp only [qal,qcf,qfj (Nat.le_of_lt hx),qbn,qcl,qew,qax,qcn,qer,ydq]
theorem way_rest {k:Int} (h:r[x]?=some b):(ydq k (r.drop x)).2=(ydq k (r.drop (x+1))).2.tdiv (rgW b):=by rw [yjr h];rfl
theorem wayR_all (k:Int) (r:List (Int × Int)):zhd k r r.length=r.map (·.1):=by simp [zhd,ydq]
theorem wayR_zero (k:Int) (r:List (Int × Int)):zhd k r 0=(ydq k r).1:=by simp [zhd]
theorem wayT_at {k:Int} (h:t[v]?=some r):(zzp k t (v+1))[v]?=some (r.map (·.1)):=by
 have hx:=(qaa.1 h).1;unfold zzp yxq;rw [qam so,qah,qbc,if_pos om,h];rfl
theorem wayT_set {k:Int} (h:t[v]?=some r):(zzp k t (v+1)).set v (ydq (yil k (t.drop (v+1))).2 r).1=zzp k t v:=by
 have hx:=(qaa.1 h).1;unfold zzp yxq;rw [yjr h,yan h,qbu,qbb,qbm _ _ so];simp only [qal,qcf,qfj (Nat.le_of_lt hx),qbn,qcl,qew,qax,qcn,qer,yil]
theorem wayT_all (k:Int) (t:List (List (Int × Int))):zzp k t t.length=yxq t:=by simp [zzp,yil]
theorem wayT_zero (k:Int) (t:List (List (Int × Int))):zzp k t 0=(yil k t).1:=by simp [zzp,yxq]
theorem wayT_len (k:Int) (t:List (List (Int × Int))):(zzp k t v).length=t.length:=by
 simp [zzp,yxq,yxl];omega
theorem zby (c:List (List Int)) (v:Nat) (row:List Int):yfq (c.set v row)=(yfq c).set v (row.map i64):=by simp [yfq]
theorem zli (c:List (List Int)) (v:Nat):(yfq c)[v]?=(c[v]?).map fun r=>r.map i64:=by simp [yfq]
theorem zxt {l:List α} {x:α} (h:l[k]?=some x):l.set k x=l:=by
 apply qdm;intro i;rw [qcy];split
 .rename_i e;subst e;split
  .exact h.symm
  rename_i hlt;rw [qcj om]
 rfl
theorem zhi {val:List AV->AV} (hp:∀ row∈rows,yar (val row)=true):∀ el∈yhm val rows,el.length=2/\yar.pureL el=true:=by
 intro el hel;obtain ⟨k,hk⟩:=qan hel;obtain ⟨_,row,hrow,rfl⟩:=ylk hk;exact ⟨rfl,by simp [yar.pureL,yar,i64,hp row (qab hrow)]⟩
def unrankM (p:ProgD) (g:GraphD) (k:Int):List (List Int) × Int:=
 if ycn p g=0 then if (yci (yad p g)).2=0 then if 0<=k/\k < (yci (yad p g)).1 then ((yil k (yad p g)).1,0) else ([],2) else ([],(yci (yad p g)).2) else ([],ycn p g)
theorem yvm (tbl:List (List (Int × Int))):(yci tbl).1<=32768:=by
 have:∀ (l:List (Int × Int)) (n m:Int),n<=32768->yhp n l=some m->m<=32768:=by
  intro l;induction l with
  | nil=>intro n m hn h;simp only [yhp,Option.some.injEq] at h;omega
  | cons b l ih=>
   intro n m hn h;simp only [yhp] at h;split at h
   .cases h
   exact ih _ m om h
 unfold yci;cases h:yhp 1 tbl.flatten with
 | none=>simp
 | some n=>exact this _ 1 n om h
end
section
open Go.RowKit
theorem ycg {s:List Int} (h:ycf r s=true):s.length=r.length/\∀ (x:Nat) (b:Int × Int),r[x]?=some b->∃ z,s[x]?=some z/\b.1<=z/\z<=b.2:=by
 simp only [ycf,qac,beq_iff_eq] at h;refine ⟨h.1,fun x b hb=>?_⟩;have hx:=(qaa.1 hb).1;obtain ⟨z,hz⟩:=ybr (show x < s.length by omega);have:=List.all_eq_true.1 h.2 _ (qab (yro hb hz));simp only [zrn,qac,decide_eq_true_eq] at this;exact ⟨z,hz,this⟩
theorem yoz {tbl:List (List (Int × Int))} (h:ybu tbl c=true):c.length=tbl.length/\∀ (v:Nat) (r:List (Int × Int)),tbl[v]?=some r->∃ s,c[v]?=some s/\ycf r s=true:=by
 simp only [ybu,qac,beq_iff_eq] at h;refine ⟨h.1,fun v r hr=>?_⟩;have hx:=(qaa.1 hr).1;obtain ⟨s,hs⟩:=ybr (show v < c.length by omega);exact ⟨s,hs,List.all_eq_true.1 h.2 _ (qab (yro hr hs))⟩
theorem yhv:yib p g c=0<->ycn p g=0/\ybu (yad p g) c=true:=by
 unfold yib;by_cases h:ycn p g=0
 .by_cases h2:ybu (yad p g) c=true
  .simp [h,h2]
  simp [h,h2]
 simp [h]
def yji (p:ProgD) (tbl:List (List (Int × Int))) (v x:Nat) (z:Int):Int:=yiq ((p.vars.getD x default).kind) ((tbl.getD v []).getD x (0,0)).1 ((tbl.getD v []).getD x (0,0)).2 z
theorem yjz (h:(yad p g)[v]?=some r):r.length=p.vars.length:=by
 simp only [yad,qah] at h;cases hg:g.ports[v]? with
 | none=>rw [hg] at h;cases h
 | some ls=>rw [hg] at h;cases h;simp
end
section
open Go.RowKit
def zxc (k:Int) (q:(Int × Int) × Int):Int:=k * rgW q.1+q.2 - q.1.1
def yce (k:Int) (r:List (Int × Int)) (s:List Int):Int:=(r.zip s).foldl zxc k
def ydc (t:List (List (Int × Int))) (c:List (List Int)):Int:=(t.zip c).foldl (fun k q=>yce k q.1 q.2) 0
theorem yym {n q:Int} {a b:List (Int × Int)} (h:yhp n (a++b)=some q):∃ m,yhp n a=some m/\yhp m b=some q:=by
 rw [yjj] at h;cases ha:yhp n a with
 | none=>rw [ha] at h;cases h
 | some m=>rw [ha] at h;exact ⟨m,rfl,h⟩
theorem cntL_one {n q:Int} (h:yhp n [b]=some q):q=n * rgW b/\q<=32768:=by
 simp only [yhp] at h;split at h
 .cases h
 simp only [Option.some.injEq] at h;unfold rgW;omega
theorem rank_bd {k m w d:Int} (h0:0<=k) (h1:k < m) (hd0:0<=d) (hd:d < w) (hw:w<=1000002) (hm:m<=32768):0<=k * w/\k * w<=32768 * 1000002/\k * w+d < m * w:=by
 refine ⟨qgs h0 om,qge om hw om om,?_⟩;have h2:(k+1) * w<=m * w:=qco om om;rw [qev,qen] at h2;omega
theorem ylo {tbl:List (List (Int × Int))} (h:(yci tbl).2=0):∃ q,yhp 1 tbl.flatten=some q/\yci tbl=(q,0):=by
 unfold yci at h ⊢;cases hc:yhp 1 tbl.flatten with
 | none=>rw [hc] at h;cases h
 | some q=>exact ⟨q,rfl,rfl⟩
def rankM (p:ProgD) (g:GraphD) (c:List (List Int)):Int × Int:=
 if yib p g c=0 then if (yci (yad p g)).2=0 then (ydc (yad p g) c,0) else (0,(yci (yad p g)).2) else (0,yib p g c)
end
section
open Go.RowKit
theorem zga (hr:(yad p g)[v]?=some r) (hb:r[x]?=some b):∃ ls y,g.ports[v]?=some ls/\p.vars[x]?=some y/\b=yap y g ls.length:=by
 simp only [yad,qah] at hr;cases hg:g.ports[v]? with
 | none=>rw [hg] at hr;cases hr
 | some ls=>
  rw [hg] at hr;cases hr;simp only [qah] at hb;cases hy:p.vars[x]? with
  | none=>rw [hy] at hb;cases hb
  | some y=>rw [hy] at hb;cases hb;exact ⟨ls,y,rfl,rfl,rfl⟩
theorem yxh (p:ProgD) (g:GraphD) (hf:Fair p g) (h0:ycn p g=0) (v x:Nat) (r:List (Int × Int)) (b:Int × Int) (hr:(yad p g)[v]?=some r) (hb:r[x]?=some b):Con prog 84 [yhb p,yfm g,i64 v,i64 x] (xii b):=by
 obtain ⟨ls,y,h1,h2,rfl⟩:=zga hr hb;obtain ⟨hc0,hg,hfit⟩:=ycv.1 h0;have hll:=hf.glen.2.2 ls (qab h1);exact zbo p g v x ls y ((ycp hc0).2.2.2 y (qab h2)) hg om (by simpa using h1) om om (by simpa using h2)
theorem tbring_con (p:ProgD) (g:GraphD) (hf:Fair p g) (h0:ycn p g=0) (v x value:Int) (hv:0<=v) (hx:0<=x) (r:List (Int × Int)) (b:Int × Int) (hr:(yad p g)[v.toNat]?=some r) (hb:r[x.toNat]?=some b):Con prog 176 [yhb p,yfm g,i64 v,i64 x,i64 value] (i64 (yji p (yad p g) v.toNat x.toNat value)):=by
 obtain ⟨ls,y,h1,h2,rfl⟩:=zga hr hb;obtain ⟨hc0,hg,hfit⟩:=ycv.1 h0;have hll:=hf.glen.2.2 ls (qab h1);have hm:=qab h2;have:=rbring_con p g v x value ls y ((ycp hc0).2.2.2 y hm) hg (hfit y hm) hv h1 hll hx h2;have e:yji p (yad p g) v.toNat x.toNat value=yiq y.kind (yap y g ls.length).1 (yap y g ls.length).2 value:=by
  simp only [yji,qad,hr,h2,qcp,hb]
 rw [e];exact this
def pgF (p:ProgD) (g:GraphD) (i j:Nat):List (Nat × Option LObj):=[(i,some (.cells [ynt p.name,.sl 6 (p.vars.map ybq),.sl 3 (p.rules.map ybg)])),(j,some (.cells [yah g.ids,yat g.ports]))]
theorem yzf (p:ProgD) (g:GraphD) (c:List (List Int)) (hf:Fair p g) (hc:zru c):Con prog 49 [yhb p,yfm g,yds c] (i64 (yib p g c)):=by
 have hcl:=hc.1;have hgl:=hf.glen;have hvl:=hf.vlen;refine ze Tryz.func49 ntmps49 Tryz.results49 ?_
 (repeat (first|refine zy ?_|refine zc (ywy p g hf) ?_))
 refine zj ?_ ?_ <;> intro h
 .refine zk ?_;have:ycn p g≠0:=by simpa using h
  exact yaf (by simp [yib,this])
 have h0:ycn p g=0:=by simpa using h
 have hbad:ybu (yad p g) c=false->(10:Int)=yib p g c:=fun e=>by rw [yib,if_pos h0,if_neg (by simp [e])]
 have htl:(yad p g).length=g.ports.length:=by simp [yad]
 refine zY ?_;refine zj ?_ ?_ <;> intro h1
 .refine zk ?_;have:c.length≠(yad p g).length:=by rw [htl];intro e;simp [e] at h1
  exact yaf (hbad (by simp [ybu,this]))
 have hl:c.length=(yad p g).length:=by simp at h1;omega
 refine zY ?_;refine ybl (α:=Nat) (fun k=>[(8,i64 k),(2,yds c),(3,.lp 3 0),(4,.lp 4 0)]) (fun k=>[(3,some (.cells [ynt p.name,.sl 6 (p.vars.map ybq),.sl 3 (p.rules.map ybg)])),(4,some (.cells [yah g.ids,yat g.ports]))]) (fun k=>c.length - k) (fun k=>k<=c.length/\(((yad p g).zip c).take k).all (fun x=>ycf x.1 x.2)=true) 0 ⟨om,rfl⟩ zs zh ?_;intro k ⟨hk,hok⟩;refine zY ?_;refine zj ?_ ?_ <;> intro h2
 .simp at h2;obtain ⟨s,hs⟩:=ybr h2;obtain ⟨r,hr⟩:=ybr (show k < (yad p g).length by omega);have hz:=yro hr hs;have hrl:=yjz hr;have hsl:=hc.2 s (qab hs);refine zY ?_;refine zj ?_ ?_ <;> intro h3
  .refine zk ?_;have:s.length≠r.length:=by rw [hrl];intro e;simp [e] at h3
   exact yaf (hbad (by rw [ybu,yrt hz (by simp [ycf,this]),qch]))
  have hsr:s.length=r.length:=by simp at h3;omega
  refine zY ?_;refine ybl (α:=Nat) (fun j=>[(9,i64 j),(8,i64 k),(2,yds c),(3,.lp 3 0),(4,.lp 4 0)]) (fun j=>[(3,some (.cells [ynt p.name,.sl 6 (p.vars.map ybq),.sl 3 (p.rules.map ybg)])),(4,some (.cells [yah g.ids,yat g.ports]))]) (fun j=>s.length - j) (fun j=>j<=s.length/\((r.zip s).take j).all (fun x=>zrn x.1 x.2)=true) 0 ⟨om,rfl⟩ zs zh ?_;intro j ⟨hj,hjk⟩;refine zY ?_;refine zj ?_ ?_ <;> intro h4
  .simp at h4;obtain ⟨z,hzj⟩:=ybr h4;obtain ⟨b,hb⟩:=ybr (show j < r.length by omega);have hzz:=yro hb hzj
   (repeat (first|refine zy ?_|refine zc (yxh p g hf h0 k j r b hr hb) ?_|refine zc (ytl _ _ _) ?_))
   refine zj ?_ ?_ <;> intro h5
   .refine zk ?_;have e:zrn b z=false:=by simp [inB] at h5;simp [zrn];omega
    exact yaf (hbad (by rw [ybu,yrt hz (by rw [ycf,yrt hzz e,qch]),qch]))
   refine zY ?_;have e:zrn b z=true:=by simp [inB] at h5;simp [zrn];omega
   exact rnd (j+1) ⟨om,yvf hzz hjk e⟩ om zs zh
  simp at h4;obtain rfl:j=s.length:=by omega
  refine zY ?_;rw [qak so] at hjk;exact rnd (k+1) ⟨om,yvf hz hok (by simp [ycf,hsr,hjk])⟩ om zs zh
 simp at h2;obtain rfl:k=c.length:=by omega
 refine zk ?_;rw [qak so] at hok;exact yaf (by rw [yib,if_pos h0,if_pos (by simp [ybu,hl,hok])])
theorem zat (p:ProgD) (g:GraphD) (c:List (List Int)) (hf:Fair p g) (hc:zru c):Con prog 21 [yhb p,yfm g,yds c] (yay (yib p g c == 0)):=by
 refine ze Tryz.func21 ntmps21 Tryz.results21 ?_
 (repeat (first|refine zy ?_|refine zc (yzf p g c hf hc) ?_))
 refine zr ?_;exact yae (by rfl)
end
section
open Go.RowKit
def wOk (b:Int × Int):Prop:=1<=rgW b/\rgW b<=1000002
theorem zqf (h:yua b):wOk b:=by obtain ⟨h1,h2,h3⟩:=h;unfold wOk rgW;omega
def ynm (n:Int) (b:Int × Int):Int:=if (1073741824:Int) < n * rgW b then 1073741824 else n * rgW b
theorem xck {n w:Int} (h1:1<=n) (hw:1<=w):n<=n * w:=by
 have:=qfy hw (show 0<=n by omega);simpa using this
theorem zfq:∀ (r:List (Int × Int)) (n:Int),1<=n->n<=1073741824->(∀ b∈r,wOk b)->n<=r.foldl ynm n/\r.foldl ynm n<=1073741824
 | [],n,h1,h2,_=>⟨qgz _,h2⟩
 | b::r,n,h1,h2,hw=>by
  have hb:=xck h1 (hw b sm).1;simp only [qdf];by_cases h:(1073741824:Int) < n * rgW b
  .rw [ynm,if_pos h];have:=zfq r 1073741824 om om fun x hx=>hw x (by simp [hx]);omega
  rw [ynm,if_neg h];have:=zfq r (n * rgW b) om om fun x hx=>hw x (by simp [hx]);omega
theorem zma:∀ (r:List (Int × Int)) (n:Int),1<=n->n<=32768->(∀ b∈r,wOk b)->(∀ q,yhp n r=some q->r.foldl ynm n=q/\q<=32768)/\(yhp n r=none->32768 < r.foldl ynm n)
 | [],n,h1,h2,_=>⟨fun q h=>by simp only [yhp,Option.some.injEq] at h;subst h;exact ⟨rfl,h2⟩,fun h=>by cases h⟩
 | b::r,n,h1,h2,hw=>by
  have hb:=xck h1 (hw b sm).1;have hr:∀ x∈r,wOk x:=fun x hx=>hw x (by simp [hx]);by_cases h:32768 < n * (b.2 - b.1+1)
  .refine ⟨fun q hq=>(by simp only [yhp,if_pos h] at hq;cases hq),fun _=>?_⟩;simp only [qdf,ynm];by_cases h3:(1073741824:Int) < n * rgW b
   .rw [if_pos h3];have:=zfq r 1073741824 om om hr;omega
   rw [if_neg h3];have:=zfq r (n * rgW b) om om hr;unfold rgW at this hb h3 ⊢;omega
  have e:ynm n b=n * (b.2 - b.1+1):=by unfold ynm rgW;rw [if_neg om]
  have ih:=zma r (n * (b.2 - b.1+1)) (by unfold rgW at hb;omega) om hr;simp only [qdf,yhp,if_neg h,e];exact ih
theorem znz:∀ (r:List (Int × Int)) (n m:Int),1<=n->1<=m->(∀ b∈r,wOk b)->n * m<=32768->yhp (n * m) r=match yhp m r with
  | some q=>if 32768 < n * q then none else some (n * q)
  | none=>none
 | [],n,m,hn,hm,_,h=>by simp only [yhp];rw [if_neg om]
 | b::r,n,m,hn,hm,hw,h=>by
  have hb:=xck hm (hw b sm).1;have hr:∀ x∈r,wOk x:=fun x hx=>hw x (by simp [hx]);have hnm:n * m * (b.2 - b.1+1)=n * (m * (b.2 - b.1+1)):=qez _ _ _;have hpos:1<=m * (b.2 - b.1+1):=by unfold rgW at hb;omega
  have hle:m * (b.2 - b.1+1)<=n * (m * (b.2 - b.1+1)):=by
   have:=qco hn (show 0<=m * (b.2 - b.1+1) by omega);simpa using this
  simp only [yhp];rw [hnm];by_cases h1:32768 < m * (b.2 - b.1+1)
  .rw [if_pos h1,if_pos om]
  rw [if_neg h1];by_cases h2:32768 < n * (m * (b.2 - b.1+1))
  .rw [if_pos h2];cases hq:yhp (m * (b.2 - b.1+1)) r with
   | none=>rfl
   | some q=>
    have hge:m * (b.2 - b.1+1)<=q:=by
     have e:=((zma r (m * (b.2 - b.1+1)) hpos om hr).1 q hq).1;have:=(zfq r (m * (b.2 - b.1+1)) hpos om hr).1;omega
    have:n * (m * (b.2 - b.1+1))<=n * q:=qfy hge om;simp only;rw [if_pos om]
  rw [if_neg h2];exact znz r n _ hn hpos hr om
theorem size_table (h0:ycn p g=0) (hr:(yad p g)[v]?=some r):zzl p g v=r.foldl ynm 1:=by
 simp only [yad,qah] at hr;cases hg:g.ports[v]? with
 | none=>rw [hg] at hr;cases hr
 | some ls=>
  rw [hg] at hr;cases hr;have hv:=(qaa.1 hg).1;have hd:xez g v=ls.length:=xgf (by simpa using hg);rw [zzl,if_pos h0,if_pos om,List.foldl_map,hd];rfl
theorem yjd (p:ProgD) (g:GraphD) (hf:Fair p g):Con prog 35 [yhb p,yfm g] (xfj (yhx p g)):=by
 have hgl:=hf.glen;refine ze Tryz.func35 ntmps35 Tryz.results35 ?_
 (repeat (first|refine zy ?_|refine zc (ywy p g hf) ?_))
 refine zj ?_ ?_ <;> intro h
 .refine zk ?_;have:ycn p g≠0:=by simpa using h
  rw [yhx,if_neg this];exact Frz.pure
 have h0:ycn p g=0:=by simpa using h
 have ht:=ydf hf h0;have htl:(yad p g).length=g.ports.length:=by simp [yad]
 rw [yhx,if_pos h0];refine zY ?_;refine ybl (α:=Nat × Int) (fun a=>[(8,i64 a.1),(7,i64 a.2),(2,.lp 2 0),(3,.lp 3 0)]) (fun k=>[(2,some (.cells [ynt p.name,.sl 6 (p.vars.map ybq),.sl 3 (p.rules.map ybg)])),(3,some (.cells [yah g.ids,yat g.ports]))]) (fun a=>g.ports.length - a.1) (fun a=>a.1<=g.ports.length/\1<=a.2/\a.2<=32768/\yhp 1 ((yad p g).take a.1).flatten=some a.2) (0,1) ⟨sm,sm,sm,rfl⟩ zs zh ?_;rintro ⟨k,n⟩ ⟨hk,hn1,hn2,hn⟩;simp only at hk hn1 hn2 hn ⊢;refine zY ?_;refine zj ?_ ?_ <;> intro h1
 .simp at h1;obtain ⟨r,hr⟩:=ybr (show k < (yad p g).length by omega);have hw:∀ b∈r,wOk b:=fun b hb=>zqf ((ht.2 r (qab hr)).2 b hb);have hsz:=size_table h0 hr;obtain ⟨q,hq⟩:∃ q,q=zzl p g k:=⟨_,rfl⟩;obtain ⟨hs1,hs2⟩:=zma r 1 om om hw;have hsg:=zfq r 1 om om hw;have hsc:=znz r n 1 hn1 om hw om;rw [Int.mul_one] at hsc;have hflat:((yad p g).take (k+1)).flatten=((yad p g).take k).flatten++r:=by rw [yan hr];simp
  have hrest:yhp n r=none->(0,3)=yci (yad p g):=by
   intro e;have e2:yhp 1 (yad p g).flatten=none:=by
    conv=>lhs;rw [<- qcg (k+1) (yad p g),qea,hflat]
    rw [yjj,yjj,hn,qed,e];rfl
   simp only [yci,e2]
  rw [<- hsz,<- hq] at hs1 hs2 hsg
  (repeat (first|refine zy ?_|refine zc (rsize_con p g k hf) ?_))
  rw [<- hq];refine yam 29 rfl (fun h2=>?_) (fun h2=>?_)
  .refine zk ?_;simp at h2;rw [<- hrest ?_]
   .exact Frz.pure
   rw [hsc];cases hc:yhp 1 r with
   | none=>rfl
   | some z=>have:=hs1 z hc;omega
  simp at h2;obtain ⟨z,hz⟩:∃ z,yhp 1 r=some z:=by
   cases hc:yhp 1 r with
   | none=>have:=hs2 hc;omega
   | some z=>exact ⟨z,rfl⟩
  have hqz:=(hs1 z hz).1;have hbd:=xcf (n:=n) (w:=q) hn1 hn2 om om;rw [hz] at hsc;simp only at hsc;rw [<- hqz] at hsc;refine zY ?_;refine zj ?_ ?_ <;> intro h3
  .refine zk ?_;simp at h3;rw [<- hrest (by rw [hsc,if_pos h3])];exact Frz.pure
  refine zY ?_;simp at h3;refine rnd (k+1,n * q) ⟨by simp only;omega,hbd.1,by simp only;omega,?_⟩ (by simp only;omega) zs zh;simp only;rw [hflat,yjj,hn,qed,hsc,if_neg om]
 simp at h1;obtain rfl:k=g.ports.length:=by omega
 refine zk ?_;rw [<- htl,qay] at hn;simp only [yci,hn];exact Frz.pure
end
section
open Go.RowKit
theorem zrf (k:Int):∀ (t:List (List (Int × Int))) (v:Nat) (r:List (Int × Int)),t[v]?=some r->(yil k t).1[v]?=some (ydq (yil k (t.drop (v+1))).2 r).1
 | [],v,r,h=>by simp at h
 | q::t,0,r,h=>by simp only [qat,Option.some.injEq] at h;subst h;simp [yil]
 | q::t,v+1,r,h=>by
  simp only [qce] at h;have:=zrf k t v r h;simpa [yil] using this
variable {P:Program} {N:Nat} {ops:Array Oper} {lf:Oper->Bool} {Q:SS->Prop} {t:List (Nat × AV)} {h:List (Nat × Option LObj)}
end
section
open Go.RowKit
def yhi:List (Int × Int)->Int
 | []=>1
 | b::l=>rgW b * yhi l
theorem yor:∀ {l:List (Int × Int)},(∀ b∈l,wOk b)->1<=yhi l
 | [],_=>by simp [yhi]
 | b::l,h=>by
  have h1:=(h b sm).1;have h2:=yor (l:=l) fun x hx=>h x (by simp [hx]);have:=qco h1 (show 0<=yhi l by omega);simp only [yhi];omega
theorem ynz:∀ {l:List (Int × Int)} {n q:Int},yhp n l=some q->q=n * yhi l
 | [],n,q,h=>by simp only [yhp,Option.some.injEq] at h;simp [yhi,h]
 | b::l,n,q,h=>by
  simp only [yhp] at h;split at h
  .cases h
  have:=ynz h;rw [this,yhi,<- qez];rfl
theorem yeo (s:Int) (b:Int × Int) (r:List (Int × Int)) (z:Int) (ds:List Int):yce s (b::r) (z::ds)=yce (s * rgW b+z - b.1) r ds:=rfl
theorem zfi:∀ {l1 l2:List (Int × Int)} {p q:List Int} {s:Int},l1.length=p.length->yce s (l1++l2) (p++q)=yce (yce s l1 p) l2 q
 | [],l2,[],q,s,_=>rfl
 | b::l1,l2,z::p,q,s,h=>by
  rw [qax,qax,yeo,yeo];exact zfi (by simpa using h)
theorem ymv:∀ {l:List (Int × Int)} {ds:List Int} (s:Int),(∀ b∈l,wOk b)->ycf l ds=true->yce s l ds=s * yhi l+yce 0 l ds/\0<=yce 0 l ds/\yce 0 l ds < yhi l
 | [],ds,s,_,h=>by
  obtain ⟨h1,_⟩:=ycg h;obtain rfl:ds=[]:=qaz h1;simp [yce,yhi]
 | b::l,[],s,_,h=>by obtain ⟨h1,_⟩:=ycg h;simp at h1
 | b::l,z::ds,s,hw,h=>by
  obtain ⟨hlen,hg⟩:=ycg h;obtain ⟨z',hz',hz1,hz2⟩:=hg 0 b rfl;simp only [qat,Option.some.injEq] at hz';subst hz';have hst:ycf l ds=true:=by
   simp only [ycf,qac,qds,qeo,beq_iff_eq,qaj] at h ⊢;exact ⟨om,h.2.2⟩
  have hwl:∀ x∈l,wOk x:=fun x hx=>hw x (by simp [hx]);obtain ⟨i1,i2,i3⟩:=ymv (l:=l) (ds:=ds) (s * rgW b+z - b.1) hwl hst;obtain ⟨j1,_,_⟩:=ymv (l:=l) (ds:=ds) (0 * rgW b+z - b.1) hwl hst;rw [yeo,yeo,i1,j1];have hp:=yor hwl;have hd0:0<=(0 * rgW b+z - b.1):=by omega
  have hd1:(0 * rgW b+z - b.1)+1<=rgW b:=by unfold rgW;omega
  have hm0:0<=(0 * rgW b+z - b.1) * yhi l:=qgs hd0 om;have hm1:((0 * rgW b+z - b.1)+1) * yhi l<=rgW b * yhi l:=qco hd1 om;rw [qev,qen] at hm1;simp only [yhi];refine ⟨?_,om,om⟩;have e1:(s * rgW b+z - b.1) * yhi l=s * (rgW b * yhi l)+(0 * rgW b+z - b.1) * yhi l:=by
   rw [show s * rgW b+z - b.1=s * rgW b+(0 * rgW b+z - b.1) by omega,qev,qez]
  omega
theorem yzu (k:Int) (hk:0<=k):∀ (l:List (Int × Int)),(∀ b∈l,yua b)->ycf l (ydq k l).1=true/\k=(ydq k l).2 * yhi l+yce 0 l (ydq k l).1
 | [],_=>by simp [ydq,ycf,yhi,yce]
 | b::l,h=>by
  have hl:∀ x∈l,yua x:=fun x hx=>h x (by simp [hx]);obtain ⟨i1,i2⟩:=yzu k hk l hl;have hb:=h b sm;have hq:=(yxk hk l hl).1;have hw1:1<=rgW b:=by unfold rgW;have:=hb.2.1;omega
  obtain ⟨m1,m2⟩:=xef (w:=rgW b) hq hw1;have hdiv:(ydq k l).2=(ydq k l).2.tdiv (rgW b) * rgW b+(ydq k l).2.tmod (rgW b):=(Int.tdiv_mul_add_tmod _ _).symm;refine ⟨?_,?_⟩
  .simp only [ydq,ycf,qac,qds,qeo,beq_iff_eq,qaj] at i1 ⊢;refine ⟨om,?_,i1.2⟩;simp only [zrn,qac,decide_eq_true_eq];simp only [rgW] at m1 m2 ⊢;omega
  simp only [ydq,yeo,yhi];obtain ⟨j1,_⟩:=ymv (l:=l) (ds:=(ydq k l).1) (0 * rgW b+(b.1+(ydq k l).2.tmod (rgW b)) - b.1) (fun x hx=>zqf (hl x hx)) i1;rw [j1];generalize (ydq k l).2.tdiv (rgW b)=Q at *;generalize (ydq k l).2.tmod (rgW b)=R at *;have e:(0 * rgW b+(b.1+R) - b.1) * yhi l=R * yhi l:=by congr 1;omega
  rw [e,<- qez,<- Int.add_assoc,<- qev,<- hdiv];exact i2
theorem zrd (k:Int):∀ (a b:List (Int × Int)),ydq k (a++b)=((ydq (ydq k b).2 a).1++(ydq k b).1,(ydq (ydq k b).2 a).2)
 | [],b=>by simp [ydq]
 | x::a,b=>by simp [ydq,zrd k a b]
theorem zjr (k:Int):∀ (t:List (List (Int × Int))),(yil k t).1.flatten=(ydq k t.flatten).1/\(yil k t).2=(ydq k t.flatten).2
 | []=>by simp [yil,ydq]
 | r::t=>by
  obtain ⟨h1,h2⟩:=zjr k t;simp only [yil,qci,zrd,h1,h2,and_self]
theorem yfd:∀ {t:List (List (Int × Int))} {c:List (List Int)} (s:Int),ybu t c=true->(t.zip c).foldl (fun k q=>yce k q.1 q.2) s=yce s t.flatten c.flatten/\ycf t.flatten c.flatten=true
 | [],c,s,h=>by
  obtain ⟨h1,_⟩:=yoz h;obtain rfl:c=[]:=qaz h1;exact ⟨rfl,rfl⟩
 | r::t,[],s,h=>by obtain ⟨h1,_⟩:=yoz h;simp at h1
 | r::t,x::c,s,h=>by
  have hx:ycf r x=true:=by
   obtain ⟨x',h1,h2⟩:=(yoz h).2 0 r rfl;simp only [qat,Option.some.injEq] at h1;rw [h1];exact h2
  have hc:ybu t c=true:=by
   simp only [ybu,qac,qds,qeo,beq_iff_eq,qaj] at h ⊢;exact ⟨om,h.2.2⟩
  obtain ⟨i1,i2⟩:=yfd (t:=t) (c:=c) (yce s r x) hc;obtain ⟨hl,_⟩:=ycg hx;refine ⟨?_,?_⟩
  .rw [qci,qci,zfi hl.symm];exact i1
  simp only [ycf,qac,beq_iff_eq] at hx i2 ⊢;rw [qci,qci,List.zip_append hl.symm,qel,hx.2,i2.2];exact ⟨by simp [hx.1,i2.1],rfl⟩
theorem zyl (k:Int) (hk:0<=k) (ht:∀ r∈t,∀ b∈r,yua b):ybu t (yil k t).1=true:=by
 simp only [ybu,qac,beq_iff_eq];refine ⟨yxl k t,List.all_eq_true.2 fun q hq=>?_⟩;obtain ⟨v,hv⟩:=qan hq;rw [qfp] at hv;have:=zrf k t v _ hv.1;rw [this] at hv;obtain ⟨hr,hs⟩:=hv;simp only [Option.some.injEq] at hs;rw [<- hs];have hb:=zmn hk (t.drop (v+1)) fun r hr=>ht r (qdn hr);exact (yzu _ hb.1 q.1 (ht _ (qab hr))).1
theorem rank_un {k n:Int} (hk:0<=k) (ht:∀ r∈t,∀ b∈r,yua b) (hn:yhp 1 t.flatten=some n) (hkn:k < n):ydc t (yil k t).1=k:=by
 have hfl:∀ b∈t.flatten,yua b:=fun b hb=>by obtain ⟨r,hr,hb⟩:=qda.1 hb;exact ht r hr b hb
 obtain ⟨h1,_⟩:=yfd 0 (zyl k hk ht);obtain ⟨f1,f2⟩:=zjr k t;obtain ⟨i1,i2⟩:=yzu k hk t.flatten hfl;have hW:=ynz hn;rw [qen] at hW;obtain ⟨_,l2,l3⟩:=ymv 0 (fun b hb=>zqf (hfl b hb)) i1;have hq:=(yxk hk t.flatten hfl).1;have hp:=yor fun b hb=>zqf (hfl b hb);have hz:(ydq k t.flatten).2=0:=by
  rcases Int.lt_or_le 0 (ydq k t.flatten).2 with h|h
  .have:=qco (show 1<=(ydq k t.flatten).2 by omega) (show 0<=yhi t.flatten by omega);rw [qen] at this;omega
  omega
 rw [ydc,h1,f1];rw [hz,Int.zero_mul,Int.zero_add] at i2;exact i2.symm
end
section
def yeu:Int:=1073741824
def zqo (a:Int):Int:=max (-yeu) (min a yeu)
def InV (a:Int):Prop:=-yeu<=a/\a<=yeu
theorem xdq (a:Int):InV (zqo a):=by unfold zqo InV yeu;omega
theorem xdp (h:InV a):zqo a=a:=by unfold zqo InV yeu at *;omega
def ypv (b:Bool):Int:=if b then 1 else 0
theorem zgf (b:Bool):InV (ypv b):=by unfold ypv InV yeu;split <;> omega
def zro (a b:Int):Int:=if b=0 then 0 else a.fdiv b
theorem xdb {b:Int} (hb:b≠0):(if a.tmod b≠0/\(decide (a < 0) != decide (b < 0))=true then a.tdiv b - 1 else a.tdiv b)=zro a b:=by
 unfold zro;rw [if_neg hb,Int.fdiv_eq_tdiv];by_cases hd:b ∣ a
 .rw [if_pos hd,if_neg (fun h=>h.1 (Int.dvd_iff_tmod_eq_zero.1 hd))];omega
 have hm:a.tmod b≠0:=fun h=>hd (Int.dvd_iff_tmod_eq_zero.2 h);rw [if_neg hd];rcases Int.lt_or_le a 0 with ha|ha <;> rcases Int.lt_or_le b 0 with hl|hl
 .rw [if_neg (by simp [ha,hl]),if_neg om,if_neg om,Int.sign_eq_neg_one_of_neg hl];omega
 .rw [if_pos ⟨hm,by simp [ha];omega⟩,if_neg om,if_pos hl,Int.sign_eq_one_of_pos om]
 .rw [if_pos ⟨hm,by simp [hl];omega⟩,if_pos ha,if_neg om]
 rw [if_neg (fun h=>by have:=h.2;simp at this;omega),if_pos ha,if_pos hl];omega
def unV (op a:Int):Int:=if op=18 then -a else ypv (a == 0)
def exV (op a b:Int):Int:=
 if op=30 then a * b else if op=31 then zro a b else if op=32 then (if b=0 then 0 else a - b * zro a b) else if op=33 then a+b else if op=34 then a - b
 else if op=35 then ypv (a == b) else if op=36 then ypv (a != b) else if op=37 then ypv (decide (a < b)) else if op=38 then ypv (decide (a<=b)) else if op=39 then ypv (decide (b < a)) else if op=40 then ypv (decide (b<=a))
 else if op=41 then ypv (a != 0 && b != 0) else ypv (a != 0 || b != 0)
def biV (op a b:Int):Int:=zqo (exV op a b)
def zzq (l:List Int):Nat:=(l.filter (· != 0)).length
def zbc:List Int->Nat->Int
 | [],_=>-1
 | a::l,k=>if a≠0 then k else zbc l (k+1)
def ypr (l:List Int):Int:=l.foldl min yeu
def yoe (l:List Int):Int:=l.foldl max (-yeu)
def zcm:List Int->Int × Int->Int × Int
 | [],q=>q
 | a::l,q=>zcm l (max q.1 a,max q.2 (min q.1 a))
def zwk (l:List Int):Nat->Nat->Nat
 | 0,k=>k
 | n+1,k=>if (k:Int)∈l then zwk l n (k+1) else k
def zsf (op:Int) (l:List Int):Int:=
 if op=20 then ypv (zzq l == l.length) else if op=21 then ypv (decide (0 < zzq l)) else if op=22 then zzq l else if op=23 then zbc l 0 else if op=24 then ypr l else if op=25 then yoe l
 else if op=26 then zqo l.sum else if op=27 then zwk l (l.length+1) 0 else if op=28 then (zcm l (-yeu,-yeu)).2 else l.headD 0
structure Scn where
 g:GraphD
 c:List (List Int)
 v:Nat
def Scn.deg (s:Scn):Nat:=(s.g.ports.getD s.v []).length
def Scn.link (s:Scn) (port:Int):Lk:=(s.g.ports.getD s.v []).getD port.toNat (0,0)
def Scn.get (s:Scn) (u:Nat) (x:Int):Int:=(s.c.getD u []).getD x.toNat 0
def Scn.leaf (s:Scn) (port:Int) (t:Tm):Int:=
 if t.1=1 then t.2 else if t.1=2 then 1 else if t.1=3 then 0 else if t.1=4 then -1 else if t.1=5 then s.get s.v t.2 else if t.1=6 then s.g.ids.length else if t.1=7 then ybz s.g.ids
 else if t.1=8 then s.g.ids.getD s.v 0 else if t.1=9 then s.deg else if t.1=10 then ypv (s.v == 0) else if t.1=11 then port else if t.1=12 then s.get (s.link port).1.toNat t.2
 else if t.1=13 then s.g.ids.getD (s.link port).1.toNat 0 else if t.1=14 then (s.g.ports.getD (s.link port).1.toNat []).length else if t.1=15 then ypv ((s.link port).1 == 0) else if t.1=16 then (s.link port).2
 else yjw (s.g.ports.getD (s.link port).1.toNat []) s.v
def Scn.val (s:Scn):Int->Ex->Int
 | port,.lf t=>s.leaf port t
 | port,.un t a=>if ykg t.1 then zsf t.1 ((List.range s.deg).map fun (k:Nat)=>s.val (k:Int) a) else unV t.1 (s.val port a)
 | port,.bi t a b=>biV t.1 (s.val port a) (s.val port b)
 | port,.tr t a b c=>if s.val port a≠0 then s.val port b else s.val port c
end
variable {s:Scn}
section
theorem zzm {l:List α} {x:α} (hx:l[k]?=some x):l.take (k+1)=l.take k++[x]:=by
 obtain ⟨hk,rfl⟩:=qaa.1 hx;exact qcq hk
theorem zsd (l:List Int) (a:Int):zzq (l++[a])=zzq l+(if a≠0 then 1 else 0):=by
 unfold zzq;rw [qck,qao];by_cases h:a=0 <;> simp [h]
theorem xax (l:List Int):zzq l<=l.length:=qdl _ _
theorem xbq:∀ (l:List Int) (a:Int) (k:Nat),zbc (l++[a]) k=if 0<=zbc l k then zbc l k else if a≠0 then ((k+l.length:Nat):Int) else -1
 | [],a,k=>by simp [zbc]
 | b::l,a,k=>by
  simp only [qax,zbc];by_cases hb:b=0
  .simp only [hb,ne_eq,not_true_eq_false,if_false,xbq l a (k+1),qaj];rw [show k+1+l.length=k+(l.length+1) by omega]
  simp [hb]
theorem zvs:∀ (l:List Int) (k:Nat),zbc l k=-1\/((k:Int)<=zbc l k/\zbc l k < ((k+l.length:Nat):Int))
 | [],k=>.inl rfl
 | b::l,k=>by
  simp only [zbc];by_cases hb:b=0
  .simp only [hb,ne_eq,not_true_eq_false,if_false,qaj];rcases zvs l (k+1) with h|⟨h1,h2⟩
   .exact .inl h
   exact .inr ⟨om,om⟩
  simp only [ne_eq,hb,not_false_eq_true,if_true,qaj];exact .inr ⟨om,om⟩
theorem zvr:∀ {l:List Int} {k i:Nat} {a:Int},l[i]?=some a->a≠0->(∀ j b,j < i->l[j]?=some b->b=0)->zbc l k=((k+i:Nat):Int)
 | b::l,k,0,a,h,ha,_=>by
  simp only [qat,Option.some.injEq] at h;subst h;simp [zbc,ha]
 | b::l,k,i+1,a,h,ha,hall=>by
  have hb:=hall 0 b om rfl;simp only [zbc,hb,ne_eq,not_true_eq_false,if_false];rw [zvr (l:=l) (k:=k+1) (i:=i) (by simpa using h) ha (fun j c hj hc=>hall (j+1) c om (by simpa using hc))];rw [show k+1+i=k+(i+1) by omega]
theorem zbr:∀ {l:List Int} {k:Nat},(∀ a∈l,a=0)->zbc l k=-1
 | [],k,_=>rfl
 | b::l,k,h=>by
  simp only [zbc,h b sm,ne_eq,not_true_eq_false,if_false];exact zbr fun a ha=>h a (by simp [ha])
theorem zpb (l:List Int) (a:Int):ypr (l++[a])=min (ypr l) a:=by unfold ypr;rw [qcu];rfl
theorem great_app (l:List Int) (a:Int):yoe (l++[a])=max (yoe l) a:=by unfold yoe;rw [qcu];rfl
theorem zts:∀ (l:List Int) (a:Int) (q:Int × Int),zcm (l++[a]) q=(max (zcm l q).1 a,max (zcm l q).2 (min (zcm l q).1 a))
 | [],a,q=>rfl
 | b::l,a,q=>by simp only [qax,zcm,zts l a]
theorem zgg:∀ (l:List Int) (q:Int × Int),(zcm l q).1=l.foldl max q.1
 | [],q=>rfl
 | b::l,q=>by simp only [zcm,qdf,zgg l]
theorem xgz:∀ (l:List Int) (q:Int × Int),q.2<=q.1->(zcm l q).2<=(zcm l q).1
 | [],q,h=>h
 | b::l,q,h=>by
  simp only [zcm];exact xgz l _ (by simp only;omega)
theorem two_step {g s:Int} (h:s<=g):(max g a,max s (min g a))=if g < a then (a,g) else (g,max s a):=by
 split
 .rw [show max g a=a by omega,show max s (min g a)=g by omega]
 rw [show max g a=g by omega,show min g a=a by omega]
theorem xdy (l:List Int) (a:Int):(l++[a]).sum=l.sum+a:=by simp
theorem xdz:∀ {l:List Int},(∀ a∈l,InV a)->-(yeu * l.length)<=l.sum/\l.sum<=yeu * l.length
 | [],_=>by simp
 | b::l,h=>by
  have h1:=xdz (l:=l) fun a ha=>h a (by simp [ha]);have h2:=h b sm;unfold InV yeu at *;simp only [List.sum_cons,qaj];omega
theorem yzc:∀ (k:Nat) (l:List Int),(∀ j,j < k->((j:Nat):Int)∈l)->k<=l.length
 | 0,l,_=>Nat.zero_le _
 | k+1,l,h=>by
  have hk:=h k om;have h1:=yzc k (l.erase (k:Int)) fun j hj=>by
   rw [List.mem_erase_of_ne om];exact h j om
  have h2:=List.length_erase_of_mem hk;have h3:0 < l.length:=List.length_pos_of_mem hk;omega
theorem zwl:∀ {n k:Nat},¬ ((k:Int)∈l)->zwk l n k=k
 | 0,k,_=>rfl
 | n+1,k,h=>by simp only [zwk];rw [if_neg h]
theorem mex_next (h:(k:Int)∈l):zwk l (n+1) k=zwk l n (k+1):=by simp only [zwk];rw [if_pos h]
theorem xcb (h:∀ j,j < k->((j:Nat):Int)∈l):zwk l (l.length+1) 0=zwk l (l.length+1 - k) k:=by
 induction k with
 | zero=>rfl
 | succ k ih=>
  rw [ih fun j hj=>h j om];have h1:=yzc (k+1) l h;rw [show l.length+1 - k=(l.length+1 - (k+1))+1 by omega,mex_next (h k om)]
theorem xgm {l:List Int}:∀ (n k:Nat),zwk l n k<=k+n
 | 0,k=>by simp [zwk]
 | n+1,k=>by
  simp only [zwk];split
  .have:=xgm (l:=l) n (k+1);omega
  omega
theorem zku {f:Int->Int->Int} (hf:∀ a b,InV a->InV b->InV (f a b)):∀ {l:List Int} {q:Int},InV q->(∀ a∈l,InV a)->InV (l.foldl f q)
 | [],q,hq,_=>hq
 | a::l,q,hq,h=>zku (l:=l) hf (hf q a hq (h a sm)) fun b hb=>h b (by simp [hb])
theorem xgy:∀ {l:List Int} {q:Int × Int},InV q.1->InV q.2->(∀ a∈l,InV a)->InV (zcm l q).2
 | [],q,_,h2,_=>h2
 | a::l,q,h1,h2,h=>by
  have ha:=h a sm;refine xgy (l:=l) ?_ ?_ fun b hb=>h b (by simp [hb])
  .unfold InV at *;simp only;omega
  unfold InV at *;simp only;omega
theorem fold_in (hl:l.length<=1000) (h:∀ a∈l,InV a):InV (zsf op l):=by
 have hb:InV yeu:=by unfold InV yeu;omega
 have hn:InV (-yeu):=by unfold InV yeu;omega
 have hsm:∀ n:Nat,n<=3000->InV (n:Int):=fun n hn=>by unfold InV yeu;omega
 unfold zsf
 repeat' split
 .exact zgf _
 .exact zgf _
 .exact hsm _ (by have:=xax l;omega)
 .rcases zvs l 0 with e|⟨e1,e2⟩
  .rw [e];unfold InV yeu;omega
  unfold InV yeu;omega
 .exact zku (fun a b h1 h2=>by unfold InV at *;omega) hb h
 .exact zku (fun a b h1 h2=>by unfold InV at *;omega) hn h
 .exact xdq _
 .exact hsm _ (by have:=xgm (l:=l) (l.length+1) 0;omega)
 .exact xgy (q:=(-yeu,-yeu)) hn hn h
 cases l with
 | nil=>unfold InV yeu;simp
 | cons a l=>exact h a sm
end
section
structure ScnOk (s:Scn):Prop where
 ids:∀ a∈s.g.ids,0<=a/\a<=255
 few:s.g.ids.length<=24
 links:∀ ls∈s.g.ports,ls.length<=24/\∀ l∈ls,0<=l.2/\l.2<=15
 vals:∀ r∈s.c,∀ a∈r,InV a
theorem xbr (h:∀ a∈l,InV a):InV (l.getD k 0):=by
 rw [qad];cases hk:l[k]? with
 | none=>unfold InV yeu;simp
 | some a=>exact h a (qab hk)
theorem zkw {l:List (List α)}:l.getD k []=[]\/l.getD k []∈l:=by
 rw [qad];cases hk:l[k]? with
 | none=>exact .inl rfl
 | some a=>exact .inr (qab hk)
theorem get_in (h:ScnOk s) (u:Nat) (x:Int):InV (s.get u x):=by
 unfold Scn.get;rcases zkw (l:=s.c) (k:=u) with e|e
 .rw [e];unfold InV yeu;simp
 exact xbr (h.vals _ e)
theorem zfg (h:ScnOk s) (u:Nat):(s.g.ports.getD u []).length<=24:=by
 rcases zkw (l:=s.g.ports) (k:=u) with e|e
 .rw [e];simp
 exact (h.links _ e).1
theorem link_in (h:ScnOk s) (p:Int):InV (s.link p).2:=by
 unfold Scn.link;rcases zkw (l:=s.g.ports) (k:=s.v) with e|e
 .rw [e];unfold InV yeu;simp
 rw [qad];cases hk:(s.g.ports.getD s.v [])[p.toNat]? with
 | none=>unfold InV yeu;simp
 | some l=>
  have:=(h.links _ e).2 l (qab hk);unfold InV yeu;show _<=l.2/\l.2<=_;omega
theorem port_bd (ls:List Lk) (u:Int):-1<=yjw ls u/\yjw ls u < ls.length+1:=by
 rcases yrb ls u with ⟨h,_⟩|⟨k,x,h,hx,_⟩
 .omega
 have:=(qaa.1 hx).1;omega
theorem zck {n:Int} (h0:-1<=n) (h1:n<=1000000):InV n:=by unfold InV yeu;omega
theorem ite_in {c:Prop} [Decidable c] {a b:Int} (h1:InV a) (h2:InV b):InV (if c then a else b):=by split <;> assumption
theorem leaf_in (hS:ScnOk s) {port:Int} (hp:InV port) {t:Tm} {vars:Int} (ha:yuz vars t=true):InV (s.leaf port t):=by
 have hid:∀ a∈s.g.ids,InV a:=fun a hm=>by have:=hS.ids a hm;exact zck om om
 unfold Scn.leaf;by_cases e1:t.1=1
 .rw [if_pos e1];unfold yuz at ha;rw [if_pos e1] at ha;simp only [qac,decide_eq_true_eq] at ha;unfold InV yeu;omega
 rw [if_neg e1];have l1:=zfg hS s.v;have l2:=zfg hS (s.link port).1.toNat;have l3:=port_bd (s.g.ports.getD (s.link port).1.toNat []) s.v;have l5:=zaj (l:=s.g.ids) fun a hm=>(hS.ids a hm).2;have l4:=hS.few
 repeat' refine ite_in ?_ ?_
 all_goals first
  | exact zck om om
  | exact get_in hS _ _
  | exact zgf _
  | exact hp
  | exact xbr hid
  | exact link_in hS _
  | exact zck (by unfold Scn.deg;omega) (by unfold Scn.deg;omega)
theorem un_in (h:InV a):InV (unV op a):=by
 unfold unV;split
 .unfold InV at *;omega
 exact zgf _
theorem ypw (h:ScnOk s) {vars:Int}:∀ (E:Ex),(∀ t∈E.fl,yuz vars t=true)->∀ {port:Int},InV port->InV (s.val port E)
 | .lf t,ha,port,hp=>leaf_in h hp (ha t (by simp [Ex.fl]))
 | .un t a,ha,port,hp=>by
  have ih:=fun {q:Int} (hq:InV q)=>ypw h a (fun x hx=>ha x (by simp [Ex.fl,hx])) hq;simp only [Scn.val];have hd:s.deg<=24:=zfg h s.v;split
  .refine fold_in so fun x hx=>?_;obtain ⟨k,hk,rfl⟩:=qag.1 hx;have:=qca.1 hk;exact ih (zck om om)
  exact un_in (ih hp)
 | .bi t a b,ha,port,hp=>xdq _
 | .tr t a b c,ha,port,hp=>by
  simp only [Scn.val];split
  .exact ypw h b (fun x hx=>ha x (by simp [Ex.fl,hx])) hp
  exact ypw h c (fun x hx=>ha x (by simp [Ex.fl,hx])) hp
def biP (op a b:Int):Int:=
 if op=30 then zqo (a * b) else if op=31 then zqo (zro a b) else if op=32 then (if b=0 then 0 else zqo (a - b * zro a b)) else if op=33 then zqo (a+b) else if op=34 then zqo (a - b)
 else if op=41 then ypv (a != 0 && b != 0) else if op=42 then ypv (a != 0 || b != 0)
 else ypv (if op=35 then a == b else if op=36 then a != b else if op=37 then decide (a < b) else if op=38 then decide (a<=b) else if op=39 then decide (b < a) else decide (b<=a))
theorem biP_eq {b:Int} (h:30<=op/\op<=42):biP op a b=biV op a b:=by
 have ht:∀ c,zqo (ypv c)=ypv c:=fun c=>xdp (zgf c);have h0:zqo 0=0:=xdp (by unfold InV yeu;omega);have:op=30\/op=31\/op=32\/op=33\/op=34\/op=35\/op=36\/op=37\/op=38\/op=39\/op=40\/op=41\/op=42:=by omega
 rcases this with rfl|rfl|rfl|rfl|rfl|rfl|rfl|rfl|rfl|rfl|rfl|rfl|rfl <;> simp [biP,biV,exV,ht]
 split <;> simp [h0]
end
section
open Go.RowKit
theorem yfs (b:Bool):Con prog 246 [yay b] (i64 (ypv b)):=by
 refine ze Tryz.func246 ntmps246 Tryz.results246 ?_;cases b
 .refine zY ?_;refine zr ?_;exact Frz.pure
 refine zY ?_;refine zr ?_;exact Frz.pure
theorem ydd (b:Bool):Con prog 252 [yay b] (i64 (ypv b)):=by
 refine ze Tryz.func252 ntmps252 Tryz.results252 ?_;cases b
 .refine zY ?_;refine zr ?_;exact Frz.pure
 refine zY ?_;refine zr ?_;exact Frz.pure
theorem ysa (a:Int):Con prog 248 [i64 a] (i64 (zqo a)):=by
 refine ze Tryz.func248 ntmps248 Tryz.results248 ?_;refine zk ?_;exact yaf (by unfold zqo yeu;split <;> split <;> omega)
theorem zxp (a:Int):Con prog 253 [i64 a] (i64 (zqo a)):=by
 refine ze Tryz.func253 ntmps253 Tryz.results253 ?_;refine zk ?_;exact yaf (by unfold zqo yeu;split <;> split <;> omega)
theorem zch (ha:InV a):Con prog 255 [i64 a] (yay true):=by
 unfold InV yeu at ha;refine ze Tryz.func255 ntmps255 Tryz.results255 ?_;refine zY ?_;refine yam 5 rfl (fun h=>?_) (fun h=>?_)
 .refine zk ?_;exact yae so
 simp at h;omega
theorem xda {b:Int} (ha:InV a) (hb:b≠0):-1073741824<=a.tdiv b/\a.tdiv b<=1073741824:=by
 have:=Int.natAbs_tdiv_le_natAbs a b;unfold InV yeu at ha;omega
theorem zta {b:Int} (ha:InV a):-1073741825<=zro a b/\zro a b<=1073741824:=by
 by_cases hb:b=0
 .subst hb;simp [zro]
 have:=xda ha hb;rw [<- xdb hb];split <;> omega
theorem xku (p q:Bool):(p != q)=!(p == q):=rfl
theorem zvg (a b:Int) (ha:InV a):Con prog 249 [i64 a,i64 b] (i64 (zro a b)):=by
 refine ze Tryz.func249 ntmps249 Tryz.results249 ?_;refine zY ?_;refine zj ?_ ?_ <;> intro h
 .simp at h;subst h;refine zk ?_;exact yaf (by simp [zro])
 simp at h;have h1:=xda ha h;have hq:=xdb (a:=a) h;refine zY ?_;refine xht rfl rfl h om om rfl rfl ?_
 (repeat (first|refine zy ?_|refine xep rfl rfl h rfl rfl ?_))
 refine yam 15 rfl (fun h2=>?_) (fun h2=>?_)
 ·(repeat (first|refine zy ?_|refine xfv tok rfl rfl rfl rfl rfl ?_))
  refine zj ?_ ?_ <;> intro h3
  .refine zk ?_;exact yaf (by rw [<- hq,if_pos ⟨by simpa using h2,by rw [xku];exact h3⟩])
  refine zk ?_;exact yaf (by rw [<- hq,if_neg (fun e=>by rw [xku] at e;rw [e.2] at h3;cases h3)])
 refine zk ?_;exact yaf (by rw [<- hq,if_neg (fun e=>e.1 (by simpa using h2))])
theorem zxo (a b:Int) (ha:InV a):Con prog 274 [i64 a,i64 b] (i64 (zro a b)):=by
 refine ze Tryz.func274 ntmps274 Tryz.results274 ?_;refine zY ?_;refine zj ?_ ?_ <;> intro h
 .simp at h;subst h;refine zk ?_;exact yaf (by simp [zro])
 simp at h;have h1:=xda ha h;have hq:=xdb (a:=a) h;refine zY ?_;refine xht rfl rfl h om om rfl rfl ?_
 (repeat (first|refine zy ?_|refine xep rfl rfl h rfl rfl ?_))
 refine yam 15 rfl (fun h2=>?_) (fun h2=>?_)
 ·(repeat (first|refine zy ?_|refine xfv tok rfl rfl rfl rfl rfl ?_))
  refine zj ?_ ?_ <;> intro h3
  .refine zk ?_;exact yaf (by rw [<- hq,if_pos ⟨by simpa using h2,by rw [xku];exact h3⟩])
  refine zk ?_;exact yaf (by rw [<- hq,if_neg (fun e=>by rw [xku] at e;rw [e.2] at h3;cases h3)])
 refine zk ?_;exact yaf (by rw [<- hq,if_neg (fun e=>e.1 (by simpa using h2))])
theorem eun_con (op a:Int) (ha:InV a):Con prog 220 [i64 op,i64 a] (i64 (unV op a)):=by
 unfold InV yeu at ha;refine ze Tryz.func220 ntmps220 Tryz.results220 ?_;refine zY ?_;refine zj ?_ ?_ <;> intro h
 .simp at h;refine zk ?_;exact yaf (by simp [unV,h])
 simp at h
 (repeat (first|refine zy ?_|refine zc (yfs _) ?_))
 refine zr ?_;exact yaf (by simp [unV,h])
theorem ecmp_con (op a b:Int):Con prog 250 [i64 op,i64 a,i64 b] (yay (if op=35 then a == b else if op=36 then a != b else if op=37 then decide (a < b) else if op=38 then decide (a<=b) else if op=39 then decide (b < a) else decide (b<=a))):=by
 refine ze Tryz.func250 ntmps250 Tryz.results250 ?_;refine zY ?_;refine zj ?_ ?_ <;> intro h1
 .simp at h1;refine zY ?_;refine zr ?_;exact yae (by simp [h1])
 simp at h1;refine zY ?_;refine zj ?_ ?_ <;> intro h2
 .simp at h2;refine zY ?_;refine zr ?_;exact yae (by rw [if_neg h1,if_pos h2])
 simp at h2;refine zY ?_;refine zj ?_ ?_ <;> intro h3
 .simp at h3;refine zY ?_;refine zr ?_;exact yae (by simp [h3])
 simp at h3;refine zY ?_;refine zj ?_ ?_ <;> intro h4
 .simp at h4;refine zY ?_;refine zr ?_;exact yae (by simp [h4])
 simp at h4;refine zY ?_;refine zj ?_ ?_ <;> intro h5
 .simp at h5;refine zY ?_;refine zr ?_;exact yae (by simp [h5])
 simp at h5;refine zY ?_;refine zr ?_;exact yae (by simp [h1,h2,h3,h4,h5])
end
section
open Go.RowKit
theorem xcj {b m n:Int} (h1:-m<=a) (h2:a<=m) (h3:-n<=b) (h4:b<=n):-(m * n)<=a * b/\a * b<=m * n:=by
 have k1:a.natAbs<=m.natAbs:=by omega
 have k2:b.natAbs<=n.natAbs:=by omega
 have k3:=qhw k1 k2;rw [<- Int.natAbs_mul,<- Int.natAbs_mul] at k3;have k4:((m * n).natAbs:Int)=m * n:=Int.natAbs_of_nonneg (qgs om om);omega
theorem xch {b:Int} (ha:InV a) (hb:InV b):-1152921504606846976<=a * b/\a * b<=1152921504606846976:=by
 have:=xcj ha.1 ha.2 hb.1 hb.2;simpa [yeu] using this
theorem xcg {b:Int} (ha:InV a) (hb:InV b):-1152921505680588800<=b * zro a b/\b * zro a b<=1152921505680588800:=by
 have hq:=zta (b:=b) ha;have:=xcj (a:=b) (b:=zro a b) (n:=1073741825) hb.1 hb.2 om om;simpa [yeu] using this
theorem ebin_con (op a b:Int) (ha:InV a) (hb:InV b):Con prog 222 [i64 op,i64 a,i64 b] (i64 (biP op a b)):=by
 have hm:=xch ha hb;have hq:=zta (b:=b) ha;have hn:=xcg ha hb;have ha':=ha;have hb':=hb;unfold InV yeu at ha' hb';refine ze Tryz.func222 ntmps222 Tryz.results222 ?_;refine zY ?_;refine zj ?_ ?_ <;> intro h1
 .simp at h1;subst h1
  (repeat (first|refine zy ?_|refine zc (ysa _) ?_))
  refine zr ?_;exact yaf rfl
 simp at h1;refine zY ?_;refine zj ?_ ?_ <;> intro h2
 .simp at h2;subst h2
  (repeat (first|refine zy ?_|refine zc (zvg a b ha) ?_|refine zc (ysa _) ?_))
  refine zr ?_;exact yaf rfl
 simp at h2;refine zY ?_;refine zj ?_ ?_ <;> intro h3
 .simp at h3;subst h3;refine zY ?_;refine zj ?_ ?_ <;> intro h
  .simp at h;subst h;refine zY ?_;refine zr ?_;exact yaf rfl
  simp at h
  (repeat (first|refine zy ?_|refine zc (zvg a b ha) ?_|refine zc (ysa _) ?_))
  refine zr ?_;exact yaf (by simp [biP,h])
 simp at h3;refine zY ?_;refine zj ?_ ?_ <;> intro h4
 .simp at h4;subst h4
  (repeat (first|refine zy ?_|refine zc (ysa _) ?_))
  refine zr ?_;exact yaf rfl
 simp at h4;refine zY ?_;refine zj ?_ ?_ <;> intro h5
 .simp at h5;subst h5
  (repeat (first|refine zy ?_|refine zc (ysa _) ?_))
  refine zr ?_;exact yaf rfl
 simp at h5;refine zY ?_;refine zj ?_ ?_ <;> intro h6
 .simp at h6;subst h6;refine zY ?_;refine yam 48 rfl (fun h=>?_) (fun h=>?_)
  ·(repeat (first|refine zy ?_|refine zc (yfs _) ?_))
   refine zr ?_;exact yaf (by rw [show biP 41 a b=ypv (a != 0 && b != 0) from rfl,h];rfl)
  (repeat (first|refine zy ?_|refine zc (yfs _) ?_))
  refine zr ?_;exact yaf (by rw [show biP 41 a b=ypv (a != 0 && b != 0) from rfl,h];rfl)
 simp at h6;refine zY ?_;refine zj ?_ ?_ <;> intro h7
 .simp at h7;subst h7;refine zY ?_;refine yam 57 rfl (fun h=>?_) (fun h=>?_)
  ·(repeat (first|refine zy ?_|refine zc (yfs _) ?_))
   refine zr ?_;exact yaf (by rw [show biP 42 a b=ypv (a != 0 || b != 0) from rfl,h];rfl)
  (repeat (first|refine zy ?_|refine zc (yfs _) ?_))
  refine zr ?_;exact yaf (by rw [show biP 42 a b=ypv (a != 0 || b != 0) from rfl,h];rfl)
 simp at h7
 (repeat (first|refine zy ?_|refine zc (ecmp_con op a b) ?_|refine zc (yfs _) ?_))
 refine zr ?_;exact yaf (by simp [biP,h1,h2,h3,h4,h5,h6,h7])
theorem run_con (op a:Int) (hop:op=18\/op=19) (ha:InV a):Con prog 227 [i64 op,i64 a] (.tup [i64 (unV op a),i64 0]):=by
 have ha':=ha;unfold InV yeu at ha';refine ze Tryz.func227 ntmps227 Tryz.results227 ?_;rcases hop with rfl|rfl
 ·(repeat (first|refine zy ?_|refine zc (zch ha) ?_))
  refine zr ?_;exact Frz.tup2 (yaf (by first|rfl|simp [unV])) Frz.pure
 (repeat (first|refine zy ?_|refine zc (zch ha) ?_|refine zc (ydd _) ?_))
 refine zr ?_;exact Frz.tup2 (yaf rfl) Frz.pure
theorem rapp_con (op a b:Int) (hop:30<=op/\op<=42) (ha:InV a) (hb:InV b):Con prog 256 [i64 op,i64 a,i64 b] (i64 (exV op a b)):=by
 have hm:=xch ha hb;have hq:=zta (b:=b) ha;have hn:=xcg ha hb;have ha':=ha;have hb':=hb;unfold InV yeu at ha' hb';refine ze Tryz.func256 ntmps256 Tryz.results256 ?_;have:op=30\/op=31\/op=32\/op=33\/op=34\/op=35\/op=36\/op=37\/op=38\/op=39\/op=40\/op=41\/op=42:=by omega
 rcases this with rfl|rfl|rfl|rfl|rfl|rfl|rfl|rfl|rfl|rfl|rfl|rfl|rfl
 .refine zY ?_;refine zr ?_;exact yaf rfl
 ·(repeat (first|refine zy ?_|refine zc (zxo a b ha) ?_));refine zr ?_;exact yaf rfl
 .refine zY ?_;refine zj ?_ ?_ <;> intro h
  .simp at h;subst h;refine zY ?_;refine zr ?_;exact yaf rfl
  simp at h
  (repeat (first|refine zy ?_|refine zc (zxo a b ha) ?_));refine zr ?_;exact yaf (by simp [exV,h])
 .refine zY ?_;refine zr ?_;exact yaf rfl
 .refine zY ?_;refine zr ?_;exact yaf rfl
 ·(repeat (first|refine zy ?_|refine zc (ydd _) ?_));refine zr ?_;exact yaf rfl
 ·(repeat (first|refine zy ?_|refine zc (ydd _) ?_));refine zr ?_;exact yaf rfl
 ·(repeat (first|refine zy ?_|refine zc (ydd _) ?_));refine zr ?_;exact yaf rfl
 ·(repeat (first|refine zy ?_|refine zc (ydd _) ?_));refine zr ?_;exact yaf rfl
 ·(repeat (first|refine zy ?_|refine zc (ydd _) ?_));refine zr ?_;exact yaf rfl
 ·(repeat (first|refine zy ?_|refine zc (ydd _) ?_));refine zr ?_;exact yaf rfl
 .refine zY ?_;refine yam 79 rfl (fun h=>?_) (fun h=>?_)
  ·(repeat (first|refine zy ?_|refine zc (ydd _) ?_))
   refine zr ?_;exact yaf (by rw [show exV 41 a b=ypv (a != 0 && b != 0) from rfl,h];rfl)
  (repeat (first|refine zy ?_|refine zc (ydd _) ?_))
  refine zr ?_;exact yaf (by rw [show exV 41 a b=ypv (a != 0 && b != 0) from rfl,h];rfl)
 refine zY ?_;refine yam 86 rfl (fun h=>?_) (fun h=>?_)
 ·(repeat (first|refine zy ?_|refine zc (ydd _) ?_))
  refine zr ?_;exact yaf (by rw [show exV 42 a b=ypv (a != 0 || b != 0) from rfl,h];rfl)
 (repeat (first|refine zy ?_|refine zc (ydd _) ?_))
 refine zr ?_;exact yaf (by rw [show exV 42 a b=ypv (a != 0 || b != 0) from rfl,h];rfl)
theorem rbin_con (op a b:Int) (hop:30<=op/\op<=42) (ha:InV a) (hb:InV b):Con prog 228 [i64 op,i64 a,i64 b] (.tup [i64 (biV op a b),i64 0]):=by
 refine ze Tryz.func228 ntmps228 Tryz.results228 ?_;have e1:decide (op < 30)=false:=by simp;omega
 have e2:decide (42 < op)=false:=by simp;omega
 refine zY ?_;refine yam 10 rfl (fun h=>by simp at h;omega) (fun _=>?_);refine zY ?_;refine yam 14 rfl (fun h=>by simp at h;omega) (fun _=>?_)
 (repeat (first|refine zy ?_|refine zc (zch ha) ?_|refine zc (zch hb) ?_|refine zc (rapp_con op a b hop ha hb) ?_|refine zc (zxp _) ?_))
 exact zp
end
section
open Go.RowKit
theorem zgb {l:List α} (hk:k<=l.length) (h:¬ k < l.length):l.take k=l:=qak om
theorem yyp (l:List Int) (hl:l.length<=1000):Con prog 269 [yah l] (i64 (zzq l)):=by
 refine ze Tryz.func269 ntmps269 Tryz.results269 ?_;refine zY ?_;refine ybl (α:=Nat) (fun k=>[(8,i64 k),(7,i64 l.length),(6,yah l),(3,i64 (zzq (l.take k)))]) (fun _=>[]) (fun k=>l.length - k) (fun k=>k<=l.length) 0 om zs zh ?_;intro k hk;have hc:=xax (l.take k);rw [qcf] at hc;refine zY ?_;refine zj ?_ ?_ <;> intro h
 .simp at h;obtain ⟨a,ha⟩:=ybr h;refine zY ?_;refine zj ?_ ?_ <;> intro h2
  .simp at h2;refine zY ?_;refine rnd (k+1) om om (by rw [zzm ha,zsd,if_pos h2];exact zs) zh
  simp at h2;refine zY ?_;refine rnd (k+1) om om (by rw [zzm ha,zsd,if_neg (by simp [h2])];exact zs) zh
 simp at h;rw [zgb hk om];exact zkp
theorem zvh (l:List Int) (hl:l.length<=1000):Con prog 272 [yah l] (.tup [i64 (zcm l (-yeu,-yeu)).1,i64 (zcm l (-yeu,-yeu)).2]):=by
 refine ze Tryz.func272 ntmps272 Tryz.results272 ?_;refine zY ?_;refine ybl (α:=Nat) (fun k=>[(8,i64 k),(7,i64 l.length),(6,yah l),(2,i64 (zcm (l.take k) (-yeu,-yeu)).1),(3,i64 (zcm (l.take k) (-yeu,-yeu)).2)]) (fun _=>[]) (fun k=>l.length - k) (fun k=>k<=l.length) 0 om zs zh ?_;intro k hk;have hle:=xgz (l.take k) (-yeu,-yeu) (qgz _);refine zY ?_;refine zj ?_ ?_ <;> intro h
 .simp at h;obtain ⟨a,ha⟩:=ybr h;have e:=zts (l.take k) a (-yeu,-yeu);rw [two_step hle,<- zzm ha] at e;refine zY ?_;refine zj ?_ ?_ <;> intro h2
  .simp at h2;rw [if_pos h2] at e;refine zY ?_;refine rnd (k+1) om om (by rw [e];exact zs) zh
  simp at h2;rw [if_neg om] at e;have e2:(if a > (zcm (l.take k) (-yeu,-yeu)).2 then a else (zcm (l.take k) (-yeu,-yeu)).2)=max (zcm (l.take k) (-yeu,-yeu)).2 a:=by split <;> omega
  refine zY ?_;rw [e2];refine rnd (k+1) om om (by rw [e];exact zs) zh
 simp at h;rw [zgb hk om];exact zkp
def xfc:List Int->Int->Nat->Int
 | [],_,_=>-1
 | b::l,a,k=>if a=b then k else xfc l a (k+1)
theorem xbt:∀ {l:List Int} {k i:Nat} {a:Int},l[i]?=some a->(∀ j b,j < i->l[j]?=some b->a≠b)->xfc l a k=((k+i:Nat):Int)
 | b::l,k,0,a,h,_=>by
  simp only [qat,Option.some.injEq] at h;subst h;simp [xfc]
 | b::l,k,i+1,a,h,hall=>by
  have hb:=hall 0 b om rfl;simp only [xfc,if_neg hb];rw [xbt (l:=l) (k:=k+1) (i:=i) (by simpa using h) (fun j c hj hc=>hall (j+1) c om (by simpa using hc))];rw [show k+1+i=k+(i+1) by omega]
theorem zsi:∀ {l:List Int} {k:Nat} {a:Int},(∀ b∈l,a≠b)->xfc l a k=-1
 | [],k,a,_=>rfl
 | b::l,k,a,h=>by
  simp only [xfc,if_neg (h b sm)];exact zsi fun c hc=>h c (by simp [hc])
theorem zjb {b:Int} (h:∀ j c,j < k->l[j]?=some c->a≠c) (hb:l[k]?=some b) (hn:a≠b):∀ j c,j < k+1->l[j]?=some c->a≠c:=by
 intro j c hj hc;by_cases e:j=k
 .subst e;rw [hb] at hc;cases hc;exact hn
 exact h j c om hc
theorem zpr (hk:l.length<=k) (h:∀ j c,j < k->l[j]?=some c->a≠c):∀ c∈l,a≠c:=by
 intro c hc;obtain ⟨j,hj⟩:=qan hc;exact h j c (by have:=(qaa.1 hj).1;omega) hj
theorem indexI_con (l:List Int) (a:Int) (hl:l.length<=1000):Con prog 295 [yah l,i64 a] (i64 (xfc l a 0)):=by
 refine ze Tryz.func295 ntmps295 Tryz.results295 ?_;refine zY ?_;refine ybl (α:=Nat) (fun k=>[(8,i64 k),(7,i64 l.length),(0,yah l),(1,i64 a)]) (fun _=>[]) (fun k=>l.length - k) (fun k=>k<=l.length/\∀ j c,j < k->l[j]?=some c->a≠c) 0 ⟨om,fun j c hj=>absurd hj om⟩ zs zh ?_;intro k ⟨hk,hn⟩;refine zY ?_;refine zj ?_ ?_ <;> intro h
 .simp at h;obtain ⟨b,hb⟩:=ybr h;refine zY ?_;refine zj ?_ ?_ <;> intro h2
  .simp at h2;subst h2;refine zk ?_;exact yaf (by rw [xbt hb hn,qba])
  simp at h2;refine zY ?_;refine rnd (k+1) ⟨om,zjb hn hb h2⟩ om zs zh
 simp at h;refine zk ?_;exact yaf (by rw [zsi (zpr om hn)])
theorem idxI_ge (l:List Int) (a:Int) (k:Nat):decide (0<=xfc l a k)=decide (a∈l):=by
 by_cases h:a∈l
 .rw [decide_eq_true h];apply decide_eq_true;induction l generalizing k with
  | nil=>cases h
  | cons b l ih=>
   simp only [xfc];split
   .omega
   exact ih _ ((qas.1 h).resolve_left (by assumption))
 rw [zsi fun b hb e=>h (by rw [e];exact hb),decide_eq_false h];rfl
theorem contI_con (l:List Int) (a:Int) (hl:l.length<=1000):Con prog 289 [yah l,i64 a] (yay (decide (a∈l))):=by
 refine ze Tryz.func289 ntmps289 Tryz.results289 ?_
 (repeat (first|refine zy ?_|refine zc (indexI_con l a hl) ?_))
 refine zr ?_;exact yae (idxI_ge l a 0)
theorem emex_con (l:List Int) (hl:l.length<=1000):Con prog 273 [yah l] (i64 (zwk l (l.length+1) 0)):=by
 refine ze Tryz.func273 ntmps273 Tryz.results273 ?_;refine zY ?_;refine ybl (α:=Nat) (fun k=>[(0,yah l),(3,i64 k)]) (fun _=>[]) (fun k=>l.length+1 - k) (fun k=>∀ j,j < k->((j:Nat):Int)∈l) 0 (fun j hj=>absurd hj om) zs zh ?_;intro k hk;have hb:=yzc k l hk
 (repeat (first|refine zy ?_|refine zc (contI_con l k hl) ?_))
 refine zj ?_ ?_ <;> intro h
 .have hm:=of_decide_eq_true h;have hk1:∀ j,j < k+1->((j:Nat):Int)∈l:=fun j hj=>by
   by_cases e:j=k
   .subst e;exact hm
   exact hk j om
  have hb1:=yzc (k+1) l hk1;refine zY ?_;refine rnd (k+1) hk1 om zs zh
 have hm:=of_decide_eq_false h;refine zk ?_;exact yaf (by rw [xcb hk,zwl hm])
theorem fold1_con (a:Int):Con prog 271 [i64 a] (yay (a != 0)):=by
 refine ze Tryz.func271 ntmps271 Tryz.results271 ?_;exact zkp
theorem indexF_con (l:List Int) (hl:l.length<=1000):Con prog 270 [yah l,.fn 271 []] (i64 (zbc l 0)):=by
 refine ze Tryz.func270 ntmps270 Tryz.results270 ?_;refine zY ?_;refine ybl (α:=Nat) (fun k=>[(8,i64 k),(7,i64 l.length),(0,yah l),(1,.fn 271 [])]) (fun _=>[]) (fun k=>l.length - k) (fun k=>k<=l.length/\∀ j b,j < k->l[j]?=some b->b=0) 0 ⟨om,fun j c hj=>absurd hj om⟩ zs zh ?_;intro k ⟨hk,hn⟩;refine zY ?_;refine zj ?_ ?_ <;> intro h
 .simp at h;obtain ⟨b,hb⟩:=ybr h
  (repeat (first|refine zy ?_|refine zc (fold1_con b) ?_))
  refine zj ?_ ?_ <;> intro h2
  .simp at h2;refine zk ?_;exact yaf (by rw [zvr hb h2 hn,qba])
  simp at h2;refine zY ?_;refine rnd (k+1) ⟨om,fun j c hj hc=>?_⟩ om zs zh;by_cases e:j=k
  .subst e;rw [hb] at hc;cases hc;exact h2
  exact hn j c om hc
 simp at h;refine zk ?_;exact yaf (by rw [zbr fun a ha=>by
  obtain ⟨j,hj⟩:=qan ha
  exact hn j a (by have:=(qaa.1 hj).1;omega) hj])
end
section
open Go.RowKit
theorem efold_con (op:Int) (l:List Int) (hop:20<=op/\op<=29) (hl:l.length<=1000) (hin:∀ a∈l,InV a):Con prog 247 [i64 op,yah l] (i64 (zsf op l)):=by
 refine ze Tryz.func247 ntmps247 Tryz.results247 ?_;have:op=20\/op=21\/op=22\/op=23\/op=24\/op=25\/op=26\/op=27\/op=28\/op=29:=by omega
 rcases this with rfl|rfl|rfl|rfl|rfl|rfl|rfl|rfl|rfl|rfl
 ·(repeat (first|refine zy ?_|refine zc (yyp l hl) ?_|refine zc (yfs _) ?_))
  refine zr ?_;exact yaf (by show _=ypv _;congr 1;rw [qbq];simp;omega)
 ·(repeat (first|refine zy ?_|refine zc (yyp l hl) ?_|refine zc (yfs _) ?_))
  refine zr ?_;exact yaf (by show _=ypv _;congr 1;rw [qbq];simp)
 ·(repeat (first|refine zy ?_|refine zc (yyp l hl) ?_))
  refine zr ?_;exact yaf rfl
 ·(repeat (first|refine zy ?_|refine zc (indexF_con l hl) ?_))
  refine zr ?_;exact yaf rfl
 .refine zY ?_;refine ybl (α:=Nat) (fun k=>[(42,i64 k),(41,i64 l.length),(40,yah l),(5,i64 (ypr (l.take k)))]) (fun _=>[]) (fun k=>l.length - k) (fun k=>k<=l.length) 0 om zs zh ?_;intro k hk;refine zY ?_;refine zj ?_ ?_ <;> intro h
  .simp at h;obtain ⟨a,ha⟩:=ybr h;have e2:(if a < ypr (l.take k) then a else ypr (l.take k))=ypr (l.take (k+1)):=by rw [zzm ha,zpb];split <;> omega
   refine zY ?_;rw [e2];refine rnd (k+1) om om zs zh
  simp at h;rw [zgb hk om];refine zk ?_;exact yaf rfl
 ·(repeat (first|refine zy ?_|refine zc (zvh l hl) ?_))
  refine zr ?_;exact yaf (by rw [zgg];rfl)
 .refine zY ?_;refine ybl (α:=Nat) (fun k=>[(63,i64 k),(62,i64 l.length),(61,yah l),(10,i64 (l.take k).sum)]) (fun _=>[]) (fun k=>l.length - k) (fun k=>k<=l.length) 0 om zs zh ?_;intro k hk;have hs:=xdz (l:=l.take k) fun a ha=>hin a (qcs ha);rw [qcf] at hs;unfold yeu at hs;refine zY ?_;refine zj ?_ ?_ <;> intro h
  .simp at h;obtain ⟨a,ha⟩:=ybr h;have hai:=hin a (qab ha);unfold InV yeu at hai;refine zY ?_;refine rnd (k+1) om om (by rw [zzm ha,xdy];exact zs) zh
  simp at h;rw [zgb hk om]
  (repeat (first|refine zy ?_|refine zc (ysa _) ?_))
  refine zr ?_;exact yaf rfl
 ·(repeat (first|refine zy ?_|refine zc (emex_con l hl) ?_))
  refine zr ?_;exact yaf rfl
 ·(repeat (first|refine zy ?_|refine zc (zvh l hl) ?_))
  refine zr ?_;exact yaf rfl
 refine zY ?_;cases l with
 | nil=>
  refine zk ?_;exact yaf rfl
 | cons a l=>
  refine zY ?_;refine yne tok rfl rfl rfl om (rfl) rfl rfl ?_;refine zk ?_;exact yaf rfl
theorem roccurs_con (l:List Int) (a:Int) (hl:l.length<=1000):Con prog 254 [yah l,i64 a] (yay (decide (a∈l))):=by
 refine ze Tryz.func254 ntmps254 Tryz.results254 ?_;refine zY ?_;refine ybl (α:=Nat) (fun k=>[(5,i64 k),(0,yah l),(1,i64 a)]) (fun _=>[]) (fun k=>l.length - k) (fun k=>k<=l.length/\∀ j c,j < k->l[j]?=some c->a≠c) 0 ⟨om,fun j c hj=>absurd hj om⟩ zs zh ?_;intro k ⟨hk,hn⟩;refine zY ?_;refine zj ?_ ?_ <;> intro h
 .simp at h;obtain ⟨b,hb⟩:=ybr h;refine zY ?_;refine zj ?_ ?_ <;> intro h2
  .simp at h2;subst h2;refine zk ?_;exact yae (decide_eq_true (qab hb)).symm
  simp at h2;refine zY ?_;refine rnd (k+1) ⟨om,zjb hn hb (fun e=>h2 e.symm)⟩ om zs zh
 simp at h;have hno:=zpr om hn;refine zk ?_;exact yae (decide_eq_false fun hm=>hno a hm rfl).symm
def xmj (l:List Int) (k:Nat):List (Nat × AV):=[(11,i64 k),(1,yah l),(5,i64 (zzq (l.take k))),(6,i64 (zbc (l.take k) 0)),(7,i64 (ypr (l.take k))),(8,i64 (yoe (l.take k))),(9,i64 (zcm (l.take k) (-yeu,-yeu)).2),(10,i64 (l.take k).sum)]
theorem acc_step (ha:l[k]?=some a):
  zzq (l.take (k+1))=zzq (l.take k)+(if a≠0 then 1 else 0)/\zbc (l.take (k+1)) 0=(if 0<=zbc (l.take k) 0 then zbc (l.take k) 0 else if a≠0 then (k:Int) else -1) /\
  ypr (l.take (k+1))=(if a < ypr (l.take k) then a else ypr (l.take k))/\yoe (l.take (k+1))=(if a > yoe (l.take k) then a else yoe (l.take k)) /\
  (zcm (l.take (k+1)) (-yeu,-yeu)).2=(if (if a < yoe (l.take k) then a else yoe (l.take k)) > (zcm (l.take k) (-yeu,-yeu)).2 then (if a < yoe (l.take k) then a else yoe (l.take k)) else (zcm (l.take k) (-yeu,-yeu)).2) /\
  (l.take (k+1)).sum=(l.take k).sum+a:=by
 have hk:k<=l.length:=by have:=(qaa.1 ha).1;omega
 have hlen:(l.take k).length=k:=by rw [qcf];omega
 rw [zzm ha,zsd,xbq,zpb,great_app,zts,xdy,zgg,hlen,qba];refine ⟨rfl,rfl,?_,?_,?_,rfl⟩
 .split <;> omega
 .split <;> omega
 show max _ (min (yoe (l.take k)) a)=_
 repeat' split
 all_goals omega
theorem rfold_con (op:Int) (l:List Int) (hop:20<=op/\op<=29) (hl:l.length<=1000) (hin:∀ a∈l,InV a):Con prog 226 [i64 op,yah l] (i64 (zsf op l)):=by
 refine ze Tryz.func226 ntmps226 Tryz.results226 ?_;refine zY ?_;refine ybl (α:=Nat) (fun k=>(0,i64 op)::xmj l k) (fun _=>[]) (fun k=>l.length - k) (fun k=>k<=l.length) 0 om zs zh ?_;intro k hk;have hs:=xdz (l:=l.take k) fun a ha=>hin a (qcs ha);have hc:=xax (l.take k);rw [qcf] at hs hc;unfold yeu at hs;unfold xmj;refine zY ?_;refine zj ?_ ?_ <;> intro h
 .simp at h;obtain ⟨a,ha⟩:=ybr h;have hai:=hin a (qab ha);unfold InV yeu at hai;obtain ⟨s1,s2,s3,s4,s5,s6⟩:=acc_step ha;refine zY ?_;refine zj ?_ ?_ <;> intro h2
  .simp at h2;rw [if_pos h2] at s1;rw [if_pos h2] at s2;refine zY ?_;refine yam 31 rfl (fun _=>?_) (fun h=>absurd h2 (by simpa using h));refine zY ?_;refine zj ?_ ?_ <;> intro h3
   .simp at h3;rw [if_neg om] at s2;refine zY ?_;refine rnd (k+1) om om (by rw [s1,s2,s3,s4,s5,s6];exact zs) zh
   simp at h3;rw [if_pos h3] at s2;refine zY ?_;refine rnd (k+1) om om (by rw [s1,s2,s3,s4,s5,s6];exact zs) zh
  simp at h2;rw [if_neg (by simp [h2])] at s1;have s2:zbc (l.take (k+1)) 0=zbc (l.take k) 0:=by
   rw [s2,if_neg (c:=a≠0) (by simp [h2])];split
   .rfl
   rcases zvs (l.take k) 0 with e|e <;> omega
  refine zY ?_;refine yam 31 rfl (fun h=>absurd h2 (by simpa using h)) (fun _=>?_);refine zY ?_;refine rnd (k+1) om om (by rw [s1,s2,s3,s4,s5,s6];exact zs) zh
 simp at h;rw [zgb hk om];have:op=20\/op=21\/op=22\/op=23\/op=24\/op=25\/op=26\/op=27\/op=28\/op=29:=by omega
 rcases this with rfl|rfl|rfl|rfl|rfl|rfl|rfl|rfl|rfl|rfl
 ·(repeat (first|refine zy ?_|refine zc (ydd _) ?_))
  refine zr ?_;exact yaf (by show _=ypv _;congr 1;rw [qbq];simp;omega)
 ·(repeat (first|refine zy ?_|refine zc (ydd _) ?_))
  refine zr ?_;exact yaf (by show _=ypv _;congr 1;rw [qbq];simp)
 .refine zk ?_;exact yaf rfl
 .refine zk ?_;exact yaf rfl
 .refine zk ?_;exact yaf rfl
 .refine zk ?_;exact yaf rfl
 ·(repeat (first|refine zy ?_|refine zc (zxp _) ?_))
  refine zr ?_;exact yaf rfl
 .refine zY ?_;refine ybl (α:=Nat) (fun k=>[(1,yah l),(12,i64 k)]) (fun _=>[]) (fun k=>l.length+1 - k) (fun k=>∀ j,j < k->((j:Nat):Int)∈l) 0 (fun j hj=>absurd hj om) zs zh ?_;intro q hq;have hb:=yzc q l hq
  (repeat (first|refine zy ?_|refine zc (roccurs_con l q hl) ?_))
  refine zj ?_ ?_ <;> intro h4
  .have hm:=of_decide_eq_true h4;have hk1:∀ j,j < q+1->((j:Nat):Int)∈l:=fun j hj=>by
    by_cases e:j=q
    .subst e;exact hm
    exact hq j om
   have hb1:=yzc (q+1) l hk1;refine zY ?_;refine rnd (q+1) hk1 om zs zh
  have hm:=of_decide_eq_false h4;refine zk ?_;exact yaf (by rw [show zsf 27 l=((zwk l (l.length+1) 0:Nat):Int) from rfl,xcb hq,zwl hm])
 .refine zk ?_;exact yaf rfl
 cases l with
 | nil=>
  refine zk ?_;exact yaf rfl
 | cons a l=>
  refine zY ?_;refine yne tok rfl rfl rfl om (rfl) rfl rfl ?_;refine zk ?_;exact yaf rfl
end
section
open Go.RowKit
def ydt (g:GraphD) (v:Nat) (ls:List Lk):List Int:=ls.map fun l=>yjw (g.ports.getD l.1.toNat []) v
def ypn (g:GraphD):List (List Int):=g.ports.mapIdx fun v ls=>ydt g v ls
def zci (p:ProgD) (g:GraphD):List AV:=[ynt p.name,.sl 6 (p.vars.map ybq),.sl 3 (p.rules.map ybg),yah g.ids,yat g.ports,i64 (ybz g.ids),yds (ypn g)]
def yis (p:ProgD) (g:GraphD):AV:=.dp (zci p g) 0
theorem backs_get {ls:List Lk} (h:g.ports[v]?=some ls):(ypn g)[v]?=some (ydt g v ls):=by simp [ypn,h]
theorem back_get {ls ls':List Lk} {l:Lk} (h:ls[k]?=some l) (h':g.ports[l.1.toNat]?=some ls'):(ydt g v ls)[k]?=some (yjw ls' v):=by
 simp [ydt,h,h']
def ztv (p:ProgD) (g:GraphD) (c:List (List Int)) (v:Nat) (e:List Tm):AV:=.dp [yis p g,yds c,i64 v,ybk e] 0
end
section
open Go.RowKit
theorem fact_con (p:ProgD) (g:GraphD) (hg:ych g=true) (c:List (List Int)) (v:Nat) (ls:List Lk) (hls:g.ports[v]?=some ls) (op port a:Int) (hop:6<=op/\op<=17/\op≠12) (hp:12<=op->0<=port/\port < ls.length) :
  Con prog 245 [yis p g,i64 op,i64 v,i64 port] (i64 ((⟨g,c,v⟩:Scn).leaf port (op,a))):=by
 have hv:=yba hg;have hvl:=(qaa.1 hls).1;have hlb:=hv.2.2.2.2.2.1 v ls hls;have hll:=ydb hvl hlb;have hids:=hv.2.2.1;obtain ⟨id,hid⟩:=ybr (show v < g.ids.length by omega);have hd:(⟨g,c,v⟩:Scn).deg=ls.length:=by simp [Scn.deg,hls]
 refine ze Tryz.func245 ntmps245 Tryz.results245 ?_;have:op=6\/op=7\/op=8\/op=9\/op=10\/op=11\/12 < op:=by omega
 rcases this with rfl|rfl|rfl|rfl|rfl|rfl|h12
 .refine zY ?_;refine zr ?_;exact yaf rfl
 .refine zY ?_;refine zr ?_;exact yaf rfl
 .refine zY ?_;refine zr ?_;exact yaf (by simp [Scn.leaf,hid])
 .refine zY ?_;refine zr ?_;exact yaf (by simp [Scn.leaf,hd])
 ·(repeat (first|refine zy ?_|refine zc (yfs _) ?_))
  refine zr ?_;exact yaf (by simp only [Scn.leaf];show ypv ((v:Int) == 0)=ypv (v == 0);congr 1;rw [qbq,beq_iff_eq,beq_iff_eq];omega)
 .refine zY ?_;refine zr ?_;exact yaf rfl
 obtain ⟨hp0,hp1⟩:=hp om;obtain ⟨l,hl⟩:=ybr (show port.toNat < ls.length by omega);have hl1:=(ybp _ _ _).1 (((yck _ _ _).1 hlb).1 l (qab hl));have hlk:(⟨g,c,v⟩:Scn).link port=l:=by simp [Scn.link,hls,hl]
 obtain ⟨ls',hls'⟩:=ybr (show l.1.toNat < g.ports.length by omega);obtain ⟨id',hid'⟩:=ybr (show l.1.toNat < g.ids.length by omega);have hll':=ydb (show l.1.toNat < g.ports.length by omega) (hv.2.2.2.2.2.1 _ ls' hls');have hb1:=backs_get hls;have hb2:=back_get (g:=g) (v:=v) hl hls';have:op=13\/op=14\/op=15\/op=16\/op=17:=by omega
 rcases this with rfl|rfl|rfl|rfl|rfl
 .refine zY ?_;refine zr ?_;exact yaf (by simp [Scn.leaf,hlk,hid'])
 .refine zY ?_;refine zr ?_;exact yaf (by simp [Scn.leaf,hlk,hls'])
 ·(repeat (first|refine zy ?_|refine zc (yfs _) ?_))
  refine zr ?_;exact yaf (by simp [Scn.leaf,hlk])
 .refine zY ?_;refine zr ?_;exact yaf (by simp [Scn.leaf,hlk])
 refine zY ?_;refine zr ?_;exact yaf (by simp [Scn.leaf,hlk,hls'])
theorem wleaf_con (p:ProgD) (g:GraphD) (hg:ych g=true) (c:List (List Int)) (e:List Tm) (v:Nat) (ls:List Lk) (hls:g.ports[v]?=some ls) (t:Tm) (port:Int) (hop:1<=t.1/\t.1<=17) (hp:12<=t.1->0<=port/\port < ls.length)
  (hc:c.length=g.ports.length) (hx:t.1=5\/t.1=12->0<=t.2/\∀ r∈c,t.2 < r.length) :
  Con prog 219 [ztv p g c v e,.agg [i64 t.1,i64 t.2],i64 port] (i64 ((⟨g,c,v⟩:Scn).leaf port t)):=by
 obtain ⟨op,a⟩:=t;simp only at hop hp hx ⊢;have hv:=yba hg;have hvl:=(qaa.1 hls).1;have hlb:=hv.2.2.2.2.2.1 v ls hls;have hll:=ydb hvl hlb;obtain ⟨r,hr⟩:=ybr (show v < c.length by omega);refine ze Tryz.func219 ntmps219 Tryz.results219 ?_;have:op=1\/op=2\/op=3\/op=4\/op=5\/op=12\/(6<=op/\op<=17/\op≠12):=by omega
 rcases this with rfl|rfl|rfl|rfl|rfl|rfl|h12
 .refine zY ?_;refine zr ?_;exact yaf rfl
 .refine zY ?_;refine zr ?_;exact yaf rfl
 .refine zY ?_;refine zr ?_;exact yaf rfl
 .refine zY ?_;refine zr ?_;exact yaf rfl
 .obtain ⟨hx0,hx1⟩:=hx (.inl rfl);have hx2:=hx1 r (qab hr);obtain ⟨z,hz⟩:=ybr (show a.toNat < r.length by omega);refine zY ?_;refine zr ?_;exact yaf (by simp [Scn.leaf,Scn.get,hr,hz])
 .obtain ⟨hp0,hp1⟩:=hp om;obtain ⟨l,hl⟩:=ybr (show port.toNat < ls.length by omega);have hl1:=(ybp _ _ _).1 (((yck _ _ _).1 hlb).1 l (qab hl));have hlk:(⟨g,c,v⟩:Scn).link port=l:=by simp [Scn.link,hls,hl]
  obtain ⟨r',hr'⟩:=ybr (show l.1.toNat < c.length by omega);obtain ⟨hx0,hx1⟩:=hx (.inr rfl);have hx2:=hx1 r' (qab hr');obtain ⟨z,hz⟩:=ybr (show a.toNat < r'.length by omega);refine zY ?_;refine zr ?_;exact yaf (by simp [Scn.leaf,Scn.get,hlk,hr',hz])
 have h1:¬ op=1:=by omega
 have h2:¬ op=2:=by omega
 have h3:¬ op=3:=by omega
 have h4:¬ op=4:=by omega
 have h5:¬ op=5:=by omega
 refine zY ?_;refine zj ?_ ?_ <;> intro q1
 .exact absurd (by simpa using q1) h1
 refine zY ?_;refine zj ?_ ?_ <;> intro q2
 .exact absurd (by simpa using q2) h2
 refine zY ?_;refine zj ?_ ?_ <;> intro q3
 .exact absurd (by simpa using q3) h3
 refine zY ?_;refine zj ?_ ?_ <;> intro q4
 .exact absurd (by simpa using q4) h4
 refine zY ?_;refine zj ?_ ?_ <;> intro q5
 .exact absurd (by simpa using q5) h5
 refine zY ?_;refine zj ?_ ?_ <;> intro q6
 .exact absurd (by simpa using q6) h12.2.2
 (repeat (first|refine zy ?_|refine zc (fact_con p g hg c v ls hls op port a h12 hp) ?_))
 refine zr ?_;exact yaf rfl
end
section
open Go.RowKit
section
variable {P:Program} {T:Nat->Option Ty} {N:Nat} {ops:Array Oper} {lf:Oper->Bool} {Q:SS->Prop} {t:List (Nat × AV)} {h:List (Nat × Option LObj)} {rest:List Oper} {d:Nat} {op:Op} {ty:TypeId} {pos:String} {af:Array Edge} {gd:Option (Nat × Bool)} {r:AV}
theorem yield_arrslice {ρ:Operand->Option AV} {hp:Nat->Option LObj} {ti n:Nat} {ea:Bool} {x y:Operand} {k:IntKind} {i:Int} {row:List AV} (hk:yfy P ti (.arr n 1 ea)) (hx:ρ x=some (.dp row 0)) (hy:ρ y=some (.v (.int k i))) (hn:row.length=n) (hm:n<=maxLen) (h0:0<=i) (h1:i<=n):yby P hp ρ (.slice ti x none (some y) none) ty (.sl 1 ((row.take i.toNat).map fun c=>[c])):=
 yav fun B ok0 lv w a o ho hty hi' hops=>by
  have hr:=hops x _ (by simp [Op.operands]) hx;have hiv:=ykf (hops y _ (by simp [Op.operands]) hy);generalize hv:a.eval x=v at hr;cases hr with
  | dp g q u hg hc hr=>
   obtain ⟨e,he,hs⟩:=hk;have hrun:(Instr.sliceAt ti (.pointer (some ⟨g,q,none⟩)) none (some (a.eval y)) none).run P w=.ok (.slice (some ⟨g,q,none⟩) i.toNat n) w:=by
    rw [hiv];have h7:=(hs.run (w:=w)).1;by_cases hz:n=0
    .subst hz;have:i=0:=by omega
     subst this;simp [Instr.sliceAt,run_underlying he,Instr.sureAddr,Instr.sliceBounds,Instr.sliceBound,asIntOf,h7]
    simp [Instr.sliceAt,run_underlying he,Instr.sureAddr,Instr.sliceBounds,Instr.sliceBound,asIntOf,h7,h0,h1,Addr.add]
   refine ⟨.slice (some ⟨g,q,none⟩) i.toNat n,by have hv':a.eval x=.pointer (some ⟨g,q,none⟩):=hv;simp [execOp,ho,hv',hrun],?_⟩;have hlen:((row.take i.toNat).map fun c=>[c]).length=i.toNat:=by simp;omega
   have hget:∀ (k j:Nat) (r:List AV) (c:AV),((row.take i.toNat).map fun c=>[c])[k]?=some r->r[j]?=some c->j=0/\row[k]?=some c:=by
    intro k j r c h2 h3;rw [qah,qbc] at h2;split at h2
    .cases hk:row[k]? with
     | none=>rw [hk] at h2;cases h2
     | some z=>
      rw [hk] at h2;cases h2;cases j with
      | zero=>cases h3;exact ⟨rfl,rfl⟩
      | succ j=>cases h3
    cases h2
   have:=Rel.sl (ok:=yax B ok0 lv w) (w:=w) (lv:=lv) (size:=1) (rows:=(row.take i.toNat).map fun c=>[c]) (some ⟨g,q,none⟩) n (fun k j=>u k) g q (by rw [hlen];omega) hm (fun h=>by cases h) (fun r hr=>by obtain ⟨c,_,rfl⟩:=qag.1 hr;rfl) (fun _=>⟨rfl,hg⟩) (fun k j r c h2 h3=>by
    obtain ⟨rfl,h4⟩:=hget k j r c h2 h3
    have:=hc k c h4
    rwa [show q+k * 1+0=q+k by omega]) (fun k j r c h2 h3=>by
    obtain ⟨rfl,h4⟩:=hget k j r c h2 h3
    exact hr k c h4)
   rwa [hlen] at this
theorem L_arrslice (hT:TOK P T) {ti n z:Nat} {ag ea:Bool} {zs:List Value} {x y:Operand} {k:IntKind} {i:Int} {row:List AV} (ht:T ti=some ⟨.arr n 1 ea,z,ag,zs⟩) (hx:evF (yaj t) x=some (.dp row 0)) (hy:evF (yaj t) y=some (.v (.int k i))) (hn:row.length=n) (hm:n<=maxLen) (h0:0<=i) (h1:i<=n)
  (hw:yal ops (yaj t) ⟨some d,.slice ti x none (some y) none,ty,pos,af,gd⟩=some true) (hd:Nat.blt d N=true) (k:Lex P N ops lf Q rest (S ((d,.sl 1 ((row.take i.toNat).map fun c=>[c]))::t) h)):Lex P N ops lf Q (⟨some d,.slice ti x none (some y) none,ty,pos,af,gd⟩::rest) (S t h):=
 ycl (yield_arrslice (hT _ _ ht).2.2 hx hy hn hm h0 h1) hw hd k
theorem zuc (hT:TOK P T) {ti:Nat} {y:Ty} {x v:Operand} {id off:Nat} {xs:List AV} {u:AV} (hy:T ti=some y) (hx:evF (yaj t) x=some (.lp id off)) (hv:evF (yaj t) v=some u) (hcs:yeh u=some [u]) (hcl:Nat.beq 1 y.size=true) (hh:yac h id=some (.cells xs)) (hlt:off < xs.length)
  (hl:lf ⟨none,.store ti x v,ty,pos,af,gd⟩=true) (hw:yal ops (yaj t) ⟨none,.store ti x v,ty,pos,af,gd⟩=some true) (k:Lex P N ops lf Q rest (S t ((id,some (.cells (xs.set off u)))::h))):Lex P N ops lf Q (⟨none,.store ti x v,ty,pos,af,gd⟩::rest) (S t h):=by
 have he:xs.set off u=xs.take off++[u]++xs.drop (off+[u].length):=by
  rw [qem,if_pos hlt];simp
 refine yec hl hw (by rw [<- S_h,he];exact yjf rfl rfl (hT _ _ hy).1 hx hv hcs (by simpa using hcl) hh (.cells so)) k
end
theorem A_freezeBoxS {N:Nat} {t:List (Nat × AV)} {c:Code} {Q:Exit->SS->Prop} {t':List (Nat × AV)} {h0 h':List (Nat × Option LObj)} (d:Nat) {id off:Nat} {xs:List AV} (hd:yaj t d=some (.lp id off)) (hp:yar.pureL xs=true) (ht:yvt id t=some t') (hh:ysx id h0=some h') (k:A P N c Q (S ((d,.dp xs off)::t') ((id,none)::h'))):A P N c Q (S t ((id,some (.cells xs))::h0)):=by
 intro B ok0 lv a w hs;obtain ⟨g1,g2⟩:=yhy ht;obtain ⟨lv',hs'⟩:=hs.freezeBox (s':=S t' ((id,none)::h')) hd yaz hp (fun x y hy=>(g1 x y hy).imp (fun h=>h) And.left) g2 (by simp [S,yac]) (fun j ob' hj=>by
  by_cases e:j=id
  .subst e;simp [S,yac] at hj
  have hj:yac ((id,none)::h') j=some ob':=hj
  rw [yao e] at hj
  obtain ⟨_,ob,q1,q2⟩:=ygp hh j ob' hj
  exact ⟨ob,by show yac _ _=_;rw [yao e];exact q1,q2⟩)
 rw [show (⟨yfk (S t' ((id,none)::h')).t (some d) (.dp xs off),(S t' ((id,none)::h')).h⟩:SS)=S ((d,.dp xs off)::t') ((id,none)::h') by unfold S;rw [ydh]] at hs';exact k B ok0 lv' a w hs'
theorem yvc {N:Nat} {x y:Code} {Q:Exit->SS->Prop} {s:SS} (t0:List (Nat × AV)) (h0:List (Nat × Option LObj)) (k1:A P N x (Mid t0 h0) s) (k2:A P N y Q (S t0 h0)):A P N x (xks P N y Q) s:=
 k1.mono fun e s' he=>by obtain ⟨rfl,hs⟩:=he;exact ynu k2 hs
theorem zjd:∀ l:List Int,yar.pureL (l.map i64)=true
 | []=>rfl
 | a::l=>by simp [yar.pureL,yar,i64,zjd l]
def yvg (f:Nat->Int) (n k:Nat):List Int:=(List.range k).map f++List.replicate (n - k) 0
theorem yyc (h:k<=n):(yvg f n k).length=n:=by simp [yvg];omega
theorem xao (h:k < n):((yvg f n k).map i64).set k (i64 (f k))=(yvg f n (k+1)).map i64:=by
 rw [show i64 (f k)=i64 (f k) from rfl,<- qeg];congr 1;unfold yvg;rw [qbm _ _ sm,qcr];obtain ⟨m,hm⟩:∃ m,n - k=m+1:=⟨n - k - 1,om⟩;rw [show n - (k+1)=m by omega,hm];simp [qbo]
theorem arr_take:(((yvg f n k).map i64).take k).map (fun c=>[c])=((List.range k).map f).map fun x=>[i64 x]:=by
 unfold yvg;rw [qbu,List.take_append_of_le_length sm,qak sm];simp
end
end Go.Proofs.YtgpodcjhgdionaaGreatDoor
