/- Part 18 of the texts under TopWorstIsPlayed. -/
import Derived.Test.YtgpodcjhgdionaaGreatDoorRows
import Derived.Lib.LaidTab
import Derived.Deep.DeepHandedRow
import Derived.LaidSub
import Derived.Test.YtgpodcjhgdionaaGreatDoorCW1
import Derived.Test.YtgpodcjhgdionaaGreatDoorCW7
import Derived.Test.YtgpodcjhgdionaaGreatDoorCW9
import Derived.Test.YtgpodcjhgdionaaGreatDoorCW10
import Derived.Test.YtgpodcjhgdionaaGreatDoorCW12
import Derived.Test.YtgpodcjhgdionaaGreatDoorCW15
import Derived.Test.YtgpodcjhgdionaaGreatDoorCW16
import Derived.Test.YtgpodcjhgdionaaGreatDoorCW17
set_option linter.unusedVariables false
set_option maxRecDepth 100000
set_option maxHeartbeats 8000000
namespace Go.Proofs.YtgpodcjhgdionaaGreatDoor
open Go.Proofs.Tryz
section
open Go.RowKit
theorem zoz{s:SpcD}:∀ {f:Nat} {o:List Bool},(ysw s f o).length=o.length
 | 0,o=>rfl
 | f+1,o=>by
  have:=(zmm (s:=s) (m:=o.length) (k:=0) (xiz o)).len;unfold ysw;split
  .rw [zoz,this]
  exact this
theorem worst_walk(hA:Con prog 6 [] (yau true))(p:ProgD)(g:GraphD)(kind:Int)(L:List Bool)(k0:Int){s:SpcD}{o:List Bool}{k m v:Nat}{R:List Nat}{ws:List (BitVec 32)}{c T1:List (List Int)}{T2:BitVec 32}{T3:CntD}{T4 T5:List (BitVec 32)}
  (hsys:Con prog 5 [ygg p,yev g,i64 kind,yfv L] (xle (some s))) (hcore:Con prog 7 [yjw s,yfv L] (.tup [yfv o,i64 0])) (hany:Con prog 8 [yfv o] (yau false)) (hmod:Con prog 9 [i64 k0,i64 L.length] (i64 k)) (hmo:Con prog 10 [yjw s,yfv L] (wA (some R)))
  (hsc:Con prog 11 [yjw s,yfv L,i64 k] (.tup [ydh ws,i64 0])) (hun:Con prog 12 [ygg p,yev g,i64 k] (xkr (c,0))) (hpl:Con prog 13 [ygg p,yev g,i64 kind,ycj c,ydh ws] (zas (some ⟨T1,T2,T3,T4,T5⟩))) (hmr:Con prog 14 [ygg p,yev g,ycj T1] (zue ((m:Int),0)))
  (hLl:L.length<=200) (hk:k < L.length) (hm:m < L.length) (hmL:L[m]?=some true) (hRl:R.length=L.length) (hv:R[k]?=some v) (hmv:T3.moves=(v:Nat)) (hwl:ws.length<=200) (h0:ws=[]->L[k]?=some true)
  (h1:ws≠[]->∃ (U1:List (List Int)) (U2:BitVec 32) (U3:CntD) (U4 U5:List (BitVec 32)) (m2:Nat),m2 < L.length/\L[m2]?=some false/\Con prog 15 [ygg p,yev g,i64 kind,ycj c,ydh ws.dropLast] (.tup [yiq ⟨U1,U2,U3,U4,U5⟩,i64 0])/\Con prog 16 [ygg p,yev g,ycj U1] (zue ((m2:Int),0))):Con prog 3 [ygg p,yev g,i64 kind,yfv L,i64 k0] (yau true):=by
 have e3:(L.map fun b=>[yau b]).length=L.length:=qai ..;have e4:((yhc R).map fun z=>[i64 z]).length=R.length:=by simp[yhc]
 have e6:(yhc R).length=R.length:=by simp[yhc]
 have hvg:=yyt hv;have e5:(ws.map fun B=>[yav B]).length=ws.length:=qai ..;refine ze Tryz.func3 ntmps3 Tryz.results3 ?_;refine zZ ?_;refine zj ?_ ?_ <;> intro q1
 .simp at q1;omega
 refine zZ ?_;refine yaj 117 rfl (fun q2=>?_) (fun q2=>?_)
 .simp at q2;omega
 refine zY ?_;refine yaj 123 rfl (fun q3=>?_) (fun q3=>?_)
 .simp at q3;omega
 refine zY ?_;refine zj ?_ ?_ <;> intro q4
 .simp at q4;omega
 refine zY ?_;refine zj ?_ ?_ <;> intro q5
 .have hw0:ws=[]:=qax (by simp at q5;simpa using q5);subst hw0;have hkL:=h0 rfl;refine zZ ?_;exact zp
 have hw0:ws≠[]:=fun e=>by rw[e]at q5;simp at q5
 obtain⟨U1,U2,U3,U4,U5,m2,b0,hmL2,hrp,hrr⟩:=h1 hw0;have hpos:1<=ws.length:=by rcases ws with _|⟨w,ws⟩;exact absurd rfl hw0;simp
 (repeat (first|refine zw ?_|fail))
 refine yqb (t':=[(5,.lp 5 0),(6,.lp 6 0),(2,i64 kind),(20,ycj c),(18,ydh ws),(3,yfv L)]) (h':=[(5,some (.cells [ykp p.name,.sl 6 (p.vars.map ybl),.sl 3 (p.rules.map ybc)])),(6,some (.cells [yai g.ids,yaq g.ports]))]) ?_ zs (yah (yab rfl (yab rfl yag)));have hdr:(((ws.map fun B=>[yav B]).take ((some ((((ws.map fun B=>[yav B]).length:Nat):Int) - 1)).getD ((ws.map fun B=>[yav B]).length:Int)).toNat).drop ((none:Option Int).getD 0).toNat)=ws.dropLast.map fun B=>[yav B]:=by
  have:((ws.length:Int) - 1).toNat=ws.length - 1:=by omega
  simp[this,List.dropLast_eq_take,List.map_take]
 have yd8:∀ h,Yd prog ([(155,ydh ws),(156,ydh ws),(157,i64 (((ws.map fun B=>[yav B]).length:Nat):Int)),(158,i64 ((((ws.map fun B=>[yav B]).length:Nat):Int) - 1))]++[(5,.lp 5 0),(6,.lp 6 0),(2,i64 kind),(20,ycj c),(18,ydh ws)]) (.slice 31 (.tmp 155) none (some (.tmp 158)) none) 31 (ydh ws.dropLast) h:=fun h t ht=>by
  have f1:evF t (.tmp 155)=some (ydh ws):=ht 155 _ rfl;have f2:evF t (.tmp 158)=some (i64 ((((ws.map fun B=>[yav B]).length:Nat):Int) - 1)):=ht 158 _ rfl;have hko:=(tok 31 _ rfl).2.2;have:=yxm (P:=prog) (hp:=yac h) (ρ:=evF t) (ti:=31) (x:=.tmp 155) (lo:=none) (hi:=some (.tmp 158)) (bl:=none) (bh:=some ((((ws.map fun B=>[yav B]).length:Nat):Int) - 1)) (ty:=31) hko f1 rfl (by show (match evF t (.tmp 158)with|some (.v (.int _ i))=>some (some i)|_=>none)=_;rw[f2];rfl) sm (by simp only[Option.getD];omega) (by simp only[Option.getD];omega);rw[hdr]at this;exact this
 have yd9:∀ h,Yd prog ([(151,AV.agg [ykp p.name,.sl 6 (p.vars.map ybl),.sl 3 (p.rules.map ybc)]),(152,AV.agg [yai g.ids,yaq g.ports]),(153,i64 kind),(154,ycj c),(155,ydh ws),(156,ydh ws),(157,i64 (((ws.map fun B=>[yav B]).length:Nat):Int)),(158,i64 ((((ws.map fun B=>[yav B]).length:Nat):Int) - 1)),(159,ydh ws.dropLast)]++[(5,.lp 5 0),(6,.lp 6 0),(2,i64 kind),(20,ycj c),(18,ydh ws)]) (.call { callee:=.value (.func 15),args:=#[.tmp 151,.tmp 152,.tmp 153,.tmp 154,.tmp 159],argTypes:=#[25,29,3,47,31] }) 55 (.tup [yiq ⟨U1,U2,U3,U4,U5⟩,i64 0]) h:=fun h t ht=>by
  refine zkj (args:=[.tmp 151,.tmp 152,.tmp 153,.tmp 154,.tmp 159]) (caps:=[]) (xs:=[ygg p,yev g,i64 kind,ycj c,ydh ws.dropLast]) rfl ?_ hrp;have f1:evF t (.tmp 151)=some (ygg p):=ht 151 _ rfl;have f2:evF t (.tmp 152)=some (yev g):=ht 152 _ rfl;have f3:evF t (.tmp 153)=some (i64 kind):=ht 153 _ rfl;have f4:evF t (.tmp 154)=some (ycj c):=ht 154 _ rfl;have f5:evF t (.tmp 159)=some (ydh ws.dropLast):=ht 159 _ rfl;simp only[evL,f1,f2,f3,f4,f5]
 refine ybg (lf:=lf0) ymj rfl ?_;refine zon [⟨13,26,[],.lp 26 0,(26,some (.cells (yhw zhi.zero)))::[(5,some (.cells [ykp p.name,.sl 6 (p.vars.map ybl),.sl 3 (p.rules.map ybc)])),(6,some (.cells [yai g.ids,yaq g.ports]))],fun y=>!ment 26 y⟩,⟨14,30,[],.any,(26,some (.cells ([ydh U4,ydh U5,ycj U1]++yfi U3)))::(26,some (.cells (yhw zhi.zero)))::[(5,some (.cells [ykp p.name,.sl 6 (p.vars.map ybl),.sl 3 (p.rules.map ybc)])),(6,some (.cells [yai g.ids,yaq g.ports]))],fun _=>true⟩]
  [(0,151,AV.agg [ykp p.name,.sl 6 (p.vars.map ybl),.sl 3 (p.rules.map ybc)]),(1,152,AV.agg [yai g.ids,yaq g.ports]),(2,153,i64 kind),(3,154,ycj c),(4,155,ydh ws),(5,156,ydh ws),(6,157,i64 (((ws.map fun B=>[yav B]).length:Nat):Int)),(7,158,i64 ((((ws.map fun B=>[yav B]).length:Nat):Int) - 1)),(8,159,ydh ws.dropLast),(9,160,(.tup [yiq ⟨U1,U2,U3,U4,U5⟩,i64 0])),(10,150,(.tup [yiq ⟨U1,U2,U3,U4,U5⟩,i64 0])),(11,161,yiq ⟨U1,U2,U3,U4,U5⟩),(12,162,i64 0)]
  (req:=[(5,.lp 5 0),(6,.lp 6 0),(2,i64 kind),(20,ycj c),(18,ydh ws)]) 1 rfl rfl kf rfl rfl rfl kf ⟨rfl,rfl,rfl,rfl,rfl,trivial⟩ rfl ?_ ?_ ?_
 .refine ⟨⟨_,[],rfl,rfl,rfl,kf,fun t ht hw hl=>?_⟩,rfl,kf,kf,kf,⟨_,[(151,AV.agg [ykp p.name,.sl 6 (p.vars.map ybl),.sl 3 (p.rules.map ybc)]),(152,AV.agg [yai g.ids,yaq g.ports]),(153,i64 kind),(154,ycj c),(155,ydh ws),(156,ydh ws),(157,i64 (((ws.map fun B=>[yav B]).length:Nat):Int)),(158,i64 ((((ws.map fun B=>[yav B]).length:Nat):Int) - 1)),(159,ydh ws.dropLast),(160,(.tup [yiq ⟨U1,U2,U3,U4,U5⟩,i64 0])),(150,(.tup [yiq ⟨U1,U2,U3,U4,U5⟩,i64 0])),(161,yiq ⟨U1,U2,U3,U4,U5⟩)],rfl,rfl,rfl,kf,fun t ht hw hl=>?_⟩,rfl,kf,kf,rfl,trivial⟩
  .exact alloc_late tok 26 hl rfl rfl rfl rfl rfl rfl rfl
  have g1:evF t (.tmp 26)=some (.lp 26 0):=ht 26 _ rfl;have g2:evF t (.tmp 161)=some (yiq ⟨U1,U2,U3,U4,U5⟩):=hw 161 _ rfl;exact store_late tok rfl rfl rfl rfl g1 g2 rfl rfl rfl rfl
 .exact ⟨⟨_,[]++[(5,.lp 5 0),(6,.lp 6 0),(2,i64 kind),(20,ycj c),(18,ydh ws)],rfl,rfl,rfl,kf,yaw tok kf kf,yaw tok kf kf,yaw tok kf kf,trivial⟩,
   ⟨_,[]++[(5,.lp 5 0),(6,.lp 6 0),(2,i64 kind),(20,ycj c),(18,ydh ws)],rfl,rfl,rfl,kf,yaw tok kf kf,yaw tok kf kf,yaw tok kf kf,trivial⟩,
   ⟨_,[]++[(5,.lp 5 0),(6,.lp 6 0),(2,i64 kind),(20,ycj c),(18,ydh ws)],rfl,rfl,rfl,kf,yaw tok kf kf,yaw tok kf kf,yaw tok kf kf,trivial⟩,
   ⟨_,[]++[(5,.lp 5 0),(6,.lp 6 0),(2,i64 kind),(20,ycj c),(18,ydh ws)],rfl,rfl,rfl,kf,yaw tok kf kf,yaw tok kf kf,yaw tok kf kf,trivial⟩,
   ⟨_,[]++[(5,.lp 5 0),(6,.lp 6 0),(2,i64 kind),(20,ycj c),(18,ydh ws)],rfl,rfl,rfl,kf,yaw tok kf kf,yaw tok kf kf,yaw tok kf kf,trivial⟩,
   ⟨_,[]++[(5,.lp 5 0),(6,.lp 6 0),(2,i64 kind),(20,ycj c),(18,ydh ws)],rfl,rfl,rfl,kf,yaw tok kf kf,yaw tok kf kf,yaw tok kf kf,trivial⟩,
   ⟨_,[(156,ydh ws)]++[(5,.lp 5 0),(6,.lp 6 0),(2,i64 kind),(20,ycj c),(18,ydh ws)],rfl,rfl,rfl,kf,yaw tok kf kf,yaw tok kf kf,yaw tok kf kf,trivial⟩,
   ⟨_,[(156,ydh ws),(157,i64 (((ws.map fun B=>[yav B]).length:Nat):Int))]++[(5,.lp 5 0),(6,.lp 6 0),(2,i64 kind),(20,ycj c),(18,ydh ws)],rfl,rfl,rfl,kf,xfg tok kf kf co,xfg tok kf kf co,xfg tok kf kf co,trivial⟩,
   ⟨_,[(155,ydh ws),(156,ydh ws),(157,i64 (((ws.map fun B=>[yav B]).length:Nat):Int)),(158,i64 ((((ws.map fun B=>[yav B]).length:Nat):Int) - 1))]++[(5,.lp 5 0),(6,.lp 6 0),(2,i64 kind),(20,ycj c),(18,ydh ws)],rfl,rfl,rfl,kf,yd8 _,yd8 _,yd8 _,trivial⟩,
   ⟨_,[(151,AV.agg [ykp p.name,.sl 6 (p.vars.map ybl),.sl 3 (p.rules.map ybc)]),(152,AV.agg [yai g.ids,yaq g.ports]),(153,i64 kind),(154,ycj c),(155,ydh ws),(156,ydh ws),(157,i64 (((ws.map fun B=>[yav B]).length:Nat):Int)),(158,i64 ((((ws.map fun B=>[yav B]).length:Nat):Int) - 1)),(159,ydh ws.dropLast)]++[(5,.lp 5 0),(6,.lp 6 0),(2,i64 kind),(20,ycj c),(18,ydh ws)],rfl,rfl,rfl,kf,yd9 _,yd9 _,yd9 _,trivial⟩,
   ⟨_,[(151,AV.agg [ykp p.name,.sl 6 (p.vars.map ybl),.sl 3 (p.rules.map ybc)]),(152,AV.agg [yai g.ids,yaq g.ports]),(153,i64 kind),(154,ycj c),(155,ydh ws),(156,ydh ws),(157,i64 (((ws.map fun B=>[yav B]).length:Nat):Int)),(158,i64 ((((ws.map fun B=>[yav B]).length:Nat):Int) - 1)),(159,ydh ws.dropLast),(160,(.tup [yiq ⟨U1,U2,U3,U4,U5⟩,i64 0]))]++[(5,.lp 5 0),(6,.lp 6 0),(2,i64 kind),(20,ycj c),(18,ydh ws)],rfl,rfl,rfl,kf,yaw tok kf kf,yaw tok kf kf,yaw tok kf kf,trivial⟩,
   ⟨_,[(151,AV.agg [ykp p.name,.sl 6 (p.vars.map ybl),.sl 3 (p.rules.map ybc)]),(152,AV.agg [yai g.ids,yaq g.ports]),(153,i64 kind),(154,ycj c),(155,ydh ws),(156,ydh ws),(157,i64 (((ws.map fun B=>[yav B]).length:Nat):Int)),(158,i64 ((((ws.map fun B=>[yav B]).length:Nat):Int) - 1)),(159,ydh ws.dropLast),(160,(.tup [yiq ⟨U1,U2,U3,U4,U5⟩,i64 0])),(150,(.tup [yiq ⟨U1,U2,U3,U4,U5⟩,i64 0]))]++[(5,.lp 5 0),(6,.lp 6 0),(2,i64 kind),(20,ycj c),(18,ydh ws)],rfl,rfl,rfl,kf,yaw tok kf kf,yaw tok kf kf,yaw tok kf kf,trivial⟩,
   ⟨_,[(151,AV.agg [ykp p.name,.sl 6 (p.vars.map ybl),.sl 3 (p.rules.map ybc)]),(152,AV.agg [yai g.ids,yaq g.ports]),(153,i64 kind),(154,ycj c),(155,ydh ws),(156,ydh ws),(157,i64 (((ws.map fun B=>[yav B]).length:Nat):Int)),(158,i64 ((((ws.map fun B=>[yav B]).length:Nat):Int) - 1)),(159,ydh ws.dropLast),(160,(.tup [yiq ⟨U1,U2,U3,U4,U5⟩,i64 0])),(150,(.tup [yiq ⟨U1,U2,U3,U4,U5⟩,i64 0]))]++[(5,.lp 5 0),(6,.lp 6 0),(2,i64 kind),(20,ycj c),(18,ydh ws)],rfl,rfl,rfl,kf,yaw tok kf kf,yaw tok kf kf,yaw tok kf kf,trivial⟩,trivial⟩
 refine yaz [15] (yaa rfl yal) rfl kf ?_;refine zWZ ?_;exact zp
theorem worst_con(hA:Con prog 6 [] (yau true))(p:ProgD)(g:GraphD)(hin:yjt p)(kind:Int)(L:List Bool)(k0:Int):Con prog 3 [ygg p,yev g,i64 kind,yfv L,i64 k0] (yau true):=by
 have hsys:=system_con p g hin kind L;cases hsf:zsv p g kind L with
 | none=>
  rw[hsf]at hsys;refine ze Tryz.func3 ntmps3 Tryz.results3 ?_;refine zZ ?_;exact zp
 | some s=>
 rw[hsf]at hsys;obtain⟨a1,a2,h0,hk,hl,n,hn,hb⟩:=sysF_some hin hsf;have hf:=yzh hin a1;have hS:=xhm hf h0 hk hn hb;have hok:=hS.ok;have hsn:=hS.len;have hpos:=hok.pos;have hcl:(zgy s L).length=L.length:=by unfold zgy;rw[zoz];simp
 have hcore:=rcore_con hok L hl;have hany:=rany_con (zgy s L) om;have e3:(L.map fun b=>[yau b]).length=L.length:=qai ..;cases hca:(zgy s L).any id with
 | true=>
  rw[hca]at hany;refine ze Tryz.func3 ntmps3 Tryz.results3 ?_;refine zZ ?_;exact zp
 | false=>
 rw[hca]at hany;have hs:∀ x∈s,∀ a∈x.2,a.2.toNat < s.length:=fun x hx a ha=>by
  obtain⟨i,hi⟩:=qao ha;have h9:=(hok.arcs x hx).grow i a hi;have:=h9.2.2.2;omega
 have hd:=core_dead hl hs hca;have hmod:=mod_con k0 L.length om;obtain⟨m0,m1⟩:=modI_bd (a:=k0) (b:=(L.length:Int)) om;obtain⟨k,hkk⟩:∃ k:Nat,xiw k0 L.length=k:=⟨_,(qef m0).symm⟩;rw[hkk]at hmod m1;have hks:k < s.length:=by omega
 have hW:=zrd hl hs hd;have how:¬ (ysy s L).length < L.length:=by rw[hW.whole];omega
 have hmo:=zqq hok hl;rw[xgz,if_neg how]at hmo;obtain⟨ws,hsch,hwl,hws⟩:=sch_ex hl hs hd k hks;have hsc:=schedule_con hok hl how hks hsch om;have hcfg:=hS.cfg k;have hun:=runrank_con p g k hf;have hun':unrankM p g k=(ydi (yaf p g) k,0):=hS.unrankM hf h0 hn om;rw[hun']at hun;obtain⟨hgo,⟨m,hm,hmL,hmc⟩,hdl⟩:=sch_plays hS hk hn hsch om;have hD:=dmn_any (p:=p) hcfg.graph hk;have hpl:=rPlay_con hcfg hD ws om;have hplV:xdw p g kind (ydi (yaf p g) k) ws=some (ws.foldl (yxq p g) (zhe p g (ydi (yaf p g) k))):=zpt hcfg.graph hk om hcfg rfl hgo;rw[hplV]at hpl;have hmv:=zrv (p:=p) (g:=g) (ws:=ws) (S0:=zhe p g (ydi (yaf p g) k));have hmc':=hmc (zhe p g (ydi (yaf p g) k)) rfl;obtain⟨T,hT⟩:∃ T,ws.foldl (yxq p g) (zhe p g (ydi (yaf p g) k))=T:=⟨_,rfl⟩;rw[hT]at hpl hmv hmc';have hmv':T.k.moves=((grF mvA s L).getD k 0:Nat):=by rw[hmv,<- hws];simp[zhe,ymn]
 have hrank:∀ {x:Nat},x < n->rankM p g (ydi (yaf p g) x)=((x:Int),0):=fun hx=>hS.rankM hn hx;have hmr:=mrank_con p g T.c hf (by rw[hmc'];exact(hS.cfg m).cin);rw[hmc',hrank hm,<- hmc']at hmr;have hmL':L[m]?=some true:=by
  obtain⟨b,hb⟩:=ybk (show m < L.length by omega);rw[qac,hb]at hmL;rw[hb];exact congrArg some hmL
 have hRl:=(xgw hok hl).len;have e4:((yhc (grF mvA s L)).map fun z=>[i64 z]).length=(grF mvA s L).length:=by simp[yhc]
 obtain⟨v,hv⟩:=ybk (show k < (grF mvA s L).length by omega);have hvg:=yyt hv;rw[qac,hv,qbu]at hmv';have e5:(ws.map fun B=>[yav B]).length=ws.length:=qai ..;have hk0:ws=[]->L[k]?=some true:=fun e=>by
  subst e;cases hsch with
  | leg hL=>
   obtain⟨b,hb⟩:=ybk (show k < L.length by omega);rw[qac,hb]at hL;rw[hb];exact congrArg some hL
 refine worst_walk hA p g kind L k0 hsys hcore hany hmod hmo hsc hun hpl hmr a2 om om hmL' om hv hmv' om hk0 fun hw0=>?_;obtain⟨_,m2,b1,b2,b3⟩:=hdl hw0;have hrp:=rplay17_con hcfg hk (ws:=ws.dropLast) (by rw[List.length_dropLast];omega) (zpu hgo);have b3':=b3 (zhe p g (ydi (yaf p g) k)) rfl;obtain⟨U,hU⟩:∃ U,ws.dropLast.foldl (yxq p g) (zhe p g (ydi (yaf p g) k))=U:=⟨_,rfl⟩;rw[hU]at hrp b3';have hrr:=rrank_con p g U.c hf (by rw[b3'];exact(hS.cfg m2).cin);rw[b3',hrank b1]at hrr;have hmL2:L[m2]?=some false:=by
  obtain⟨b,hb⟩:=ybk (show m2 < L.length by omega);rw[qac,hb]at b2;rw[hb];exact congrArg some b2
 exact⟨U.c,U.e,U.k,U.ch,U.en,m2,om,hmL2,hrp,by rw[b3'];exact hrr⟩
end
section
open Go.ChangeShapes Go.WideShapes Go.RowKit
def zsy(w:World)(v:Value)(l:List Bool):Prop:=Row w v 1 l.length (l.flatMap fun b=>[.bool b])
theorem bools_rel{w:World}{lv:Live}{v:Value}{l:List Bool}(h:zsy w v l):Rel (okW w) w lv (yfv l) v:=
 yrd (g:=fun b:Bool=>[.bool b]) (fun _=>rfl) (fun x u hu=>by simp at hu;subst hu;rfl) h
theorem cellsBool:prog.cellsOf 4=1:=by kernel_rfl
theorem open_bool_list{H:Type}{enc:TypeId × Value->H}{w:World}{v:Value}{base:Nat}{d:DataW H}{ps:List MemPlace}(hv:Value.okWide prog w .any base 30 v)(h:DataW.Trod enc prog w 0 (fun _=>true) true 30 v d ps):∃ l,zsy w v l:=by
 obtain⟨l,hl⟩:=open_seq_arg (R:=fun cs (b:Bool)=>cs=[.bool b]) underlying30 cellsBool Nat.one_pos (fun cs h=>by
  obtain⟨b,h1⟩:=rd_bool underlying4 h
  exact⟨b,h1⟩) hv h
 exact⟨l,ysr (fun b:Bool=>[.bool b]) (fun _=>rfl) om hl (fun cs x h=>h)⟩
theorem yki(v0:Value)(z0:ProgD)(v1:Value)(z1:GraphD)(a2:Int)(v3:Value)(z3:List Bool)(a4:Int)(w:World)(h0:zhm w v0 z0/\yjt z0)(h1:yxt w v1 z1/\xbj z1)(h2:(Lit.int .i64 a2).wf=true)(h3:zsy w v3 z3)(h4:(Lit.int .i64 a4).wf=true)(hG:zaw w) :
  Calls prog 3 #[v0,v1,.int .i64 a2,v3,.int .i64 a4] w fun e w'=>e=.returned (.bool true)/\Below w.heap.size w w':=
 yzv (worst_con tawake_con z0 z1 h0.2 a2 z3 a4) hG (okW_lt w) (ybt (prog_rel h0.1) (ybt (graph_rel h1.1) (ybt (.v _) (ybt (bools_rel h3) (ybt (.v _) yie)))))
end
section
open Go.RowKit
def lits1(l:List (DataW Unit)):List Value:=l.flatMap fun|.lit (.int k z)=>[.int k z]|_=>[]
def lits2:DataW Unit->List Value
 | .agg l=>l.flatMap fun|.lit (.int k z)=>[.int k z]|.agg m=>lits1 m|_=>[]
 | _=>[]
def layIn(vs:List Value):Obj->Obj
 | .cells _ t frozen=>.cells vs.toArray t frozen
 | o=>o
noncomputable def zee (os:Os):World:=
 { World.holding prog os ⟨#[],#[],[]⟩with heap:=(World.holding prog os ⟨#[],#[],[]⟩).heap.modify 0 (layIn (lits2 Rows.laid_math_bits_deBruijn32tab)) }
theorem glob_of {laid : List (String × DataW Unit)} {W : World} (hl : (laid.filter fun x => x.1 == "math/bits.deBruijn32tab") = [("math/bits.deBruijn32tab", Rows.laid_math_bits_deBruijn32tab)]) (hs : W.ShapedOpen prog) (h : laidMetH prog laid W) : zaw W := by
 have h2 := laidMetH.filter (fun x => x.1 == "math/bits.deBruijn32tab") h;rw [hl] at h2;have h3 : laidMet prog [("math/bits.deBruijn32tab", Lib.tabData .u8 xgg)] W := h2;exact Lib.tabIs_of_head (t:=294) (e:=5) (n:=32) zxa kf underlying294 underlying5 kf kf h3
end
end Go.Proofs.YtgpodcjhgdionaaGreatDoor
