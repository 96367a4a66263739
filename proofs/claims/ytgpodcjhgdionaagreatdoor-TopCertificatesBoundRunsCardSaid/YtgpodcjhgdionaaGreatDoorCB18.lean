/- Part 18 of the texts under TopCertificatesBoundRuns. -/
import Derived.Test.YtgpodcjhgdionaaGreatDoorRows
import Derived.Lib.LaidTab
import Derived.Deep.DeepHandedRow
import Derived.LaidSub
import Derived.Test.YtgpodcjhgdionaaGreatDoorCB1
import Derived.Test.YtgpodcjhgdionaaGreatDoorCB6
import Derived.Test.YtgpodcjhgdionaaGreatDoorCB7
import Derived.Test.YtgpodcjhgdionaaGreatDoorCB8
import Derived.Test.YtgpodcjhgdionaaGreatDoorCB9
import Derived.Test.YtgpodcjhgdionaaGreatDoorCB10
import Derived.Test.YtgpodcjhgdionaaGreatDoorCB13
import Derived.Test.YtgpodcjhgdionaaGreatDoorCB15
import Derived.Test.YtgpodcjhgdionaaGreatDoorCB16
import Derived.Test.YtgpodcjhgdionaaGreatDoorCB17
set_option linter.unusedVariables false
set_option maxRecDepth 100000
set_option maxHeartbeats 8000000
namespace Go.Proofs.YtgpodcjhgdionaaGreatDoor
open Go.Proofs.Tryz
variable {w w':World} {v:Value} {c:List (List Int)} {g:GraphD} {ws:List (BitVec 32)} {p:ProgD} {kind:Int} {ps:List MemPlace} {l:List Lk} {lv:Live} {base N:Nat} {H:Type} {enc:TypeId × Value->H} {d:DataW H}
section
open Go.RowKit
abbrev SeenD:=List (List (List Int)) × List CntD
def wH (q:SeenD):List (Nat × Option LObj):=[(1001,some (.cells [.ls 1003 1 q.1.length])),(1002,some (.cells [.ls 1004 5 q.2.length])),(1003,some (.vec (q.1.map yds))),(1004,some (.vec (q.2.map yir).flatten))]
def xmt:AV:=.fn 52 [.lp 1001 0,.lp 1002 0]
def xke (p:ProgD) (g:GraphD) (kind:Int):List AV:=[ygi p g,yxr g,i64 kind,ybd (xet g.ports.length),xmt]
def weH (p:ProgD) (g:GraphD) (kind:Int) (ws:List (BitVec 32)) (q:SeenD):List (Nat × Option LObj):=(1005,some (.cells (xke p g kind)))::(1006,some (.cells [ynn ws]))::wH q
theorem cnts_len (l:List CntD):(l.map yir).flatten.length=l.length * 5:=by rw [zcj (k:=5) (fun x=>rfl)]
theorem xfo {q q':SeenD} (hN:Nat.ble N 1001=true):∀ id o,yac (wH q') id=some o->isC o=true->N<=id/\∃ o',yac (wH q) id=some o'/\isC o'=true:=by
 intro id o ho hc;simp only [qdj] at hN;simp only [wH,yac] at ho ⊢;cases h1:Nat.beq id 1001 with
 | true=>have:=qaf h1;exact ⟨om,_,rfl,rfl⟩
 | false=>
  simp only [h1] at ho ⊢;cases h2:Nat.beq id 1002 with
  | true=>have:=qaf h2;exact ⟨om,_,rfl,rfl⟩
  | false=>
   simp only [h2] at ho ⊢
   repeat' split at ho
   all_goals first|(cases ho;done)|(cases ho;cases hc)
theorem xho {q q':SeenD} (hN:Nat.ble N 1001=true):∀ id o,yac (weH p g kind ws q') id=some o->isC o=true->N<=id/\∃ o',yac (weH p g kind ws q) id=some o'/\isC o'=true:=by
 intro id o ho hc;simp only [weH,yac] at ho ⊢;have hN':=hN;simp only [qdj] at hN';cases h1:Nat.beq id 1005 with
 | true=>have:=qaf h1;exact ⟨om,_,rfl,rfl⟩
 | false=>
  simp only [h1] at ho ⊢;cases h2:Nat.beq id 1006 with
  | true=>have:=qaf h2;exact ⟨om,_,rfl,rfl⟩
  | false=>simp only [h2] at ho ⊢;exact xfo hN id o ho hc
theorem xdr (h:CfgOk p g c) (e:BitVec 32) (k:CntD) (q:SeenD) (h1:q.1.length<=4097) (h2:q.2.length<=4097):yot prog 52 [yds c,ybd e,.agg (yir k),.lp 1001 0,.lp 1002 0] (yac (wH q)) (.tup []) (yac (wH (q.1++[c],q.2++[k]))):=by
 have h24:=h.n24;have hlen:=h.len;have h6:=h.vars6;have hrows:∀ r∈c,r.length<=1000:=fun r hr=>by have:=h.rowlen r hr;omega
 have hcopy:=yyn (zbn c om hrows) (r':=yds c) rfl (yum (f:=[]) (M:=8) (n:=c.length) rfl rfl rfl rfl rfl);have hfl:=cnts_len q.2;have hfl1:(q.1.map yds).length=q.1.length * 1:=by simp
 refine ynh tok Tryz.func52 rfl rfl ntmps52 Tryz.results52 rfl (xfo rfl) ?_;show A _ _ _ _ (S _ _)
 (repeat (first|refine zz ?_|refine ydx tok rfl rfl rfl hfl1 rfl (by simp [yar,yds]) so rfl rfl rfl rfl rfl ?_|refine ydx tok rfl rfl rfl hfl rfl (by simp [yar,i64,ybd]) so rfl rfl rfl rfl rfl ?_))
 have ea:wH (q.1++[c],q.2++[k])=[(1001,some (.cells [.ls 1003 1 (q.1.length+1)])),(1002,some (.cells [.ls 1004 5 (q.2.length+1)])),(1003,some (.vec (q.1.map yds++[yds c]))),(1004,some (.vec ((q.2.map yir).flatten++yir k)))]:=by simp [wH]
 rw [ea];exact ⟨_,rfl,yfa _,yai (yaa rfl (yaa rfl (yaa rfl (yaa rfl yag))))⟩
theorem follow1W_con (D:DmnOk p g kind) {i:Nat} (hi:i < ws.length) (hn:ws.length<=4096) {d:List (List Int)} (hd:CfgOk p g d) (q:SeenD):yot prog 100 [i64 i,ybd (ydn p g d),.lp 1005 0,.lp 1006 0] (yac (weH p g kind ws q)) (.tup [ybd (chF g kind ws i (ydn p g d)).1,yay (chF g kind ws i (ydn p g d)).2]) (yac (weH p g kind ws q)):=by
 obtain ⟨w,hw⟩:=ybr hi;have hg:ws.getD i 0#32=w:=by rw [qad,hw];rfl
 refine ynh tok Tryz.func100 rfl rfl ntmps100 Tryz.results100 rfl (xho rfl) ?_;show A _ _ _ _ (S _ _)
 (repeat (first|refine zy ?_|refine zc (D.res d w hd) ?_))
 refine ykj ?_;rw [yfh];simp only [chF,hg];exact ⟨_,rfl,yfa _,yai (yaa rfl (yaa rfl (yaa rfl (yaa rfl (yaa rfl (yaa rfl yag))))))⟩
abbrev RunW:=RunD × SeenD
def stW (p:ProgD) (g:GraphD) (q:RunW) (s:BitVec 32):RunW:=(zql p g q.1 s,q.2.1++[(zql p g q.1 s).c],q.2.2++[(zql p g q.1 s).k])
def xgr (p:ProgD) (g:GraphD) (kind:Int) (ws:List (BitVec 32)):Nat->Nat->RunW->RunW
 | 0,_,q=>q
 | m+1,i,q=>if (chF g kind ws i q.1.e).2=true then xgr p g kind ws m (i+1) (stW p g q (chF g kind ws i q.1.e).1) else q
def zxv (p:ProgD) (g:GraphD) (c:List (List Int)):RunW:=(xem p g c,[c],[(xem p g c).k])
def xeh (p:ProgD) (g:GraphD) (kind:Int) (ws:List (BitVec 32)) (c:List (List Int)):RunW:=xgr p g kind ws ws.length 0 (zxv p g c)
theorem zjh:∀ (m i:Nat) (q:RunW) (pre:List (List (List Int))),m+i=ws.length->q.1.e=ydn p g q.1.c->q.2.1=pre++[q.1.c]->(xgr p g kind ws m i q).2.1=pre++ytt p g kind (ws.drop i) q.1.c
 | 0,i,q,pre,hm,he,hq=>by
  rw [qgv om];exact hq
 | m+1,i,q,pre,hm,he,hq=>by
  obtain ⟨w,hw⟩:=ybr (show i < ws.length by omega);have hdr:ws.drop i=w::ws.drop (i+1):=by rw [qby om];congr 1;exact Option.some.inj ((qae (show i < ws.length by omega)).symm.trans hw)
  have hg:ws.getD i 0#32=w:=by rw [qad,hw];rfl
  rw [hdr];unfold xgr ytt;simp only [chF,hg,he];by_cases h0:ydn p g q.1.c=0#32
  .rw [if_neg (by simp [h0]),if_pos h0];exact hq
  rw [if_pos (by simpa using h0),if_neg h0,zjh m (i+1) _ (pre++[q.1.c]) om rfl (by show q.2.1++[_]=_;rw [hq];rfl)];rw [qbb];rfl
theorem wat_trail:(xeh p g kind ws c).2.1=ytt p g kind ws c:=by
 unfold xeh;rw [zjh ws.length 0 (zxv p g c) [] om rfl rfl];rfl
def wxH (p:ProgD) (g:GraphD) (kind:Int) (ws:List (BitVec 32)) (q:RunW):List (Nat × Option LObj):=exH q.1++([(8,some (.cells (yit ztt.zero))),(4,some (.cells (xke p g kind)))]++weH p g kind ws q.2)
theorem wexec_con (h:CfgOk p g c) (D:DmnOk p g kind) (ws:List (BitVec 32)) (hn:ws.length<=4096):
  yot prog 88 [.agg (xke p g kind),yds c,i64 ws.length,.fn 100 [.lp 1005 0,.lp 1006 0]] (yac (weH p g kind ws ([],[]))) (zge (some (xeh p g kind ws c).1)) (yac (weH p g kind ws (xeh p g kind ws c).2)):=by
 have h24:=h.n24;have hlen:=h.len;have h6:=h.vars6;have hrows:∀ r∈c,r.length<=1000:=fun r hr=>by have:=h.rowlen r hr;omega
 have hcopy:=yyn (zbn c om hrows) (r':=yds c) rfl (yum (f:=[]) (M:=8) (n:=c.length) rfl rfl rfl rfl rfl);have hand:∀ d,CfgOk p g d->ydn p g d &&& xet g.ports.length=ydn p g d:=fun d hd=>by
  have hl:=hd.len;apply qbj;intro i hi;rw [qav,zui _ h24 i hi,yqn om,hl];cases decide (i < g.ports.length) <;> simp
 have hsee0:=xdr h (ydn p g c) (ynv (ydn p g c)) ([],[]) sm sm;have hF0:xgr p g kind ws ws.length 0 (zxv p g c)=xeh p g kind ws c:=rfl;generalize xeh p g kind ws c=F at hF0 ⊢;obtain ⟨⟨c2,e2,k2,ch2,en2⟩,cs2,ks2⟩:=F;refine ynh tok Tryz.func88 rfl rfl ntmps88 Tryz.results88 rfl (xho rfl) ?_;show A _ _ _ _ (S _ _)
 (repeat (first|with_reducible refine ydk ?_|with_reducible refine ycd ?_|refine ycy ?_));refine ynb ?_;refine ybi (lf:=lfT) rfl ?_
 refine zO ?_;refine zt ?_;refine ybi (lf:=lfT) rfl ?_;refine zO ?_;refine zt ?_;refine yvd 10 0 100 1 rfl rfl rfl rfl rfl ?_;refine yvd 10 1 101 1 rfl rfl rfl rfl rfl ?_
 (repeat (first|refine zcu rfl rfl rfl rfl (ymj 24 (y:=ybd (ydn p g c)) rfl (by rw [hand c h]) ?_)|refine z1 ?_|refine zc hcopy ?_|refine zc (ymr h) ?_|refine zc (zno _) ?_|refine yrq [(1001,1001),(1002,1002),(1003,1003),(1004,1004)] hsee0 rfl rfl rfl rfl rfl rfl rfl (yaa rfl (yaa rfl (yaa rfl (yaa rfl yag)))) rfl rfl rfl rfl rfl rfl ?_|refine ydx tok rfl rfl rfl sm rfl (by simp [yar]) sm rfl rfl rfl rfl rfl ?_))
 refine ycx (α:=Nat × RunW) (fun a=>[(40,i64 a.1),(39,i64 ws.length),(1,yds a.2.1.c),(11,ybd a.2.1.e),(3,.fn 100 [.lp 1005 0,.lp 1006 0]),(4,.lp 4 0),(10,.lp 10 0),(12,.lp 12 0),(8,.lp 8 0)]) (fun a=>wxH p g kind ws a.2) (fun a=>ws.length - a.1) (fun a=>a.1<=ws.length/\CfgOk p g a.2.1.c/\a.2.1.e=ydn p g a.2.1.c/\CntOk a.2.1.k/\a.2.1.k.steps=a.1/\a.2.1.ch.length=a.1/\a.2.1.en.length=a.1+1/\a.2.2.1.length=a.1+1/\a.2.2.2.length=a.1+1/\xgr p g kind ws (ws.length - a.1) a.1 a.2=(⟨c2,e2,k2,ch2,en2⟩,cs2,ks2)) (0,zxv p g c) ⟨om,h,rfl,zus,rfl,rfl,rfl,rfl,rfl,hF0⟩ zs (yai (yaa rfl (yaa rfl (yaa rfl (yaa rfl (yaa rfl (yaa rfl (yaa rfl (yaa rfl (yaa rfl (yaa rfl (yaa rfl (yaa rfl yag))))))))))))) ?_;rintro ⟨i,⟨c1,e1,k1,ch1,en1⟩,cs1,ks1⟩ ⟨hi,hS,hSe,hk,hks,hc1,he1,hcs,hks2,hex⟩;simp only at hi hS hSe hk hks hc1 he1 hcs hks2 hex ⊢;subst hSe;refine zW ?_;refine zj ?_ ?_ <;> intro h1
 rotate_left;simp at h1;obtain rfl:i=ws.length:=by omega
 rw [qbn,xgr] at hex;cases hex
 (repeat (first|with_reducible refine ydk ?_|with_reducible refine ycd ?_|refine ycy ?_|refine ymi ?_))
 refine yqf (t':=[(1,yds c2),(10,.lp 10 0),(12,.lp 12 0),(8,.lp 8 0)]) (h':=wxH p g kind ws (⟨c2,ydn p g c2,k2,ch2,en2⟩,cs2,ks2)) ?_ zs (fun id o h=>h);rotate_left;simp at h1;have hc9:=follow1W_con D h1 hn hS (cs1,ks1);obtain ⟨m,hm⟩:∃ m,ws.length - i=m+1:=⟨ws.length - i - 1,om⟩;rw [hm] at hex;simp only [xgr] at hex;have hso:ydn p g c1≠0#32->yxt g kind (ydn p g c1) (chF g kind ws i (ydn p g c1)).1=true:=fun h0=>(xgq h.graph kind _ _ (by have hcl:=hS.len;rw [<- hcl];exact xbe om) h0).2;have hg2:(chF g kind ws i (ydn p g c1)).2=(ydn p g c1 != 0#32):=rfl;generalize chF g kind ws i (ydn p g c1)=set at hc9 hex hso hg2;obtain ⟨set,goes⟩:=set;simp only at hc9 hex hso hg2
 (repeat (first|refine zw ?_|refine yrq [(1001,1001),(1002,1002),(1003,1003),(1004,1004),(1005,1005),(1006,1006)] hc9 rfl rfl rfl rfl rfl rfl rfl (yaa rfl (yaa rfl (yaa rfl (yaa rfl (yaa rfl (yaa rfl yag)))))) rfl rfl rfl rfl rfl rfl ?_))
 refine zj ?_ ?_ <;> intro h2
 rw [if_neg (by simpa using h2)] at hex;cases hex
 (repeat (first|with_reducible refine ydk ?_|with_reducible refine ycd ?_|refine ycy ?_|refine ymi ?_))
 refine yqf (t':=[(1,yds c2),(10,.lp 10 0),(12,.lp 12 0),(8,.lp 8 0)]) (h':=wxH p g kind ws (⟨c2,ydn p g c2,k2,ch2,en2⟩,cs2,ks2)) ?_ zs (yai (yaa rfl (yaa rfl (yaa rfl (yaa rfl (yaa rfl (yaa rfl (yaa rfl (yaa rfl (yaa rfl (yaa rfl (yaa rfl (yaa rfl yag)))))))))))));rotate_left
 .have h2:goes=true:=by simpa using h2
  rw [if_pos h2] at hex;have h0:ydn p g c1≠0#32:=by rw [h2] at hg2;simpa using hg2.symm
  have hpr:=hso h0;have hper:=D.per c1 set hS;rw [hpr] at hper;have hp0:set≠0#32/\set &&& ~~~(ydn p g c1)=0#32:=by
   unfold yxt at hpr;simp only [qac,qbt,beq_eq_false_iff_ne,beq_iff_eq] at hpr;exact hpr.1
  have hcl:=hS.len;have hst:=hS.step set;have hcl2:=hst.len;have hsm:=zpp hS set fun v hv hb=>by
   have:=zmg hp0.2 hb;rw [yqn om] at this;simp only [qac] at this;exact this.2
  have hin1:InM set:=zik fun v hv=>by
   cases hb:set.getLsbD v with
   | false=>rfl
   | true=>
    have:=zmg hp0.2 hb;rw [yqn om] at this;simp at this;omega
  have hin2:InM (ydn p g (ytr p g c1 set)):=zik fun v hv=>by
   rw [yqn om];have:decide (v < (ytr p g c1 set).length)=false:=by simp;omega
   rw [this];rfl
  have hsee:=xdr hst (ydn p g (ytr p g c1 set)) (xag k1 set (ydn p g (ytr p g c1 set))) (cs1,ks1) (by simp only;omega) (by simp only;omega)
  (repeat (first|refine zcu rfl rfl rfl rfl (ymj 72 (y:=ybd (ydn p g (ytr p g c1 set))) rfl (by rw [hand _ hst]) ?_)|refine z1 ?_|refine zc hper ?_|refine zc hsm ?_|refine zc (ymr hst) ?_|refine zc (xah k1 hk om hp0.1 hin1 hin2) ?_|refine yrq [(1001,1001),(1002,1002),(1003,1003),(1004,1004)] hsee rfl rfl rfl rfl rfl rfl rfl (yaa rfl (yaa rfl (yaa rfl (yaa rfl yag)))) rfl rfl rfl rfl rfl rfl ?_|refine ydx tok rfl rfl rfl sm rfl (by simp [yar]) so rfl rfl rfl rfl rfl ?_))
  refine ylb (i+1,stW p g (⟨c1,ydn p g c1,k1,ch1,en1⟩,cs1,ks1) set) ⟨by simp only;omega,hst,rfl,xga hk om hp0.1 hin1 hin2,by simp only [stW,zql,zhg,hks];omega,by simp [stW,zql,hc1],by simp [stW,zql,he1],by simp [stW,hcs],by simp [stW,hks2],by simp only;rw [show ws.length - (i+1)=m by omega];exact hex⟩ (by simp only;omega) zs (yai (yaa rfl (yaa ?_ (yaa ?_ (yaa ?_ (yaa rfl (yaa rfl (yaa rfl (yaa rfl (yaa rfl (yaa rfl (yaa rfl (yaa rfl yag)))))))))))))
  .show some _=some _;simp [stW,zql]
  .show some _=some _;simp [stW,zql,ybd]
  show some _=some _;simp [stW,zql,ybd]
 all_goals
  refine ynb ?_;refine yvc [(10,.lp 10 0),(8,.lp 8 0)] ([(10,some (.cells ([.ls 100 1 ch2.length,.ls 101 1 en2.length,yds c2]++yir k2))),(100,some (.vec (ch2.map ybd))),(101,some (.vec (en2.map ybd))),(8,some (.cells (yit ztt.zero)))]++weH p g kind ws (cs2,ks2)) ?_ ?_
  .refine ybx (lf:=lf0) ysy rfl ?_;refine yee [0,2] 4 (yab rfl (yab rfl yak)) rfl kf ?_;refine zO ?_;refine yaq [1,3] 3 rfl kf sm ⟨⟨_,rfl,?_⟩,⟨_,rfl,?_⟩,trivial⟩
   .refine zO ?_;refine yau [3,4,5] (yab rfl (yab rfl (yab rfl yak))) rfl kf ?_;refine zO ?_;exact mid zs (yaa rfl (yaa rfl (yaa rfl (yaa rfl (yaa rfl (yaa rfl (yaa rfl (yaa rfl (yaa rfl (yaa rfl yag))))))))))
   refine zO ?_;refine yau [1,4,5] (yab rfl (yab rfl (yab rfl yak))) rfl kf ?_;refine zO ?_;exact mid zs (yaa rfl (yaa rfl (yaa rfl (yaa rfl (yaa rfl (yaa rfl (yaa rfl (yaa rfl (yaa rfl (yaa rfl yag))))))))))
  refine zt ?_;refine yeg 10 0 (ch2.map fun B=>[ybd B]) rfl rfl rfl sm (fun row hr=>by obtain ⟨y,_,rfl⟩:=qag.1 hr;rfl) (ycz _) rfl rfl rfl rfl ?_;refine yeg 10 1 (en2.map fun B=>[ybd B]) rfl rfl rfl sm (fun row hr=>by obtain ⟨y,_,rfl⟩:=qag.1 hr;rfl) (ycz _) rfl rfl rfl rfl ?_;refine zY ?_;refine ykj ⟨_,rfl,yfa _,yai (yaa rfl (yaa rfl (yaa rfl (yaa rfl (yaa rfl (yaa rfl yag))))))⟩
end
section
open Go.RowKit
theorem newrunnerW_con (p:ProgD) (g:GraphD) (hf:Fair p g) (h0:ycn p g=0) (kind:Int):yot prog 39 [yhb p,yfm g,i64 kind,xmt] (yac (wH ([],[]))) (.agg (xke p g kind)) (yac (wH ([],[]))):=by
 have hg:=(ycv.1 h0).2.1;refine ynh tok Tryz.func39 rfl rfl ntmps39 Tryz.results39 rfl (xfo rfl) ?_;show A _ _ _ _ (S _ _)
 (repeat (first|refine zy ?_|refine zc (yqw p g hf h0) ?_|refine zc (yyy g hg) ?_|refine zc (zul g hg) ?_))
 refine ykj ⟨_,rfl,yfa _,yai (yaa rfl (yaa rfl (yaa rfl (yaa rfl yag))))⟩
theorem wfollow_con (h:CfgOk p g c) (D:DmnOk p g kind) (ws:List (BitVec 32)) (hn:ws.length<=4096):yot prog 54 [.agg (xke p g kind),yds c,ynn ws] (yac (wH ([],[]))) (zge (some (xeh p g kind ws c).1)) (yac (wH (xeh p g kind ws c).2)):=by
 have he:=wexec_con h D ws hn;have e1:(ws.map fun B=>[ybd B]).length=ws.length:=qal ..;generalize xeh p g kind ws c=F at he ⊢;refine ynh tok Tryz.func54 rfl rfl ntmps54 Tryz.results54 rfl (xfo rfl) ?_;show A _ _ _ _ (S _ _)
 (repeat (first|refine zy ?_|refine yrq [(1001,1001),(1002,1002),(1003,1003),(1004,1004),(1005,3),(1006,5)] he rfl rfl rfl rfl rfl rfl rfl (yaa rfl (yaa rfl (yaa rfl (yaa rfl (yaa rfl (yaa rfl yag)))))) rfl rfl rfl rfl rfl rfl ?_))
 refine ykj ⟨_,rfl,yfa _,yai (yaa rfl (yaa rfl (yaa rfl (yaa rfl yag))))⟩
def xbf (cs:List (List (List Int))):AV:=.sl 1 (cs.map fun c=>[yds c])
theorem watch_con (h:CfgOk p g c) (D:DmnOk p g kind) (ws:List (BitVec 32)) (hn:ws.length<=4096):Con prog 19 [yhb p,yfm g,i64 kind,yds c,ynn ws] (.tup [xbf (ytt p g kind ws c),.sl 5 ((xeh p g kind ws c).2.2.map yir),i64 0]):=by
 have he:=wfollow_con h D ws hn;have e1:(ws.map fun B=>[ybd B]).length=ws.length:=qal ..;have hck:=yrg h kind D.kd ws.length hn;rw [<- wat_trail];generalize xeh p g kind ws c=F at he ⊢;refine ze Tryz.func19 ntmps19 Tryz.results19 ?_
 (repeat (first|with_reducible refine ydk ?_|with_reducible refine ycd ?_|refine ycy ?_));refine ynb ?_;refine ybi (lf:=lfT) rfl ?_
 refine zO ?_;refine zt ?_;refine ybi (lf:=lfT) rfl ?_
 (repeat (first|refine zo ?_|refine zc hck ?_))
 refine zt ?_;refine ybi (lf:=lfT) rfl ?_;refine zO ?_;refine zt ?_;refine yvb rfl (fun h9=>absurd h9 sm) (fun _=>?_);refine zt ?_;refine ybi (lf:=lfT) rfl ?_;refine zO ?_;refine zt ?_;refine ybi (lf:=lfT) rfl ?_;refine zO ?_;refine zt ?_;refine yvd 14 0 61 1 rfl rfl rfl rfl rfl ?_;refine yvd 15 0 62 5 rfl rfl rfl rfl rfl ?_
 (repeat (first|refine zy ?_|refine yrq [(1001,14),(1002,15),(1003,61),(1004,62)] (newrunnerW_con p g h.fair h.fit kind) rfl rfl rfl rfl rfl rfl rfl (yaa rfl (yaa rfl (yaa rfl (yaa rfl yag)))) rfl rfl rfl rfl rfl rfl ?_|refine yrq [(1001,14),(1002,15),(1003,61),(1004,62)] he rfl rfl rfl rfl rfl rfl rfl (yaa rfl (yaa rfl (yaa rfl (yaa rfl yag)))) rfl rfl rfl rfl rfl rfl ?_))
 refine zr ?_;refine Frz.tup3 (Frz.ls (xs:=F.2.1.map yds) ?_ sm (by intro r hr;obtain ⟨z,_,rfl⟩:=qag.1 hr;rfl) (ycz _) (by intro x hx i;obtain ⟨z,_,rfl⟩:=qag.1 hx;rfl)) (Frz.ls (xs:=(F.2.2.map yir).flatten) ?_ sm (by intro r hr;obtain ⟨z,_,rfl⟩:=qag.1 hr;rfl) rfl (by intro x hx i;obtain ⟨r,hr,hx⟩:=qda.1 hx;obtain ⟨z,_,rfl⟩:=qag.1 hr;simp [yir] at hx;rcases hx with rfl|rfl|rfl|rfl|rfl <;> rfl)) Frz.pure
 .rfl
 rfl
end
set_option maxHeartbeats 16000000
section
open Go.RowKit
theorem two_fair:Fair zyw (zzh 2):=⟨xay,zlb col_light,kf⟩
theorem two_ok:CfgOk zyw (zzh 2) [[0],[0]]:=⟨two_fair,kf⟩
theorem two_run:xbm zyw (zzh 2) 1 [[0],[0]] [3#32,3#32]=some ⟨[[1],[0]],0#32,⟨1,1,1,1,0#32⟩,[1#32],[3#32,0#32]⟩:=by kernel_rfl
theorem tawake_con:Con prog 6 [] (yay true):=by
 have hf:=rFollow_con two_ok (zoa zyw (zzh 2) 1 (.inl rfl)) [3#32,3#32] sm;rw [two_run] at hf;refine ze Tryz.func6 ntmps6 Tryz.results6 ?_
 (repeat (first|refine zz ?_|refine zc colparse_con ?_|refine zc (path_con 2 om) ?_))
 refine yne tok rfl rfl rfl om (rfl) rfl rfl ?_;refine zY ?_;refine yne tok rfl rfl rfl om (rfl) rfl rfl ?_;refine zY ?_;refine yne tok rfl rfl rfl om (rfl) rfl rfl ?_;exact zkp
end
section
open Go.ChangeShapes Go.WideShapes Go.RowKit
def znb (w:World) (v:Value) (l:List Lk):Prop:=Row w v 2 l.length (l.flatMap fun t=>[.int .i64 t.1,.int .i64 t.2])
theorem znb.below (h:znb w v l) (hb:Below w.heap.size w w'):znb w' v l:=Row.below h hb
theorem znb.open (h:znb w v l):∃ a cap,v=.slice a l.length cap/\l.length<=cap/\cap<=9223372036854775807 /\
  (0 < l.length->∃ g o,a=some ⟨g,o,none⟩/\g < w.heap.size/\∀ i t,l[i]?=some t->w.cell? ⟨g,o+i * 2,none⟩=some (.int .i64 t.1)/\w.cell? ⟨g,o+i * 2+1,none⟩=some (.int .i64 t.2)):=by
 obtain ⟨a,cap,hv,h1,h2,h3,h4⟩:=Row.open h;refine ⟨a,cap,hv,h1,h2,fun hn=>?_⟩;obtain ⟨g,o,ha,hg,hc⟩:=h4 hn;exact ⟨g,o,ha,hg,fun i t ht=>⟨hc _ _ (ykn _ 2 (fun _=>rfl) l i 0 t _ ht rfl),hc _ _ (ykn _ 2 (fun _=>rfl) l i 1 t _ ht rfl)⟩⟩
def yty (w:World) (cs:List Value) (l:List Lk):Prop:=∃ v,cs=[v]/\znb w v l
theorem yty.below {cs:List Value} (hb:Below w.heap.size w w') (h:yty w cs l):yty w' cs l:=by
 obtain ⟨v,h1,h2⟩:=h;exact ⟨v,h1,h2.below hb⟩
def ytz (w:World) (v:Value) (ports:List (List Lk)):Prop:=Seq (yty w) 1 w v ports
theorem ytz.below {l:List (List Lk)} (h:ytz w v l) (hb:Below w.heap.size w w'):ytz w' v l:=Seq.below h hb fun _ _=>yty.below hb
def yxx (w:World) (v:Value) (g:GraphD):Prop:=∃ iv pv,v=.agg #[iv,pv]/\zcr .i64 w iv g.ids/\ytz w pv g.ports
theorem yxx.below (h:yxx w v g) (hb:Below w.heap.size w w'):yxx w' v g:=by
 obtain ⟨iv,pv,h1,h2,h3⟩:=h;exact ⟨iv,pv,h1,h2.below hb,h3.below hb⟩
def zhe (t:Lk):Prop:=yxp t.1/\yxp t.2
def zzz (g:GraphD):Prop:=(∀ x∈g.ids,yxp x)/\∀ l∈g.ports,∀ t∈l,zhe t
theorem seqOpen {α:Type} {R:List Value->α->Prop} {size:Nat} {l:List α} (h:Seq R size w v l):∃ a cap,v=.slice a l.length cap/\l.length<=cap/\cap<=9223372036854775807 /\
  (0 < l.length->∃ g o,a=some ⟨g,o,none⟩/\g < w.heap.size/\∀ i x,l[i]?=some x->∃ cs,cs.length=size/\R cs x/\∀ j u,cs[j]?=some u->w.cell? ⟨g,o+i * size+j,none⟩=some u):=by
 obtain ⟨xs,h1,h2⟩:=h;have hlen:xs.length=l.length * size:=by obtain ⟨_,_,_,_,_,h,_⟩:=h1;exact h
 obtain ⟨a,cap,hv,h3,h4,_,h5⟩:=Row.open h1;refine ⟨a,cap,hv,h3,h4,fun hn=>?_⟩;obtain ⟨g,o,ha,hg,hc⟩:=h5 hn;refine ⟨g,o,ha,hg,fun i x hx=>⟨_,?_,h2 i x hx,fun j u hu=>?_⟩⟩
 .have hi:=(qaa.1 hx).1;rw [qcf,qcw,hlen];have:i * size+size<=l.length * size:=by rw [<- qdh];exact qej _ hi
  omega
 rw [qbc] at hu;split at hu
 .rw [qbx] at hu;have:=hc _ u hu;rw [<- qdd] at this;exact this
 cases hu
theorem ytz.open {l:List (List Lk)} (h:ytz w v l):∃ a cap,v=.slice a l.length cap/\l.length<=cap/\cap<=9223372036854775807 /\
  (0 < l.length->∃ g o,a=some ⟨g,o,none⟩/\g < w.heap.size/\∀ i x,l[i]?=some x->∃ pv,znb w pv x/\w.cell? ⟨g,o+i,none⟩=some pv):=by
 obtain ⟨a,cap,hv,h3,h4,h5⟩:=seqOpen h;refine ⟨a,cap,hv,h3,h4,fun hn=>?_⟩;obtain ⟨g,o,ha,hg,hc⟩:=h5 hn;refine ⟨g,o,ha,hg,fun i x hx=>?_⟩;obtain ⟨cs,_,⟨pv,rfl,q1⟩,q2⟩:=hc i x hx;have:=q2 0 _ rfl;rw [qgy,qdi] at this;exact ⟨pv,q1,this⟩
theorem zop:prog.cellsOf 3=1:=by kernel_rfl
theorem zns:prog.cellsOf 178=2:=by kernel_rfl
theorem cellsInts:prog.cellsOf 26=1:=by kernel_rfl
theorem cellsLinks:prog.cellsOf 176=1:=by kernel_rfl
theorem cellsPorts:prog.cellsOf 27=1:=by kernel_rfl
theorem cellsGraph:prog.cellsOf 29=2:=by kernel_rfl
section
variable {H:Type} {enc:TypeId × Value->H} {w:World} {cs:List Value} {v:Value} {base:Nat} {d:DataW H} {ps:List MemPlace}
theorem rd_link (h:Rd enc prog w 178 cs):∃ t:Lk,cs=[.int .i64 t.1,.int .i64 t.2]/\zhe t:=by
 obtain ⟨h1,h2⟩:=yma underlying178 h;rw [zns] at h1
 match cs,h1 with
 | [a,b],_=>
  have g0:=h2 0 _ rfl;have g1:=h2 1 _ rfl;simp [zop] at g0 g1;obtain ⟨x,hx,hx'⟩:=yii underlying3 g0;obtain ⟨y,hy,hy'⟩:=yii underlying3 g1;simp at hx hy;exact ⟨(x,y),by simp [hx,hy],hx',hy'⟩
theorem rd_links (h:Rd enc prog w 176 cs):∃ l,yty w cs l/\∀ t∈l,zhe t:=by
 obtain ⟨v,l,h1,h2⟩:=ymt (R:=fun cs (t:Lk)=>cs=[.int .i64 t.1,.int .i64 t.2]/\zhe t) underlying176 zns (qhn 1) (fun cs h=>rd_link h) h;refine ⟨l,⟨v,h1,ypj (fun t:Lk=>[.int .i64 t.1,.int .i64 t.2]) (fun _=>rfl) om h2 (fun cs x h=>h.1)⟩,fun x hx=>?_⟩;obtain ⟨xs,_,h3⟩:=h2;obtain ⟨i,hi⟩:=qan hx;exact (h3 i x hi).2
theorem rd_ints (h:Rd enc prog w 26 cs):∃ v l,cs=[v]/\zcr .i64 w v l/\∀ x∈l,yxp x:=by
 obtain ⟨v,l,h1,hl⟩:=ymt (R:=fun cs x=>cs=[.int .i64 x]/\yxp x) underlying26 zop Nat.one_pos (fun cs h=>by obtain ⟨n,h1,h2⟩:=yii underlying3 h;exact ⟨n,h1,h2⟩) h;refine ⟨v,l,h1,?_,fun x hx=>?_⟩
 .have:=ypj (fun x=>[.int .i64 x]) (fun _=>rfl) Nat.one_pos hl (fun cs x h=>h.1);unfold zcr
  rwa [zkt l] at this
 obtain ⟨xs,_,h2⟩:=hl;obtain ⟨i,hi⟩:=qan hx;exact (h2 i x hi).2
theorem rd_ports (h:Rd enc prog w 27 cs):∃ v l,cs=[v]/\ytz w v l/\∀ x∈l,∀ t∈x,zhe t:=by
 obtain ⟨v,l,h1,h2⟩:=ymt (R:=fun cs l=>yty w cs l/\∀ t∈l,zhe t) underlying27 cellsLinks Nat.one_pos (fun cs h=>rd_links h) h;refine ⟨v,l,h1,h2.imp fun _ _ _ h=>h.1,fun x hx=>?_⟩;obtain ⟨xs,_,h3⟩:=h2;obtain ⟨i,hi⟩:=qan hx;exact (h3 i x hi).2
theorem open_graph (hv:Value.okWide prog w .any base 29 v) (h:DataW.Trod enc prog w 0 (fun _=>true) true 29 v d ps):∃ g,yxx w v g/\zzz g:=by
 obtain ⟨cs,rfl,hcs⟩:∃ cs,v=.agg cs/\cs.size=prog.cellsOf 29:=by
  unfold Value.okWide at hv;rw [underlying29] at hv;obtain ⟨cs,h1,h2,_⟩:=hv;exact ⟨cs,h1,h2⟩
 have hr:=xil h;simp only [Value.cells] at hr;obtain ⟨h1,h2⟩:=yma underlying29 hr;rw [cellsGraph] at h1;obtain ⟨cs⟩:=cs;simp only at h1 h2
 match cs,h1 with
 | [a,b],_=>
  have g0:=h2 0 _ rfl;have g1:=h2 1 _ rfl;simp [cellsInts,cellsPorts] at g0 g1;obtain ⟨iv,l,e2,q2,q3⟩:=rd_ints g0;obtain ⟨pv,rr,e3,q4,q5⟩:=rd_ports g1;simp at e2 e3;exact ⟨⟨l,rr⟩,⟨iv,pv,by simp [e2,e3],q2,q4⟩,q3,q5⟩
end
end
section
open Go.RowKit
theorem links_rel (h:znb w v l):Rel (okW w) w lv (ykm l) v:=
 yoo (g:=fun t:Lk=>[.int .i64 t.1,.int .i64 t.2]) (fun _=>rfl) (fun x u hu=>by simp at hu;rcases hu with rfl|rfl <;> rfl) h
theorem graph_rel (h:yxx w v g):Rel (okW w) w lv (yfm g) v:=by
 obtain ⟨iv,pv,rfl,h1,h2⟩:=h;have h3:ybm (okW w) w lv [yah g.ids,yat g.ports] [iv,pv]:=by
  refine ybj (ints_rel h1) (ybj ?_ ygu);refine yon h2 (fun _=>rfl) (fun x c hc=>by simp at hc;subst hc;rfl) fun x _ cs hc=>?_;obtain ⟨lv',rfl,r1⟩:=hc;exact ybj (links_rel r1) ygu
 exact .agg _ h3.1 (fun c hc=>by simp at hc;rcases hc with rfl|rfl <;> rfl) h3.2
end
set_option maxHeartbeats 8000000
section
open Go.RowKit
theorem Lex.mono {P:Program} {ops:Array Oper} {lf:Oper->Bool} {Q Q':SS->Prop} (hq:∀ s,Q s->Q' s) {l:List Oper} {s:SS} (h:Lex P N ops lf Q l s):Lex P N ops lf Q' l s:=by
 induction h with
 | nil h=>exact .nil (hq _ h)
 | calm r hw hd hy _ ih=>exact .calm r hw hd hy ih
 | skip hw hd _ ih=>exact .skip hw hd ih
 | loud R hl hw hy _ ih=>exact .loud R hl hw hy ih
 | split d b hb _ ih=>exact .split d b hb ih
theorem xac {P:Program} {ops:Array Oper} {lf:Oper->Bool} {y:Code} {Q:Exit->SS->Prop} {l:List Oper} {s:SS} (T:List (Nat × AV)) (H:List (Nat × Option LObj)) (k1:Lex P N ops lf (fun s=>Sub (S T H) s) l s) (k2:A P N y Q (S T H)):Lex P N ops lf (xks P N y Q .normal) l s:=
 k1.mono fun s hs=>ynu k2 hs
theorem xiy {t T:List (Nat × AV)} {h H:List (Nat × Option LObj)} (h1:yxu t T) (h2:yts h H):Sub (S T H) (S t h):=⟨ybo h1,yai h2⟩
def pgH (p:ProgD) (g:GraphD):List (Nat × Option LObj):=[(7,some (.cells [ynt p.name,.sl 6 (p.vars.map ybq),.sl 3 (p.rules.map ybg)])),(8,some (.cells [yah g.ids,yat g.ports]))]
theorem chk_zero {s:SpcD} {L:List Bool} {l:List (List Tm)} (h:(xev p g s L l).2=0):yfu p l=true/\zsa s L (fun k=>ysv g (ybn (yad p g) k) l)=none:=by
 unfold xev at h;split at h
 .rename_i hv;split at h
  .cases h
  rename_i hb;exact ⟨hv,hb⟩
 cases h
theorem cert_con (hA:Con prog 6 [] (yay true)) (p:ProgD) (g:GraphD) (hin:yio p) (kind:Int) (L:List Bool) (l:List (List Tm)) (k0:Int) (ws:List (BitVec 32)):Con prog 4 [yhb p,yfm g,i64 kind,yme L,yyq l,i64 k0,ynn ws] (yay true):=by
 have hsys:=system_con p g hin kind L;cases hsf:zrq p g kind L with
 | none=>
  rw [hsf] at hsys;refine ze Tryz.func4 ntmps4 Tryz.results4 ?_;refine zZ ?_;exact zp
 | some s=>
 rw [hsf] at hsys;obtain ⟨a1,a2,h0,hk,hl,n,hn,hb⟩:=sysF_some hin hsf;have hf:=yzp hin a1;have hS:=xgv hf h0 hk hn hb;have hok:=hS.ok;have hsn:=hS.len;have hpos:=hok.pos;have hslen:=hok.len;have hsb:=zft p g hf h0 hk hn;rw [hb] at hsb;have e3:(L.map fun b=>[yay b]).length=L.length:=qal ..;have e4:(l.map fun e=>[ybk e]).length=l.length:=qal ..;have e5:(ws.map fun B=>[ybd B]).length=ws.length:=qal ..;refine ze Tryz.func4 ntmps4 Tryz.results4 ?_;refine zZ ?_;refine yam 49 rfl (fun q1=>?_) (fun q1=>?_)
 .refine zZ ?_;exact zp
 have q1:ws.length<=40:=by simp at q1;omega
 refine zY ?_;refine yam 54 rfl (fun q2=>?_) (fun q2=>?_)
 .refine zZ ?_;exact zp
 have q2:l.length<=4:=by simp at q2;omega
 have hsh:=short_con l om;refine zZ ?_;refine zj ?_ ?_ <;> intro q3
 .refine zZ ?_;exact zp
 have q3:zqp l=true:=by simpa using q3
 have q3':=q3;unfold zqp at q3';simp only [qac,List.all_eq_true,decide_eq_true_eq] at q3';have hes:∀ e∈l,e.length<=1000:=fun e he=>by have:=q3'.1 e he;omega
 have hchk:=ccertcheck_con (zdo hf h0 hsb hok L hl l hes om);refine zZ ?_;refine zj ?_ ?_ <;> intro q4
 .refine zZ ?_;exact zp
 have q4:(xev p g s L l).2=0:=by simpa using q4
 obtain ⟨hv,hbad⟩:=chk_zero q4;have hmod:=mod_con k0 L.length om;obtain ⟨m0,m1⟩:=modI_bd (a:=k0) (b:=(L.length:Int)) om;obtain ⟨k,hkk⟩:∃ k:Nat,xig k0 L.length=k:=⟨_,(qfd m0).symm⟩;rw [hkk] at hmod m1;have hun:=runrank_con p g k hf;rw [hS.unrankM hf h0 hn om] at hun;have hwat:=watch_con (hS.cfg k) (dmn_any (p:=p) (hS.cfg k).graph hk) ws om;obtain ⟨K,hK,hway⟩:=zrc hS hn ws k om;rw [hK] at hwat;obtain ⟨e0,l',hll⟩:∃ e0 l',l=e0::l':=by
  cases l with
  | nil=>simp at q3'
  | cons e0 l'=>exact ⟨e0,l',rfl⟩
 have hl0:l[(0:Int).toNat]?=some e0:=by rw [hll];rfl
 have he0:e0∈l:=by rw [hll];exact qbk ..
 have hv0:yfu p [e0]=true:=by
  unfold yfu at hv ⊢;simp only [qac,decide_eq_true_eq,List.all_eq_true] at hv ⊢;exact ⟨⟨⟨hv.1.1.1,sm⟩,sm⟩,fun e he=>by rw [qaq.1 he];exact hv.2 e0 he0⟩
 obtain ⟨b,hbo,hbv⟩:=bound_con hf h0 (L:=L) (s:=s) (kind:=kind) om hv0 (zdo hf h0 hsb hok L hl [e0] (fun e he=>by rw [qaq.1 he];exact hes e0 he0) sm);obtain ⟨eb,heb⟩:∃ eb,(xev p g s L [e0]).2=eb:=⟨_,rfl⟩;rw [heb] at hbo;have hone:l.length=1->eb=0/\zsa s L (fun k=>ysv g (ybn (yad p g) k) [e0])=none:=fun h1=>by
  have:l=[e0]:=by rw [hll] at h1 ⊢;rw [qaz (l:=l') (by simpa using h1)]
  rw [this] at q4 hbad;exact ⟨heb.symm.trans q4,hbad⟩
 refine zZ ?_;refine xac [(115,yay false),(3,yme L),(4,yyq l),(6,ynn ws),(22,xbf (K.map (ybn (yad p g)))),(25,i64 b),(7,.lp 7 0),(8,.lp 8 0)] (pgH p g) ?_ ?_
 .refine yam 111 rfl (fun q5=>?_) (fun q5=>?_)
  .have h1:eb=0:=(hone (by simp at q5;omega)).1;subst h1;refine zY ?_;exact xiy zs (yaa rfl (yaa rfl yag))
  refine zY ?_;exact xiy zs (yaa rfl (yaa rfl yag))
 obtain ⟨V,hV⟩:∃ V:Nat->List Int,V=fun k=>ysv g (ybn (yad p g) k) l:=⟨_,rfl⟩;rw [<- hV] at hbad;have hVl:∀ k,(V k).length<=1000:=fun k=>by rw [hV];simp only [yxn];omega
 obtain ⟨vo,hvo,hv1⟩:∃ vo:Option (Nat->Int),(∀ v',vo=some v'->∀ k,V k=[v' k])/\(l.length=1->∃ v',vo=some v'/\b=xiu (yqi v' (yhg L))):=by
  by_cases h1:l.length=1
  .refine ⟨some _,fun v' e k=>?_,fun _=>⟨_,rfl,hbv (hone h1).2⟩⟩;cases e;rw [hV,hll,qaz (l:=l') (by rw [hll] at h1;simpa using h1)];rfl
  exact ⟨none,fun v' e=>(by cases e),fun h=>absurd h h1⟩
 have hKl:K.length<=41:=by
  have:=zrb (p:=p) (g:=g) (kind:=kind) (ws:=ws) (c:=ybn (yad p g) k);rw [hK,qal] at this;omega
 have e6:((K.map (ybn (yad p g))).map fun c=>[yds c]).length=K.length:=by simp
 refine zY ?_;refine zjz 27 60 1 rfl rfl rfl ?_;refine zcp (f:=i64) (l:=([]:List Int)) 27 rfl rfl rfl rfl ?_;refine ybl (α:=Nat × List Int) (fun a=>[(28,i64 a.1),(27,yah a.2),(3,yme L),(4,yyq l),(6,ynn ws),(22,xbf (K.map (ybn (yad p g)))),(25,i64 b),(7,.lp 7 0),(8,.lp 8 0)]) (fun a=>pgH p g) (fun a=>K.length - a.1) (fun a=>CertI s n L V vo k K ws.length a.1 a.2) (0,[]) (CertI.start hway) zs zh ?_;rintro ⟨i,bf⟩ hI;simp only at hI ⊢;refine zY ?_;refine zj ?_ ?_ <;> intro q5
 .have q5:i < K.length:=by simp at q5;omega
  obtain ⟨x,hx⟩:=ybr q5;obtain ⟨kx,l2,m2,hd,hw,hm,hless,hz⟩:=hI.way q5;have hxk:x=kx:=by
   have:=congrArg List.head? hd;rw [List.head?_drop,hx] at this;exact Option.some.inj this
  subst hxk;have hxn:=hw.lt;have hcx:(K.map (ybn (yad p g)))[i]?=some (ybn (yad p g) x):=by rw [qah,hx];rfl
  have hcfg:=hS.cfg x;have hrr:=rrank_con p g (ybn (yad p g) x) hf hcfg.cin;rw [hS.rankM hn hxn] at hrr;have hrv:=zat p g (ybn (yad p g) x) hf hcfg.cin;rw [hcfg.chk] at hrv;have hvec:=cvector_con hcfg l hes hv;rw [show ysv g (ybn (yad p g) x) l=V x by rw [hV]] at hvec;obtain ⟨bl,hbl⟩:=ybr (show x < L.length by omega);have hLx:L.getD x false=bl:=by rw [qad,hbl];rfl
  refine zZ ?_;refine xac [(149,yay false),(28,i64 i),(27,yah bf),(29,i64 x),(3,yme L),(4,yyq l),(6,ynn ws),(22,xbf (K.map (ybn (yad p g)))),(25,i64 b),(7,.lp 7 0),(8,.lp 8 0)] (pgH p g) ?_ ?_
  .refine yam 144 rfl (fun q6=>?_) (fun q6=>?_)
   .obtain ⟨v',e1,e2⟩:=hv1 (by simp at q6;omega);have hbd:=hI.bound e1;rw [<- e2] at hbd;refine zY ?_;exact xiy (yas (yfx rfl (by rw [decide_eq_false (show ¬ b < (i:Int) by omega)];rfl)) zs) (yaa rfl (yaa rfl yag))
   refine zY ?_;exact xiy zs (yaa rfl (yaa rfl yag))
  refine zY ?_;cases bl with
  | true=>
   refine zZ ?_;exact zp
  | false=>
  refine zZ ?_;refine xac [(177,yay false),(31,yah (V x)),(28,i64 i),(3,yme L),(4,yyq l),(6,ynn ws),(22,xbf (K.map (ybn (yad p g)))),(25,i64 b),(7,.lp 7 0),(8,.lp 8 0)] (pgH p g) ?_ ?_
  .refine yam 171 rfl (fun q7=>?_) (fun q7=>?_)
   .have hls:=zwf (V x) bf (hVl x) hI.short;rw [hless (by simp at q7;omega) hLx] at hls;refine zZ ?_;exact xiy zs (yaa rfl (yaa rfl yag))
   refine zY ?_;exact xiy zs (yaa rfl (yaa rfl yag))
  refine zY ?_;exact rnd (i+1,V x) (hI.next om hbad hx hLx (hVl x) hvo) (by simp only;omega) zs zh
 have q5:i=K.length:=by have:=hI.le;simp at q5;omega
 have hfin:=hI.fin q5;refine zZ ?_;refine zr ?_;exact yae so
end
section
open Go.ChangeShapes Go.WideShapes Go.RowKit
def xll (w:World) (v:Value) (l:List (BitVec 32)):Prop:=Row w v 1 l.length (l.flatMap fun B=>[.int .u32 (B.toNat:Int)])
theorem u32s_rel {l:List (BitVec 32)} (h:xll w v l):Rel (okW w) w lv (ynn l) v:=
 yoo (g:=fun B:BitVec 32=>[.int .u32 (B.toNat:Int)]) (fun _=>rfl) (fun x u hu=>by simp at hu;subst hu;rfl) h
theorem cellsU32:prog.cellsOf 50=1:=by kernel_rfl
theorem open_u32s (hv:Value.okWide prog w .any base 31 v) (h:DataW.Trod enc prog w 0 (fun _=>true) true 31 v d ps):∃ l,xll w v l:=by
 obtain ⟨l,hl⟩:=yqy (R:=fun cs (B:BitVec 32)=>cs=[.int .u32 (B.toNat:Int)]) underlying31 cellsU32 Nat.one_pos (fun cs h=>by
  obtain ⟨n,h1,h2⟩:=xgp underlying50 h
  simp only [Lit.wf,qac,decide_eq_true_eq] at h2
  have e1:IntKind.u32.min=0:=by decide
  have e2:IntKind.u32.max=4294967295:=by decide
  exact ⟨BitVec.ofNat 32 n.toNat,by rw [h1,qgr,qef om,qfd om]⟩) hv h
 exact ⟨l,ypj (fun B:BitVec 32=>[.int .u32 (B.toNat:Int)]) (fun _=>rfl) om hl (fun cs x h=>h)⟩
def zrt (w:World) (v:Value) (l:List Bool):Prop:=Row w v 1 l.length (l.flatMap fun b=>[.bool b])
theorem bools_rel {l:List Bool} (h:zrt w v l):Rel (okW w) w lv (yme l) v:=
 yoo (g:=fun b:Bool=>[.bool b]) (fun _=>rfl) (fun x u hu=>by simp at hu;subst hu;rfl) h
theorem cellsBool:prog.cellsOf 4=1:=by kernel_rfl
theorem open_bool_list (hv:Value.okWide prog w .any base 30 v) (h:DataW.Trod enc prog w 0 (fun _=>true) true 30 v d ps):∃ l,zrt w v l:=by
 obtain ⟨l,hl⟩:=yqy (R:=fun cs (b:Bool)=>cs=[.bool b]) underlying30 cellsBool Nat.one_pos (fun cs h=>by
  obtain ⟨b,h1⟩:=rd_bool underlying4 h
  exact ⟨b,h1⟩) hv h
 exact ⟨l,ypj (fun b:Bool=>[.bool b]) (fun _=>rfl) om hl (fun cs x h=>h)⟩
def xjd (w:World) (cs:List Value) (e:List Tm):Prop:=∃ u,cs=[u]/\yfl w u e
def zzx (w:World) (v:Value) (l:List (List Tm)):Prop:=Seq (xjd w) 1 w v l
theorem exps_rel {l:List (List Tm)} (h:zzx w v l):Rel (okW w) w lv (yyq l) v:=by
 refine yon h (fun _=>rfl) (fun x c hc=>by simp at hc;subst hc;rfl) fun x _ cs hc=>?_;obtain ⟨u,rfl,r1⟩:=hc;exact ybj (zgd r1) ygu
theorem open_exps (hv:Value.okWide prog w .any base 60 v) (h:DataW.Trod enc prog w 0 (fun _=>true) true 60 v d ps):∃ l,zzx w v l:=by
 obtain ⟨l,hl⟩:=yqy (R:=xjd w) underlying60 yyi Nat.one_pos (fun cs h=>by obtain ⟨u,l,h1,h2,_⟩:=zlx h;exact ⟨l,u,h1,h2⟩) hv h;exact ⟨l,hl⟩
theorem yfr (v0:Value) (z0:ProgD) (v1:Value) (z1:GraphD) (a2:Int) (v3:Value) (z3:List Bool) (v4:Value) (z4:List (List Tm)) (a5:Int) (v6:Value) (z6:List (BitVec 32)) (w:World) (h0:zhf w v0 z0/\yio z0) (h1:yxx w v1 z1/\zzz z1) (h2:(Lit.int .i64 a2).wf=true) (h3:zrt w v3 z3) (h4:zzx w v4 z4) (h5:(Lit.int .i64 a5).wf=true) (h6:xll w v6 z6) (hG:zba w) :
  Calls prog 4 #[v0,v1,.int .i64 a2,v3,v4,.int .i64 a5,v6] w fun e w'=>e=.returned (.bool true)/\Below w.heap.size w w':=
 zae (cert_con tawake_con z0 z1 h0.2 a2 z3 z4 a5 z6) hG (okW_lt w) (ybj (prog_rel h0.1) (ybj (graph_rel h1.1) (ybj (.v _) (ybj (bools_rel h3) (ybj (exps_rel h4) (ybj (.v _) (ybj (u32s_rel h6) ygu)))))))
end
section
open Go.RowKit
def lits1 (l:List (DataW Unit)):List Value:=l.flatMap fun|.lit (.int k z)=>[.int k z]|_=>[]
def lits2:DataW Unit->List Value
 | .agg l=>l.flatMap fun|.lit (.int k z)=>[.int k z]|.agg m=>lits1 m|_=>[]
 | _=>[]
def layIn (vs:List Value):Obj->Obj
 | .cells _ t frozen=>.cells vs.toArray t frozen
 | o=>o
noncomputable def zeh (os:Os):World:=
 { World.holding prog os ⟨#[],#[],[]⟩ with heap:=(World.holding prog os ⟨#[],#[],[]⟩).heap.modify 0 (layIn (lits2 Rows.laid_math_bits_deBruijn32tab)) }
theorem glob_of {laid : List (String × DataW Unit)} {W : World} (hl : (laid.filter fun x => x.1 == "math/bits.deBruijn32tab") = [("math/bits.deBruijn32tab", Rows.laid_math_bits_deBruijn32tab)]) (hs : W.ShapedOpen prog) (h : laidMetH prog laid W) : zba W := by
 have h2 := laidMetH.filter (fun x => x.1 == "math/bits.deBruijn32tab") h;rw [hl] at h2;have h3 : laidMet prog [("math/bits.deBruijn32tab", Lib.tabData .u8 xfn)] W := h2;exact Lib.tabIs_of_head (t:=294) (e:=5) (n:=32) zvt kf underlying294 underlying5 kf kf h3
end
end Go.Proofs.YtgpodcjhgdionaaGreatDoor
