/- Part 16 of the texts under TopCertificatesBoundRuns. -/
import Derived.Test.YtgpodcjhgdionaaGreatDoorCB5
import Derived.Test.YtgpodcjhgdionaaGreatDoorCB6
import Derived.Test.YtgpodcjhgdionaaGreatDoorCB7
import Derived.Test.YtgpodcjhgdionaaGreatDoorCB9
import Derived.Test.YtgpodcjhgdionaaGreatDoorCB10
import Derived.Test.YtgpodcjhgdionaaGreatDoorCB11
import Derived.Test.YtgpodcjhgdionaaGreatDoorCB12
import Derived.Test.YtgpodcjhgdionaaGreatDoorCB15
set_option linter.unusedVariables false
set_option maxRecDepth 100000
set_option maxHeartbeats 8000000
namespace Go.Proofs.YtgpodcjhgdionaaGreatDoor
open Go.Proofs.Tryz
variable {r:Nat->Nat->Bool} {x:Operand} {n k k0 wl m i:Nat} {e y:BitVec 32} {L:List Bool} {s:SpcD} {V:Nat->List Int} {v:Option (Nat->Int)} {g:GraphD} {kind:Int} {K:List Nat} {args:List AV} {f:FuncId} {p:ProgD} {c:Code}
section
open Go.RowKit
def zzb (n k:Nat):List AV:=(List.range k).map (fun v:Nat=>i64 v)++List.replicate (n - k) (i64 0)
theorem fidK_len (h:k<=n):(zzb n k).length=n:=by simp [zzb];omega
theorem fidK_next (h:k < n):(zzb n k).set k (i64 k)=zzb n (k+1):=by
 unfold zzb;rw [qbm _ _ sm,qcr];obtain ⟨m,hm⟩:∃ m,n - k=m+1:=⟨n - k - 1,om⟩;rw [show n - (k+1)=m by omega,hm];simp [qbo]
theorem empty_own (n:Nat) (hn:n<=24):yot prog 200 [i64 n] (yac []) (.agg [.ls 6 1 n,.ls 8 1 n]) (yac [(6,some (.vec (zzb n n))),(8,some (.vec (List.replicate n yfj)))]):=by
 refine ynh tok Tryz.func200 rfl rfl ntmps200 Tryz.results200 rfl (fun id o h h2=>?_) ?_
 .simp only [yac] at h;split at h
  .cases h;cases h2
  split at h
  .cases h;cases h2
  cases h
 (repeat (first|with_reducible refine ydk ?_|with_reducible refine ycd ?_|refine ycy ?_));refine ynb ?_;refine ybi (lf:=lfT) rfl ?_
 refine zO ?_;refine zt ?_;have hz1:ykr n (yit [Value.int .i64 0])=zzb n 0:=by
  rw [show yit [Value.int .i64 0]=[i64 0] from rfl,zxi];simp [zzb]
 have hz2:ykr n (yit [Value.slice none 0 0])=List.replicate n yfj:=by
  rw [show yit [Value.slice none 0 0]=[yfj] from rfl,zxi]
 refine yvc [(3,.lp 3 0),(2,.lp 2 0)] [(3,some (.cells [.ls 6 1 n,.ls 8 1 n])),(6,some (.vec (ykr n (yit [Value.int .i64 0])))),(8,some (.vec (ykr n (yit [Value.slice none 0 0])))),(2,some (.cells (yit zhc.zero)))] ?_ ?_
 .have hlim:n<=4294967296/\8 * n<=281474976710656:=by constructor <;> omega
  have hlim2:n<=4294967296/\24 * n<=281474976710656:=by constructor <;> omega
  refine ybx (lf:=lf0) ysy rfl ?_
  repeat' (first
   | refine zo ?_
   | refine yqg tok rfl rfl rfl rfl (by first|exact hlim|exact hlim2) rfl rfl rfl rfl rfl ?_
   | exact mid zs zh
   | exact trivial
   | refine ⟨⟨_,rfl,?_⟩,?_⟩
   | refine yau [0,1,4,6] (yab rfl (yab rfl (yab rfl (yab rfl yak)))) rfl dk ?_
   | refine yau [1,4,6] (yab rfl (yab rfl (yab rfl yak))) rfl dk ?_
   | refine yau [2,3,4,6] (yab rfl (yab rfl (yab rfl (yab rfl yak)))) rfl dk ?_
   | refine yau [3,4,6] (yab rfl (yab rfl (yab rfl yak))) rfl dk ?_
   | refine yau [4,6] (yab rfl (yab rfl yak)) rfl dk ?_
   | refine yau [5,6] (yab rfl (yab rfl yak)) rfl dk ?_
   | refine yaq [1,2,5] _ rfl dk sm ?_
   | refine yaq [0,3,5] _ rfl dk sm ?_
   | refine yaq [1,3,5] _ rfl dk sm ?_
   | refine yaq [0,2,5] _ rfl dk sm ?_
   | refine yaq [1,3] _ rfl dk sm ?_
   | refine yaq [2,5] _ rfl dk sm ?_
   | refine yaq [0,5] _ rfl dk sm ?_
   | refine yaq [0,3] _ rfl dk sm ?_
   | refine yaq [3,5] _ rfl dk sm ?_
   | refine yaq [0,2] _ rfl dk sm ?_
   | refine yaq [4,5] _ rfl dk sm ?_
   | refine yaq [1,5] _ rfl dk sm ?_
   | refine yaq [1,2] _ rfl dk sm ?_)
 rw [hz1,hz2]
 (repeat (first|refine zy ?_|refine xfu tok rfl rfl rfl rfl rfl ?_))
 refine ycx (α:=Nat) (fun k=>[(13,i64 k),(12,i64 n),(3,.lp 3 0),(2,.lp 2 0)]) (fun k=>[(6,some (.vec (zzb n k))),(3,some (.cells [.ls 6 1 n,.ls 8 1 n])),(8,some (.vec (List.replicate n yfj))),(2,some (.cells (yit zhc.zero)))]) (fun k=>n - k) (fun k=>k<=n) 0 om zs (yai (yaa rfl (yaa rfl (yaa rfl (yaa rfl yag))))) ?_;intro k hk;refine zY ?_;refine zj ?_ ?_ <;> intro h1
 .simp at h1;have hil:=fidK_len hk
  (repeat (first|refine zy ?_|refine yaw tok rfl rfl rfl rfl om om rfl rfl ?_))
  refine yjh tok rfl rfl rfl rfl rfl rfl (by rw [hil];omega) rfl (congrArg (fun z=>yac ((6,some (LObj.vec z))::_)) (show _=zzb n (k+1) by rw [show ((k:Int).toNat * 1)=k by simp,fidK_next h1])) rfl rfl ?_;refine zY ?_;exact ylb (k+1) om om zs (yai (yaa rfl (yaa rfl (yaa rfl (yaa rfl yag)))))
 simp at h1;obtain rfl:k=n:=by omega
 refine zY ?_;refine ykj ⟨_,rfl,yfa _,?_⟩;exact yai (yaa rfl (yaa rfl yag))
def yoi (n:Nat) (r:Nat->Nat->Bool) (v k:Nat):List Lk:=((List.range k).filter fun u=>v != u && r (min v u) (max v u)).map fun u:Nat=>((u:Int),(1:Int))
def xiw (n:Nat) (r:Nat->Nat->Bool):GraphD:=⟨(List.range n).map fun v:Nat=>(v:Int),(List.range n).map fun v=>yoi n r v n⟩
theorem linkR_len {v:Nat}:(yoi n r v k).length<=k:=by
 unfold yoi;rw [qal];have:=qdl (fun u=>v != u && r (min v u) (max v u)) (List.range k);simpa using this
theorem ziq {v:Nat}:yoi n r v (k+1)=if (v != k && r (min v k) (max v k))=true then yoi n r v k++[((k:Int),(1:Int))] else yoi n r v k:=by
 unfold yoi;rw [qcr,qck,qbu];simp only [qgh,qhq];split <;> simp
def rwF (n:Nat) (r:Nat->Nat->Bool) (v k:Nat):List (List AV):=((List.range v).map fun u=>(yoi n r u n).flatMap yfe)++(yoi n r v k).flatMap yfe::List.replicate (n - v - 1) []
def rwO (n:Nat) (r:Nat->Nat->Bool) (v:Nat):List (List AV):=((List.range v).map fun u=>(yoi n r u n).flatMap yfe)++List.replicate (n - v) []
theorem rwF_zero {v:Nat} (h:v < n):rwO n r v=rwF n r v 0:=by
 unfold rwO rwF;rw [show n - v=(n - v - 1)+1 by omega,qbo];rfl
theorem zfo {v:Nat}:((List.range v).map fun u=>(yoi n r u n).flatMap yfe).length=v:=by simp
theorem rwF_at {v:Nat}:(rwF n r v k)[v]?=some ((yoi n r v k).flatMap yfe):=by
 unfold rwF;rw [qai (by rw [zfo];omega),zfo,qbn];rfl
theorem rwF_len {v:Nat} (h:v < n):(rwF n r v k).length=n:=by
 unfold rwF;rw [qao,zfo,qaj,qdk];omega
theorem rwF_next {v:Nat} (h:v < n):(rwF n r v k).set v ((yoi n r v (k+1)).flatMap yfe)=rwF n r v (k+1):=by
 unfold rwF;rw [qbm _ _ (by rw [zfo];omega),zfo,qbn,qer]
theorem rwF_end {v:Nat} (h:v < n):rwF n r v n=rwO n r (v+1):=by
 unfold rwF rwO;rw [qcr,qbu];simp [Nat.sub_sub]
theorem flat_lenF (l:List Lk):(l.flatMap yfe).length=l.length * 2:=by
 induction l with
 | nil=>rfl
 | cons a l ih=>simp [ih,yfe];omega
theorem mat_part {M sz v:Nat} {rows:List (List AV)} {r:List AV} (h:rows[v]?=some r) (hm:r.length / sz=m):(yfi M sz 0 rows++[])[v]?=some (.ls (fam M v) sz m):=by
 rw [qbe,yel,h];simp only [qar,hm,qba]
def xdd (n:Nat):List (Nat × Option LObj):=[(5,some (.cells [yah ((List.range n).map fun v:Nat=>(v:Int)),.ls 61 1 n])),(4,some (.cells [AV.v (Value.slice none 0 0),AV.v (Value.slice none 0 0)]))]
theorem related_con {f:Nat} (n:Nat) (hn:n<=24) (hf:∀ a b:Nat,a < n->b < n->Con prog f [i64 a,i64 b] (yay (r a b))):Con prog 144 [i64 n,.fn f []] (yfm (xiw n r)):=by
 have hids:zzb n n=((List.range n).map fun v:Nat=>(v:Int)).map i64:=by simp [zzb]
 refine ydv tok Tryz.func144 rfl rfl ntmps144 Tryz.results144 rfl rfl ?_
 (repeat (first|with_reducible refine ydk ?_|with_reducible refine ycd ?_|refine ycy ?_));refine ynb ?_;refine ybi (lf:=lfT) rfl ?_
 refine zO ?_;refine zt ?_;refine ybi (lf:=lfT) rfl ?_;refine zO ?_;refine yxy [(6,60),(8,61)] (empty_own n hn) rfl rfl rfl rfl rfl rfl rfl yag rfl rfl rfl rfl rfl rfl ?_;refine zO ?_;refine zt ?_;refine xhp (t':=[(5,.lp 5 0),(4,.lp 4 0),(0,i64 n),(1,.fn f [])]) (h':=[(5,some (.cells [.ls 60 1 n,.ls 61 1 n])),(60,some (.vec (zzb n n))),(61,some (.vec (List.replicate n yfj))),(4,some (.cells [AV.v (Value.slice none 0 0),AV.v (Value.slice none 0 0)]))]) ?_ zs zh;refine yeg 5 0 (((List.range n).map fun v:Nat=>(v:Int)).map fun z=>[i64 z]) rfl rfl rfl sm (fun row hr=>by obtain ⟨y,_,rfl⟩:=qag.1 hr;rfl) (by rw [hids,ydj]) rfl rfl rfl rfl ?_;refine yxv 61 (List.replicate n yfj) rfl rfl ?_;refine xhp (t':=[(5,.lp 5 0),(4,.lp 4 0),(0,i64 n),(1,.fn f [])]) (h':=xdd n++[(61,some (ygy (List.replicate n yfj)))]) ?_ zs zh;refine zmu (f:=xdd n) 61 2 n rfl rfl rfl rfl rfl ?_;refine zY ?_;refine ycx (α:=Nat) (fun v=>[(11,i64 v),(10,i64 n),(5,.lp 5 0),(4,.lp 4 0),(0,i64 n),(1,.fn f [])]) (fun v=>xdd n++ybs 61 2 (rwO n r v) []) (fun v=>n - v) (fun v=>v<=n) 0 om zs (hsE (by simp [rwO])) ?_;intro v hv;refine zY ?_;refine zj ?_ ?_ <;> intro h1
 .simp at h1;refine zY ?_;refine ycx (α:=Nat) (fun u=>[(15,i64 u),(14,i64 n),(6,i64 v),(11,i64 v),(10,i64 n),(5,.lp 5 0),(4,.lp 4 0),(0,i64 n),(1,.fn f [])]) (fun u=>xdd n++ybs 61 2 (rwF n r v u) []) (fun u=>n - u) (fun u=>u<=n) 0 om zs (hsE (by rw [rwF_zero h1])) ?_;intro u hu;refine zY ?_;refine zj ?_ ?_ <;> intro h2
  .simp at h2;have hcall:=hf (min v u) (max v u) om om;have hsame:(v != u && r (min v u) (max v u))=false->rwF n r v (u+1)=rwF n r v u:=fun e=>by
    unfold rwF;rw [ziq,e,if_neg sm]
   refine zW ?_;refine yam 21 rfl (fun h3=>?_) (fun h3=>?_)
   .have hne:v≠u:=by
     intro e;subst e;simp at h3
    (repeat (first|refine zwz ?_|refine ymj 25 (y:=i64 ((min v u:Nat):Int)) rfl (yof (by split <;> omega)) ?_|refine ymj 28 (y:=i64 ((max v u:Nat):Int)) rfl (yof (by split <;> omega)) ?_))
    refine zj ?_ ?_ <;> intro h4
    .have hnx:yoi n r v (u+1)=yoi n r v u++[((u:Int),(1:Int))]:=by rw [ziq,if_pos (by simp [hne,h4])]
     have hll:=linkR_len (n:=n) (r:=r) (v:=v) (k:=u);have hfl:=flat_lenF (yoi n r v u);have hrow:=rwF_at (n:=n) (r:=r) (v:=v) (k:=u);have hcell:=mat_part (M:=61) (sz:=2) hrow (m:=(yoi n r v u).length) (by rw [hfl];omega);have hk1:((v:Int).toNat * 1)=v:=by simp
     have hlr:=rwF_len (n:=n) (r:=r) (k:=u) h1;refine zW ?_;refine ybx (lf:=lf0) ysy rfl ?_;refine yee [3,4,5,6,7,8,9,10] 6 (yab rfl (yab rfl (yab rfl (yab rfl (yab rfl (yab rfl (yab rfl (yab rfl yak)))))))) rfl kf ?_
     (repeat (first|refine zo ?_|refine yaw tok rfl rfl (ybt (f:=xdd n) rfl) rfl om om rfl rfl ?_|refine yft (r:=.ls (fam 61 v) 2 (yoi n r v u).length) tok rfl rfl rfl (by rw [ybt (f:=xdd n) rfl];exact ygd _) (by rw [hk1];exact hcell) rfl rfl ?_))
     have hat:yac (xdd n++(61,some (ygy ((yfi 61 2 0 (rwF n r v u)++[]).set v .one)))::ypy 61 0 ((rwF n r v u).set v ((yoi n r v u).flatMap yfe++[[i64 u,i64 1]].flatten))) 61=some (ygy ((yfi 61 2 0 (rwF n r v u)++[]).set v .one)):=by rw [ybh _ _ (ynj rfl),yaz]
     refine zbj tok yqu [(0,31,.lp 5 (0+1)),(1,32,.ls 61 1 n),(2,33,i64 v)] 11 42 [38] (.ls (fam 61 v) 2 ((yoi n r v u).length+1)) (req:=[(5,.lp 5 0),(6,i64 v)]) 2 rfl kf rfl rfl rfl kf kf rfl ⟨⟨rfl,rfl,rfl⟩,⟨rfl,rfl,rfl⟩,trivial⟩ rfl
      ⟨⟨_,[(5,.lp 5 0),(6,i64 v)],rfl,rfl,rfl,kf,kf,kf,kf,rfl,rfl,rfl⟩,⟨_,[(31,.lp 5 (0+1)),(5,.lp 5 0),(6,i64 v)],rfl,rfl,rfl,kf,kf,kf,kf,rfl,rfl,rfl⟩,⟨_,[(5,.lp 5 0),(6,i64 v)],rfl,rfl,rfl,kf,kf,kf,kf,rfl,rfl,rfl⟩,trivial⟩ rfl rfl rfl
      (fun t ht hl=>zal (s:=⟨t,_⟩) (t':=ymf [38] t) (i:=v) (news:=[[i64 u,i64 1]]) (f:=xdd n) tok (fun x y h=>(zvx hl h).imp (fun e=>e) fun e=>⟨e.1,yqu.ment (ygf _ _) e.2⟩) (fun x y h=>zos h) rfl rfl rfl (ht 38 _ rfl) hrow hfl (ht 41 _ rfl) (by intro c hc;simp at hc;rcases hc with rfl|rfl <;> rfl) (by constructor <;> simp <;> omega) rfl rfl rfl rfl rfl rfl) ?_
     refine yau [12,13] (yab rfl (yab rfl yak)) rfl kf ?_;refine yaw tok rfl rfl hat rfl om om rfl rfl ?_;refine yrr tok rfl rfl rfl rfl rfl hat (by rw [qfw,qbe,yem,hlr];omega) rfl rfl ?_;refine xft (h':=xdd n++ybs 61 2 (rwF n r v (u+1)) []) ?_ ?_
     .rw [hk1];refine (zvv (f:=xdd n) rfl om rfl (by rw [hlr];exact h1) (by rw [qao,hfl];simp)).trans ?_;rw [<- rwF_next h1,hnx,List.flatMap_append];rfl
     refine zY ?_;exact ylb (u+1) om om zs (fun _ _ h=>h)
    refine zY ?_;exact ylb (u+1) om om zs (hsE (by rw [hsame (by rw [show r (min v u) (max v u)=false from h4];simp)]))
   refine zY ?_;exact ylb (u+1) om om zs (hsE (by rw [hsame (by
    have:v=u:=by
     have:(v:Int)=u:=by simpa using h3
     omega
    subst this;simp)]))
  simp at h2;obtain rfl:u=n:=by omega
  refine zY ?_;exact ylb (v+1) om om zs (hsE (by rw [rwF_end h1]))
 simp at h1;obtain rfl:v=n:=by omega
 refine zk ?_;refine Frz.aggL rfl rfl fun i x y hx hy=>?_;have hi:=(qaa.1 hx).1;have:i=0\/i=1:=by simp at hi;omega
 rcases this with rfl|rfl
 .cases hx;cases hy;exact Frz.pure
 cases hx;simp only [xiw,qce,qat,Option.some.injEq] at hy;subst hy;have:=Frz.mat (f:=(4,some (.cells [yah ((List.range v).map fun u:Nat=>(u:Int)),.ls 61 1 v]))::xdd v) (M:=61) (sz:=2) (rows:=rwO v r v) (els:=(xiw v r).ports.map fun ls=>ls.map yfe) rfl rfl rfl om (by intro e he x hx;obtain ⟨q,_,rfl⟩:=qag.1 he;obtain ⟨z,_,rfl⟩:=qag.1 hx;rfl) (n:=v) (by simp [xiw]) (by
  simp only [rwO,xiw,qbn,qgm,qbe,qex]
  exact List.map_congr_left fun u _=>List.flatMap_def)
 rw [qex] at this;exact this
theorem path1_con (a b:Nat) (h:a < 30/\b < 30):Con prog 77 [i64 a,i64 b] (yay (a+1 == b)):=by
 refine ze Tryz.func77 ntmps77 Tryz.results77 ?_;refine zk ?_;exact yae (by rw [qbq,beq_iff_eq,beq_iff_eq];omega)
def zzh (n:Nat):GraphD:=xiw n fun a b=>a+1 == b
theorem path_con (n:Nat) (hn:1<=n/\n<=24):Con prog 29 [i64 n] (.tup [yfm (zzh n),i64 0]):=by
 have hr:=related_con (f:=77) (r:=fun a b=>a+1 == b) n hn.2 fun a b ha hb=>path1_con a b om;have ho:Con prog 76 [i64 n,.fn 77 []] (.tup [yfm (zzh n),i64 0]):=by
  refine ydv tok Tryz.func76 rfl rfl ntmps76 Tryz.results76 rfl rfl ?_;refine zY ?_;refine yam 8 rfl (fun h1=>?_) (fun h1=>?_)
  .simp at h1;omega
  refine zY ?_;refine zj ?_ ?_ <;> intro h2
  .simp at h2;omega
  refine zZ ?_;exact zp
 refine ydv tok Tryz.func29 rfl rfl ntmps29 Tryz.results29 rfl rfl ?_;refine zZ ?_;exact zp
end
section
open Go.RowKit
def natL (l:List Nat):List Int:=l.map fun k:Nat=>(k:Int)
end
section
open Go.RowKit
def xlf (s:SpcD):LObj:=.cells [ynn (s.map (·.1)),.sl 1 (s.map fun x=>[yda x.2])]
def wA:Option (List Nat)->AV
 | some l=>.tup [yah (natL l),i64 0]
 | none=>.tup [yah [],i64 14]
end
section
open Go.RowKit
def zdd (a:ArcD):Value:=.agg #[.int .u32 (a.1.toNat:Int),.int .i64 a.2]
theorem eqArc (a:ArcD) (w:World):(Op.equalIn 10000 87 (zdd a) (zdd a)).run prog w=.ok true w:=by
 have u3:=underlying3;have a3:=Tryz.isAgg3;have z3:=Tryz.sizeOf3;have u9:=underlying50;have a9:=Tryz.isAgg50;have z9:=Tryz.sizeOf50;rw [show (10000:Nat)=9999+1 from rfl];unfold zdd;rw [run_equalIn_agg w 9999 87 _ _ kf kf];simp only [Program.fieldsOf,underlying87];go_simp
theorem yield_neqA {ρ:Operand->Option AV} {hp:Nat->Option LObj} {y:Operand} {a:ArcD} {ty' ty:TypeId} (hx:ρ x=some (.agg (yob a))) (hy:ρ y=some (.agg (yob a))):yby prog hp ρ (.binOp .neq 87 x y ty') ty (yay false):=by
 have ex:zgu ρ x=zdd a:=by simp only [zgu,hx];rfl
 have ey:zgu ρ y=zdd a:=by simp only [zgu,hy];rfl
 refine ycq (fun _ _=>by simp) (by simp only [yha,Op.operands,hx,hy];rfl) fun w=>?_;have hg:=run_eqGuard_agg (P:=prog) w .neq 87 x y #[.int .u32 (a.1.toNat:Int),.int .i64 a.2] #[.int .u32 (a.1.toNat:Int),.int .i64 a.2] kf;simp only [zdd] at ex ey;have he:=eqArc a;simp only [zdd] at he;simp [execOp,ex,ey,hg,run_neq_struct,he]
section
variable {N:Nat} {ops:Array Oper} {lf:Oper->Bool} {Q:SS->Prop} {t:List (Nat × AV)} {h:List (Nat × Option LObj)} {rest:List Oper} {d:Nat} {ty:TypeId} {pos:String} {af:Array Edge} {gd:Option (Nat × Bool)}
theorem L_neqA {y:Operand} {a:ArcD} {ty':TypeId} (hx:evF (yaj t) x=some (.agg (yob a))) (hy:evF (yaj t) y=some (.agg (yob a))) (hw:yal ops (yaj t) ⟨some d,.binOp .neq 87 x y ty',ty,pos,af,gd⟩=some true) (hd:Nat.blt d N=true) (k:Lex prog N ops lf Q rest (S ((d,yay false)::t) h)):Lex prog N ops lf Q (⟨some d,.binOp .neq 87 x y ty',ty,pos,af,gd⟩::rest) (S t h):=
 ycl (yield_neqA hx hy) hw hd k
end
theorem rsame15_con (l:List (BitVec 32)) (hl:l.length<=4294967296):Con prog 71 [ynn l,ynn l] (yay true):=by
 refine ze Tryz.func71 ntmps71 Tryz.results71 ?_;refine zY ?_;refine zj ?_ ?_ <;> intro q1
 .simp at q1
 refine zY ?_;refine ybl (α:=Nat) (fun i=>[(5,i64 i),(0,ynn l),(1,ynn l)]) (fun _=>[]) (fun i=>l.length - i) (fun i=>i<=l.length) 0 om zs yag ?_;intro i hi;refine zY ?_;refine zj ?_ ?_ <;> intro q2
 .simp at q2;obtain ⟨x,hx⟩:=ybr q2;refine zY ?_;refine zj ?_ ?_ <;> intro q3
  .simp at q3
  refine zY ?_;exact rnd (i+1) om om zs yag
 simp at q2;obtain rfl:i=l.length:=by omega
 exact zkp
theorem rsame18_con (h:SpcOk s):Con prog 27 [xbg s,xbg s] (yay true):=by
 obtain ⟨h1,h2,h3,h4⟩:=h;have e1:(s.map (·.1)).length=s.length:=qal ..;have hs:=rsame15_con (s.map (·.1)) om;refine ze Tryz.func27 ntmps27 Tryz.results27 ?_;refine zZ ?_;refine zj ?_ ?_ <;> intro q1
 .simp at q1
 refine zY ?_;refine ybl (α:=Nat) (fun k=>[(5,i64 k),(2,.lp 2 0),(3,.lp 3 0)]) (fun _=>[(2,some (xlf s)),(3,some (xlf s))]) (fun k=>s.length - k) (fun k=>k<=s.length) 0 om zs zh ?_;intro k hk;refine zY ?_;refine zj ?_ ?_ <;> intro q2
 .simp at q2;obtain ⟨x,hx⟩:=ybr q2;have htl:x.2.length<=262144:=by have:=zra hx;have:=xeg s (k+1);omega
  refine zY ?_;refine zj ?_ ?_ <;> intro q3
  .simp at q3
  refine zY ?_;refine ybl (α:=Nat) (fun i=>[(6,i64 i),(5,i64 k),(2,.lp 2 0),(3,.lp 3 0)]) (fun _=>[(2,some (xlf s)),(3,some (xlf s))]) (fun i=>x.2.length - i) (fun i=>i<=x.2.length) 0 om zs zh ?_;intro i hi;refine zY ?_;refine zj ?_ ?_ <;> intro q4
  .simp at q4;obtain ⟨a,ha⟩:=ybr q4
   (repeat (first|refine zy ?_|refine L_neqA (a:=a) rfl rfl rfl rfl ?_))
   exact rnd (i+1) om om zs zh
  simp at q4;obtain rfl:i=x.2.length:=by omega
  refine zY ?_;exact rnd (k+1) om om zs zh
 simp at q2;obtain rfl:k=s.length:=by omega
 exact zkp
def yxe (p:ProgD) (g:GraphD) (m:Int):Bool:=zar p g && ((yhx p g).2 != 0 && (yhx p g).2 != 3 || ((yhx p g).2 == 0 && decide ((yhx p g).1<=m)))
theorem small_con (p:ProgD) (g:GraphD) (hin:yio p) (m:Int):Con prog 24 [yhb p,yfm g,i64 m] (yay (yxe p g m)):=by
 have hq:=quick_con p g hin;cases h1:zar p g with
 | false=>
  rw [h1] at hq;refine ze Tryz.func24 ntmps24 Tryz.results24 ?_;refine zZ ?_;refine zr ?_;exact yae (by simp [yxe,h1])
 | true=>
  rw [h1] at hq;have hf:Fair p g:=by
   unfold zar at h1;simp only [qac,decide_eq_true_eq] at h1;exact ⟨hin,zlb h1.1.1,h1.1.2⟩
  have hc:=yjd p g hf;obtain ⟨⟨n,e⟩,hne⟩:∃ x,yhx p g=x:=⟨_,rfl⟩;have hs:yxe p g m=(e != 0 && e != 3 || (e == 0 && decide (n<=m))):=by simp [yxe,h1,hne]
  rw [hne] at hc;rw [hs];refine ze Tryz.func24 ntmps24 Tryz.results24 ?_;refine zZ ?_;refine yam 21 rfl (fun g1=>?_) (fun g1=>?_)
  .have g1:e≠0:=by simpa using g1
   refine zY ?_;refine yam 25 rfl (fun g2=>?_) (fun g2=>?_)
   .have g2:e≠3:=by simpa using g2
    refine zk ?_;exact yae (by simp [g1,g2])
   have g2:e=3:=by simpa using g2
   subst g2;exact zkp
  have g1:e=0:=by simpa using g1
  subst g1;refine zk ?_;exact yae sm
end
section
open Go.RowKit
def zoc:AV:=.agg [ynn [],.sl 1 []]
theorem fits_ne3:ycn p g≠3:=by
 unfold ycn
 repeat' split
 all_goals omega
theorem rbuild_bad1 (p:ProgD) (g:GraphD) (hf:Fair p g) (h0:ycn p g≠0) (kind:Int):Con prog 25 [yhb p,yfm g,i64 kind] (.tup [zoc,i64 (ycn p g)]):=by
 have hco:=yjd p g hf;rw [yhx,if_neg h0] at hco;have h3:=fits_ne3 (p:=p) (g:=g);obtain ⟨e,he⟩:∃ e,ycn p g=e:=⟨_,rfl⟩;rw [he] at hco h0 h3 ⊢;refine ydv tok Tryz.func25 rfl rfl ntmps25 Tryz.results25 rfl rfl ?_;refine zZ ?_;refine yam 29 rfl (fun g1=>?_) (fun g1=>?_)
 .refine zY ?_;refine zj ?_ ?_ <;> intro g2
  .refine zk ?_;exact Frz.tup2 yko Frz.pure
  exact absurd g2 (by simpa using h3)
 exact absurd g1 (by simpa using h0)
theorem rbuild_bad2 (p:ProgD) (g:GraphD) (hf:Fair p g) (h0:ycn p g=0) (hk:¬ (1<=kind/\kind<=4)):Con prog 25 [yhb p,yfm g,i64 kind] (.tup [zoc,i64 12]):=by
 have hco:=yjd p g hf;rw [yhx,if_pos h0] at hco;have hrk:=ywz kind;rw [show (decide (1<=kind) && decide (kind<=4))=false by simpa using hk] at hrk;unfold yci at hco;refine ydv tok Tryz.func25 rfl rfl ntmps25 Tryz.results25 rfl rfl ?_;cases hc:yhp 1 (yad p g).flatten with
 | none=>
  rw [hc] at hco;refine zZ ?_;refine zr ?_;exact Frz.tup2 yko Frz.pure
 | some n=>
  rw [hc] at hco;refine zZ ?_;refine zr ?_;exact Frz.tup2 yko Frz.pure
theorem rbuild_bad3 (p:ProgD) (g:GraphD) (hf:Fair p g) (h0:ycn p g=0) (hk:1<=kind/\kind<=4) (hc:yhp 1 (yad p g).flatten=none):Con prog 25 [yhb p,yfm g,i64 kind] (.tup [zoc,i64 3]):=by
 have hco:=yjd p g hf;rw [yhx,if_pos h0,yci,hc] at hco;have hrk:=ywz kind;rw [decide_eq_true hk.1,decide_eq_true hk.2] at hrk;refine ydv tok Tryz.func25 rfl rfl ntmps25 Tryz.results25 rfl rfl ?_;refine zZ ?_;refine zr ?_;exact Frz.tup2 yko Frz.pure
def zrq (p:ProgD) (g:GraphD) (kind:Int) (L:List Bool):Option SpcD:=
 if yxe p g 120=true/\g.ports.length<=4/\L.length<=200/\ycn p g=0/\1<=kind/\kind<=4 then
  match yhp 1 (yad p g).flatten with
  | none=>none
  | some n=>match yth p g kind n.toNat 0 0 with
   | none=>none
   | some s=>if L.length=s.length then some s else none
 else none
def xlg:Option SpcD->AV
 | some s=>.tup [xbg s,yay true,yay true]
 | none=>.tup [zoc,yay false,yay false]
theorem zfz:∀ o,yar (xlg o)=true
 | some l=>rfl
 | none=>rfl
theorem ylr {h:Nat->Option LObj}:Frz h (.tup [.agg [yfj,yfj],.v (.bool false),.v (.bool false)]) (xlg none):=Frz.tup3 yko Frz.pure Frz.pure
theorem yzp (hin:yio p) {m:Int} (h:yxe p g m=true):Fair p g:=by
 unfold yxe zar at h;simp only [qac,decide_eq_true_eq] at h;exact ⟨hin,zlb h.1.1.1,h.1.1.2⟩
theorem system_con (p:ProgD) (g:GraphD) (hin:yio p) (kind:Int) (L:List Bool):Con prog 5 [yhb p,yfm g,i64 kind,yme L] (xlg (zrq p g kind L)):=by
 have hs:=small_con p g hin 120;cases h1:yxe p g 120 with
 | false=>
  rw [h1] at hs;have hn:zrq p g kind L=none:=by unfold zrq;rw [if_neg (by simp [h1])]
  rw [hn];refine ydv tok Tryz.func5 rfl rfl ntmps5 Tryz.results5 rfl (zfz _) ?_;refine zZ ?_;refine zr ?_;exact ylr
 | true=>
 rw [h1] at hs;have hf:=yzp hin h1;have bad:∀ e:Int,e≠0->zrq p g kind L=none->Con prog 25 [yhb p,yfm g,i64 kind] (.tup [zoc,i64 e])->Con prog 5 [yhb p,yfm g,i64 kind,yme L] (xlg (zrq p g kind L)):=fun e he hn hb=>by
  rw [hn];refine ydv tok Tryz.func5 rfl rfl ntmps5 Tryz.results5 rfl (zfz _) ?_;refine zZ ?_;refine yam 24 rfl (fun g1=>?_) (fun g1=>?_)
  .refine zk ?_;exact ylr
  refine zY ?_;refine zj ?_ ?_ <;> intro g2
  .refine zk ?_;exact ylr
  refine zZ ?_;refine yam 39 rfl (fun g3=>?_) (fun g3=>?_)
  .refine zk ?_;exact ylr
  exact absurd g3 (by simpa using he)
 by_cases h0:ycn p g=0;rotate_left
 .exact bad _ h0 (by unfold zrq;rw [if_neg (fun h=>h0 h.2.2.2.1)]) (rbuild_bad1 p g hf h0 kind)
 by_cases hk:1<=kind/\kind<=4;rotate_left
 .exact bad 12 dc (by unfold zrq;rw [if_neg (fun h=>hk h.2.2.2.2)]) (rbuild_bad2 p g hf h0 hk)
 cases hc:yhp 1 (yad p g).flatten with
 | none=>exact bad 3 dc (by unfold zrq;split <;> simp [hc]) (rbuild_bad3 p g hf h0 hk hc)
 | some nz=>
 have hw:∀ b∈(yad p g).flatten,wOk b:=zth fun b hb=>by
  obtain ⟨r,h1,h2⟩:=qda.1 hb;exact ((ydf hf h0).2 r h1).2 b h2
 have hnz:=ynz hc;have hp:=yor hw;obtain ⟨n,rfl⟩:∃ n:Nat,nz=n:=⟨nz.toNat,om⟩;have hn:yci (yad p g)=((n:Int),0):=by unfold yci;rw [hc]
 have hrb:=rbuild_con p g hf h0 hk hn;have hsb:=zft p g hf h0 hk hn;cases hbl:yth p g kind n 0 0 with
 | none=>
  rw [hbl] at hrb;exact bad 3 dc (by unfold zrq;split <;> simp [hc,hbl]) hrb
 | some s=>
 rw [hbl] at hrb hsb;have hok:=(xgv hf h0 hk hn hbl).ok;have hsm:=rsame18_con hok;have hslen:=hok.len;have e1:(s.map (·.1)).length=s.length:=qal ..;have hval:g.ports.length<=4->L.length<=200->L.length=s.length->zrq p g kind L=some s:=fun a b c=>by
  unfold zrq;rw [if_pos ⟨h1,a,b,h0,hk.1,hk.2⟩,hc];simp only [qct,hbl,if_pos c]
 have hno:¬ (g.ports.length<=4/\L.length<=200/\L.length=s.length)->zrq p g kind L=none:=fun h=>by
  unfold zrq;split
  .rename_i q;simp only [hc,qct,hbl];rw [if_neg (fun e=>h ⟨q.2.1,q.2.2.1,e⟩)]
  rfl
 refine ydv tok Tryz.func5 rfl rfl ntmps5 Tryz.results5 rfl (zfz _) ?_;refine zZ ?_;refine yam 24 rfl (fun g1=>?_) (fun g1=>?_)
 .rw [hno (fun h=>by simp at g1;omega)];refine zk ?_;exact ylr
 refine zY ?_;refine zj ?_ ?_ <;> intro g2
 .rw [hno (fun h=>by simp at g2;omega)];refine zk ?_;exact ylr
 refine zZ ?_;refine zj ?_ ?_ <;> intro g3
 .rw [hno (fun h=>by simp at g3;omega)];refine zk ?_;exact ylr
 rw [hval (by simp at g1;omega) (by simp at g2;omega) (by simp at g3;omega)];refine zWZ ?_;refine ybx (lf:=lf0) ysy rfl ?_;refine yee [0,1,2,3,4,5,6] 4 (yab rfl (yab rfl (yab rfl (yab rfl (yab rfl (yab rfl (yab rfl yak))))))) rfl kf ?_
 (repeat (first|refine zo ?_|refine zc hsm ?_))
 refine yaq [7,8] 3 rfl kf sm ⟨⟨_,rfl,?_⟩,⟨_,rfl,?_⟩,trivial⟩
 .refine zO ?_;refine yau [8,9,10] (yab rfl (yab rfl (yab rfl yak))) rfl kf ?_;refine zO ?_;exact zkp
 refine zO ?_;refine yau [7,9,10] (yab rfl (yab rfl (yab rfl yak))) rfl kf ?_;refine zO ?_;exact zkp
end
section
open Go.RowKit
theorem sysF_some (hin:yio p) (h:zrq p g kind L=some s):yxe p g 120=true/\L.length<=200/\ycn p g=0/\(1<=kind/\kind<=4)/\L.length=s.length/\∃ n:Nat,yci (yad p g)=((n:Int),0)/\yth p g kind n 0 0=some s:=by
 unfold zrq at h;split at h
 .rename_i hc;cases hq:yhp 1 (yad p g).flatten with
  | none=>rw [hq] at h;cases h
  | some n=>
   rw [hq] at h;simp only at h;cases hb:yth p g kind n.toNat 0 0 with
   | none=>rw [hb] at h;cases h
   | some s2=>
    rw [hb] at h;simp only at h;split at h
    .rename_i hl;cases h;have hp:=ynz hq;have hw:∀ b∈(yad p g).flatten,wOk b:=zth fun b hb=>by
      obtain ⟨r,h1,h2⟩:=qda.1 hb;have hf:Fair p g:=yzp hin hc.1;exact ((ydf hf hc.2.2.2.1).2 r h1).2 b h2
     have:=yor hw;have hn:(n.toNat:Int)=n:=qfd om;exact ⟨hc.1,hc.2.2.1,hc.2.2.2.1,hc.2.2.2.2,hl,n.toNat,by unfold yci;rw [hq,hn],hb⟩
    cases h
 cases h
theorem SysOk.rankM (hS:SysOk p g kind n s) (hn:yci (yad p g)=((n:Int),0)) {x:Nat} (hx:x < n):rankM p g (ybn (yad p g) x)=((x:Int),0):=by
 unfold Go.Proofs.YtgpodcjhgdionaaGreatDoor.rankM;rw [if_pos (hS.cfg x).chk,hn];simp only;rw [if_pos trivial,hS.rank x hx]
theorem SysOk.unrankM (hS:SysOk p g kind n s) (hf:Fair p g) (h0:ycn p g=0) (hn:yci (yad p g)=((n:Int),0)) (hk:k < n):unrankM p g k=(ybn (yad p g) k,0):=by
 obtain ⟨q,hq,hq2⟩:=ylo (tbl:=yad p g) (by rw [hn]);rw [hn] at hq2;obtain rfl:(n:Int)=q:=congrArg Prod.fst hq2;unfold Go.Proofs.YtgpodcjhgdionaaGreatDoor.unrankM;rw [if_pos h0,hn];simp only;rw [if_pos trivial,if_pos ⟨om,om⟩,xba (fun r hr=>((ydf hf h0).2 r hr).2) hq om]
end
section
open Go.RowKit
theorem high_bit:∀ (m n:Nat),n < m->∃ k,n.testBit k=false/\m.testBit k=true/\∀ j,k < j->n.testBit j=m.testBit j:=by
 intro m;induction m using Nat.strongRecOn with
 | _ m ih=>
  intro n h;rcases qbi (n / 2) (m / 2) with h1|h1
  .obtain ⟨k,k1,k2,k3⟩:=ih (m / 2) om (n / 2) h1;refine ⟨k+1,by rw [qfe];exact k1,by rw [qfe];exact k2,fun j hj=>?_⟩;obtain ⟨i,rfl⟩:∃ i,j=i+1:=⟨j - 1,om⟩;rw [qfe,qfe];exact k3 i om
  have e:n / 2=m / 2:=by omega
  refine ⟨0,by rw [qhe,decide_eq_false_iff_not];omega,by rw [qhe,decide_eq_true_iff];omega,fun j hj=>?_⟩;obtain ⟨i,rfl⟩:∃ i,j=i+1:=⟨j - 1,om⟩;rw [qfe,qfe,e]
theorem zef {x:BitVec 32} (h:x.toNat < y.toNat):∃ k,x.getLsbD k=false/\y.getLsbD k=true/\∀ j,k < j->x.getLsbD j=y.getLsbD j:=high_bit _ _ h
theorem next_bits {x:BitVec 32} (h:ysw x e) (hr:e &&& ~~~x≠0#32) (u:Nat) (hu:u < 32):(ykq e x).getLsbD u=if u < tzV (e &&& ~~~x) then false else if u=tzV (e &&& ~~~x) then true else x.getLsbD u:=by
 obtain ⟨k1,k2,k3⟩:=yhc hr;have hlow:=zbw hr;rw [zwn h];generalize hR:e &&& ~~~x=r at *;have rb:r.getLsbD u=(e.getLsbD u && !x.getLsbD u):=by
  rw [<- hR];simp [hu]
 rw [qav,qfx];split
 .rename_i h1;rw [k3 u h1,decide_eq_false (p:=∃ j,j < u/\r.getLsbD j=true) (fun q=>by have:=(hlow u).1 q;omega)];simp
 split
 .rename_i h1 h2;subst h2;rw [k2] at rb;simp only [Bool.true_eq,qac] at rb;rw [k2,rb.1,decide_eq_false (show ¬ ∃ j,j < tzV r/\r.getLsbD j=true from fun q=>by have:=(hlow _).1 q;omega)];simp
 rename_i h1 h2;rw [decide_eq_true ((hlow u).2 om),rb];cases hx:x.getLsbD u with
 | true=>rw [h.bit hx];simp [hu]
 | false=>cases e.getLsbD u <;> simp [hu]
theorem zuu {x:BitVec 32} (hy:ysw y e) (h1:x.getLsbD k=false) (h2:y.getLsbD k=true):(e &&& ~~~x).getLsbD k=true:=by
 have hk:k < 32:=qdg fun q=>by rw [qbs _ _ q] at h2;cases h2
 rw [qav,qcc,h1,hy.bit h2];simp [hk]
theorem ztg {x:BitVec 32} (hy:ysw y e) (h:x.toNat < y.toNat):e &&& ~~~x≠0#32:=fun q=>by
 obtain ⟨k,k1,k2,_⟩:=zef h;have:=zuu hy k1 k2;rw [q] at this;simp at this
theorem xcp {x:BitVec 32} (hx:ysw x e) (hy:ysw y e) (h:x.toNat < y.toNat):(ykq e x).toNat<=y.toNat:=by
 refine Nat.le_of_not_lt fun hlt=>?_;have hr:=ztg hy h;have nb:=next_bits hx hr;obtain ⟨k,k1,k2,k3⟩:=zef h;obtain ⟨j,j1,j2,j3⟩:=zef hlt;have hj:j < 32:=qdg fun q=>by rw [qbs _ _ q] at j2;cases j2
 have hk:k < 32:=qdg fun q=>by rw [qbs _ _ q] at k2;cases k2
 have tk:tzV (e &&& ~~~x)<=k:=Nat.le_of_not_lt fun q=>by
  have:=(yhc hr).2.2 k q;rw [zuu hy k1 k2] at this;cases this
 rw [nb j hj] at j2;rcases Nat.lt_trichotomy j k with q|q|q
 .have h1:=j3 k q;rw [k2,nb k hk] at h1;split at j2
  .cases j2
  rw [if_neg om,if_neg om,k1] at h1;cases h1
 .rw [q,k2] at j1;cases j1
 rw [if_neg om,if_neg om,k3 j q,j1] at j2;cases j2
theorem zqv (hy:ysw y e):∀ (n:Nat) (x:BitVec 32),ysw x e->x≠0#32->x.toNat<=y.toNat->y.toNat < n+x.toNat->y∈ymc e n x
 | 0,x,_,_,h1,h2=>by omega
 | n+1,x,hx,h0,h1,h2=>by
  unfold ymc;rw [if_neg h0];by_cases hxy:x=y
  .rw [hxy];exact qbk ..
  have hlt:x.toNat < y.toNat:=Nat.lt_of_le_of_ne h1 fun q=>hxy (qes q);have hxe:x≠e:=fun q=>ztg hy hlt (by
   rw [q]
   apply qbj
   intro u hu
   rw [qav,qcc]
   cases e.getLsbD u <;> simp)
  have hg:=yyz hx hxe;refine qap _ (zqv hy n _ (yjm e x) (fun q=>?_) (xcp hx hy hlt) om);rw [q] at hg;simp at hg
theorem subsL_all (hy:ysw y e) (h0:y≠0#32):y∈yzq e:=by
 have h1:(0#32).toNat < y.toNat:=Nat.pos_of_ne_zero fun q=>h0 (qes (by rw [q];rfl));have hz:ysw 0#32 e:=by unfold ysw;simp
 have e1:-e &&& e=ykq e 0#32:=by unfold ykq;rw [BitVec.zero_sub]
 have hne:(0#32:BitVec 32)≠e:=fun q=>ztg hy h1 (by rw [<- q];simp);have hg:=yyz hz hne;unfold yzq zgz;rw [e1];refine zqv hy _ _ (yjm e _) (fun q=>?_) (xcp hz hy h1) ?_
 .rw [q] at hg;simp at hg
 have:=y.isLt;have:=(ykq e 0#32).isLt;omega
theorem per_cho {s:BitVec 32} (h:yxt g kind e s=true):s∈znw g kind e:=by
 have h':=h;unfold yxt at h';simp only [qac,qbt,beq_eq_false_iff_ne,beq_iff_eq] at h';obtain ⟨⟨h0,h1⟩,h2⟩:=h';unfold znw;split
 .rename_i hk;rw [if_pos hk] at h2;obtain ⟨t1,t2,t3⟩:=yhc h0;have ho:=xct.1 h2;refine qag.2 ⟨tzV s,ygk.2 ⟨t1,ysw.bit h1 t2⟩,?_⟩;apply qbj;intro u hu;rw [yly hu];cases hs:s.getLsbD u with
  | true=>rw [ho u _ hs t2];simp
  | false=>
   refine decide_eq_false fun q=>?_;rw [q,t2] at hs;cases hs
 rename_i hk;rw [if_neg hk] at h2;split
 .rename_i h4;rw [if_neg om,if_pos h4] at h2;simp only [beq_iff_eq] at h2;rw [h2];exact qgt _
 exact qdq.2 ⟨subsL_all h1 h0,h⟩
def ytt (p:ProgD) (g:GraphD) (kind:Int):List (BitVec 32)->List (List Int)->List (List (List Int))
 | [],c=>[c]
 | w::ws,c=>if ydn p g c=0#32 then [c] else c::ytt p g kind ws (ytr p g c (xdf g kind (ydn p g c) w))
theorem zrb {p:ProgD} {g:GraphD} {kind:Int}:∀ {ws:List (BitVec 32)} {c:List (List Int)},(ytt p g kind ws c).length<=ws.length+1
 | [],c=>by simp [ytt]
 | w::ws,c=>by
  unfold ytt;split
  .simp
  have:=zrb (p:=p) (g:=g) (kind:=kind) (ws:=ws) (c:=ytr p g c (xdf g kind (ydn p g c) w));simp;omega
inductive WayS (s:SpcD) (n:Nat):Nat->List Nat->Nat->Prop
 | last {k m:Nat} (h:k < n) (h2:m=0\/ypm s k=[]):WayS s n k [k] m
 | step {k m:Nat} {a:ArcD} {l:List Nat} (h:k < n) (ha:a∈ypm s k) (r:WayS s n a.2.toNat l m):WayS s n k (k::l) (m+1)
theorem zrc (hS:SysOk p g kind n s) (hn:yci (yad p g)=((n:Int),0)):∀ (ws:List (BitVec 32)) (k:Nat),k < n->∃ l,ytt p g kind ws (ybn (yad p g) k)=l.map (ybn (yad p g))/\WayS s n k l ws.length
 | [],k,hk=>⟨[k],rfl,.last hk (.inl rfl)⟩
 | w::ws,k,hk=>by
  obtain ⟨l,hcv,hst⟩:=hS.state k hk;have hcfg:=hS.cfg k;unfold ytt;by_cases h0:ydn p g (ybn (yad p g) k)=0#32
  .rw [if_pos h0];refine ⟨[k],rfl,.last hk (.inr ?_)⟩;rw [h0] at hcv;unfold yyl at hcv;rw [if_pos rfl] at hcv;cases hcv;rw [zde hst];rfl
  rw [if_neg h0];have hl:=hcfg.len;have h24:=hcfg.n24;have hin:InN g.ports.length (ydn p g (ybn (yad p g) k)):=by rw [<- hl];exact xbe om
  obtain ⟨_,hper⟩:=xgq hcfg.graph kind _ w hin h0;have hm:=per_cho hper;generalize xdf g kind (ydn p g (ybn (yad p g) k)) w=B at hm ⊢;have hBl:B∈l:=by
   unfold yyl at hcv;rw [if_neg h0] at hcv;split at hcv
   .cases hcv
   cases hcv;exact hm
  have hst2:=hcfg.step B;obtain ⟨r0,r1⟩:=ztb hst2 hn;obtain ⟨to,hto⟩:∃ to:Nat,ydc (yad p g) (ytr p g (ybn (yad p g) k) B)=to:=⟨_,(qfd r0).symm⟩;have hcf:=hS.uniq _ to hst2 om hto;rw [hcf];obtain ⟨l',h1,h2⟩:=zrc hS hn ws to om;refine ⟨k::l',by rw [h1];rfl,.step (a:=(B,(to:Int))) hk ?_ h2⟩;rw [zde hst];refine qag.2 ⟨B,hBl,?_⟩;rw [hto]
def zuz:List Int->List Int->Int
 | [],[]=>0
 | [],_::_=>-1
 | _::_,[]=>1
 | x::a,y::b=>if x < y then -1 else if y < x then 1 else zuz a b
def ywa (a b:List Int):Bool:=a.length == b.length && decide (zuz a b < 0)
def zyb (g:GraphD) (c:List (List Int)) (e:List Tm) (k:Nat):Int:=((List.range k).map fun v=>(⟨g,c,v⟩:Scn).of e).sum
def ysv (g:GraphD) (c:List (List Int)) (l:List (List Tm)):List Int:=l.map fun e=>zyb g c e c.length
def yhg (L:List Bool):List Nat:=(List.range L.length).filter fun k=>!L.getD k false
theorem yph:k∈yhg L<->k < L.length/\L.getD k false=false:=by
 simp [yhg]
def okC (s:SpcD) (L:List Bool) (V:Nat->List Int) (k:Nat):Bool:=!(ypm s k).isEmpty && (ypm s k).all fun a=>L.getD a.2.toNat false || ywa (V a.2.toNat) (V k)
def zsa (s:SpcD) (L:List Bool) (V:Nat->List Int):Option Nat:=(yhg L).find? fun k=>!okC s L V k
theorem badC_none (h:zsa s L V=none) (hk:k < L.length) (hL:L.getD k false=false):ypm s k≠[]/\∀ a∈ypm s k,L.getD a.2.toNat false=false->ywa (V a.2.toNat) (V k)=true:=by
 have:=qdr.1 h k (yph.2 ⟨hk,hL⟩);have h2:okC s L V k=true:=by
  cases q:okC s L V k with
  | true=>rfl
  | false=>rw [q] at this;exact absurd rfl this
 unfold okC at h2;rw [qac,List.all_eq_true] at h2;refine ⟨fun e=>?_,fun a ha hL2=>?_⟩
 .rw [e] at h2;cases h2.1
 have:=h2.2 a ha;rw [hL2,qfa] at this;exact this
def yqi (v:Nat->Int) (l:List Nat):Int × Int × Bool:=l.foldl (fun x k=>if x.2.2 then (min x.1 (v k),max x.2.1 (v k),true) else (v k,v k,true)) (0,0,false)
def xiu (x:Int × Int × Bool):Int:=if x.2.2 then x.2.1 - x.1+1 else 0
theorem bndS_ok {v:Nat->Int}:∀ {l:List Nat},((yqi v l).2.2=true<->l≠[])/\∀ k∈l,(yqi v l).1<=v k/\v k<=(yqi v l).2.1:=by
 intro l;unfold yqi
 suffices H:∀ (l done:List Nat) (x:Int × Int × Bool),(x.2.2=true<->done≠[])->(∀ k∈done,x.1<=v k/\v k<=x.2.1)->((l.foldl (fun x k=>if x.2.2 then (min x.1 (v k),max x.2.1 (v k),true) else (v k,v k,true)) x).2.2=true<->done++l≠[])/\∀ k∈done++l,(l.foldl (fun x k=>if x.2.2 then (min x.1 (v k),max x.2.1 (v k),true) else (v k,v k,true)) x).1<=v k/\v k<=(l.foldl (fun x k=>if x.2.2 then (min x.1 (v k),max x.2.1 (v k),true) else (v k,v k,true)) x).2.1 by
  have:=H l [] (0,0,false) sm sm;simpa using this
 intro l;induction l with
 | nil=>intro done x h1 h2;simpa using ⟨h1,h2⟩
 | cons a l ih=>
  intro done x h1 h2;have:=ih (done++[a]) (if x.2.2 then (min x.1 (v a),max x.2.1 (v a),true) else (v a,v a,true)) (by split <;> simp) (fun k hk=>by
   split
   .rcases qau.1 hk with hk|hk
    .have:=h2 k hk
     simp only;omega
    rw [qaq.1 hk];simp only;omega
   rename_i q
   have:done=[]:=Classical.byContradiction fun hd=>q (h1.2 hd)
   rw [this] at hk
   rw [qaq.1 hk];simp)
  simpa using this
structure CertI (s:SpcD) (n:Nat) (L:List Bool) (V:Nat->List Int) (v:Option (Nat->Int)) (k0:Nat) (K:List Nat) (wl i:Nat) (bf:List Int):Prop where
 le:i<=K.length
 way:i < K.length->∃ k l m,K.drop i=k::l/\WayS s n k (k::l) m/\m+i=wl/\(0 < i->L.getD k false=false->ywa (V k) bf=true)/\(i=0->k=k0)
 fin:i=K.length->K.length=wl+1
 short:bf.length<=1000
 low:∀ v',v=some v'->0 < i->∃ kp,kp∈yhg L/\bf=[v' kp]/\k0∈yhg L/\v' kp+i<=v' k0+1
theorem WayS.head (h:WayS s n k K m):∃ l,K=k::l:=by
 cases h with
 | last h h2=>exact ⟨[],rfl⟩
 | step h ha r=>exact ⟨_,rfl⟩
theorem WayS.lt (h:WayS s n k K m):k < n:=by
 cases h <;> assumption
theorem CertI.start (h:WayS s n k0 K wl):CertI s n L V v k0 K wl 0 []:=by
 obtain ⟨l,rfl⟩:=h.head;exact ⟨Nat.zero_le _,fun _=>⟨k0,l,wl,rfl,h,om,fun h=>by omega,fun _=>rfl⟩,fun h=>by simp at h,sm,fun v' _ h=>by omega⟩
theorem less_one {x y:Int} (h:ywa [x] [y]=true):x < y:=by
 have h2:zuz [x] [y] < 0:=by simpa [ywa] using h
 rw [zuz,zuz] at h2;split at h2
 .assumption
 split at h2 <;> omega
theorem CertI.next {bf:List Int} (h:CertI s n L V v k0 K wl i bf) (hn:n=L.length) (hb:zsa s L V=none) (hk:K[i]?=some k) (hL:L.getD k false=false) (hs:(V k).length<=1000) (hv:∀ v',v=some v'->∀ k,V k=[v' k]):CertI s n L V v k0 K wl (i+1) (V k):=by
 have hi:=(qaa.1 hk).1;obtain ⟨k',l,m,e,w,hm,hless,h0⟩:=h.way hi;have hd:K[i]?=some k':=by
  have:=congrArg List.head? e;rw [List.head?_drop] at this;exact this
 rw [hk] at hd;cases hd;have hkn:=w.lt;obtain ⟨hne,hdec⟩:=badC_none hb (k:=k) om hL;have hdl:K.drop (i+1)=l:=by rw [<- qhv,e];rfl
 have hlow:∀ v',v=some v'->0 < i+1->∃ kp,kp∈yhg L/\V k=[v' kp]/\k0∈yhg L/\v' kp+((i+1:Nat):Int)<=v' k0+1:=fun v' e1 _=>by
  have hko:k∈yhg L:=yph.2 ⟨om,hL⟩;rcases qeq i with hz|hz
  .have:=h0 hz;subst this;exact ⟨k,hko,hv v' e1 k,hko,om⟩
  obtain ⟨kp,_,b2,b3,b4⟩:=h.low v' e1 hz;have hl:=hless hz hL;rw [b2,hv v' e1 k] at hl;have:=less_one hl;exact ⟨k,hko,hv v' e1 k,b3,om⟩
 cases w with
 | last _ h2=>
  have hm0:m=0:=h2.resolve_right hne;have hlen:K.length=i+1:=by
   have:=congrArg List.length hdl;rw [qcw,qeb] at this;omega
  exact ⟨om,fun h=>by omega,fun _=>by omega,hs,hlow⟩
 | @step _ m' a _ _ ha r=>
  obtain ⟨l',rfl⟩:=r.head;have hlt:i+1 < K.length:=qdg fun q=>by rw [qgv q] at hdl;cases hdl
  exact ⟨om,fun _=>⟨_,l',m',hdl,r,om,fun _ hL2=>hdec a ha hL2,fun q=>by omega⟩,fun q=>by omega,hs,hlow⟩
theorem CertI.bound {bf:List Int} (h:CertI s n L V v k0 K wl i bf) {v':Nat->Int} (hv:v=some v'):(i:Int)<=xiu (yqi v' (yhg L)):=by
 obtain ⟨h1,h2⟩:=bndS_ok (v:=v') (l:=yhg L);rcases qeq i with hz|hz
 .unfold xiu;split
  .rename_i q;obtain ⟨k,hk⟩:=List.exists_mem_of_ne_nil _ (h1.1 q);have:=h2 k hk;omega
  omega
 obtain ⟨kp,b1,_,b3,b4⟩:=h.low v' hv hz;have q:(yqi v' (yhg L)).2.2=true:=h1.2 (List.ne_nil_of_mem b1);have g1:=h2 kp b1;have g2:=h2 k0 b3;unfold xiu;rw [if_pos q];omega
theorem xas {v:Nat->Int} {B:Int} (hB:0<=B):∀ {l:List Nat},(∀ k∈l,-B<=v k/\v k<=B)->-B<=(yqi v l).1/\(yqi v l).1<=B/\-B<=(yqi v l).2.1/\(yqi v l).2.1<=B:=by
 intro l;unfold yqi
 suffices H:∀ (l:List Nat) (x:Int × Int × Bool),(-B<=x.1/\x.1<=B/\-B<=x.2.1/\x.2.1<=B)->(∀ k∈l,-B<=v k/\v k<=B)->-B<=(l.foldl (fun x k=>if x.2.2 then (min x.1 (v k),max x.2.1 (v k),true) else (v k,v k,true)) x).1/\(l.foldl (fun x k=>if x.2.2 then (min x.1 (v k),max x.2.1 (v k),true) else (v k,v k,true)) x).1<=B/\-B<=(l.foldl (fun x k=>if x.2.2 then (min x.1 (v k),max x.2.1 (v k),true) else (v k,v k,true)) x).2.1/\(l.foldl (fun x k=>if x.2.2 then (min x.1 (v k),max x.2.1 (v k),true) else (v k,v k,true)) x).2.1<=B by
  exact H l (0,0,false) (by simp only;omega)
 intro l;induction l with
 | nil=>intro x hx _;exact hx
 | cons a l ih=>
  intro x hx hl;have ha:=hl a (qbk ..);refine ih (if x.2.2 then (min x.1 (v a),max x.2.1 (v a),true) else (v a,v a,true)) ?_ fun k hk=>hl k (qap _ hk);by_cases q:x.2.2=true
  .rw [if_pos q];simp only;omega
  rw [if_neg q];simp only;omega
end
section
open Go.RowKit
abbrev TL:=List (Nat × AV)
abbrev HL:=List (Nat × Option LObj)
def ynw (p:AV->Bool):List Nat->TL->TL
 | _,[]=>[]
 | seen,(s,x)::r=>match ynr s seen with
  | true=>ynw p seen r
  | false=>match p x with
   | true=>(s,x)::ynw p (s::seen) r
   | false=>ynw p (s::seen) r
theorem zdj {p:AV->Bool}:∀ {t:TL} {seen:List Nat} {s:Nat} {x:AV},(s,x)∈ynw p seen t->ynr s seen=false/\yaj t s=some x
 | [],seen,s,x,h=>by simp [ynw] at h
 | (k,y)::r,seen,s,x,h=>by
  simp only [ynw] at h;split at h
  .rename_i hm;obtain ⟨h1,h2⟩:=zdj h;refine ⟨h1,?_⟩;simp only [yaj];cases hb:Nat.beq s k with
   | true=>rw [qaf hb,hm] at h1;cases h1
   | false=>exact h2
  rename_i hm;have key:(s,x)∈ynw p (k::seen) r->ynr s seen=false/\yaj ((k,y)::r) s=some x:=fun h=>by
   obtain ⟨h1,h2⟩:=zdj h;simp only [ynr] at h1;cases hb:Nat.beq s k with
   | true=>rw [hb] at h1;cases h1
   | false=>rw [hb] at h1;exact ⟨h1,by simp only [yaj,hb];exact h2⟩
  split at h
  .rcases qas.1 h with e|h
   .cases e;exact ⟨hm,by simp [yaj]⟩
   exact key h
  exact key h
theorem zya {t:TL}:∀ {l:TL},(∀ s x,(s,x)∈l->yaj t s=some x)->yxu t l
 | [],_=>trivial
 | (s,x)::l,h=>⟨h s x qbk,zya fun s' x' hm=>h s' x' (qap _ hm)⟩
theorem zhp (p:AV->Bool) (t:TL):yxu t (ynw p [] t):=zya fun s x h=>(zdj h).2
def yln (p:Nat->LObj->Bool):List Nat->HL->HL
 | _,[]=>[]
 | seen,(s,x)::r=>match ynr s seen with
  | true=>yln p seen r
  | false=>match x with
   | none=>yln p (s::seen) r
   | some o=>match p s o with
    | true=>(s,some o)::yln p (s::seen) r
    | false=>yln p (s::seen) r
theorem yql {p:Nat->LObj->Bool}:∀ {t:HL} {seen:List Nat} {s:Nat} {x:Option LObj},(s,x)∈yln p seen t->ynr s seen=false/\yac t s=x
 | [],seen,s,x,h=>by simp [yln] at h
 | (k,y)::r,seen,s,x,h=>by
  simp only [yln] at h;split at h
  .rename_i hm;obtain ⟨h1,h2⟩:=yql h;refine ⟨h1,?_⟩;simp only [yac];cases hb:Nat.beq s k with
   | true=>rw [qaf hb,hm] at h1;cases h1
   | false=>exact h2
  rename_i hm;have key:(s,x)∈yln p (k::seen) r->ynr s seen=false/\yac ((k,y)::r) s=x:=fun h=>by
   obtain ⟨h1,h2⟩:=yql h;simp only [ynr] at h1;cases hb:Nat.beq s k with
   | true=>rw [hb] at h1;cases h1
   | false=>rw [hb] at h1;exact ⟨h1,by simp only [yac,hb];exact h2⟩
  split at h
  .exact key h
  split at h
  .rcases qas.1 h with e|h
   .cases e;exact ⟨hm,by simp [yac]⟩
   exact key h
  exact key h
theorem zxz {t:HL}:∀ {l:HL},(∀ s x,(s,x)∈l->yac t s=x)->yts t l
 | [],_=>trivial
 | (s,x)::l,h=>⟨fun o ho=>by rw [h s x qbk,ho],zxz fun s' x' hm=>h s' x' (qap _ hm)⟩
theorem zho (p:Nat->LObj->Bool) (t:HL):yts t (yln p [] t):=zxz fun s x h=>(yql h).2
def zbd (d:Nat) (t:TL):TL:=ynw (fun x=>!ment d x) [] t
def zsv (d:Nat) (h:HL):HL:=yln (fun i o=>!Nat.beq d i && !yeb d o) [] h
theorem zlp (d:Nat) (t:TL) (h:HL):Sub (S (zbd d t) (zsv d h)) (S t h):=⟨ybo (zhp _ t),yai (zho _ h)⟩
section
variable {P:Program} {T:Nat->Option Ty} {N:Nat} {ops:Array Oper} {lf:Oper->Bool} {Q:SS->Prop} {t:TL} {h:HL} {rest:List Oper} {op:Op} {ty:TypeId} {pos:String} {af:Array Edge} {gd:Option (Nat × Bool)} {r:AV}
theorem yco.pre {o:Oper} {s s1:SS} {R:SS->Prop} (h:yco P N o s1 R) (hs:Sub s1 s):yco P N o s R:=fun B ok0 lv a w hi Q=>by
 obtain ⟨lv',hi'⟩:=hi.weak hs;exact h B ok0 lv' a w hi' Q
def xlx (T:Nat->Option Ty) (t:TL) (h:HL) (ti:Nat) (x y:Operand):Option AV:=
 match T ti with
 | some ⟨.slc _ es _ _ _,_,_,_⟩=>match evF (yaj t) y with
  | some (.v (.int _ (.ofNat m)))=>match evF (yaj t) x with
   | some (.sl es' rows)=>match Nat.beq es' es with
    | true=>match rows[m]? with
     | some row=>some (.dp row 0)
     | none=>none
    | false=>none
   | some (.ls id es' len)=>match Nat.beq es' es && Nat.blt m len with
    | true=>match yac h id with
     | some _=>some (.lp id (m * es))
     | none=>none
    | false=>none
   | _=>none
  | _=>none
 | _=>none
theorem idxC_ok (hT:TOK P T) {ti:Nat} {y:Operand} (hr:xlx T t h ti x y=some r):yby P (yac h) (evF (yaj t)) (.indexAddr ti x y) ty r:=by
 unfold xlx at hr;split at hr
 .rename_i e es ea eb ez sz ag z hk;split at hr
  .rename_i k m hy;split at hr
   .rename_i es' rows hx;split at hr
    .rename_i hb;split at hr
     .rename_i row hrow;simp only [Option.some.injEq] at hr;subst hr;obtain rfl:=qaf hb;exact ynp (hT _ _ hk).2.2 hx hy sm (by simpa using hrow)
     cases hr
    cases hr
   .rename_i id es' len hx;split at hr
    .rename_i hb;simp only [qac] at hb;split at hr
     .rename_i ob hh;simp only [Option.some.injEq] at hr;subst hr;obtain rfl:=qaf hb.1;exact ytw (hT _ _ hk).2.2 hx hh hy sm (by simpa using hb.2)
     cases hr
    cases hr
   cases hr
  cases hr
 cases hr
end
end
variable {t u:TL}
section
open Go.RowKit
section
variable {P:Program} {T:Nat->Option Ty} {N:Nat} {ops:Array Oper} {lf:Oper->Bool} {Q:SS->Prop} {t:TL} {h:HL} {rest:List Oper} {op:Op} {ty:TypeId} {pos:String} {af:Array Edge} {gd:Option (Nat × Bool)} {r:AV}
def xdt (T:Nat->Option Ty) (t:TL) (ti:Nat) (x:Operand) (lo hi:Option Operand):Option AV:=
 match yvk (evF (yaj t)) lo,yvk (evF (yaj t)) hi with
 | some bl,some bh=>match evF (yaj t) x with
  | some (.v (.string s))=>match T ti with
   | some ⟨.string,_,_,_⟩=>match decide (0<=bl.getD 0) && (decide (bl.getD 0<=bh.getD s.size) && decide (bh.getD s.size<=s.size)) with
    | true=>some (.v (.string (s.extract (bl.getD 0).toNat (bh.getD s.size).toNat)))
    | false=>none
   | _=>none
  | some (.sl es' rows)=>match T ti with
   | some ⟨.slc _ es _ _ _,_,_,_⟩=>match Nat.beq es' es && (decide (0<=bl.getD 0) && (decide (bl.getD 0<=bh.getD rows.length) && decide (bh.getD rows.length<=rows.length))) with
    | true=>some (.sl es ((rows.take (bh.getD rows.length).toNat).drop (bl.getD 0).toNat))
    | false=>none
   | _=>none
  | _=>none
 | _,_=>none
theorem sliceC_ok (hT:TOK P T) {ti:Nat} {lo hi:Option Operand} (hr:xdt T t ti x lo hi=some r):yby P (yac h) (evF (yaj t)) (.slice ti x lo hi none) ty r:=by
 unfold xdt at hr;split at hr
 .rename_i bl bh h1 h2;split at hr
  .rename_i s hx;split at hr
   .rename_i sz ag z hk;split at hr
    .rename_i hb;simp only [Option.some.injEq] at hr;subst hr;simp only [qac,decide_eq_true_eq] at hb;exact yield_sslice (hT _ _ hk).2.2 hx h1 h2 hb.1 hb.2.1 hb.2.2
    cases hr
   cases hr
  .rename_i es' rows hx;split at hr
   .rename_i e es ea eb ez sz ag z hk;split at hr
    .rename_i hb;simp only [Option.some.injEq] at hr;subst hr;simp only [qac,decide_eq_true_eq] at hb;obtain rfl:=qaf hb.1;exact yield_slslice (hT _ _ hk).2.2 hx h1 h2 hb.2.1 hb.2.2.1 hb.2.2.2
    cases hr
   cases hr
  cases hr
 cases hr
def xio (T:Nat->Option Ty) (t:TL) (ti:Nat) (x y:Operand):Option AV:=
 match T ti with
 | some ⟨.string,_,_,_⟩=>match evF (yaj t) x with
  | some (.v (.string s))=>match evF (yaj t) y with
   | some (.v (.int _ (.ofNat m)))=>match s[m]? with
    | some b=>some (.v (.int .u8 b.toNat))
    | none=>none
   | _=>none
  | _=>none
 | _=>none
theorem sidxC_ok (hT:TOK P T) {ti:Nat} {y:Operand} (hr:xio T t ti x y=some r):yby P (yac h) (evF (yaj t)) (.index ti x y) ty r:=by
 unfold xio at hr;split at hr
 .rename_i sz ag z hk;split at hr
  .rename_i s hx;split at hr
   .rename_i k m hy;split at hr
    .rename_i b hb;simp only [Option.some.injEq] at hr;subst hr;exact zaz (hT _ _ hk).2.2 hx hy sm (by simpa using hb)
    cases hr
   cases hr
  cases hr
 cases hr
def xau (T:Nat->Option Ty) (t:TL) (ti:Nat) (parts:List (Nat × Operand)):Option AV:=
 match T ti with
 | some y=>match y.zero.all Value.oneCell' with
  | true=>match evP (evF (yaj t)) parts with
   | some ps=>znr T ti ps
   | none=>none
  | false=>none
 | none=>none
theorem buildX_ok (hT:TOK P T) {ti:Nat} {parts:List (Nat × Operand)} (hr:xau T t ti parts=some r):yby P (yac h) (evF (yaj t)) (.build ti parts.toArray) ty r:=by
 unfold xau at hr;split at hr
 .rename_i y hy;split at hr
  .rename_i hone;split at hr
   .rename_i ps hps;exact zgo hT hy hone hps hr
   cases hr
  cases hr
 cases hr
def zsc (T:Nat->Option Ty) (t:TL) (ti len:Nat) (parts:List (Nat × Operand)):Option AV:=
 match T ti with
 | some ⟨.slc _ es _ _ ez,_,_,_⟩=>match ez.all Value.oneCell' && Nat.ble (len * es) 16777216 with
  | true=>match evP (evF (yaj t)) parts with
   | some ps=>match zbb (fun i=>some (i * es,es)) (ykr len (yit ez)) ps with
    | some ys=>match yar.pureL ys with
     | true=>match yqk es len ys with
      | some rows=>some (.sl es rows)
      | none=>none
     | false=>none
    | none=>none
   | none=>none
  | false=>none
 | _=>none
theorem buildSX_ok (hT:TOK P T) {ti len:Nat} {parts:List (Nat × Operand)} (hr:zsc T t ti len parts=some r):yby P (yac h) (evF (yaj t)) (.buildSlice ti len parts.toArray) ty r:=by
 unfold zsc at hr;split at hr
 .rename_i e es ea eb ez sz ag z hk;split at hr
  .rename_i hb;simp only [qac] at hb;split at hr
   .rename_i ps hps;split at hr
    .rename_i ys hf;split at hr
     .rename_i hpu;split at hr
      .rename_i rows hch;simp only [Option.some.injEq] at hr;subst hr;exact ypx hT hk hb.1 hps hf hpu hch hb.2
      cases hr
     cases hr
    cases hr
   cases hr
  cases hr
 cases hr
def xma (t:TL) (h:HL) (x:Operand):Option AV:=
 match evF (yaj t) x with
 | some (.lp id off)=>match yti (yac h id) with
  | some _=>some (.lp id off)
  | none=>none
 | some (.dp row off)=>some (.dp row off)
 | _=>none
theorem nilX_ok (hr:xma t h x=some r):yby P (yac h) (evF (yaj t)) (.nilCheck x) ty r:=by
 unfold xma at hr;split at hr
 .rename_i id off hx;split at hr
  .rename_i xs hh;simp only [Option.some.injEq] at hr;subst hr;exact ynq hx hh
  cases hr
 .rename_i row off hx;simp only [Option.some.injEq] at hr;subst hr;exact ymd hx
 cases hr
def fnX (t:TL) (f:Nat) (caps:List Operand):Option AV:=
 match evL (evF (yaj t)) caps with
 | some xs=>some (.fn f xs)
 | none=>none
theorem fnX_ok {f:Nat} {caps:List Operand} (hr:fnX t f caps=some r):yby P (yac h) (evF (yaj t)) (.makeFunc (.func f) #[] caps.toArray) ty r:=by
 unfold fnX at hr;split at hr
 .rename_i xs hx;simp only [Option.some.injEq] at hr;subst hr;exact ytx hx
 cases hr
def fmX (t:TL) (f:Nat) (first:List Operand):Option AV:=
 match evL (evF (yaj t)) first with
 | some xs=>some (.fm f xs)
 | none=>none
theorem fmX_ok {f:Nat} {first:List Operand} (hr:fmX t f first=some r):yby P (yac h) (evF (yaj t)) (.makeFunc (.func f) first.toArray #[]) ty r:=by
 unfold fmX at hr;split at hr
 .rename_i xs hx;simp only [Option.some.injEq] at hr;subst hr;exact yield_makeMeth hx
 cases hr
def xhz (T:Nat->Option Ty) (t:TL) (h:HL) (op:Op) (ty:TypeId):Option AV:=
 match op with
 | .indexAddr ti x y=>match xlx T t h ti x y with
  | some r=>some r
  | none=>ysz T t h (.indexAddr ti x y) ty
 | .slice ti x lo hi none=>xdt T t ti x lo hi
 | .index ti x y=>xio T t ti x y
 | .build ti ⟨parts⟩=>xau T t ti parts
 | .buildSlice ti len ⟨parts⟩=>zsc T t ti len parts
 | .nilCheck x=>xma t h x
 | .makeFunc (.func f) ⟨[]⟩ ⟨caps⟩=>fnX t f caps
 | .makeFunc (.func f) ⟨first⟩ ⟨[]⟩=>fmX t f first
 | op=>ysz T t h op ty
theorem calmX_ok (hT:TOK P T) (hr:xhz T t h op ty=some r):yby P (yac h) (evF (yaj t)) op ty r:=by
 unfold xhz at hr;split at hr
 .split at hr
  .rename_i r' h1;simp only [Option.some.injEq] at hr;subst hr;exact idxC_ok hT h1
  exact ymb hT hr
 .exact sliceC_ok hT hr
 .exact sidxC_ok hT hr
 .exact buildX_ok hT hr
 .exact buildSX_ok hT hr
 .exact nilX_ok hr
 .exact fnX_ok hr
 .exact fmX_ok hr
 exact ymb hT hr
end
end
section
open Go.RowKit
section
variable {P:Program} {T:Nat->Option Ty} {N:Nat} {ops:Array Oper} {lf:Oper->Bool} {Q:SS->Prop} {t t':TL} {h h':HL} {rest:List Oper} {d:Nat} {op:Op} {ty:TypeId} {pos:String} {af:Array Edge} {gd:Option (Nat × Bool)} {r:AV}
theorem zif {d:Nat}:∀ {l:TL},(∀ s x,(s,x)∈l->ment d x=false)->ydg d l=true
 | [],_=>rfl
 | (s,x)::l,h=>by
  simp only [ydg,h s x qbk];exact zif fun s' x' hm=>h s' x' (qap _ hm)
theorem zid {d:Nat}:∀ {l:HL},(∀ s x,(s,x)∈l->Nat.beq d s=false/\∀ o,x=some o->yeb d o=false)->ybv d l=true
 | [],_=>rfl
 | (s,x)::l,h=>by
  obtain ⟨h1,h2⟩:=h s x qbk;have h3:=zid fun s' x' hm=>h s' x' (qap _ hm);simp only [ybv,h1];cases x with
  | none=>exact h3
  | some o=>simp only [h2 o rfl];exact h3
theorem zbl {p:AV->Bool}:∀ {t:TL} {seen:List Nat} {s:Nat} {x:AV},(s,x)∈ynw p seen t->p x=true
 | [],seen,s,x,h=>by simp [ynw] at h
 | (k,y)::r,seen,s,x,h=>by
  simp only [ynw] at h;split at h
  .exact zbl h
  split at h
  .rename_i hp;rcases qas.1 h with e|h
   .cases e;exact hp
   exact zbl h
  exact zbl h
theorem yrx {p:Nat->LObj->Bool}:∀ {t:HL} {seen:List Nat} {s:Nat} {x:Option LObj},(s,x)∈yln p seen t->∃ o,x=some o/\p s o=true
 | [],seen,s,x,h=>by simp [yln] at h
 | (k,y)::r,seen,s,x,h=>by
  simp only [yln] at h;split at h
  .exact yrx h
  split at h
  .exact yrx h
  split at h
  .rename_i hp;rcases qas.1 h with e|h
   .cases e;exact ⟨_,rfl,hp⟩
   exact yrx h
  exact yrx h
theorem off_freshT (d:Nat) (t:TL):ydg d (zbd d t)=true:=zif fun s x hm=>by simpa using zbl hm
theorem off_freshH (d:Nat) (h:HL):ybv d (zsv d h)=true:=zid fun s x hm=>by
 obtain ⟨o,rfl,hp⟩:=yrx hm;simp only [qac,qbt] at hp;exact ⟨hp.1,fun o' e=>by cases e;exact hp.2⟩
theorem ywq (d:Nat) (t:TL) (h:HL):ynd (S (zbd d t) (zsv d h)) d:=yhj (off_freshT d t) (off_freshH d h)
def xls (t:TL) (h:HL) (d:Nat) (x:Operand):Option (TL × HL):=
 match evF (yaj (zbd d t)) x with
 | some y=>match yeh y with
  | some cs=>match ment.mentL d cs with
   | true=>none
   | false=>some ((d,.lp d 0)::zbd d t,(d,some (.cells cs))::zsv d h)
  | none=>none
 | none=>none
theorem boxX_ok {e:Nat} (hd:Nat.blt d N=true) (hr:xls t h d x=some (t',h')):yco P N ⟨some d,.box e x,ty,pos,af,gd⟩ (S t h) (·=S t' h'):=by
 unfold xls at hr;split at hr
 .rename_i y hx;split at hr
  .rename_i cs hcs;split at hr
   .cases hr
   rename_i hm;simp only [Option.some.injEq,Prod.mk.injEq] at hr;obtain ⟨rfl,rfl⟩:=hr;refine yco.pre ?_ (zlp d t h);rw [<- yuc];exact zuv rfl rfl (by simpa using hd) d hx hcs (ywq d t h) hm (by simpa using hd)
  cases hr
 cases hr
def xai (T:Nat->Option Ty) (t:TL) (h:HL) (d e:Nat):Option (TL × HL):=
 match T e with
 | some y=>match y.zero.all Value.oneCell' with
  | true=>some ((d,.lp d 0)::zbd d t,(d,some (.cells (yit y.zero)))::zsv d h)
  | false=>none
 | none=>none
theorem allocX_ok (hT:TOK P T) {e:Nat} (hd:Nat.blt d N=true) (hr:xai T t h d e=some (t',h')):yco P N ⟨some d,.alloc e,ty,pos,af,gd⟩ (S t h) (·=S t' h'):=by
 unfold xai at hr;split at hr
 .rename_i y hy;split at hr
  .rename_i hone;simp only [Option.some.injEq,Prod.mk.injEq] at hr;obtain ⟨rfl,rfl⟩:=hr;refine yco.pre ?_ (zlp d t h);rw [<- yuc,ypk];exact zhh hT rfl rfl (by simpa using hd) d hy hone (ywq d t h) (by simpa using hd)
  cases hr
 cases hr
def yqa (d:Nat):Nat:=d+3000000
def xif (T:Nat->Option Ty) (t:TL) (h:HL) (d ti:Nat) (x y:Operand):Option (TL × HL):=
 match T ti with
 | some ⟨.slc _ es _ eb ez,_,_,_⟩=>match evF (yaj (zbd (yqa d) t)) x with
  | some (.v (.int .i64 (.ofNat m)))=>match evF (yaj (zbd (yqa d) t)) y with
   | some (.v (.int .i64 (.ofNat m')))=>match ez.all Value.oneCell' && (Nat.beq m' m && (Nat.ble m 4294967296 && Nat.ble (eb * m) 281474976710656)) with
    | true=>some ((d,.ls (yqa d) es m)::zbd (yqa d) t,(yqa d,some (.vec (ykr m (yit ez))))::zsv (yqa d) h)
    | false=>none
   | _=>none
  | _=>none
 | _=>none
theorem makeX_ok (hT:TOK P T) {ti:Nat} {y:Operand} (hd:Nat.blt d N=true) (hr:xif T t h d ti x y=some (t',h')):yco P N ⟨some d,.makeSlice ti x y,ty,pos,af,gd⟩ (S t h) (·=S t' h'):=by
 unfold xif at hr;split at hr
 .rename_i e es ea eb ez sz ag z hk;split at hr
  .rename_i m hx;split at hr
   .rename_i m' hy;split at hr
    .rename_i hb;simp only [qac,qdj] at hb;obtain ⟨h1,h2,h3,h4⟩:=hb;obtain rfl:=qaf h2;simp only [Option.some.injEq,Prod.mk.injEq] at hr;obtain ⟨rfl,rfl⟩:=hr;refine yco.pre ?_ (zlp (yqa d) t h);rw [<- yuc];exact ywe hT rfl rfl (by simpa using hd) (yqa d) hk h1 hx hy ⟨h3,h4⟩ (ywq (yqa d) t h)
    cases hr
   cases hr
  cases hr
 cases hr
def xdw (T:Nat->Option Ty) (t:TL) (h:HL) (ti:Nat) (x v:Operand):Option (TL × HL):=
 match T ti with
 | some y=>match evF (yaj t) x with
  | some (.lp id off)=>match evF (yaj t) v with
   | some u=>match yeh u with
    | some cs=>match Nat.beq cs.length y.size with
     | true=>match yac h id with
      | some (.cells xs)=>match yje off cs xs with
       | some ys=>some (t,(id,some (.cells ys))::h)
       | none=>none
      | some (.vec (z::xs))=>match yar.pureL cs with
       | true=>match yje off cs (z::xs) with
        | some ys=>some (t,(id,some (.vec ys))::h)
        | none=>none
       | false=>none
      | _=>none
     | false=>none
    | none=>none
   | none=>none
  | _=>none
 | none=>none
theorem storeX_ok (hT:TOK P T) {ti:Nat} {v:Operand} (hr:xdw T t h ti x v=some (t',h')):yco P N ⟨none,.store ti x v,ty,pos,af,gd⟩ (S t h) (·=S t' h'):=by
 unfold xdw at hr;split at hr
 .rename_i y hy;split at hr
  .rename_i id off hx;split at hr
   .rename_i u hv;split at hr
    .rename_i cs hcs;split at hr
     .rename_i hcl;split at hr
      .rename_i xs hh;split at hr
       .rename_i ys hsp;simp only [Option.some.injEq,Prod.mk.injEq] at hr;obtain ⟨rfl,rfl⟩:=hr;obtain ⟨h1,h2⟩:=ylc hsp;rw [<- S_h];exact yjf rfl rfl (hT _ _ hy).1 hx hv hcs (qaf hcl) hh (by rw [h2];exact .cells h1)
       cases hr
      .rename_i z xs hh;split at hr
       .rename_i hp;split at hr
        .rename_i ys hsp;simp only [Option.some.injEq,Prod.mk.injEq] at hr;obtain ⟨rfl,rfl⟩:=hr;obtain ⟨h1,h2⟩:=ylc hsp;rw [<- S_h];exact yjf rfl rfl (hT _ _ hy).1 hx hv hcs (qaf hcl) hh (by rw [h2];exact .vec h1 (ylz hp) sm)
        cases hr
       cases hr
      cases hr
     cases hr
    cases hr
   cases hr
  cases hr
 cases hr
def xlp (T:Nat->Option Ty) (t:TL) (h:HL) (d ti:Nat) (x y:Operand):Option (TL × HL):=
 match T ti with
 | some ⟨.slc _ es _ eb _,_,_,_⟩=>match evF (yaj t) x with
  | some (.v (.slice none 0 0))=>match evF (yaj (zbd (yqa d) t)) x with
   | some (.v (.slice none 0 0))=>match evF (yaj (zbd (yqa d) t)) y with
    | some (.sl es' rows)=>match yar.pureL rows.flatten && (Nat.beq es' es && (Nat.ble rows.length 4294967296 && Nat.ble (rows.length * eb) 140737488355328)) with
     | true=>some ((d,.ls (yqa d) es rows.length)::zbd (yqa d) t,(yqa d,some (.vec rows.flatten))::zsv (yqa d) h)
     | false=>none
    | _=>none
   | _=>none
  | some (.ls id es1 len)=>match yac h id with
   | some (.vec xs)=>match evF (yaj t) y with
    | some (.sl es' rows)=>match yar.pureL rows.flatten && (Nat.beq es' es && (Nat.beq es1 es && (Nat.beq xs.length (len * es) && (Nat.ble (len+rows.length) 4294967296 && Nat.ble ((len+rows.length) * eb) 140737488355328)))) with
     | true=>match yvt id t with
      | some t1=>match ysx id h with
       | some h1=>some ((d,.ls id es (len+rows.length))::t1,(id,some (.vec (xs++rows.flatten)))::h1)
       | none=>none
      | none=>none
     | false=>none
    | _=>none
   | _=>none
  | _=>none
 | _=>none
theorem appX_ok (hT:TOK P T) {ti:Nat} {y:Operand} (hd:Nat.blt d N=true) (hr:xlp T t h d ti x y=some (t',h')):yco P N ⟨some d,.call { callee:=.builtin .append,args:=#[x,y],argTypes:=#[ti,ti] },ty,pos,af,gd⟩ (S t h) (·=S t' h'):=by
 unfold xlp at hr;split at hr
 .rename_i e es ea eb ez sz ag z hk;split at hr
  .split at hr
   .rename_i hx;split at hr
    .rename_i es' rows hy;split at hr
     .rename_i hb;simp only [qac,qdj] at hb;obtain ⟨h1,h2,h3,h4⟩:=hb;obtain rfl:=qaf h2;simp only [Option.some.injEq,Prod.mk.injEq] at hr;obtain ⟨rfl,rfl⟩:=hr;refine yco.pre ?_ (zlp (yqa d) t h);rw [<- yuc];exact ynf hT (yqa d) rfl rfl (by simpa using hd) hk hx (ywq (yqa d) t h) hy (fun ok w lv u hr=>zfu hr) (ylz h1) ⟨h3,h4⟩
     cases hr
    cases hr
   cases hr
  .rename_i id es1 len hx;split at hr
   .rename_i xs hid;split at hr
    .rename_i es' rows hy;split at hr
     .rename_i hb;simp only [qac,qdj] at hb;obtain ⟨h1,h2,h3,h4,h5,h6⟩:=hb;rw [qaf h2] at hy;rw [qaf h3] at hx;have hxl:=qaf h4;split at hr
      .rename_i t1 ht;split at hr
       .rename_i h1' hh;simp only [Option.some.injEq,Prod.mk.injEq] at hr;obtain ⟨rfl,rfl⟩:=hr;obtain ⟨g1,g2⟩:=yhy ht;have e:S ((d,.ls id es (len+rows.length))::t1) ((id,some (.vec (xs++rows.flatten)))::h1')=(⟨yfk (S t1 ((id,some (.vec (xs++rows.flatten)))::h1')).t (some d) (.ls id es (len+rows.length)),(S t1 ((id,some (.vec (xs++rows.flatten)))::h1')).h⟩:SS):=by
         unfold S;rw [ydh]
        rw [e];refine yow hT rfl rfl (by simpa using hd) hk hx hid hxl hy (fun ok w lv u hr=>zfu hr) (ylz h1) ⟨h5,h6⟩ g1 g2 (fun j ob' hj hob=>?_) ?_
        .simp only [S,yac,ycr hj] at hob;exact ygp hh j ob' hob
        simp [S,yac]
       cases hr
      cases hr
     cases hr
    cases hr
   cases hr
  cases hr
 cases hr
end
end
section
open Go.RowKit
theorem zly {ids:List Nat} {σ τ:Nat->Nat} (hσ:∀ i∈ids,σ (τ i)=i):∀ (x:AV),yen ids x=true->yfg σ (yfg τ x)=x
 | .v _,_=>rfl
 | .any,_=>rfl
 | .one,_=>rfl
 | .sl _ _,_=>rfl
 | .dp _ _,_=>rfl
 | .mv _,_=>rfl
 | .lp i o,h=>by simp only [yfg,hσ i (by simpa [yen] using h)]
 | .ls i _ _,h=>by simp only [yfg,hσ i (by simpa [yen] using h)]
 | .mp i,h=>by simp only [yfg,hσ i (by simpa [yen] using h)]
 | .agg cs,h=>by simp only [yfg,rows cs (by simpa [yen] using h)]
 | .tup cs,h=>by simp only [yfg,rows cs (by simpa [yen] using h)]
 | .fn _ cs,h=>by simp only [yfg,rows cs (by simpa [yen] using h)]
 | .fm _ cs,h=>by simp only [yfg,rows cs (by simpa [yen] using h)]
 where rows:∀ (cs:List AV),yen.onlyL ids cs=true->yfg.renL σ (yfg.renL τ cs)=cs
 | [],_=>rfl
 | c::cs,h=>by
  simp only [yen.onlyL,qac] at h;simp only [yfg.renL,zly hσ c h.1,rows cs h.2]
theorem renO_back {ids:List Nat} {σ τ:Nat->Nat} (hσ:∀ i∈ids,σ (τ i)=i) {o:LObj} (h:ypg ids o=true):zce σ (zce τ o)=o:=by
 cases o <;> simp only [zce,ypg] at h ⊢ <;> rw [zly.rows hσ _ h]
def up (i:Nat):Nat:=i+1000
def xkg:List Nat->List (Nat × Nat)
 | []=>[]
 | i::l=>(up i,i)::xkg l
theorem yxc {sg:List (Nat × Nat)}:∀ {ids:List Nat},i∈ids->yep (xkg ids++sg) (up i)=i
 | [],h=>by cases h
 | k::l,h=>by
  simp only [xkg,qax,yep];cases hb:Nat.beq (up i) (up k) with
  | true=>have:=qaf hb;unfold up at this;simp only;omega
  | false=>
   rcases qas.1 h with rfl|h
   .simp at hb
   exact yxc h
def xjr (h:HL):List Nat->HL
 | []=>[]
 | i::l=>(up i,match yac h i with
  | some o=>some (zce up o)
  | none=>none)::xjr h l
def zwt (h:HL) (ids:List Nat):List Nat->Bool
 | []=>true
 | i::l=>(match yac h i with
  | some o=>ypg ids o
  | none=>true) && zwt h ids l
theorem zvy {h:HL} {ids:List Nat} {sg:List (Nat × Nat)}:∀ {l:List Nat},(∀ i∈l,i∈ids)->zwt h ids l=true->yts h (ztd (xkg ids++sg) (xjr h l))
 | [],_,_=>trivial
 | i::l,hm,ho=>by
  simp only [zwt,qac] at ho;have ih:=zvy (sg:=sg) (l:=l) (fun j hj=>hm j (qap _ hj)) ho.2;have hi:=hm i qbk;simp only [xjr];cases hx:yac h i with
  | none=>
   unfold ztd;exact And.intro (fun o e=>by cases e) ih
  | some o=>
   rw [hx] at ho;unfold ztd;refine And.intro (fun o' e=>?_) ih;simp only [Option.some.injEq] at e;rw [yxc hi,hx,<- e,renO_back (fun j hj=>yxc hj) ho.1]
def zou:AV->List Nat
 | .lp i _=>[i]
 | .ls i _ _=>[i]
 | .mp i=>[i]
 | .agg cs=>idsL cs
 | .tup cs=>idsL cs
 | .fn _ cs=>idsL cs
 | .fm _ cs=>idsL cs
 | _=>[]
 where idsL:List AV->List Nat
 | []=>[]
 | c::cs=>zou c++idsL cs
def xlc:LObj->List Nat
 | .cells xs=>zou.idsL xs
 | .tcells _ xs=>zou.idsL xs
 | .mcells xs=>zou.idsL xs
 | _=>[]
def xdc (h:HL):Nat->List Nat->List Nat->List Nat
 | 0,_,seen=>seen
 | _+1,[],seen=>seen
 | n+1,i::r,seen=>match ynr i seen with
  | true=>xdc h n r seen
  | false=>match yac h i with
   | some o=>xdc h n (xlc o++r) (i::seen)
   | none=>xdc h n r (i::seen)
def xco (ks:List Nat):HL->Nat->List (Nat × Nat)
 | [],_=>[]
 | (i,_)::l,m=>match ynr i ks with
  | true=>xco ks l m
  | false=>(i,m)::xco ks l (m+1)
def xkj:HL->Nat->Nat
 | [],m=>m
 | (i,_)::l,m=>xkj l (match Nat.blt m i with
  | true=>i
  | false=>m)
section
variable {P:Program} {T:Nat->Option Ty} {N:Nat} {ops:Array Oper} {lf:Oper->Bool} {Q:SS->Prop} {t t':TL} {h h':HL} {rest:List Oper} {d:Nat} {op:Op} {ty:TypeId} {pos:String} {af:Array Edge} {gd:Option (Nat × Bool)} {r:AV}
theorem callMG_loud (sg:List (Nat × Nat)) {g:Operand} {args:List Operand} {ats:Array TypeId} {caps xs args0:List AV} {hs hs' h':List (Nat × Option LObj)} (hc:yot P f args0 (yac hs) r (yac hs')) (hg:yzw (evF (yaj t) g) f caps args) (hx:evL (evF (yaj t)) args=some xs) (hargs:xs++caps=args0.map (yfg (yep sg))) (hk:ydm (ybb sg)=true) (hv:ydm (ycc sg)=true) (hd1:yqm (ybb sg) hs=true) (hd2:yqm (ybb sg) hs'=true) (hsub:yts h (ztd sg hs)) (hr:yen (ybb sg) r=true) (ho:yok (ybb sg) hs'=true) (hh:zai (ycc sg) (zkk (ycc sg) h)=some h') (hd:Nat.blt d N=true):
  yco P N ⟨some d,.call { callee:=.value g,args:=args.toArray,argTypes:=ats },ty,pos,af,gd⟩ (S t h) (·=S ((d,yfg (yep sg) r)::yod sg hs' t) (yox sg hs' sg++h')):=by
 refine yrw (σ:=yep sg) (ids:=ybb sg) rfl rfl (by simpa using hd) hg hx hargs hc (yxd hv) (ygo hd1) (ygo hd2) (ysq hsub) hr (yja ho) (fun x y hy=>?_) (fun i hi=>yvh hk hv i hi) (fun j ob' hj hob=>?_)
 .simp only [S,yaj] at hy;cases hb:Nat.beq x d with
  | true=>simp only [hb,Option.some.injEq] at hy;exact .inl ⟨qaf hb,hy.symm⟩
  | false=>
   simp only [hb] at hy;refine .inr ⟨fun e=>by subst e;simp at hb,?_⟩;rcases yix hy with hq|⟨h1,h2⟩
   .exact .inl hq
   exact .inr ⟨h1,yse hk h2⟩
 have hjv:j ∉ ycc sg:=fun hm=>by
  obtain ⟨i,h1,h2⟩:=ysr hm hk;exact hj i h1 h2
 simp only [S,yll hjv] at hob;obtain ⟨h1,h2⟩:=yuj hh j ob' hob;rw [yvn hjv] at h2;exact ⟨fun i hi=>h1 _ (yjy hi),h2⟩
structure Calls0 where
 pure:FuncId->List AV->Option AV
 lent:FuncId->List AV->HL->Option (AV × HL)
 fz:FuncId->Bool
structure CallsOk (P:Program) (K:Calls0):Prop where
 pure:∀ f xs r,K.pure f xs=some r->Con P f xs r
 lent:∀ f xs hs r hs',K.lent f xs hs=some (r,hs')->yot P f xs (yac hs) r (yac hs')
def xid:HL->List Nat
 | []=>[]
 | (i,_)::l=>i::xid l
def xfe (K:Calls0) (t:TL) (h:HL) (d f:Nat) (all:List AV):Option (TL × HL):=
 let ids:=xdc h 1000 (zou.idsL all++xid h) []
 match K.lent f (all.map (yfg up)) (xjr h ids) with
 | none=>none
 | some (r,hs')=>
  let sg:=xkg ids++xco (ids.map up) hs' (xkj h 2000000+1)
  match yen.onlyL ids all && (zwt h ids ids && (ydm (ybb sg) && (ydm (ycc sg) && (yqm (ybb sg) (xjr h ids) && (yqm (ybb sg) hs' && (yen (ybb sg) r && yok (ybb sg) hs')))))) with
  | false=>none
  | true=>match zai (ycc sg) (zkk (ycc sg) h) with
   | none=>none
   | some h1=>some ((d,yfg (yep sg) r)::yod sg hs' t,yox sg hs' sg++h1)
theorem ren_backL {ids:List Nat} {σ τ:Nat->Nat} (hσ:∀ i∈ids,σ (τ i)=i) {xs:List AV} (h:yen.onlyL ids xs=true):(xs.map (yfg τ)).map (yfg σ)=xs:=by
 have:=zly.rows hσ xs h
 rwa [ycs,ycs] at this
theorem zwe {K:Calls0} (hK:CallsOk P K) {g:Operand} {args:List Operand} {ats:Array TypeId} {caps xs:List AV} (hg:yzw (evF (yaj t) g) f caps args) (hx:evL (evF (yaj t)) args=some xs) (hd:Nat.blt d N=true) (hr:xfe K t h d f (xs++caps)=some (t',h')):
  yco P N ⟨some d,.call { callee:=.value g,args:=args.toArray,argTypes:=ats },ty,pos,af,gd⟩ (S t h) (·=S t' h'):=by
 unfold xfe at hr;simp only at hr;split at hr
 .cases hr
 rename_i r hs' hc;split at hr
 .cases hr
 rename_i hb;simp only [qac] at hb;obtain ⟨h1,h2,h3,h4,h5,h6,h7,h8⟩:=hb;split at hr
 .cases hr
 rename_i h1' hh;simp only [Option.some.injEq,Prod.mk.injEq] at hr;obtain ⟨rfl,rfl⟩:=hr;exact callMG_loud _ (hK.lent _ _ _ _ _ hc) hg hx (ren_backL (fun i hi=>yxc hi) h1).symm h3 h4 h5 h6 (zvy (fun i hi=>hi) h2) h7 h8 hh hd
end
end
section
open Go.RowKit
section
variable {P:Program} {T:Nat->Option Ty} {N:Nat} {ops:Array Oper} {lf:Oper->Bool} {Q:SS->Prop} {t t':TL} {h h':HL} {rest:List Oper} {op:Op} {ty:TypeId} {pos:String} {af:Array Edge} {gd:Option (Nat × Bool)} {r:AV} {K:Calls0} {big:Bool}
def xjy (N:Nat) (d:Option Nat) (r:Option AV) (t:TL) (h:HL):Option (TL × HL):=
 match r with
 | some r=>match d with
  | some d=>match Nat.blt d N with
   | true=>some ((d,r)::t,h)
   | false=>none
  | none=>some (t,h)
 | none=>none
def xjj (K:Calls0) (big:Bool) (t:TL) (h:HL) (d:Nat) (g:Operand) (args:List Operand):Option (TL × HL):=
 match evF (yaj t) g with
 | some (.fn f caps)=>match evL (evF (yaj t)) args with
  | some xs=>match yar.pureL (xs++caps) with
   | true=>match K.pure f (xs++caps) with
    | some r=>some ((d,r)::t,h)
    | none=>none
   | false=>match big with
    | true=>xfe K t h d f (xs++caps)
    | false=>none
  | none=>none
 | some (.fm f caps)=>match args,big with
  | [],true=>xfe K t h d f caps
  | _,_=>none
 | _=>none
def xlw (T:Nat->Option Ty) (K:Calls0) (N:Nat) (big:Bool) (t:TL) (h:HL) (d:Option Nat) (op:Op) (ty:TypeId):Option (TL × HL):=
 match op with
 | .box _ x=>match d with
  | some d=>match Nat.blt d N with
   | true=>xls t h d x
   | false=>none
  | none=>none
 | .alloc e=>match d with
  | some d=>match Nat.blt d N with
   | true=>xai T t h d e
   | false=>none
  | none=>none
 | .makeSlice ti x y=>match d with
  | some d=>match Nat.blt d N with
   | true=>xif T t h d ti x y
   | false=>none
  | none=>none
 | .store ti x v=>match d with
  | some _=>none
  | none=>xdw T t h ti x v
 | .call ⟨.builtin .append,⟨[x,y]⟩,⟨[ti,tj]⟩⟩=>match d with
  | some d=>match Nat.blt d N && Nat.beq tj ti with
   | true=>xlp T t h d ti x y
   | false=>none
  | none=>none
 | .call ⟨.value g,⟨args⟩,ats⟩=>match d with
  | some d=>match Nat.blt d N with
   | true=>xjj K big t h d g args
   | false=>none
  | none=>none
 | op=>xjy N d (xhz T t h op ty) t h
theorem L_put {d:Option Nat} {r:Option AV} (hy:∀ r',r=some r'->yby P (yac h) (evF (yaj t)) op ty r') (hr:xjy N d r t h=some (t',h')) (hw:yal ops (yaj t) ⟨d,op,ty,pos,af,gd⟩=some true) (k:Lex P N ops lf Q rest (S t' h')):Lex P N ops lf Q (⟨d,op,ty,pos,af,gd⟩::rest) (S t h):=by
 unfold xjy at hr;split at hr
 .split at hr
  .split at hr
   .rename_i hd;simp only [Option.some.injEq,Prod.mk.injEq] at hr;obtain ⟨rfl,rfl⟩:=hr;exact ycl (hy _ rfl) hw hd k
   cases hr
  simp only [Option.some.injEq,Prod.mk.injEq] at hr;obtain ⟨rfl,rfl⟩:=hr;exact L_yield0 (hy _ rfl) hw k
 cases hr
theorem exOp_ok (hT:TOK P T) (hK:CallsOk P K) (hlf:∀ o,xbx o.op=true->lf o=true) (hbig:big=true->∀ o,lf o=true) {d:Option Nat} (hr:xlw T K N big t h d op ty=some (t',h')) (hw:yal ops (yaj t) ⟨d,op,ty,pos,af,gd⟩=some true) (k:Lex P N ops lf Q rest (S t' h')):Lex P N ops lf Q (⟨d,op,ty,pos,af,gd⟩::rest) (S t h):=by
 unfold xlw at hr;split at hr
 .split at hr
  .split at hr
   .rename_i hd;exact yec (hlf _ rfl) hw (boxX_ok hd hr) k
   cases hr
  cases hr
 .split at hr
  .split at hr
   .rename_i hd;exact yec (hlf _ rfl) hw (allocX_ok hT hd hr) k
   cases hr
  cases hr
 .split at hr
  .split at hr
   .rename_i hd;exact yec (hlf _ rfl) hw (makeX_ok hT hd hr) k
   cases hr
  cases hr
 .split at hr
  .cases hr
  exact yec (hlf _ rfl) hw (storeX_ok hT hr) k
 .split at hr
  .split at hr
   .rename_i hd;simp only [qac] at hd;obtain rfl:=qaf hd.2;exact yec (hlf _ rfl) hw (appX_ok hT hd.1 hr) k
   cases hr
  cases hr
 .split at hr
  .split at hr
   .rename_i hd;unfold xjj at hr;split at hr
    .rename_i f caps hg;split at hr
     .rename_i xs hx;split at hr
      .split at hr
       .rename_i r hp;simp only [Option.some.injEq,Prod.mk.injEq] at hr;obtain ⟨rfl,rfl⟩:=hr;exact yte hg hx (hK.pure _ _ _ hp) hw hd k
       cases hr
      split at hr
      .exact yec (hbig rfl _) hw (zwe hK (.inl hg) hx hd hr) k
      cases hr
     cases hr
    .rename_i f caps hg;split at hr
     .exact yec (hbig rfl _) hw (zwe (xs:=[]) hK (.inr ⟨hg,rfl⟩) rfl hd hr) k
     cases hr
    cases hr
   cases hr
  cases hr
 exact L_put (fun r' e=>calmX_ok hT e) hr hw k
def exL (T:Nat->Option Ty) (K:Calls0) (N:Nat) (big:Bool) (ops:Array Oper):List Oper->TL->HL->Option (TL × HL)
 | [],t,h=>some (t,h)
 | ⟨d,op,ty,pos,af,gd⟩::l,t,h=>match yal ops (yaj t) ⟨d,op,ty,pos,af,gd⟩ with
  | some true=>match xlw T K N big t h d op ty with
   | some (t1,h1)=>exL T K N big ops l t1 h1
   | none=>none
  | some false=>match xjy N d (some (.v undef)) t h with
   | some (t1,h1)=>exL T K N big ops l t1 h1
   | none=>none
  | none=>none
theorem zhw (hT:TOK P T) (hK:CallsOk P K) (hlf:∀ o,xbx o.op=true->lf o=true) (hbig:big=true->∀ o,lf o=true):∀ {l:List Oper} {t:TL} {h:HL},exL T K N big ops l t h=some (t',h')->Q (S t' h')->Lex P N ops lf Q l (S t h)
 | [],t,h,hr,hq=>by
  simp only [exL,Option.some.injEq,Prod.mk.injEq] at hr;obtain ⟨rfl,rfl⟩:=hr;exact zmy hq
 | ⟨d,op,ty,pos,af,gd⟩::l,t,h,hr,hq=>by
  simp only [exL] at hr;split at hr
  .rename_i hw;split at hr
   .rename_i t1 h1 ho;exact exOp_ok hT hK hlf hbig ho hw (zhw hT hK hlf hbig hr hq)
   cases hr
  .rename_i hw;split at hr
   .rename_i t1 h1 ho;have k:=zhw hT hK hlf hbig hr hq;unfold xjy at ho;simp only at ho;split at ho
    .split at ho
     .rename_i hd;simp only [Option.some.injEq,Prod.mk.injEq] at ho;obtain ⟨rfl,rfl⟩:=ho;exact xfy hw hd k
     cases ho
    simp only [Option.some.injEq,Prod.mk.injEq] at ho;obtain ⟨rfl,rfl⟩:=ho;exact L_skip0 hw k
   cases hr
  cases hr
end
end
section
open Go.RowKit
def eqV:Value->Value->Bool
 | .bool a,.bool b=>a == b
 | .int k a,.int k' b=>decide (k=k') && decide (a=b)
 | .string a,.string b=>decide (a=b)
 | .slice none a b,.slice none c d=>Nat.beq a c && Nat.beq b d
 | .pointer none,.pointer none=>true
 | .nilFunc,.nilFunc=>true
 | .nilIface,.nilIface=>true
 | .tuple ⟨[]⟩,.tuple ⟨[]⟩=>true
 | _,_=>false
theorem eqV_ok {a b:Value} (h:eqV a b=true):a=b:=by
 unfold eqV at h;split at h
 .simpa using h
 .simp only [qac,decide_eq_true_eq] at h;rw [h.1,h.2]
 .rw [of_decide_eq_true h]
 .simp only [qac] at h;rw [qaf h.1,qaf h.2]
 .rfl
 .rfl
 .rfl
 .rfl
 cases h
def eqA:AV->AV->Bool
 | .v a,.v b=>eqV a b
 | .sl s xs,.sl s' ys=>Nat.beq s s' && eqR xs ys
 | .dp xs o,.dp ys o'=>eqL xs ys && Nat.beq o o'
 | .lp i o,.lp j o'=>Nat.beq i j && Nat.beq o o'
 | .ls i a b,.ls j c d=>Nat.beq i j && (Nat.beq a c && Nat.beq b d)
 | .agg xs,.agg ys=>eqL xs ys
 | .tup xs,.tup ys=>eqL xs ys
 | .fn f xs,.fn g ys=>Nat.beq f g && eqL xs ys
 | .fm f xs,.fm g ys=>Nat.beq f g && eqL xs ys
 | .any,.any=>true
 | .one,.one=>true
 | _,_=>false
 where
 eqL:List AV->List AV->Bool
 | [],[]=>true
 | x::xs,y::ys=>eqA x y && eqL xs ys
 | _,_=>false
 eqR:List (List AV)->List (List AV)->Bool
 | [],[]=>true
 | x::xs,y::ys=>eqL x y && eqR xs ys
 | _,_=>false
theorem zhv:∀ (x y:AV),eqA x y=true->x=y
 | .v a,y,h=>by cases y <;> simp only [eqA] at h <;> first|rw [eqV_ok h]|cases h
 | .sl s xs,y,h=>by
  cases y <;> simp only [eqA,qac] at h <;> first|cases h;done|rw [qaf h.1,rws _ _ h.2]
 | .dp xs o,y,h=>by
  cases y <;> simp only [eqA,qac] at h <;> first|cases h;done|rw [qaf h.2,row _ _ h.1]
 | .lp i o,y,h=>by
  cases y <;> simp only [eqA,qac] at h <;> first|cases h;done|rw [qaf h.1,qaf h.2]
 | .ls i a b,y,h=>by
  cases y <;> simp only [eqA,qac] at h <;> first|cases h;done|rw [qaf h.1,qaf h.2.1,qaf h.2.2]
 | .agg xs,y,h=>by cases y <;> simp only [eqA] at h <;> first|cases h;done|rw [row _ _ h]
 | .tup xs,y,h=>by cases y <;> simp only [eqA] at h <;> first|cases h;done|rw [row _ _ h]
 | .fn f xs,y,h=>by
  cases y <;> simp only [eqA,qac] at h <;> first|cases h;done|rw [qaf h.1,row _ _ h.2]
 | .fm f xs,y,h=>by
  cases y <;> simp only [eqA,qac] at h <;> first|cases h;done|rw [qaf h.1,row _ _ h.2]
 | .any,y,h=>by cases y <;> simp only [eqA] at h <;> first|rfl|cases h
 | .one,y,h=>by cases y <;> simp only [eqA] at h <;> first|rfl|cases h
 | .mp i,y,h=>by cases y <;> simp only [eqA] at h <;> cases h
 | .mv i,y,h=>by cases y <;> simp only [eqA] at h <;> cases h
 where
 row:∀ (x y:List AV),eqA.eqL x y=true->x=y
 | [],[],_=>rfl
 | [],_::_,h=>by simp [eqA.eqL] at h
 | _::_,[],h=>by simp [eqA.eqL] at h
 | x::xs,y::ys,h=>by
  simp only [eqA.eqL,qac] at h;rw [zhv x y h.1,row xs ys h.2]
 rws:∀ (x y:List (List AV)),eqA.eqR x y=true->x=y
 | [],[],_=>rfl
 | [],_::_,h=>by simp [eqA.eqR] at h
 | _::_,[],h=>by simp [eqA.eqR] at h
 | x::xs,y::ys,h=>by
  simp only [eqA.eqR,qac] at h;rw [row x y h.1,rws xs ys h.2]
def eqO:LObj->LObj->Bool
 | .cells xs,.cells ys=>eqA.eqL xs ys
 | .vec xs,.vec ys=>eqA.eqL xs ys
 | _,_=>false
theorem eqO_ok {x y:LObj} (h:eqO x y=true):x=y:=by
 unfold eqO at h;split at h
 .rw [zhv.row _ _ h]
 .rw [zhv.row _ _ h]
 cases h
end
section
open Go.RowKit
def xlu (x y:Option LObj):Bool:=match x,y with
 | some a,some b=>eqO a b
 | none,none=>true
 | _,_=>false
theorem eqHo_ok {x y:Option LObj} (h:xlu x y=true):x=y:=by
 unfold xlu at h;split at h
 .rw [eqO_ok h]
 .rfl
 cases h
def zqn (t u:HL):HL->Bool
 | []=>true
 | (s,_)::l=>xlu (yac t s) (yac u s) && zqn t u l
theorem zfp {t u:HL}:∀ {l:HL},zqn t u l=true->∀ s x,(s,x)∈l->yac t s=yac u s
 | [],_,s,x,h=>by cases h
 | (k,y)::l,hb,s,x,h=>by
  simp only [zqn,qac] at hb;rcases qas.1 h with e|h
  .cases e;exact eqHo_ok hb.1
  exact zfp hb.2 s x h
theorem yyt:∀ {l:HL} {i:Nat},(∀ x,(i,x) ∉ l)->yac l i=none
 | [],i,_=>rfl
 | (k,x)::l,i,h=>by
  simp only [yac];cases hb:Nat.beq i k with
  | true=>exact absurd (by rw [qaf hb];exact qbk) (h x)
  | false=>exact yyt fun y hy=>h y (qap _ hy)
def xim (t u:HL):Bool:=zqn t u t && zqn t u u
theorem sameH_ok {t u:HL} (h:xim t u=true):yac t=yac u:=by
 simp only [xim,qac] at h;funext i;by_cases h1:∃ x,(i,x)∈t
 .obtain ⟨x,hx⟩:=h1;exact zfp h.1 i x hx
 by_cases h2:∃ x,(i,x)∈u
 .obtain ⟨x,hx⟩:=h2;exact zfp h.2 i x hx
 rw [yyt fun x hx=>h1 ⟨x,hx⟩,yyt fun x hx=>h2 ⟨x,hx⟩]
def yuw (t u:TL):TL->Bool
 | []=>true
 | (s,_)::l=>(match yaj t s,yaj u s with
  | some a,some b=>eqA a b
  | none,none=>true
  | _,_=>false) && yuw t u l
theorem yzl:∀ {l:TL},yuw t u l=true->∀ s x,(s,x)∈l->yaj t s=yaj u s
 | [],_,s,x,h=>by cases h
 | (k,y)::l,hb,s,x,h=>by
  simp only [yuw,qac] at hb;rcases qas.1 h with e|h
  .cases e;have h1:=hb.1;split at h1
   .rename_i a b ha hb';rw [ha,hb',zhv _ _ h1]
   .rename_i ha hb';rw [ha,hb']
   cases h1
  exact yzl hb.2 s x h
theorem zen:∀ {l:TL} {i:Nat},(∀ x,(i,x) ∉ l)->yaj l i=none
 | [],i,_=>rfl
 | (k,x)::l,i,h=>by
  simp only [yaj];cases hb:Nat.beq i k with
  | true=>exact absurd (by rw [qaf hb];exact qbk) (h x)
  | false=>exact zen fun y hy=>h y (qap _ hy)
theorem sameT_ok (h:(yuw t u t && yuw t u u)=true):yaj t=yaj u:=by
 simp only [qac] at h;funext i;by_cases h1:∃ x,(i,x)∈t
 .obtain ⟨x,hx⟩:=h1;exact yzl h.1 i x hx
 by_cases h2:∃ x,(i,x)∈u
 .obtain ⟨x,hx⟩:=h2;exact yzl h.2 i x hx
 rw [zen fun x hx=>h1 ⟨x,hx⟩,zen fun x hx=>h2 ⟨x,hx⟩]
def xin (t:TL) (h:HL) (u:TL) (g:HL):Bool:=(yuw t u t && yuw t u u) && xim h g
theorem sameS_ok {h g:HL} (hb:xin t h u g=true):S t h=S u g:=by
 simp only [xin] at hb;rw [qac] at hb;unfold S;rw [sameT_ok hb.1,sameH_ok hb.2]
end
section
open Go.RowKit
section
variable {P:Program} {T:Nat->Option Ty} {N:Nat} {ops:Array Oper} {Q:SS->Prop} {K:Calls0}
def zbp (ops:Array Oper) (listed:Array Bool):List Nat->Option Nat
 | []=>none
 | k::l=>match zpx ops lf0 [k] listed with
  | true=>some k
  | false=>zbp ops listed l
theorem zdq {listed:Array Bool}:∀ {l:List Nat} {k:Nat},zbp ops listed l=some k->zpx ops lf0 [k] listed=true
 | [],k,h=>by cases h
 | i::l,k,h=>by
  unfold zbp at h;split at h
  .rename_i hp;simp only [Option.some.injEq] at h;subst h;exact hp
  exact zdq h
def zvj (f:Nat->Option (TL × HL)):List Nat->Option (TL × HL)
 | []=>none
 | [k]=>f k
 | k::l=>match f k with
  | none=>none
  | some (t1,h1)=>match zvj f l with
   | none=>none
   | some (t2,h2)=>match xin t1 h1 t2 h2 with
    | true=>some (t2,h2)
    | false=>none
theorem zof {f:Nat->Option (TL × HL)}:∀ {l:List Nat} {t':TL} {h':HL},zvj f l=some (t',h')->l≠[]/\∀ k∈l,∃ t1 h1,f k=some (t1,h1)/\S t1 h1=S t' h'
 | [],t',h',h=>by cases h
 | [k],t',h',h=>⟨sm,fun j hj=>by
  simp only [qaq] at hj
  subst hj
  exact ⟨t',h',h,rfl⟩⟩
 | k::i::l,t',h',h=>by
  unfold zvj at h;split at h
  .cases h
  rename_i t1 h1 hf;split at h
  .cases h
  rename_i t2 h2 hg;split at h
  .rename_i hs;simp only [Option.some.injEq,Prod.mk.injEq] at h;obtain ⟨rfl,rfl⟩:=h;obtain ⟨_,ih⟩:=zof hg;refine ⟨sm,fun j hj=>?_⟩;rcases qas.1 hj with rfl|hj
   .exact ⟨t1,h1,hf,sameS_ok hs⟩
   exact ih j hj
  cases h
def zyy (T:Nat->Option Ty) (K:Calls0) (N:Nat) (ops:Array Oper):Nat->Array Bool->TL->HL->Option (TL × HL)
 | 0,listed,t,h=>match ywr ops lf0 [] listed with
  | true=>some (t,h)
  | false=>none
 | n+1,listed,t,h=>match zbp ops listed (Region.ready .any ops listed) with
  | some k=>match ops[k]? with
   | some o=>match exL T K N false ops [o] t h with
    | some (t1,h1)=>zyy T K N ops n (yiy [k] listed) t1 h1
    | none=>none
   | none=>none
  | none=>zvj (fun k=>match ops[k]? with
   | some o=>match exL T K N false ops [o] t h with
    | some (t1,h1)=>zyy T K N ops n (listed.setIfInBounds k true) t1 h1
    | none=>none
   | none=>none) (Region.ready .any ops listed)
theorem zko (hT:TOK P T) (hK:CallsOk P K):∀ (n:Nat) (listed:Array Bool) (t:TL) (h:HL) (t':TL) (h':HL),zyy T K N ops n listed t h=some (t',h')->Q (S t' h')->xej P N ops lf0 Q n listed (S t h)
 | 0,listed,t,h,t',h',hr,hq=>by
  simp only [zyy] at hr;split at hr
  .rename_i ho;simp only [Option.some.injEq,Prod.mk.injEq] at hr;obtain ⟨rfl,rfl⟩:=hr;exact yau [] (l:=[]) yak rfl ho (zmy hq)
  cases hr
 | n+1,listed,t,h,t',h',hr,hq=>by
  simp only [zyy] at hr;split at hr
  .rename_i k hp;split at hr
   .rename_i o ho;split at hr
    .rename_i t1 h1 hx;refine yee [k] n (l:=[o]) (yab ho yak) so (zdq hp) ?_;exact zhw hT hK (fun _ ho=>ho) (fun e=>by cases e) hx (zko hT hK n _ _ _ _ _ hr hq)
    cases hr
   cases hr
  obtain ⟨hne,hall⟩:=zof hr;refine yaq _ n rfl rfl hne ?_;generalize Region.ready .any ops listed=ks at hall;clear hne hr;induction ks with
  | nil=>exact trivial
  | cons k ks ih=>
   refine ⟨?_,ih fun j hj=>hall j (qap _ hj)⟩;obtain ⟨t1,h1,hf,hs⟩:=hall k qbk;split at hf
   .rename_i o ho;split at hf
    .rename_i t2 h2 hx;refine ⟨o,ho,zhw hT hK (fun _ ho=>ho) (fun e=>by cases e) hx (zko hT hK n _ _ _ _ _ hf (hs ▸ hq))⟩
    cases hf
   cases hf
end
end
section
open Go.RowKit
section
variable {P:Program} {N:Nat} {Q:Exit->SS->Prop} {c:Code}
def xla (jb k:Nat) (t:TL) (h:HL):TL × HL:=
 match yac h jb with
 | some (.cells ys)=>match ys[k]? with
  | some (.ls id size len)=>match yac h id with
   | some (.vec xs)=>match yqk size len xs with
    | some rows=>match yvt id t with
     | some t1=>match ysx id h with
      | some h1=>match yac ((id,none)::h1) jb with
       | some (.cells ys')=>match Nat.beq ys'.length ys.length with
        | true=>(t1,(jb,some (.cells (ys'.set k (.sl size rows))))::(id,none)::h1)
        | false=>(t,h)
       | _=>(t,h)
      | none=>(t,h)
     | none=>(t,h)
    | none=>(t,h)
   | _=>(t,h)
  | _=>(t,h)
 | _=>(t,h)
theorem frz1_ok {jb k:Nat} {h:HL} (q:A P N c Q (S (xla jb k t h).1 (xla jb k t h).2)):A P N c Q (S t h):=by
 unfold xla at q;split at q
 .rename_i ys hj;split at q
  .rename_i id size len hk;split at q
   .rename_i xs hx;split at q
    .rename_i rows hc;obtain ⟨q1,q2,q3⟩:=ypa hc;split at q
     .rename_i t1 ht;split at q
      .rename_i h1 hh;split at q
       .rename_i ys' hj';split at q
        .rename_i hl;exact yeg jb k rows hj hk hx q1 q2 q3 ht hh hj' hl q
        exact q
       exact q
      exact q
     exact q
    exact q
   exact q
  exact q
 exact q
def xlb (jb:Nat):Nat->TL->HL->TL × HL
 | 0,t,h=>(t,h)
 | k+1,t,h=>match xla jb k t h with
  | (t1,h1)=>xlb jb k t1 h1
theorem xbo {jb:Nat}:∀ {k:Nat} {t:TL} {h:HL},A P N c Q (S (xlb jb k t h).1 (xlb jb k t h).2)->A P N c Q (S t h)
 | 0,t,h,q=>q
 | k+1,t,h,q=>frz1_ok (jb:=jb) (k:=k) (xbo (k:=k) q)
def xiv:HL->TL->HL->TL × HL
 | [],t,h=>(t,h)
 | (jb,some (.cells ys))::l,t,h=>match xlb jb ys.length t h with
  | (t1,h1)=>xiv l t1 h1
 | _::l,t,h=>xiv l t h
theorem ylq:∀ {l:HL} {t:TL} {h:HL},A P N c Q (S (xiv l t h).1 (xiv l t h).2)->A P N c Q (S t h)
 | [],t,h,q=>q
 | (jb,some (.cells ys))::l,t,h,q=>xbo (jb:=jb) (k:=ys.length) (ylq (l:=l) q)
 | (jb,none)::l,t,h,q=>ylq (l:=l) q
 | (jb,some (.vec _))::l,t,h,q=>ylq (l:=l) q
 | (jb,some (.map _))::l,t,h,q=>ylq (l:=l) q
 | (jb,some (.iter _ _ _))::l,t,h,q=>ylq (l:=l) q
 | (jb,some (.siter _ _))::l,t,h,q=>ylq (l:=l) q
 | (jb,some (.tcells _ _))::l,t,h,q=>ylq (l:=l) q
 | (jb,some (.tvec _ _))::l,t,h,q=>ylq (l:=l) q
 | (jb,some (.mcells _))::l,t,h,q=>ylq (l:=l) q
end
end
section
open Go.RowKit
section
variable {P:Program} {T:Nat->Option Ty} {N:Nat} {Q:Exit->SS->Prop} {t t':TL} {h h':HL} {K:Calls0}
def xbl:List ResultVar->TL->HL->TL × HL
 | [],t,h=>(t,h)
 | .tmp d::rs,t,h=>match yaj t d with
  | some (.ls id size len)=>match yac h id with
   | some (.vec xs)=>match yqk size len xs with
    | some rows=>match yvt id t with
     | some t1=>match ysx id h with
      | some h1=>xbl rs ((d,.sl size rows)::t1) ((id,none)::h1)
      | none=>xbl rs t h
     | none=>xbl rs t h
    | none=>xbl rs t h
   | _=>xbl rs t h
  | _=>xbl rs t h
 | .cell _ _::rs,t,h=>xbl rs t h
theorem yqp:∀ {rs:List ResultVar} {t:TL} {h:HL},A P N c Q (S (xbl rs t h).1 (xbl rs t h).2)->A P N c Q (S t h)
 | [],t,h,k=>k
 | .cell _ _::rs,t,h,k=>yqp (rs:=rs) k
 | .tmp d::rs,t,h,k=>by
  simp only [xbl] at k;split at k
  .rename_i id size len hd;split at k
   .rename_i xs hx;split at k
    .rename_i rows hc;obtain ⟨q1,q2,q3⟩:=ypa hc;split at k
     .rename_i t1 ht;split at k
      .rename_i h1 hh;exact zbh d rows hd hx q1 q2 q3 ht hh (yqp (rs:=rs) k)
      exact yqp (rs:=rs) k
     exact yqp (rs:=rs) k
    exact yqp (rs:=rs) k
   exact yqp (rs:=rs) k
  exact yqp (rs:=rs) k
def wantsF (K:Calls0) (l:List Oper):Bool:=l.any fun o=>match o.op with
 | .call ⟨.value (.func f),_,_⟩=>K.fz f
 | _=>false
def xjx (K:Calls0) (l:List Oper) (t:TL) (h:HL):TL × HL:=match wantsF K l with
 | true=>xiv h t h
 | false=>(t,h)
theorem preX_ok {l:List Oper} (q:A P N c Q (S (xjx K l t h).1 (xjx K l t h).2)):A P N c Q (S t h):=by
 unfold xjx at q;split at q
 .exact ylq q
 exact q
def ownH (h:HL):HL:=h.filter fun x=>Nat.blt x.1 1000
def xij (l:List Oper) (t:TL) (h:HL):TL × HL:=match l.any fun o=>(match o.op with
 | .call ⟨.builtin .append,_,_⟩=>true
 | _=>false) with
 | true=>xiv (ownH h) t h
 | false=>(t,h)
theorem xcz {l:List Oper} (q:A P N c Q (S (xij l t h).1 (xij l t h).2)):A P N c Q (S t h):=by
 unfold xij at q;split at q
 .exact ylq q
 exact q
def exC (T:Nat->Option Ty) (K:Calls0) (N:Nat) (rs:List ResultVar):Nat->Code->TL->HL->Option (Exit × TL × HL)
 | 0,_,_,_=>none
 | n+1,c,t,h=>match c with
  | .skip=>some (.normal,t,h)
  | .exit id=>some (.exit id,t,h)
  | .label _=>some (.normal,t,h)
  | .ret=>match xbl rs t h with
   | (t1,h1)=>some (.ret,t1,h1)
  | .seq x y=>match exC T K N rs n x t h with
   | some (.normal,t1,h1)=>exC T K N rs n y t1 h1
   | some (.exit id,t1,h1)=>some (.exit id,t1,h1)
   | some (.ret,t1,h1)=>some (.ret,t1,h1)
   | _=>none
  | .cond c x y=>match evF (yaj t) c with
   | some (.v (.bool true))=>exC T K N rs n x t h
   | some (.v (.bool false))=>exC T K N rs n y t h
   | _=>none
  | .block id x=>match exC T K N rs n x t h with
   | some (.normal,t1,h1)=>some (.normal,t1,h1)
   | some (.exit id',t1,h1)=>match Nat.beq id' id with
    | true=>some (.normal,t1,h1)
    | false=>some (.exit id',t1,h1)
   | some (.ret,t1,h1)=>some (.ret,t1,h1)
   | _=>none
  | .loop x=>match exC T K N rs n x (ynw (fun _=>true) [] t) (yln (fun _ _=>true) [] h) with
   | some (.normal,t1,h1)=>exC T K N rs n (.loop x) t1 h1
   | some (.exit id,t1,h1)=>some (.exit id,t1,h1)
   | some (.ret,t1,h1)=>some (.ret,t1,h1)
   | _=>none
  | .region _ ⟨l⟩ false=>match yhr l with
   | true=>match exL T K N true l.toArray l (xjx K l t h).1 (xjx K l t h).2 with
    | some (t1,h1)=>some (.normal,t1,h1)
    | none=>none
   | false=>none
  | .region _ ⟨l⟩ true=>match zuy lf0 l && ytk N l with
   | true=>match exL T K N false l.toArray l (xij l t h).1 (xij l t h).2 with
    | some (t1,h1)=>some (.normal,t1,h1)
    | none=>none
   | false=>match ytk N l with
    | true=>match zyy T K N l.toArray l.length (Array.replicate l.length false) (xij l t h).1 (xij l t h).2 with
     | some (t1,h1)=>some (.normal,t1,h1)
     | none=>none
    | false=>none
  | _=>none
theorem zvi (hm:P.follows .mixedOrders=true) (hT:TOK P T) (hK:CallsOk P K) {rs:List ResultVar}:∀ (n:Nat) (c:Code) (t:TL) (h:HL) (e:Exit) (t':TL) (h':HL),exC T K N rs n c t h=some (e,t',h')->(∀ Q:Exit->SS->Prop,Q e (S t' h')->A P N c Q (S t h))/\(∀ x,c=.loop x->∀ Q:Exit->SS->Prop,Q e (S t' h')->zrx P N x Q (S t h))
 | 0,c,t,h,e,t',h',hr=>by simp [exC] at hr
 | n+1,c,t,h,e,t',h',hr=>by
  have ih:=fun c t h e t' h' hr=>(zvi hm hT hK (rs:=rs) n c t h e t' h' hr).1;have ihl:=fun x t h e t' h' hr=>(zvi hm hT hK (rs:=rs) n (.loop x) t h e t' h' hr).2 x rfl;by_cases hl:∃ x,c=.loop x
  .obtain ⟨x,rfl⟩:=hl;have key:∀ Q:Exit->SS->Prop,Q e (S t' h')->zrx P N x Q (S t h):=by
    intro Q hq;refine zcz ?_ (zhp (fun _=>true) t) (zho (fun _ _=>true) h);refine yrs ?_;simp only [exC] at hr;split at hr
    .rename_i t1 h1 hb;exact ih _ _ _ _ _ _ hb _ (ihl _ _ _ _ _ _ hr Q hq)
    .rename_i id t1 h1 hb;simp only [Option.some.injEq,Prod.mk.injEq] at hr;obtain ⟨rfl,rfl,rfl⟩:=hr;exact ih _ _ _ _ _ _ hb _ hq
    .rename_i t1 h1 hb;simp only [Option.some.injEq,Prod.mk.injEq] at hr;obtain ⟨rfl,rfl,rfl⟩:=hr;exact ih _ _ _ _ _ _ hb _ hq
    cases hr
   exact ⟨fun Q hq=>zzu (key Q hq),fun y e Q hq=>by cases e;exact key Q hq⟩
  refine ⟨fun Q hq=>?_,fun x e=>absurd ⟨x,e⟩ hl⟩;unfold exC at hr;split at hr
  .simp only [Option.some.injEq,Prod.mk.injEq] at hr;obtain ⟨rfl,rfl,rfl⟩:=hr;exact ycy hq
  .simp only [Option.some.injEq,Prod.mk.injEq] at hr;obtain ⟨rfl,rfl,rfl⟩:=hr;exact ymi hq
  .simp only [Option.some.injEq,Prod.mk.injEq] at hr;obtain ⟨rfl,rfl,rfl⟩:=hr;exact A_label hq
  .simp only [Option.some.injEq,Prod.mk.injEq] at hr;obtain ⟨rfl,h1,h2⟩:=hr;refine yqp (rs:=rs) (ykj ?_);rw [h1,h2];exact hq
  .rename_i x y;refine ynb ?_;split at hr
   .rename_i t1 h1 hb;exact ih _ _ _ _ _ _ hb _ (ih _ _ _ _ _ _ hr Q hq)
   .rename_i id t1 h1 hb;simp only [Option.some.injEq,Prod.mk.injEq] at hr;obtain ⟨rfl,rfl,rfl⟩:=hr;exact ih _ _ _ _ _ _ hb _ hq
   .rename_i t1 h1 hb;simp only [Option.some.injEq,Prod.mk.injEq] at hr;obtain ⟨rfl,rfl,rfl⟩:=hr;exact ih _ _ _ _ _ _ hb _ hq
   cases hr
  .rename_i cc x y;split at hr
   .rename_i hc;exact yvb hc (fun _=>ih _ _ _ _ _ _ hr Q hq) (fun e=>by cases e)
   .rename_i hc;exact yvb hc (fun e=>by cases e) (fun _=>ih _ _ _ _ _ _ hr Q hq)
   cases hr
  .rename_i id x;refine zrs ?_;split at hr
   .rename_i t1 h1 hb;simp only [Option.some.injEq,Prod.mk.injEq] at hr;obtain ⟨rfl,rfl,rfl⟩:=hr;exact ih _ _ _ _ _ _ hb _ hq
   .rename_i id' t1 h1 hb;split at hr
    .rename_i he;simp only [Option.some.injEq,Prod.mk.injEq] at hr;obtain ⟨rfl,rfl,rfl⟩:=hr;refine ih _ _ _ _ _ _ hb _ ?_;simp only [xaa,he,if_true];exact hq
    rename_i he;simp only [Option.some.injEq,Prod.mk.injEq] at hr;obtain ⟨rfl,rfl,rfl⟩:=hr;refine ih _ _ _ _ _ _ hb _ ?_;simp only [xaa,he];exact hq
   .rename_i t1 h1 hb;simp only [Option.some.injEq,Prod.mk.injEq] at hr;obtain ⟨rfl,rfl,rfl⟩:=hr;exact ih _ _ _ _ _ _ hb _ hq
   cases hr
  .exact absurd ⟨_,rfl⟩ hl
  .rename_i id l;split at hr
   .rename_i hn;split at hr
    .rename_i t1 h1 hb;simp only [Option.some.injEq,Prod.mk.injEq] at hr;obtain ⟨rfl,rfl,rfl⟩:=hr;exact preX_ok (l:=l) (ybi (lf:=lfT) hn (zhw hT hK (fun _ _=>rfl) (fun _ _=>rfl) hb hq))
    cases hr
   cases hr
  .rename_i id l;split at hr
   .rename_i hn;simp only [qac] at hn;split at hr
    .rename_i t1 h1 hb;simp only [Option.some.injEq,Prod.mk.injEq] at hr;obtain ⟨rfl,rfl,rfl⟩:=hr;exact xcz (l:=l) (yta (lf:=lf0) hm hn.1 hn.2 (zhw hT hK (fun _ ho=>ho) (fun e=>by cases e) hb hq))
    cases hr
   split at hr
   .rename_i hd;split at hr
    .rename_i t1 h1 hb;simp only [Option.some.injEq,Prod.mk.injEq] at hr;obtain ⟨rfl,rfl,rfl⟩:=hr;exact xcz (l:=l) (ybx (lf:=lf0) hm hd (zko hT hK _ _ _ _ _ _ hb hq))
    cases hr
   cases hr
  cases hr
end
end
section
open Go.RowKit
section
variable {P:Program} {T:Nat->Option Ty} {K:Calls0}
def xfi:Exit->Bool
 | .normal=>true
 | .ret=>true
 | _=>false
def xle (P:Program) (T:Nat->Option Ty) (K:Calls0) (F:Nat) (f:FuncId) (args:List AV) (hs:HL):Option (AV × HL):=
 match P.funcs[f]? with
 | none=>none
 | some fn => match fn.name == "runtime.NumGoroutine" with
  | true=>none
  | false=>match fn.body with
   | none=>none
   | some c=>match Nat.ble args.length fn.ntmps && Nat.ble fn.ntmps 1000 with
    | false=>none
    | true=>match exC T K fn.ntmps fn.results.toList F c (yfn 0 args) hs with
     | none=>none
     | some (e,t1,h1)=>match xfi e with
      | false=>none
      | true=>match yrh T (S t1 h1) fn.results.toList with
       | none=>none
       | some x=>some (x,h1)
theorem xdo {F:Nat} {hs h1:HL} {x:AV} (hr:xle P T K F f args hs=some (x,h1)):
  ∃ fn c e t1, P.funcs[f]? = some fn ∧ (fn.name == "runtime.NumGoroutine") = false ∧ fn.body = some c ∧ (Nat.ble args.length fn.ntmps = true ∧ Nat.ble fn.ntmps 1000 = true) ∧ exC T K fn.ntmps fn.results.toList F c (yfn 0 args) hs = some (e, t1, h1) ∧ xfi e = true ∧ yrh T (S t1 h1) fn.results.toList = some x := by
 unfold xle at hr;split at hr
 .cases hr
 rename_i fn hf;split at hr
 .cases hr
 rename_i hn;split at hr
 .cases hr
 rename_i c hb;split at hr
 .cases hr
 rename_i hl;split at hr
 .cases hr
 rename_i e t1 h2 hc;split at hr
 .cases hr
 rename_i he;split at hr
 .cases hr
 rename_i x' hx;simp only [Option.some.injEq,Prod.mk.injEq] at hr;obtain ⟨rfl,rfl⟩:=hr;simp only [qac] at hl;exact ⟨fn,c,e,t1,hf,hn,hb,hl,hc,he,hx⟩
def zsz (P:Program) (T:Nat->Option Ty) (K:Calls0) (F:Nat) (f:FuncId) (args:List AV):Option AV:=
 match xle P T K F f args [] with
 | some (x,_)=>match yar x with
  | true=>some x
  | false=>none
 | none=>none
theorem pureRun_ok (hm:P.follows .mixedOrders=true) (hT:TOK P T) (hK:CallsOk P K) {F:Nat} {r:AV} (hr:zsz P T K F f args=some r):Con P f args r:=by
 unfold zsz at hr;split at hr
 .rename_i x h1 hx;split at hr
  .rename_i hp;simp only [Option.some.injEq] at hr;subst hr;obtain ⟨fn,c,e,t1,hf,hn,hb,hl,hc,he,hres⟩:=xdo hx;have hl2:Nat.ble fn.ntmps 1000000=true:=by have:=hl.2;simp only [qdj] at this ⊢;omega
   refine ydv hT hf hn hb rfl (rs:=fn.results.toList) sm (by rw [hl.1,hl2];rfl) hp ?_;refine (zvi hm hT hK _ _ _ _ _ _ _ hc).1 _ ?_;cases e with
   | normal=>exact ⟨_,hres,Frz.pure⟩
   | ret=>exact ⟨_,hres,Frz.pure⟩
   | _=>simp [xfi] at he
  cases hr
 cases hr
def zsn (P:Program) (T:Nat->Option Ty) (K:Calls0) (F:Nat) (f:FuncId) (args:List AV) (hs:HL):Option (AV × HL):=
 match xle P T K F f args hs with
 | some (x,h1)=>
  let live:=xdc h1 1000 (zou x++xid hs) []
  some (x,yln (fun i o=>ynr i live && (!isC o || (Nat.ble 1000 i && (match yac hs i with
   | some o'=>isC o'
   | none=>false)))) [] h1)
 | none=>none
theorem yvv:∀ {l:HL} {i:Nat} {o:LObj},yac l i=some o->(i,some o)∈l
 | [],i,o,h=>by simp [yac] at h
 | (k,x)::l,i,o,h=>by
  simp only [yac] at h;cases hb:Nat.beq i k with
  | true=>rw [hb] at h;simp only at h;rw [qaf hb,h];exact qbk
  | false=>rw [hb] at h;exact qap _ (yvv h)
theorem lentRun_ok (hm:P.follows .mixedOrders=true) (hT:TOK P T) (hK:CallsOk P K) {F:Nat} {hs hs':HL} {r:AV} (hr:zsn P T K F f args hs=some (r,hs')):yot P f args (yac hs) r (yac hs'):=by
 unfold zsn at hr;split at hr
 .rename_i x h1 hx;simp only [Option.some.injEq,Prod.mk.injEq] at hr;obtain ⟨rfl,rfl⟩:=hr;obtain ⟨fn,c,e,t1,hf,hn,hb,hl,hc,he,hres⟩:=xdo hx;have hl2:Nat.ble fn.ntmps 1000000=true:=by have:=hl.2;simp only [qdj] at this ⊢;omega
  refine ynh hT hf hn hb rfl (rs:=fn.results.toList) sm (by rw [hl.1,hl2];rfl) (fun id o ho hc'=>?_) ?_
  .obtain ⟨o',e',hp⟩:=yrx (yvv ho);cases e';rw [hc'] at hp;simp only [qac,qcm,Bool.not_true,qbl,false_or] at hp;obtain ⟨_,h2,h3⟩:=hp;have h4:=hl.2;simp only [qdj] at h2 h4;refine ⟨om,?_⟩;split at h3
   .rename_i o' ho';exact ⟨o',ho',h3⟩
   cases h3
  show A P fn.ntmps c _ (S (yfn 0 args) hs);refine (zvi hm hT hK _ _ _ _ _ _ _ hc).1 _ ?_;cases e with
  | normal=>exact ⟨_,hres,yfa _,fun id o ho=>(yql (yvv ho)).2⟩
  | ret=>exact ⟨_,hres,yfa _,fun id o ho=>(yql (yvv ho)).2⟩
  | _=>simp [xfi] at he
 cases hr
def yqj (P:Program) (T:Nat->Option Ty) (F:Nat) (kn:FuncId->List AV->Option AV) (kl:Calls0->FuncId->List AV->HL->Option (AV × HL)) (fz:FuncId->Bool):Nat->Calls0
 | 0=>⟨fun _ _=>none,fun _ _ _=>none,fz⟩
 | n+1=>⟨fun f xs=>match kn f xs with
   | some r=>some r
   | none=>zsz P T (yqj P T F kn kl fz n) F f xs,fun f xs hs=>match kl (yqj P T F kn kl fz n) f xs hs with
   | some r=>some r
   | none=>zsn P T (yqj P T F kn kl fz n) F f xs hs,fz⟩
theorem zhl (hm:P.follows .mixedOrders=true) (hT:TOK P T) {F:Nat} {kn:FuncId->List AV->Option AV} {kl:Calls0->FuncId->List AV->HL->Option (AV × HL)} {fz:FuncId->Bool} (hkn:∀ f xs r,kn f xs=some r->Con P f xs r) (hkl:∀ K,CallsOk P K->∀ f xs hs r hs',kl K f xs hs=some (r,hs')->yot P f xs (yac hs) r (yac hs')):∀ n,CallsOk P (yqj P T F kn kl fz n)
 | 0=>⟨fun f xs r h=>by simp [yqj] at h,fun f xs hs r hs' h=>by simp [yqj] at h⟩
 | n+1=>by
  have ih:=zhl hm hT hkn hkl (F:=F) (fz:=fz) n;refine ⟨fun f xs r h=>?_,fun f xs hs r hs' h=>?_⟩ <;> simp only [yqj] at h <;> split at h
  .rename_i r' hk;simp only [Option.some.injEq] at h;subst h;exact hkn _ _ _ hk
  .exact pureRun_ok hm hT ih h
  .rename_i q hk;simp only [Option.some.injEq] at h;subst h;exact hkl _ ih _ _ _ _ _ hk
  exact lentRun_ok hm hT ih h
theorem con_run (hm:P.follows .mixedOrders=true) (hT:TOK P T) {F:Nat} {kn:FuncId->List AV->Option AV} {kl:Calls0->FuncId->List AV->HL->Option (AV × HL)} {fz:FuncId->Bool} (hkn:∀ f xs r,kn f xs=some r->Con P f xs r) (hkl:∀ K,CallsOk P K->∀ f xs hs r hs',kl K f xs hs=some (r,hs')->yot P f xs (yac hs) r (yac hs')) (n:Nat) {r:AV} (h:(yqj P T F kn kl fz n).pure f args=some r):Con P f args r:=(zhl hm hT hkn hkl n).pure _ _ _ h
end
end
end Go.Proofs.YtgpodcjhgdionaaGreatDoor
