/- Part 9 of the texts under TopColoursConverge: joined, with what it needs alone. -/
import Derived.Test.YtfhejdcijbgikaaGreatDoorCC2
import Derived.Test.YtfhejdcijbgikaaGreatDoorCC5
import Derived.Test.YtfhejdcijbgikaaGreatDoorCC6
import Derived.Test.YtfhejdcijbgikaaGreatDoorCC7
import Derived.Test.YtfhejdcijbgikaaGreatDoorCC8
set_option linter.unusedVariables false
namespace Go.Proofs.YtfhejdcijbgikaaGreatDoor
section
open Go.RowKit
def ybi (B:BitVec 32):AV:=.v (.int .u32 (B.toNat:Int))
theorem ygz (B:BitVec 32):BitVec.ofInt 32 (B.toNat:Int)=B:=by
 apply BitVec.eq_of_toNat_eq
 simp
theorem yxo (B:BitVec 32):IntKind.u32.wrap (B.toNat:Int)=(B.toNat:Int):=by
 have:=B.isLt
 simp only [IntKind.wrap,IntKind.signed,IntKind.bits,Bool.false_and,if_false,Bool.false_eq_true]
 omega
variable {P:Program} {T:Nat→Option Ty} {N:Nat} {ops:Array Oper} {lf:Oper→Bool} {Q:SS→Prop} {t:List (Nat × AV)} {h:List (Nat × Option LObj)} {rest:List Oper} {d:Nat} {op:Op} {ty:TypeId} {pos:String} {af:Array Edge} {gd:Option (Nat × Bool)} {r:AV}
theorem orU_val (B C:BitVec 32):Op.intBits .or .u32 (B.toNat:Int) (C.toNat:Int)=pure (.int .u32 ((B ||| C).toNat:Int)):=by
 have e1:BitVec.ofInt IntKind.u32.bits (B.toNat:Int)=B:=ygz B
 have e2:BitVec.ofInt IntKind.u32.bits (C.toNat:Int)=C:=ygz C
 unfold Op.intBits
 simp only [e1,e2]
 exact congrArg (fun z=>pure (Value.int .u32 z)) (yxo (B ||| C))
theorem andNotU_val (B C:BitVec 32):Op.intBits .andNot .u32 (B.toNat:Int) (C.toNat:Int)=pure (.int .u32 ((B &&& ~~~C).toNat:Int)):=by
 have e1:BitVec.ofInt IntKind.u32.bits (B.toNat:Int)=B:=ygz B
 have e2:BitVec.ofInt IntKind.u32.bits (C.toNat:Int)=C:=ygz C
 unfold Op.intBits
 simp only [e1,e2]
 exact congrArg (fun z=>pure (Value.int .u32 z)) (yxo (B &&& ~~~C))
theorem yield_orU {ρ:Operand→Option AV} {hp:Nat→Option LObj} {x y:Operand} {B C:BitVec 32} {tx ty':TypeId} (hx:ρ x=some (ybi B)) (hy:ρ y=some (ybi C)):ybu P hp ρ (.binOp .or tx x y ty') ty (ybi (B ||| C)):=
 ycj (fun _ _=>by simp) (by simp [yfz,Op.operands,hx,hy,toV,ybi]) fun w=>by
  have e:=orU_val B C
  simp [execOp,ydq hx,ydq hy,eqGuard,binOp,e]
theorem yield_andNotU {ρ:Operand→Option AV} {hp:Nat→Option LObj} {x y:Operand} {B C:BitVec 32} {tx ty':TypeId} (hx:ρ x=some (ybi B)) (hy:ρ y=some (ybi C)):ybu P hp ρ (.binOp .andNot tx x y ty') ty (ybi (B &&& ~~~C)):=
 ycj (fun _ _=>by simp) (by simp [yfz,Op.operands,hx,hy,toV,ybi]) fun w=>by
  have e:=andNotU_val B C
  simp [execOp,ydq hx,ydq hy,eqGuard,binOp,e]
theorem shl_val (n:Nat):IntKind.u32.wrap (1 * 2 ^ (min n 32))=((1#32 <<< n).toNat:Int):=by
 rw [BitVec.toNat_shiftLeft]
 simp only [IntKind.wrap,IntKind.signed,IntKind.bits,Bool.false_and,if_false,Bool.false_eq_true,Int.one_mul,Nat.shiftLeft_eq,BitVec.toNat_ofNat]
 rw [show (1 % 2 ^ 32:Nat)=1 by decide,Nat.one_mul]
 rcases Nat.lt_or_ge n 32 with h|h
 ·rw [Nat.min_eq_left (by omega)]
  norm_cast
 ·rw [Nat.min_eq_right h]
  have e:(2 ^ n) % 2 ^ 32=0:=Nat.mod_eq_zero_of_dvd (Nat.pow_dvd_pow 2 h)
  rw [e];decide
theorem yield_shlU {ρ:Operand→Option AV} {hp:Nat→Option LObj} {x y:Operand} {i:Int} {k':IntKind} {tx ty':TypeId} (hx:ρ x=some (.v (.int .u32 1))) (hy:ρ y=some (.v (.int k' i))) (hb:0≤i):ybu P hp ρ (.binOp .shl tx x y ty') ty (ybi (1#32 <<< i.toNat)):=by
 have:=yield_shl (P:=P) (hp:=hp) (ty:=ty) (tx:=tx) (ty':=ty') hx hy hb
 rwa [show IntKind.u32.bits=32 from rfl,shl_val] at this
theorem yfq {x y:Operand} {B C:BitVec 32} {tx ty':TypeId} (hx:evF (look t) x=some (ybi B)) (hy:evF (look t) y=some (ybi C))
  (hw:yah ops (look t) ⟨some d,.binOp .or tx x y ty',ty,pos,af,gd⟩=some true) (hd:Nat.blt d N=true) (k:Lex P N ops lf Q rest (S ((d,ybi (B ||| C))::t) h)):Lex P N ops lf Q (⟨some d,.binOp .or tx x y ty',ty,pos,af,gd⟩::rest) (S t h):=
 yby (yield_orU hx hy) hw hd k
theorem yaz {x y:Operand} {B C:BitVec 32} {tx ty':TypeId} (hx:evF (look t) x=some (ybi B)) (hy:evF (look t) y=some (ybi C))
  (hw:yah ops (look t) ⟨some d,.binOp .andNot tx x y ty',ty,pos,af,gd⟩=some true) (hd:Nat.blt d N=true) (k:Lex P N ops lf Q rest (S ((d,ybi (B &&& ~~~C))::t) h)):Lex P N ops lf Q (⟨some d,.binOp .andNot tx x y ty',ty,pos,af,gd⟩::rest) (S t h):=
 yby (yield_andNotU hx hy) hw hd k
theorem ycv {x y:Operand} {i:Int} {k':IntKind} {tx ty':TypeId} (hx:evF (look t) x=some (.v (.int .u32 1))) (hy:evF (look t) y=some (.v (.int k' i))) (hb:0≤i)
  (hw:yah ops (look t) ⟨some d,.binOp .shl tx x y ty',ty,pos,af,gd⟩=some true) (hd:Nat.blt d N=true) (k:Lex P N ops lf Q rest (S ((d,ybi (1#32 <<< i.toNat))::t) h)):Lex P N ops lf Q (⟨some d,.binOp .shl tx x y ty',ty,pos,af,gd⟩::rest) (S t h):=
 yby (yield_shlU hx hy hb) hw hd k
theorem yfr (hT:TOK P T) {z:Int} (hr:ypw T t h op ty=some (.v (.int .u64 (IntKind.u64.wrap z)))) (h0:0≤z∧z≤18446744073709551615)
  (hw:yah ops (look t) ⟨some d,op,ty,pos,af,gd⟩=some true) (hd:Nat.blt d N=true) (k:Lex P N ops lf Q rest (S ((d,.v (.int .u64 z))::t) h)):Lex P N ops lf Q (⟨some d,op,ty,pos,af,gd⟩::rest) (S t h):=by
 have e:IntKind.u64.wrap z=z:=by
  simp only [IntKind.wrap,IntKind.signed,IntKind.bits,Bool.false_and,if_false,Bool.false_eq_true]
  omega
 rw [e] at hr
 exact zfv hT hr hw hd k
def ywj (f:Nat→Bool):Nat→BitVec 32
 | 0=>0#32
 | n+1=>if f n=true then ywj f n ||| (1#32 <<< n) else ywj f n
theorem zfi (f:Nat→Bool):∀ n i:Nat,i < 32→(ywj f n).getLsbD i=(decide (i < n) && f i)
 | 0,i,h=>by simp [ywj]
 | n+1,i,h=>by
  have ih:=zfi f n i h
  unfold ywj
  have hb:(1#32 <<< n).getLsbD i=decide (i=n):=by
   rw [BitVec.getLsbD_shiftLeft]
   by_cases e:i=n
   ·subst e;simp [h]
   ·simp [e,BitVec.getLsbD_one];omega
  split
  ·rename_i hf
   rw [BitVec.getLsbD_or,ih,hb]
   by_cases e:i=n
   ·subst e;simp [hf]
   ·have:(i < n+1)↔i < n:=by omega
    simp [e,this]
  ·rename_i hf
   rw [ih]
   by_cases e:i=n
   ·subst e;simp [hf]
   ·have:(i < n+1)↔i < n:=by omega
    simp [this]
end
section
def xbs (l:List Tm):Ex:=(yha l).getD (.lf (3,0))
def Scn.of (s:Scn) (l:List Tm):Int:=s.val (-1) (xbs l)
def zud (p:ProgD) (s:Scn):Int:=znh (p.rules.map fun r=>s.of r.guard) 0
def zzh (p:ProgD) (tbl:List (List (Int × Int))) (s:Scn) (st:List Int) (x:SetD):List Int:=st.set x.var.toNat (yow p tbl s.v x.var.toNat (s.of x.val))
def zyj (p:ProgD) (tbl:List (List (Int × Int))) (s:Scn) (r:Nat):List Int:=(match p.rules[r]? with|some r=>r.sets|none=>[]).foldl (zzh p tbl s) (s.c.getD s.v [])
def zds (p:ProgD) (g:GraphD) (c:List (List Int)) (v:Nat):Bool:=decide (0≤zud p ⟨g,c,v⟩)
def ykl (p:ProgD) (g:GraphD) (c:List (List Int)):BitVec 32:=ywj (zds p g c) c.length
def zqm (p:ProgD) (g:GraphD) (c:List (List Int)) (v:Nat):List Int:=zyj p (yaj p g) ⟨g,c,v⟩ (zud p ⟨g,c,v⟩).toNat
def zft (p:ProgD) (g:GraphD) (c:List (List Int)) (set:BitVec 32):List (List Int):=c.mapIdx fun v r=>if set.getLsbD v then zqm p g c v else r
theorem zlp {p:ProgD} {g:GraphD} {c:List (List Int)} {set:BitVec 32} {v:Nat} {r:List Int} (h:c[v]?=some r):(zft p g c set)[v]?=some (if set.getLsbD v then zqm p g c v else r):=by
 simp [zft,List.getElem?_mapIdx,h]
theorem yre {p:ProgD} {g:GraphD} {c:List (List Int)} {set:BitVec 32}:(zft p g c set).length=c.length:=by simp [zft]
structure Alike (g:GraphD) (c d:List (List Int)) (v:Nat):Prop where
 own:c[v]?=d[v]?
 near:∀ ls,g.ports[v]?=some ls→∀ l∈ls,c[l.1.toNat]?=d[l.1.toNat]?
theorem ex_of {l:List Tm} {kinds:List Int} {k:Int} (hk0:k≠0) (h:(ofF l kinds false).1=k):∃ E,yha l=some E∧xbs l=E∧E.ok∧E.fl=l∧yij kinds=true∧yed l kinds.length=true∧ty kinds false E≠0:=by
 by_cases h6:6 < kinds.length
 ·rw [zoa _ _ _ h6] at h;exact absurd h.symm hk0
 cases hk:yij kinds
 ·rw [zie _ _ _ hk] at h;exact absurd h.symm hk0
 cases hv:yed l kinds.length
 ·rw [yzk _ _ _ hv] at h;exact absurd h.symm hk0
 obtain ⟨E,hp,ho,hfl,_⟩:=yri hv
 rw [zwt l kinds false E h6 hk hv hp] at h
 by_cases ht:ty kinds false E=0
 ·rw [if_pos ht] at h;exact absurd h.symm hk0
 ·exact ⟨E,hp,by simp [xbs,hp],ho,hfl,rfl,rfl,ht⟩
end
set_option maxRecDepth 100000
set_option maxHeartbeats 8000000
section
open Go.RowKit
theorem table_inv {p:ProgD} {g:GraphD} {v x:Nat} {r:List (Int × Int)} {b:Int × Int} (hr:(yaj p g)[v]?=some r) (hb:r[x]?=some b):∃ ls y,g.ports[v]?=some ls∧p.vars[x]?=some y∧b=yba y g ls.length:=by
 simp only [yaj,List.getElem?_map] at hr
 cases hg:g.ports[v]? with
 | none=>rw [hg] at hr;cases hr
 | some ls=>
  rw [hg] at hr
  cases hr
  simp only [List.getElem?_map] at hb
  cases hy:p.vars[x]? with
  | none=>rw [hy] at hb;cases hb
  | some y=>rw [hy] at hb;cases hb;exact ⟨ls,y,rfl,rfl,rfl⟩
end
section
open Go.RowKit
structure GoodP (p:ProgD):Prop where
 lim:¬ (p.vars.length=0∨6 < p.vars.length∨12 < p.rules.length)
 name:ylz p.name=true
 vnames:yic (p.vars.map (·.name))=true
 rnames:yic (p.rules.map (·.name))=true
 num:p.vars.all yur=true
 form:p.rules.all (ydc · p.vars.length)=true
 type:p.rules.all (yik · (ycm p))=true
theorem yuc {p:ProgD} (h:ydu p=0):GoodP p:=by
 unfold ydu at h
 split at h
 ·omega
 split at h
 ·omega
 split at h
 ·omega
 split at h
 ·omega
 split at h
 ·omega
 rename_i h1 h2 h3 h4 h5
 have h2':yeq p=true:=by simpa using h2
 unfold yeq at h2'
 simp only [Bool.and_eq_true] at h2'
 exact ⟨h1,h2'.1,h2'.2.1,h2'.2.2,by simpa using h3,by simpa using h4,by simpa using h5⟩
theorem GoodP.check {p:ProgD} (h:GoodP p):ydu p=0:=by
 have hn:yeq p=true:=by unfold yeq;rw [h.name,h.vnames,h.rnames];rfl
 exact zmn h.lim hn h.num h.form h.type
end
section
open Go.RowKit
theorem guard_ty {p:ProgD} (h:ydu p=0) {r:RuleD} (hr:r∈p.rules):(ofF r.guard (ycm p) false).1=2:=by
 have:=List.all_eq_true.1 (yuc h).type r hr
 simp only [yik,Bool.and_eq_true,beq_iff_eq] at this
 exact this.1
theorem set_ty {p:ProgD} (h:ydu p=0) {r:RuleD} (hr:r∈p.rules) {x:SetD} (hx:x∈r.sets):0≤x.var∧x.var < p.vars.length∧(ofF x.val (ycm p) false).1≠0:=by
 have h1:=List.all_eq_true.1 (yuc h).type r hr
 have h2:=List.all_eq_true.1 (yuc h).form r hr
 simp only [yik,Bool.and_eq_true,beq_iff_eq,List.all_eq_true] at h1
 simp only [ydc,Bool.and_eq_true,decide_eq_true_eq,List.all_eq_true,yft] at h2
 have h3:=(h2.2.2.2.1 x hx).1
 refine ⟨by omega,by omega,?_⟩
 rw [h1.2 x hx]
 obtain ⟨y,hy⟩:=ycd (show x.var.toNat < p.vars.length by omega)
 have hk:=(yju ((yfe h).2.2.2 y (List.mem_of_getElem? hy))).1
 simp only [ycm,List.getD_eq_getElem?_getD,List.getElem?_map,hy,Option.map_some,Option.getD_some]
 omega
theorem state_mk {r:List (Int × Int)} {s:List Int} (hl:s.length=r.length) (h:∀ (x:Nat) (b:Int × Int),r[x]?=some b→∃ z,s[x]?=some z∧b.1≤z∧z≤b.2):yds r s=true:=by
 simp only [yds,Bool.and_eq_true,beq_iff_eq,List.all_eq_true]
 refine ⟨hl,fun q hq=>?_⟩
 obtain ⟨k,hk⟩:=List.getElem?_of_mem hq
 rw [List.getElem?_zip_eq_some] at hk
 obtain ⟨z,hz,h1,h2⟩:=h k _ hk.1
 rw [hk.2] at hz
 cases hz
 simp [zvc,h1,h2]
theorem state_set {p:ProgD} {g:GraphD} (hf:Fair p g) (h0:ygf p g=0) {v:Nat} {r:List (Int × Int)} (hr:(yaj p g)[v]?=some r) {s:List Int} (hs:yds r s=true) (x:Nat) (z:Int):yds r (s.set x (yow p (yaj p g) v x z))=true:=by
 obtain ⟨hl,hb⟩:=yol hs
 refine state_mk (by simp [hl]) fun y b hy=>?_
 by_cases e:x=y
 ·subst e
  obtain ⟨ls,w,h1,h2,rfl⟩:=table_inv hr hy
  obtain ⟨hc0,hg,hfit⟩:=ygx.1 h0
  have hnum:=(yfe hc0).2.2.2 w (List.mem_of_getElem? h2)
  have hll:=hf.glen.2.2 ls (List.mem_of_getElem? h1)
  have hok:=fit_ok (deg:=ls.length) (hfit w (List.mem_of_getElem? h2)) hnum (by omega)
  refine ⟨_,List.getElem?_set_self (by rw [hl];exact (List.getElem?_eq_some_iff.1 hy).1),?_⟩
  have e1:yow p (yaj p g) v x z=ylq w.kind (yba w g ls.length).1 (yba w g ls.length).2 z:=by
   simp [yow,List.getD_eq_getElem?_getD,hr,hy,h2]
  rw [e1]
  exact bring_in hok.1 fun h3=>by rw [yvh h3]
 ·obtain ⟨q,hq,h1,h2⟩:=hb y b hy
  exact ⟨q,by rw [List.getElem?_set_ne e];exact hq,h1,h2⟩
theorem zcx {p:ProgD} {g:GraphD} (hf:Fair p g) (h0:ygf p g=0) {s:Scn} {r:List (Int × Int)} (hr:(yaj p g)[s.v]?=some r):∀ (l:List SetD) (st:List Int),yds r st=true→yds r (l.foldl (zzh p (yaj p g) s) st)=true
 | [],st,h=>h
 | x::l,st,h=>zcx hf h0 hr l _ (state_set hf h0 hr h _ _)
theorem stp_check {p:ProgD} {g:GraphD} (hf:Fair p g) {c:List (List Int)} (hc:yrt p g c=0) (set:BitVec 32):yrt p g (zft p g c set)=0:=by
 obtain ⟨h0,hin⟩:=yiw.1 hc
 refine yiw.2 ⟨h0,?_⟩
 obtain ⟨hl,hb⟩:=yxx hin
 simp only [ygi,Bool.and_eq_true,beq_iff_eq,List.all_eq_true]
 refine ⟨by rw [yre,hl],fun q hq=>?_⟩
 obtain ⟨v,hv⟩:=List.getElem?_of_mem hq
 rw [List.getElem?_zip_eq_some] at hv
 obtain ⟨s,hs,hst⟩:=hb v q.1 hv.1
 have e:=hv.2
 rw [zlp hs] at e
 rw [← Option.some.inj e]
 split
 ·exact zcx hf h0 (s:=⟨g,c,v⟩) hv.1 _ _ (by
   show yds q.1 (c.getD v [])=true
   rw [List.getD_eq_getElem?_getD,hs];exact hst)
 ·exact hst
end
section
open Go.RowKit
structure CfgOk (p:ProgD) (g:GraphD) (c:List (List Int)):Prop where
 fair:Fair p g
 chk:yrt p g c=0
section
variable {p:ProgD} {g:GraphD} {c:List (List Int)}
theorem CfgOk.fit (h:CfgOk p g c):ygf p g=0:=(yiw.1 h.chk).1
theorem CfgOk.prog (h:CfgOk p g c):ydu p=0:=(ygx.1 h.fit).1
theorem CfgOk.graph (h:CfgOk p g c):ycy g=true:=(ygx.1 h.fit).2.1
theorem CfgOk.table (h:CfgOk p g c):ygi (yaj p g) c=true:=(yiw.1 h.chk).2
theorem CfgOk.len (h:CfgOk p g c):c.length=g.ports.length:=by
 have:=(yxx h.table).1
 rw [this];simp [yaj]
theorem CfgOk.n24 (h:CfgOk p g c):g.ports.length≤24:=(yca h.graph).2.1
theorem CfgOk.row (h:CfgOk p g c) {v:Nat} {r:List Int} (hr:c[v]?=some r):∃ b,(yaj p g)[v]?=some b∧yds b r=true:=by
 have hv:=(List.getElem?_eq_some_iff.1 hr).1
 obtain ⟨b,hb⟩:=ycd (show v < (yaj p g).length by rw [← (yxx h.table).1];exact hv)
 obtain ⟨s,hs,hst⟩:=(yxx h.table).2 v b hb
 rw [hr] at hs
 cases hs
 exact ⟨b,hb,hst⟩
theorem CfgOk.rowlen (h:CfgOk p g c):∀ r∈c,r.length=p.vars.length:=by
 intro r hr
 obtain ⟨v,hv⟩:=List.getElem?_of_mem hr
 obtain ⟨b,hb,hst⟩:=h.row hv
 rw [(yol hst).1,ytn hb]
theorem CfgOk.vars6 (h:CfgOk p g c):1≤p.vars.length∧p.vars.length≤6:=by have:=yfe h.prog;omega
theorem CfgOk.bd (h:CfgOk p g c):∀ r∈c,∀ a∈r,-1≤a∧a≤1000000:=by
 intro r hr a ha
 obtain ⟨v,hv⟩:=List.getElem?_of_mem hr
 obtain ⟨b,hb,hst⟩:=h.row hv
 obtain ⟨x,hx⟩:=List.getElem?_of_mem ha
 obtain ⟨hl,hbd⟩:=yol hst
 have hxl:=(List.getElem?_eq_some_iff.1 hx).1
 obtain ⟨q,hq⟩:=ycd (show x < b.length by omega)
 obtain ⟨z,hz,h1,h2⟩:=hbd x q hq
 rw [hx] at hz
 cases hz
 have:=((yis h.fair h.fit).2 b (List.mem_of_getElem? hb)).2 q (List.mem_of_getElem? hq)
 obtain ⟨g1,g2,g3⟩:=this
 omega
theorem CfgOk.cin (h:CfgOk p g c):zxs c:=by
 have:=h.n24
 refine ⟨by rw [h.len];omega,fun r hr=>?_⟩
 have:=h.rowlen r hr
 have:=h.vars6
 omega
theorem CfgOk.scn (h:CfgOk p g c) (v:Nat):ScnOk ⟨g,c,v⟩:=by
 have hv:=yca h.graph
 have h24:=h.n24
 refine ⟨hv.2.2.2.1,by show g.ids.length≤24;omega,fun ls hls=>?_,fun r hr a ha=>?_⟩
 ·obtain ⟨u,hu⟩:=List.getElem?_of_mem hls
  have hb:=hv.2.2.2.2.2.1 u ls hu
  have hul:=(List.getElem?_eq_some_iff.1 hu).1
  have hll:ls.length < g.ports.length:=yeg hul hb
  refine ⟨by omega,fun l hl=>?_⟩
  have:=(ybs _ _ _).1 (((ybo _ _ _).1 hb).1 l hl)
  omega
 ·have:=h.bd r hr a ha
  unfold InV ygp;omega
theorem CfgOk.kinds (h:CfgOk p g c):(ycm p).length=p.vars.length:=by simp [ycm]
theorem CfgOk.walk (h:CfgOk p g c) {v:Nat} {ls:List Lk} (hls:g.ports[v]?=some ls) {e:List Tm} (he:yed e p.vars.length=true):WalkOk p g c v ls e p.vars.length:=by
 obtain ⟨E,_,_,_,h2,h3,_⟩:=yri he
 exact ⟨h.graph,hls,h.len,fun r hr=>by have:=h.rowlen r hr;omega,by omega,List.all_eq_true.1 h3,h.scn v⟩
theorem CfgOk.links (h:CfgOk p g c) {v:Nat} (hv:v < c.length):∃ ls,g.ports[v]?=some ls:=ycd (by rw [← h.len];exact hv)
end
theorem zpf {p:ProgD} {g:GraphD} {c:List (List Int)} (h:CfgOk p g c) {v:Nat} (hv:v < c.length) {e:List Tm} (ht:(ofF e (ycm p) false).1≠0):Con Tryz.prog 114 [zcw p g,ykd c,i64 v,ygw e] (i64 ((⟨g,c,v⟩:Scn).of e)):=by
 obtain ⟨E,hp,hE,ho,hfl,hk,hval,hty⟩:=ex_of ht rfl
 obtain ⟨ls,hls⟩:=h.links hv
 have W:=h.walk hls (by rw [← h.kinds];exact hval)
 have hc:=yla W hk E ho 0 [] false (-1) (by rw [hfl];simp) hty (by unfold InV ygp;omega) (by simp)
 refine yao Tryz.func114 rfl rfl Tryz.ntmps114 Tryz.results114 rfl rfl ?_
 (repeat (first|with_reducible refine ybg ?_|with_reducible refine yat ?_|refine ybf ?_));refine yco ?_;refine ycs (lf:=lfT) rfl ?_
 (try refine zo ?_)
 (repeat (first|with_reducible refine ybg ?_|with_reducible refine yat ?_|refine ybf ?_))
 refine yco ?_
 refine zR ?_
 (try refine zo ?_)
 refine zt ?_
 refine yhg 9 rfl rfl rfl rfl rfl ?_
 (repeat (first|refine zy ?_|refine yad rfl rfl hc rfl rfl ?_))
 refine yaf ?_;refine ⟨_,rfl,?_⟩
 exact yai (by unfold Scn.of;rw [hE])
theorem sguard_con {p:ProgD} {g:GraphD} {c:List (List Int)} (h:CfgOk p g c) {v:Nat} (hv:v < c.length) {i:Nat} {r:RuleD} (hr:p.rules[i]?=some r):Con Tryz.prog 200 [zcw p g,ykd c,i64 v,i64 i] (ybq ((⟨g,c,v⟩:Scn).of r.guard != 0)):=by
 have ht:=guard_ty h.prog (List.mem_of_getElem? hr)
 have hc:=zpf h hv (e:=r.guard) (by omega)
 have hlen:=(yfe h.prog).2.2.1
 refine yao Tryz.func200 rfl rfl Tryz.ntmps200 Tryz.results200 rfl rfl ?_
 (repeat (first|refine zy ?_|refine yad rfl rfl hc rfl rfl ?_))
 refine yaf ?_;refine ⟨_,rfl,?_⟩
 exact yan rfl
end
set_option maxHeartbeats 4000000
section
open Go.RowKit
theorem zeh (xs:List AV):isC (yhc xs)=false:=by cases xs <;> rfl
theorem yja {ok:Nat→Prop} {lv:Live} {w:World} {b n:Nat} {xs:List AV}:ygt ok lv w b n (yhc xs)↔yhd ok lv w b n xs:=by
 cases xs with
 | nil=>exact ⟨fun h=>h.1,fun h=>⟨h,fun x hx=>by cases hx⟩⟩
 | cons x xs=>exact Iff.rfl
theorem ymv {B:Bse} {ok:Nat→Prop} {lv:Live} {w:World} {n:Nat} {xs:List AV} (h:yfb B ok lv w n (yhc xs) none):xs=[]:=by
 cases xs with
 | nil=>rfl
 | cons x xs=>rcases h with h|⟨e,h⟩ <;> cases h
theorem ykr {id:Nat}:∀ {xs:List AV},(∀ x∈xs,ment id x=false)→ment.mentL id xs=false
 | [],_=>rfl
 | x::xs,h=>by simp only [ment.mentL,h x (by simp),Bool.false_or];exact ykr fun y hy=>h y (by simp [hy])
variable {P:Program} {T:Nat→Option Ty} {N:Nat} {ops:Array Oper} {lf:Oper→Bool} {Q:SS→Prop} {t:List (Nat × AV)} {h:List (Nat × Option LObj)} {rest:List Oper} {d:Nat} {op:Op} {ty:TypeId} {pos:String} {af:Array Edge} {gd:Option (Nat × Bool)} {r:AV}
theorem buildM_loud (hT:TOK P T) {o:Oper} {ti e es eb sz len:Nat} {ea ag:Bool} {ez z:List Value} {parts:List (Nat × Operand)} {ps:List (Nat × AV)} {ys:List AV} {s:SS} (id:Nat) (ho:o.op=.buildSlice ti len parts.toArray) (hd:o.dst=some d) (hdN:d < N) (hk:T ti=some ⟨.slc e es ea eb ez,sz,ag,z⟩) (hone:ez.all Value.oneCell'=true)
  (hps:evP (evF s.t) parts=some ps) (hf:ywg (fun i=>some (i * es,es)) (yke len (ygr ez)) ps=some ys) (hlen:ys.length=len * es) (hlim:Nat.ble (len * es) 16777216=true) (hfr:ymi s id) (hm:ment.mentL id ys=false) :
  ycc P N o s (·=⟨yes s.t (some d) (.ls id es len),yei s.h id (some (yhc ys))⟩):=by
 intro B ok0 lv a w hs Q
 obtain ⟨h1,h2⟩:=zdv (ok:=yaw B ok0 lv w) (w:=w) (lv:=lv) (a:=a) hps fun x y hx hxy=>hs.eval hxy
 obtain ⟨hu,hsz,_,hz,hzl,hpos⟩:=(hT _ _ hk).2.2
 obtain ⟨zv,hz1,hz2⟩:=hz.run (w:=w)
 obtain ⟨out,g1,g2,g3⟩:=ysb (place':=fun i=>some (i * es,es)) (fun i p h=>h) hf (zff (z:=ez) len (by omega)) (yth (yon hone) len) h1 h2
 have hlim':len * es≤16777216:=by simpa using hlim
 have hle:len≤len * es:=Nat.le_mul_of_pos_right _ hpos
 have hrun:(execOp a.eval o).run P w=.ok (.value (.slice (some ⟨w.heap.size,0,none⟩) len len)) (w.alloc (.cells out.toArray e)):=by
  have e':Instr.fill (fun i=>some (i * es,es)) (madeCells ez.toArray (len * es)) (parts.toArray.map fun x=>(x.1,a.eval x.2)).toList=some out.toArray:=by
   have:(madeCells ez.toArray (len * ez.length)).toList.toArray=madeCells ez.toArray (len * es):=by rw [hzl]
   rw [← this]
   have e:(parts.toArray.map fun x=>(x.1,a.eval x.2)).toList=parts.map fun x=>(x.1,a.eval x.2):=by simp
   rw [e];exact g1
  unfold madeCells at e'
  have n1:¬ (len * es > 2 ^ 24):=by omega
  by_cases h0:len * es=0
  ·have hl0:len=0:=by omega
   subst hl0
   simp only [Nat.zero_mul,Array.range_zero',Array.map_empty] at e'
   simp [execOp,ho,Instr.buildSlice,run_underlying hu,(hsz.run (w:=w)).1,newRow,Array.range_zero']
   simp at e'
   rw [e']
   simp
  ·simp only [execOp,ho,Instr.buildSlice,Sem.run_bind,run_underlying hu,(hsz.run (w:=w)).1,Result.andThen_ok,if_neg n1,if_neg h0,hz1,hz2,Sem.run_pure,e',newRow]
   simp
 unfold Oper.wp
 rw [hrun]
 simp only [Oper.upon,hd]
 have hnew:=hs.newBlock (ob:=yhc ys) (n:=len * es) hfr (w':=w.alloc (.cells out.toArray e)) (ydo w _) (by simp) (by rw [yiz];exact hm) (fun h=>by rw [zeh] at h;cases h)
  (fun ok' lv' k1 k2=>yja.2 (yxw (e:=e) (extra:=[]) (by rw [g2.1,hlen];simp) (by rw [List.append_nil];exact ydl w _) g2 g3 ok' lv' k1 fun i b mm hb hmm=>k2 i b mm hb (by rw [yiz];exact hmm)))
 refine ⟨_,_,rfl,hnew.putOnly hdN (.ls _ rfl fun b n' hb=>?_)⟩
 simp only [yih,if_true,Option.some.injEq,Prod.mk.injEq] at hb
 obtain ⟨rfl,rfl⟩:=hb
 exact ⟨len,rfl,Nat.le_refl _,by unfold maxLen;omega,rfl⟩
theorem L_buildM (hT:TOK P T) {ti e es eb sz len:Nat} {ea ag:Bool} {ez z:List Value} {parts:List (Nat × Operand)} {ps:List (Nat × AV)} {ys:List AV} (id:Nat) (hk:T ti=some ⟨.slc e es ea eb ez,sz,ag,z⟩) (hone:ez.all Value.oneCell'=true)
  (hps:evP (evF (look t)) parts=some ps) (hf:ywg (fun i=>some (i * es,es)) (yke len (ygr ez)) ps=some ys) (hlen:ys.length=len * es) (hlim:Nat.ble (len * es) 16777216=true) (hfr:ymi (S t h) id) (hm:ment.mentL id ys=false)
  (hl:lf ⟨some d,.buildSlice ti len parts.toArray,ty,pos,af,gd⟩=true) (hw:yah ops (look t) ⟨some d,.buildSlice ti len parts.toArray,ty,pos,af,gd⟩=some true) (hd:Nat.blt d N=true) (k:Lex P N ops lf Q rest (S ((d,.ls id es len)::t) ((id,some (yhc ys))::h))) :
  Lex P N ops lf Q (⟨some d,.buildSlice ti len parts.toArray,ty,pos,af,gd⟩::rest) (S t h):=by
 refine ydi hl hw ?_ k
 have:=buildM_loud (N:=N) (s:=S t h) (P:=P) hT (o:=⟨some d,.buildSlice ti len parts.toArray,ty,pos,af,gd⟩) id rfl rfl (by simpa using hd) hk hone hps hf hlen hlim hfr hm
 rwa [show (⟨yes (S t h).t (some d) (.ls id es len),yei (S t h).h id (some (yhc ys))⟩:SS)=S ((d,.ls id es len)::t) ((id,some (yhc ys))::h) from yqt] at this
def zqo (id:Nat) (t:List (Nat × AV)):List (Nat × AV)→Prop
 | []=>True
 | (x,y)::t'=>(look t x=some y∧ment id y=false)∧zqo id t t'
theorem subTM_nil {id:Nat} {t:List (Nat × AV)}:zqo id t []:=trivial
theorem subTM_cons {id:Nat} {t:List (Nat × AV)} {x:Nat} {y:AV} {t':List (Nat × AV)} (h1:look t x=some y) (h2:ment id y=false) (h:zqo id t t'):zqo id t ((x,y)::t'):=⟨⟨h1,h2⟩,h⟩
theorem yux {id:Nat} {t:List (Nat × AV)}:∀ {t':List (Nat × AV)},zqo id t t'→∀ x y,look t' x=some y→look t x=some y∧ment id y=false
 | [],_,x,y,h=>by simp [look] at h
 | (s,z)::t',hs,x,y,h=>by
  simp only [look] at h
  split at h
  ·rename_i e
   have e:x=s:=by simpa using e
   subst e
   simp only [Option.some.injEq] at h
   subst h
   exact hs.1
  ·exact yux hs.2 x y h
theorem L_appendV (hT:TOK P T) {ti e es eb sz:Nat} {ea ag:Bool} {ez z:List Value} {x y:Operand} {id len:Nat} {xs:List AV} {rows:List (List AV)} {t':List (Nat × AV)} {h0:List (Nat × Option LObj)} (hk:T ti=some ⟨.slc e es ea eb ez,sz,ag,z⟩) (hx:evF (look t) x=some (.ls id es len)) (hxl:xs.length=len * es) (hy:evF (look t) y=some (.sl es rows))
  (hcp:∀ c∈rows.flatten,yap c=true) (hlim:len+rows.length≤4294967296∧(len+rows.length) * eb≤140737488355328) (ht:zqo id t t') (h2:ybr id h0=true) (hl:lf ⟨some d,.call { callee:=.builtin .append,args:=#[x,y],argTypes:=#[ti,ti] },ty,pos,af,gd⟩=true)
  (hw:yah ops (look t) ⟨some d,.call { callee:=.builtin .append,args:=#[x,y],argTypes:=#[ti,ti] },ty,pos,af,gd⟩=some true) (hd:Nat.blt d N=true) (k:Lex P N ops lf Q rest (S ((d,.ls id es (len+rows.length))::t') ((id,some (.vec (xs++rows.flatten)))::h0))) :
  Lex P N ops lf Q (⟨some d,.call { callee:=.builtin .append,args:=#[x,y],argTypes:=#[ti,ti] },ty,pos,af,gd⟩::rest) (S t ((id,some (.vec xs))::h0)):=by
 have e:S ((d,.ls id es (len+rows.length))::t') ((id,some (.vec (xs++rows.flatten)))::h0)=(⟨yes (S t' ((id,some (.vec (xs++rows.flatten)))::h0)).t (some d) (.ls id es (len+rows.length)),(S t' ((id,some (.vec (xs++rows.flatten)))::h0)).h⟩:SS):=by
  unfold S;rw [yde]
 refine ydi hl hw ?_ k
 rw [e]
 refine ymj hT rfl rfl (by simpa using hd) hk hx (by simp [S,hlook]) hxl hy (fun ok w lv u hr=>yzz hr) hcp hlim (fun x y h=>.inr (yux ht x y h)) (fun x y h=>⟨y,(yux ht x y h).1⟩) (fun j ob' hj hob=>?_) ?_
 ·simp only [S] at hob ⊢
  rw [yaq hj] at hob ⊢
  exact ⟨(yef h2).2 j ob' hob,ob',hob,.inl rfl⟩
 ·simp [S,hlook]
theorem con_of_own {f:FuncId} {args:List AV} {r r':AV} {hs:Nat→Option LObj} (hc:ypt P f args (fun _=>none) r hs) (hp:yap r'=true) (hf:Frz hs r r'):Con P f args r':=by
 refine ⟨hc.1,hp,fun ok0 w us hG hok hus=>?_⟩
 have hno:∀ b,¬ ybn (fun _=>none) b:=fun b ⟨_,_,h⟩=>by cases h
 have hi:Inv (yea w (fun _=>none)) ok0 (fun _=>none) (fun _=>none) w:=⟨⟨rfl,rfl,rfl,Nat.le_refl _,fun _ _ _=>rfl,hG,hG.size,fun k h=>(hno k h).elim,fun l h=>by cases h⟩,hok,fun _ _=>rfl,(fun i j b n m h=>by cases h),(fun id x h=>by cases h)⟩
 refine (hc.2.2 ok0 (fun _=>none) w us hi ⟨hus.1,fun i x u hx hu=>(hus.2 i x u hx hu).keep fun g hg=>⟨⟨.inl hg,hok g hg,fun id b n h=>by cases h⟩,rfl⟩⟩).mono ?_
 rintro e w' ⟨u,lv',rfl,h1,h2,_⟩
 refine ⟨u,rfl,((hf _ _ _ _ _ h2 h1).keep fun g hg=>⟨⟨?_,hg.2⟩,rfl⟩),?_⟩
 ·rcases hg.1 with h|h|h
  ·exact .inl h
  ·exact (hno g h).elim
  ·exact .inr h
 ·have hb:=h2.base
  exact ⟨hb.os,hb.tape,hb.output,hb.size,fun k hk=>hb.block k hk (hno k)⟩
theorem L_lenI (hT:TOK P T) {ti e es eb sz:Nat} {ea ag:Bool} {ez z0:List Value} {x:Operand} {id z len:Nat} {ob:LObj} (hk:T ti=some ⟨.slc e es ea eb ez,sz,ag,z0⟩) (hx:evF (look t) x=some (.ls id z len)) (hh:hlook h id=some ob)
  (hw:yah ops (look t) ⟨some d,.call { callee:=.builtin .len,args:=#[x],argTypes:=#[ti] },ty,pos,af,gd⟩=some true) (hd:Nat.blt d N=true) (k:Lex P N ops lf Q rest (S ((d,.v (.int .i64 len))::t) h)):Lex P N ops lf Q (⟨some d,.call { callee:=.builtin .len,args:=#[x],argTypes:=#[ti] },ty,pos,af,gd⟩::rest) (S t h):=
 yby (ywc (hT _ _ hk).2.2 hx hh) hw hd k
theorem freshH_cons {id i:Nat} {o:LObj} {h:List (Nat × Option LObj)} (h1:id≠i) (h2:yez id o=false) (h3:ybr id h=true):ybr id ((i,some o)::h)=true:=by simp [ybr,yck h1,h2,h3]
end
section
open Go.RowKit
variable {P:Program} {T:Nat→Option Ty} {N:Nat} {ops:Array Oper} {lf:Oper→Bool} {Q:SS→Prop} {t:List (Nat × AV)} {h:List (Nat × Option LObj)} {rest:List Oper} {d:Nat} {ty:TypeId} {pos:String} {af:Array Edge} {gd:Option (Nat × Bool)}
theorem ycc.weak {o:Oper} {s s':SS} {R:SS→Prop} (h:∀ (B:Bse) (ok0:Nat→Prop) (lv:Live) (a:Act) (w:World),Sim B ok0 N s lv a w→Sim B ok0 N s' lv a w) (k:ycc P N o s' R):ycc P N o s R:=
 fun B ok0 lv a w hs Q=>k B ok0 lv a w (h B ok0 lv a w hs) Q
theorem Sim.oneM {B:Bse} {ok0:Nat→Prop} {s:SS} {lv:Live} {a:Act} {w:World} (hs:Sim B ok0 N s lv a w) {id:Nat} {xs:List AV} (i:Nat) (hx:s.h id=some (yhc xs)):Sim B ok0 N ⟨s.t,fun j=>if j=id then some (yhc (xs.set i .one)) else s.h j⟩ lv a w:=by
 refine ⟨⟨hs.inv.base,hs.inv.ok0lt,fun j hj=>?_,hs.inv.inj,fun j x hj=>?_⟩,hs.size,hs.frame,hs.defers,hs.big,fun j b o hN hj hc hb=>?_⟩
 ·simp only at hj
  split at hj
  ·cases hj
  ·exact hs.inv.dom j hj
 ·simp only at hj
  split at hj
  ·rename_i e
   subst e
   simp only [Option.some.injEq] at hj
   subst hj
   obtain ⟨b,n,h1,h2⟩:=hs.inv.obj j _ hx
   refine ⟨b,n,h1,?_⟩
   cases b with
   | none=>rw [ymv h2];exact .inl rfl
   | some b=>
    obtain ⟨c,e,g1,g2,g3,g4,g5⟩:=yja.1 h2.2.2
    refine ⟨h2.1,h2.2.1,yja.2 ⟨c,e,g1,g2,by rw [List.length_set];exact g3,fun y hy=>?_,fun k y u hy hu=>?_⟩⟩
    ·rcases List.mem_or_eq_of_mem_set hy with hy|rfl
     ·exact g4 y hy
     ·rfl
    ·rw [List.getElem?_set] at hy
     split at hy
     ·rename_i e
      subst e
      split at hy
      ·rename_i hlt
       simp only [Option.some.injEq] at hy
       subst hy
       have hg:=List.getElem?_eq_getElem hlt
       exact .one _ ((g5 i _ u hg hu).oneCell (g4 _ (List.getElem_mem hlt)))
      ·cases hy
     ·exact g5 k y u hy hu
  ·exact hs.inv.obj j x hj
 ·simp only at hj
  split at hj
  ·simp only [Option.some.injEq] at hj
   subst hj
   rw [zeh] at hc
   cases hc
  ·exact hs.pin j b o hN hj hc hb
theorem ysf {f:List (Nat × Option LObj)} {M j:Nat} {o ob:LObj} {rows:List (List AV)} (h:hlook (f++(M,some o)::yne M 0 rows) j=some ob):hlook f j=some ob∨(j=M∧(∀ x∈f,x.1≠j)∧ob=o)∨∃ (k:Nat) (r:List AV),j=fam M k∧rows[k]?=some r∧ob=.vec r:=by
 rcases ycz f ((M,some o)::yne M 0 rows) (j:=j) with e|⟨hne,e⟩
 ·rw [e] at h;exact .inl h
 ·rw [e] at h
  by_cases hj:j=M
  ·subst hj
   rw [ybb] at h
   cases h
   exact .inr (.inl ⟨rfl,hne,rfl⟩)
  ·rw [yaq hj] at h
   by_cases hf:∃ k,j=fam M k
   ·obtain ⟨k,rfl⟩:=hf
    have:=yle M 0 k rows
    rw [Nat.zero_add] at this
    rw [this] at h
    cases hr:rows[k]? with
    | none=>rw [hr] at h;cases h
    | some r=>rw [hr] at h;cases h;exact .inr (.inr ⟨k,r,rfl,hr,rfl⟩)
   ·rw [yjm M 0 rows fun i _ e=>hf ⟨i,e⟩] at h
    cases h
theorem zem:∀ {l:List AV},ymt.lowL l=true→∀ x∈l,ymt x=true
 | y::l,h,x,hx=>by
  simp only [ymt.lowL,Bool.and_eq_true] at h
  rcases List.mem_cons.1 hx with rfl|hx
  ·exact h.1
  ·exact zem h.2 x hx
theorem znu {M sz:Nat} {k:Nat} {rows:List (List AV)} {x:AV} (h:x∈yev M sz k rows):∃ i n,x=.ls (fam M (k+i)) sz n:=by
 obtain ⟨i,hi⟩:=List.getElem?_of_mem h
 rw [yeh] at hi
 cases hr:rows[i]? with
 | none=>rw [hr] at hi;cases hi
 | some r=>rw [hr] at hi;cases hi;exact ⟨i,_,rfl⟩
theorem ment_hole {M sz i:Nat} {rows:List (List AV)} {extra:List AV} (he:ymt.lowL extra=true):∀ x∈(yev M sz 0 rows++extra).set i .one,ment (fam M i) x=false:=by
 intro x hx
 obtain ⟨j,hj⟩:=List.getElem?_of_mem hx
 rw [List.getElem?_set] at hj
 split at hj
 ·split at hj
  ·cases hj;rfl
  ·cases hj
 ·rename_i hne
  rcases List.mem_append.1 (List.mem_of_getElem? hj) with hm|hm
  ·have hlt:j < (yev M sz 0 rows).length∨(yev M sz 0 rows).length≤j:=by omega
   rcases hlt with hlt|hlt
   ·rw [List.getElem?_append_left hlt,yeh] at hj
    cases hr:rows[j]? with
    | none=>rw [hr] at hj;cases hj
    | some r=>
     rw [hr] at hj
     cases hj
     exact yck fun e=>hne (by have:=yqv e;omega)
   ·rw [List.getElem?_append_right hlt] at hj
    exact ymt.ment (ydw M i) (zem he x (List.mem_of_getElem? hj))
  ·exact ymt.ment (ydw M i) (zem he x hm)
theorem ycc.sub {o:Oper} {s s1 s2:SS} (h:ycc P N o s (·=s1)) (hs:Sub s2 s1):ycc P N o s (·=s2):=
 fun B ok0 lv a w h0 Q=>Oper.wp_mono (fun a' w' ⟨s',lv',e,hs'⟩=>by
  subst e
  obtain ⟨lv'',h2⟩:=hs'.weak hs
  exact ⟨s2,lv'',rfl,h2⟩) (h B ok0 lv a w h0 Q)
theorem yko {o:Oper} {s:SS} {ti e es eb sz len M i:Nat} {ea ag:Bool} {ez z:List Value} {x y:Operand} {r:List AV} {rows news:List (List AV)} {extra:List AV} {f:List (Nat × Option LObj)} {t':Nat→Option AV} (hT:TOK P T) (ht:∀ x y,t' x=some y→y=.any∨(s.t x=some y∧ment (fam M i) y=false)) (hlt9:∀ x y,t' x=some y→∃ z,s.t x=some z) (ho:o.op=.call { callee:=.builtin .append,args:=#[x,y],argTypes:=#[ti,ti] }) (hdo:o.dst=some d) (hk:T ti=some ⟨.slc e es ea eb ez,sz,ag,z⟩) (hx:evF s.t x=some (.ls (fam M i) es len)) (hr:rows[i]?=some r) (hxl:r.length=len * es) (hy:evF s.t y=some (.sl es news))
  (hcp:∀ c∈news.flatten,yap c=true) (hlim:len+news.length≤4294967296∧(len+news.length) * eb≤140737488355328) (hsh:s.h=hlook (f++yce M es rows extra)) (hf:zjr f=true) (hM:Nat.blt M 1000000=true) (hkey:(f.all fun x=>!Nat.beq x.1 M)=true) (he:ymt.lowL extra=true) (hd:Nat.blt d N=true) :
  ycc P N o s (·=⟨yes t' (some d) (.ls (fam M i) es (len+news.length)),hlook (f++(M,some (yhc ((yev M es 0 rows++extra).set i .one)))::yne M 0 (rows.set i (r++news.flatten)))⟩):=by
 have hM':M < 1000000:=by simpa using hM
 have hfl:=ypg hf
 have hkn:=yjp hkey
 have hlt:=(List.getElem?_eq_some_iff.1 hr).1
 generalize hys:(yev M es 0 rows++extra).set i .one=ys
 have hout:hlook (f++yce M es rows extra) M=some (yhc (yev M es 0 rows++extra)):=ybt hkey
 refine ycc.weak (fun B ok0 lv a w hs=>hs.oneM i (id:=M) (by rw [hsh];exact hout)) ?_
 refine ymj (s':=⟨t',hlook (f++(M,some (yhc ys))::yne M 0 (rows.set i (r++news.flatten)))⟩) hT ho hdo (by simpa using hd) hk hx ?_ hxl hy (fun ok w lv u hr=>yzz hr) hcp hlim ht hlt9 (fun j ob' hj hob=>?_) ?_
 ·simp only [if_neg (Ne.symm (ydr (k:=i) hM')),hsh]
  exact ylh hfl hM' hr
 ·rcases ysf hob with g|⟨rfl,hne,rfl⟩|⟨k,r',rfl,hr',rfl⟩
  ·obtain ⟨q1,q2⟩:=yjq hf j _ g
   have hjM:j≠M:=fun e9=>by
    subst e9
    have:=ybe f (yce j es rows extra) (j:=j) hkn
    rw [ydy (g:=yce j es rows extra) g] at this
    rw [yep] at this
    cases this
    rcases ycz f [] (j:=j) with e|⟨hne,e⟩
    ·have h9:∀ (f:List (Nat × Option LObj)),(∀ x∈f,x.1≠j)→hlook f j=none:=fun f=>by
      induction f with
      | nil=>intro _;rfl
      | cons p f ih=>
       intro hp
       obtain ⟨p1,p2⟩:=p
       rw [yaq (Ne.symm (hp (p1,p2) (by simp)))]
       exact ih fun x hx=>hp x (by simp [hx])
     rw [h9 f hkn] at g;cases g
    ·rw [List.append_nil] at e
     rw [e] at g;cases g
   refine ⟨zqu.ment (ydw M i) q1,ob',?_,.inl rfl⟩
   simp only [if_neg hjM,hsh]
   exact ydy g
  ·refine ⟨?_,_,by simp only [if_true];rfl,.inl (by rw [hys])⟩
   rw [yiz,← hys]
   exact ykr (ment_hole he)
  ·have hki:k≠i:=fun e=>hj (by rw [e])
   refine ⟨rfl,.vec r',?_,.inl rfl⟩
   simp only [if_neg (Ne.symm (ydr (k:=k) hM')),hsh]
   rw [List.getElem?_set_ne (Ne.symm hki)] at hr'
   exact ylh hfl hM' hr'
 ·show hlook (f++(M,some (yhc ys))::yne M 0 (rows.set i (r++news.flatten))) (fam M i)=_
  rw [ybe f _ (fun x hx e=>by have:=yfy hfl x hx;have:=ydw M i;omega),yaq (Ne.symm (ydr hM'))]
  have:=yle M 0 i (rows.set i (r++news.flatten))
  rw [Nat.zero_add] at this
  rw [this,List.getElem?_set_self hlt]
  rfl
theorem ywz {f:List (Nat × Option LObj)} {M sz i n:Nat} {rows:List (List AV)} {extra r':List AV} (hf:zel f=true) (hM:M < 1000000) (hkey:(f.all fun x=>!Nat.beq x.1 M)=true) (hi:i < rows.length) (hn:r'.length / sz=n) :
  hlook ((M,some (yhc (((yev M sz 0 rows++extra).set i .one).set i (.ls (fam M i) sz n))))::(f++(M,some (yhc ((yev M sz 0 rows++extra).set i .one)))::yne M 0 (rows.set i r')))=hlook (f++yce M sz (rows.set i r') extra):=by
 have hkn:=yjp hkey
 have e:((yev M sz 0 rows++extra).set i .one).set i (.ls (fam M i) sz n)=yev M sz 0 (rows.set i r')++extra:=by
  rw [List.set_set,List.set_append_left _ _ (by rw [ydf];exact hi)]
  congr 1
  apply List.ext_getElem?
  intro j
  rw [List.getElem?_set,ydf,yeh,yeh,List.getElem?_set]
  by_cases hj:i=j
  ·subst hj
   simp [hi,hn]
  ·simp [hj]
 rw [e]
 funext j
 by_cases hj:j=M
 ·subst hj
  rw [ybb,ybt hkey]
 ·rw [yaq hj]
  rcases ycz f ((M,some (yhc ((yev M sz 0 rows++extra).set i .one)))::yne M 0 (rows.set i r')) (j:=j) with g|⟨hne,g⟩
  ·by_cases hf':∃ x∈f,x.1=j
   ·have:∀ (f:List (Nat × Option LObj)) (g1 g2:List (Nat × Option LObj)),(∃ x∈f,x.1=j)→hlook (f++g1) j=hlook (f++g2) j:=by
     intro f
     induction f with
     | nil=>rintro g1 g2 ⟨x,hx,_⟩;cases hx
     | cons p f ih=>
      intro g1 g2 hx
      obtain ⟨p1,p2⟩:=p
      by_cases hp:j=p1
      ·subst hp
       rw [List.cons_append,List.cons_append,ybb,ybb]
      ·rw [List.cons_append,List.cons_append,yaq hp,yaq hp]
       obtain ⟨x,hx,hxj⟩:=hx
       rcases List.mem_cons.1 hx with rfl|hx
       ·exact absurd hxj.symm hp
       ·exact ih g1 g2 ⟨x,hx,hxj⟩
    exact this f _ _ hf'
   ·have hne:∀ x∈f,x.1≠j:=fun x hx e=>hf' ⟨x,hx,e⟩
    rw [ybe f _ hne,ybe f _ hne,yce,yaq hj,yaq hj]
  ·rw [g,ybe f _ hne,yce,yaq hj,yaq hj]
theorem yrl {c:Code} {Q:Exit→SS→Prop} {f:List (Nat × Option LObj)} (M sz n:Nat) (hf:zjr f=true) (ht:zvn t=true) (hM:Nat.blt M 1000000=true) (hkey:(f.all fun x=>!Nat.beq x.1 M)=true)
  (hh:hlook h=hlook (f++[(M,some (yhc (List.replicate n (.v (.slice none 0 0)))))])) (k:A P N c Q (S t (f++yce M sz (List.replicate n []) []))):A P N c Q (S t h):=by
 rw [show S t h=S t (f++[(M,some (yhc (List.replicate n (.v (.slice none 0 0)))))]) by unfold S;rw [hh]]
 intro B ok0 lv a w hs
 have hM':M < 1000000:=by simpa using hM
 have hfl:=ypg hf
 have hkn:=yjp hkey
 let lv':Live:=fun j=>match hlook (yne M 0 (List.replicate n ([]:List AV))) j with|some _=>some (none,0)|none=>lv j
 have hlv:∀ j b m,lv' j=some (b,m)→(b=none∧m=0∧∃ i,j=fam M i)∨lv j=some (b,m):=by
  intro j b m hj
  simp only [lv'] at hj
  split at hj
  ·rename_i ob ho
   cases hj
   refine .inl ⟨rfl,rfl,?_⟩
   by_cases hfm:∃ k,j=fam M k
   ·exact hfm
   ·rw [yjm M 0 _ fun i _ e=>hfm ⟨i,e⟩] at ho;cases ho
  ·exact .inr hj
 have hlow:∀ j,j < 1000000→lv' j=lv j:=by
  intro j hj
  simp only [lv']
  rw [yjm M 0 _ fun i _ e=>by have:=ydw M i;omega]
 have hok:∀ g,yaw B ok0 lv w g→yaw B ok0 lv' w g:=fun g hg=>⟨hg.1,hg.2.1,fun j b m hj=>by
  rcases hlv j _ m hj with ⟨h,_⟩|h
  ·cases h
  ·exact hg.2.2 j b m h⟩
 have hre:∀ (x:AV) (u:Value),ymt x=true→Rel (yaw B ok0 lv w) w lv x u→Rel (yaw B ok0 lv' w) w lv' x u:=fun x u hx hr=>
  (hr.relive fun j b m hj hm=>by
   rcases hlv j b m hj with ⟨_,_,i,rfl⟩|h
   ·rw [ymt.ment (ydw M i) hx] at hm;cases hm
   ·exact h).keep fun g hg=>⟨hok g hg,rfl⟩
 have hfam:∀ i,lv (fam M i)=none:=fun i=>hs.inv.dom _ (by
  show hlook (f++_) _=none
  rw [ybe f _ (fun x hx e=>by have:=yfy hfl x hx;have:=ydw M i;omega),yaq (Ne.symm (ydr hM'))]
  rfl)
 refine k B ok0 lv' a w ⟨⟨hs.inv.base,hs.inv.ok0lt,fun j hj=>?_,fun i j b m q h1 h2=>?_,fun j x hj=>?_⟩,hs.size,fun x y hy=>⟨(hs.frame x y hy).1,hre y _ (ysr ht x y hy) (hs.frame x y hy).2⟩,hs.defers,hs.big,fun j b o hN hj hc hb=>?_⟩
 ·simp only [S] at hj
  by_cases hfm:∃ k,j=fam M k
  ·obtain ⟨i,rfl⟩:=hfm
   rw [zci hfl hM'] at hj
   simp only [lv']
   have e:=yle M 0 i (List.replicate n ([]:List AV))
   rw [Nat.zero_add] at e
   rw [e,hj]
   exact hfam i
  ·have e1:lv' j=lv j:=by
    simp only [lv']
    rw [yjm M 0 _ fun i _ e=>hfm ⟨i,e⟩]
   rw [e1]
   refine hs.inv.dom j ?_
   show hlook (f++[_]) j=none
   rcases ycz f [(M,some (yhc (List.replicate n (.v (.slice none 0 0)))))] (j:=j) with e|⟨hne,e⟩
   ·rw [e]
    cases hq:hlook f j with
    | none=>rfl
    | some o=>rw [ydy (g:=yce M sz (List.replicate n []) []) hq] at hj;cases hj
   ·rw [ybe f _ hne] at hj
    rw [e]
    by_cases hjM:j=M
    ·subst hjM;rw [yep] at hj;cases hj
    ·rw [yaq hjM];rfl
 ·rcases hlv i _ m h1 with ⟨h,_⟩|h1
  ·cases h
  ·rcases hlv j _ q h2 with ⟨h,_⟩|h2
   ·cases h
   ·exact hs.inv.inj i j b m q h1 h2
 ·rcases ysf hj with g|⟨rfl,hne,rfl⟩|⟨i,r,rfl,hr,rfl⟩
  ·obtain ⟨q1,q2⟩:=yjq hf j _ g
   obtain ⟨b,m,h1,h2⟩:=hs.inv.obj j x (ydy g)
   refine ⟨b,m,by rw [hlow j q2];exact h1,?_⟩
   cases b with
   | none=>exact h2
   | some b=>
    refine ⟨h2.1,h2.2.1,(h2.2.2.relive fun q b m hq hm=>?_).keep (fun g hg=>⟨hok g hg,rfl⟩) rfl⟩
    rcases hlv q _ m hq with ⟨_,_,i,rfl⟩|h
    ·rw [zqu.ment (ydw M i) q1] at hm;cases hm
    ·exact h
  ·obtain ⟨b,m,h1,h2⟩:=hs.inv.obj j (yhc (List.replicate n (.v (.slice none 0 0)))) (by
    show hlook (f++[_]) j=_
    rw [ybe f _ hne,ybb])
   refine ⟨b,m,by rw [hlow j hM'];exact h1,?_⟩
   rw [List.append_nil]
   cases b with
   | none=>
    have e:=ymv h2
    cases n with
    | zero=>exact .inl rfl
    | succ n=>simp [List.replicate_succ] at e
   | some b=>
    obtain ⟨c,e,g1,g2,g3,g4,g5⟩:=yja.1 h2.2.2
    refine ⟨h2.1,h2.2.1,yja.2 ⟨c,e,g1,g2,by rw [ydf,List.length_replicate];rw [List.length_replicate] at g3;exact g3,fun y hy=>?_,fun q y u hy hu=>?_⟩⟩
    ·obtain ⟨i,m,rfl⟩:=znu hy;rfl
    ·rw [yeh,List.getElem?_replicate] at hy
     split at hy
     ·rename_i hlt
      simp only [Option.map_some,Option.some.injEq,List.length_nil,Nat.zero_div,Nat.zero_add] at hy
      subst hy
      have h5:=yfg (g5 q _ u (by rw [List.getElem?_replicate,if_pos hlt]) hu)
      subst h5
      refine .ls _ rfl fun b m hb=>?_
      have e:=yle j 0 q (List.replicate n ([]:List AV))
      rw [Nat.zero_add,List.getElem?_replicate,if_pos hlt] at e
      simp only [lv',e,Option.map_some] at hb
      cases hb
      exact ⟨rfl,rfl⟩
     ·cases hy
  ·rw [List.getElem?_replicate] at hr
   split at hr
   ·rename_i hlt
    cases hr
    refine ⟨none,0,?_,.inl rfl⟩
    have e:=yle M 0 i (List.replicate n ([]:List AV))
    rw [Nat.zero_add,List.getElem?_replicate,if_pos hlt] at e
    simp only [lv',e,Option.map_some]
   ·cases hr
 ·rcases ysf hj with g|⟨rfl,hne,rfl⟩|⟨i,r,rfl,hr,rfl⟩
  ·obtain ⟨m,hm⟩:=hs.pin j b o hN (ydy g) hc hb
   exact ⟨m,by rw [hlow j (yjq hf j _ g).2];exact hm⟩
  ·rw [zeh] at hc;cases hc
  ·cases hc
end
section
open Go.RowKit
section
variable {P:Program} {N:Nat} {ops:Array Oper} {lf:Oper→Bool} {Q:SS→Prop}
structure TwoI (vals:List (Nat × Nat × AV)) (base:List (Nat × AV)) (mem:List (Nat × LObj)) (a b ia ib ja jb:Nat) (za zb ca cb:LObj) (L:Nat→Bool) (s:SS):Prop where
 calm:∀ x∈vals,L x.1=true→s.t x.2.1=some x.2.2
 base:∀ x∈base,s.t x.1=some x.2
 mem:∀ x∈mem,s.h x.1=some x.2
 fa:L ia=false→ymi s a
 fb:L ib=false→ymi s b
 ta:L ia=true→s.t a=some (.lp a 0)
 tb:L ib=true→s.t b=some (.lp b 0)
 ha:L ia=true→s.h a=some (if L ja then ca else za)
 hb:L ib=true→s.h b=some (if L jb then cb else zb)
 oa:L ja=true→L ia=true
 ob:L jb=true→L ib=true
variable {vals:List (Nat × Nat × AV)} {base:List (Nat × AV)} {mem:List (Nat × LObj)} {a b ia ib ja jb:Nat} {za zb ca cb:LObj} {L:Nat→Bool} {s:SS}
theorem TwoI.swap (h:TwoI vals base mem a b ia ib ja jb za zb ca cb L s):TwoI vals base mem b a ib ia jb ja zb za cb ca L s:=⟨h.calm,h.base,h.mem,h.fb,h.fa,h.tb,h.ta,h.hb,h.ha,h.ob,h.oa⟩
theorem aOp_calm {K:SS→Prop} {i:Nat} {o:Oper} {r:AV} (ho:ops[i]?=some o) (hd:ytt N o) (hg:o.guard=none) (hy:ybu P s.h (evF s.t) o.op o.type r) (k:K ⟨yes s.t o.dst r,s.h⟩):aOp P N ops lf i K s:=by
 unfold aOp
 simp only [ho]
 refine ⟨hd,.inl ⟨r,.inl ⟨?_,hy⟩,k⟩⟩
 unfold yah
 rw [hg]
theorem aOp_loud {K:SS→Prop} {i:Nat} {o:Oper} {s':SS} (ho:ops[i]?=some o) (hd:ytt N o) (hg:o.guard=none) (hl:lf o=true) (hy:ycc P N o s (·=s')) (k:K s'):aOp P N ops lf i K s:=by
 unfold aOp
 simp only [ho]
 refine ⟨hd,.inr ⟨hl,?_,_,hy,fun s2 e=>e ▸ k⟩⟩
 unfold yah
 rw [hg]
def zgh:Nat→List Oper→Bool
 | _,[]=>true
 | k,o::l=>(o.after.toList.all fun e=>!(Region.binds .any e) || Nat.blt e.on k) && zgh (k+1) l
theorem yxv:∀ {l:List Oper} {j:Nat},zgh j l=true→∀ (k:Nat) (o:Oper),l[k]?=some o→∀ e∈o.after,Region.binds .any e=true→e.on < j+k
 | [],j,_,k,o,ho,_,_,_=>by simp at ho
 | o1::l,j,h,0,o,ho,e,he,hb=>by
  simp only [List.getElem?_cons_zero,Option.some.injEq] at ho
  subst ho
  simp only [zgh,Bool.and_eq_true,List.all_eq_true] at h
  have:=h.1 e (by simpa using he)
  simpa [hb] using this
 | o1::l,j,h,k+1,o,ho,e,he,hb=>by
  simp only [List.getElem?_cons_succ] at ho
  simp only [zgh,Bool.and_eq_true] at h
  have:=yxv h.2 k o ho e he hb
  omega
theorem zns:∀ {t:List (Nat × AV)} {x:Nat} {y:AV},look t x=some y→(x,y)∈t
 | [],x,y,h=>by simp [look] at h
 | (a,b)::t,x,y,h=>by
  simp only [look] at h
  cases hb:Nat.beq x a with
  | true=>
   rw [hb] at h
   simp only [Option.some.injEq] at h
   subst h
   rw [Nat.eq_of_beq_eq_true hb];simp
  | false=>rw [hb] at h;exact List.mem_cons_of_mem _ (zns h)
end
end
section
open Go.RowKit
variable {P:Program} {N:Nat} {ops:Array Oper} {lf:Oper→Bool} {Q:SS→Prop}
def yip (hs:List Nat) (t:Nat→Option AV):Nat→Option AV:=fun x=>match yll x hs with|true=>(t x).map fun _=>.any|false=>t x
def zqc (hs:List Nat):List (Nat × AV)→List (Nat × AV)
 | []=>[]
 | (x,y)::t=>(x,match yll x hs with|true=>.any|false=>y)::zqc hs t
theorem zhr {hs:List Nat}:∀ t:List (Nat × AV),look (zqc hs t)=yip hs (look t)
 | []=>by funext z;simp only [zqc,yip,look];split <;> rfl
 | (x,y)::t=>by
  have ih:=zhr (hs:=hs) t
  funext z
  simp only [zqc,look]
  by_cases hz:z=x
  ·subst hz
   simp only [yip,Nat.beq_refl]
   split <;> rfl
  ·rw [show Nat.beq z x=false from yck hz]
   simp only [ih,yip,show Nat.beq z x=false from yck hz]
def znt (okA:AV→Bool) (hs:List Nat):List (Nat × AV)→Bool
 | []=>true
 | (x,y)::t=>(match yll x hs with|true=>true|false=>okA y) && znt okA hs t
theorem yyx {okA:AV→Bool} {hs:List Nat}:∀ {t:List (Nat × AV)},znt okA hs t=true→∀ x y,look t x=some y→yll x hs=false→okA y=true
 | [],_,x,y,h,_=>by simp [look] at h
 | (a,b)::t,hl,x,y,h,hm=>by
  simp only [znt,Bool.and_eq_true] at hl
  simp only [look] at h
  by_cases hx:x=a
  ·subst hx
   rw [Nat.beq_refl] at h
   cases h
   rw [hm] at hl
   exact hl.1
  ·rw [show Nat.beq x a=false from yck hx] at h
   exact yyx hl.2 x y h hm
def zaz (base:List (Nat × AV)) (A:List (Nat × Nat × AV)) (L:Nat→Bool):Nat→Option AV:=fun x=>match A.find? (fun v=>Nat.beq v.2.1 x && L v.1) with|some v=>some v.2.2|none=>look base x
def zyh (tl:List (Nat × AV)) (op:Op):Bool:=op.operands.toList.all fun x=>match x with
 | .tmp s=>(match look tl s with|some _=>Nat.blt s 1000000|none=>false)
 | _=>true
def zln (T:Nat→Option Ty) (t:List (Nat × AV)) (h:List (Nat × Option LObj)) (op:Op) (ty:TypeId):Option AV:=match op with
 | .nilCheck x=>(match evF (look t) x with
  | some (.lp id off)=>(match yqf (hlook h id) with|some _=>some (.lp id off)|none=>none)
  | some (.dp r o)=>some (.dp r o)
  | _=>none)
 | .indexAddr ti x y=>(match evF (look t) x,evF (look t) y with
  | some (.sl es rows),some (.v (.int _ i))=>(match T ti with
   | some ⟨.slc _ es' _ _ _,_,_,_⟩=>(match Nat.beq es' es && decide (0≤i) with
    | true=>(match rows[i.toNat]? with
     | some row=>some (.dp row 0)
     | none=>none)
    | false=>none)
   | _=>none)
  | _,_=>ypw T t h (.indexAddr ti x y) ty)
 | op=>ypw T t h op ty
theorem stepN_sound {T:Nat→Option Ty} (hT:TOK P T) {t:List (Nat × AV)} {h:List (Nat × Option LObj)} {op:Op} {ty:TypeId} {r:AV} (hr:zln T t h op ty=some r):ybu P (hlook h) (evF (look t)) op ty r:=by
 unfold zln at hr
 split at hr
 ·split at hr
  ·rename_i id off hx
   split at hr
   ·rename_i xs hc
    cases hr
    exact ylk hx hc
   ·cases hr
  ·rename_i hx
   cases hr
   exact ykc hx
  ·cases hr
 ·split at hr
  ·rename_i hx hy
   split at hr
   ·rename_i hk
    split at hr
    ·rename_i hb
     simp only [Bool.and_eq_true,decide_eq_true_eq] at hb
     split at hr
     ·rename_i hrow
      cases hr
      obtain rfl:=Nat.eq_of_beq_eq_true hb.1
      exact ylj (hT _ _ hk).2.2 hx hy hb.2 hrow
     ·cases hr
    ·cases hr
   ·cases hr
  ·exact yjz hT hr
 ·exact yjz hT hr
theorem zal {T:Nat→Option Ty} (hT:TOK P T) {t:Nat→Option AV} {tl:List (Nat × AV)} {h:List (Nat × Option LObj)} {op:Op} {ty:TypeId} {r:AV} (ht:∀ x y,look tl x=some y→t x=some y) (hr:zln T tl h op ty=some r) (hk:zyh tl op=true):ybu P (hlook h) (evF t) op ty r:=by
 refine (stepN_sound hT hr).congr fun x hx=>?_
 have:=List.all_eq_true.1 hk x (by simpa using hx)
 cases x with
 | tmp s=>
  simp only at this
  split at this
  ·rename_i y hy
   simp only [evF]
   split
   ·rw [ht s y hy,hy]
   ·rfl
  ·cases this
 | _=>rfl
def zfw (T:Nat→Option Ty) (ops:Array Oper) (okA:AV→Bool) (req:List (Nat × AV)) (A0:List (Nat × Nat × AV)) (h0 h1:List (Nat × Option LObj)) (hs:List Nat) (base:List (Nat × AV)):List (Nat × Nat × AV)→Prop
 | []=>True
 | a::A=>(∃ (o:Oper) (tl:List (Nat × AV)),ops[a.1]?=some o∧o.dst=some a.2.1∧o.guard=none∧tl=((A0.filter fun b=>yit ops ops.size a.1 b.1).map fun b=>b.2)++req∧zln T tl h0 o.op o.type=some a.2.2∧zln T tl h1 o.op o.type=some a.2.2∧zyh tl o.op=true∧yll a.2.1 hs=false∧okA a.2.2=true∧look base a.2.1=none)∧zfw T ops okA req A0 h0 h1 hs base A
theorem zfw.get {T:Nat→Option Ty} {okA:AV→Bool} {req:List (Nat × AV)} {A0:List (Nat × Nat × AV)} {h0 h1:List (Nat × Option LObj)} {hs:List Nat} {base:List (Nat × AV)}:∀ {A:List (Nat × Nat × AV)},zfw T ops okA req A0 h0 h1 hs base A→∀ a∈A,∃ (o:Oper) (tl:List (Nat × AV)),ops[a.1]?=some o∧o.dst=some a.2.1∧o.guard=none∧tl=((A0.filter fun b=>yit ops ops.size a.1 b.1).map fun b=>b.2)++req∧zln T tl h0 o.op o.type=some a.2.2∧zln T tl h1 o.op o.type=some a.2.2∧zyh tl o.op=true∧yll a.2.1 hs=false∧okA a.2.2=true∧look base a.2.1=none
 | [],_,a,h=>by cases h
 | b::A,hA,a,h=>by
  rcases List.mem_cons.1 h with rfl|h
  ·exact hA.1
  ·exact zfw.get hA.2 a h
def zrj (base:List (Nat × AV)) (hs:List Nat) (d:Nat):List (Nat × AV)→Prop
 | []=>True
 | (x,y)::r=>(look base x=some y∧yll x hs=false∧Nat.beq x d=false)∧zrj base hs d r
theorem zrj.get {base:List (Nat × AV)} {hs:List Nat} {d:Nat}:∀ {r:List (Nat × AV)},zrj base hs d r→∀ x y,(x,y)∈r→look base x=some y∧yll x hs=false∧x≠d
 | [],_,x,y,h=>by cases h
 | (u,v)::r,hr,x,y,h=>by
  rcases List.mem_cons.1 h with e|h
  ·cases e
   exact ⟨hr.1.1,hr.1.2.1,fun e=>by have:=hr.1.2.2;rw [e,Nat.beq_refl] at this;cases this⟩
  ·exact zrj.get hr.2 x y h
theorem beqN {a b:Nat} (h:Nat.beq a b=true):a=b:=Nat.eq_of_beq_eq_true h
section
variable {base:List (Nat × AV)} {A:List (Nat × Nat × AV)} {L:Nat→Bool}
theorem zfn (hb:∀ a∈A,look base a.2.1=none) {x:Nat} {y:AV} (h:look base x=some y):zaz base A L x=some y:=by
 unfold zaz
 split
 ·rename_i v hv
  have h1:=List.mem_of_find?_eq_some hv
  have h2:=List.find?_some hv
  simp only [Bool.and_eq_true] at h2
  have:=hb v h1
  rw [beqN h2.1,h] at this
  cases this
 ·exact h
theorem find_nd (hd:(A.map (·.2.1)).Nodup) {a:Nat × Nat × AV} (ha:a∈A) (hL:L a.1=true):A.find? (fun v=>Nat.beq v.2.1 a.2.1 && L v.1)=some a:=by
 induction A with
 | nil=>cases ha
 | cons b A ih=>
  rw [List.map_cons,List.nodup_cons] at hd
  rw [List.find?_cons]
  rcases List.mem_cons.1 ha with rfl|ha
  ·simp [hL]
  ·have hne:b.2.1≠a.2.1:=fun e=>hd.1 (by rw [e];exact List.mem_map.2 ⟨a,ha,rfl⟩)
   rw [show Nat.beq b.2.1 a.2.1=false from yck hne]
   simp only [Bool.false_and]
   exact ih hd.2 ha
theorem zut (hd:(A.map (·.2.1)).Nodup) {a:Nat × Nat × AV} (ha:a∈A) (hL:L a.1=true):zaz base A L a.2.1=some a.2.2:=by
 unfold zaz
 rw [find_nd hd ha hL]
theorem zus (hd:(A.map (·.2.1)).Nodup) (hi:(A.map (·.1)).Nodup) {a:Nat × Nat × AV} (ha:a∈A):zaz base A (fun k=>if k=a.1 then true else L k)=yes (zaz base A L) (some a.2.1) a.2.2:=by
 funext x
 simp only [yes]
 by_cases hx:x=a.2.1
 ·subst hx
  rw [if_pos rfl]
  exact zut hd ha (by simp)
 ·rw [if_neg hx]
  unfold zaz
  have:∀ l:List (Nat × Nat × AV),(∀ b∈l,b∈A)→l.find? (fun v=>Nat.beq v.2.1 x && (if v.1=a.1 then true else L v.1))=l.find? (fun v=>Nat.beq v.2.1 x && L v.1):=by
   intro l hl
   induction l with
   | nil=>rfl
   | cons b l ih=>
    rw [List.find?_cons,List.find?_cons,ih fun c hc=>hl c (by simp [hc])]
    by_cases hb:b.1=a.1
    ·have hba:b=a:=by
      have h1:=hl b (by simp)
      obtain ⟨i,hi1⟩:=List.getElem?_of_mem h1
      obtain ⟨j,hj1⟩:=List.getElem?_of_mem ha
      have hlt:=(List.getElem?_eq_some_iff.1 hi1).1
      have:=(List.getElem?_inj (i:=i) (j:=j) (by simpa using hlt) hi).1 (by rw [List.getElem?_map,List.getElem?_map,hi1,hj1];simp [hb])
      subst this
      rw [hi1] at hj1
      exact Option.some.inj hj1
     subst hba
     rw [show Nat.beq b.2.1 x=false from yck (Ne.symm hx)]
     rfl
    ·rw [if_neg hb]
  rw [this A fun b hb=>hb]
theorem tbl_all (hL:∀ a∈A,L a.1=true):zaz base A L=look (A.map (fun a=>a.2)++base):=by
 funext x
 unfold zaz
 induction A with
 | nil=>rfl
 | cons a A ih=>
  rw [List.find?_cons,hL a (by simp),Bool.and_true,List.map_cons,List.cons_append]
  have ih:=ih fun b hb=>hL b (by simp [hb])
  obtain ⟨i,q,v⟩:=a
  simp only [look]
  by_cases hx:x=q
  ·subst hx;simp
  ·rw [show Nat.beq q x=false from yck (Ne.symm hx),show Nat.beq x q=false from yck hx]
   exact ih
theorem hide_upd {hs:List Nat} {d:Nat} {t:Nat→Option AV} {v:AV} (hv:yll d hs=false):yip hs (yes t (some d) v)=yes (yip hs t) (some d) v:=by
 funext x
 by_cases hx:x=d
 ·subst hx;simp [yip,yes,hv]
 ·simp [yip,yes,hx]
theorem zhg {hs:List Nat} {t:Nat→Option AV} {x:Nat} {v:AV} (h:t x=some v) (hv:yll x hs=false):yip hs t x=some v:=by simp [yip,h,hv]
theorem yxa {okA:AV→Bool} {hs:List Nat} {t:Nat→Option AV} (h:∀ x y,t x=some y→yll x hs=false→okA y=true) {x:Nat} {y:AV} (hx:yip hs t x=some y):y=.any∨(t x=some y∧okA y=true):=by
 simp only [yip] at hx
 split at hx
 ·cases ht:t x with
  | none=>rw [ht] at hx;cases hx
  | some u=>rw [ht] at hx;cases hx;exact .inl rfl
 ·rename_i hm;exact .inr ⟨hx,h x y hx hm⟩
theorem ysg {hs:List Nat} {t:Nat→Option AV} {x:Nat} {y:AV} (hx:yip hs t x=some y):∃ z,t x=some z:=by
 simp only [yip] at hx
 split at hx
 ·cases ht:t x with
  | none=>rw [ht] at hx;cases hx
  | some u=>exact ⟨u,rfl⟩
 ·exact ⟨y,hx⟩
end
theorem zte:∀ {l:List Nat} {listed:Array Bool} {k:Nat},(yho l listed).getD k false=true→listed.getD k false=true∨k∈l
 | [],listed,k,h=>.inl h
 | x::l,listed,k,h=>by
  rcases zte (l:=l) h with h|h
  ·by_cases hx:x=k
   ·exact .inr (by simp [hx])
   ·refine .inl ?_
    rw [Array.getD_eq_getD_getElem?,Array.getElem?_setIfInBounds,if_neg hx] at h
    rw [Array.getD_eq_getD_getElem?];exact h
  ·exact .inr (by simp [h])
theorem zmg:∀ {l:List Nat} {listed:Array Bool},(yho l listed).size=listed.size
 | [],_=>rfl
 | x::l,listed=>by rw [yho,zmg,Array.size_setIfInBounds]
theorem zkb:∀ {l:List Nat} {listed:Array Bool} {k:Nat},(listed.getD k false=true∨(k∈l∧k < listed.size))→(yho l listed).getD k false=true
 | [],listed,k,h=>by
  rcases h with h|h
  ·exact h
  ·cases h.1
 | x::l,listed,k,h=>by
  refine zkb (l:=l) ?_
  by_cases hx:x=k
  ·subst hx
   left
   rcases h with h|h
   ·rw [Array.getD_eq_getD_getElem?,Array.getElem?_setIfInBounds,if_pos rfl]
    rw [Array.getD_eq_getD_getElem?] at h
    by_cases hs:x < listed.size
    ·rw [if_pos hs];rfl
    ·rw [Array.getElem?_eq_none (by omega)] at h;cases h
   ·rw [Array.getD_eq_getD_getElem?,Array.getElem?_setIfInBounds,if_pos rfl,if_pos h.2];rfl
  ·rcases h with h|h
   ·left
    rw [Array.getD_eq_getD_getElem?,Array.getElem?_setIfInBounds,if_neg hx]
    rw [Array.getD_eq_getD_getElem?] at h
    exact h
   ·right
    rw [Array.size_setIfInBounds]
    exact ⟨by simpa [Ne.symm hx] using h.1,h.2⟩
theorem arr_extD {a b:Array Bool} (hs:a.size=b.size) (h:∀ k,k < a.size→a.getD k false=b.getD k false):a=b:=by
 apply Array.ext hs
 intro i h1 h2
 have:=h i h1
 rw [Array.getD_eq_getD_getElem?,Array.getD_eq_getD_getElem?,Array.getElem?_eq_getElem h1,Array.getElem?_eq_getElem h2] at this
 simpa using this
def zhm (W:List Nat) (L:Nat→Bool):Nat:=(W.filter fun k=>!L k).length
theorem left_zero {W:List Nat} {L:Nat→Bool} (h:zhm W L=0):∀ k∈W,L k=true:=fun k hk=>by
 have:=List.filter_eq_nil_iff.1 (List.eq_nil_of_length_eq_zero h) k hk
 simpa using this
theorem left_pos {W:List Nat} {L:Nat→Bool} {n:Nat} (h:zhm W L=n+1):∃ k∈W,L k=false:=by
 unfold zhm at h
 obtain ⟨k,l,e⟩:=List.exists_cons_of_length_eq_add_one h
 have:k∈W.filter fun k=>!L k:=by rw [e];simp
 obtain ⟨h1,h2⟩:=List.mem_filter.1 this
 exact ⟨k,h1,by simpa using h2⟩
theorem left_set {W:List Nat} {L:Nat→Bool} (hnd:W.Nodup) {i:Nat} (hi:i∈W) (hL:L i=false):zhm W (fun k=>if k=i then true else L k)+1=zhm W L:=by
 unfold zhm
 induction W with
 | nil=>cases hi
 | cons b W ih=>
  rw [List.nodup_cons] at hnd
  rcases List.mem_cons.1 hi with rfl|hi
  ·have:W.filter (fun k=>!(if k=i then true else L k))=W.filter fun k=>!L k:=List.filter_congr fun k hk=>by
    have:k≠i:=fun e=>hnd.1 (e ▸ hk)
    simp [this]
   rw [List.filter_cons_of_neg (by simp),this,List.filter_cons_of_pos (by simp [hL]),List.length_cons]
  ·have hb:b≠i:=fun e=>hnd.1 (e ▸ hi)
   have:=ih hnd.2 hi
   cases hb2:L b with
   | true=>
    rw [List.filter_cons_of_neg (by simp [hb,hb2]),List.filter_cons_of_neg (by simp [hb2])]
    exact this
   | false=>
    rw [List.filter_cons_of_pos (by simp [hb,hb2]),List.filter_cons_of_pos (by simp [hb2]),List.length_cons,List.length_cons,this]
def postOk (ops:Array Oper) (listed:Array Bool) (W:List Nat):Bool:=(List.range ops.size).all fun i=>listed.getD i false || yll i W || W.all fun w=>yit ops ops.size i w
theorem hide_nil {t:Nat→Option AV}:yip [] t=t:=rfl
theorem zhu {T:Nat→Option Ty} (hT:TOK P T) {o:Oper} {ti e es eb sz d:Nat} {ea ag:Bool} {ez z:List Value} {x y:Operand} {m:Nat} {t:Nat→Option AV} {h:List (Nat × Option LObj)} (id:Nat) (hl:∀ x y,t x=some y→yll x []=false→(!ment id y)=true) (ho:o.op=.makeSlice ti x y) (hd:o.dst=some d) (hdN:Nat.blt d N=true) (hk:T ti=some ⟨.slc e es ea eb ez,sz,ag,z⟩) (hone:ez.all Value.oneCell'=true)
  (hx:evF t x=some (.v (.int .i64 m))) (hy:evF t y=some (.v (.int .i64 m))) (hm:m≤4294967296∧eb * m≤281474976710656) (h2:ybr id h=true):ycc P N o ⟨t,hlook h⟩ (·=⟨yes (yip [] t) (some d) (.ls id es m),hlook ((id,some (.vec (yke m (ygr ez))))::h)⟩):=by
 have hf:=yhw (t:=[]) (id:=id) rfl h2
 rw [hide_nil,← ype]
 exact yss hT ho hd (by simpa using hdN) id hk hone hx hy hm ⟨hf.1,fun x y hx=>by simpa using hl x y hx rfl,hf.2.2⟩
theorem you {T:Nat→Option Ty} (hT:TOK P T) (okA:AV→Bool) (A:List (Nat × Nat × AV)) (j d:Nat) (hs:List Nat) (z:AV) {oj:Oper} {base req:List (Nat × AV)} {h0 h1:List (Nat × Option LObj)} (fuel:Nat) {n:Nat} {listed:Array Bool}
  (hn:n=fuel+(A.length+1)) (hsz:listed.size=ops.size) (hbk:zgh 0 ops.toList=true) (hW:ycq (j::A.map (·.1))=true) (hdn:ycq (A.map (·.2.1))=true) (hfree:((j::A.map (·.1)).all fun k=>!listed.getD k false)=true) (hpost:postOk ops listed (j::A.map (·.1))=true)
  (hd:(A.all fun a=>!Nat.beq a.2.1 d)=true) (hreq:zrj base hs d req) (hbl:znt okA hs base=true) (hA:zfw T ops okA req A h0 h1 hs base A) (hoj:ops[j]?=some oj) (hgj:oj.guard=none) (hlj:lf oj=true)
  (hloud:∀ t:Nat→Option AV,(∀ x y,look base x=some y→t x=some y)→(∀ x y,t x=some y→yll x hs=false→okA y=true)→ycc P N oj ⟨t,hlook h0⟩ (·=⟨yes (yip hs t) (some d) z,hlook h1⟩))
  (k:zuy P N ops lf Q fuel (yho (j::A.map (·.1)) listed) (S ((d,z)::zqc hs (A.map (fun a=>a.2)++base)) h1)):zuy P N ops lf Q n listed (S base h0):=by
 intro hDst hcl
 have hback:∀ (k:Nat) (o:Oper),ops[k]?=some o→∀ e∈o.after,Region.binds .any e=true→e.on < k:=fun k o ho e he hb=>by
  have:=yxv hbk k o (by simpa using ho) e he hb;omega
 have hWn:(j::A.map (·.1)).Nodup:=yjt hW
 have hdN:(A.map (·.2.1)).Nodup:=yjt hdn
 have hiN:(A.map (·.1)).Nodup:=(List.nodup_cons.1 hWn).2
 have hjA:∀ a∈A,a.1≠j:=fun a ha e=>(List.nodup_cons.1 hWn).1 (List.mem_map.2 ⟨a,ha,e⟩)
 have hbn:∀ a∈A,look base a.2.1=none:=fun a ha=>by
  obtain ⟨_,_,_,_,_,_,_,_,_,_,_,h⟩:=hA.get a ha;exact h
 have hdA:∀ a∈A,a.2.1≠d:=fun a ha e=>by
  have:=List.all_eq_true.1 hd a ha
  rw [e,Nat.beq_refl] at this;cases this
 generalize hWe:j::A.map (·.1)=W at *
 have hWj:j∈W:=by rw [← hWe];simp
 have hWA:∀ a∈A,a.1∈W:=fun a ha=>by rw [← hWe];simp;exact .inr ⟨_,_,ha⟩
 have hWc:∀ i∈W,i=j∨∃ a∈A,a.1=i:=fun i hi=>by
  rw [← hWe] at hi
  rcases List.mem_cons.1 hi with h|h
  ·exact .inl h
  ·obtain ⟨a,ha,e⟩:=List.mem_map.1 h
   exact .inr ⟨a,ha,e⟩
 have hlen:W.length=A.length+1:=by rw [← hWe];simp
 have hWs:∀ i∈W,i < listed.size:=fun i hi=>by
  rw [hsz]
  rcases hWc i hi with rfl|⟨a,ha,rfl⟩
  ·exact (Array.getElem?_eq_some_iff.1 hoj).1
  ·obtain ⟨o,_,ho,_⟩:=hA.get a ha
   exact (Array.getElem?_eq_some_iff.1 ho).1
 -- the states
 let st:(Nat→Bool)→SS:=fun L=>if L j then ⟨yes (yip hs (zaz base A L)) (some d) z,hlook h1⟩ else ⟨zaz base A L,hlook h0⟩
 have main:∀ (r:Nat) (L:Nat→Bool) (lst:Array Bool),zhm W L=r→lst.size=listed.size→yqa ops lst→(∀ i,i < listed.size→lst.getD i false=(listed.getD i false || (yll i W && L i)))→zrq P N ops lf Q (fuel+r) lst (st L):=by
  intro r
  induction r with
  | zero=>
   intro L lst hr hsz2 hc hlst
   have hall:=left_zero hr
   have e1:lst=yho W listed:=arr_extD (by rw [zmg,hsz2]) fun i hi=>by
    rw [hsz2] at hi
    rw [hlst i hi]
    by_cases hiW:i∈W
    ·rw [ydg.2 hiW,hall i hiW,zkb (.inr ⟨hiW,hi⟩)];simp
    ·rw [show yll i W=false by rw [← Bool.not_eq_true,ydg];exact hiW]
     simp only [Bool.false_and,Bool.or_false]
     cases hb:listed.getD i false with
     | true=>exact (zkb (.inl hb)).symm
     | false=>
      cases hb2:(yho W listed).getD i false with
      | false=>rfl
      | true=>
       rcases zte hb2 with h|h
       ·rw [hb] at h;cases h
       ·exact absurd h hiW
   have e2:st L=S ((d,z)::zqc hs (A.map (fun a=>a.2)++base)) h1:=by
    simp only [st,hall j hWj,if_true]
    rw [tbl_all fun a ha=>hall _ (hWA a ha),← zhr,yde]
    rfl
   rw [e1,e2]
   exact k hDst (e1 ▸ hc)
  | succ r ih=>
   intro L lst hr hsz2 hc hlst
   obtain ⟨w0,hw0,hL0⟩:=left_pos hr
   have hget:∀ i,i < ops.size→lst[i]?=some (lst.getD i false):=fun i hi=>by
    rw [Array.getD_eq_getD_getElem?,Array.getElem?_eq_getElem (show i < lst.size by omega)];rfl
   -- the one that runs is one of these
   have key:∀ i∈Region.ready .any ops lst,i∈W∧L i=false:=by
    intro i hi
    obtain ⟨g1,o,ho,g2⟩:=mem_ready.1 hi
    have hlt:=(Array.getElem?_eq_some_iff.1 ho).1
    have hf:lst.getD i false=false:=by
     rw [Array.getD_eq_getD_getElem?,hget i hlt] at g1
     simpa using g1
    have hf2:=hlst i (by omega)
    rw [hf] at hf2
    have hf2:=Bool.or_eq_false_iff.1 hf2.symm
    have hp:=List.all_eq_true.1 hpost i (List.mem_range.2 hlt)
    rw [hf2.1,Bool.false_or,Bool.or_eq_true] at hp
    rcases hp with hp|hp
    ·rw [hp,Bool.true_and] at hf2
     exact ⟨ydg.1 hp,hf2.2⟩
    ·exfalso
     have h1:=List.all_eq_true.1 hp w0 hw0
     have h2:=yky hc _ _ _ o ho g2 h1
     rw [hlst w0 (hWs w0 hw0),ydg.2 hw0,hL0] at h2
     have h3:=List.all_eq_true.1 hfree w0 hw0
     rw [Bool.and_false,Bool.or_false] at h2
     rw [h2] at h3;cases h3
   refine ⟨fun hnil=>?_,fun i hi=>?_⟩
   ·exfalso
    have hall:∀ i,i < ops.size→lst.getD i false=true:=by
     intro i
     induction i using Nat.strongRecOn with
     | _ i ih2=>
      intro hi
      cases hb:lst.getD i false with
      | true=>rfl
      | false=>
       have ho:ops[i]?=some (ops[i]'hi):=Array.getElem?_eq_getElem hi
       have:i∈Region.ready .any ops lst:=mem_ready.2 ⟨by rw [Array.getD_eq_getD_getElem?,hget i hi,hb];rfl,_,ho,fun e he hbd=>by
        have h9:=hback i _ ho e he hbd
        exact ih2 e.on h9 (by omega)⟩
       rw [hnil] at this
       cases this
    have h2:=hall w0 (by rw [← hsz];exact hWs w0 hw0)
    rw [hlst w0 (hWs w0 hw0),ydg.2 hw0,hL0] at h2
    have h3:=List.all_eq_true.1 hfree w0 hw0
    rw [Bool.and_false,Bool.or_false] at h2
    rw [h2] at h3;cases h3
   ·obtain ⟨hiW,hiL⟩:=key i hi
    have hc':=hc.set hi
    have hnext:=ih (fun k=>if k=i then true else L k) (lst.setIfInBounds i true) (by have:=left_set hWn hiW hiL;omega) (by rw [Array.size_setIfInBounds];exact hsz2) hc' (fun q hq=>by
     rw [Array.getD_eq_getD_getElem?,Array.getElem?_setIfInBounds]
     by_cases hqi:i=q
     ·subst hqi
      rw [if_pos rfl,if_pos (by omega),ydg.2 hiW];simp
     ·rw [if_neg hqi,if_neg (fun e=>hqi e.symm),← hlst q hq,Array.getD_eq_getD_getElem?])
    rcases hWc i hiW with rfl|⟨a,ha,rfl⟩
    ·refine aOp_loud hoj (hDst _ _ hoj) hgj hlj (s':=st fun k=>if k=i then true else L k) ?_ hnext
     have e1:st L=⟨zaz base A L,hlook h0⟩:=by simp only [st,hiL];rfl
     have e2:st (fun k=>if k=i then true else L k)=⟨yes (yip hs (zaz base A L)) (some d) z,hlook h1⟩:=by
      simp only [st,if_true]
      have:zaz base A (fun k=>if k=i then true else L k)=zaz base A L:=by
       funext x
       unfold zaz
       have:∀ l:List (Nat × Nat × AV),(∀ b∈l,b∈A)→l.find? (fun v=>Nat.beq v.2.1 x && (if v.1=i then true else L v.1))=l.find? (fun v=>Nat.beq v.2.1 x && L v.1):=by
        intro l hl
        induction l with
        | nil=>rfl
        | cons b l ih=>rw [List.find?_cons,List.find?_cons,ih fun c hc=>hl c (by simp [hc]),if_neg (hjA b (hl b (by simp)))]
       rw [this A fun b hb=>hb]
      rw [this]
     rw [e1,e2]
     refine hloud _ (fun x y hx=>zfn hbn hx) fun x y hx hm=>?_
     unfold zaz at hx
     split at hx
     ·rename_i v hv
      cases hx
      obtain ⟨_,_,_,_,_,_,_,_,_,_,hlw,_⟩:=hA.get v (List.mem_of_find?_eq_some hv)
      exact hlw
     ·exact yyx hbl x y hx hm
    ·obtain ⟨o,tl,ho,hod,hog,htl,hr0,hr1,hkn,hm,_,_⟩:=hA.get a ha
     obtain ⟨_,o2,ho2,g2⟩:=mem_ready.1 hi
     rw [ho] at ho2
     cases ho2
     -- the operands stand where they should
     have hdep:∀ b∈A,yit ops ops.size a.1 b.1=true→L b.1=true:=fun b hb hw=>by
      have h2:=yky hc _ _ _ o ho g2 hw
      rw [hlst b.1 (hWs _ (hWA b hb)),ydg.2 (hWA b hb),Bool.true_and] at h2
      have h3:=List.all_eq_true.1 hfree b.1 (hWA b hb)
      cases hlb:listed.getD b.1 false with
      | true=>rw [hlb] at h3;cases h3
      | false=>rw [hlb,Bool.false_or] at h2;exact h2
     have hmem:∀ x y,look tl x=some y→(∃ b∈A,L b.1=true∧b.2=(x,y))∨(x,y)∈req:=fun x y hx=>by
      have hx:=zns hx
      rw [htl] at hx
      rcases List.mem_append.1 hx with h|h
      ·obtain ⟨b,hb,e⟩:=List.mem_map.1 h
       obtain ⟨hb1,hb2⟩:=List.mem_filter.1 hb
       exact .inl ⟨b,hb1,hdep b hb1 hb2,e⟩
      ·exact .inr h
     have hadd:st (fun k=>if k=a.1 then true else L k)=⟨yes (st L).t o.dst a.2.2,(st L).h⟩:=by
      rw [hod]
      have hja:(j=a.1)=False:=by simp;exact fun e=>hjA a ha e.symm
      simp only [st,hja,if_false]
      cases hj:L j with
      | false=>simp only [Bool.false_eq_true,if_false];rw [zus hdN hiN ha]
      | true=>
       simp only [if_true]
       rw [zus hdN hiN ha,hide_upd hm,zjk]
       intro q hq e
       cases hq;cases e
       exact hdA a ha rfl
     rw [hadd] at hnext
     refine aOp_calm (r:=a.2.2) ho (hDst _ _ ho) hog ?_ hnext
     cases hj:L j with
     | false=>
      have e1:st L=⟨zaz base A L,hlook h0⟩:=by simp only [st,hj];rfl
      rw [e1]
      refine zal hT (fun x y hx=>?_) hr0 hkn
      rcases hmem x y hx with ⟨b,hb,hbL,e⟩|h
      ·have:=zut (base:=base) hdN hb hbL
       rw [e] at this;exact this
      ·exact zfn hbn (hreq.get x y h).1
     | true=>
      have e1:st L=⟨yes (yip hs (zaz base A L)) (some d) z,hlook h1⟩:=by simp only [st,hj,if_true]
      rw [e1]
      refine zal hT (fun x y hx=>?_) hr1 hkn
      simp only [yes]
      rcases hmem x y hx with ⟨b,hb,hbL,e⟩|h
      ·have h9:=zut (base:=base) hdN hb hbL
       have hne:=hdA b hb
       obtain ⟨_,_,_,_,_,_,_,_,_,hmb,_,_⟩:=hA.get b hb
       rw [e] at h9 hne hmb
       rw [if_neg hne]
       exact zhg h9 hmb
      ·obtain ⟨q1,q2,q3⟩:=hreq.get x y h
       rw [if_neg q3]
       exact zhg (zfn hbn q1) q2
 have h0L:∀ k,(fun _:Nat=>false) k=false:=fun _=>rfl
 have:=main (A.length+1) (fun _=>false) listed (by unfold zhm;rw [List.filter_eq_self.2 (by simp)];exact hlen) rfl hcl (fun i hi=>by simp)
 have e1:st (fun _=>false)=S base h0:=by
  simp only [st,Bool.false_eq_true,if_false]
  have:zaz base A (fun _=>false)=look base:=by
   funext x
   unfold zaz
   rw [List.find?_eq_none.2 (by simp)]
  rw [this];rfl
 rw [e1] at this
 rw [hn];exact this
end
set_option maxHeartbeats 8000000
section
open Go.RowKit
theorem portto_con (g:GraphD) (v:Int) (u:Int) (ls:List Lk) (h0:0≤v) (hv:g.ports[v.toNat]?=some ls) (hlen:ls.length≤5000):Con Tryz.prog 115 [ypu g,i64 v,i64 u] (i64 (yid ls u)):=by
 refine yao Tryz.func115 rfl rfl Tryz.ntmps115 Tryz.results115 rfl rfl ?_
 (try refine zy ?_)
 refine yeu (α:=Nat) (fun k=>[(15,i64 k),(14,i64 ls.length),(13,yin ls),(2,i64 u)]) (fun k=>[]) (fun k=>ls.length - k) (fun k=>k≤ls.length∧∀ (j:Nat) (y:Lk),j < k→ls[j]?=some y→y.1≠u) 0 ⟨by omega,by omega⟩ (by exact zs) (by exact zh) ?_
 intro k ⟨hk,hok⟩
 (try refine zy ?_)
 refine yac rfl (fun h=>?_) (fun h=>?_)
 ·simp at h
  obtain ⟨x,hx⟩:=ycd h
  (try refine zy ?_)
  refine yac rfl (fun h1=>?_) (fun h1=>?_)
  ·simp at h1
   (try refine zy ?_)
   refine yaf ?_;refine ⟨_,rfl,?_⟩
   exact yai (yzp hx h1 hok).symm
  ·simp at h1
   (try refine zy ?_)
   refine rnd (k+1) ⟨by omega,fun j y hj hy=>?_⟩ (by omega) (by exact zs) (by exact zh)
   rcases Nat.lt_or_ge j k with h6|h6
   ·exact hok j y h6 hy
   ·obtain rfl:j=k:=by omega
    rw [hx] at hy;cases hy;exact h1
 ·simp at h
  obtain rfl:k=ls.length:=by omega
  (try refine zy ?_)
  refine yaf ?_;refine ⟨_,rfl,?_⟩
  exact yai (yzo fun j y hy=>hok j y (List.getElem?_eq_some_iff.1 hy).1 hy).symm
end
section
open Go.RowKit
theorem Frz.boxF {h:Nat→Option LObj} {id off:Nat} {xs ys:List AV} (hx:h id=some (.cells xs)) (hl:xs.length=ys.length) (hc:∀ y∈ys,ydt y=true) (hf:∀ (i:Nat) (x y:AV),xs[i]?=some x→ys[i]?=some y→Frz h x y):Frz h (.lp id off) (.dp ys off):=by
 intro B ok0 lv w u hi hr
 obtain ⟨b,n,h1,rfl,h2⟩:=ygd hi (by rw [hx];rfl) (.inr hx) hr
 obtain ⟨_,_,g1,g2,_⟩:=hi.lvat h1
 have:=Rel.dp (ok:=fun g=>(ok0 g∨B.mine g)∧g < w.heap.size) (w:=w) (lv:=fun _=>none) (row:=ys) (off:=off) b 0 (fun j=>(w.cell? ⟨b,0+j,none⟩).getD undef) ⟨.inr g1,g2⟩ (fun j c hj=>?_) (fun j c hj=>?_)
 ·rwa [Nat.zero_add] at this
 ·obtain ⟨x,hx'⟩:∃ x,xs[j]?=some x:=⟨_,List.getElem?_eq_getElem (by have:=(List.getElem?_eq_some_iff.1 hj).1;omega)⟩
  obtain ⟨q1,v,q2,_⟩:=h2 j x hx'
  exact ⟨by rw [q2];rfl,hc c (List.mem_of_getElem? hj)⟩
 ·obtain ⟨x,hx'⟩:∃ x,xs[j]?=some x:=⟨_,List.getElem?_eq_getElem (by have:=(List.getElem?_eq_some_iff.1 hj).1;omega)⟩
  obtain ⟨_,v,q2,q3⟩:=h2 j x hx'
  rw [q2]
  exact hf j x c hx' hj B ok0 lv w v hi q3
def yov (p:ProgD) (g:GraphD) (k:Nat):List AV:=[zqn p.name,.sl 6 (p.vars.map yfv),.sl 3 (p.rules.map yhk),yam g.ids,ybj g.ports,i64 (ybz (g.ids.take k)),.ls 15 1 g.ports.length]
def ykx (p:ProgD) (g:GraphD) (k:Nat):List (Nat × Option LObj):=[(17,some (.cells (yov p g k))),(3,some (.cells [yam g.ids,ybj g.ports]))]
def zlj (g:GraphD) (k:Nat):List (List AV):=ygq ((ynb g).take k)++List.replicate (g.ports.length - k) []
def ynh (g:GraphD) (k:Nat) (l:List Int):List (List AV):=ygq ((ynb g).take k)++(l.map i64)::List.replicate (g.ports.length - k - 1) []
theorem rowsC0 {g:GraphD} {k:Nat} (hk:k < g.ports.length):zlj g k=ynh g k []:=by
 unfold zlj ynh
 rw [show g.ports.length - k=(g.ports.length - k - 1)+1 by omega,List.replicate_succ]
 simp
theorem yoh {g:GraphD} {k:Nat} (hk:k < g.ports.length):(ygq ((ynb g).take k)).length=k:=by
 simp [ygq,ynb];omega
theorem rowsC_at {g:GraphD} {k:Nat} {l:List Int} (hk:k < g.ports.length):(ynh g k l)[k]?=some (l.map i64):=by
 unfold ynh
 rw [List.getElem?_append_right (by rw [yoh hk];omega),yoh hk,Nat.sub_self]
 rfl
theorem zja {g:GraphD} {k:Nat} {l:List Int} (hk:k < g.ports.length):(ynh g k l).length=g.ports.length:=by
 unfold ynh
 rw [List.length_append,yoh hk,List.length_cons,List.length_replicate]
 omega
theorem rowsC_next {g:GraphD} {k:Nat} {l:List Int} {x:Int} (hk:k < g.ports.length):(ynh g k l).set k (l.map i64++[i64 x])=ynh g k (l++[x]):=by
 unfold ynh
 rw [List.set_append_right _ _ (by rw [yoh hk];omega),yoh hk,Nat.sub_self,List.set_cons_zero]
 simp
theorem rowsC_end {g:GraphD} {k:Nat} {ls:List Lk} (hls:g.ports[k]?=some ls):ynh g k (ydb g k ls)=zlj g (k+1):=by
 unfold zlj ynh
 have e:(ynb g)[k]?=some (ydb g k ls):=by simp [ynb,List.getElem?_mapIdx,hls]
 rw [ybc e]
 simp [ygq,Nat.sub_sub]
theorem newscene_con (p:ProgD) (g:GraphD) (hg:ycy g=true):Con Tryz.prog 62 [zau p,ypu g] (zcw p g):=by
 have hv:=yca hg
 refine yao Tryz.func62 rfl rfl Tryz.ntmps62 Tryz.results62 rfl rfl ?_
 (try refine zw ?_)
 refine ycb (lf:=lf0) ysu rfl ?_
 refine yjh [2,3,4] 6 (yaa rfl (yaa rfl (yaa rfl yal))) rfl (by kernel_rfl) ?_
 (try refine zo ?_)
 refine you tok (fun y=>!ment 15 y) [(0,10,.agg [zqn p.name,.sl 6 (p.vars.map yfv),.sl 3 (p.rules.map yhk)]),(1,11,.agg [yam g.ids,ybj g.ports])] 5 15 [] (.ls 15 1 g.ports.length) (req:=[(3,.lp 3 0),(2,.lp 2 0)]) 3 rfl (by kernel_rfl) rfl rfl rfl (by kernel_rfl) (by kernel_rfl) rfl ⟨⟨rfl,rfl,rfl⟩,⟨rfl,rfl,rfl⟩,trivial⟩ rfl
  ⟨⟨_,[(3,.lp 3 0),(2,.lp 2 0)],rfl,rfl,rfl,by kernel_rfl,by kernel_rfl,by kernel_rfl,by kernel_rfl,rfl,rfl,rfl⟩,⟨_,[(3,.lp 3 0),(2,.lp 2 0)],rfl,rfl,rfl,by kernel_rfl,by kernel_rfl,by kernel_rfl,by kernel_rfl,rfl,rfl,rfl⟩,trivial⟩ rfl rfl rfl
  (fun t ht hl=>zhu tok 15 hl rfl rfl rfl rfl rfl (ht 14 _ rfl) (ht 14 _ rfl) (by constructor <;> omega) rfl) ?_
 refine yay [6,7,8] (yaa rfl (yaa rfl (yaa rfl yal))) rfl (by kernel_rfl) ?_
 (try refine zy ?_)
 refine ynl 15 (List.replicate g.ports.length yga) rfl (zlg _ _) ?_
 refine ypz (t':=[(21,i64 (0:Nat)),(20,i64 g.ports.length),(19,ybj g.ports),(5,.lp 17 0),(3,.lp 3 0)]) (h':=[(17,some (.cells (yov p g 0))),(3,some (.cells [yam g.ids,ybj g.ports]))]++[(15,some (yhc (List.replicate g.ports.length yga)))]) ?_ (by exact zs) (yag (yab rfl (yab rfl (yab rfl yae)))) 
 refine yrl (f:=[(17,some (.cells (yov p g 0))),(3,some (.cells [yam g.ids,ybj g.ports]))]) 15 1 g.ports.length rfl rfl rfl rfl rfl ?_
 refine ycn (α:=Nat) (fun k=>[(21,i64 k),(20,i64 g.ports.length),(19,ybj g.ports),(5,.lp 17 0),(3,.lp 3 0)]) (fun k=>ykx p g k++yce 15 1 (zlj g k) []) (fun k=>g.ports.length - k) (fun k=>k≤g.ports.length) 0 (by omega) (by exact zs) (hsE rfl) ?_
 intro k hk
 (try refine zy ?_)
 refine yac rfl (fun h=>?_) (fun h=>?_)
 ·simp at h
  obtain ⟨ls,hls⟩:=ycd h
  obtain ⟨a,ha⟩:=ycd (show k < g.ids.length by omega)
  have hlb:=hv.2.2.2.2.2.1 k ls hls
  have hll:=yeg h hlb
  (try refine zy ?_)
  refine ycn (α:=Nat) (fun j=>[(41,i64 j),(40,i64 ls.length),(39,yin ls),(6,i64 k),(21,i64 k),(20,i64 g.ports.length),(19,ybj g.ports),(5,.lp 17 0),(3,.lp 3 0)]) (fun j=>ykx p g (k+1)++yce 15 1 (ynh g k ((ydb g k ls).take j)) []) (fun j=>ls.length - j) (fun j=>j≤ls.length) 0 (by omega) (by exact zs) (hsE ?_) ?_
  ·unfold ykx yov
   rw [ylf _ _ _ ha,List.take_zero,rowsC0 h]
   exact yfx
  intro j hj
  (try refine zy ?_)
  refine yac rfl (fun h2=>?_) (fun h2=>?_)
  ·simp at h2
   obtain ⟨l,hl⟩:=ycd h2
   have hl1:=(ybs _ _ _).1 (((ybo _ _ _).1 hlb).1 l (List.mem_of_getElem? hl))
   obtain ⟨ls',hls'⟩:=ycd (show l.1.toNat < g.ports.length by omega)
   have hll':=yeg (show l.1.toNat < g.ports.length by omega) (hv.2.2.2.2.2.1 _ ls' hls')
   (try refine zw ?_)
   refine zA ?_ (h2:=yse (f:=ykx p g (k+1)) rfl rfl rfl rfl)
   have hblen:(ydb g k ls).length=ls.length:=by simp [ydb]
   have hbj:(ydb g k ls)[j]?=some (yid ls' k):=by
    simp only [ydb,List.getElem?_map,hl,Option.map_some,Option.some.injEq]
    rw [List.getD_eq_getElem?_getD,hls']
    rfl
   have htj:(((ydb g k ls).take j).map i64).length=j:=by simp [hblen];omega
   have hrow:=rowsC_at (l:=(ydb g k ls).take j) h
   have hcell:(yev 15 1 0 (ynh g k ((ydb g k ls).take j))++[])[k]?=some (.ls (fam 15 k) 1 j):=by
    rw [List.append_nil,yeh,hrow]
    simp only [Option.map_some,htj,Nat.div_one,Nat.zero_add]
   have hk1:((k:Int).toNat * 1)=k:=by simp
   (try refine zw ?_)
   refine ycb (lf:=lf0) ysu rfl ?_
   refine yjh [5,6,7,8,9,10,11,12,13,14,15,16,17] 8 (yaa rfl (yaa rfl (yaa rfl (yaa rfl (yaa rfl (yaa rfl (yaa rfl (yaa rfl (yaa rfl (yaa rfl (yaa rfl (yaa rfl (yaa rfl yal))))))))))))) rfl (by kernel_rfl) ?_
   refine zuz (h':=((9,some (.cells (yee l)))::ykx p g (k+1))++yce 15 1 (ynh g k ((ydb g k ls).take j)) []) yfx ?_
   (repeat (first|refine zo ?_|refine yas tok rfl rfl (ybt (f:=(9,some (.cells (yee l)))::ykx p g (k+1)) rfl) rfl (by omega) (by omega) rfl rfl ?_|refine yda (r:=.ls (fam 15 k) 1 j) tok rfl rfl rfl (by rw [ybt (f:=(9,some (.cells (yee l)))::ykx p g (k+1)) rfl];exact yfd _) (by rw [hk1];exact hcell) rfl rfl ?_|refine yad rfl rfl (portto_con g l.1 k ls' hl1.1 hls' (by omega)) rfl rfl ?_))
   have hat:hlook ((9,some (LObj.cells (yee l)))::ykx p g (k+1)++(15,some (yhc ((yev 15 1 0 (ynh g k ((ydb g k ls).take j))++[]).set k .one)))::yne 15 0 ((ynh g k ((ydb g k ls).take j)).set k (((ydb g k ls).take j).map i64++[[i64 (yid ls' k)]].flatten))) 15=some (yhc ((yev 15 1 0 (ynh g k ((ydb g k ls).take j))++[]).set k .one)):=by rw [ybe _ _ (yjp rfl),ybb]
   refine you tok ymt [(0,45,.lp 17 0),(1,46,.lp 17 0),(2,47,.lp 17 (0+6)),(3,48,.ls 15 1 g.ports.length),(4,49,i64 k)] 18 63 [56] (.ls (fam 15 k) 1 (j+1)) (req:=[(5,.lp 17 0),(6,i64 k)]) 2 rfl (by kernel_rfl) rfl rfl rfl (by kernel_rfl) (by kernel_rfl) rfl ⟨⟨rfl,rfl,rfl⟩,⟨rfl,rfl,rfl⟩,trivial⟩ rfl
    ⟨⟨_,[(5,.lp 17 0),(6,i64 k)],rfl,rfl,rfl,by kernel_rfl,by kernel_rfl,by kernel_rfl,by kernel_rfl,rfl,rfl,rfl⟩,⟨_,[(45,.lp 17 0),(5,.lp 17 0),(6,i64 k)],rfl,rfl,rfl,by kernel_rfl,by kernel_rfl,by kernel_rfl,by kernel_rfl,rfl,rfl,rfl⟩,⟨_,[(45,.lp 17 0),(46,.lp 17 0),(5,.lp 17 0),(6,i64 k)],rfl,rfl,rfl,by kernel_rfl,by kernel_rfl,by kernel_rfl,by kernel_rfl,rfl,rfl,rfl⟩,⟨_,[(45,.lp 17 0),(46,.lp 17 0),(47,.lp 17 (0+6)),(5,.lp 17 0),(6,i64 k)],rfl,rfl,rfl,by kernel_rfl,by kernel_rfl,by kernel_rfl,by kernel_rfl,rfl,rfl,rfl⟩,⟨_,[(5,.lp 17 0),(6,i64 k)],rfl,rfl,rfl,by kernel_rfl,by kernel_rfl,by kernel_rfl,by kernel_rfl,rfl,rfl,rfl⟩,trivial⟩ rfl rfl rfl
    (fun t ht hl=>yko (s:=⟨t,_⟩) (t':=yip [56] t) (i:=k) (news:=[[i64 (yid ls' k)]]) (f:=(9,some (.cells (yee l)))::ykx p g (k+1)) tok (fun x y h=>(yxa hl h).imp (fun e=>e) fun e=>⟨e.1,ymt.ment (ydw _ _) e.2⟩) (fun x y h=>ysg h) rfl rfl rfl (ht 56 _ rfl) hrow (by rw [htj,Nat.mul_one]) (ht 62 _ rfl) (by intro c hc;simp at hc;subst hc;rfl) (by constructor <;> simp <;> omega) rfl rfl rfl rfl rfl rfl) ?_
   refine yay [19,20] (yaa rfl (yaa rfl yal)) rfl (by kernel_rfl) ?_
   refine yas tok rfl rfl hat rfl (by omega) (by omega) rfl rfl ?_
   refine yki tok rfl rfl rfl rfl rfl hat (by rw [List.length_set,List.append_nil,ydf,zja h];omega) rfl rfl ?_
   refine zuz (h':=((9,some (.cells (yee l)))::ykx p g (k+1))++yce 15 1 (ynh g k ((ydb g k ls).take (j+1))) []) ?_ ?_
   ·rw [hk1]
    refine (ywz (f:=(9,some (.cells (yee l)))::ykx p g (k+1)) rfl (by omega) rfl (by rw [zja h];exact h) (by simp [hblen];omega)).trans ?_
    rw [ybc hbj,← rowsC_next h]
    rfl
   (try refine zy ?_)
   exact yir (j+1) (by omega) (by omega) (by exact zs) (hsM (f:=(9,some (.cells (yee l)))::ykx p g (k+1)) (yab rfl (yab rfl yae)) rfl rfl rfl)
  ·simp at h2
   obtain rfl:j=ls.length:=by omega
   (try refine zy ?_)
   refine yir (k+1) (by omega) (by omega) (by exact zs) (hsE ?_)
   rw [show (ydb g k ls).take ls.length=ydb g k ls from List.take_of_length_le (by simp [ydb]),rowsC_end hls]
 ·simp at h
  obtain rfl:k=g.ports.length:=by omega
  (try refine zy ?_)
  refine yaf ?_;refine ⟨_,rfl,?_⟩
  have hal:g.ids.take g.ports.length=g.ids:=List.take_of_length_le (by omega)
  have hbl:(ynb g).length=g.ports.length:=by simp [ynb]
  have hm:Frz (hlook (ykx p g g.ports.length++yce 15 1 (zlj g g.ports.length) [])) (.ls 15 1 g.ports.length) (ykd (ynb g)):=zdz (f:=ykx p g g.ports.length) rfl rfl rfl hbl.symm (by
   unfold zlj
   rw [Nat.sub_self,List.replicate_zero,List.append_nil,List.take_of_length_le (by omega)])
  refine Frz.boxF (xs:=yov p g g.ports.length) (ys:=yxk p g) rfl rfl (fun y hy=>?_) (fun i x y hx hy=>?_)
  ·simp only [yxk,List.mem_cons,List.not_mem_nil,or_false] at hy
   rcases hy with rfl|rfl|rfl|rfl|rfl|rfl|rfl <;> rfl
  ·have hi:i < 7:=(List.getElem?_eq_some_iff.1 hx).1
   have:i=0∨i=1∨i=2∨i=3∨i=4∨i=5∨i=6:=by omega
   rcases this with rfl|rfl|rfl|rfl|rfl|rfl|rfl <;> simp only [yov,yxk,List.getElem?_cons_zero,List.getElem?_cons_succ,Option.some.injEq] at hx hy <;> subst hx hy
   ·exact Frz.pure
   ·exact Frz.pure
   ·exact Frz.pure
   ·exact Frz.pure
   ·exact Frz.pure
   ·rw [hal];exact Frz.pure
   ·exact hm
end
section
open Go.RowKit
def rowMover (p:ProgD) (g:GraphD):List AV:=[zqn p.name,.sl 6 (p.vars.map yfv),.sl 3 (p.rules.map yhk),zcw p g,ydv (yaj p g)]
def yfp (p:ProgD) (g:GraphD):AV:=.dp (rowMover p g) 0
theorem yvw (p:ProgD) (g:GraphD) (hf:Fair p g) (h0:ygf p g=0):Con Tryz.prog 92 [zau p,ypu g] (yfp p g):=by
 have hg:=(ygx.1 h0).2.1
 refine yao Tryz.func92 rfl rfl Tryz.ntmps92 Tryz.results92 rfl rfl ?_
 (repeat (first|refine zy ?_|refine yad rfl rfl (newscene_con p g hg) rfl rfl ?_|refine yad rfl rfl (yom p g hf h0) rfl rfl ?_))
 refine yaf ?_;refine ⟨_,rfl,?_⟩
 exact Frz.box rfl rfl
theorem ysv {p:ProgD} {g:GraphD} {c:List (List Int)} (h:CfgOk p g c) {v:Nat} (hv:v < c.length):Con Tryz.prog 146 [yfp p g,ykd c,i64 v] (i64 (zud p ⟨g,c,v⟩)):=by
 have hlen:=(yfe h.prog).2.2.1
 refine yao Tryz.func146 rfl rfl Tryz.ntmps146 Tryz.results146 rfl rfl ?_
 (try refine zy ?_)
 refine yeu (α:=Nat) (fun k=>[(14,i64 k),(13,i64 p.rules.length),(0,yfp p g),(1,ykd c),(2,i64 v)]) (fun k=>[]) (fun k=>p.rules.length - k) (fun k=>k≤p.rules.length∧∀ j b,j < k→(p.rules.map fun r=>(⟨g,c,v⟩:Scn).of r.guard)[j]?=some b→b=0) 0 ⟨by omega,fun j b hj=>by omega⟩ (by exact zs) yae ?_
 intro k ⟨hk,hall⟩
 (try refine zy ?_)
 refine yac rfl (fun h1=>?_) (fun h1=>?_)
 ·simp at h1
  obtain ⟨r,hr⟩:=ycd h1
  have hat:(p.rules.map fun r=>(⟨g,c,v⟩:Scn).of r.guard)[k]?=some ((⟨g,c,v⟩:Scn).of r.guard):=by rw [List.getElem?_map,hr];rfl
  (repeat (first|refine zy ?_|refine yad rfl rfl (sguard_con h hv hr) rfl rfl ?_))
  refine yac rfl (fun h2=>?_) (fun h2=>?_)
  ·(try refine zy ?_)
   refine yaf ?_;refine ⟨_,rfl,?_⟩
   exact yai (by unfold zud;rw [zso hat (by simpa using h2) hall];simp)
  ·(try refine zy ?_)
   refine rnd (k+1) ⟨by omega,fun j b hj hb=>?_⟩ (by omega) (by exact zs) yae
   by_cases e:j=k
   ·subst e
    rw [hat] at hb
    cases hb
    simpa using h2
   ·exact hall j b (by omega) hb
 ·simp at h1
  obtain rfl:k=p.rules.length:=by omega
  (try refine zy ?_)
  refine yaf ?_;refine ⟨_,rfl,?_⟩
  refine yai ?_
  unfold zud
  rw [zec]
  intro a ha
  obtain ⟨j,hj⟩:=List.getElem?_of_mem ha
  exact hall j a (by have:=(List.getElem?_eq_some_iff.1 hj).1;simpa using this) hj
theorem snodes_con {f:Nat} {caps:List AV} {b:Nat→Bool} (n:Nat) (hn:n≤1000) (hp:yap.pureL caps=true) (hf:∀ v:Nat,v < n→Con Tryz.prog f (i64 v::caps) (ybq (b v))):Con Tryz.prog 210 [i64 n,.fn f caps] (ybi (ywj b n)):=by
 refine yao Tryz.func210 rfl rfl Tryz.ntmps210 Tryz.results210 rfl rfl ?_
 (try refine zy ?_)
 refine yeu (α:=Nat) (fun k=>[(8,i64 k),(7,i64 n),(5,ybi (ywj b k)),(1,.fn f caps)]) (fun k=>[]) (fun k=>n - k) (fun k=>k≤n) 0 (by omega) (by exact zs) yae ?_
 intro k hk
 (try refine zy ?_)
 refine yac rfl (fun h1=>?_) (fun h1=>?_)
 ·simp at h1
  (repeat (first|refine zy ?_|refine yad rfl rfl (hf k h1) rfl rfl ?_))
  have hnext:∀ q,b k=q→ywj b (k+1)=if q=true then ywj b k ||| (1#32 <<< k) else ywj b k:=fun q hq=>by rw [ywj,hq]
  refine yac rfl (fun h2=>?_) (fun h2=>?_)
  ·(repeat (first|refine yfr tok rfl (by constructor <;> omega) rfl rfl ?_|refine ycv rfl rfl (by omega) rfl rfl ?_|refine yfq rfl rfl rfl rfl ?_|refine yaz rfl rfl rfl rfl ?_|refine zI ?_|refine zL ?_|refine zC ?_|refine ycu ?_|refine yco ?_|refine zR ?_|refine zD ?_|refine zK ?_|refine zB ?_|refine zA ?_|refine zS ?_|refine zU ?_|refine zV ?_|refine zF ?_|with_reducible refine yat ?_|with_reducible refine ybg ?_|refine ybh ?_|refine ybf ?_|refine ybp ?_|refine zT ?_|refine zE ?_|refine zX ?_))
   have e:=hnext true h2
   rw [if_pos rfl] at e
   refine rnd (k+1) (by omega) (by omega) ?_ yae
   rw [e]
   exact (by exact zs)
  ·(try refine zy ?_)
   have e:=hnext false h2
   rw [if_neg (by simp)] at e
   refine rnd (k+1) (by omega) (by omega) ?_ yae
   rw [e]
   exact (by exact zs)
 ·simp at h1
  obtain rfl:k=n:=by omega
  (try refine zy ?_)
  refine yaf ?_;refine ⟨_,rfl,?_⟩
  exact Frz.pure
theorem menabled1_con {p:ProgD} {g:GraphD} {c:List (List Int)} (h:CfgOk p g c) {v:Nat} (hv:v < c.length):Con Tryz.prog 211 [i64 v,.dp [yfp p g] 0,.dp [ykd c] 0] (ybq (zds p g c v)):=by
 refine yao Tryz.func211 rfl rfl Tryz.ntmps211 Tryz.results211 rfl rfl ?_
 (repeat (first|refine zy ?_|refine yad rfl rfl (ysv h hv) rfl rfl ?_))
 refine yaf ?_;refine ⟨_,rfl,?_⟩
 exact yan rfl
theorem yvt {p:ProgD} {g:GraphD} {c:List (List Int)} (h:CfgOk p g c):Con Tryz.prog 158 [yfp p g,ykd c] (ybi (ykl p g c)):=by
 have hn:=h.n24
 have hl:=h.len
 have htl:(yaj p g).length=c.length:=(yxx h.table).1.symm
 have hnc:=snodes_con (f:=211) (caps:=[.dp [yfp p g] 0,.dp [ykd c] 0]) (b:=zds p g c) c.length (by omega) rfl fun v hv=>menabled1_con h hv
 refine yao Tryz.func158 rfl rfl Tryz.ntmps158 Tryz.results158 rfl rfl ?_
 (repeat (first|with_reducible refine ybg ?_|with_reducible refine yat ?_|refine ybf ?_));refine yco ?_;refine ycs (lf:=lfT) rfl ?_
 (try refine zo ?_)
 refine zt ?_
 refine yhg 2 rfl rfl rfl rfl rfl ?_
 refine yhg 3 rfl rfl rfl rfl rfl ?_
 (repeat (first|refine zy ?_|refine yln 9 (y:=i64 c.length) rfl (yvo (by rw [htl])) ?_|refine yad rfl rfl hnc rfl rfl ?_))
 refine yaf ?_;refine ⟨_,rfl,?_⟩
 exact Frz.pure
end
section
open Go.RowKit
variable {P:Program} {T:Nat→Option Ty} {N:Nat} {ops:Array Oper} {lf:Oper→Bool} {Q:SS→Prop} {t:List (Nat × AV)} {h:List (Nat × Option LObj)} {rest:List Oper} {d:Nat} {op:Op} {ty:TypeId} {pos:String} {af:Array Edge} {gd:Option (Nat × Bool)} {r:AV}
theorem zmh (B C:BitVec 32):Op.intBits .and .u32 (B.toNat:Int) (C.toNat:Int)=pure (.int .u32 ((B &&& C).toNat:Int)):=by
 have e1:BitVec.ofInt IntKind.u32.bits (B.toNat:Int)=B:=ygz B
 have e2:BitVec.ofInt IntKind.u32.bits (C.toNat:Int)=C:=ygz C
 unfold Op.intBits
 simp only [e1,e2]
 exact congrArg (fun z=>pure (Value.int .u32 z)) (yxo (B &&& C))
theorem zdg {ρ:Operand→Option AV} {hp:Nat→Option LObj} {x y:Operand} {B C:BitVec 32} {tx ty':TypeId} (hx:ρ x=some (ybi B)) (hy:ρ y=some (ybi C)):ybu P hp ρ (.binOp .and tx x y ty') ty (ybi (B &&& C)):=
 ycj (fun _ _=>by simp) (by simp [yfz,Op.operands,hx,hy,toV,ybi]) fun w=>by
  have e:=zmh B C
  simp [execOp,ydq hx,ydq hy,eqGuard,binOp,e]
theorem ycw {x y:Operand} {B C:BitVec 32} {tx ty':TypeId} (hx:evF (look t) x=some (ybi B)) (hy:evF (look t) y=some (ybi C))
  (hw:yah ops (look t) ⟨some d,.binOp .and tx x y ty',ty,pos,af,gd⟩=some true) (hd:Nat.blt d N=true) (k:Lex P N ops lf Q rest (S ((d,ybi (B &&& C))::t) h)):Lex P N ops lf Q (⟨some d,.binOp .and tx x y ty',ty,pos,af,gd⟩::rest) (S t h):=
 yby (zdg hx hy) hw hd k
theorem ydp {x y:Operand} {B:BitVec 32} {tx ty':TypeId} (hx:evF (look t) x=some (ybi B)) (hy:evF (look t) y=some (.v (.int .u32 1)))
  (hw:yah ops (look t) ⟨some d,.binOp .and tx x y ty',ty,pos,af,gd⟩=some true) (hd:Nat.blt d N=true) (k:Lex P N ops lf Q rest (S ((d,ybi (B &&& 1#32))::t) h)):Lex P N ops lf Q (⟨some d,.binOp .and tx x y ty',ty,pos,af,gd⟩::rest) (S t h):=
 yby (zdg hx (C:=1#32) hy) hw hd k
theorem shr_val (B:BitVec 32) (n:Nat):((B.toNat:Int).fdiv (2 ^ (min n 32)))=((B >>> n).toNat:Int):=by
 rw [BitVec.toNat_ushiftRight,Nat.shiftRight_eq_div_pow]
 have hB:=B.isLt
 rw [Int.fdiv_eq_ediv_of_nonneg _ (Int.le_of_lt (Int.pow_pos (by omega)))]
 rcases Nat.lt_or_ge n 32 with h|h
 ·rw [Nat.min_eq_left (by omega)]
  norm_cast
 ·rw [Nat.min_eq_right h]
  have:B.toNat / 2 ^ n=0:=Nat.div_eq_of_lt (Nat.lt_of_lt_of_le hB (Nat.pow_le_pow_right (by omega) h))
  rw [this]
  omega
theorem yield_shrU {ρ:Operand→Option AV} {hp:Nat→Option LObj} {x y:Operand} {B:BitVec 32} {i:Int} {k':IntKind} {tx ty':TypeId} (hx:ρ x=some (ybi B)) (hy:ρ y=some (.v (.int k' i))) (hb:0≤i):ybu P hp ρ (.binOp .shr tx x y ty') ty (ybi (B >>> i.toNat)):=by
 have:=yield_shr (P:=P) (hp:=hp) (ty:=ty) (tx:=tx) (ty':=ty') hx hy hb
 rwa [show IntKind.u32.bits=32 from rfl,shr_val] at this
theorem ydj {x y:Operand} {B:BitVec 32} {i:Int} {k':IntKind} {tx ty':TypeId} (hx:evF (look t) x=some (ybi B)) (hy:evF (look t) y=some (.v (.int k' i))) (hb:0≤i)
  (hw:yah ops (look t) ⟨some d,.binOp .shr tx x y ty',ty,pos,af,gd⟩=some true) (hd:Nat.blt d N=true) (k:Lex P N ops lf Q rest (S ((d,ybi (B >>> i.toNat))::t) h)):Lex P N ops lf Q (⟨some d,.binOp .shr tx x y ty',ty,pos,af,gd⟩::rest) (S t h):=
 yby (yield_shrU hx hy hb) hw hd k
theorem zui (B:BitVec 32) (n:Nat):((((B >>> n) &&& 1#32).toNat:Int) == 1)=B.getLsbD n:=by
 have h:(B >>> n) &&& 1#32=if B.getLsbD n then 1#32 else 0#32:=by
  apply BitVec.eq_of_getLsbD_eq
  intro i hi
  rw [BitVec.getLsbD_and,BitVec.getLsbD_ushiftRight]
  by_cases e:i=0
  ·subst e
   cases hb:B.getLsbD n <;> simp
  ·have:(1#32).getLsbD i=false:=by simp [BitVec.getLsbD_one,e]
   rw [this,Bool.and_false]
   split <;> simp [BitVec.getLsbD_one,e]
 rw [h]
 cases B.getLsbD n <;> rfl
theorem zls (B C:BitVec 32):(((B.toNat:Int)) == (C.toNat:Int))=(B == C):=by
 rw [Bool.eq_iff_iff,beq_iff_eq,beq_iff_eq]
 constructor
 ·intro e;exact BitVec.eq_of_toNat_eq (by omega)
 ·intro e;rw [e]
theorem yfo (B:BitVec 32):(((B.toNat:Int)) == 0)=(B == 0#32):=zls B 0#32
theorem u32_bne (B C:BitVec 32):(((B.toNat:Int)) != (C.toNat:Int))=(B != C):=by
 unfold bne;rw [zls]
theorem yex (B:BitVec 32):(((B.toNat:Int)) != 0)=(B != 0#32):=u32_bne B 0#32
end
section
open Go.RowKit
variable {P:Program} {T:Nat→Option Ty} {N:Nat} {ops:Array Oper} {lf:Oper→Bool} {Q:SS→Prop} {t:List (Nat × AV)} {h:List (Nat × Option LObj)} {rest:List Oper} {d:Nat} {op:Op} {ty:TypeId} {pos:String} {af:Array Edge} {gd:Option (Nat × Bool)} {r:AV}
theorem zfk (B C:BitVec 32):IntKind.u32.wrap ((B.toNat:Int) - C.toNat)=((B - C).toNat:Int):=by
 have:=B.isLt
 have:=C.isLt
 rw [BitVec.toNat_sub]
 simp only [IntKind.wrap,IntKind.signed,IntKind.bits,Bool.false_and,if_false,Bool.false_eq_true]
 omega
theorem negU_val (B:BitVec 32):IntKind.u32.wrap (0 - (B.toNat:Int))=((-B).toNat:Int):=by
 have:=B.isLt
 rw [BitVec.toNat_neg]
 simp only [IntKind.wrap,IntKind.signed,IntKind.bits,Bool.false_and,if_false,Bool.false_eq_true]
 omega
theorem zjx (hT:TOK P T) {z:Int} {X:BitVec 32} (hr:ypw T t h op ty=some (.v (.int .u32 (IntKind.u32.wrap z)))) (hz:IntKind.u32.wrap z=(X.toNat:Int)) (hw:yah ops (look t) ⟨some d,op,ty,pos,af,gd⟩=some true) (hd:Nat.blt d N=true) (k:Lex P N ops lf Q rest (S ((d,ybi X)::t) h)):Lex P N ops lf Q (⟨some d,op,ty,pos,af,gd⟩::rest) (S t h):=by
 rw [hz] at hr
 exact zfv hT hr hw hd k
theorem ynq (hT:TOK P T) {x y:Operand} {B C:BitVec 32} {tx ty':TypeId} (hx:evF (look t) x=some (ybi B)) (hy:evF (look t) y=some (ybi C)) (hr:ypw T t h (.binOp .sub tx x y ty') ty=some (.v (.int .u32 (IntKind.u32.wrap ((B.toNat:Int) - C.toNat)))))
  (hw:yah ops (look t) ⟨some d,.binOp .sub tx x y ty',ty,pos,af,gd⟩=some true) (hd:Nat.blt d N=true) (k:Lex P N ops lf Q rest (S ((d,ybi (B - C))::t) h)):Lex P N ops lf Q (⟨some d,.binOp .sub tx x y ty',ty,pos,af,gd⟩::rest) (S t h):=
 zjx hT hr (zfk B C) hw hd k
theorem ynp (hT:TOK P T) {x y:Operand} {B:BitVec 32} {tx ty':TypeId} (hx:evF (look t) x=some (ybi B)) (hy:evF (look t) y=some (.v (.int .u32 1))) (hr:ypw T t h (.binOp .sub tx x y ty') ty=some (.v (.int .u32 (IntKind.u32.wrap ((B.toNat:Int) - 1)))))
  (hw:yah ops (look t) ⟨some d,.binOp .sub tx x y ty',ty,pos,af,gd⟩=some true) (hd:Nat.blt d N=true) (k:Lex P N ops lf Q rest (S ((d,ybi (B - 1#32))::t) h)):Lex P N ops lf Q (⟨some d,.binOp .sub tx x y ty',ty,pos,af,gd⟩::rest) (S t h):=
 zjx hT hr (zfk B 1#32) hw hd k
theorem yno (hT:TOK P T) {x:Operand} {B:BitVec 32} {tx:TypeId} (hx:evF (look t) x=some (ybi B)) (hr:ypw T t h (.unOp .neg tx x) ty=some (.v (.int .u32 (IntKind.u32.wrap (0 - (B.toNat:Int))))))
  (hw:yah ops (look t) ⟨some d,.unOp .neg tx x,ty,pos,af,gd⟩=some true) (hd:Nat.blt d N=true) (k:Lex P N ops lf Q rest (S ((d,ybi (-B))::t) h)):Lex P N ops lf Q (⟨some d,.unOp .neg tx x,ty,pos,af,gd⟩::rest) (S t h):=
 zjx hT hr (negU_val B) hw hd k
def zxx (n:Nat):BitVec 32:=(1#32 <<< n) - 1#32
theorem allV_bit:∀ (n:Nat),n≤24→∀ i,i < 32→(zxx n).getLsbD i=decide (i < n):=by decide +kernel
end
section
open Go.RowKit
theorem yen {α:Type} {f:α→AV}:∀ l:List α,(l.map fun x=>[f x]).flatten=l.map f
 | []=>rfl
 | a::l=>by simp [yen l]
theorem A_freezeV {P:Program} {N:Nat} {t:List (Nat × AV)} {c:Code} {Q:Exit→SS→Prop} {t':List (Nat × AV)} {h0 h':List (Nat × Option LObj)} {α:Type} {f:α→AV} {l:List α} (d:Nat) {id n:Nat} (hd:look t d=some (.ls id 1 n)) (hn:n=l.length)
  (ht:ysd id t=some t') (hh:ypv id h0=some h') (k:A P N c Q (S ((d,.sl 1 (l.map fun x=>[f x]))::t') ((id,none)::h'))):A P N c Q (S t ((id,some (.vec (l.map f)))::h0)):=by
 subst hn
 refine zlx (h':=(id,some (.vec (l.map f)))::h') d (l.map fun x=>[f x]) hd ybb (by simp) (by intro r hr;obtain ⟨z,_,rfl⟩:=List.mem_map.1 hr;rfl) (yen l) ht ?_ ?_
 ·simp only [ypv,hh];rfl
 ·rw [show S ((d,AV.sl 1 (l.map fun x=>[f x]))::t') ((id,none)::(id,some (LObj.vec (l.map f)))::h')=S ((d,AV.sl 1 (l.map fun x=>[f x]))::t') ((id,none)::h') by unfold S;rw [yfx]]
  exact k
theorem Frz.aggL {h:Nat→Option LObj} {xs ys:List AV} (hl:xs.length=ys.length) (hc:ys.all ydt=true) (hf:∀ (i:Nat) (x y:AV),xs[i]?=some x→ys[i]?=some y→Frz h x y):Frz h (.agg xs) (.agg ys):=by
 intro B ok0 lv w u hi hr
 cases hr with
 | agg vs hvl _ hrr=>
  refine .agg vs (hvl.trans hl) (fun c hcm=>List.all_eq_true.1 hc c hcm) fun i c v hcc hv=>?_
  obtain ⟨x,hx⟩:∃ x,xs[i]?=some x:=⟨_,List.getElem?_eq_getElem (by have:=(List.getElem?_eq_some_iff.1 hcc).1;omega)⟩
  exact hf i x c hx hcc B ok0 lv w v hi (hrr i x v hx hv)
end
section
open Go.RowKit
def ypk (f:Nat→Bool) (n:Nat):Nat:=((List.range n).filter f).length
def yrj (B:BitVec 32):Nat:=ypk B.getLsbD 32
theorem yte (f:Nat→Bool) (m:Nat):∀ n,ypk f (m+n)=ypk f m+ypk (fun i=>f (m+i)) n
 | 0=>by simp [ypk]
 | n+1=>by
  have ih:=yte f m n
  unfold ypk at *
  rw [show m+(n+1)=(m+n)+1 by omega,List.range_succ,List.filter_append,List.length_append,ih,List.range_succ,List.filter_append,List.length_append]
  simp only [List.filter_cons,List.filter_nil]
  cases f (m+n) <;> simp <;> omega
theorem yjc {f g:Nat→Bool} {n:Nat} (h:∀ i,i < n→f i=g i):ypk f n=ypk g n:=by
 unfold ypk
 congr 1
 exact List.filter_congr fun i hi=>h i (List.mem_range.1 hi)
theorem zlb (f:Nat→Bool) (n:Nat):ypk f n≤n:=by
 unfold ypk
 have:=List.length_filter_le f (List.range n)
 simpa using this
def zaw (x:Nat):Nat:=ypk x.testBit 8
def yrg:ByteArray:=⟨((List.range 256).map fun n=>UInt8.ofNat (zaw n)).toArray⟩
theorem ypq {n:Nat} (h:n < 256):yrg[n]?=some (UInt8.ofNat (zaw n)):=by
 have hs:n < yrg.size:=by
  show n < (((List.range 256).map fun n=>UInt8.ofNat (zaw n)).toArray).size
  simpa using h
 rw [getElem?_pos yrg n hs]
 show some ((((List.range 256).map fun n=>UInt8.ofNat (zaw n)).toArray)[n]'(by simpa using h))=_
 simp
theorem pop_split (B:BitVec 32):yrj B=zaw (B >>> 24).toNat+zaw ((B >>> 16) &&& 255#32).toNat+zaw ((B >>> 8) &&& 255#32).toNat+zaw (B &&& 255#32).toNat:=by
 have h255:∀ i,i < 8→(255#32).getLsbD i=true:=by decide
 have e1:zaw (B >>> 24).toNat=ypk (fun i=>B.getLsbD (24+i)) 8:=yjc fun i hi=>by
  show (B >>> 24).getLsbD i=_
  rw [BitVec.getLsbD_ushiftRight]
 have e2:zaw ((B >>> 16) &&& 255#32).toNat=ypk (fun i=>B.getLsbD (16+i)) 8:=yjc fun i hi=>by
  show ((B >>> 16) &&& 255#32).getLsbD i=_
  rw [BitVec.getLsbD_and,BitVec.getLsbD_ushiftRight,h255 i hi,Bool.and_true]
 have e3:zaw ((B >>> 8) &&& 255#32).toNat=ypk (fun i=>B.getLsbD (8+i)) 8:=yjc fun i hi=>by
  show ((B >>> 8) &&& 255#32).getLsbD i=_
  rw [BitVec.getLsbD_and,BitVec.getLsbD_ushiftRight,h255 i hi,Bool.and_true]
 have e4:zaw (B &&& 255#32).toNat=ypk B.getLsbD 8:=yjc fun i hi=>by
  show (B &&& 255#32).getLsbD i=_
  rw [BitVec.getLsbD_and,h255 i hi,Bool.and_true]
 have s1:ypk B.getLsbD 32=ypk B.getLsbD 8+ypk (fun i=>B.getLsbD (8+i)) 24:=yte B.getLsbD 8 24
 have s2:ypk (fun i=>B.getLsbD (8+i)) 24=ypk (fun i=>B.getLsbD (8+i)) 8+ypk (fun i=>B.getLsbD (8+(8+i))) 16:=yte (fun i=>B.getLsbD (8+i)) 8 16
 have s3:ypk (fun i=>B.getLsbD (8+(8+i))) 16=ypk (fun i=>B.getLsbD (8+(8+i))) 8+ypk (fun i=>B.getLsbD (8+(8+(8+i)))) 8:=yte (fun i=>B.getLsbD (8+(8+i))) 8 8
 have f1:ypk (fun i=>B.getLsbD (8+(8+i))) 8=ypk (fun i=>B.getLsbD (16+i)) 8:=yjc fun i _=>by congr 1;omega
 have f2:ypk (fun i=>B.getLsbD (8+(8+(8+i)))) 8=ypk (fun i=>B.getLsbD (24+i)) 8:=yjc fun i _=>by congr 1;omega
 rw [e1,e2,e3,e4]
 show ypk B.getLsbD 32=_
 omega
theorem zfa (n:Nat):zaw n≤8:=zlb _ _
theorem pop_le (B:BitVec 32):yrj B≤32:=zlb _ _
theorem zrp (B:BitVec 32):(B &&& 255#32).toNat < 256:=by
 rw [BitVec.toNat_and]
 exact Nat.lt_of_le_of_lt Nat.and_le_right (by decide)
theorem shr24 (B:BitVec 32):(B >>> 24).toNat < 256:=by
 rw [BitVec.toNat_ushiftRight,Nat.shiftRight_eq_div_pow]
 have:=B.isLt
 omega
theorem zpm {n:Nat} (h:n≤8):((UInt8.ofNat n).toNat:Int)=n:=by
 rw [UInt8.toNat_ofNat']
 omega
theorem zew (B:BitVec 32):Con Tryz.prog 87 [ybi B] (i64 (yrj B)):=by
 have p1:=zfa (B >>> 24).toNat
 have p2:=zfa ((B >>> 16) &&& 255#32).toNat
 have p3:=zfa ((B >>> 8) &&& 255#32).toNat
 have p4:=zfa (B &&& 255#32).toNat
 refine yao Tryz.func87 rfl rfl Tryz.ntmps87 Tryz.results87 rfl rfl ?_
 (repeat (first|refine ydj rfl rfl (by omega) rfl rfl ?_|refine ycw (C:=255#32) rfl rfl rfl rfl ?_|refine ywo (s:=yrg) (b:=UInt8.ofNat (zaw (B >>> 24).toNat)) tok rfl (by kernel_rfl) rfl (by omega) (ypq (shr24 B)) rfl rfl (yln 5 (y:=.v (.int .u8 (zaw (B >>> 24).toNat))) rfl (by rw [zpm p1]) ?_)|refine ywo (s:=yrg) (b:=UInt8.ofNat (zaw ((B >>> 16) &&& 255#32).toNat)) tok rfl (by kernel_rfl) rfl (by omega) (ypq (zrp _)) rfl rfl (yln 9 (y:=.v (.int .u8 (zaw ((B >>> 16) &&& 255#32).toNat))) rfl (by rw [zpm p2]) ?_)|refine ywo (s:=yrg) (b:=UInt8.ofNat (zaw ((B >>> 8) &&& 255#32).toNat)) tok rfl (by kernel_rfl) rfl (by omega) (ypq (zrp _)) rfl rfl (yln 14 (y:=.v (.int .u8 (zaw ((B >>> 8) &&& 255#32).toNat))) rfl (by rw [zpm p3]) ?_)|refine ywo (s:=yrg) (b:=UInt8.ofNat (zaw (B &&& 255#32).toNat)) tok rfl (by kernel_rfl) rfl (by omega) (ypq (zrp _)) rfl rfl (yln 18 (y:=.v (.int .u8 (zaw (B &&& 255#32).toNat))) rfl (by rw [zpm p4]) ?_)|refine L_u8 tok rfl (by constructor <;> omega) rfl rfl ?_|refine zI ?_|refine zL ?_|refine zC ?_|refine ycu ?_|refine yco ?_|refine zR ?_|refine zD ?_|refine zK ?_|refine zB ?_|refine zA ?_|refine zS ?_|refine zU ?_|refine zV ?_|refine zF ?_|with_reducible refine yat ?_|with_reducible refine ybg ?_|refine ybh ?_|refine ybf ?_|refine ybp ?_|refine zT ?_|refine zE ?_|refine zX ?_|fail))
 refine yaf ?_;refine ⟨_,rfl,?_⟩
 exact yai (by rw [pop_split];omega)
end
section
open Go.RowKit
structure CntD where
 steps:Int
 moves:Int
 rounds:Int
 begun:Int
 pend:BitVec 32
def zrn:BitVec 32:=16777215#32
def yrw (k:CntD):List AV:=[i64 k.steps,i64 k.moves,i64 k.rounds,i64 k.begun,ybi k.pend]
def ync (e:BitVec 32):CntD:=⟨0,0,0,0,e &&& zrn⟩
def zva (k:CntD) (ch af:BitVec 32):CntD:=
 if k.pend &&& ~~~ch &&& af=0#32 then ⟨k.steps+1,k.moves+yrj ch,k.rounds+1,k.rounds+1,af⟩ else ⟨k.steps+1,k.moves+yrj ch,k.rounds,k.rounds+1,k.pend &&& ~~~ch &&& af⟩
def InM (B:BitVec 32):Prop:=B &&& ~~~zrn=0#32
structure CntOk (k:CntD):Prop where
 s0:0≤k.steps
 s1:k.steps≤4096
 r0:0≤k.rounds
 r1:k.rounds≤k.begun
 b1:k.begun≤k.steps
 b2:k.begun≤k.rounds+1
 m0:k.steps≤k.moves
 m1:k.moves≤24 * k.steps
 pend:InM k.pend
theorem zkn {B:BitVec 32} (h:InM B) {i:Nat} (hi:24≤i):B.getLsbD i=false:=by
 rcases Nat.lt_or_ge i 32 with h9|h9
 ·have:=congrArg (fun X=>BitVec.getLsbD X i) h
  simp only [BitVec.getLsbD_and,BitVec.getLsbD_not,BitVec.getLsbD_zero] at this
  have e:zrn.getLsbD i=false:=by
   have:∀ j:Fin 8,zrn.getLsbD (24+j.val)=false:=by decide
   have:=this ⟨i - 24,by omega⟩
   rwa [show 24+(i - 24)=i by omega] at this
  rw [e] at this
  simpa [h9] using this
 ·exact BitVec.getLsbD_of_ge _ _ h9
theorem zhj {B:BitVec 32} (h:∀ i,24≤i→B.getLsbD i=false):InM B:=by
 apply BitVec.eq_of_getLsbD_eq
 intro i hi
 rw [BitVec.getLsbD_and,BitVec.getLsbD_not,BitVec.getLsbD_zero]
 rcases Nat.lt_or_ge i 24 with h9|h9
 ·have:∀ j:Fin 24,zrn.getLsbD j.val=true:=by decide
  rw [this ⟨i,h9⟩];simp
 ·rw [h i h9];simp
theorem xai {B:BitVec 32} (h:InM B):yrj B≤24:=by
 have e:yrj B=ypk B.getLsbD 24+ypk (fun i=>B.getLsbD (24+i)) 8:=yte _ 24 8
 have e2:ypk (fun i=>B.getLsbD (24+i)) 8=0:=by
  unfold ypk
  rw [List.filter_eq_nil_iff.2 (fun i _=>by simp [zkn h (show 24≤24+i by omega)])]
  rfl
 have:=zlb B.getLsbD 24
 omega
theorem zto {B:BitVec 32} (h:B≠0#32):1≤yrj B:=by
 rcases Nat.eq_zero_or_pos (yrj B) with h0|h0
 ·exfalso
  refine h (BitVec.eq_of_getLsbD_eq fun i hi=>?_)
  rw [BitVec.getLsbD_zero]
  have:=List.filter_eq_nil_iff.1 (List.eq_nil_of_length_eq_zero h0) i (List.mem_range.2 hi)
  simpa using this
 ·exact h0
theorem add_ok {k:CntD} (h:CntOk k) (h4:k.steps < 4096) {ch af:BitVec 32} (hc:ch≠0#32) (h1:InM ch) (h2:InM af):CntOk (zva k ch af):=by
 have p1:=zto hc
 have p2:=xai h1
 obtain ⟨a1,a2,a3,a4,a5,a6,a7,a8,a9⟩:=h
 unfold zva
 split
 ·exact ⟨by simp only;omega,by simp only;omega,by simp only;omega,by simp only;omega,by simp only;omega,by simp only;omega,by simp only;omega,by simp only;omega,h2⟩
 ·refine ⟨by simp only;omega,by simp only;omega,by simp only;omega,by simp only;omega,by simp only;omega,by simp only;omega,by simp only;omega,by simp only;omega,zhj fun i hi=>?_⟩
  rw [BitVec.getLsbD_and,BitVec.getLsbD_and,zkn a9 hi];simp
theorem begin_ok {e:BitVec 32}:CntOk (ync e):=⟨by simp [ync],by simp [ync],by simp [ync],by simp [ync],by simp [ync],by simp [ync],by simp [ync],by simp [ync],zhj fun i hi=>by
 simp only [ync]
 rw [BitVec.getLsbD_and,zkn (B:=zrn) (by unfold InM zrn;decide) hi,Bool.and_false]⟩
theorem begin_con (e:BitVec 32):Con Tryz.prog 159 [ybi e] (.agg (yrw (ync e))):=by
 refine yge tok Tryz.func159 rfl rfl Tryz.ntmps159 Tryz.results159 rfl rfl ?_
 (repeat (first|refine ycw (C:=zrn) rfl rfl rfl rfl ?_|refine zI ?_|refine zL ?_|refine zC ?_|refine ycu ?_|refine yco ?_|refine zR ?_|refine zD ?_|refine zK ?_|refine zB ?_|refine zA ?_|refine zS ?_|refine zU ?_|refine zV ?_|refine zF ?_|with_reducible refine yat ?_|with_reducible refine ybg ?_|refine ybh ?_|refine ybf ?_|refine ybp ?_|refine zT ?_|refine zE ?_|refine zX ?_|fail))
 refine yaf ?_;refine ⟨_,rfl,?_⟩
 exact Frz.pure
def yrk (l:List (BitVec 32)):AV:=.sl 1 (l.map fun B=>[ybi B])
theorem yvx (l:List (BitVec 32)) (hl:l.length≤1000) (h:∀ B∈l,InM B):Con Tryz.prog 214 [yrk l] (ybq true):=by
 refine yao Tryz.func214 rfl rfl Tryz.ntmps214 Tryz.results214 rfl rfl ?_
 (try refine zy ?_)
 refine yeu (α:=Nat) (fun k=>[(7,i64 k),(6,i64 l.length),(5,yrk l)]) (fun k=>[]) (fun k=>l.length - k) (fun k=>k≤l.length) 0 (by omega) (by exact zs) yae ?_
 intro k hk
 (try refine zy ?_)
 refine yac rfl (fun h1=>?_) (fun h1=>?_)
 ·simp at h1
  obtain ⟨B,hB⟩:=ycd h1
  have hm:=h B (List.mem_of_getElem? hB)
  (repeat (first|refine yaz (C:=zrn) rfl rfl rfl rfl ?_|refine zI ?_|refine zL ?_|refine zC ?_|refine ycu ?_|refine yco ?_|refine zR ?_|refine zD ?_|refine zK ?_|refine zB ?_|refine zA ?_|refine zS ?_|refine zU ?_|refine zV ?_|refine zF ?_|with_reducible refine yat ?_|with_reducible refine ybg ?_|refine ybh ?_|refine ybf ?_|refine ybp ?_|refine zT ?_|refine zE ?_|refine zX ?_|fail))
  refine yac rfl (fun h2=>?_) (fun h2=>?_)
  ·rw [yex,hm] at h2;simp at h2
  (try refine zy ?_)
  exact rnd (k+1) (by omega) (by omega) (by exact zs) yae
 ·simp at h1
  obtain rfl:k=l.length:=by omega
  (try refine zy ?_)
  refine yaf ?_;refine ⟨_,rfl,?_⟩
  exact Frz.pure
theorem avalid_con (k:CntD) (h:CntOk k):Con Tryz.prog 213 [.agg (yrw k)] (ybq true):=by
 obtain ⟨a1,a2,a3,a4,a5,a6,a7,a8,a9⟩:=h
 have hp:=yvx [k.pend] (by simp) (by simp [a9])
 refine yao Tryz.func213 rfl rfl Tryz.ntmps213 Tryz.results213 rfl rfl ?_
 (try refine zy ?_)
 refine yax 6 rfl (fun h1=>?_) (fun h1=>?_)
 ·simp at h1;omega
 (try refine zy ?_)
 refine yax 11 rfl (fun h2=>?_) (fun h2=>?_)
 ·simp at h2;omega
 (try refine zy ?_)
 refine yax 16 rfl (fun h3=>?_) (fun h3=>?_)
 ·simp at h3;omega
 (try refine zy ?_)
 refine yax 23 rfl (fun h4=>?_) (fun h4=>?_)
 ·simp at h4;omega
 (try refine zy ?_)
 refine yac rfl (fun h5=>?_) (fun h5=>?_)
 ·simp at h5;omega
 (try refine zy ?_)
 refine yac rfl (fun h6=>?_) (fun h6=>?_)
 ·simp at h6;omega
 (try refine zy ?_)
 refine yax 41 rfl (fun h7=>?_) (fun h7=>?_)
 ·(try refine zy ?_)
  refine yax 49 rfl (fun h8=>?_) (fun h8=>?_)
  ·(repeat (first|refine zy ?_|refine yad rfl rfl hp rfl rfl ?_))
   refine yaf ?_;refine ⟨_,rfl,?_⟩
   exact Frz.pure
  ·simp at h8;omega
 ·simp at h7;omega
theorem add_con (k:CntD) (h:CntOk k) (h4:k.steps < 4096) {ch af:BitVec 32} (hc:ch≠0#32) (h1:InM ch) (h2:InM af):Con Tryz.prog 162 [.agg (yrw k),ybi ch,ybi af] (.tup [.agg (yrw (zva k ch af)),i64 0]):=by
 have hv:=avalid_con k h
 have hp:=yvx [ch,af] (by simp) (by simp [h1,h2])
 have p1:=zto hc
 have p2:=xai h1
 obtain ⟨a1,a2,a3,a4,a5,a6,a7,a8,a9⟩:=h
 refine yge tok Tryz.func162 rfl rfl Tryz.ntmps162 Tryz.results162 rfl rfl ?_
 (repeat (first|refine zy ?_|refine yad rfl rfl hv rfl rfl ?_))
 refine yax 14 rfl (fun q1=>?_) (fun q1=>?_)
 ·rw [yfo] at q1;exact absurd (by simpa using q1) hc
 (repeat (first|refine zy ?_|refine yad rfl rfl hp rfl rfl ?_))
 refine yac rfl (fun q2=>?_) (fun q2=>?_)
 ·simp at q2;omega
 (repeat (first|refine yfr tok rfl (by constructor <;> omega) rfl rfl ?_|refine ycv rfl rfl (by omega) rfl rfl ?_|refine ydj rfl rfl (by omega) rfl rfl ?_|refine yfq rfl rfl rfl rfl ?_|refine ycw rfl rfl rfl rfl ?_|refine ydp rfl rfl rfl rfl ?_|refine yaz rfl rfl rfl rfl ?_|refine zI ?_|refine zL ?_|refine zC ?_|refine ycu ?_|refine yco ?_|refine zR ?_|refine zD ?_|refine zK ?_|refine zB ?_|refine zA ?_|refine zS ?_|refine zU ?_|refine zV ?_|refine zF ?_|refine zN ?_|with_reducible refine yat ?_|with_reducible refine ybg ?_|refine ybh ?_|refine ybf ?_|refine ybp ?_|refine zT ?_|refine zE ?_|refine zX ?_|refine yad rfl rfl (zew ch) rfl rfl ?_))
 refine yac rfl (fun q3=>?_) (fun q3=>?_)
 ·rw [yfo] at q3
  have e:zva k ch af=⟨k.steps+1,k.moves+yrj ch,k.rounds+1,k.rounds+1,af⟩:=by unfold zva;rw [if_pos (by simpa using q3)]
  rw [e]
  (try refine zy ?_)
  refine yaf ?_;refine ⟨_,rfl,?_⟩
  exact Frz.pure
 ·rw [yfo] at q3
  have e:zva k ch af=⟨k.steps+1,k.moves+yrj ch,k.rounds,k.rounds+1,k.pend &&& ~~~ch &&& af⟩:=by unfold zva;rw [if_neg (by simpa using q3)]
  rw [e]
  (try refine zy ?_)
  refine yaf ?_;refine ⟨_,rfl,?_⟩
  exact Frz.pure
end
end Go.Proofs.YtfhejdcijbgikaaGreatDoor
