/- Part 17 of the texts under TopCertificatesBoundRuns. -/
import Derived.Lib.Bytealg
import Derived.Lib.Split
import Derived.Lib.SplitLaws
import GoSem.Core.Utf8
import Derived.Lib.ItoaNum
import Derived.Lib.Strings
import Derived.KernelRfl
import Derived.Test.YtgpodcjhgdionaaGreatDoorCB4
import Derived.Test.YtgpodcjhgdionaaGreatDoorCB6
import Derived.Test.YtgpodcjhgdionaaGreatDoorCB7
import Derived.Test.YtgpodcjhgdionaaGreatDoorCB8
import Derived.Test.YtgpodcjhgdionaaGreatDoorCB9
import Derived.Test.YtgpodcjhgdionaaGreatDoorCB10
import Derived.Test.YtgpodcjhgdionaaGreatDoorCB11
import Derived.Test.YtgpodcjhgdionaaGreatDoorCB12
import Derived.Test.YtgpodcjhgdionaaGreatDoorCB13
import Derived.Test.YtgpodcjhgdionaaGreatDoorCB14
import Derived.Test.YtgpodcjhgdionaaGreatDoorCB16
set_option maxRecDepth 100000
namespace Go.Proofs.YtgpodcjhgdionaaGreatDoor
open Go.Proofs.Tryz
variable {c:List (List Int)} {hs':List (Nat × Option LObj)} {L:List Bool} {l:List (List Tm)} {g:GraphD} {V:Nat->List Int} {p:ProgD} {i k j:Nat} {sg:List (Nat × Nat)} {e:List Tm} {s:SpcD} {f:FuncId} {kind:Int} {b:Bool} {w:World} {lv:Live} {v:Value}
section
open Go.RowKit
theorem indexByte_slite (s:ByteArray) (c:Int) (w:World) :
  Calls prog 259 #[.string s,.int .u8 c] w fun e w'=>e=.returned (.int .i64 (Lib.indexByte s.data.toList c.toNat.toUInt8))/\w=w':=by
 go_enter Tryz.func259,ntmps259;go_wp2;rw [run_callFunc_extern Tryz.func275 kf kf kf (e:=Extern.BytealgIndexByte.indexByte) kf,Lib.run_indexByteString];simp only [Result.andThen];rw [Oper.upon_value];go_wp2;go_ret;exact ⟨rfl,rfl⟩
theorem indexByte_any (s:ByteArray) (c:Int) (w:World) :
  Calls prog 231 #[.string s,.int .u8 c] w fun e w'=>e=.returned (.int .i64 (Lib.indexByte s.data.toList c.toNat.toUInt8))/\w=w':=by
 go_enter Tryz.func231,ntmps231;go_wp2_with (go_at_call 259;refine (indexByte_slite _ _ _).mono ?_;rintro e w' ⟨rfl,rfl⟩);go_ret;exact ⟨rfl,rfl⟩
end
set_option linter.unusedVariables false
section
open Go.RowKit
theorem zgd {l:List Tm} (h:yfl w v l):Rel (okW w) w lv (ybk l) v:=
 yoo (g:=fun t:Tm=>[.int .i64 t.1,.int .i64 t.2]) (fun _=>rfl) (fun x u hu=>by simp at hu;rcases hu with rfl|rfl <;> rfl) h
theorem vars_rel {l:List VarD} (h:yzz w v l):Rel (okW w) w lv (.sl 6 (l.map ybq)) v:=
 yoo (g:=ymx) (fun _=>rfl) (fun x u hu=>by simp [ymx] at hu;rcases hu with rfl|rfl|rfl|rfl|rfl|rfl <;> rfl) h
theorem prog_rel (h:zhf w v p):Rel (okW w) w lv (yhb p) v:=by
 obtain ⟨vv,rv,rfl,h1,h2⟩:=h;have h3:ybm (okW w) w lv [ynt p.name,.sl 6 (p.vars.map ybq),.sl 3 (p.rules.map ybg)] [.string p.name,vv,rv]:=by
  refine ybj (.v _) (ybj (vars_rel h1) (ybj ?_ ygu));refine yon h2 (fun _=>rfl) (fun x c hc=>by simp [ybg] at hc;rcases hc with rfl|rfl|rfl <;> rfl) fun x _ cs hc=>?_;obtain ⟨gv,sv,rfl,q1,q2⟩:=hc;refine ybj (.v _) (ybj (zgd q1) (ybj ?_ ygu));refine yon q2 (fun _=>rfl) (fun x c hc=>by simp [zht] at hc;rcases hc with rfl|rfl <;> rfl) fun x _ cs hc=>?_;obtain ⟨tv,rfl,r1⟩:=hc;exact ybj (.v _) (ybj (zgd r1) ygu)
 exact .agg _ h3.1 (fun c hc=>by simp at hc;rcases hc with rfl|rfl|rfl <;> rfl) h3.2
end
section
open Go.RowKit
theorem idx_con (s:ByteArray) (c:Int):Con prog 231 [.v (.string s),.v (.int .u8 c)] (i64 (Lib.indexByte s.data.toList c.toNat.toUInt8)):=
 yge ⟨_,Tryz.func231,rfl,rfl⟩ fun w us ok hok hr=>by
  obtain ⟨u,v,rfl,h1,h2⟩:=yzh hr;cases h1;cases h2;exact (indexByte_any s c w).mono fun e w' ⟨he,hw⟩=>⟨he,hw ▸ Below.refl _ _⟩
def knI (f:FuncId) (xs:List AV):Option AV:=
 match Nat.beq f 231 with
 | true=>match xs with
  | [.v (.string s),.v (.int .u8 c)]=>some (i64 (Lib.indexByte s.data.toList c.toNat.toUInt8))
  | _=>none
 | false=>none
theorem knI_ok (f:FuncId) (xs:List AV) (r:AV) (h:knI f xs=some r):Con prog f xs r:=by
 unfold knI at h;split at h
 .rename_i hf;split at h
  .simp only [Option.some.injEq] at h;subst h;rw [qaf hf];exact idx_con _ _
  cases h
 cases h
end
section
abbrev Bs:=List UInt8
def ba (l:Bs):ByteArray:=⟨l.toArray⟩
def bl (s:ByteArray):Bs:=s.data.toList
end
section
structure PW where
 w:Bs
 k:Nat
 v:Nat
def xmo:List Bs->Bs->Option Nat
 | [],_=>none
 | x::l,w=>if x=w then some 0 else (xmo l w).map (·+1)
def xfb (first:Int) (l:List Bs) (w:Bs):Int:=
 if w=[] then 0 else match xmo l w with
  | some i=>first+i
  | none=>0
def xlr:List Bs:=[[42],[47],[37],[43],[45],[61,61],[33,61],[60],[60,61],[62],[62,61],[38,38],[124,124]]
def aggL:List Bs:=[[97,108,108],[115,111,109,101],[99,111,117,110,116],[102,105,114,115,116],[109,105,110],[109,97,120],[115,117,109],[109,101,120],[115,101,99,111,110,100],[104,101,97,100]]
def xge:List Bs:=[[116,114,117,101],[102,97,108,115,101],[110,111,110,101],[],[110],[105,100,115],[105,100],[100,101,103],[114,111,111,116]]
def xgi:List Bs:=[[105,100],[100,101,103],[114,111,111,116],[119,101,105,103,104,116],[98,97,99,107]]
def xhy (w:Bs):Int:=xfb 30 xlr w
def xln (w:Bs):Int:=xfb 20 aggL w
def xbb (w:Bs):Int:=xfb 2 xge w
def xbj (w:Bs):Int:=xfb 13 xgi w
def xjs (op:Int):Nat:=
 if op=43 then 0 else if op=42 then 1 else if op=41 then 2 else if 35<=op/\op<=40 then 3 else if op=33\/op=34 then 4 else if 30<=op/\op<=32 then 5 else if op=18\/op=19 then 6 else 7
def zoq:List PW->Bs
 | []=>[]
 | t::_=>t.w
inductive Res where
 | ok (e:List Tm) (rest:List PW)
 | bad (err:Int) (rest:List PW)
inductive NT where
 | choice
 | bin (l:Nat)
 | tail (l:Nat) (left:List Tm)
 | unary
 | prim
variable {nm:Bs->Bool} {names:List Bs}
end
section
abbrev dec (v:Nat):Bs:=Lib.decDigits v
end
section
variable {nm:Bs->Bool} {names:List Bs}
def pwS (w:Bs):PW:=⟨w,3,0⟩
def pwN (w:Bs):PW:=⟨w,1,0⟩
def pwV (n:Nat):PW:=⟨dec n,2,n⟩
inductive Wr (names:List Bs):Nat->Ex->Bs->List PW->Prop
 | down {l:Nat} {E:Ex} {x:Bs} {ws:List PW} (hl:l < 7) (h:Wr names (l+1) E x ws):Wr names l E x ws
 | paren {E:Ex} {x:Bs} {ws:List PW} (h:Wr names 0 E x ws):Wr names 7 E (40::(x++[41])) (pwS [40]::(ws++[pwS [41]]))
 | choice {a b c:Ex} {xa xb xc:Bs} {wa wb wc:List PW} (ha:Wr names 1 a xa wa) (hb:Wr names 0 b xb wb) (hc:Wr names 0 c xc wc):Wr names 0 (.tr (43,0) a b c) (xa++(32::63::32::(xb++(32::58::32::xc)))) (wa++(pwS [63]::(wb++(pwS [58]::wc))))
 | bin {op:Int} {l:Nat} {w:Bs} {a b:Ex} {xa xb:Bs} {wa wb:List PW} (h0:xhy w=op) (hw:w∈xlr) (hl:xjs op=l) (h3:l≠3) (ha:Wr names l a xa wa) (hb:Wr names (l+1) b xb wb):Wr names l (.bi (op,0) a b) (xa++(32::(w++(32::xb)))) (wa++(pwS w::wb))
 | cmp {op:Int} {w:Bs} {a b:Ex} {xa xb:Bs} {wa wb:List PW} (h0:xhy w=op) (hw:w∈xlr) (hl:xjs op=3) (ha:Wr names 4 a xa wa) (hb:Wr names 4 b xb wb):Wr names 3 (.bi (op,0) a b) (xa++(32::(w++(32::xb)))) (wa++(pwS w::wb))
 | neg {a:Ex} {xa:Bs} {wa:List PW} (ha:Wr names 6 a xa wa):Wr names 6 (.un (18,0) a) (45::xa) (pwS [45]::wa)
 | not {a:Ex} {xa:Bs} {wa:List PW} (ha:Wr names 6 a xa wa):Wr names 6 (.un (19,0) a) (33::xa) (pwS [33]::wa)
 | agg {op:Int} {w:Bs} {a:Ex} {xa:Bs} {wa:List PW} (h0:xln w=op) (hw:w∈aggL) (ha:Wr names 0 a xa wa):Wr names 7 (.un (op,0) a) (w++(40::(xa++[41]))) (pwN w::pwS [40]::(wa++[pwS [41]]))
 | num {n:Nat} (hn:n<=1073741824):Wr names 7 (.lf (1,n)) (dec n) [pwV n]
 | own {i:Nat} {w:Bs} (h:names[i]?=some w):Wr names 7 (.lf (5,i)) w [pwN w]
 | near {i:Nat} {w:Bs} (h:names[i]?=some w):Wr names 7 (.lf (12,i)) (113::46::w) [pwN [113],pwS [46],pwN w]
 | here:Wr names 7 (.lf (11,0)) [113] [pwN [113]]
 | const {op:Int} {w:Bs} (h0:xbb w=op) (hw:w∈xge) (hne:w≠[]):Wr names 7 (.lf (op,0)) w [pwN w]
 | field {op:Int} {w:Bs} (h0:xbj w=op) (hw:w∈xgi):Wr names 7 (.lf (op,0)) (113::46::w) [pwN [113],pwS [46],pwN w]
structure NmOk (nm:Bs->Bool) (names:List Bs):Prop where
 good:∀ w∈names,nm w=true
 nodup:names.Nodup
 res:∀ w,nm w=true->xbb w=0/\xln w=0/\xbj w=0/\w≠[113]/\w≠[40]/\w≠[45]/\w≠[33]
def Fol (l:Nat) (r:List PW):Prop:=(l=0->zoq r≠[63])/\zoq r≠[46]/\(xhy (zoq r)=0\/xjs (xhy (zoq r)) < l)
def FolW (l:Nat) (r:List PW):Prop:=zoq r≠[46]/\(xhy (zoq r)=0\/xjs (xhy (zoq r)) < l\/(xjs (xhy (zoq r))=l/\l≠3))
theorem Fol.weak {l:Nat} {r:List PW} (h:Fol l r):FolW l r:=⟨h.2.1,h.2.2.imp id .inl⟩
end
section
open Go.RowKit
theorem skip_drop (r:List UInt8):∀ b:Bool,r.drop (yqc b r)≠[]->yqc false (r.drop (yqc b r))=0:=by
 induction r with
 | nil=>intro b h;simp at h
 | cons c r ih=>
  intro b h;cases b
  .simp only [yqc] at *;split at h
   .rename_i hc;rw [if_pos hc,qcv,qdo] at *;exact ih false h
   rename_i hc;rw [if_neg hc];split at h
   .rename_i h35;rw [if_pos h35,qcv,qdo] at *;exact ih true h
   rename_i h35;rw [if_neg h35,qfh];simp [yqc,hc,h35]
  simp only [yqc] at *;split at h
  .rename_i hc;rw [if_pos hc,qcv,qdo] at *;exact ih false h
  rename_i hc;rw [if_neg hc,qcv,qdo] at *;exact ih true h
def xfr (s:ByteArray):Nat->List Tok->Prop
 | p,[]=>p<=s.size/\zjl s false p=s.size
 | p,t::ts=>p<=s.size/\t.from_=zjl s false p/\t.from_ < s.size/\xmd (ybc s t.from_)=.ok (t.kind,t.to - t.from_,t.num)/\t.from_ < t.to/\t.to<=s.size/\xfr s t.to ts
theorem xfr.tail {s:ByteArray} {p:Nat} {t:Tok} {ts:List Tok} (h:xfr s p (t::ts)):xfr s t.to ts:=h.2.2.2.2.2.2
theorem xfr.len {s:ByteArray}:∀ {ts:List Tok} {p:Nat},xfr s p ts->ts.length+p<=s.size:=by
 intro ts;induction ts with
 | nil=>intro p h;have:=h.1;simp;omega
 | cons t ts ih=>
  intro p h;have h1:=ih h.tail;obtain ⟨h2,h3,h4,_,h5,h6,_⟩:=h;have:=(skipTo_bd s false p h2).1;simp;omega
theorem xfr.mem {s:ByteArray}:∀ {ts:List Tok} {p:Nat},xfr s p ts->∀ t∈ts,t.from_ < s.size/\xmd (ybc s t.from_)=.ok (t.kind,t.to - t.from_,t.num)/\t.from_ < t.to/\t.to<=s.size/\yqc false (ybc s t.from_)=0:=by
 intro ts;induction ts with
 | nil=>intro p _ t ht;cases ht
 | cons u ts ih=>
  intro p h t ht;cases ht with
  | head=>
   obtain ⟨h2,h3,h4,h7,h5,h6,_⟩:=h;refine ⟨h4,h7,h5,h6,?_⟩;rw [h3,<- zob];refine skip_drop _ false ?_;rw [zob,<- h3];intro h8;rw [bytesFrom_nil_iff] at h8;omega
  | tail _ ht=>exact ih h.tail t ht
end
section
open Go.RowKit
variable {nm:Bs->Bool} {names:List Bs}
inductive Scans:Bs->List PW->Prop
 | nil {l:Bs} (h:l.drop (yqc false l)=[]):Scans l []
 | cons {l y r:Bs} {k v:Nat} {ws:List PW} (h:l.drop (yqc false l)=y++r) (hy:y≠[]) (ht:xmd (y++r)=.ok (k,y.length,v)) (hr:Scans r ws):Scans l (⟨y,k,v⟩::ws)
def WordOk (w:Bs):Prop:=w.length<=24/\(∀ c∈w,yqd c=true)/\∃ c x,w=c::x/\yke c=true
end
section
open Go.RowKit
namespace Ex
def op:Ex->Int
 | lf t=>t.1
 | un t _=>t.1
 | bi t _ _=>t.1
 | tr t _ _ _=>t.1
end Ex
variable {names:List Bs}
end
section
variable {nm:Bs->Bool} {names:List Bs}
def Like (r r':List PW):Prop:=r'.head?=r.head?\/r'=[]
def EndR (y:Option Res):Prop:=y=none\/(∃ x,y=some (.ok x []))\/y=some (.bad 4 [])
def Res.rest:Res->List PW
 | .ok _ r=>r
 | .bad _ r=>r
def Cut (F:List PW->Option Res) (ts:List PW):Res->Prop
 | .ok e r=>∀ p,ts=p++r->∀ r',Like r r'->F (p++r')=some (.ok e r')
 | .bad c r=>r≠[]->∀ p,ts=p++r->(∀ r',r'.head?=r.head?->F (p++r')=some (.bad c r'))/\EndR (F p)
def xmi (F:List PW->Option Res):Prop:=∀ ts res,F ts=some res->res.rest <:+ ts/\Cut F ts res
inductive Looks (F:List PW->Option Res) (t:PW):Prop
 | takes (A:List PW->Option Res) (hA:xmi A) (h:∀ r,F (t::r)=A r):Looks F t
 | fails (c:Int) (h:∀ r,F (t::r)=some (.bad c (t::r))):Looks F t
 | leaves (B:List PW->Option Res) (hB:xmi B) (h0:F []=B []) (h:∀ r,F (t::r)=B (t::r)):Looks F t
end
section
open Go.RowKit
variable {nm:Bs->Bool} {names:List Bs}
def xic (nm:Bs->Bool) (names:List Bs):Bool:=decide (names.length<=6) && (names.all nm && decide names.Nodup)
structure NmW (nm:Bs->Bool):Prop where
 word:∀ w,nm w=true->WordOk w
 res:∀ w,nm w=true->xbb w=0/\xln w=0/\xbj w=0/\w≠[113]/\w≠[40]/\w≠[45]/\w≠[33]
theorem zig (h:xic nm names=true):names.length<=6/\(∀ w∈names,nm w=true)/\names.Nodup:=by
 simp only [xic,qac,decide_eq_true_eq,List.all_eq_true] at h;exact h
theorem NmW.ok (hN:NmW nm) (h:xic nm names=true):NmOk nm names:=⟨(zig h).2.1,(zig h).2.2,hN.res⟩
end
set_option maxHeartbeats 4000000
section
open Go.RowKit
theorem xbn {d id:Nat} {xs:List AV} {h:List (Nat × Option LObj)} (h1:Nat.beq d id=false) (h2:ment.mentL d xs=false) (hf:ybv d h=true):ybv d ((id,some (.cells xs))::h)=true:=by
 simp [ybv,h1,hf,yeb,h2]
theorem pureA_only {ids:List Nat}:∀ {x:AV},yar x=true->yen ids x=true
 | .v _,_=>rfl
 | .any,_=>rfl
 | .one,_=>rfl
 | .sl _ _,_=>rfl
 | .dp _ _,_=>rfl
 | .mv _,_=>rfl
 | .agg cs,h=>rows (cs:=cs) h
 | .tup cs,h=>rows (cs:=cs) h
 | .fn _ cs,h=>rows (cs:=cs) h
 | .fm _ cs,h=>rows (cs:=cs) h
 where rows:∀ {cs:List AV},yar.pureL cs=true->yen.onlyL ids cs=true
 | [],_=>rfl
 | c::cs,h=>by
  simp only [yar.pureL,qac] at h;simp only [yen.onlyL,pureA_only h.1,rows h.2,Bool.and_self]
section
variable {s:ByteArray} {ts ts':List Tok} {names:List Bs} {us:List Value}
variable {P:Program} {N:Nat} {ops:Array Oper} {lf:Oper->Bool} {Q:SS->Prop} {t:List (Nat × AV)} {h:List (Nat × Option LObj)} {rest:List Oper} {d:Nat} {ty:TypeId} {pos:String} {af:Array Edge} {gd:Option (Nat × Bool)}
end
section
variable {s:ByteArray} {ts:List Tok} {names:List Bs} {us:List Value}
end
end
section
open Go.RowKit
theorem recovered_nil:Con prog 132 [.v .nilIface] (.tup [.agg [i64 0,i64 0],yay false]):=by
 refine ydv tok Tryz.func132 rfl rfl ntmps132 Tryz.results132 rfl rfl ?_
 (repeat (first|refine zy ?_|refine ycl (yield_eqNilYes kf rfl rfl) rfl rfl ?_))
 exact zp
def xjk (p e:Int):List (Nat × Option LObj):=[(1002,some (.cells [i64 p])),(1003,some (.cells [i64 e]))]
theorem cat_cl {p e p' e':Int}:∀ id o,yac (xjk p' e') id=some o->isC o=true->14<=id/\∃ o',yac (xjk p e) id=some o'/\isC o'=true:=by
 intro id o ho hc;simp only [xjk,yac] at ho ⊢;cases h1:Nat.beq id 1002 with
 | true=>have:=qaf h1;exact ⟨om,_,rfl,rfl⟩
 | false=>
  simp only [h1] at ho;cases h2:Nat.beq id 1003 with
  | true=>have:=qaf h2;exact ⟨om,_,rfl,rfl⟩
  | false=>simp only [h2] at ho;cases ho
theorem zaf (p e:Int):xjb (KD prog 131 .returning .returning) [.lp 1002 0,.lp 1003 0] (yac (xjk p e)) (.tup []) (yac (xjk p e)):=by
 refine conKD_recover (lf:=lfT) tok Tryz.func131 rfl ntmps131 Tryz.results131 rfl cat_cl rfl rfl rfl dc rfl .idle ?_;show Lex _ _ _ _ _ _ (S _ _)
 (repeat (first|refine zy ?_|refine zc recovered_nil ?_))
 exact ⟨_,rfl,yfa _,yai (yaa rfl (yaa rfl yag))⟩
section
variable {g:FuncId} {caps:List AV} {hs hs':List (Nat × Option LObj)}
structure CatMem (g:FuncId) (caps:List AV) (hs hs':List (Nat × Option LObj)):Prop where
 keys:∀ i∈ycb (hs++hs'),1000<=i
 caps:∀ i,i < 1000->ment.mentL i caps=false
 fresh:∀ i,i < 1000->ybv i hs=true
 fresh2:∀ i,i < 1000->ybv i hs'=true
 only:∀ id o,yac hs' id=some o->ypg (ycb (hs++hs')) o=true
theorem znj {p e:Int} (h:∀ i∈ycb hs,1000<=i):Ahead [(3,some (.cells [i64 e])),(2,some (.cells [i64 p]))] hs:=by
 refine ⟨fun i hi hm=>?_,fun j ob hj i hi=>?_⟩
 .have:=h i hi;simp [ycb] at hm;omega
 have:ob=.cells [i64 e]\/ob=.cells [i64 p]:=by
  simp only [yac] at hj;split at hj
  .cases hj;exact .inl rfl
  split at hj
  .cases hj;exact .inr rfl
  cases hj
 rcases this with rfl|rfl <;> rfl
theorem xgc {i:Nat} (h:i∈ycc [(1002,2),(1003,3)]):i < 1000:=by simp [ycc] at h;omega
theorem catch_ok (hc:yot prog g caps (yac hs) (.tup []) (yac hs')) (hm:CatMem g caps hs hs'):yot prog 73 [.fn g caps] (yac hs) (.tup [i64 0,i64 0]) (yac hs'):=by
 refine zva tok Tryz.func73 rfl rfl ntmps73 Tryz.results73 rfl (fun id o ho hi=>⟨?_,hc.2.1 id o ho hi⟩) ?_
 .have:=hm.keys id (by simp only [ycb,qbu,qau];exact .inr (yev (by rw [ho];rfl)));omega
 show AF _ _ _ _ (S _ _);have f1:ydg 2 (yfn 0 [AV.fn g caps])=true:=by
  show ydg 2 [(0,.fn g caps)]=true;simp [ydg,ment,hm.caps 2 om]
 have f2:ydg 3 ((2,.lp 2 0)::yfn 0 [AV.fn g caps])=true:=by
  show ydg 3 [(2,.lp 2 0),(0,.fn g caps)]=true;simp [ydg,ment,hm.caps 3 om]
 refine ztx (zzt ?_);refine ybi (lf:=lfT) rfl ?_;refine zA (h1:=f1) (h2:=hm.fresh 2 om) ?_;refine zA (h1:=f2) (h2:=xbn rfl rfl (hm.fresh 3 om)) ?_;refine zmy ?_;show AF _ _ _ _ (S _ _);refine ztx ?_;refine yqe (lf:=lfT) 1 rfl rfl rfl rfl rfl rfl (fun d h=>by cases h) ?_;refine zF ?_;refine zmy ⟨rfl,_,_,_,⟨_,Tryz.func131,rfl,rfl⟩,rfl,rfl,fun x hx=>?_,?_⟩
 .have:∀ y,yaj ((4,.fn 131 [.lp 2 0,.lp 3 0])::(3,.lp 3 0)::(2,.lp 2 0)::yfn 0 [AV.fn g caps]) x≠some y:=fun y hy=>by
   simp only [yaj,yfn] at hy
   (repeat' split at hy)
   all_goals first|(rename_i hb;have:=qaf hb;omega)|cases hy
  cases hq:yaj ((4,.fn 131 [.lp 2 0,.lp 3 0])::(3,.lp 3 0)::(2,.lp 2 0)::yfn 0 [AV.fn g caps]) x with
  | none=>exact hq
  | some y=>exact absurd hq (this y)
 show Lex _ _ _ _ _ [] _;refine .nil ?_;show A _ _ _ _ _;refine ynu (s':=S [(0,.fn g caps),(2,.lp 2 0),(3,.lp 3 0),(1000000,.lp 2 0),(1000001,.lp 3 0)] _) ?_ ⟨zfw ⟨rfl,rfl,rfl,rfl,rfl,trivial⟩,fun id x h=>h⟩;have hk0:=hm.keys;have hbig:∀ i,i < 1000->∀ j∈ycb (hs++hs'),Nat.beq i j=false:=fun i hi j hj=>ycr (by have:=hk0 j hj;omega);refine ynb ?_;refine ybi (lf:=lfT) rfl ?_;refine zC ?_;refine L_callI (pre:=[_,_]) (xs:=[]) (t':=[(2,.lp 2 0),(3,.lp 3 0),(1000000,.lp 2 0),(1000001,.lp 3 0)]) hc rfl rfl rfl (znj hk0) hm.only (fun x y hy=>⟨ybo zs x y hy,fun i hi=>?_⟩) rfl rfl rfl ?_
 .simp only [yaj] at hy
  (repeat' split at hy)
  all_goals first|(cases hy;exact hbig _ om i hi)|cases hy
 refine zY ?_;refine ykj ?_;refine zhu (h':=hs') (args0:=[.lp 1002 0,.lp 1003 0]) [(1002,2),(1003,3)] rfl rfl rfl ⟨rfl,rfl,trivial⟩ (zaf 0 0) rfl rfl rfl rfl (yaa rfl (yaa rfl yag)) rfl (fun j ob hj hob=>⟨fun i hi=>(yer (hm.fresh2 i (xgc hi))).2 j ob hob,ob,?_,.inl rfl⟩) rfl (yfa _) (fun id o ho=>?_)
 .refine (yju (f:=[(3,_),(2,_),(3,_),(2,_)]) ?_).trans hob;simp [ycb,ycc] at hj ⊢;omega
 refine (yju (f:=yox _ _ _) ?_).trans ho;have:=hk0 id (by simp only [ycb,qbu,qau];exact .inr (yev (by rw [ho];rfl)));simp [ycb,yox];omega
theorem catchm_ok (hc:yot prog g caps (yac hs) (.tup []) (yac hs')) (hm:CatMem g caps hs hs'):yot prog 73 [.fm g caps] (yac hs) (.tup [i64 0,i64 0]) (yac hs'):=by
 refine zva tok Tryz.func73 rfl rfl ntmps73 Tryz.results73 rfl (fun id o ho hi=>⟨?_,hc.2.1 id o ho hi⟩) ?_
 .have:=hm.keys id (by simp only [ycb,qbu,qau];exact .inr (yev (by rw [ho];rfl)));omega
 show AF _ _ _ _ (S _ _);have f1:ydg 2 (yfn 0 [AV.fm g caps])=true:=by
  show ydg 2 [(0,.fm g caps)]=true;simp [ydg,ment,hm.caps 2 om]
 have f2:ydg 3 ((2,.lp 2 0)::yfn 0 [AV.fm g caps])=true:=by
  show ydg 3 [(2,.lp 2 0),(0,.fm g caps)]=true;simp [ydg,ment,hm.caps 3 om]
 refine ztx (zzt ?_);refine ybi (lf:=lfT) rfl ?_;refine zA (h1:=f1) (h2:=hm.fresh 2 om) ?_;refine zA (h1:=f2) (h2:=xbn rfl rfl (hm.fresh 3 om)) ?_;refine zmy ?_;show AF _ _ _ _ (S _ _);refine ztx ?_;refine yqe (lf:=lfT) 1 rfl rfl rfl rfl rfl rfl (fun d h=>by cases h) ?_;refine zF ?_;refine zmy ⟨rfl,_,_,_,⟨_,Tryz.func131,rfl,rfl⟩,rfl,rfl,fun x hx=>?_,?_⟩
 .have:∀ y,yaj ((4,.fn 131 [.lp 2 0,.lp 3 0])::(3,.lp 3 0)::(2,.lp 2 0)::yfn 0 [AV.fm g caps]) x≠some y:=fun y hy=>by
   simp only [yaj,yfn] at hy
   (repeat' split at hy)
   all_goals first|(rename_i hb;have:=qaf hb;omega)|cases hy
  cases hq:yaj ((4,.fn 131 [.lp 2 0,.lp 3 0])::(3,.lp 3 0)::(2,.lp 2 0)::yfn 0 [AV.fm g caps]) x with
  | none=>exact hq
  | some y=>exact absurd hq (this y)
 show Lex _ _ _ _ _ [] _;refine .nil ?_;show A _ _ _ _ _;refine ynu (s':=S [(0,.fm g caps),(2,.lp 2 0),(3,.lp 3 0),(1000000,.lp 2 0),(1000001,.lp 3 0)] _) ?_ ⟨zfw ⟨rfl,rfl,rfl,rfl,rfl,trivial⟩,fun id x h=>h⟩;have hk0:=hm.keys;have hbig:∀ i,i < 1000->∀ j∈ycb (hs++hs'),Nat.beq i j=false:=fun i hi j hj=>ycr (by have:=hk0 j hj;omega);refine ynb ?_;refine ybi (lf:=lfT) rfl ?_;refine zC ?_;refine L_callIm (pre:=[_,_]) (t':=[(2,.lp 2 0),(3,.lp 3 0),(1000000,.lp 2 0),(1000001,.lp 3 0)]) hc rfl rfl (znj hk0) hm.only (fun x y hy=>⟨ybo zs x y hy,fun i hi=>?_⟩) rfl rfl rfl ?_
 .simp only [yaj] at hy
  (repeat' split at hy)
  all_goals first|(cases hy;exact hbig _ om i hi)|cases hy
 refine zY ?_;refine ykj ?_;refine zhu (h':=hs') (args0:=[.lp 1002 0,.lp 1003 0]) [(1002,2),(1003,3)] rfl rfl rfl ⟨rfl,rfl,trivial⟩ (zaf 0 0) rfl rfl rfl rfl (yaa rfl (yaa rfl yag)) rfl (fun j ob hj hob=>⟨fun i hi=>(yer (hm.fresh2 i (xgc hi))).2 j ob hob,ob,?_,.inl rfl⟩) rfl (yfa _) (fun id o ho=>?_)
 .refine (yju (f:=[(3,_),(2,_),(3,_),(2,_)]) ?_).trans hob;simp [ycb,ycc] at hj ⊢;omega
 refine (yju (f:=yox _ _ _) ?_).trans ho;have:=hk0 id (by simp only [ycb,qbu,qau];exact .inr (yev (by rw [ho];rfl)));simp [ycb,yox];omega
end
end
section
open Go.RowKit
theorem zll:∀ (x:AV),ment i x=true->i∈zou x
 | .v _,h=>by simp [ment] at h
 | .any,h=>by simp [ment] at h
 | .one,h=>by simp [ment] at h
 | .sl _ _,h=>by simp [ment] at h
 | .dp _ _,h=>by simp [ment] at h
 | .mv _,h=>by simp [ment] at h
 | .lp j o,h=>by simp only [zou,qaq];exact (qaf h).symm
 | .ls j _ _,h=>by simp only [zou,qaq];exact (qaf h).symm
 | .mp j,h=>by simp only [zou,qaq];exact (qaf h).symm
 | .agg cs,h=>by simpa [zou] using rows cs (by simpa [ment] using h)
 | .tup cs,h=>by simpa [zou] using rows cs (by simpa [ment] using h)
 | .fn _ cs,h=>by simpa [zou] using rows cs (by simpa [ment] using h)
 | .fm _ cs,h=>by simpa [zou] using rows cs (by simpa [ment] using h)
 where rows:∀ (cs:List AV),ment.mentL i cs=true->i∈zou.idsL cs
 | [],h=>by simp [ment.mentL] at h
 | c::cs,h=>by
  simp only [ment.mentL,qcm] at h;simp only [zou.idsL,qau];exact h.imp (zll c) (rows cs)
def xlq (l:List Nat):Bool:=l.all fun i=>Nat.ble 1000 i
def xhx:HL->Bool
 | []=>true
 | (i,o)::l=>Nat.ble 1000 i && ((match o with
  | some o=>xlq (xlc o)
  | none=>true) && xhx l)
theorem zut {l:List Nat} (h:xlq l=true) (hi:i < 1000):i ∉ l:=fun hm=>by
 have:=List.all_eq_true.1 h i hm;simp only [qdj] at this;omega
theorem mentO_ids {o:LObj} (h:yeb i o=true):i∈xlc o:=by
 cases o <;> simp only [yeb,xlc] at h ⊢ <;> first|exact zll.rows _ h|cases h
theorem yyd (hi:i < 1000):∀ {l:HL},xhx l=true->ybv i l=true
 | [],_=>rfl
 | (k,o)::l,h=>by
  simp only [xhx,qac,qdj] at h;have ih:=yyd hi h.2.2;have hk:Nat.beq i k=false:=ycr om;simp only [ybv,hk];cases o with
  | none=>exact ih
  | some o=>
   cases hm:yeb i o with
   | true=>exact absurd (mentO_ids hm) (zut h.2.1 hi)
   | false=>simp only [hm];exact ih
def zww (ks:List Nat):HL->Bool
 | []=>true
 | (_,o)::l=>(match o with
  | some o=>ypg ks o
  | none=>true) && zww ks l
theorem zpu {ks:List Nat}:∀ {l:HL},zww ks l=true->∀ id o,yac l id=some o->ypg ks o=true
 | [],_,id,o,h=>by simp [yac] at h
 | (k,x)::l,hb,id,o,h=>by
  simp only [zww,qac] at hb;simp only [yac] at h;cases he:Nat.beq id k with
  | true=>rw [he] at h;simp only at h;subst h;exact hb.1
  | false=>rw [he] at h;exact zpu hb.2 id o h
def xkv (caps:List AV) (hs hs':HL):Bool:=xhx hs && (xhx hs' && (xlq (zou.idsL caps) && zww (ycb (hs++hs')) hs'))
theorem xav {g:FuncId} {caps:List AV} {hs hs':HL} (h:xkv caps hs hs'=true):CatMem g caps hs hs':=by
 simp only [xkv,qac] at h;obtain ⟨h1,h2,h3,h4⟩:=h;have key:∀ {l:HL},xhx l=true->∀ i∈ycb l,1000<=i:=by
  intro l;induction l with
  | nil=>intro _ i hi;simp [ycb] at hi
  | cons a l ih=>
   obtain ⟨k,o⟩:=a;intro hb i hi;simp only [xhx,qac,qdj] at hb;simp only [ycb,qcl,qas] at hi;rcases hi with rfl|hi
   .exact hb.1
   exact ih hb.2.2 i hi
 refine ⟨fun i hi=>?_,fun i hi=>?_,fun i hi=>yyd hi h1,fun i hi=>yyd hi h2,zpu h4⟩
 .rw [ycb,qbu,qau] at hi;exact hi.elim (key h1 i) (key h2 i)
 cases hm:ment.mentL i caps with
 | false=>rfl
 | true=>exact absurd (zll.rows _ hm) (zut h3 hi)
def klC (K:Calls0) (f:FuncId) (xs:List AV) (hs:HL):Option (AV × HL):=
 match Nat.beq f 73 with
 | true=>match xs with
  | [.fn g caps]=>match K.lent g caps hs with
   | some (.tup [],hs')=>match xkv caps hs hs' with
    | true=>some (.tup [i64 0,i64 0],hs')
    | false=>none
   | _=>none
  | [.fm g caps]=>match K.lent g caps hs with
   | some (.tup [],hs')=>match xkv caps hs hs' with
    | true=>some (.tup [i64 0,i64 0],hs')
    | false=>none
   | _=>none
  | _=>none
 | false=>none
theorem klC_ok (K:Calls0) (hK:CallsOk prog K) (f:FuncId) (xs:List AV) (hs:HL) (r:AV) (hs':HL) (h:klC K f xs hs=some (r,hs')):yot prog f xs (yac hs) r (yac hs'):=by
 unfold klC at h;split at h
 .rename_i hf;rw [qaf hf];split at h
  .split at h
   .rename_i q hc;split at h
    .rename_i hb;simp only [Option.some.injEq,Prod.mk.injEq] at h;obtain ⟨rfl,rfl⟩:=h;exact catch_ok (hK.lent _ _ _ _ _ hc) (xav hb)
    cases h
   cases h
  .split at h
   .rename_i q hc;split at h
    .rename_i hb;simp only [Option.some.injEq,Prod.mk.injEq] at h;obtain ⟨rfl,rfl⟩:=h;exact catchm_ok (hK.lent _ _ _ _ _ hc) (xav hb)
    cases h
   cases h
  cases h
 cases h
end
section
open Go.RowKit
theorem getN' {α:Type} {l:List α} (h:k < l.length):∃ x,l[k]?=some x:=⟨_,qae h⟩
theorem A_matVec {P:Program} {N:Nat} {c:Code} {Q:Exit->SS->Prop} {t:List (Nat × AV)} {h:List (Nat × Option LObj)} (id:Nat) {xs:List AV} (hx:yac h id=some (.mcells xs)) (hp:∀ y∈xs,yar y=true) (k:A P N c Q (S t ((id,some (.vec xs))::h))):A P N c Q (S t h):=by
 intro B ok0 lv a w hs;refine k B ok0 lv a w ⟨⟨hs.inv.base,hs.inv.ok0lt,fun j hj=>?_,hs.inv.inj,fun j x hj=>?_⟩,hs.size,hs.frame,hs.defers,hs.big,fun j b ws hN hj hc hb=>?_⟩
 .refine hs.inv.dom j ?_;simp only [S,yac] at hj ⊢;split at hj
  .cases hj
  exact hj
 .simp only [S,yac] at hj;split at hj
  .rename_i hb;cases hj;have e:=qaf hb;subst e;obtain ⟨b,n,h1,h2⟩:=hs.inv.obj j _ hx;refine ⟨b,n,h1,?_⟩;cases b with
   | none=>simp [ygb] at h2
   | some b=>exact ⟨h2.1,h2.2.1,h2.2.2,hp⟩
  exact hs.inv.obj j x hj
 simp only [S,yac] at hj;split at hj
 .cases hj;cases hc
 exact hs.pin j b ws hN hj hc hb
theorem leaf_own (op a:Int):yot prog 264 [i64 op,i64 a] (yac []) (.ls 1002 2 1) (yac [(1002,some (.vec [i64 op,i64 a]))]):=by
 refine ynh tok Tryz.func264 rfl rfl ntmps264 Tryz.results264 rfl (fun id o ho hc=>?_) ?_
 .simp only [yac] at ho;cases h1:Nat.beq id 1002 with
  | true=>simp only [h1,Option.some.injEq] at ho;subst ho;cases hc
  | false=>simp only [h1] at ho;cases ho
 show A _ _ _ _ (S _ _);refine zt ?_;refine ybi (lf:=lfT) rfl ?_;refine zO ?_;refine zt ?_;refine ybi (lf:=lfT) rfl ?_
 (repeat (first|refine zC ?_|refine zU ?_))
 refine zkc tok 1002 rfl rfl rfl rfl rfl rfl ⟨rfl,fun x y h=>?_,fun j ob h=>by cases h⟩ rfl rfl rfl rfl ?_
 .exact (ype (id:=1002) rfl) x y h
 refine zO ?_;refine zt ?_;refine A_matVec 1002 rfl (by intro y hy;simp [yit,ykr] at hy;rcases hy with rfl|rfl <;> rfl) ?_;refine ykj ?_;exact ⟨_,rfl,yfa _,yai (yaa rfl yag)⟩
theorem terms_flat (l:List Tm):(l.map ykd).flatten.length=l.length * 2:=by
 induction l with
 | nil=>rfl
 | cons t l ih=>simp only [qcl,qci,qao,ih,qaj,ykd,qeb];omega
theorem zjo (l:List Tm):∀ c∈(l.map ykd).flatten,yar c=true:=by
 intro c hc;simp only [qda,qag] at hc;obtain ⟨r,⟨t,_,rfl⟩,hc⟩:=hc;simp only [ykd,qas,qdu,or_false] at hc;rcases hc with rfl|rfl <;> rfl
def zkl (es:List (List Tm)):AV:=.sl 1 (es.map fun e=>[ybk e])
theorem operation_con (op:Int) (es:List (List Tm)) (hl:es.length<=10) (h1:es.flatten.length<=1000000):Con prog 235 [i64 op,zkl es] (ybk ((op,0)::es.flatten)):=by
 refine ze Tryz.func235 ntmps235 Tryz.results235 ?_;refine zt ?_;refine ybi (lf:=lfT) rfl ?_;refine zO ?_;refine zt ?_;refine ybi (lf:=lfT) rfl ?_;refine zO ?_;refine yxy [(1002,9)] (leaf_own op 0) rfl rfl rfl rfl rfl rfl rfl (yag) rfl rfl rfl rfl rfl rfl ?_;refine zO ?_;refine zY ?_;refine ybl (α:=Nat) (fun k=>[(5,.ls 9 2 (1+(es.take k).flatten.length)),(12,i64 (k:Int)),(11,i64 (es.length:Int)),(10,zkl es)]) (fun k=>[(9,some (.vec ((((op,0)::(es.take k).flatten).map ykd).flatten)))]) (fun k=>es.length - k) (fun k=>k<=es.length) 0 om zs (yaa rfl yag) ?_;intro k hk;refine zY ?_;refine zj ?_ ?_ <;> intro h2
 .have h2:k < es.length:=by simpa using h2
  obtain ⟨e,he⟩:=getN' h2;have hfl:(es.take (k+1)).flatten=(es.take k).flatten++e:=by
   rw [qga,he];simp
  have hle:(es.take (k+1)).flatten.length<=es.flatten.length:=by
   conv=>rhs;rw [<- qcg (k+1) es,qea,qao]
   omega
  rw [hfl,qao] at hle;refine zY ?_;refine zmw tok (id:=9) (t':=[(12,i64 (k:Int)),(11,i64 (es.length:Int)),(10,zkl es)]) rfl rfl (by rw [terms_flat];simp;omega) rfl (zjo e) (by rw [qal];constructor <;> omega) (by (repeat (first|exact yxf|refine yss rfl rfl ?_))) rfl rfl rfl rfl ?_;refine zY ?_;have e1:1+(es.take k).flatten.length+(e.map ykd).length=1+(es.take (k+1)).flatten.length:=by rw [hfl,qao,qal];omega
  have e2:(((op,0)::(es.take k).flatten).map ykd).flatten++(e.map ykd).flatten=(((op,0)::(es.take (k+1)).flatten).map ykd).flatten:=by rw [hfl];simp
  rw [e1,e2];exact rnd (k+1) om om zs (yaa rfl yag)
 have h2:es.length<=k:=by simpa using h2
 rw [qak h2];refine zk ?_;refine Frz.ls rfl (by rw [qal,qaj];omega) (fun row hr=>by obtain ⟨t,_,rfl⟩:=qag.1 hr;rfl) rfl fun x hx i=>yar.ment (zjo ((op,0)::es.flatten) x hx)
end
section
open Go.RowKit
def xja:List (List AV)->Option (List Tm)
 | []=>some []
 | [.v (.int .i64 a),.v (.int .i64 b)]::l=>match xja l with
  | some r=>some ((a,b)::r)
  | none=>none
 | _=>none
theorem ztr:∀ {l:List (List AV)} {r:List Tm},xja l=some r->l=r.map ykd
 | [],r,h=>by simp only [xja,Option.some.injEq] at h;subst h;rfl
 | x::l,r,h=>by
  unfold xja at h;split at h
  .rename_i e;cases e
  .rename_i a b l' e;cases e;split at h
   .rename_i r' hr;simp only [Option.some.injEq] at h;subst h;rw [ztr hr];rfl
   cases h
  cases h
def xjn:List (List AV)->Option (List (List Tm))
 | []=>some []
 | [.sl 2 rows]::l=>match xja rows,xjn l with
  | some e,some r=>some (e::r)
  | _,_=>none
 | _=>none
theorem xbi:∀ {l:List (List AV)} {r:List (List Tm)},xjn l=some r->l=r.map fun e=>[ybk e]
 | [],r,h=>by simp only [xjn,Option.some.injEq] at h;subst h;rfl
 | x::l,r,h=>by
  unfold xjn at h;split at h
  .rename_i e;cases e
  .rename_i rows l' e;cases e;split at h
   .rename_i e r' h1 h2;simp only [Option.some.injEq] at h;subst h;rw [xbi h2,ztr h1];rfl
   cases h
  cases h
def knO (f:FuncId) (xs:List AV):Option AV:=
 match Nat.beq f 235 with
 | true=>match xs with
  | [.v (.int .i64 op),.sl 1 rows]=>match xjn rows with
   | some es=>match Nat.ble es.length 10 && Nat.ble es.flatten.length 1000000 with
    | true=>some (ybk ((op,0)::es.flatten))
    | false=>none
   | none=>none
  | _=>none
 | false=>knI f xs
theorem knO_ok (f:FuncId) (xs:List AV) (r:AV) (h:knO f xs=some r):Con prog f xs r:=by
 unfold knO at h;split at h
 .rename_i hf;split at h
  .rename_i op rows;split at h
   .rename_i es he;split at h
    .rename_i hb;simp only [qac,qdj] at hb;simp only [Option.some.injEq] at h;subst h;rw [qaf hf,xbi he];exact operation_con op es hb.1 hb.2
    cases h
   cases h
  cases h
 exact knI_ok _ _ _ h
end
section
open Go.RowKit
def colT:Bs:=[112,114,111,103,114,97,109,32,99,111,108,111,117,114,115,59,32,118,97,114,32,99,32,58,32,48,32,46,46,32,110,59,32,114,117,108,101,32,102,105,120,58,32,115,111,109,101,40,113,46,99,32,61,61,32,99,41,32,45,62,32,99,32,58,61,32,109,101,120,40,113,46,99,41,59]
def zyw:ProgD:={ name:=ba [99,111,108,111,117,114,115],vars:=[{ name:=ba [99],kind:=1,lo:=0,hi:=0,perNode:=1,perID:=0 }],rules:=[{ name:=ba [102,105,120],guard:=[(21,0),(35,0),(12,0),(5,0)],sets:=[{ var:=0,val:=[(27,0),(12,0)] }] }] }
theorem col_light:ylt zyw=true:=by kernel_rfl
theorem xay:yio zyw:=by
 refine ⟨by (try unfold yxp);decide,fun x hx=>?_,fun r hr=>?_⟩
 .simp only [zyw,qas,qdu,or_false] at hx;subst hx;exact ⟨by (try unfold yxp);decide,by (try unfold yxp);decide,by (try unfold yxp);decide,by (try unfold yxp);decide,by (try unfold yxp);decide,by (try unfold yxp);decide⟩
 simp only [zyw,qas,qdu,or_false] at hr;subst hr;refine ⟨by (try unfold yxp);decide,fun t ht=>?_,fun s hs=>?_⟩
 .simp only [qas,qdu,or_false] at ht;rcases ht with rfl|rfl|rfl|rfl <;> exact ⟨by (try unfold yxp);decide,by (try unfold yxp);decide⟩
 simp only [qas,qdu,or_false] at hs;subst hs;refine ⟨by (try unfold yxp);decide,fun t ht=>?_⟩;simp only [qas,qdu,or_false] at ht;rcases ht with rfl|rfl <;> exact ⟨by (try unfold yxp);decide,by (try unfold yxp);decide⟩
def xkx:RuleD:={ name:=ba [102,105,120],guard:=[(21,0),(35,0),(12,0),(5,0)],sets:=[{ var:=0,val:=[(27,0),(12,0)] }] }
theorem colnamed_con:Con prog 140 [yhb zyw] (yay true):=by
 have:=ziz zyw xay dc dc
 rwa [show ygz zyw=true by kernel_rfl] at this
theorem colformed_con:Con prog 142 [.agg (ybg xkx),i64 1] (yay true):=by
 have:=zic xkx 1 (xay.2.2 _ (qaq.2 rfl)) ⟨dc,dc,fun s hs=>by
  obtain rfl:=qaq.1 hs
  decide⟩ dc
 rwa [show yfv xkx (1:Nat)=true by kernel_rfl] at this
def isChk (f:FuncId):Bool:=Nat.beq f 75
def isMap (f:FuncId):Bool:=Nat.beq f 140 || Nat.beq f 142
def knC (f:FuncId) (xs:List AV):Option AV:=
 match isMap f with
 | true=>match (Nat.beq f 140 && eqA.eqL xs [yhb zyw]) || (Nat.beq f 142 && eqA.eqL xs [.agg (ybg xkx),i64 1]) with
  | true=>some (yay true)
  | false=>none
 | false=>match Nat.beq f 105 with
  | true=>match xs with
   | [.sl 2 rows,.v (.int .i64 n)]=>match xja rows with
    | some l=>match Nat.ble l.length 1000 with
     | true=>some (yay (ycm l n))
     | false=>none
    | none=>none
   | _=>none
  | false=>knO f xs
theorem knC_ok (f:FuncId) (xs:List AV) (r:AV) (h:knC f xs=some r):Con prog f xs r:=by
 unfold knC at h;split at h
 .split at h
  .rename_i he;simp only [Option.some.injEq] at h;subst h;simp only [qcm,qac] at he;rcases he with ⟨h1,h2⟩|⟨h1,h2⟩
   .rw [qaf h1,zhv.row _ _ h2];exact colnamed_con
   rw [qaf h1,zhv.row _ _ h2];exact colformed_con
  cases h
 split at h
 .rename_i hf;split at h
  .rename_i rows n;split at h
   .rename_i l he;split at h
    .rename_i hb;simp only [Option.some.injEq] at h;subst h;rw [qaf hf,ztr he];exact zmo l n (Nat.le_of_ble_eq_true hb)
    cases h
   cases h
  cases h
 exact knO_ok _ _ _ h
theorem colparse_con:Con prog 28 [ynt (ba colT)] (.tup [yhb zyw,i64 0,i64 0]):=
 con_run ysy tok knC_ok klC_ok (F:=1000) (fz:=isChk) 40 kf
end
set_option maxHeartbeats 8000000
section
open Go.RowKit
theorem xcl (a:Int):Con prog 170 [i64 a] (yay false):=by
 refine ze Tryz.func170 ntmps170 Tryz.results170 ?_;refine zk ?_;exact yae sm
def xew (a b:Int):Int:=if a < b then -1 else if b < a then 1 else 0
theorem cmp_con (a b:Int):Con prog 109 [i64 a,i64 b] (i64 (xew a b)):=by
 refine ze Tryz.func109 ntmps109 Tryz.results109 ?_
 (repeat (first|refine zy ?_|refine zc (xcl a) ?_|refine zc (xcl b) ?_))
 refine zj ?_ ?_ <;> intro h1
 .refine zk ?_;exact yaf (by simp at h1;rw [xew,if_pos h1])
 refine zY ?_;refine zj ?_ ?_ <;> intro h2
 .refine zk ?_;exact yaf (by simp at h1 h2;rw [xew,if_neg om,if_pos h2])
 refine zk ?_;exact yaf (by simp at h1 h2;rw [xew,if_neg om,if_neg om])
theorem cmpV_cons {x y:Int} {a b:List Int}:zuz (x::a) (y::b)=if xew x y=0 then zuz a b else xew x y:=by
 unfold xew;rw [zuz];split
 .simp
 split <;> simp
theorem yoa {α:Type} {l:List α} {x:α} (h:l[k]?=some x):l.drop k=x::l.drop (k+1):=by
 obtain ⟨h1,h2⟩:=qaa.1 h;rw [qby h1,h2]
theorem compare_con (a b:List Int) (ha:a.length<=1000) (hb:b.length<=1000):Con prog 59 [yah a,yah b] (i64 (zuz a b)):=by
 refine ze Tryz.func59 ntmps59 Tryz.results59 ?_;refine zY ?_;refine ybl (α:=Nat) (fun k=>[(11,i64 k),(10,i64 a.length),(9,yah a),(0,yah a),(1,yah b)]) (fun k=>[]) (fun k=>a.length - k) (fun k=>k<=a.length/\k<=b.length/\zuz (a.drop k) (b.drop k)=zuz a b) 0 ⟨om,om,rfl⟩ zs yag ?_;rintro k ⟨hk,hkb,hc⟩;refine zY ?_;refine zj ?_ ?_ <;> intro h1
 .have h1:k < a.length:=by simpa using h1
  obtain ⟨x,hx⟩:=ybr h1;refine zY ?_;refine zj ?_ ?_ <;> intro h2
  .have h2:k=b.length:=by simp at h2;omega
   refine zk ?_;refine yaf ?_;rw [<- hc,yoa hx,h2,qcb,zuz]
  have h2:k < b.length:=by simp at h2;omega
  obtain ⟨y,hy⟩:=ybr h2;rw [yoa hx,yoa hy,cmpV_cons] at hc
  (repeat (first|refine zy ?_|refine zc (cmp_con x y) ?_))
  refine zj ?_ ?_ <;> intro h3
  .have h3:xew x y≠0:=by simpa using h3
   rw [if_neg h3] at hc;refine zk ?_;exact yaf hc
  have h3:xew x y=0:=by simpa using h3
  rw [if_pos h3] at hc;refine zY ?_;exact rnd (k+1) ⟨om,om,hc⟩ om zs yag
 have h1:k=a.length:=by simp at h1;omega
 rw [h1,qcb] at hc;refine zY ?_;refine zj ?_ ?_ <;> intro h4
 .have h4:a.length < b.length:=by simpa using h4
  obtain ⟨y,hy⟩:=ybr h4;rw [yoa hy,zuz] at hc;refine zk ?_;exact yaf hc
 have h4:b.length=a.length:=by simp at h4;omega
 rw [<- h4,qcb,zuz] at hc;refine zk ?_;exact yaf hc
theorem zwf (a b:List Int) (ha:a.length<=1000) (hb:b.length<=1000):Con prog 23 [yah a,yah b] (yay (ywa a b)):=by
 refine ze Tryz.func23 ntmps23 Tryz.results23 ?_;refine zY ?_;refine yam 10 rfl (fun h1=>?_) (fun h1=>?_)
 .have h1:a.length=b.length:=by simp at h1;omega
  (repeat (first|refine zy ?_|refine zc (compare_con a b ha hb) ?_))
  refine zr ?_;exact yae (by rw [ywa,h1];simp)
 have h1:a.length≠b.length:=by simp at h1;omega
 refine zk ?_;exact yae (by rw [ywa,beq_eq_false_iff_ne.2 h1];simp)
def yyq (l:List (List Tm)):AV:=.sl 1 (l.map fun e=>[ybk e])
def okE (p:ProgD) (e:List Tm):Bool:=ycm e p.vars.length && (ofF e (ybe p) false).1 == 1
def yfu (p:ProgD) (l:List (List Tm)):Bool:=yed p == 0 && decide (1<=l.length) && decide (l.length<=6) && l.all (okE p)
theorem zhr (p:ProgD) (hin:yio p) (hl:zcy p) (h6:p.vars.length<=1000) (l:List (List Tm)) (hs:∀ e∈l,e.length<=1000) (hll:l.length<=1000):Con prog 56 [yhb p,yyq l] (yay (yfu p l)):=by
 have hv:=zjp p hin hl;have hk:=zpa p h6;have e1:(l.map fun e=>[ybk e]).length=l.length:=qal ..;unfold yyq;cases h0:yed p == 0 with
 | false=>
  rw [h0] at hv;refine ze Tryz.func56 ntmps56 Tryz.results56 ?_;refine zZ ?_;refine zr ?_;exact yae (by rw [yfu,h0];rfl)
 | true=>
 rw [h0] at hv;refine ze Tryz.func56 ntmps56 Tryz.results56 ?_;refine zZ ?_;refine yam 18 rfl (fun q1=>?_) (fun q1=>?_)
 .have:l.length < 1:=by simp at q1;omega
  refine zk ?_;exact yae (by rw [yfu,decide_eq_false (show ¬ 1<=l.length by omega)];simp)
 have q1:1<=l.length:=by simp at q1;omega
 refine zY ?_;refine zj ?_ ?_ <;> intro q2
 .have:6 < l.length:=by simp at q2;omega
  refine zk ?_;exact yae (by rw [yfu,decide_eq_false (show ¬ l.length<=6 by omega)];simp)
 have q2:l.length<=6:=by simp at q2;omega
 have hcv:yfu p l=l.all (okE p):=by rw [yfu,h0,decide_eq_true q1,decide_eq_true q2];simp
 rw [hcv];refine zZ ?_;refine ybl (α:=Nat) (fun k=>[(27,i64 k),(26,i64 l.length),(25,.sl 1 (l.map fun e=>[ybk e])),(5,yah (ybe p)),(2,.lp 2 0)]) (fun k=>[(2,some (.cells [ynt p.name,.sl 6 (p.vars.map ybq),.sl 3 (p.rules.map ybg)]))]) (fun k=>l.length - k) (fun k=>k<=l.length/\∀ e∈l.take k,okE p e=true) 0 ⟨om,sm⟩ (by rw [<- e1];exact zs) zh ?_;rintro k ⟨hkl,hok⟩;refine zY ?_;refine zj ?_ ?_ <;> intro q3
 .have q3:k < l.length:=by simpa using q3
  obtain ⟨e,he⟩:=ybr q3;have hem:=qab he;have hes:=hs e hem;have hvl:=zmo e (p.vars.length:Int) hes;have hbad:okE p e=false->l.all (okE p)=false:=fun h=>qcd.2 ⟨e,hem,by rw [h];simp⟩;refine zZ ?_;refine zj ?_ ?_ <;> intro q4
  .have q4:ycm e p.vars.length=false:=by simpa using q4
   refine zk ?_;exact yae (by rw [hbad (by rw [okE,q4];rfl)])
  have q4:ycm e p.vars.length=true:=by simpa using q4
  (repeat (first|refine zy ?_|refine zc (xcs e (ybe p) false hes) ?_))
  refine zj ?_ ?_ <;> intro q5
  .have q5:¬ (ofF e (ybe p) false).1=1:=by simpa using q5
   refine zk ?_;exact yae (by rw [hbad (by rw [okE,beq_eq_false_iff_ne.2 q5];simp)])
  have q5:(ofF e (ybe p) false).1=1:=by simpa using q5
  refine zY ?_;refine rnd (k+1) ⟨om,fun e' he'=>?_⟩ om zs zh;rw [yan he] at he';rcases qau.1 he' with h|h
  .exact hok e' h
  rw [qaq.1 h,okE,q4,q5];rfl
 have q3:l.length<=k:=by simpa using q3
 rw [qak q3] at hok;refine zk ?_;exact yae (by rw [List.all_eq_true.2 hok])
def zqp (l:List (List Tm)):Bool:=l.all (fun e=>decide (e.length<=40)) && decide (0 < l.length)
theorem short_con (l:List (List Tm)) (hll:l.length<=1000):Con prog 17 [yyq l] (yay (zqp l)):=by
 have e1:(l.map fun e=>[ybk e]).length=l.length:=qal ..;unfold yyq;refine ze Tryz.func17 ntmps17 Tryz.results17 ?_;refine zY ?_;refine ybl (α:=Nat) (fun k=>[(3,i64 k),(0,.sl 1 (l.map fun e=>[ybk e]))]) (fun k=>[]) (fun k=>l.length - k) (fun k=>k<=l.length/\∀ e∈l.take k,e.length<=40) 0 ⟨om,sm⟩ zs yag ?_;rintro k ⟨hkl,hok⟩;refine zY ?_;refine zj ?_ ?_ <;> intro q1
 .have q1:k < l.length:=by simpa [e1] using q1
  obtain ⟨e,he⟩:=ybr q1;have hem:=qab he;refine zY ?_;refine zj ?_ ?_ <;> intro q2
  .have q2:40 < e.length:=by simp at q2;omega
   refine zk ?_;exact yae (by rw [zqp,qcd.2 ⟨e,hem,so⟩];rfl)
  have q2:e.length<=40:=by simp at q2;omega
  refine zY ?_;refine rnd (k+1) ⟨om,fun e' he'=>?_⟩ om zs yag;rw [yan he] at he';rcases qau.1 he' with h|h
  .exact hok e' h
  rw [qaq.1 h];exact q2
 have q1:l.length<=k:=by simpa [e1] using q1
 rw [qak q1] at hok;refine zk ?_;exact yae (by rw [zqp,List.all_eq_true.2 fun e he=>decide_eq_true (hok e he)];simp)
end
section
open Go.RowKit
theorem zqy:zyb g c e (k+1)=zyb g c e k+(⟨g,c,k⟩:Scn).of e:=by
 unfold zyb;rw [qcr,qbu,List.sum_append];simp
theorem xju (h:CfgOk p g c) {v:Nat} (hv:v < c.length) (ht:(ofF e (ybe p) false).1≠0):InV ((⟨g,c,v⟩:Scn).of e):=by
 obtain ⟨E,hp,hE,ho,hfl,hk,hval,hty⟩:=xia ht rfl;obtain ⟨ls,hls⟩:=h.links hv;have W:=h.walk hls (by rw [<- h.kinds];exact hval);unfold Scn.of;rw [hE];exact ypw W.ok E (fun x hx=>W.ha x (by rw [<- hfl];exact hx)) (by unfold InV yeu;omega)
theorem ztq (h:CfgOk p g c) (ht:(ofF e (ybe p) false).1≠0):∀ {k:Nat},k<=c.length->-(yeu * k)<=zyb g c e k/\zyb g c e k<=yeu * k
 | 0,_=>by simp [zyb]
 | k+1,hk=>by
  have ih:=ztq h ht (k:=k) om;have hb:=xju h (v:=k) om ht;rw [zqy];unfold InV at hb;have e1:yeu * ((k+1:Nat):Int)=yeu * (k:Int)+yeu:=by rw [show ((k+1:Nat):Int)=(k:Int)+1 by omega,Int.mul_add,Int.mul_one]
  omega
def vrw (g:GraphD) (c:List (List Int)) (l:List (List Tm)) (i:Nat) (s:Int):List Int:=ysv g c (l.take i)++s::List.replicate (l.length - i - 1) 0
theorem yxn:(ysv g c l).length=l.length:=by simp [ysv]
theorem vrw_len {s:Int} (hi:i < l.length):(vrw g c l i s).length=l.length:=by
 unfold vrw;rw [qao,yxn,qcf,qaj,qdk];omega
theorem vrw_at {s:Int} (hi:i < l.length):((vrw g c l i s).map i64)[(i:Int).toNat * 1]?=some (i64 s):=by
 have e:(i:Int).toNat * 1=i:=by simp
 have hl:(ysv g c (l.take i)).length=i:=by rw [yxn,qcf];omega
 rw [e,qah,vrw,qai om,hl,qbn];rfl
theorem vrw_set {s s':Int} (hi:i < l.length):((vrw g c l i s).map i64).set ((i:Int).toNat * 1) (i64 s')=(vrw g c l i s').map i64:=by
 have e:(i:Int).toNat * 1=i:=by simp
 have hl:(ysv g c (l.take i)).length=i:=by rw [yxn,qcf];omega
 rw [e,<- qeg,vrw,qbm _ _ om,hl,qbn];rfl
theorem vrw_start (hi:i < l.length):ysv g c (l.take i)++List.replicate (l.length - i) 0=vrw g c l i 0:=by
 unfold vrw;rw [show l.length - i=(l.length - i - 1)+1 by omega,qbo];simp
theorem vrw_end (he:l[i]?=some e):vrw g c l i (zyb g c e c.length)=ysv g c (l.take (i+1))++List.replicate (l.length - (i+1)) 0:=by
 unfold vrw;rw [yan he];simp [ysv,Nat.sub_sub]
theorem xfq.con {P:Program} {args:List AV} {r:AV} (h:xfq P f args r):Con P f args r:=
 ⟨h.1,h.2.1,fun ok0 w us hG hok hr=>(h.2.2 ok0 w us hG hok hr).mono fun e w' ⟨u,h1,h2,h3⟩=>⟨u,h1,h2.keep fun g hg=>⟨⟨.inr hg.1,hg.2⟩,rfl⟩,h3⟩⟩
theorem zjw (h:CfgOk p g c) (l:List (List Tm)) (hl:l.length<=1000) (ht:∀ e∈l,(ofF e (ybe p) false).1≠0):xfq prog 57 [yis p g,yds c,yyq l] (yah (ysv g c l)):=by
 have h24:=h.n24;have hcl:=h.len;have e1:(l.map fun e=>[ybk e]).length=l.length:=qal ..;have e2:(c.map fun x=>[yah x]).length=c.length:=qal ..;unfold yyq;refine xaz tok Tryz.func57 rfl rfl ntmps57 Tryz.results57 rfl rfl ?_
 (repeat (first|refine zy ?_|refine yqg tok rfl rfl rfl rfl co rfl rfl rfl rfl rfl ?_))
 refine ybl (α:=Nat) (fun i=>[(16,i64 i),(15,i64 l.length),(14,.sl 1 (l.map fun e=>[ybk e])),(7,.ls 13 1 l.length),(0,yis p g),(1,yds c)]) (fun i=>[(13,some (.vec ((ysv g c (l.take i)++List.replicate (l.length - i) 0).map i64)))]) (fun i=>l.length - i) (fun i=>i<=l.length) 0 om (by rw [<- e1];exact zs) ?_ ?_
 .refine yaa ?_ yag;rw [show ykr l.length (yit [Value.int .i64 0])=(List.replicate l.length 0).map i64 from (zxi _ _).trans (by simp [i64])];simp [yac,ysv]
 intro i hi;refine zY ?_;refine zj ?_ ?_ <;> intro h1
 .have h1:i < l.length:=by simpa using h1
  obtain ⟨e,he⟩:=ybr h1;have hte:=ht e (qab he);rw [vrw_start h1];refine zY ?_;refine ybl (α:=Nat) (fun v=>[(23,i64 v),(22,i64 c.length),(21,yds c),(9,ybk e),(8,i64 i),(16,i64 i),(15,i64 l.length),(14,.sl 1 (l.map fun e=>[ybk e])),(7,.ls 13 1 l.length),(0,yis p g),(1,yds c)]) (fun v=>[(13,some (.vec ((vrw g c l i (zyb g c e v)).map i64)))]) (fun v=>c.length - v) (fun v=>v<=c.length) 0 om (by rw [<- e2];exact zs) (yaa rfl yag) ?_;intro v hv;refine zY ?_;refine zj ?_ ?_ <;> intro h2
  .have h2:v < c.length:=by simpa using h2
   have hval:=zmi h h2 hte;have hb1:=ztq h hte (k:=v) om;have hb2:=xju h h2 hte;have hvl:=vrw_len (g:=g) (c:=c) (l:=l) (i:=i) (s:=zyb g c e v) h1;have hva:=vrw_at (g:=g) (c:=c) (l:=l) (i:=i) (s:=zyb g c e v) h1;unfold InV at hb2;unfold yeu at hb1 hb2
   (repeat (first|refine zz ?_|refine yaw tok rfl rfl rfl rfl om om rfl rfl ?_|refine yft (r:=i64 (zyb g c e v)) tok rfl rfl rfl rfl hva rfl rfl ?_|refine ykk tok rfl rfl rfl rfl rfl rfl (by rw [qal,hvl];simp;omega) rfl rfl rfl ?_))
   refine rnd (v+1) om om zs ?_;refine yaa ?_ yag;rw [zqy];exact congrArg (fun x=>some (LObj.vec x)) (vrw_set h1)
  have h2:v=c.length:=by simp at h2;omega
  subst h2;rw [vrw_end he];refine zY ?_;exact rnd (i+1) om om zs (yaa rfl yag)
 have h1:i=l.length:=by simp at h1;omega
 subst h1
 repeat (first|refine ycy ?_|refine ymi ?_)
 refine zY ?_;refine ykj ⟨_,rfl,?_⟩;refine zrj.ls (id:=13) (size:=1) (xs:=(ysv g c l).map i64) ?_ (by simp [ysv]) (fun row hr=>by obtain ⟨a,_,rfl⟩:=qag.1 hr;rfl) (ycz _) (fun row hr x hx=>by obtain ⟨a,_,rfl⟩:=qag.1 hr;exact ⟨_,qaq.1 hx⟩);show some _=some _;rw [qbn,qgm,qbe,qay]
theorem cvector_con (h:CfgOk p g c) (l:List (List Tm)) (hs:∀ e∈l,e.length<=1000) (hv:yfu p l=true):Con prog 22 [yhb p,yfm g,yds c,yyq l] (.tup [yah (ysv g c l),i64 0]):=by
 have hm:=ziu p g c h.fair h.cin;rw [h.chk] at hm;have h6:=h.vars6;have hv':=hv;unfold yfu at hv';simp only [qac,decide_eq_true_eq,List.all_eq_true] at hv';obtain ⟨⟨⟨_,_⟩,hl6⟩,hall⟩:=hv';have hcv:=zhr p h.fair.pin h.fair.light om l hs om;rw [hv] at hcv;have hvc:=zjw h l om fun e he=>by
  have:=hall e he;unfold okE at this;simp only [qac,beq_iff_eq] at this;omega
 refine ze Tryz.func22 ntmps22 Tryz.results22 ?_
 (repeat (first|refine zz ?_|refine zc (yqx p g h.graph) ?_|refine zc hvc.con ?_))
 exact zp
end
section
open Go.RowKit
section
variable {P:Program} {n:Nat} {ops:Array Oper} {Q:Exit->Act->World->Prop} {a:Act} {w:World}
theorem zwy {i d j:Nat} {rest:List Nat} {o:Oper} (u:Value) (hlt:d < a.tmps.size) (ho:ops[i]?=some o) (hdst:o.dst=some d) (hg:o.guard=some (j,b)) (hy:yielded ops a.tmps j=some b) (hd:yni o.op=false) (hr:(execOp a.eval o).run P w=.ok (.value u) w) (k:∀ a':Act,a'.tmps.size=a.tmps.size->a'.defers=a.defers->a'.eval (.tmp d)=u->(∀ x,x≠d->a'.eval (.tmp x)=a.eval (.tmp x))->wpOpsIn Fence.wide n P ops Q rest a' w):wpOpsIn Fence.wide n P ops Q (i::rest) a w:=by
 have hw:Region.wanted o (yielded ops a.tmps)=true:=by simp [Region.wanted,hg,hy]
 simp only [wpOpsIn,ho,hw,if_true];refine ynl (rd:=none) hd ?_;unfold Oper.wp;rw [hr];show wpOpsIn _ _ _ _ _ _ (a.put o.dst u) w;rw [hdst];exact k _ yhk yef (ycw hlt) fun x hx=>yff hx
theorem zlq {i d j:Nat} {rest:List Nat} {o:Oper} (hlt:d < a.tmps.size) (ho:ops[i]?=some o) (hdst:o.dst=some d) (hg:o.guard=some (j,b)) (hy:yielded ops a.tmps j=some (!b)) (k:∀ a':Act,a'.tmps.size=a.tmps.size->a'.defers=a.defers->(∀ x,x≠d->a'.eval (.tmp x)=a.eval (.tmp x))->wpOpsIn Fence.wide n P ops Q rest a' w):wpOpsIn Fence.wide n P ops Q (i::rest) a w:=by
 have hw:Region.wanted o (yielded ops a.tmps)=false:=by cases b <;> simp [Region.wanted,hg,hy]
 simp only [wpOpsIn,ho,hw];refine ⟨fun _ _=>trivial,?_⟩;rw [hdst];exact k _ yhk yef fun x hx=>yff hx
theorem opI_yieldOn {i j:Nat} {rest:List Nat} {o:Oper} {g:Operand} {args:Array Operand} {ats:Array TypeId} {l:Nat} {R:Ending->World->Prop} (ho:ops[i]?=some o) (hg:o.guard=some (j,b)) (hgy:yielded ops a.tmps j=some b) (hop:o.op=.call { callee:=.value g,args:=args,argTypes:=ats }) (hv:a.eval g=.func (.yield l) #[] #[]) (hy:YieldAt Fence.wide 0 P l (args.map a.eval) w R) (k:∀ e w',R e w'->∃ u,e=.returned u/\wpOpsIn Fence.wide n P ops Q rest (a.put o.dst u) w'):wpOpsIn Fence.wide n P ops Q (i::rest) a w:=by
 have hw:Region.wanted o (yielded ops a.tmps)=true:=by simp [Region.wanted,hg,hgy]
 simp only [wpOpsIn,ho,hw,if_true];obtain ⟨fn,tmps,assign,body,hrun,hround⟩:=hy;refine ⟨fun _ _=>trivial,?_⟩;have hrun2:(o.semAt (Fence.wide).round a.eval).run P w=.ok (.round l fn tmps assign body) w:=by
  show (execOp a.eval o).run P w=_;unfold execOp;simp only [hop,resolve,Deferred.ofValue,hv,Sem.run_bind,Sem.run_pure,Result.andThen_ok,invoke];simpa using hrun
 rw [hrun2];refine ⟨fun hc=>(by cases hc),?_⟩;have hround':RoundIn Fence.wide (n - 1) P l fn tmps assign body w R:=⟨trivial,fun c cs _=>hround.2 c cs (room_wide _)⟩;refine hround'.mono fun e w' hR=>?_;obtain ⟨u,rfl,hk⟩:=k e w' hR;exact hk
end
theorem ygw {ops:Array Oper} {a:Act} {d:Nat} {o:Oper} (ho:ops[j]?=some o) (hd:o.dst=some d) (hv:a.eval (.tmp d)=.bool b):yielded ops a.tmps j=some b:=by
 unfold yielded;rw [ho];show (match (o.dst).bind (a.tmps[·]?) with|some (.bool b)=>some b|_=>none)=_;rw [hd];show (match a.tmps[d]? with|some (.bool b)=>some b|_=>none)=_;simp only [Act.eval,qaw] at hv;cases h:a.tmps[d]? with
 | none=>rw [h] at hv;cases hv
 | some v=>rw [h] at hv;simp only [qcp] at hv;subst hv;rfl
def xcu (L:List Bool):List (List AV):=(yhg L).map fun k:Nat=>[i64 k]
def xey (L:List Bool) (k:Nat):Nat:=((List.range k).filter fun k=>!L.getD k false).length
theorem zny:xey L (k+1)=xey L k+if L.getD k false then 0 else 1:=by
 unfold xey;rw [qcr,qck,qao];cases h:L.getD k false with
 | true=>rw [qfc (by rw [h];simp)];rfl
 | false=>rw [qdt (by rw [h];rfl)];rfl
theorem cntO_at (hk:k < L.length) (h:L.getD k false=false):(yhg L)[xey L k]?=some k:=by
 have e:List.range L.length=List.range k++k::(List.range L.length).drop (k+1):=by
  conv=>lhs;rw [<- qcg k (List.range L.length)]
  rw [List.take_range,qfj om,qby (by simpa using hk),List.getElem_range]
 unfold yhg xey;rw [e,qck,qai (qbh _),qbn,qdt (by rw [h];rfl)];rfl
theorem zlr {el:List AV} (h:(xcu L)[j]?=some el):∃ k:Nat,(yhg L)[j]?=some k/\el=[i64 k]:=by
 unfold xcu at h;rw [qah] at h;cases hv:(yhg L)[j]? with
 | none=>rw [hv] at h;cases h
 | some v=>rw [hv] at h;cases h;exact ⟨v,rfl,rfl⟩
theorem zcb (L:List Bool):(xcu L).length=(yhg L).length:=by simp [xcu]
theorem zsx (L:List Bool) (p:Nat):∀ el∈xcu L,el.length=[p].length/\yar.pureL el=true:=by
 intro el h;obtain ⟨v,_,rfl⟩:=qag.1 h;exact ⟨rfl,rfl⟩
theorem zls (L:List Bool):zcs prog 102 [.dp [yme L] 0] (xcu L):=by
 refine ⟨⟨_,Tryz.func102,rfl,rfl⟩,fun l ok W us J X hok hcaps hJ hJg hXg hround h0=>?_⟩;obtain ⟨rows,hrw⟩:∃ rows,rows=L.map fun b=>[yay b]:=⟨_,rfl⟩;have hrl:rows.length=L.length:=by rw [hrw,qal]
 unfold yme at hcaps;rw [<- hrw] at hcaps;obtain ⟨pv,rfl,hp⟩:=zcc hcaps;obtain ⟨pg,po,hpv,hpok,hpc⟩:=ylm hp;rw [qdi] at hpv;subst hpv;obtain ⟨_,sv,hsv,hsr⟩:=hpc 0 (.sl 1 rows) rfl;obtain ⟨ad,cap,rfl,hrows⟩:=yzo hsr;rw [qdi] at hsv;have hcap:rows.length<=9223372036854775807:=by
  cases hsr with
  | sl ad cap u g q hn hc=>unfold maxLen at hc;omega
 have hload:(loadVar 30 ⟨pg,po,none⟩).run prog W=.ok (.slice ad rows.length cap) W:=by
  obtain ⟨u,h1,h2⟩:=yjl (P:=prog) (ok:=fun _=>True) (w:=W) (lv:=fun _=>none) (g:=pg) (o:=po) (xs:=[.v (.slice ad rows.length cap)]) (t:=30) (s:=1) (ag:=false) (r:=.v (.slice ad rows.length cap)) (tok _ _ (show TT 30=some _ from rfl)).1 (fun j x hx=>by
   match j with
   | 0=>simp only [qat,Option.some.injEq] at hx;subst hx;exact ⟨rfl,_,hsv,.v _⟩
   | j+1=>simp at hx) rfl
  cases h2;exact h1
 have hkind:=(tok _ _ (show TT 30=some _ from rfl)).2.2;refine callsIn_of_wp Tryz.func102 rfl trivial ?_;rw [ntmps102];refine wpIn_seq (wpIn_region ?_);rw [show (#[Value.func (.yield l) #[] #[]]++[Value.pointer (some ⟨pg,po,none⟩)].toArray:Array Value)=[Value.func (.yield l) #[] #[],Value.pointer (some ⟨pg,po,none⟩)].toArray by simp];generalize ha:({ tmps:=[Value.func (.yield l) #[] #[],Value.pointer (some ⟨pg,po,none⟩)].toArray++Array.replicate (21 - [Value.func (.yield l) #[] #[],Value.pointer (some ⟨pg,po,none⟩)].toArray.size) undef,defers:=[] }:Act)=a0;have hs0:a0.tmps.size=21:=by rw [<- ha];simp only [qgu,qgi,qcx,qaj,qeb]
 have e0:a0.eval (.tmp 0)=.func (.yield l) #[] #[]:=by rw [<- ha];simp only [Act.eval];exact yej [Value.func (.yield l) #[] #[],Value.pointer (some ⟨pg,po,none⟩)] _ 0 _ rfl
 have e1:a0.eval (.tmp 1)=.pointer (some ⟨pg,po,none⟩):=by rw [<- ha];simp only [Act.eval];exact yej [Value.func (.yield l) #[] #[],Value.pointer (some ⟨pg,po,none⟩)] _ 1 _ rfl
 have hd0:a0.defers=[]:=by rw [<- ha]
 clear ha;refine yhs (d:=5) (.slice ad rows.length cap) om rfl rfl rfl rfl (by simp [execOp,e1,Instr.loadAt,Instr.sureAddr,hload]) fun a1 s1 d1 q1 n1=>?_;refine yhs (d:=6) (.int .i64 rows.length) om rfl rfl rfl rfl (by simp [execOp,resolve,invoke,builtin,Builtin.len_,q1,run_underlying hkind.1,goInt]) fun a2 s2 d2 q2 n2=>?_;refine yhs (d:=7) (.int .i64 0) om rfl rfl rfl rfl (by simp [execOp,yfz]) fun a3 s3 d3 q3 n3=>?_;refine wpIn_block (wpIn_loop (fun a w=>∃ k,k<=rows.length/\J (xey L k) w/\a.tmps.size=21/\a.defers=[]/\a.eval (.tmp 0)=.func (.yield l) #[] #[]/\a.eval (.tmp 5)=.slice ad rows.length cap/\a.eval (.tmp 6)=.int .i64 rows.length/\a.eval (.tmp 7)=.int .i64 k) (fun a w=>(rows.length - intOf (a.eval (.tmp 7))).toNat) ⟨0,om,h0,om,by rw [d3,d2,d1,hd0],by rw [n3 0 sm,n2 0 sm,n1 0 sm,e0],by rw [n3 5 sm,n2 5 sm,q1],by rw [n3 6 sm,q2],by rw [q3];simp⟩ ?_);clear e0 e1 hs0 hd0 s1 d1 q1 n1 s2 d2 q2 n2 s3 d3 q3 n3 a0 a1 a2 a3;rintro a0 w ⟨k,hk,hj,hs0,hd0,e0,e5,e6,e7⟩;refine wpIn_seq (wpIn_region ?_);refine yhs (d:=8) (.bool (decide ((k:Int) < rows.length))) om rfl rfl rfl rfl (by simp [execOp,e7,e6,eqGuard,binOp,Op.intCmp]) fun a1 s1 d1 q1 n1=>?_;refine wpIn_seq (wpIn_cond_split q1 (fun hb=>?_) (fun hb=>?_))
 .simp only [decide_eq_true_eq] at hb;refine wpIn_skip ?_;obtain ⟨b,hbL⟩:=ybr (show k < L.length by omega);have hLg:L.getD k false=b:=by rw [qad,hbL];rfl
  obtain ⟨g,q,rfl,hgok,hcells⟩:=hrows k [yay b] (by rw [hrw,qah,hbL];rfl);have hcells':ync ok w (fun _=>none) g (q+k * 1) [yay b]:=fun j x hx=>by
   obtain ⟨c1,u,c2,c3⟩:=hcells j x hx;exact ⟨c1,u,(World.cell?_of_block (w:=W) ((hJ _ _ hj).2 g hgok)).trans c2,c3.keep fun g' hg'=>⟨hg',(hJ _ _ hj).2 g' hg'⟩⟩
  obtain ⟨uv,hu1,hu2⟩:=yjl (P:=prog) (r:=yay b) (tok _ _ (show TT 4=some _ from rfl)).1 hcells' rfl;cases hu2;refine wpIn_seq (wpIn_block (wpIn_seq (wpIn_region ?_)));refine yhs (d:=9) (.int .i64 k) om rfl rfl rfl rfl (by simp [execOp,n1,e7]) fun a2 s2 d2 q2 n2=>?_;obtain ⟨z,hz⟩:∃ z,q+k * 1=z:=⟨_,rfl⟩;rw [hz] at hu1;refine yhs (d:=10) (.pointer (some ⟨g,z,none⟩)) om rfl rfl rfl rfl (by
   have hrun:=yqs (P:=prog) (w:=w) (cap:=cap) (k:=.i64) hkind.1 hkind.2.1 g q rfl (i:=(k:Int)) (len:=rows.length) om om
   simp only [qct,hz] at hrun
   simp [execOp,n2,n1,e5,e7,hrun]) fun a3 s3 d3 q3 n3=>?_
  refine yhs (d:=11) (.bool b) om rfl rfl rfl rfl (by simp [execOp,q3,Instr.loadAt,Instr.sureAddr,hu1]) fun a4 s4 d4 q4 n4=>?_;refine yhs (d:=3) (.int .i64 k) om rfl rfl rfl rfl (by simp [execOp,n4,n3,q2]) fun a5 s5 d5 q5 n5=>?_;refine yhs (d:=4) (.bool b) om rfl rfl rfl rfl (by simp [execOp,n5,q4]) fun a6 s6 d6 q6 n6=>?_;refine wpIn_seq (wpIn_region ?_);refine yhs (d:=12) (.bool b) om rfl rfl rfl rfl (by simp [execOp,q6]) fun a7 s7 d7 q7 n7=>?_;refine yhs (d:=13) (.bool (!b)) om rfl rfl rfl rfl (by simp [execOp,q7,Op.unary]) fun a8 s8 d8 q8 n8=>?_;refine yhs (d:=14) (.bool (!b)) om rfl rfl rfl rfl (by simp [execOp,q8]) fun a9 s9 d9 q9 n9=>?_;have f0:a9.eval (.tmp 0)=.func (.yield l) #[] #[]:=by rw [n9 0 sm,n8 0 sm,n7 0 sm,n6 0 sm,n5 0 sm,n4 0 sm,n3 0 sm,n2 0 sm,n1 0 sm,e0]
  have f3:a9.eval (.tmp 3)=.int .i64 k:=by rw [n9 3 sm,n8 3 sm,n7 3 sm,n6 3 sm,q5]
  have f5:a9.eval (.tmp 5)=.slice (some ⟨g,q,none⟩) rows.length cap:=by rw [n9 5 sm,n8 5 sm,n7 5 sm,n6 5 sm,n5 5 sm,n4 5 sm,n3 5 sm,n2 5 sm,n1 5 sm,e5]
  have f6:a9.eval (.tmp 6)=.int .i64 rows.length:=by rw [n9 6 sm,n8 6 sm,n7 6 sm,n6 6 sm,n5 6 sm,n4 6 sm,n3 6 sm,n2 6 sm,n1 6 sm,e6]
  have f7:a9.eval (.tmp 7)=.int .i64 k:=by rw [n9 7 sm,n8 7 sm,n7 7 sm,n6 7 sm,n5 7 sm,n4 7 sm,n3 7 sm,n2 7 sm,n1 7 sm,e7]
  have fd:a9.defers=[]:=by rw [d9,d8,d7,d6,d5,d4,d3,d2,d1,hd0]
  have fs:a9.tmps.size=21:=by omega
  clear n1 n2 n3 n4 n5 n6 n7 n8 n9 q1 q2 q3 q4 q5 q6 q7 q8 s1 s2 s3 s4 s5 s6 s7 s8 s9 d1 d2 d3 d4 d5 d6 d7 d8 d9;cases b with
  | true=>
   have q9:a9.eval (.tmp 14)=.bool false:=q9;refine zlq (d:=15) om rfl rfl rfl (ygw (d:=14) rfl rfl q9) fun b1 s1 d1 n1=>?_;refine zlq (d:=16) om rfl rfl rfl (ygw (d:=14) rfl rfl (by rw [n1 14 sm];exact q9)) fun b2 s2 d2 n2=>?_;refine zlq (d:=17) om rfl rfl rfl (ygw (d:=14) rfl rfl (by rw [n2 14 sm,n1 14 sm];exact q9)) fun b3 s3 d3 n3=>?_;refine zlq (d:=18) om rfl rfl rfl (ygw (d:=14) rfl rfl (by rw [n3 14 sm,n2 14 sm,n1 14 sm];exact q9)) fun b4 s4 d4 n4=>?_;refine yhs (d:=19) (.bool false) om rfl rfl rfl rfl (by simp [execOp,n4,n3,n2,n1,q9,yfz,asBool]) fun b5 s5 d5 q5 n5=>?_;refine wpIn_cond_false q5 (wpIn_skip ?_);refine wpIn_region ?_;refine yhs (d:=20) (.int .i64 (k+1)) om rfl rfl rfl rfl (by simp [execOp,n5,n4,n3,n2,n1,f7,yfz,eqGuard,binOp,Op.intArith,IntWalk.i64_in ((k:Int)+1) om]) fun b6 s6 d6 q6 n6=>?_;refine yhs (d:=7) (.int .i64 (k+1)) om rfl rfl rfl rfl (by simp [execOp,q6]) fun b7 s7 d7 q7 n7=>?_;refine ⟨⟨k+1,om,by rw [zny,hLg];exact hj,om,by rw [d7,d6,d5,d4,d3,d2,d1,fd],by rw [n7 0 sm,n6 0 sm,n5 0 sm,n4 0 sm,n3 0 sm,n2 0 sm,n1 0 sm,f0],by rw [n7 5 sm,n6 5 sm,n5 5 sm,n4 5 sm,n3 5 sm,n2 5 sm,n1 5 sm,f5],by rw [n7 6 sm,n6 6 sm,n5 6 sm,n4 6 sm,n3 6 sm,n2 6 sm,n1 6 sm,f6],by rw [q7];simp⟩,?_⟩;rw [q7,e7];simp only [intOf];omega
  | false=>
   have q9:a9.eval (.tmp 14)=.bool true:=q9;refine zwy (d:=15) (.func (.yield l) #[] #[]) om rfl rfl rfl (ygw (d:=14) rfl rfl q9) rfl (by simp [execOp,f0]) fun b1 s1 d1 q1 n1=>?_;refine zwy (d:=16) (.int .i64 k) om rfl rfl rfl (ygw (d:=14) rfl rfl (by rw [n1 14 sm,q9])) rfl (by simp [execOp,n1,f3]) fun b2 s2 d2 q2 n2=>?_;have hel:(xcu L)[xey L k]?=some [i64 k]:=by rw [xcu,qah,cntO_at om hLg];rfl
   have hy:=hround _ _ [.int .i64 k] w hel hj ⟨rfl,fun j x u hx hu=>by
    match j with
    | 0=>simp only [qat,Option.some.injEq] at hx hu;subst hx hu;exact .v _
    | j+1=>simp at hx⟩
   refine opI_yieldOn (g:=.tmp 15) (args:=#[.tmp 16]) rfl rfl (ygw (d:=14) rfl rfl (by rw [n2 14 sm,n1 14 sm,q9])) rfl (by rw [n2 15 sm,q1]) (R:=fun e W'=>(e=.returned (.bool true)/\J (xey L k+1) W')\/(e=.returned (.bool false)/\X W')) (by simpa [q2] using hy) fun e w' hR=>?_;rcases hR with ⟨rfl,hj1⟩|⟨rfl,hx⟩
   .refine ⟨_,rfl,?_⟩;show wpOpsIn _ _ _ _ _ _ (b2.put (some 17) (.bool true)) w';have s3:(b2.put (some 17) (.bool true)).tmps.size=21:=by rw [yhk];omega
    have d3:(b2.put (some 17) (.bool true)).defers=[]:=by rw [yef,d2,d1,fd]
    have q3:(b2.put (some 17) (.bool true)).eval (.tmp 17)=.bool true:=ycw om;have n3:∀ x,x≠17->(b2.put (some 17) (.bool true)).eval (.tmp x)=b2.eval (.tmp x):=fun x hx=>yff hx;generalize b2.put (some 17) (.bool true)=b3 at s3 d3 q3 n3 ⊢;refine zwy (d:=18) (.bool false) om rfl rfl rfl (ygw (d:=14) rfl rfl (by rw [n3 14 sm,n2 14 sm,n1 14 sm,q9])) rfl (by simp [execOp,q3,Op.unary]) fun b4 s4 d4 q4 n4=>?_;refine yhs (d:=19) (.bool false) om rfl rfl rfl rfl (by simp [execOp,n4,n3,n2,n1,q9,q4,yfz,asBool]) fun b5 s5 d5 q5 n5=>?_;refine wpIn_cond_false q5 (wpIn_skip ?_);refine wpIn_region ?_;refine yhs (d:=20) (.int .i64 (k+1)) om rfl rfl rfl rfl (by simp [execOp,n5,n4,n3,n2,n1,f7,yfz,eqGuard,binOp,Op.intArith,IntWalk.i64_in ((k:Int)+1) om]) fun b6 s6 d6 q6 n6=>?_;refine yhs (d:=7) (.int .i64 (k+1)) om rfl rfl rfl rfl (by simp [execOp,q6]) fun b7 s7 d7 q7 n7=>?_;refine ⟨⟨k+1,om,by rw [zny,hLg];exact hj1,om,by rw [d7,d6,d5,d4,d3],by rw [n7 0 sm,n6 0 sm,n5 0 sm,n4 0 sm,n3 0 sm,n2 0 sm,n1 0 sm,f0],by rw [n7 5 sm,n6 5 sm,n5 5 sm,n4 5 sm,n3 5 sm,n2 5 sm,n1 5 sm,f5],by rw [n7 6 sm,n6 6 sm,n5 6 sm,n4 6 sm,n3 6 sm,n2 6 sm,n1 6 sm,f6],by rw [q7];simp⟩,?_⟩;rw [q7,e7];simp only [intOf];omega
   refine ⟨_,rfl,?_⟩;show wpOpsIn _ _ _ _ _ _ (b2.put (some 17) (.bool false)) w';have s3:(b2.put (some 17) (.bool false)).tmps.size=21:=by rw [yhk];omega
   have d3:(b2.put (some 17) (.bool false)).defers=[]:=by rw [yef,d2,d1,fd]
   have q3:(b2.put (some 17) (.bool false)).eval (.tmp 17)=.bool false:=ycw om;have n3:∀ x,x≠17->(b2.put (some 17) (.bool false)).eval (.tmp x)=b2.eval (.tmp x):=fun x hx=>yff hx;generalize b2.put (some 17) (.bool false)=b3 at s3 d3 q3 n3 ⊢;refine zwy (d:=18) (.bool true) om rfl rfl rfl (ygw (d:=14) rfl rfl (by rw [n3 14 sm,n2 14 sm,n1 14 sm,q9])) rfl (by simp [execOp,q3,Op.unary]) fun b4 s4 d4 q4 n4=>?_;refine yhs (d:=19) (.bool true) om rfl rfl rfl rfl (by simp [execOp,n4,n3,n2,n1,q9,q4,yfz,asBool]) fun b5 s5 d5 q5 n5=>?_;refine wpIn_cond_true q5 (wpIn_ret ?_);refine ⟨?_,.tuple #[],?_,⟨_,rfl⟩,.inr hx⟩
   .show b5.defers=[];rw [d5,d4,d3]
   simp [results,Tryz.results102]
 simp only [decide_eq_false_iff_not] at hb;obtain rfl:k=rows.length:=by omega
 refine wpIn_exit ?_;refine ⟨?_,.tuple #[],?_,⟨_,rfl⟩,.inl ?_⟩
 .show a1.defers=[];rw [d1,hd0]
 .simp [results,Tryz.results102]
 rw [zcb,show (yhg L).length=xey L rows.length by rw [hrl];rfl];exact hj
theorem yut (L:List Bool):Con prog 55 [yme L] (.fn 102 [.dp [yme L] 0]):=by
 refine ze Tryz.func55 ntmps55 Tryz.results55 ?_
 (repeat (first|with_reducible refine ydk ?_|with_reducible refine ycd ?_|refine ycy ?_));refine ynb ?_;refine ybi (lf:=lfT) rfl ?_
 refine zO ?_;refine zt ?_;refine yct 1 rfl rfl rfl rfl rfl ?_;exact zkp
end
section
open Go.RowKit
def atO (L:List Bool):Nat->Nat
 | 0=>0
 | j+1=>(yhg L).getD j 0
theorem outL_sorted (L:List Bool):(yhg L).Pairwise (· < ·):=qht _ List.pairwise_lt_range
theorem atO_le (h:(yhg L)[j]?=some k):atO L j<=k:=by
 cases j with
 | zero=>exact Nat.zero_le _
 | succ j=>
  have hj:=qaa.1 h;have hl:=hj.1;have e:(yhg L).getD j 0=(yhg L)[j]'om:=by rw [qad,qae om];rfl
  show (yhg L).getD j 0<=k;have hlt:=(qdc.1 (outL_sorted L)) j (j+1) om hj.1 om;rw [hj.2] at hlt;rw [e];exact Nat.le_of_lt hlt
def rsO (L:List Bool) (V:Nat->List Int) (j:Nat):List AV:=(List.range L.length).map fun k=>if k∈(yhg L).take j then yah (V k) else yfj
theorem xdn:(rsO L V j).length=L.length:=by simp [rsO]
theorem rsO_set (h:(yhg L)[j]?=some k):(rsO L V j).set k (yah (V k))=rsO L V (j+1):=by
 have hk:=(yph.1 (qab h)).1;apply qdm;intro i;by_cases hi:k=i
 .subst hi;rw [qdy (by rw [xdn];exact hk)];simp only [rsO,qah,qbw hk,qar,yan h];rw [if_pos (qgd _ (qgt _))]
 rw [qho hi];simp only [rsO,qah];by_cases hin:i < L.length
 .rw [qbw hin];have:¬ i=k:=fun e=>hi e.symm;simp only [qar,yan h,qau,qaq,this,or_false]
 rw [qcj (by simpa using hin)];rfl
theorem xdm (hk:k < L.length) (hL:L.getD k false=false):(rsO L V (yhg L).length)[k]?=some (yah (V k)):=by
 simp only [rsO,qah,qbw hk,qar,qay,if_pos (yph.2 ⟨hk,hL⟩)]
def zgk (L:List Bool) (V:Nat->List Int):AV:=.sl 1 ((rsO L V (yhg L).length).map fun x=>[x])
def vcF (n m at':Nat) (R:List AV):List (Nat × Option LObj):=[(14,some (.cells [i64 at'])),(12,some (.cells [.ls 53 1 m])),(9,some (.cells [.ls 18 1 n])),(18,some (.vec R))]
theorem keys_vcF {n m a:Nat} {R:List AV} (h:i∈ycb (vcF n m a R)):i=14\/i=12\/i=9\/i=18:=by
 simpa [ycb,vcF] using h
theorem ahead_vcF {n m a:Nat} {R:List AV} (tb:AV) (R1 R2:List (List AV)):∀ j ob,yac (vcF n m a R) j=some ob->(∀ i∈ycb (ybs 53 1 R1 []++ybs 53 1 R2 []),yeb i ob=false)\/∃ ys,ob=.cells ys/\∀ y∈ys,(∀ i∈ycb (ybs 53 1 R1 []++ybs 53 1 R2 []),ment i y=false)\/∃ i∈[1],∃ id sz len,0 < sz/\(yac (ybs 53 1 R1 []) id).isSome/\[tb,AV.ls 53 1 m][i]?=some (.ls id sz len)/\y=.ls id sz len:=by
 intro j ob h;simp only [vcF,yac] at h
 repeat' split at h
 all_goals first|(cases h;done)|skip
 all_goals cases h
 .exact .inl fun i hi=>rfl
 .refine .inr ⟨_,rfl,fun y hy=>.inr ⟨1,sm,53,1,m,om,by rw [yex];rfl,rfl,qaq.1 hy⟩⟩
 .refine .inl fun i hi=>?_;have:=ysf hi;simp [yeb,ment.mentL,ment,ycr (show 18≠i by omega)]
 exact .inl fun i hi=>rfl
theorem vectors_con (hf:Fair p g) (h0:ycn p g=0) (L:List Bool) (hL:L.length<=32768) (l:List (List Tm)) (hl:l.length<=1000) (ht:∀ e∈l,(ofF e (ybe p) false).1≠0):Con prog 99 [yhb p,yfm g,yme L,yyq l] (zgk L fun k=>ysv g (ybn (yad p g) k) l):=by
 have hg:=(ycv.1 h0).2.1;have htb:=ydf hf h0;have hconf:=yuf hf h0;have hcl:∀ k,(ybn (yad p g) k).length=(yad p g).length:=fun k=>by rw [(hconf k).len];simp [yad]
 have e1:(L.map fun b=>[yay b]).length=L.length:=qal ..;have htl:=htb.1;refine xgd Tryz.func99 rfl rfl ntmps99 Tryz.results99 rfl rfl ?_
 (repeat (first|with_reducible refine ydk ?_|with_reducible refine ycd ?_|refine ycy ?_));refine ynb ?_;refine ybi (lf:=lfT) rfl ?_
 refine zO ?_;refine zt ?_;refine ybi (lf:=lfT) rfl ?_
 (repeat (first|refine zo ?_|refine yqg tok rfl rfl rfl rfl co rfl rfl rfl rfl rfl ?_))
 refine zt ?_;refine ybi (lf:=lfT) rfl ?_
 (repeat (first|refine zo ?_|refine zc (yqx p g hg) ?_))
 refine zt ?_;refine ybi (lf:=lfT) rfl ?_
 (repeat (first|refine zo ?_|refine zc (yoq p g hf h0) ?_))
 refine zt ?_;refine yct 10 rfl rfl rfl rfl rfl ?_;refine yct 11 rfl rfl rfl rfl rfl ?_;refine yct 7 rfl rfl rfl rfl rfl ?_;refine yqf (t':=[(7,.dp [yyq l] 0),(10,.dp [yis p g] 0),(11,.dp [ydl (yad p g)] 0),(9,.lp 9 0),(2,yme L),(4,.lp 4 0),(5,.lp 5 0)]) (h':=[(9,some (.cells [.ls 18 1 L.length])),(18,some (.vec (rsO L (fun k=>ysv g (ybn (yad p g) k) l) 0))),(5,some (.cells [yah g.ids,yat g.ports])),(4,some (.cells [ynt p.name,.sl 6 (p.vars.map ybq),.sl 3 (p.rules.map ybg)]))]) ?_ zs (yai (yaa rfl (yaa ?_ (yaa rfl (yaa rfl yag)))));rotate_left
 .rw [show ykr L.length (yit [Value.slice none 0 0])=List.replicate L.length yfj from zxi _ _];simp [yac,rsO,List.map_const']
 (repeat (first|refine zy ?_|refine zub 53 (zpc p g hf h0) rfl rfl rfl rfl rfl rfl rfl rfl rfl rfl rfl rfl rfl ?_|refine zA ?_ (h2:=ypp (f:=[(9,_),(18,_),(5,_),(4,_)]) rfl rfl rfl rfl)|refine zA ?_ (h2:=ypp (f:=[(12,_),(12,_),(9,_),(18,_),(5,_),(4,_)]) rfl rfl rfl rfl)|refine zc (yut L) ?_))
 refine zcq (els:=xcu L) rfl (zls L) (zsx L 33) rfl [(9,.lp 9 0),(10,.dp [yis p g] 0),(11,.dp [ydl (yad p g)] 0),(7,.dp [yyq l] 0),(12,.lp 12 0),(14,.lp 14 0)] zs rfl (fun j=>vcF L.length (yad p g).length (atO L j) (rsO L (fun k=>ysv g (ybn (yad p g) k) l) j)++ybs 53 1 (yfq (ybn (yad p g) (atO L j))) []) (hsM (f:=[(14,_),(14,_),(12,_),(12,_),(9,_),(18,_),(5,_),(4,_)]) (f':=vcF _ _ _ _) (yaa rfl (yaa rfl (yaa rfl (yaa rfl yag)))) rfl rfl rfl) ?_ ?_
 .intro j el hel;obtain ⟨k,hk,rfl⟩:=zlr hel;obtain ⟨hkn,hkL⟩:=yph.1 (qab hk);refine zY ?_;refine ⟨rfl,?_⟩;refine zY ?_;refine ycx (α:=Nat) (fun q=>[(15,i64 k),(9,.lp 9 0),(10,.dp [yis p g] 0),(11,.dp [ydl (yad p g)] 0),(7,.dp [yyq l] 0),(12,.lp 12 0),(14,.lp 14 0),(1000009,.lp 9 0),(1000010,.dp [yis p g] 0),(1000011,.dp [ydl (yad p g)] 0),(1000007,.dp [yyq l] 0),(1000012,.lp 12 0),(1000014,.lp 14 0)]) (fun q=>vcF L.length (yad p g).length q (rsO L (fun k=>ysv g (ybn (yad p g) k) l) j)++ybs 53 1 (yfq (ybn (yad p g) q)) []) (fun q=>k - q) (fun q=>q<=k) (atO L j) (atO_le hk) zs (fun id o h=>h) ?_;intro q hq;refine zY ?_;refine zj ?_ ?_ <;> intro h1
  .have h1:q < k:=by simpa using h1
   have hadv:=zaa (yad p g) (ybn (yad p g) q) htb (hcl q) (fun v r zs hr hz=>by
    obtain ⟨b,hb',hs'⟩:=(hconf q).row hz
    rw [hr] at hb'
    cases hb'
    exact (ycg hs').1) (hconf q).bd
   (repeat (first|refine zy ?_|refine ztz [1] hadv rfl rfl rfl (fun i hi hk=>by have:=ysf hi;have:=keys_vcF hk;omega) (ahead_vcF _ _ _) (zwx _ _) (t':=[(15,i64 k),(9,.lp 9 0),(10,.dp [yis p g] 0),(11,.dp [ydl (yad p g)] 0),(7,.dp [yyq l] 0),(12,.lp 12 0),(14,.lp 14 0),(1000009,.lp 9 0),(1000010,.dp [yis p g] 0),(1000011,.dp [ydl (yad p g)] 0),(1000007,.dp [yyq l] 0),(1000012,.lp 12 0),(1000014,.lp 14 0)]) ?_ rfl rfl rfl ?_))
   .intro x y hxy;refine ⟨ybo zs x y hxy,?_⟩;simp only [yaj] at hxy
    repeat' split at hxy
    all_goals first|(cases hxy;done)|skip
    all_goals cases hxy
    all_goals first
     | exact .inl fun i hi=>rfl
     | exact .inl fun i hi=>ycr (by have:=ysf hi;omega)
   refine zY ?_;refine ylb (q+1) om om zs (hsM (f:=[(14,_),(14,_),(12,_),(9,_),(18,_)]) (f':=vcF _ _ _ _) (yaa rfl (yaa rfl (yaa rfl (yaa rfl yag)))) rfl rfl rfl)
  have h1:q=k:=by simp at h1;omega
  subst h1;have hvec:=zjw (hconf q) l hl ht;have hfz:zmv (yac (vcF L.length (yad p g).length q (rsO L (fun k=>ysv g (ybn (yad p g) k) l) j)++ybs 53 1 (yfq (ybn (yad p g) q)) [])) [yis p g,.ls 53 1 (yad p g).length,yyq l] [yis p g,yds (ybn (yad p g) q),yyq l]:=zmv.cons Frz.pure (zmv.cons (yum (f:=vcF _ _ _ _) (M:=53) rfl rfl rfl (hcl q).symm rfl) (zmv.cons Frz.pure zmv.nil))
  (repeat (first|refine zy ?_|refine zrv [yis p g,yds (ybn (yad p g) q),yyq l] hvec rfl rfl hfz rfl rfl ?_|refine yaw tok rfl rfl rfl rfl om om rfl rfl ?_|refine ykk tok rfl rfl rfl rfl rfl rfl (by rw [xdn];simp;omega) rfl rfl rfl ?_))
  have e14:atO L (j+1)=q:=by show (yhg L).getD j 0=q;rw [qad,hk];rfl
  have e18:=rsO_set (V:=fun k=>ysv g (ybn (yad p g) k) l) hk;refine xdg zs ?_;rw [e14,<- e18];exact hsM (f:=[(18,_),(14,_),(12,_),(9,_),(18,_)]) (f':=vcF _ _ _ _) (yaa rfl (yaa rfl (yaa rfl (yaa (by rw [show ((q:Int).toNat * 1)=q by simp];rfl) yag)))) rfl rfl rfl
 (repeat (first|with_reducible refine ydk ?_|with_reducible refine ycd ?_|refine ycy ?_|refine ymi ?_))
 rw [zcb];refine yqf (t':=[(9,.lp 9 0)]) (h':=[(9,some (.cells [.ls 18 1 L.length])),(18,some (.vec (rsO L (fun k=>ysv g (ybn (yad p g) k) l) (yhg L).length)))]) ?_ zs (fun id o h=>yew (yai (h:=vcF _ _ _ _) (yaa rfl (yaa rfl yag)) id o h));refine yeg 9 0 ((rsO L (fun k=>ysv g (ybn (yad p g) k) l) (yhg L).length).map fun x=>[x]) rfl rfl rfl (by simp [rsO]) (fun row hr=>by obtain ⟨a,_,rfl⟩:=qag.1 hr;rfl) ((ycz (f:=fun x:AV=>x) _).trans (List.map_id _)) rfl rfl rfl rfl ?_;exact zkp
end
section
open Go.RowKit
def zyz (p:ProgD) (g:GraphD) (s:SpcD) (L:List Bool) (l:List (List Tm)):AV:=
 if yfu p l then match zsa s L (fun k=>ysv g (ybn (yad p g) k) l) with
  | some k=>.tup [.sl 1 [],i64 k,i64 15]
  | none=>.tup [zgk L fun k=>ysv g (ybn (yad p g) k) l,i64 (-1),i64 0]
 else .tup [.sl 1 [],i64 0,i64 7]
theorem exaR_pure:yar (zyz p g s L l)=true:=by
 unfold zyz;split
 .split <;> rfl
 rfl
def xeu (s:SpcD) (L:List Bool) (V:Nat->List Int) (j:Nat):Bool:=((yhg L).take j).all fun k=>okC s L V k
theorem badK_next (h:(yhg L)[j]?=some k):xeu s L V (j+1)=(xeu s L V j && okC s L V k):=by
 unfold xeu;rw [yan h,qel];simp
theorem badK_all (h:xeu s L V (yhg L).length=true):zsa s L V=none:=by
 unfold xeu at h;rw [qay] at h;exact qdr.2 fun k hk=>by rw [List.all_eq_true.1 h k hk];simp
theorem zur (h:(yhg L)[j]?=some k) (h1:xeu s L V j=true) (h2:okC s L V k=false):zsa s L V=some k:=by
 unfold zsa;have hj:=(qaa.1 h).1;have e:yhg L=(yhg L).take j++k::(yhg L).drop (j+1):=by
  conv=>lhs;rw [<- qcg j (yhg L)]
  rw [yoa h]
 rw [e,List.find?_append,qdr.2 fun x hx=>by rw [List.all_eq_true.1 h1 x hx];simp,Option.none_or,qfk,h2];rfl
def exT (s:SpcD) (L:List Bool) (V:Nat->List Int):List (Nat × AV):=[(13,.dp [ynn (s.map (·.1)),.sl 1 (s.map fun x=>[yda x.2])] 0),(8,.dp [yme L] 0),(15,.dp [zgk L V] 0),(10,.lp 10 0),(11,.lp 11 0),(12,.lp 12 0)]
def exK (s:SpcD) (L:List Bool) (V:Nat->List Int) (j:Nat):List (Nat × Option LObj):=if xeu s L V j then [(10,some (.cells [yfj])),(11,some (.cells [i64 0])),(12,some (.cells [i64 0]))] else xkt
theorem zdo (hf:Fair p g) (h0:ycn p g=0) (hb:Con prog 26 [yhb p,yfm g,i64 kind] (zau (some s))) (hok:SpcOk s) (L:List Bool) (hL:L.length=s.length) (l:List (List Tm)) (hs:∀ e∈l,e.length<=1000) (hl:l.length<=1000):Con prog 51 [yhb p,yfm g,i64 kind,yme L,yyq l] (zyz p g s L l):=by
 have h6:=(yuf hf h0 0).vars6;have hcv:=zhr p hf.pin hf.light om l hs hl;obtain ⟨k1,k2,k3,k4⟩:=hok;have e1:(L.map fun b=>[yay b]).length=L.length:=qal ..;have e2:((s.map (·.1)).map fun B=>[ybd B]).length=s.length:=by simp
 refine ydv tok Tryz.func51 rfl rfl ntmps51 Tryz.results51 rfl exaR_pure ?_;cases hv:yfu p l with
 | false=>
  rw [hv] at hcv;refine zZ ?_;refine zr ?_;have:zyz p g s L l=.tup [.sl 1 [],i64 0,i64 7]:=by unfold zyz;rw [hv];rfl
  rw [this];exact Frz.tup3 Frz.nil Frz.pure Frz.pure
 | true=>
 rw [hv] at hcv;have hv':=hv;unfold yfu at hv';simp only [qac,decide_eq_true_eq,List.all_eq_true] at hv';obtain ⟨⟨⟨_,_⟩,hl6⟩,hall⟩:=hv';have hvs:=vectors_con hf h0 L om l hl fun e he=>by
  have:=hall e he;unfold okE at this;simp only [qac,beq_iff_eq] at this;omega
 obtain ⟨V,hV⟩:∃ V:Nat->List Int,V=fun k=>ysv g (ybn (yad p g) k) l:=⟨_,rfl⟩;have hVl:∀ k,(V k).length<=1000:=fun k=>by rw [hV];simp only [yxn];omega
 have hres:zyz p g s L l=match zsa s L V with
  | some k=>.tup [.sl 1 [],i64 k,i64 15]
  | none=>.tup [zgk L V,i64 (-1),i64 0]:=by unfold zyz;rw [if_pos hv,<- hV]
 have hbd:∀ k,zsa s L V=some k->zyz p g s L l=.tup [.sl 1 [],i64 k,i64 15]:=fun k hk=>by rw [hres,hk]
 rw [<- hV] at hvs;have hout:=yut L;refine zZ ?_;refine zj ?_ ?_ <;> intro q1
 .exfalso;simp at q1;omega
 refine zt ?_;refine ybi (lf:=lfT) rfl ?_
 (repeat (first|refine zo ?_|refine zc hvs ?_))
 refine zt ?_;refine yct 13 rfl rfl rfl rfl rfl ?_;refine yct 8 rfl rfl rfl rfl rfl ?_;refine yct 15 rfl rfl rfl rfl rfl ?_;refine zZ ?_;have hbadE:∀ {k:Nat},zsa s L V=some k->Frz (yac [(10,some (.cells [yfj])),(11,some (.cells [i64 k])),(12,some (.cells [i64 15]))]) (.tup [yfj,i64 k,i64 15]) (zyz p g s L l):=fun h=>by rw [hbd _ h];exact Frz.tup3 Frz.nil Frz.pure Frz.pure
 refine zcq (els:=xcu L) rfl (zls L) (zsx L 48) rfl (exT s L V) zs rfl (exK s L V) ?_ ?_ ?_
 .rw [exK,if_pos (by rfl)];exact yai zh
 .intro j el hel;obtain ⟨k,hk,rfl⟩:=zlr hel;obtain ⟨hkn,hkL⟩:=yph.1 (qab hk);obtain ⟨y,hy⟩:=ybr (show k < s.length by omega);have hay:=k4 y (qab hy);have hyl:y.2.length<=262144:=by have:=zra hy;have:=xeg s (k+1);omega
  have hrk:=xdm (V:=V) hkn hkL;have hnx:=badK_next (s:=s) (V:=V) hk;have hoc:okC s L V k=(!y.2.isEmpty && y.2.all fun a=>L.getD a.2.toNat false || ywa (V a.2.toNat) (V k)):=by unfold okC;rw [zde hy]
  cases hbj:xeu s L V j with
  | false=>rw [exK,hbj];exact yrp rfl
  | true=>
  rw [exK,hbj,if_pos rfl];refine zY ?_;refine ⟨rfl,?_⟩;refine zY ?_;refine zj ?_ ?_ <;> intro q2
  .have hz:y.2=[]:=by simpa using q2
   refine zY ?_;refine ykj ?_;refine zxl (hk:=fun _=>[]) (k:=0) [(10,some (.cells [yfj])),(11,some (.cells [i64 k])),(12,some (.cells [i64 15]))] zs zh ⟨_,rfl,hbadE (zur hk hbj (by rw [hoc,hz];rfl))⟩
  have hne:y.2≠[]:=fun e=>by rw [e] at q2;simp at q2
  refine zY ?_;refine ycx (α:=Nat) (fun i=>[(63,i64 i),(62,i64 y.2.length),(61,yda y.2),(16,i64 k),(13,.dp [ynn (s.map (·.1)),.sl 1 (s.map fun x=>[yda x.2])] 0),(8,.dp [yme L] 0),(15,.dp [zgk L V] 0),(10,.lp 10 0),(11,.lp 11 0),(12,.lp 12 0),(1000013,.dp [ynn (s.map (·.1)),.sl 1 (s.map fun x=>[yda x.2])] 0),(1000008,.dp [yme L] 0),(1000015,.dp [zgk L V] 0),(1000010,.lp 10 0),(1000011,.lp 11 0),(1000012,.lp 12 0)]) (fun i=>[(10,some (.cells [yfj])),(11,some (.cells [i64 0])),(12,some (.cells [i64 0]))]) (fun i=>y.2.length - i) (fun i=>i<=y.2.length/\∀ a∈y.2.take i,(L.getD a.2.toNat false || ywa (V a.2.toNat) (V k))=true) 0 ⟨om,sm⟩ zs (yai zh) ?_;rintro i ⟨hi,hall2⟩;refine zY ?_;refine zj ?_ ?_ <;> intro q3
  .have q3:i < y.2.length:=by simpa using q3
   obtain ⟨a,ha⟩:=ybr q3;obtain ⟨B,to,rfl⟩:∃ (B:BitVec 32) (to:Nat),a=(B,(to:Int)):=⟨a.1,a.2.toNat,by
    have:=(hay.grow i a ha).2.2.2.1
    rw [qfd this]⟩
   have hto:to < s.length:=by have:=(hay.grow i _ ha).2.2.2.2;simpa using this
   obtain ⟨b,hb2⟩:=ybr (show to < L.length by omega);have hbg:L.getD to false=b:=by rw [qad,hb2];rfl
   have hgo:∀ x,(L.getD to false || ywa (V to) (V k))=x->x=true->i+1<=y.2.length/\∀ a∈y.2.take (i+1),(L.getD a.2.toNat false || ywa (V a.2.toNat) (V k))=true:=fun x hx e=>⟨om,fun a' ha'=>by
    rw [yan ha] at ha'
    rcases qau.1 ha' with h|h
    .exact hall2 a' h
    rw [qaq.1 h];simp only [qct];rw [hx,e]⟩
   cases b with
   | true=>
    refine zY ?_;exact ylb (i+1) (hgo _ rfl (by rw [hbg];rfl)) om zs (yai zh)
   | false=>
    have hrt:=xdm (V:=V) (show to < L.length by omega) hbg
    (repeat (first|refine zy ?_|refine zc (zwf (V to) (V k) (hVl to) (hVl k)) ?_))
    refine zj ?_ ?_ <;> intro q5
    .have hls:ywa (V to) (V k)=false:=by simpa using q5
     refine zY ?_;refine ykj ?_;refine zxl (hk:=fun _=>[]) (k:=0) [(10,some (.cells [yfj])),(11,some (.cells [i64 k])),(12,some (.cells [i64 15]))] zs zh ⟨_,rfl,hbadE (zur hk hbj ?_)⟩;rw [hoc,qcd.2 ⟨_,qab ha,by simp only [qct];rw [hbg,hls];simp⟩,qch]
    have hls:ywa (V to) (V k)=true:=by simpa using q5
    refine zY ?_;exact ylb (i+1) (hgo _ rfl (by rw [hls,Bool.or_true])) om zs (yai zh)
  have q3:i=y.2.length:=by simp at q3;omega
  subst q3;rw [qay] at hall2
  (repeat (first|with_reducible refine ydk ?_|with_reducible refine ycd ?_|refine ycy ?_|refine ymi ?_))
  refine xdg (t0:=exT s L V) (hk:=exK s L V) (k:=j) (Q:=fun _ _=>True) zs ?_;rw [exK,hnx,hbj,hoc,List.all_eq_true.2 hall2,if_pos (by rw [List.isEmpty_eq_false_iff.2 hne];rfl)];exact yai zh
 rw [zcb];cases hi:xeu s L V (yhg L).length with
 | false=>rw [exK,hi];exact yrp rfl
 | true=>
  rw [exK,hi,if_pos rfl];refine zk ?_;rw [hres,badK_all hi];exact Frz.pure
end
section
open Go.RowKit
def xev (p:ProgD) (g:GraphD) (s:SpcD) (L:List Bool) (l:List (List Tm)):Int × Int:=
 if yfu p l then match zsa s L (fun k=>ysv g (ybn (yad p g) k) l) with
  | some k=>((k:Int),15)
  | none=>(-1,0)
 else (0,7)
theorem ccertcheck_con (he:Con prog 51 [yhb p,yfm g,i64 kind,yme L,yyq l] (zyz p g s L l)):Con prog 18 [yhb p,yfm g,i64 kind,yme L,yyq l] (.tup [i64 (xev p g s L l).1,i64 (xev p g s L l).2]):=by
 unfold zyz at he;unfold xev;by_cases hv:yfu p l=true
 .rw [if_pos hv] at he ⊢;cases hk:zsa s L (fun k=>ysv g (ybn (yad p g) k) l) with
  | some k=>
   rw [hk] at he;refine ze Tryz.func18 ntmps18 Tryz.results18 ?_;refine zZ ?_;exact zp
  | none=>
   rw [hk] at he;refine ze Tryz.func18 ntmps18 Tryz.results18 ?_;refine zZ ?_;exact zp
 rw [if_neg hv] at he ⊢;refine ze Tryz.func18 ntmps18 Tryz.results18 ?_;refine zZ ?_;exact zp
def bnH (a b:Int) (c:Bool):List (Nat × Option LObj):=[(15,some (.cells [i64 a])),(16,some (.cells [i64 b])),(17,some (.cells [yay c]))]
theorem bn_lo {a b:Int}:(if b < a then b else a)=min a b:=by split <;> omega
theorem bn_hi {a b:Int}:(if b > a then b else a)=max a b:=by split <;> omega
theorem bound_con (hf:Fair p g) (h0:ycn p g=0) (hL:L.length<=32768) (hv:yfu p [e]=true) (he:Con prog 51 [yhb p,yfm g,i64 kind,yme L,yyq [e]] (zyz p g s L [e])):
  ∃ b:Int,Con prog 20 [yhb p,yfm g,i64 kind,yme L,ybk e] (.tup [i64 b,i64 (xev p g s L [e]).2])/\(zsa s L (fun k=>ysv g (ybn (yad p g) k) [e])=none->b=xiu (yqi (fun k=>zyb g (ybn (yad p g) k) e (ybn (yad p g) k).length) (yhg L))):=by
 have hout:=yut L;have hte:(ofF e (ybe p) false).1≠0:=by
  unfold yfu okE at hv;simp only [qeo,qac,beq_iff_eq] at hv;have:=hv.2.1.2;omega
 unfold zyz at he;rw [if_pos hv] at he;unfold xev;rw [if_pos hv];cases hk:zsa s L (fun k=>ysv g (ybn (yad p g) k) [e]) with
 | some k=>
  rw [hk] at he;refine ⟨0,?_,fun h=>by cases h⟩;refine ze Tryz.func20 ntmps20 Tryz.results20 ?_;refine zZ ?_;exact zp
 | none=>
 rw [hk] at he;refine ⟨_,?_,fun _=>rfl⟩;obtain ⟨v,hvv⟩:∃ v:Nat->Int,v=fun k=>zyb g (ybn (yad p g) k) e (ybn (yad p g) k).length:=⟨_,rfl⟩;have hVv:(fun k=>ysv g (ybn (yad p g) k) [e])=fun k=>[v k]:=by rw [hvv];rfl
 have hvb:∀ k,-100000000000<=v k/\v k<=100000000000:=fun k=>by
  have hc:=yuf hf h0 k;have:=ztq hc hte (qbh _);have h24:=hc.n24;have hl:=hc.len;have h9:yeu * ((ybn (yad p g) k).length:Int)<=100000000000:=by unfold yeu;omega
  rw [hvv];simp only;omega
 rw [hVv] at he;rw [<- hvv];refine ze Tryz.func20 ntmps20 Tryz.results20 ?_
 (repeat (first|with_reducible refine ydk ?_|with_reducible refine ycd ?_|refine ycy ?_));refine ynb ?_;refine ybi (lf:=lfT) rfl ?_
 refine zO ?_;refine zt ?_;refine ybi (lf:=lfT) rfl ?_
 (repeat (first|refine zo ?_|refine zc he ?_))
 refine zt ?_;refine yct 12 rfl rfl rfl rfl rfl ?_;refine zZ ?_;refine zcq (els:=xcu L) rfl (zls L) (zsx L 36) rfl [(12,.dp [zgk L fun k=>[v k]] 0),(15,.lp 15 0),(16,.lp 16 0),(17,.lp 17 0)] zs rfl (fun j=>bnH (yqi v ((yhg L).take j)).1 (yqi v ((yhg L).take j)).2.1 (yqi v ((yhg L).take j)).2.2) (yai zh) ?_ ?_
 .intro j el hel;obtain ⟨k,hk,rfl⟩:=zlr hel;obtain ⟨hkn,hkL⟩:=yph.1 (qab hk);have hrk:=xdm (V:=fun k=>[v k]) hkn hkL;have h00:[v k][(0:Int).toNat]?=some (v k):=rfl;have hbk:=hvb k;have hbl:=xas (B:=100000000000) om (l:=(yhg L).take j) fun k _=>hvb k;have hnx:yqi v ((yhg L).take (j+1))=if (yqi v ((yhg L).take j)).2.2 then (min (yqi v ((yhg L).take j)).1 (v k),max (yqi v ((yhg L).take j)).2.1 (v k),true) else (v k,v k,true):=by rw [yan hk,yqi,qcu];rfl
  generalize (yqi v ((yhg L).take j)).1=x1 at hbl hnx ⊢;generalize (yqi v ((yhg L).take j)).2.1=x2 at hbl hnx ⊢;generalize (yqi v ((yhg L).take j)).2.2=x3 at hnx ⊢;refine zY ?_;refine ⟨rfl,?_⟩;refine zY ?_;refine yvc [(19,i64 (v k)),(15,.lp 15 0),(16,.lp 16 0),(17,.lp 17 0),(1000012,.dp [zgk L fun k=>[v k]] 0),(1000015,.lp 15 0),(1000016,.lp 16 0),(1000017,.lp 17 0)] (bnH (if x3 then x1 else v k) (if x3 then x2 else v k) true) ?_ ?_
  .cases x3 with
   | true=>
    refine zY ?_;exact mid zs (yaa rfl (yaa rfl (yaa rfl yag)))
   | false=>
    refine zY ?_;exact mid zs (yaa rfl (yaa rfl (yaa rfl yag)))
  have hn2:yqi v ((yhg L).take (j+1))=(min (if x3 then x1 else v k) (v k),max (if x3 then x2 else v k) (v k),true):=by
   rw [hnx];cases x3 with
   | true=>rfl
   | false=>
    simp only [qbl,if_false];rw [Int.min_self,Int.max_self]
  generalize (if x3 then x1 else v k)=a at hn2 ⊢;generalize (if x3 then x2 else v k)=b at hn2 ⊢;have r:=xdg (t0:=[(12,.dp [zgk L fun k=>[v k]] 0),(15,.lp 15 0),(16,.lp 16 0),(17,.lp 17 0)]) (hk:=fun j=>bnH (yqi v ((yhg L).take j)).1 (yqi v ((yhg L).take j)).2.1 (yqi v ((yhg L).take j)).2.2) (k:=j) (Q:=fun _ _=>True) (t1:=[(15,.lp 15 0),(16,.lp 16 0),(17,.lp 17 0),(1000012,.dp [zgk L fun k=>[v k]] 0),(1000015,.lp 15 0),(1000016,.lp 16 0),(1000017,.lp 17 0)]) (h1:=bnH (if v k < a then v k else a) (if v k > b then v k else b) true) zs (by rw [hn2,<- bn_lo,<- bn_hi];exact fun id o h=>h);refine (show A _ _ _ (Mid [(15,.lp 15 0),(16,.lp 16 0),(17,.lp 17 0),(1000012,.dp [zgk L fun k=>[v k]] 0),(1000015,.lp 15 0),(1000016,.lp 16 0),(1000017,.lp 17 0)] (bnH (if v k < a then v k else a) (if v k > b then v k else b) true)) _ from ?_).mono fun e s' he=>(by obtain ⟨rfl,hs⟩:=he;exact And.intro (fun x y h=>hs.1 _ _ (r.1 x y h)) fun id o h=>hs.2 _ _ (r.2 id o h));refine zt ?_;refine ybx (lf:=lf0) ysy rfl ?_;refine yee [0,1,2] 5 (yab rfl (yab rfl (yab rfl yak))) rfl kf ?_;refine zO ?_;refine yaq [3,4,6] 4 rfl kf sm ⟨⟨_,rfl,?_⟩,⟨_,rfl,?_⟩,⟨_,rfl,?_⟩,trivial⟩
  .refine zO ?_;refine yaq [4,6] 3 rfl kf sm ⟨⟨_,rfl,?_⟩,⟨_,rfl,?_⟩,trivial⟩
   .refine zO ?_;refine yaq [5,6] 2 rfl kf sm ⟨⟨_,rfl,?_⟩,⟨_,rfl,?_⟩,trivial⟩
    .refine zO ?_;refine yau [6,7] (yab rfl (yab rfl yak)) rfl kf ?_;refine zO ?_;exact mid zs (yaa rfl (yaa rfl (yaa rfl yag)))
    refine zO ?_;refine yau [5,7] (yab rfl (yab rfl yak)) rfl kf ?_;refine zO ?_;exact mid zs (yaa rfl (yaa rfl (yaa rfl yag)))
   refine zO ?_;refine yau [4,5,7] (yab rfl (yab rfl (yab rfl yak))) rfl kf ?_;refine zO ?_;exact mid zs (yaa rfl (yaa rfl (yaa rfl yag)))
  .refine zO ?_;refine yaq [3,6] 3 rfl kf sm ⟨⟨_,rfl,?_⟩,⟨_,rfl,?_⟩,trivial⟩
   .refine zO ?_;refine yaq [5,6] 2 rfl kf sm ⟨⟨_,rfl,?_⟩,⟨_,rfl,?_⟩,trivial⟩
    .refine zO ?_;refine yau [6,7] (yab rfl (yab rfl yak)) rfl kf ?_;refine zO ?_;exact mid zs (yaa rfl (yaa rfl (yaa rfl yag)))
    refine zO ?_;refine yau [5,7] (yab rfl (yab rfl yak)) rfl kf ?_;refine zO ?_;exact mid zs (yaa rfl (yaa rfl (yaa rfl yag)))
   refine zO ?_;refine yau [3,5,7] (yab rfl (yab rfl (yab rfl yak))) rfl kf ?_;refine zO ?_;exact mid zs (yaa rfl (yaa rfl (yaa rfl yag)))
  refine zO ?_;refine yau [3,4,5,7] (yab rfl (yab rfl (yab rfl (yab rfl yak)))) rfl kf ?_;refine zO ?_;exact mid zs (yaa rfl (yaa rfl (yaa rfl yag)))
 rw [zcb,qay];have hbl:=xas (B:=100000000000) om (l:=yhg L) fun k _=>hvb k;have hb2:xiu (yqi v (yhg L))=if (yqi v (yhg L)).2.2 then (yqi v (yhg L)).2.1 - (yqi v (yhg L)).1+1 else 0:=rfl
 rw [hb2];generalize (yqi v (yhg L)).1=x1 at hbl ⊢;generalize (yqi v (yhg L)).2.1=x2 at hbl ⊢;generalize (yqi v (yhg L)).2.2=x3 at *;cases x3 with
 | true=>
  rw [if_pos rfl];exact zkp
 | false=>
  rw [if_neg sm];exact zkp
end
set_option maxHeartbeats 4000000
section
open Go.RowKit
def zsm (sg:List (Nat × Nat)) (hs':List (Nat × Option LObj)) (y:AV):Bool:=match zsl sg hs' y with
 | true=>true
 | false=>match y with
  | .fn _ cs=>cs.all fun c=>match c with
   | .lp j _=>zdr hs' j sg
   | _=>false
  | _=>false
theorem zil {y:AV} (hn:ydm (ybb sg)=true) (h:zsm sg hs' y=true):xfs (yep sg) (ybb sg) (yac hs') y\/xeo (yep sg) (ybb sg) (yac hs') y:=by
 unfold zsm at h;cases hk:zsl sg hs' y with
 | true=>exact .inl (yse hn hk)
 | false=>
  rw [hk] at h;cases y with
  | fn f cs=>
   refine .inr ⟨f,cs,rfl,fun c hc=>?_⟩;have:=List.all_eq_true.1 h c hc;cases c with
   | lp j off=>
    obtain ⟨i,h1,h2,o,h3,h4⟩:=ypc hn this;exact ⟨i,h1,off,o,by rw [h2],h3,h4⟩
   | _=>cases this
  | _=>cases h
def zdx (sg:List (Nat × Nat)) (hs':List (Nat × Option LObj)):List (Nat × AV)->List (Nat × AV)
 | []=>[]
 | (s,x)::t=>match zsm sg hs' x with
  | true=>(s,x)::zdx sg hs' t
  | false=>(s,.any)::zdx sg hs' t
theorem yuk:∀ {t:List (Nat × AV)} {x:Nat} {y:AV},yaj (zdx sg hs' t) x=some y->(y=.any/\∃ z,yaj t x=some z)\/(yaj t x=some y/\zsm sg hs' y=true)
 | [],x,y,h=>by simp [zdx,yaj] at h
 | (s,z)::t,x,y,h=>by
  simp only [zdx] at h;cases hk:zsm sg hs' z with
  | true=>
   simp only [hk,yaj] at h ⊢;cases hb:Nat.beq x s with
   | true=>simp only [hb,Option.some.injEq] at h ⊢;subst h;exact .inr ⟨rfl,hk⟩
   | false=>simp only [hb] at h ⊢;exact yuk h
  | false=>
   simp only [hk,yaj] at h ⊢;cases hb:Nat.beq x s with
   | true=>simp only [hb,Option.some.injEq] at h ⊢;subst h;exact .inl ⟨rfl,z,rfl⟩
   | false=>simp only [hb] at h ⊢;exact yuk h
def xmb (sg:List (Nat × Nat)) (hs':List (Nat × Option LObj)):LObj->Bool
 | .cells xs=>xs.all (zsm sg hs')
 | ob=>(ycc sg).all fun v=>!yeb v ob
def zib (sg:List (Nat × Nat)) (hs':List (Nat × Option LObj)):List (Nat × Option LObj)->Option (List (Nat × Option LObj))
 | []=>some []
 | (j,o)::h=>match zib sg hs' h with
  | none=>none
  | some h'=>match o with
   | none=>some ((j,none)::h')
   | some ob=>match xmb sg hs' ob with
    | true=>some ((j,some ob)::h')
    | false=>some ((j,none)::h')
theorem zdw:∀ {h h':List (Nat × Option LObj)},zib sg hs' h=some h'->∀ {j:Nat} {ob:LObj},yac h' j=some ob->yac h j=some ob/\xmb sg hs' ob=true
 | [],h',e,j,ob,hq=>by simp only [zib,Option.some.injEq] at e;subst e;cases hq
 | (k,o)::h,h',e,j,ob,hq=>by
  simp only [zib] at e;cases hr:zib sg hs' h with
  | none=>rw [hr] at e;cases e
  | some h1=>
   rw [hr] at e;have ih:=fun q=>zdw (h:=h) hr (j:=j) (ob:=ob) q;simp only [yac];cases o with
   | none=>
    simp only [Option.some.injEq] at e;subst e;simp only [yac] at hq;cases hb:Nat.beq j k with
    | true=>simp only [hb] at hq;cases hq
    | false=>simp only [hb] at hq ⊢;exact ih hq
   | some o=>
    cases ho:xmb sg hs' o with
    | true=>
     simp only [ho,Option.some.injEq] at e;subst e;simp only [yac] at hq;cases hb:Nat.beq j k with
     | true=>simp only [hb,Option.some.injEq] at hq ⊢;subst hq;exact ⟨rfl,ho⟩
     | false=>simp only [hb] at hq ⊢;exact ih hq
    | false=>
     simp only [ho,Option.some.injEq] at e;subst e;simp only [yac] at hq;cases hb:Nat.beq j k with
     | true=>simp only [hb] at hq;cases hq
     | false=>simp only [hb] at hq ⊢;exact ih hq
section
variable {P:Program} {N:Nat} {ops:Array Oper} {lf:Oper->Bool} {Q:SS->Prop} {t:List (Nat × AV)} {rest:List Oper} {d:Nat} {ty:TypeId} {pos:String} {af:Array Edge} {gd:Option (Nat × Bool)} {r:AV}
theorem L_callX (sg:List (Nat × Nat)) {g:Operand} {args:List Operand} {ats:Array TypeId} {caps xs args0:List AV} {hs hs' h h2:List (Nat × Option LObj)} (hc:yot P f args0 (yac hs) r (yac hs')) (hg:yzw (evF (yaj t) g) f caps args) (hx:evL (evF (yaj t)) args=some xs) (hargs:xs++caps=args0.map (yfg (yep sg))) (hk:ydm (ybb sg)=true) (hv:ydm (ycc sg)=true) (hd1:yqm (ybb sg) hs=true) (hd2:yqm (ybb sg) hs'=true) (hsub:yts h (ztd sg hs)) (hr:yen (ybb sg) r=true) (ho:yok (ybb sg) hs'=true) (hl:lf ⟨some d,.call { callee:=.value g,args:=args.toArray,argTypes:=ats },ty,pos,af,gd⟩=true) (hw:yal ops (yaj t) ⟨some d,.call { callee:=.value g,args:=args.toArray,argTypes:=ats },ty,pos,af,gd⟩=some true) (hd:Nat.blt d N=true) (hh:∀ j ob',j ∉ ycc sg->yac h2 j=some ob'->((∀ v∈ycc sg,yeb v ob'=false)/\∃ ob,yac h j=some ob/\ylg ob ob')\/(yac h j=some ob'/\∃ xs,ob'=.cells xs/\∀ x∈xs,zsm sg hs' x=true)) (k:Lex P N ops lf Q rest (S ((d,yfg (yep sg) r)::zdx sg hs' t) (yox sg hs' sg++h2))):Lex P N ops lf Q (⟨some d,.call { callee:=.value g,args:=args.toArray,argTypes:=ats },ty,pos,af,gd⟩::rest) (S t h):=by
 refine yec hl hw ?_ k;refine yyg (σ:=yep sg) (ids:=ybb sg) (kp:=[]) rfl rfl (by simpa using hd) hg hx hargs hc.toG (yxd hv) (ygo hd1) (ygo hd2) (ysq hsub) hr (yja ho) (fun x y hy=>?_) (fun i hi=>yvh hk hv i hi) (fun j ob' hj hob=>?_)
 .simp only [S,yaj] at hy;cases hb:Nat.beq x d with
  | true=>simp only [hb,Option.some.injEq] at hy;exact .inl ⟨qaf hb,hy.symm⟩
  | false=>
   simp only [hb] at hy;refine .inr ⟨fun e=>by subst e;simp at hb,?_⟩;rcases yuk hy with hq|⟨h1,h2⟩
   .exact .inl hq
   exact .inr ⟨h1,(zil hk h2).imp id fun h=>.inr h⟩
 have hjv:j ∉ ycc sg:=fun hm=>by
  obtain ⟨i,h1,h2⟩:=ysr hm hk;exact hj i h1 h2
 simp only [S,yll hjv] at hob;exact (hh j ob' hjv hob).imp (fun ⟨h1,h2⟩=>⟨fun i hi=>h1 _ (yjy hi),h2⟩) fun ⟨h1,ys,h2,h3⟩=>⟨h1,ys,h2,fun y hy=>(zil hk (h3 y hy)).imp id .inr⟩
theorem yrq (sg:List (Nat × Nat)) {g:Operand} {args:List Operand} {ats:Array TypeId} {caps xs args0:List AV} {hs hs' h h':List (Nat × Option LObj)} (hc:yot P f args0 (yac hs) r (yac hs')) (hg:evF (yaj t) g=some (.fn f caps)) (hx:evL (evF (yaj t)) args=some xs) (hargs:xs++caps=args0.map (yfg (yep sg))) (hk:ydm (ybb sg)=true) (hv:ydm (ycc sg)=true) (hd1:yqm (ybb sg) hs=true) (hd2:yqm (ybb sg) hs'=true) (hsub:yts h (ztd sg hs)) (hr:yen (ybb sg) r=true) (ho:yok (ybb sg) hs'=true) (hh:zib sg hs' (zkk (ycc sg) h)=some h') (hl:lf ⟨some d,.call { callee:=.value g,args:=args.toArray,argTypes:=ats },ty,pos,af,gd⟩=true) (hw:yal ops (yaj t) ⟨some d,.call { callee:=.value g,args:=args.toArray,argTypes:=ats },ty,pos,af,gd⟩=some true) (hd:Nat.blt d N=true) (k:Lex P N ops lf Q rest (S ((d,yfg (yep sg) r)::zdx sg hs' t) (yox sg hs' sg++h'))):Lex P N ops lf Q (⟨some d,.call { callee:=.value g,args:=args.toArray,argTypes:=ats },ty,pos,af,gd⟩::rest) (S t h):=
 L_callX sg hc (.inl hg) hx hargs hk hv hd1 hd2 hsub hr ho hl hw hd (fun j ob' hj hob=>by
  obtain ⟨h1,h2⟩:=zdw hh hob
  rw [yvn hj] at h1
  cases ob' with
  | cells xs=>exact .inr ⟨h1,xs,rfl,List.all_eq_true.1 h2⟩
  | _=>exact .inl ⟨fun v hv=>by have:=List.all_eq_true.1 h2 v hv;simpa using this,_,h1,.inl rfl⟩) k
end
end
end Go.Proofs.YtgpodcjhgdionaaGreatDoor
