/- Part 14 of the texts under TopRenumberingCommutes: joined, with what it needs alone. -/
import Derived.Lib.Bytealg
import Derived.RecoverIn
import Derived.WideLaws
import Derived.Lib.Split
import Derived.Lib.SplitLaws
import GoSem.Core.Utf8
import Derived.Lib.ItoaNum
import Derived.Lib.Strings
import Derived.Test.YtgpbgfpjlhoicaaGreatDoorRN1
import Derived.Test.YtgpbgfpjlhoicaaGreatDoorRN2
import Derived.Test.YtgpbgfpjlhoicaaGreatDoorRN7
import Derived.Test.YtgpbgfpjlhoicaaGreatDoorRN8
import Derived.Test.YtgpbgfpjlhoicaaGreatDoorRN9
import Derived.Test.YtgpbgfpjlhoicaaGreatDoorRN11
import Derived.Test.YtgpbgfpjlhoicaaGreatDoorRN13
set_option linter.unusedVariables false
namespace Go.Proofs.YtgpbgfpjlhoicaaGreatDoor
section
open Go.RowKit
section
variable {P:Program} {T:Nat→Option Ty} {N:Nat} {ops:Array Oper} {lf:Oper→Bool} {Q:SS→Prop} {t t':TL} {h h':HL} {rest:List Oper} {op:Op} {ty:TypeId} {pos:String} {af:Array Edge} {gd:Option (Nat × Bool)} {r:AV} {K:Calls0} {big:Bool}
def zyl (N:Nat) (d:Option Nat) (r:Option AV) (t:TL) (h:HL):Option (TL × HL):=
 match r with
 | some r=>match d with
  | some d=>match Nat.blt d N with
   | true=>some ((d,r)::t,h)
   | false=>none
  | none=>some (t,h)
 | none=>none
def zxz (K:Calls0) (big:Bool) (t:TL) (h:HL) (d:Nat) (g:Operand) (args:List Operand):Option (TL × HL):=
 match evF (look t) g with
 | some (.fn f caps)=>match evL (evF (look t)) args with
  | some xs=>match yav.pureL (xs++caps) with
   | true=>match K.pure f (xs++caps) with
    | some r=>some ((d,r)::t,h)
    | none=>none
   | false=>match big with
    | true=>zuj K t h d f (xs++caps)
    | false=>none
  | none=>none
 | some (.fm f caps)=>match args,big with
  | [],true=>zuj K t h d f caps
  | _,_=>none
 | _=>none
def zzp (T:Nat→Option Ty) (K:Calls0) (N:Nat) (big:Bool) (t:TL) (h:HL) (d:Option Nat) (op:Op) (ty:TypeId):Option (TL × HL):=
 match op with
 | .box _ x=>match d with
  | some d=>match Nat.blt d N with
   | true=>zzm t h d x
   | false=>none
  | none=>none
 | .alloc e=>match d with
  | some d=>match Nat.blt d N with
   | true=>zqs T t h d e
   | false=>none
  | none=>none
 | .makeSlice ti x y=>match d with
  | some d=>match Nat.blt d N with
   | true=>zww T t h d ti x y
   | false=>none
  | none=>none
 | .store ti x v=>match d with
  | some _=>none
  | none=>zto T t h ti x v
 | .call ⟨.builtin .append,⟨[x,y]⟩,⟨[ti,tj]⟩⟩=>match d with
  | some d=>match Nat.blt d N && Nat.beq tj ti with
   | true=>zzj T t h d ti x y
   | false=>none
  | none=>none
 | .call ⟨.value g,⟨args⟩,ats⟩=>match d with
  | some d=>match Nat.blt d N with
   | true=>zxz K big t h d g args
   | false=>none
  | none=>none
 | op=>zyl N d (zwq T t h op ty) t h
theorem L_put {d:Option Nat} {r:Option AV} (hy:∀ r',r=some r'→ybo P (hlook h) (evF (look t)) op ty r') (hr:zyl N d r t h=some (t',h')) (hw:yaj ops (look t) ⟨d,op,ty,pos,af,gd⟩=some true) (k:Lex P N ops lf Q rest (S t' h')):Lex P N ops lf Q (⟨d,op,ty,pos,af,gd⟩::rest) (S t h):=by
 unfold zyl at hr
 split at hr
 ·split at hr
  ·split at hr
   ·rename_i hd
    simp only [Option.some.injEq,Prod.mk.injEq] at hr
    obtain ⟨rfl,rfl⟩:=hr
    exact ycc (hy _ rfl) hw hd k
   ·cases hr
  ·simp only [Option.some.injEq,Prod.mk.injEq] at hr
   obtain ⟨rfl,rfl⟩:=hr
   exact L_yield0 (hy _ rfl) hw k
 ·cases hr
theorem exOp_ok (hT:TOK P T) (hK:CallsOk P K) (hlf:∀ o,zse o.op=true→lf o=true) (hbig:big=true→∀ o,lf o=true) {d:Option Nat} (hr:zzp T K N big t h d op ty=some (t',h')) (hw:yaj ops (look t) ⟨d,op,ty,pos,af,gd⟩=some true) (k:Lex P N ops lf Q rest (S t' h')):Lex P N ops lf Q (⟨d,op,ty,pos,af,gd⟩::rest) (S t h):=by
 unfold zzp at hr
 split at hr
 ·split at hr
  ·split at hr
   ·rename_i hd
    exact yed (hlf _ rfl) hw (boxX_ok hd hr) k
   ·cases hr
  ·cases hr
 ·split at hr
  ·split at hr
   ·rename_i hd
    exact yed (hlf _ rfl) hw (allocX_ok hT hd hr) k
   ·cases hr
  ·cases hr
 ·split at hr
  ·split at hr
   ·rename_i hd
    exact yed (hlf _ rfl) hw (makeX_ok hT hd hr) k
   ·cases hr
  ·cases hr
 ·split at hr
  ·cases hr
  ·exact yed (hlf _ rfl) hw (storeX_ok hT hr) k
 ·split at hr
  ·split at hr
   ·rename_i hd
    simp only [Bool.and_eq_true] at hd
    obtain rfl:=Nat.eq_of_beq_eq_true hd.2
    exact yed (hlf _ rfl) hw (appX_ok hT hd.1 hr) k
   ·cases hr
  ·cases hr
 ·split at hr
  ·split at hr
   ·rename_i hd
    unfold zxz at hr
    split at hr
    ·rename_i f caps hg
     split at hr
     ·rename_i xs hx
      split at hr
      ·split at hr
       ·rename_i r hp
        simp only [Option.some.injEq,Prod.mk.injEq] at hr
        obtain ⟨rfl,rfl⟩:=hr
        exact yaf hg hx (hK.pure _ _ _ hp) hw hd k
       ·cases hr
      ·split at hr
       ·exact yed (hbig rfl _) hw (znj hK (.inl hg) hx hd hr) k
       ·cases hr
     ·cases hr
    ·rename_i f caps hg
     split at hr
     ·exact yed (hbig rfl _) hw (znj (xs:=[]) hK (.inr ⟨hg,rfl⟩) rfl hd hr) k
     ·cases hr
    ·cases hr
   ·cases hr
  ·cases hr
 ·exact L_put (fun r' e=>calmX_ok hT e) hr hw k
def exL (T:Nat→Option Ty) (K:Calls0) (N:Nat) (big:Bool) (ops:Array Oper):List Oper→TL→HL→Option (TL × HL)
 | [],t,h=>some (t,h)
 | ⟨d,op,ty,pos,af,gd⟩::l,t,h=>match yaj ops (look t) ⟨d,op,ty,pos,af,gd⟩ with
  | some true=>match zzp T K N big t h d op ty with
   | some (t1,h1)=>exL T K N big ops l t1 h1
   | none=>none
  | some false=>match zyl N d (some (.v undef)) t h with
   | some (t1,h1)=>exL T K N big ops l t1 h1
   | none=>none
  | none=>none
theorem zcc (hT:TOK P T) (hK:CallsOk P K) (hlf:∀ o,zse o.op=true→lf o=true) (hbig:big=true→∀ o,lf o=true):∀ {l:List Oper} {t:TL} {h:HL},exL T K N big ops l t h=some (t',h')→Q (S t' h')→Lex P N ops lf Q l (S t h)
 | [],t,h,hr,hq=>by
  simp only [exL,Option.some.injEq,Prod.mk.injEq] at hr
  obtain ⟨rfl,rfl⟩:=hr
  exact yes hq
 | ⟨d,op,ty,pos,af,gd⟩::l,t,h,hr,hq=>by
  simp only [exL] at hr
  split at hr
  ·rename_i hw
   split at hr
   ·rename_i t1 h1 ho
    exact exOp_ok hT hK hlf hbig ho hw (zcc hT hK hlf hbig hr hq)
   ·cases hr
  ·rename_i hw
   split at hr
   ·rename_i t1 h1 ho
    have k:=zcc hT hK hlf hbig hr hq
    unfold zyl at ho
    simp only at ho
    split at ho
    ·split at ho
     ·rename_i hd
      simp only [Option.some.injEq,Prod.mk.injEq] at ho
      obtain ⟨rfl,rfl⟩:=ho
      exact zuw hw hd k
     ·cases ho
    ·simp only [Option.some.injEq,Prod.mk.injEq] at ho
     obtain ⟨rfl,rfl⟩:=ho
     exact L_skip0 hw k
   ·cases hr
  ·cases hr
end
end
section
open Go.RowKit
def eqV:Value→Value→Bool
 | .bool a,.bool b=>a == b
 | .int k a,.int k' b=>decide (k=k') && decide (a=b)
 | .string a,.string b=>decide (a=b)
 | .slice none a b,.slice none c d=>Nat.beq a c && Nat.beq b d
 | .pointer none,.pointer none=>true
 | .nilFunc,.nilFunc=>true
 | .nilIface,.nilIface=>true
 | .tuple ⟨[]⟩,.tuple ⟨[]⟩=>true
 | _,_=>false
theorem eqV_ok {a b:Value} (h:eqV a b=true):a=b:=by
 unfold eqV at h
 split at h
 ·simpa using h
 ·simp only [Bool.and_eq_true,decide_eq_true_eq] at h;rw [h.1,h.2]
 ·rw [of_decide_eq_true h]
 ·simp only [Bool.and_eq_true] at h;rw [Nat.eq_of_beq_eq_true h.1,Nat.eq_of_beq_eq_true h.2]
 ·rfl
 ·rfl
 ·rfl
 ·rfl
 ·cases h
def eqA:AV→AV→Bool
 | .v a,.v b=>eqV a b
 | .sl s xs,.sl s' ys=>Nat.beq s s' && eqR xs ys
 | .dp xs o,.dp ys o'=>eqL xs ys && Nat.beq o o'
 | .lp i o,.lp j o'=>Nat.beq i j && Nat.beq o o'
 | .ls i a b,.ls j c d=>Nat.beq i j && (Nat.beq a c && Nat.beq b d)
 | .agg xs,.agg ys=>eqL xs ys
 | .tup xs,.tup ys=>eqL xs ys
 | .fn f xs,.fn g ys=>Nat.beq f g && eqL xs ys
 | .fm f xs,.fm g ys=>Nat.beq f g && eqL xs ys
 | .any,.any=>true
 | .one,.one=>true
 | _,_=>false
 where
 eqL:List AV→List AV→Bool
 | [],[]=>true
 | x::xs,y::ys=>eqA x y && eqL xs ys
 | _,_=>false
 eqR:List (List AV)→List (List AV)→Bool
 | [],[]=>true
 | x::xs,y::ys=>eqL x y && eqR xs ys
 | _,_=>false
theorem zcb:∀ (x y:AV),eqA x y=true→x=y
 | .v a,y,h=>by cases y <;> simp only [eqA] at h <;> first|rw [eqV_ok h]|cases h
 | .sl s xs,y,h=>by
  cases y <;> simp only [eqA,Bool.and_eq_true] at h <;> first|cases h;done|rw [Nat.eq_of_beq_eq_true h.1,rws _ _ h.2]
 | .dp xs o,y,h=>by
  cases y <;> simp only [eqA,Bool.and_eq_true] at h <;> first|cases h;done|rw [Nat.eq_of_beq_eq_true h.2,row _ _ h.1]
 | .lp i o,y,h=>by
  cases y <;> simp only [eqA,Bool.and_eq_true] at h <;> first|cases h;done|rw [Nat.eq_of_beq_eq_true h.1,Nat.eq_of_beq_eq_true h.2]
 | .ls i a b,y,h=>by
  cases y <;> simp only [eqA,Bool.and_eq_true] at h <;> first|cases h;done|rw [Nat.eq_of_beq_eq_true h.1,Nat.eq_of_beq_eq_true h.2.1,Nat.eq_of_beq_eq_true h.2.2]
 | .agg xs,y,h=>by cases y <;> simp only [eqA] at h <;> first|cases h;done|rw [row _ _ h]
 | .tup xs,y,h=>by cases y <;> simp only [eqA] at h <;> first|cases h;done|rw [row _ _ h]
 | .fn f xs,y,h=>by
  cases y <;> simp only [eqA,Bool.and_eq_true] at h <;> first|cases h;done|rw [Nat.eq_of_beq_eq_true h.1,row _ _ h.2]
 | .fm f xs,y,h=>by
  cases y <;> simp only [eqA,Bool.and_eq_true] at h <;> first|cases h;done|rw [Nat.eq_of_beq_eq_true h.1,row _ _ h.2]
 | .any,y,h=>by cases y <;> simp only [eqA] at h <;> first|rfl|cases h
 | .one,y,h=>by cases y <;> simp only [eqA] at h <;> first|rfl|cases h
 | .mp i,y,h=>by cases y <;> simp only [eqA] at h <;> cases h
 | .mv i,y,h=>by cases y <;> simp only [eqA] at h <;> cases h
 where
 row:∀ (x y:List AV),eqA.eqL x y=true→x=y
 | [],[],_=>rfl
 | [],_::_,h=>by simp [eqA.eqL] at h
 | _::_,[],h=>by simp [eqA.eqL] at h
 | x::xs,y::ys,h=>by
  simp only [eqA.eqL,Bool.and_eq_true] at h
  rw [zcb x y h.1,row xs ys h.2]
 rws:∀ (x y:List (List AV)),eqA.eqR x y=true→x=y
 | [],[],_=>rfl
 | [],_::_,h=>by simp [eqA.eqR] at h
 | _::_,[],h=>by simp [eqA.eqR] at h
 | x::xs,y::ys,h=>by
  simp only [eqA.eqR,Bool.and_eq_true] at h
  rw [row x y h.1,rws xs ys h.2]
def eqO:LObj→LObj→Bool
 | .cells xs,.cells ys=>eqA.eqL xs ys
 | .vec xs,.vec ys=>eqA.eqL xs ys
 | _,_=>false
theorem eqO_ok {x y:LObj} (h:eqO x y=true):x=y:=by
 unfold eqO at h
 split at h
 ·rw [zcb.row _ _ h]
 ·rw [zcb.row _ _ h]
 ·cases h
end
section
open Go.RowKit
def zzn (x y:Option LObj):Bool:=match x,y with
 | some a,some b=>eqO a b
 | none,none=>true
 | _,_=>false
theorem eqHo_ok {x y:Option LObj} (h:zzn x y=true):x=y:=by
 unfold zzn at h
 split at h
 ·rw [eqO_ok h]
 ·rfl
 ·cases h
def zjj (t u:HL):HL→Bool
 | []=>true
 | (s,_)::l=>zzn (hlook t s) (hlook u s) && zjj t u l
theorem zaj {t u:HL}:∀ {l:HL},zjj t u l=true→∀ s x,(s,x)∈l→hlook t s=hlook u s
 | [],_,s,x,h=>by cases h
 | (k,y)::l,hb,s,x,h=>by
  simp only [zjj,Bool.and_eq_true] at hb
  rcases List.mem_cons.1 h with e|h
  ·cases e;exact eqHo_ok hb.1
  ·exact zaj hb.2 s x h
theorem yuf:∀ {l:HL} {i:Nat},(∀ x,(i,x) ∉ l)→hlook l i=none
 | [],i,_=>rfl
 | (k,x)::l,i,h=>by
  simp only [hlook]
  cases hb:Nat.beq i k with
  | true=>exact absurd (by rw [Nat.eq_of_beq_eq_true hb];exact List.mem_cons_self) (h x)
  | false=>exact yuf fun y hy=>h y (List.mem_cons_of_mem _ hy)
def zxc (t u:HL):Bool:=zjj t u t && zjj t u u
theorem sameH_ok {t u:HL} (h:zxc t u=true):hlook t=hlook u:=by
 simp only [zxc,Bool.and_eq_true] at h
 funext i
 by_cases h1:∃ x,(i,x)∈t
 ·obtain ⟨x,hx⟩:=h1;exact zaj h.1 i x hx
 ·by_cases h2:∃ x,(i,x)∈u
  ·obtain ⟨x,hx⟩:=h2;exact zaj h.2 i x hx
  ·rw [yuf fun x hx=>h1 ⟨x,hx⟩,yuf fun x hx=>h2 ⟨x,hx⟩]
def yrt (t u:TL):TL→Bool
 | []=>true
 | (s,_)::l=>(match look t s,look u s with
  | some a,some b=>eqA a b
  | none,none=>true
  | _,_=>false) && yrt t u l
theorem yuw {t u:TL}:∀ {l:TL},yrt t u l=true→∀ s x,(s,x)∈l→look t s=look u s
 | [],_,s,x,h=>by cases h
 | (k,y)::l,hb,s,x,h=>by
  simp only [yrt,Bool.and_eq_true] at hb
  rcases List.mem_cons.1 h with e|h
  ·cases e
   have h1:=hb.1
   split at h1
   ·rename_i a b ha hb';rw [ha,hb',zcb _ _ h1]
   ·rename_i ha hb';rw [ha,hb']
   ·cases h1
  ·exact yuw hb.2 s x h
theorem yze:∀ {l:TL} {i:Nat},(∀ x,(i,x) ∉ l)→look l i=none
 | [],i,_=>rfl
 | (k,x)::l,i,h=>by
  simp only [look]
  cases hb:Nat.beq i k with
  | true=>exact absurd (by rw [Nat.eq_of_beq_eq_true hb];exact List.mem_cons_self) (h x)
  | false=>exact yze fun y hy=>h y (List.mem_cons_of_mem _ hy)
theorem sameT_ok {t u:TL} (h:(yrt t u t && yrt t u u)=true):look t=look u:=by
 simp only [Bool.and_eq_true] at h
 funext i
 by_cases h1:∃ x,(i,x)∈t
 ·obtain ⟨x,hx⟩:=h1;exact yuw h.1 i x hx
 ·by_cases h2:∃ x,(i,x)∈u
  ·obtain ⟨x,hx⟩:=h2;exact yuw h.2 i x hx
  ·rw [yze fun x hx=>h1 ⟨x,hx⟩,yze fun x hx=>h2 ⟨x,hx⟩]
def zxd (t:TL) (h:HL) (u:TL) (g:HL):Bool:=(yrt t u t && yrt t u u) && zxc h g
theorem sameS_ok {t u:TL} {h g:HL} (hb:zxd t h u g=true):S t h=S u g:=by
 simp only [zxd] at hb
 rw [Bool.and_eq_true] at hb
 unfold S
 rw [sameT_ok hb.1,sameH_ok hb.2]
end
section
open Go.RowKit
section
variable {P:Program} {T:Nat→Option Ty} {N:Nat} {ops:Array Oper} {Q:SS→Prop} {K:Calls0}
def ywp (ops:Array Oper) (listed:Array Bool):List Nat→Option Nat
 | []=>none
 | k::l=>match zix ops lf0 [k] listed with
  | true=>some k
  | false=>ywp ops listed l
theorem yyj {listed:Array Bool}:∀ {l:List Nat} {k:Nat},ywp ops listed l=some k→zix ops lf0 [k] listed=true
 | [],k,h=>by cases h
 | i::l,k,h=>by
  unfold ywp at h
  split at h
  ·rename_i hp;simp only [Option.some.injEq] at h;subst h;exact hp
  ·exact yyj h
def zms (f:Nat→Option (TL × HL)):List Nat→Option (TL × HL)
 | []=>none
 | [k]=>f k
 | k::l=>match f k with
  | none=>none
  | some (t1,h1)=>match zms f l with
   | none=>none
   | some (t2,h2)=>match zxd t1 h1 t2 h2 with
    | true=>some (t2,h2)
    | false=>none
theorem zhk {f:Nat→Option (TL × HL)}:∀ {l:List Nat} {t':TL} {h':HL},zms f l=some (t',h')→l≠[]∧∀ k∈l,∃ t1 h1,f k=some (t1,h1)∧S t1 h1=S t' h'
 | [],t',h',h=>by cases h
 | [k],t',h',h=>⟨by simp,fun j hj=>by
  simp only [List.mem_singleton] at hj
  subst hj
  exact ⟨t',h',h,rfl⟩⟩
 | k::i::l,t',h',h=>by
  unfold zms at h
  split at h
  ·cases h
  ·rename_i t1 h1 hf
   split at h
   ·cases h
   ·rename_i t2 h2 hg
    split at h
    ·rename_i hs
     simp only [Option.some.injEq,Prod.mk.injEq] at h
     obtain ⟨rfl,rfl⟩:=h
     obtain ⟨_,ih⟩:=zhk hg
     refine ⟨by simp,fun j hj=>?_⟩
     rcases List.mem_cons.1 hj with rfl|hj
     ·exact ⟨t1,h1,hf,sameS_ok hs⟩
     ·exact ih j hj
    ·cases h
def zpe (T:Nat→Option Ty) (K:Calls0) (N:Nat) (ops:Array Oper):Nat→Array Bool→TL→HL→Option (TL × HL)
 | 0,listed,t,h=>match ysz ops lf0 [] listed with
  | true=>some (t,h)
  | false=>none
 | n+1,listed,t,h=>match ywp ops listed (Region.ready .any ops listed) with
  | some k=>match ops[k]? with
   | some o=>match exL T K N false ops [o] t h with
    | some (t1,h1)=>zpe T K N ops n (yhu [k] listed) t1 h1
    | none=>none
   | none=>none
  | none=>zms (fun k=>match ops[k]? with
   | some o=>match exL T K N false ops [o] t h with
    | some (t1,h1)=>zpe T K N ops n (listed.setIfInBounds k true) t1 h1
    | none=>none
   | none=>none) (Region.ready .any ops listed)
theorem zel (hT:TOK P T) (hK:CallsOk P K):∀ (n:Nat) (listed:Array Bool) (t:TL) (h:HL) (t':TL) (h':HL),zpe T K N ops n listed t h=some (t',h')→Q (S t' h')→ztw P N ops lf0 Q n listed (S t h)
 | 0,listed,t,h,t',h',hr,hq=>by
  simp only [zpe] at hr
  split at hr
  ·rename_i ho
   simp only [Option.some.injEq,Prod.mk.injEq] at hr
   obtain ⟨rfl,rfl⟩:=hr
   exact ycj [] (l:=[]) ybb rfl ho (yes hq)
  ·cases hr
 | n+1,listed,t,h,t',h',hr,hq=>by
  simp only [zpe] at hr
  split at hr
  ·rename_i k hp
   split at hr
   ·rename_i o ho
    split at hr
    ·rename_i t1 h1 hx
     refine ymk [k] n (l:=[o]) (yaa ho ybb) (by simp;omega) (yyj hp) ?_
     exact zcc hT hK (fun _ ho=>ho) (fun e=>by cases e) hx (zel hT hK n _ _ _ _ _ hr hq)
    ·cases hr
   ·cases hr
  ·obtain ⟨hne,hall⟩:=zhk hr
   refine ycl _ n rfl rfl hne ?_
   generalize Region.ready .any ops listed=ks at hall
   clear hne hr
   induction ks with
   | nil=>exact trivial
   | cons k ks ih=>
    refine ⟨?_,ih fun j hj=>hall j (List.mem_cons_of_mem _ hj)⟩
    obtain ⟨t1,h1,hf,hs⟩:=hall k List.mem_cons_self
    split at hf
    ·rename_i o ho
     split at hf
     ·rename_i t2 h2 hx
      refine ⟨o,ho,zcc hT hK (fun _ ho=>ho) (fun e=>by cases e) hx (zel hT hK n _ _ _ _ _ hf (hs ▸ hq))⟩
     ·cases hf
    ·cases hf
end
end
section
open Go.RowKit
section
variable {P:Program} {N:Nat} {Q:Exit→SS→Prop} {c:Code}
def zyy (jb k:Nat) (t:TL) (h:HL):TL × HL:=
 match hlook h jb with
 | some (.cells ys)=>match ys[k]? with
  | some (.ls id size len)=>match hlook h id with
   | some (.vec xs)=>match yod size len xs with
    | some rows=>match ysi id t with
     | some t1=>match yqb id h with
      | some h1=>match hlook ((id,none)::h1) jb with
       | some (.cells ys')=>match Nat.beq ys'.length ys.length with
        | true=>(t1,(jb,some (.cells (ys'.set k (.sl size rows))))::(id,none)::h1)
        | false=>(t,h)
       | _=>(t,h)
      | none=>(t,h)
     | none=>(t,h)
    | none=>(t,h)
   | _=>(t,h)
  | _=>(t,h)
 | _=>(t,h)
theorem frz1_ok {jb k:Nat} {t:TL} {h:HL} (q:A P N c Q (S (zyy jb k t h).1 (zyy jb k t h).2)):A P N c Q (S t h):=by
 unfold zyy at q
 split at q
 ·rename_i ys hj
  split at q
  ·rename_i id size len hk
   split at q
   ·rename_i xs hx
    split at q
    ·rename_i rows hc
     obtain ⟨q1,q2,q3⟩:=ymq hc
     split at q
     ·rename_i t1 ht
      split at q
      ·rename_i h1 hh
       split at q
       ·rename_i ys' hj'
        split at q
        ·rename_i hl
         exact ylf jb k rows hj hk hx q1 q2 q3 ht hh hj' hl q
        ·exact q
       ·exact q
      ·exact q
     ·exact q
    ·exact q
   ·exact q
  ·exact q
 ·exact q
def zyz (jb:Nat):Nat→TL→HL→TL × HL
 | 0,t,h=>(t,h)
 | k+1,t,h=>match zyy jb k t h with
  | (t1,h1)=>zyz jb k t1 h1
theorem zrr {jb:Nat}:∀ {k:Nat} {t:TL} {h:HL},A P N c Q (S (zyz jb k t h).1 (zyz jb k t h).2)→A P N c Q (S t h)
 | 0,t,h,q=>q
 | k+1,t,h,q=>frz1_ok (jb:=jb) (k:=k) (zrr (k:=k) q)
def zxn:HL→TL→HL→TL × HL
 | [],t,h=>(t,h)
 | (jb,some (.cells ys))::l,t,h=>match zyz jb ys.length t h with
  | (t1,h1)=>zxn l t1 h1
 | _::l,t,h=>zxn l t h
theorem yjr:∀ {l:HL} {t:TL} {h:HL},A P N c Q (S (zxn l t h).1 (zxn l t h).2)→A P N c Q (S t h)
 | [],t,h,q=>q
 | (jb,some (.cells ys))::l,t,h,q=>zrr (jb:=jb) (k:=ys.length) (yjr (l:=l) q)
 | (jb,none)::l,t,h,q=>yjr (l:=l) q
 | (jb,some (.vec _))::l,t,h,q=>yjr (l:=l) q
 | (jb,some (.map _))::l,t,h,q=>yjr (l:=l) q
 | (jb,some (.iter _ _ _))::l,t,h,q=>yjr (l:=l) q
 | (jb,some (.siter _ _))::l,t,h,q=>yjr (l:=l) q
 | (jb,some (.tcells _ _))::l,t,h,q=>yjr (l:=l) q
 | (jb,some (.tvec _ _))::l,t,h,q=>yjr (l:=l) q
 | (jb,some (.mcells _))::l,t,h,q=>yjr (l:=l) q
end
end
section
open Go.RowKit
section
variable {P:Program} {T:Nat→Option Ty} {N:Nat} {Q:Exit→SS→Prop} {t t':TL} {h h':HL} {K:Calls0}
def zrn:List ResultVar→TL→HL→TL × HL
 | [],t,h=>(t,h)
 | .tmp d::rs,t,h=>match look t d with
  | some (.ls id size len)=>match hlook h id with
   | some (.vec xs)=>match yod size len xs with
    | some rows=>match ysi id t with
     | some t1=>match yqb id h with
      | some h1=>zrn rs ((d,.sl size rows)::t1) ((id,none)::h1)
      | none=>zrn rs t h
     | none=>zrn rs t h
    | none=>zrn rs t h
   | _=>zrn rs t h
  | _=>zrn rs t h
 | .cell _ _::rs,t,h=>zrn rs t h
theorem yoh {c:Code}:∀ {rs:List ResultVar} {t:TL} {h:HL},A P N c Q (S (zrn rs t h).1 (zrn rs t h).2)→A P N c Q (S t h)
 | [],t,h,k=>k
 | .cell _ _::rs,t,h,k=>yoh (rs:=rs) k
 | .tmp d::rs,t,h,k=>by
  simp only [zrn] at k
  split at k
  ·rename_i id size len hd
   split at k
   ·rename_i xs hx
    split at k
    ·rename_i rows hc
     obtain ⟨q1,q2,q3⟩:=ymq hc
     split at k
     ·rename_i t1 ht
      split at k
      ·rename_i h1 hh
       exact zlt d rows hd hx q1 q2 q3 ht hh (yoh (rs:=rs) k)
      ·exact yoh (rs:=rs) k
     ·exact yoh (rs:=rs) k
    ·exact yoh (rs:=rs) k
   ·exact yoh (rs:=rs) k
  ·exact yoh (rs:=rs) k
def wantsF (K:Calls0) (l:List Oper):Bool:=l.any fun o=>match o.op with
 | .call ⟨.value (.func f),_,_⟩=>K.fz f
 | _=>false
def zyj (K:Calls0) (l:List Oper) (t:TL) (h:HL):TL × HL:=match wantsF K l with
 | true=>zxn h t h
 | false=>(t,h)
theorem preX_ok {c:Code} {l:List Oper} (q:A P N c Q (S (zyj K l t h).1 (zyj K l t h).2)):A P N c Q (S t h):=by
 unfold zyj at q
 split at q
 ·exact yjr q
 ·exact q
def ownH (h:HL):HL:=h.filter fun x=>Nat.blt x.1 1000
def zwz (l:List Oper) (t:TL) (h:HL):TL × HL:=match l.any fun o=>(match o.op with
 | .call ⟨.builtin .append,_,_⟩=>true
 | _=>false) with
 | true=>zxn (ownH h) t h
 | false=>(t,h)
theorem zsv {c:Code} {l:List Oper} (q:A P N c Q (S (zwz l t h).1 (zwz l t h).2)):A P N c Q (S t h):=by
 unfold zwz at q
 split at q
 ·exact yjr q
 ·exact q
def exC (T:Nat→Option Ty) (K:Calls0) (N:Nat) (rs:List ResultVar):Nat→Code→TL→HL→Option (Exit × TL × HL)
 | 0,_,_,_=>none
 | n+1,c,t,h=>match c with
  | .skip=>some (.normal,t,h)
  | .exit id=>some (.exit id,t,h)
  | .label _=>some (.normal,t,h)
  | .ret=>match zrn rs t h with
   | (t1,h1)=>some (.ret,t1,h1)
  | .seq x y=>match exC T K N rs n x t h with
   | some (.normal,t1,h1)=>exC T K N rs n y t1 h1
   | some (.exit id,t1,h1)=>some (.exit id,t1,h1)
   | some (.ret,t1,h1)=>some (.ret,t1,h1)
   | _=>none
  | .cond c x y=>match evF (look t) c with
   | some (.v (.bool true))=>exC T K N rs n x t h
   | some (.v (.bool false))=>exC T K N rs n y t h
   | _=>none
  | .block id x=>match exC T K N rs n x t h with
   | some (.normal,t1,h1)=>some (.normal,t1,h1)
   | some (.exit id',t1,h1)=>match Nat.beq id' id with
    | true=>some (.normal,t1,h1)
    | false=>some (.exit id',t1,h1)
   | some (.ret,t1,h1)=>some (.ret,t1,h1)
   | _=>none
  | .loop x=>match exC T K N rs n x (yli (fun _=>true) [] t) (yjn (fun _ _=>true) [] h) with
   | some (.normal,t1,h1)=>exC T K N rs n (.loop x) t1 h1
   | some (.exit id,t1,h1)=>some (.exit id,t1,h1)
   | some (.ret,t1,h1)=>some (.ret,t1,h1)
   | _=>none
  | .region _ ⟨l⟩ false=>match yga l with
   | true=>match exL T K N true l.toArray l (zyj K l t h).1 (zyj K l t h).2 with
    | some (t1,h1)=>some (.normal,t1,h1)
    | none=>none
   | false=>none
  | .region _ ⟨l⟩ true=>match zmh lf0 l && yql N l with
   | true=>match exL T K N false l.toArray l (zwz l t h).1 (zwz l t h).2 with
    | some (t1,h1)=>some (.normal,t1,h1)
    | none=>none
   | false=>match yql N l with
    | true=>match zpe T K N l.toArray l.length (Array.replicate l.length false) (zwz l t h).1 (zwz l t h).2 with
     | some (t1,h1)=>some (.normal,t1,h1)
     | none=>none
    | false=>none
  | _=>none
theorem zmr (hm:P.follows .mixedOrders=true) (hT:TOK P T) (hK:CallsOk P K) {rs:List ResultVar}:∀ (n:Nat) (c:Code) (t:TL) (h:HL) (e:Exit) (t':TL) (h':HL),exC T K N rs n c t h=some (e,t',h')→(∀ Q:Exit→SS→Prop,Q e (S t' h')→A P N c Q (S t h))∧(∀ x,c=.loop x→∀ Q:Exit→SS→Prop,Q e (S t' h')→zkj P N x Q (S t h))
 | 0,c,t,h,e,t',h',hr=>by simp [exC] at hr
 | n+1,c,t,h,e,t',h',hr=>by
  have ih:=fun c t h e t' h' hr=>(zmr hm hT hK (rs:=rs) n c t h e t' h' hr).1
  have ihl:=fun x t h e t' h' hr=>(zmr hm hT hK (rs:=rs) n (.loop x) t h e t' h' hr).2 x rfl
  by_cases hl:∃ x,c=.loop x
  ·obtain ⟨x,rfl⟩:=hl
   have key:∀ Q:Exit→SS→Prop,Q e (S t' h')→zkj P N x Q (S t h):=by
    intro Q hq
    refine yxr ?_ (zbx (fun _=>true) t) (zbw (fun _ _=>true) h)
    refine ypb ?_
    simp only [exC] at hr
    split at hr
    ·rename_i t1 h1 hb
     exact ih _ _ _ _ _ _ hb _ (ihl _ _ _ _ _ _ hr Q hq)
    ·rename_i id t1 h1 hb
     simp only [Option.some.injEq,Prod.mk.injEq] at hr
     obtain ⟨rfl,rfl,rfl⟩:=hr
     exact ih _ _ _ _ _ _ hb _ hq
    ·rename_i t1 h1 hb
     simp only [Option.some.injEq,Prod.mk.injEq] at hr
     obtain ⟨rfl,rfl,rfl⟩:=hr
     exact ih _ _ _ _ _ _ hb _ hq
    ·cases hr
   exact ⟨fun Q hq=>zqj (key Q hq),fun y e Q hq=>by cases e;exact key Q hq⟩
  ·refine ⟨fun Q hq=>?_,fun x e=>absurd ⟨x,e⟩ hl⟩
   unfold exC at hr
   split at hr
   ·simp only [Option.some.injEq,Prod.mk.injEq] at hr
    obtain ⟨rfl,rfl,rfl⟩:=hr
    exact ybt hq
   ·simp only [Option.some.injEq,Prod.mk.injEq] at hr
    obtain ⟨rfl,rfl,rfl⟩:=hr
    exact yde hq
   ·simp only [Option.some.injEq,Prod.mk.injEq] at hr
    obtain ⟨rfl,rfl,rfl⟩:=hr
    exact A_label hq
   ·simp only [Option.some.injEq,Prod.mk.injEq] at hr
    obtain ⟨rfl,h1,h2⟩:=hr
    refine yoh (rs:=rs) (yae ?_)
    rw [h1,h2]
    exact hq
   ·rename_i x y
    refine ydt ?_
    split at hr
    ·rename_i t1 h1 hb
     exact ih _ _ _ _ _ _ hb _ (ih _ _ _ _ _ _ hr Q hq)
    ·rename_i id t1 h1 hb
     simp only [Option.some.injEq,Prod.mk.injEq] at hr
     obtain ⟨rfl,rfl,rfl⟩:=hr
     exact ih _ _ _ _ _ _ hb _ hq
    ·rename_i t1 h1 hb
     simp only [Option.some.injEq,Prod.mk.injEq] at hr
     obtain ⟨rfl,rfl,rfl⟩:=hr
     exact ih _ _ _ _ _ _ hb _ hq
    ·cases hr
   ·rename_i cc x y
    split at hr
    ·rename_i hc
     exact yac hc (fun _=>ih _ _ _ _ _ _ hr Q hq) (fun e=>by cases e)
    ·rename_i hc
     exact yac hc (fun e=>by cases e) (fun _=>ih _ _ _ _ _ _ hr Q hq)
    ·cases hr
   ·rename_i id x
    refine yby ?_
    split at hr
    ·rename_i t1 h1 hb
     simp only [Option.some.injEq,Prod.mk.injEq] at hr
     obtain ⟨rfl,rfl,rfl⟩:=hr
     exact ih _ _ _ _ _ _ hb _ hq
    ·rename_i id' t1 h1 hb
     split at hr
     ·rename_i he
      simp only [Option.some.injEq,Prod.mk.injEq] at hr
      obtain ⟨rfl,rfl,rfl⟩:=hr
      refine ih _ _ _ _ _ _ hb _ ?_
      simp only [zqo,he,if_true]
      exact hq
     ·rename_i he
      simp only [Option.some.injEq,Prod.mk.injEq] at hr
      obtain ⟨rfl,rfl,rfl⟩:=hr
      refine ih _ _ _ _ _ _ hb _ ?_
      simp only [zqo,he]
      exact hq
    ·rename_i t1 h1 hb
     simp only [Option.some.injEq,Prod.mk.injEq] at hr
     obtain ⟨rfl,rfl,rfl⟩:=hr
     exact ih _ _ _ _ _ _ hb _ hq
    ·cases hr
   ·exact absurd ⟨_,rfl⟩ hl
   ·rename_i id l
    split at hr
    ·rename_i hn
     split at hr
     ·rename_i t1 h1 hb
      simp only [Option.some.injEq,Prod.mk.injEq] at hr
      obtain ⟨rfl,rfl,rfl⟩:=hr
      exact preX_ok (l:=l) (yci (lf:=lfT) hn (zcc hT hK (fun _ _=>rfl) (fun _ _=>rfl) hb hq))
     ·cases hr
    ·cases hr
   ·rename_i id l
    split at hr
    ·rename_i hn
     simp only [Bool.and_eq_true] at hn
     split at hr
     ·rename_i t1 h1 hb
      simp only [Option.some.injEq,Prod.mk.injEq] at hr
      obtain ⟨rfl,rfl,rfl⟩:=hr
      exact zsv (l:=l) (yqe (lf:=lf0) hm hn.1 hn.2 (zcc hT hK (fun _ ho=>ho) (fun e=>by cases e) hb hq))
     ·cases hr
    ·split at hr
     ·rename_i hd
      split at hr
      ·rename_i t1 h1 hb
       simp only [Option.some.injEq,Prod.mk.injEq] at hr
       obtain ⟨rfl,rfl,rfl⟩:=hr
       exact zsv (l:=l) (ycv (lf:=lf0) hm hd (zel hT hK _ _ _ _ _ _ hb hq))
      ·cases hr
     ·cases hr
   ·cases hr
end
end
section
open Go.RowKit
section
variable {P:Program} {T:Nat→Option Ty} {K:Calls0}
def zuo:Exit→Bool
 | .normal=>true
 | .ret=>true
 | _=>false
def zzc (P:Program) (T:Nat→Option Ty) (K:Calls0) (F:Nat) (f:FuncId) (args:List AV) (hs:HL):Option (AV × HL):=
 match P.funcs[f]? with
 | none=>none
 | some fn => match fn.name == "runtime.NumGoroutine" with
  | true=>none
  | false=>match fn.body with
   | none=>none
   | some c=>match Nat.ble args.length fn.ntmps && Nat.ble fn.ntmps 1000 with
    | false=>none
    | true=>match exC T K fn.ntmps fn.results.toList F c (yfz 0 args) hs with
     | none=>none
     | some (e,t1,h1)=>match zuo e with
      | false=>none
      | true=>match yut T (S t1 h1) fn.results.toList with
       | none=>none
       | some x=>some (x,h1)
theorem zti {F:Nat} {f:FuncId} {args:List AV} {hs h1:HL} {x:AV} (hr:zzc P T K F f args hs=some (x,h1)) :
  ∃ fn c e t1, P.funcs[f]? = some fn ∧ (fn.name == "runtime.NumGoroutine") = false ∧ fn.body = some c ∧ (Nat.ble args.length fn.ntmps = true ∧ Nat.ble fn.ntmps 1000 = true) ∧ exC T K fn.ntmps fn.results.toList F c (yfz 0 args) hs = some (e, t1, h1) ∧ zuo e = true ∧ yut T (S t1 h1) fn.results.toList = some x := by
 unfold zzc at hr
 split at hr
 ·cases hr
 ·rename_i fn hf
  split at hr
  ·cases hr
  ·rename_i hn
   split at hr
   ·cases hr
   ·rename_i c hb
    split at hr
    ·cases hr
    ·rename_i hl
     split at hr
     ·cases hr
     ·rename_i e t1 h2 hc
      split at hr
      ·cases hr
      ·rename_i he
       split at hr
       ·cases hr
       ·rename_i x' hx
        simp only [Option.some.injEq,Prod.mk.injEq] at hr
        obtain ⟨rfl,rfl⟩:=hr
        simp only [Bool.and_eq_true] at hl
        exact ⟨fn,c,e,t1,hf,hn,hb,hl,hc,he,hx⟩
def zlh (P:Program) (T:Nat→Option Ty) (K:Calls0) (F:Nat) (f:FuncId) (args:List AV):Option AV:=
 match zzc P T K F f args [] with
 | some (x,_)=>match yav x with
  | true=>some x
  | false=>none
 | none=>none
theorem pureRun_ok (hm:P.follows .mixedOrders=true) (hT:TOK P T) (hK:CallsOk P K) {F:Nat} {f:FuncId} {args:List AV} {r:AV} (hr:zlh P T K F f args=some r):Con P f args r:=by
 unfold zlh at hr
 split at hr
 ·rename_i x h1 hx
  split at hr
  ·rename_i hp
   simp only [Option.some.injEq] at hr
   subst hr
   obtain ⟨fn,c,e,t1,hf,hn,hb,hl,hc,he,hres⟩:=zti hx
   have hl2:Nat.ble fn.ntmps 1000000=true:=by have:=hl.2;simp only [Nat.ble_eq] at this ⊢;omega
   refine yfy hT hf hn hb rfl (rs:=fn.results.toList) (by simp) (by rw [hl.1,hl2];rfl) hp ?_
   refine (zmr hm hT hK _ _ _ _ _ _ _ hc).1 _ ?_
   cases e with
   | normal=>exact ⟨_,hres,Frz.pure⟩
   | ret=>exact ⟨_,hres,Frz.pure⟩
   | _=>simp [zuo] at he
  ·cases hr
 ·cases hr
def zky (P:Program) (T:Nat→Option Ty) (K:Calls0) (F:Nat) (f:FuncId) (args:List AV) (hs:HL):Option (AV × HL):=
 match zzc P T K F f args hs with
 | some (x,h1)=>
  let live:=zsy h1 1000 (zhz x++zwu hs) []
  some (x,yjn (fun i o=>yky i live && (!isC o || (Nat.ble 1000 i && (match hlook hs i with
   | some o'=>isC o'
   | none=>false)))) [] h1)
 | none=>none
theorem ysj:∀ {l:HL} {i:Nat} {o:LObj},hlook l i=some o→(i,some o)∈l
 | [],i,o,h=>by simp [hlook] at h
 | (k,x)::l,i,o,h=>by
  simp only [hlook] at h
  cases hb:Nat.beq i k with
  | true=>rw [hb] at h;simp only at h;rw [Nat.eq_of_beq_eq_true hb,h];exact List.mem_cons_self
  | false=>rw [hb] at h;exact List.mem_cons_of_mem _ (ysj h)
theorem lentRun_ok (hm:P.follows .mixedOrders=true) (hT:TOK P T) (hK:CallsOk P K) {F:Nat} {f:FuncId} {args:List AV} {hs hs':HL} {r:AV} (hr:zky P T K F f args hs=some (r,hs')):ywc P f args (hlook hs) r (hlook hs'):=by
 unfold zky at hr
 split at hr
 ·rename_i x h1 hx
  simp only [Option.some.injEq,Prod.mk.injEq] at hr
  obtain ⟨rfl,rfl⟩:=hr
  obtain ⟨fn,c,e,t1,hf,hn,hb,hl,hc,he,hres⟩:=zti hx
  have hl2:Nat.ble fn.ntmps 1000000=true:=by have:=hl.2;simp only [Nat.ble_eq] at this ⊢;omega
  refine yyc hT hf hn hb rfl (rs:=fn.results.toList) (by simp) (by rw [hl.1,hl2];rfl) (fun id o ho hc'=>?_) ?_
  ·obtain ⟨o',e',hp⟩:=ypg (ysj ho)
   cases e'
   rw [hc'] at hp
   simp only [Bool.and_eq_true,Bool.or_eq_true,Bool.not_true,Bool.false_eq_true,false_or] at hp
   obtain ⟨_,h2,h3⟩:=hp
   have h4:=hl.2
   simp only [Nat.ble_eq] at h2 h4
   refine ⟨by omega,?_⟩
   split at h3
   ·rename_i o' ho';exact ⟨o',ho',h3⟩
   ·cases h3
  ·show A P fn.ntmps c _ (S (yfz 0 args) hs)
   refine (zmr hm hT hK _ _ _ _ _ _ _ hc).1 _ ?_
   cases e with
   | normal=>exact ⟨_,hres,yng _,fun id o ho=>(yoe (ysj ho)).2⟩
   | ret=>exact ⟨_,hres,yng _,fun id o ho=>(yoe (ysj ho)).2⟩
   | _=>simp [zuo] at he
 ·cases hr
def yoc (P:Program) (T:Nat→Option Ty) (F:Nat) (kn:FuncId→List AV→Option AV) (kl:Calls0→FuncId→List AV→HL→Option (AV × HL)) (fz:FuncId→Bool):Nat→Calls0
 | 0=>⟨fun _ _=>none,fun _ _ _=>none,fz⟩
 | n+1=>⟨fun f xs=>match kn f xs with
   | some r=>some r
   | none=>zlh P T (yoc P T F kn kl fz n) F f xs,fun f xs hs=>match kl (yoc P T F kn kl fz n) f xs hs with
   | some r=>some r
   | none=>zky P T (yoc P T F kn kl fz n) F f xs hs,fz⟩
theorem zbs (hm:P.follows .mixedOrders=true) (hT:TOK P T) {F:Nat} {kn:FuncId→List AV→Option AV} {kl:Calls0→FuncId→List AV→HL→Option (AV × HL)} {fz:FuncId→Bool} (hkn:∀ f xs r,kn f xs=some r→Con P f xs r) (hkl:∀ K,CallsOk P K→∀ f xs hs r hs',kl K f xs hs=some (r,hs')→ywc P f xs (hlook hs) r (hlook hs')):∀ n,CallsOk P (yoc P T F kn kl fz n)
 | 0=>⟨fun f xs r h=>by simp [yoc] at h,fun f xs hs r hs' h=>by simp [yoc] at h⟩
 | n+1=>by
  have ih:=zbs hm hT hkn hkl (F:=F) (fz:=fz) n
  refine ⟨fun f xs r h=>?_,fun f xs hs r hs' h=>?_⟩ <;> simp only [yoc] at h <;> split at h
  ·rename_i r' hk
   simp only [Option.some.injEq] at h
   subst h
   exact hkn _ _ _ hk
  ·exact pureRun_ok hm hT ih h
  ·rename_i q hk
   simp only [Option.some.injEq] at h
   subst h
   exact hkl _ ih _ _ _ _ _ hk
  ·exact lentRun_ok hm hT ih h
theorem con_run (hm:P.follows .mixedOrders=true) (hT:TOK P T) {F:Nat} {kn:FuncId→List AV→Option AV} {kl:Calls0→FuncId→List AV→HL→Option (AV × HL)} {fz:FuncId→Bool} (hkn:∀ f xs r,kn f xs=some r→Con P f xs r) (hkl:∀ K,CallsOk P K→∀ f xs hs r hs',kl K f xs hs=some (r,hs')→ywc P f xs (hlook hs) r (hlook hs')) (n:Nat) {f:FuncId} {args:List AV} {r:AV} (h:(yoc P T F kn kl fz n).pure f args=some r):Con P f args r:=(zbs hm hT hkn hkl n).pure _ _ _ h
end
end
set_option maxRecDepth 100000
section
open Go.RowKit
theorem indexByte_slite (s:ByteArray) (c:Int) (w:World) :
  Calls Tryz.prog 278 #[.string s,.int .u8 c] w fun e w'=>e=.returned (.int .i64 (Lib.indexByte s.data.toList c.toNat.toUInt8))∧w=w':=by
 go_enter Tryz.func278,Tryz.ntmps278
 go_wp2
 rw [run_callFunc_extern Tryz.func300 (by kernel_rfl) (by kernel_rfl) (by kernel_rfl) (e:=Extern.BytealgIndexByte.indexByte) (by kernel_rfl),Lib.run_indexByteString]
 simp only [Result.andThen]
 rw [Oper.upon_value]
 go_wp2
 go_ret
 exact ⟨rfl,rfl⟩
theorem indexByte_any (s:ByteArray) (c:Int) (w:World) :
  Calls Tryz.prog 250 #[.string s,.int .u8 c] w fun e w'=>e=.returned (.int .i64 (Lib.indexByte s.data.toList c.toNat.toUInt8))∧w=w':=by
 go_enter Tryz.func250,Tryz.ntmps250
 go_wp2_with (go_at_call 278;refine (indexByte_slite _ _ _).mono ?_;rintro e w' ⟨rfl,rfl⟩)
 go_ret
 exact ⟨rfl,rfl⟩
end
section
open Go.RowKit
theorem zjr {w:World} {lv:Live} {v:Value} {l:List Tm} (h:ycy w v l):Rel (okW w) w lv (yeq l) v:=
 yot (g:=fun t:Tm=>[.int .i64 t.1,.int .i64 t.2]) (fun _=>rfl) (fun x u hu=>by simp at hu;rcases hu with rfl|rfl <;> rfl) h
theorem vars_rel {w:World} {lv:Live} {v:Value} {l:List VarD} (h:yvf w v l):Rel (okW w) w lv (.sl 6 (l.map ydj)) v:=
 yot (g:=ykr) (fun _=>rfl) (fun x u hu=>by simp [ykr] at hu;rcases hu with rfl|rfl|rfl|rfl|rfl|rfl <;> rfl) h
theorem prog_rel {w:World} {lv:Live} {v:Value} {p:ProgD} (h:yhj w v p):Rel (okW w) w lv (ytn p) v:=by
 obtain ⟨vv,rv,rfl,h1,h2⟩:=h
 have h3:ybm (okW w) w lv [zdp p.name,.sl 6 (p.vars.map ydj),.sl 3 (p.rules.map ydo)] [.string p.name,vv,rv]:=by
  refine ybi (.v _) (ybi (vars_rel h1) (ybi ?_ yff))
  refine ylx h2 (fun _=>rfl) (fun x c hc=>by simp [ydo] at hc;rcases hc with rfl|rfl|rfl <;> rfl) fun x _ cs hc=>?_
  obtain ⟨gv,sv,rfl,q1,q2⟩:=hc
  refine ybi (.v _) (ybi (zjr q1) (ybi ?_ yff))
  refine ylx q2 (fun _=>rfl) (fun x c hc=>by simp [zrh] at hc;rcases hc with rfl|rfl <;> rfl) fun x _ cs hc=>?_
  obtain ⟨tv,rfl,r1⟩:=hc
  exact ybi (.v _) (ybi (zjr r1) yff)
 exact .agg _ h3.1 (fun c hc=>by simp at hc;rcases hc with rfl|rfl|rfl <;> rfl) h3.2
end
section
open Go.RowKit
theorem idx_con (s:ByteArray) (c:Int):Con Tryz.prog 250 [.v (.string s),.v (.int .u8 c)] (i64 (Lib.indexByte s.data.toList c.toNat.toUInt8)):=
 yee ⟨_,Tryz.func250,rfl,rfl⟩ fun w us ok hok hr=>by
  obtain ⟨u,v,rfl,h1,h2⟩:=yrq hr
  cases h1;cases h2
  exact (indexByte_any s c w).mono fun e w' ⟨he,hw⟩=>⟨he,hw ▸ Below.refl _ _⟩
def knI (f:FuncId) (xs:List AV):Option AV:=
 match Nat.beq f 250 with
 | true=>match xs with
  | [.v (.string s),.v (.int .u8 c)]=>some (i64 (Lib.indexByte s.data.toList c.toNat.toUInt8))
  | _=>none
 | false=>none
theorem knI_ok (f:FuncId) (xs:List AV) (r:AV) (h:knI f xs=some r):Con Tryz.prog f xs r:=by
 unfold knI at h
 split at h
 ·rename_i hf
  split at h
  ·simp only [Option.some.injEq] at h
   subst h
   rw [Nat.eq_of_beq_eq_true hf]
   exact idx_con _ _
  ·cases h
 ·cases h
end
set_option maxHeartbeats 4000000
section
open Go.RowKit
def zwj (P:Program) (N:Nat) (o:Oper) (s:SS) (D:List PanicEntry→SS→Prop):Prop:=
 ∀ (B:Bse) (ok0:Nat→Prop) (lv:Live) (a:Act) (w:World),Sim B ok0 N s lv a w→∀ (K:Act→World→Prop) (Q:Exit→Act→World→Prop),(∀ ch a' w',(∃ s' lv',D ch s'∧Sim B ok0 N s' lv' a' w')→Q (.panic ch) a' w')→o.wp P a w K Q
variable {P:Program} {N:Nat}
theorem zwj.mono {o:Oper} {s:SS} {D D':List PanicEntry→SS→Prop} (h:zwj P N o s D) (hD:∀ c s',D c s'→D' c s'):zwj P N o s D':=
 fun B ok0 lv a w hs K Q hQ=>h B ok0 lv a w hs K Q fun ch a' w' ⟨s',lv',h1,h2⟩=>hQ ch a' w' ⟨s',lv',hD ch s' h1,h2⟩
variable {t:List (Nat × AV)} {h:List (Nat × Option LObj)} {ty:TypeId} {pos:String} {af:Array Edge} {gd:Option (Nat × Bool)}
end
section
open Go.RowKit
abbrev Runs:=Array Value→World→(Ending→World→Prop)→Prop
def zxi (K:Runs) (args:List AV) (hs:Nat→Option LObj) (r:AV) (hs':Nat→Option LObj):Prop:=
 (∀ id o,hs' id=some o→isC o=true→∃ o',hs id=some o'∧isC o'=true)∧∀ (ok0:Nat→Prop) (lv:Live) (w:World) (us:List Value),Inv (yfo w lv) ok0 hs lv w→ybm (yax (yfo w lv) ok0 lv w) w lv args us →
  K us.toArray w fun e w'=>∃ u lv',e=.returned u∧Rel (yax (yfo w lv) ok0 lv' w') w' lv' r u∧Inv (yfo w lv) ok0 hs' lv' w'∧∀ id o,hs' id=some o→isC o=true→∃ b n n',lv id=some (some b,n)∧lv' id=some (some b,n')
def KD (P:Program) (f:FuncId) (u u':FrameMode):Runs:=fun us w R=>CallsDIn Fence.wide 0 P f us u w fun e u2 w'=>u2=u'∧R e w'
theorem KD.mono {P:Program} {f:FuncId} {u u':FrameMode} {us:Array Value} {w:World} {R R':Ending→World→Prop} (h:∀ e w',R e w'→R' e w') (hk:KD P f u u' us w R):KD P f u u' us w R':=
 CallsDIn.mono hk fun e u2 w' ⟨h1,h2⟩=>⟨h1,h _ _ h2⟩
section
variable {P:Program} {N:Nat}
theorem lendK {K:Runs} (hK:∀ (us:Array Value) (w:World) (R R':Ending→World→Prop),(∀ e w',R e w'→R' e w')→K us w R→K us w R') {args0:List AV} {hm hm':Nat→Option LObj} {r:AV} {σ:Nat→Nat} {ids:List Nat} {s s2:SS} {B:Bse} {ok0:Nat→Prop} {lv:Live} {a:Act} {w:World} {vs:List Value}
  (hs:Sim B ok0 N s lv a w) (hvs:ybm (yax B ok0 lv w) w lv (args0.map (yez σ)) vs) (hc:zxi K args0 hm r hm')
  (hinj:∀ i∈ids,∀ j∈ids,σ i=σ j→i=j) (hdom:∀ id,(hm id).isSome→id∈ids) (hdom':∀ id,(hm' id).isSome→id∈ids) (hmem:∀ id o,hm id=some o→s.h (σ id)=some (zbb σ o)) (hro:∀ id o,hm' id=some o→yro ids o=true)
  (ht:∀ x y,s2.t x=some y→(y=.any∧∃ z,s.t x=some z)∨(s.t x=some y∧zyt σ ids hm' y))
  (hh1:∀ i∈ids,s2.h (σ i)=(hm' i).map (zbb σ)) (hh2:∀ j ob',(∀ i∈ids,σ i≠j)→s2.h j=some ob'→(∀ i∈ids,yfr (σ i) ob'=false)∧∃ ob,s.h j=some ob∧ymf ob ob'):K vs.toArray w fun e w'=>∃ u lv2,e=.returned u∧Sim B ok0 N s2 lv2 a w':=by
 let lv1:Live:=fun id=>if id∈ids∧(hm id).isSome then lv (σ id) else none
 have hl1:∀ id b n,lv1 id=some (b,n)→id∈ids∧(hm id).isSome∧lv (σ id)=some (b,n):=by
  intro id b n hb
  simp only [lv1] at hb
  split at hb
  ·rename_i h;exact ⟨h.1,h.2,hb⟩
  ·cases hb
 have hl2:∀ id b n,lv1 id=some (b,n)→lv (σ id)=some (b,n):=fun id b n h=>(hl1 id b n h).2.2
 have hmine:∀ b,ybn lv1 b→B.mine b∧b < w.heap.size∧∃ i∈ids,∃ n,lv (σ i)=some (some b,n):=by
  rintro b ⟨id,n,hb⟩
  obtain ⟨h1,h2,h3⟩:=hl1 id _ n hb
  obtain ⟨_,_,h4,h5,_⟩:=hs.inv.lvat h3
  exact ⟨h4,h5,id,h1,n,h3⟩
 have hok1:∀ g,yax B ok0 lv w g→yax (yfo w lv1) (yax B ok0 lv w) lv1 w g:=fun g hg=>⟨.inl hg,hg.2.1,fun id b n hb=>hg.2.2 (σ id) b n (hl2 id _ n hb)⟩
 have hinv:Inv (yfo w lv1) (yax B ok0 lv w) hm lv1 w:=by
  refine ⟨⟨rfl,rfl,rfl,Nat.le_refl _,fun _ _ _=>rfl,hs.inv.base.glob,hs.inv.base.glob.size,fun k hk=>hs.inv.base.mineG (hmine k hk).1,fun l h=>by cases h⟩,fun g hg=>hg.2.1,fun id hid=>by simp [lv1,hid],fun i j b n m h1 h2=>?_,fun id x hx=>?_⟩
  ·obtain ⟨q1,_,q2⟩:=hl1 _ _ _ h1
   obtain ⟨r1,_,r2⟩:=hl1 _ _ _ h2
   exact hinj i q1 j r1 (hs.inv.inj _ _ b n m q2 r2)
  ·obtain ⟨b,n,h1,h2⟩:=hs.inv.obj (σ id) _ (hmem id x hx)
   have hlv:lv1 id=some (b,n):=by simp [lv1,hdom id (by simp [hx]),hx,h1]
   refine ⟨b,n,hlv,?_⟩
   cases b with
   | none=>exact zoe h2
   | some b=>exact ⟨.inl ⟨id,n,hlv⟩,h2.2.1,ygt.unren hl2 hok1 h2.2.2⟩
 have hall:ybm (yax (yfo w lv1) (yax B ok0 lv w) lv1 w) w lv1 args0 vs:=by
  refine ⟨by rw [hvs.1,List.length_map],fun i x u hx hu=>?_⟩
  have hrel:Rel (yax B ok0 lv w) w lv (yez σ x) u:=hvs.2 i _ u (by simp [hx]) hu
  exact (Rel.unren hl2 hrel).keep fun g hg=>⟨hok1 g hg,rfl⟩
 refine hK _ _ _ _ (fun e w' ⟨u,lv3,he,hu,hi3,hpin⟩=>?_) (hc.2 (yax B ok0 lv w) lv1 w vs hinv hall)
 have hb3:=hi3.base
 -- the blocks that are not lent stay
 have hstay:∀ k,k < w.heap.size→(∀ i∈ids,∀ n,lv (σ i)≠some (some k,n))→w'.heap[k]?=w.heap[k]?:=by
  intro k hk hn
  exact hb3.block k hk fun hlent=>by
   obtain ⟨_,_,i,hi,n,hn'⟩:=hmine k hlent
   exact hn i hi n hn'
 have hsz:w.heap.size≤w'.heap.size:=hb3.size
 have hmine3:∀ id b n,lv3 id=some (some b,n)→B.mine b∧b < w'.heap.size∧(w.heap.size≤b∨∃ i∈ids,∃ n,lv (σ i)=some (some b,n)):=by
  intro id b n hb
  obtain ⟨_,_,q1,q2,_⟩:=hi3.lvat hb
  rcases q1 with q1|q1
  ·have:=hmine b q1
   exact ⟨this.1,q2,.inr this.2.2⟩
  ·exact ⟨.inr (Nat.le_trans hs.inv.base.size q1),q2,.inl q1⟩
 have hid3:∀ id b n,lv3 id=some (b,n)→id∈ids:=fun id b n hb=>by
  cases hq:hm' id with
  | none=>rw [hi3.dom id hq] at hb;cases hb
  | some o=>exact hdom' id (by simp [hq])
 let find:Nat→Option Nat:=fun j=>ids.find? fun i=>σ i == j
 have hf1:∀ j i,find j=some i→i∈ids∧σ i=j:=fun j i h=>⟨List.mem_of_find?_eq_some h,by simpa using List.find?_some h⟩
 have hf2:∀ i∈ids,find (σ i)=some i:=fun i hi=>by
  cases hq:find (σ i) with
  | none=>
   have:=List.find?_eq_none.1 hq i hi
   simp at this
  | some k=>obtain ⟨h1,h2⟩:=hf1 _ _ hq;rw [hinj k h1 i hi h2]
 have hf3:∀ j,find j=none→∀ i∈ids,σ i≠j:=fun j h i hi e=>by
  have:=List.find?_eq_none.1 h i hi
  simp [e] at this
 let lv2:Live:=fun j=>match find j with
  | some i=>lv3 i
  | none=>if (s2.h j).isSome then lv j else none
 have hlv2a:∀ i∈ids,lv2 (σ i)=lv3 i:=fun i hi=>by simp only [lv2,hf2 i hi]
 have hlv2b:∀ j,(∀ i∈ids,σ i≠j)→∀ b n,lv2 j=some (b,n)→lv j=some (b,n)∧(s2.h j).isSome:=by
  intro j hj b n hb
  have hn:find j=none:=by
   cases hq:find j with
   | none=>rfl
   | some i=>obtain ⟨h1,h2⟩:=hf1 _ _ hq;exact absurd h2 (hj i h1)
  simp only [lv2,hn] at hb
  split at hb
  ·rename_i h;exact ⟨hb,h⟩
  ·cases hb
 have hcase:∀ j,(∃ i∈ids,σ i=j)∨∀ i∈ids,σ i≠j:=fun j=>by
  cases hq:find j with
  | none=>exact .inr (hf3 j hq)
  | some i=>obtain ⟨h1,h2⟩:=hf1 _ _ hq;exact .inl ⟨i,h1,h2⟩
 have hok2:∀ g,yax B ok0 lv w g→yax B ok0 lv2 w' g∧w'.heap[g]?=w.heap[g]?:=by
  intro g hg
  refine ⟨⟨hg.1,Nat.lt_of_lt_of_le hg.2.1 hsz,fun j b n hb=>?_⟩,hstay g hg.2.1 fun i _ n hn=>hg.2.2 _ _ n hn rfl⟩
  rcases hcase j with ⟨i,hi,rfl⟩|hj
  ·rw [hlv2a i hi] at hb
   rcases (hmine3 i b n hb).2.2 with h|⟨i',_,n',h⟩
   ·have:=hg.2.1;omega
   ·exact hg.2.2 _ _ n' h
  ·exact hg.2.2 j b n (hlv2b j hj _ n hb).1
 have hok3:∀ g,yax (yfo w lv1) (yax B ok0 lv w) lv3 w' g→yax B ok0 lv2 w' g:=by
  intro g hg
  refine ⟨?_,hg.2.1,fun j b n hb=>?_⟩
  ·rcases hg.1 with h|h|h
   ·exact h.1
   ·exact .inr (hmine g h).1
   ·exact .inr (.inr (Nat.le_trans hs.inv.base.size h))
  ·rcases hcase j with ⟨i,hi,rfl⟩|hj
   ·rw [hlv2a i hi] at hb
    exact hg.2.2 i b n hb
   ·obtain ⟨hb',_⟩:=hlv2b j hj _ n hb
    have hlt:=hs.inv.lvlt hb'
    rintro rfl
    rcases hg.1 with h|h|h
    ·exact h.2.2 j b n hb' rfl
    ·obtain ⟨_,_,i,hi,n',hn'⟩:=hmine b h
     exact hj i hi (hs.inv.inj _ _ b n' n hn' hb')
    ·simp only [yfo] at h;omega
 have hren:∀ id b n,id∈ids→lv2 (σ id)=some (b,n)→lv3 id=some (b,n):=fun id b n hi hb=>by rwa [hlv2a id hi] at hb
 have hframe:∀ (y:AV) (z:Value),(∀ i∈ids,ment (σ i) y=false)→Rel (yax B ok0 lv w) w lv y z→Rel (yax B ok0 lv2 w') w' lv2 y z:=by
  intro y z hy hz
  refine (hz.relive fun j b n hb hm=>?_).keep hok2
  rcases hcase j with ⟨i,hi,rfl⟩|hj
  ·rw [hy i hi] at hm;cases hm
  ·exact (hlv2b j hj b n hb).1
 refine ⟨u,lv2,he,⟨⟨?_,hs.inv.ok0lt,fun j hj=>?_,fun i j b n m h1 h2=>?_,fun j x hx=>?_⟩,hs.size,fun x y hy=>?_,hs.defers.same (fun g hg=>(hstay g (Array.getElem?_eq_some_iff.1 hg).1 fun i hi n hn=>(hs.inv.lvat hn).choose_spec.2.2.2.notDef hg).trans hg),hs.big,fun j b ws hN hj hcj hb=>?_⟩⟩
 ·-- base
  refine ⟨hb3.os.trans hs.inv.base.os,hb3.tape.trans hs.inv.base.tape,hb3.output.trans hs.inv.base.output,Nat.le_trans hs.inv.base.size hsz,fun k hk hnl=>?_,hb3.glob,hs.inv.base.gsize,hs.inv.base.lentG,hs.inv.base.rdok⟩
  refine (hstay k (Nat.lt_of_lt_of_le hk hs.inv.base.size) fun i hi n hn=>?_).trans (hs.inv.base.block k hk hnl)
  obtain ⟨_,_,q1,_,_⟩:=hs.inv.lvat hn
  rcases q1 with q1|q1
  ·exact hnl q1
  ·omega
 ·-- dom
  rcases hcase j with ⟨i,hi,rfl⟩|hj'
  ·rw [hlv2a i hi]
   refine hi3.dom i ?_
   rw [hh1 i hi] at hj
   cases hq:hm' i with
   | none=>rfl
   | some o=>simp [hq] at hj
  ·cases hq:lv2 j with
   | none=>rfl
   | some q=>obtain ⟨q1,q2⟩:=q;have:=(hlv2b j hj' q1 q2 hq).2;simp [hj] at this
 ·-- inj
  rcases hcase i with ⟨i',hi,rfl⟩|hi <;> rcases hcase j with ⟨j',hj,rfl⟩|hj
  ·rw [hlv2a i' hi] at h1
   rw [hlv2a j' hj] at h2
   rw [hi3.inj i' j' b n m h1 h2]
  ·rw [hlv2a i' hi] at h1
   have h2':=(hlv2b j hj _ m h2).1
   have:=hs.inv.lvlt h2'
   rcases (hmine3 i' b n h1).2.2 with h|⟨k,hk,n',h⟩
   ·omega
   ·exact absurd (hs.inv.inj _ _ b n' m h h2') (hj k hk)
  ·rw [hlv2a j' hj] at h2
   have h1':=(hlv2b i hi _ n h1).1
   have:=hs.inv.lvlt h1'
   rcases (hmine3 j' b m h2).2.2 with h|⟨k,hk,n',h⟩
   ·omega
   ·exact absurd (hs.inv.inj _ _ b n' n h h1') (hi k hk)
  ·exact hs.inv.inj i j b n m (hlv2b i hi _ n h1).1 (hlv2b j hj _ m h2).1
 ·-- objects
  rcases hcase j with ⟨i,hi,rfl⟩|hj
  ·rw [hh1 i hi] at hx
   cases hq:hm' i with
   | none=>simp [hq] at hx
   | some ob=>
    simp only [hq,Option.map_some,Option.some.injEq] at hx
    subst hx
    obtain ⟨b,n,q1,q2⟩:=hi3.obj i ob hq
    refine ⟨b,n,by rw [hlv2a i hi];exact q1,?_⟩
    cases b with
    | none=>
     simp only [ygo] at q2 ⊢
     rcases q2 with rfl|⟨e,rfl⟩
     ·exact .inl rfl
     ·exact .inr ⟨e,rfl⟩
    | some b=>
     exact ⟨(hmine3 i b n q1).1,q2.2.1,ygt.ren hren (hro i ob hq) hok3 q2.2.2⟩
  ·obtain ⟨hm1,ob,hob,hfo⟩:=hh2 j x hj hx
   obtain ⟨b,n,q1,q2⟩:=hs.inv.obj j ob hob
   have hlv2:lv2 j=some (b,n):=by
    have hn:find j=none:=by
     cases hq:find j with
     | none=>rfl
     | some i=>obtain ⟨h1,h2⟩:=hf1 _ _ hq;exact absurd h2 (hj i h1)
    simp [lv2,hn,hx,q1]
   refine ⟨b,n,hlv2,?_⟩
   cases b with
   | none=>
    simp only [ygo] at q2 ⊢
    rcases hfo with rfl|⟨_,_,rfl,_⟩|⟨_,_,_,rfl,_⟩
    ·exact q2
    ·simp at q2
    ·simp at q2
   | some b=>
    obtain ⟨q3,q4,q5⟩:=q2
    have hbk:w'.heap[b]?=w.heap[b]?:=hstay b q4 fun i hi n' hn'=>hj i hi (hs.inv.inj _ _ b n' n hn' q1)
    refine ⟨q3,Nat.lt_of_lt_of_le q4 hsz,?_⟩
    rcases hfo with rfl|⟨zs,ys,rfl,rfl,hyl,hyz⟩|⟨te,zs,ys,rfl,rfl,hyl,hyz⟩
    ·refine (q5.relive (lv':=lv2) fun k b' n' hb' hmk=>?_).keep hok2 hbk
     rcases hcase k with ⟨i,hi,rfl⟩|hk
     ·rw [hm1 i hi] at hmk;cases hmk
     ·exact (hlv2b k hk b' n' hb').1
    ·obtain ⟨c,e,g1,g2,g3,g4,g5⟩:=q5
     refine ⟨c,e,by rw [hbk];exact g1,g2,by omega,fun y hy=>?_,fun k y z hy hz=>?_⟩
     ·obtain ⟨k,hk⟩:=List.getElem?_of_mem hy
      obtain ⟨x,hx⟩:∃ x,zs[k]?=some x:=⟨_,List.getElem?_eq_getElem (by have:=(List.getElem?_eq_some_iff.1 hk).1;omega)⟩
      rcases hyz k x y hx hk with rfl|rfl
      ·exact g4 _ (List.mem_of_getElem? hx)
      ·rfl
     ·obtain ⟨x,hx⟩:∃ x,zs[k]?=some x:=⟨_,List.getElem?_eq_getElem (by have:=(List.getElem?_eq_some_iff.1 hy).1;omega)⟩
      rcases hyz k x y hx hy with rfl|rfl
      ·refine hframe _ z (fun i hi=>?_) (g5 k _ z hx hz)
       exact yew hy (hm1 i hi)
      ·exact .one _ ((g5 k x z hx hz).oneCell (g4 x (List.mem_of_getElem? hx)))
    ·obtain ⟨⟨c,e,g1,g2,g3,g4,g5⟩,hsh⟩:=q5
     refine ⟨⟨c,e,by rw [hbk];exact g1,g2,by omega,fun y hy=>?_,fun k y z hy hz=>?_⟩,by rw [hyl];exact (yic hbk).trans hsh⟩
     ·obtain ⟨k,hk⟩:=List.getElem?_of_mem hy
      obtain ⟨x,hx⟩:∃ x,zs[k]?=some x:=⟨_,List.getElem?_eq_getElem (by have:=(List.getElem?_eq_some_iff.1 hk).1;omega)⟩
      rcases hyz k x y hx hk with rfl|rfl
      ·exact g4 _ (List.mem_of_getElem? hx)
      ·rfl
     ·obtain ⟨x,hx⟩:∃ x,zs[k]?=some x:=⟨_,List.getElem?_eq_getElem (by have:=(List.getElem?_eq_some_iff.1 hy).1;omega)⟩
      rcases hyz k x y hx hy with rfl|rfl
      ·refine hframe _ z (fun i hi=>?_) (g5 k _ z hx hz)
       exact yew hy (hm1 i hi)
      ·exact .one _ ((g5 k x z hx hz).oneCell (g4 x (List.mem_of_getElem? hx)))
 ·-- frame
  rcases ht x y hy with ⟨rfl,z,hz⟩|⟨hz,hk⟩
  ·exact ⟨(hs.frame x z hz).1,.any _⟩
  ·refine ⟨(hs.frame x y hz).1,?_⟩
   have hold:=(hs.frame x y hz).2
   rcases hk with hk|⟨i,hi,off,o',hye,hci,hcc⟩
   ·exact hframe y _ hk hold
   ·have hlp:∀ z:Value,Rel (yax B ok0 lv w) w lv (.lp (σ i) off) z→Rel (yax B ok0 lv2 w') w' lv2 (.lp (σ i) off) z:=fun z hz=>by
     cases hz with
     | lp _ h1 h2=>
      refine .lp _ h1 fun b n hb=>?_
      rw [hlv2a i hi] at hb
      obtain ⟨b',n',n'',p1,p2⟩:=hpin i o' hci hcc
      rw [hb] at p2
      cases p2
      exact h2 b n' (hl2 i _ n' p1)
    rcases hye with rfl|⟨f',rfl⟩
    ·exact hlp _ hold
    ·generalize ydl B a x=z at hold
     cases hold with
     | fm vs hvl hvr=>
      refine .fm vs hvl fun k c u h1 h2=>?_
      have h3:=hvr k c u h1 h2
      match k,h1 with
      | 0,h1=>
       simp only [List.getElem?_cons_zero,Option.some.injEq] at h1
       subst h1
       exact hlp _ h3
      | k+1,h1=>simp at h1
 ·-- pins
  rcases hcase j with ⟨i,hi,rfl⟩|hj'
  ·rw [hh1 i hi] at hj
   cases hq:hm' i with
   | none=>simp [hq] at hj
   | some ob=>
    simp only [hq,Option.map_some,Option.some.injEq] at hj
    subst hj
    rw [yxd] at hcj
    obtain ⟨b',n',n'',p1,p2⟩:=hpin i ob hq hcj
    obtain ⟨zs,hz,hzc⟩:=hc.1 i ob hq hcj
    obtain ⟨n,hn⟩:=hs.pin (σ i) b _ hN (hmem i _ hz) (by rw [yxd];exact hzc) hb
    rw [hl2 i _ n' p1] at hn
    cases hn
    exact ⟨n'',by rw [hlv2a i hi];exact p2⟩
  ·obtain ⟨_,ob,hys,hfo⟩:=hh2 j _ hj' hj
   have hcc:isC ob=true:=by
    rcases hfo with rfl|⟨xs',ys',rfl,_,_⟩|⟨e,xs',ys',rfl,_,_⟩
    ·exact hcj
    ·rfl
    ·rfl
   obtain ⟨n,hn⟩:=hs.pin j b ob hN hys hcc hb
   obtain ⟨b2,n2,q1,_⟩:=hs.inv.obj j _ hys
   rw [hn] at q1
   cases q1
   have hn':find j=none:=by
    cases hq:find j with
    | none=>rfl
    | some i=>obtain ⟨h1,h2⟩:=hf1 _ _ hq;exact absurd h2 (hj' i h1)
   exact ⟨n,by simp [lv2,hn',hj,hn]⟩
end
def yqz (P:Program) (R:World→Prop):List Deferred→World→Prop
 | [],w=>R w
 | d::ds,w=>∃ r w',d.target=.collected r∧(Instr.takeDeferred r).run P w=.ok [] w'∧yqz P R ds w'
theorem yjv {P:Program} {F:Fence} {n:Nat} {R:World→Prop}:∀ (ds:List Deferred) (w:World) (fr:Frame) (cs:List Frame),fr.mode=.returning→fr.defers=ds→F.fn fr.fn→F.room (cs.length+1+n)→yqz P R ds w →
  ∃ w',R w'∧StepsIn (Machine.fenced P F) P (lone fr cs w) (lone { fr with defers:=[] } cs w')
 | [],w,fr,cs,hm,hd,hF,hr,h=>⟨w,h,by rw [← hd];exact StepsIn.refl _⟩
 | d::ds,w,fr,cs,hm,hd,hF,hr,⟨r,w1,h1,h2,h3⟩=>by
  have hs:=step_collected (cs:=cs) (by rw [hm];simp) hd h1 h2
  have i1:(lone fr cs w).fenced P F:=fenced_out hF hr (by rw [hm];simp) hd (fun g hg=>by rw [h1] at hg;simp [Target.leads] at hg)
  obtain ⟨w2,g1,g2⟩:=yjv ds w1 { fr with defers:=[]++ds } cs hm rfl hF hr h3
  exact ⟨w2,g1,.head i1 hs g2⟩
theorem callsDIn_of_wp_marks {P:Program} {F:Fence} {n:Nat} {f:FuncId} {fn:Func} {c:Code} {args:Array Value} {u:FrameMode} {w:World} {R:Ending→World→Prop} (hf:P.funcs[f]?=some fn) (hb:fn.body=some c) (hF:F.fn f)
  (h:c.wpIn F n P (fun e a w'=>(e=.normal∨e=.ret)∧yqz P (fun w2=>∃ v,(results fn a.tmps).run P w2=.ok v w2∧R (.returned v) w2) a.defers w') { tmps:=args++Array.replicate (fn.ntmps - args.size) undef,defers:=[] } w) (hro:F.round=none:=by rfl) :
  CallsDIn F n P f args u w fun e u' w'=>u'=u∧R e w':=by
 refine ⟨hF,fun c₀ cs hu hr=>?_⟩
 let b:Frame:={ (default:Frame) with fn:=f,kind:=.deferred,roundOf:=none }
 have henter:Frame.enter P f args .deferred =
   b.atR { tmps:=args++Array.replicate (fn.ntmps - args.size) undef,defers:=[] } [.code c]:=by
  simp [Frame.enter,Frame.atR,hf,hb,b]
 have hc:({ c₀ with mode:=u }:Frame)=c₀:=by subst hu;rfl
 obtain ⟨e,a',w',⟨he,hq⟩,harr⟩:=h b [] (c₀::cs) hro.symm hF hr
 rw [← henter] at harr
 rcases he with rfl|rfl
 ·obtain ⟨w2,⟨v,g1,g2⟩,g3⟩:=yjv (F:=F) (n:=n) a'.defers w' { b.atR a' [] with mode:=.returning } (c₀::cs) rfl rfl hF hr hq
  exact ⟨.returned v,u,w2,_,⟨rfl,g2⟩,(by rw [hc];exact StepsIn.trans (StepsIn.trans harr (.one (fenced_calm (fr:=b.atR a' []) hF hr rfl) (stepR_end rfl))) g3),rfl,rfl,rfl,rfl,fn,hf,g1⟩
 ·obtain ⟨todo,hs⟩:=harr.1 rfl
  obtain ⟨w2,⟨v,g1,g2⟩,g3⟩:=yjv (F:=F) (n:=n) a'.defers w' { b.atR a' todo with mode:=.returning } (c₀::cs) rfl rfl hF hr hq
  exact ⟨.returned v,u,w2,_,⟨rfl,g2⟩,(by rw [hc];exact StepsIn.trans hs g3),rfl,rfl,rfl,rfl,fn,hf,g1⟩
theorem yst {P:Program} {Rw:World→Prop} {B:Bse} {ok0:Nat→Prop} {N:Nat} {s:SS} {lv:Live} {tm:Array Value} (hB:B.dl=[]) (fin:∀ (a:Act) (w:World),a.tmps=tm→Sim B ok0 N s lv a w→Rw w):∀ (ms:List Deferred) (a:Act) (w:World),a.tmps=tm→a.defers=ms→Sim B ok0 N s lv a w→yqz P Rw ms w
 | [],a,w,ht,hm,hs=>fin a w ht hs
 | d::ms,a,w,ht,hm,hs=>by
  obtain ⟨ms',h1,hn,h2⟩:=hs.defers
  rw [hB,List.append_nil,hm] at h1
  subst h1
  obtain ⟨D,hd,hD,hge⟩:=h2 d (by simp)
  refine ⟨D,_,by rw [hd],run_takeDeferred hD,?_⟩
  simp only [List.nodup_cons] at hn
  have hsh:=Shut.put hD
  have hs':=hs.shut hsh (fun k hk=>World.putObj_heap_other (by omega)) (l:=ms) ⟨ms,by rw [hB,List.append_nil],hn.2,fun d' hd'=>by
   obtain ⟨D',e1,e2,e3⟩:=h2 d' (by simp [hd'])
   refine ⟨D',e1,(World.putObj_heap_other fun e=>?_).trans e2,e3⟩
   subst e
   exact hn.1 (by rw [hd,← e1];exact hd')⟩
  exact yst hB fin ms { a with defers:=ms } _ ht rfl hs'
def bM (w:World) (lv:Live):Bse:=⟨w,ybn lv,fun id=>(lv id).bind (·.1),none,[],fun _=>undef⟩
theorem zri {N n:Nat} {args:List AV} {hs:Nat→Option LObj} {ok0:Nat→Prop} {lv:Live} {w:World} {us:List Value} (hN:n=N) (hlen:(Nat.ble args.length N && Nat.ble N 1000000)=true) (hi:Inv (yfo w lv) ok0 hs lv w) (hus:ybm (yax (yfo w lv) ok0 lv w) w lv args us) :
  Sim (bM w lv) ok0 N ⟨look (yfz 0 args),hs⟩ lv { tmps:=us.toArray++Array.replicate (n - us.toArray.size) undef,defers:=[] } w:=by
 simp only [Bool.and_eq_true,Nat.ble_eq] at hlen
 obtain ⟨hlen',hbig⟩:=hlen
 refine ⟨hi.pinned _ _ _ _ (fun l h=>by cases h),?_,fun x y hy=>?_,⟨[],rfl,List.nodup_nil,fun d hd=>by cases hd⟩,hbig,fun id b o hN hx hc hb=>?_⟩
 ·simp [hN,hus.1];omega
 ·simp only [yph] at hy
  have hlt:=(List.getElem?_eq_some_iff.1 hy).1
  refine ⟨.inl (by omega),?_⟩
  rw [ydl,if_pos (by omega)]
  obtain ⟨u,hu⟩:∃ u,us[x]?=some u:=⟨_,List.getElem?_eq_getElem (by rw [hus.1];exact hlt)⟩
  simp only [ylp us _ x u hu]
  exact hus.2 x y u hy hu
 ·simp only [bM] at hb
  cases hl:lv id with
  | none=>simp [hl] at hb
  | some q=>obtain ⟨q1,q2⟩:=q;simp [hl] at hb;subst hb;exact ⟨q2,rfl⟩
theorem zwr {P:Program} {T:Nat→Option Ty} (hT:TOK P T) {fn:Func} {N:Nat} {rs:List ResultVar} {r x:AV} {hs hs':Nat→Option LObj} {ok0:Nat→Prop} {lv lv':Live} {w w':World} {s':SS} {a':Act} (hrs:fn.results=rs.toArray) (hcl:∀ id o,hs' id=some o→isC o=true→N≤id∧∃ o',hs id=some o'∧isC o'=true)
  (hi:Inv (yfo w lv) ok0 hs lv w) (hs2:Sim (bM w lv) ok0 N s' lv' a' w') (hx:yut T s' rs=some x) (hwk:Wk x r) (hsub:∀ id o,hs' id=some o→s'.h id=some o) :
  ∃ v,(results fn a'.tmps).run P w'=.ok v w'∧∃ u lv2,Ending.returned v=.returned u∧Rel (yax (yfo w lv) ok0 lv2 w') w' lv2 r u∧Inv (yfo w lv) ok0 hs' lv2 w'∧∀ id o,hs' id=some o→isC o=true→∃ b n n',lv id=some (some b,n)∧lv2 id=some (some b,n'):=by
 obtain ⟨u,hu,hrun⟩:=zab (P:=P) hT hs2 hrs hx
 obtain ⟨lv2,i1,i2,i3⟩:=hs2.inv.weak hsub
 refine ⟨u,hrun,u,lv2,rfl,hwk.rel _ _ _ _ ((hu.relive fun id b n hb _=>i2 id b n hb).keep fun g hg=>⟨i3 g hg,rfl⟩),i1.pinned _ _ _ _ (fun l h=>by cases h),fun id o hx hc=>?_⟩
 obtain ⟨h1,o',hy,hc'⟩:=hcl id o hx hc
 obtain ⟨b,n,hb,ho⟩:=hi.obj id _ hy
 cases b with
 | none=>simp only [ygo] at ho;rcases ho with rfl|⟨e,rfl⟩ <;> cases hc'
 | some b=>
  obtain ⟨n',hn'⟩:=hs2.pin id b o h1 (hsub id _ hx) hc (by simp [bM,hb])
  obtain ⟨b2,n2,hb2,_⟩:=i1.obj id _ hx
  have:=i2 id b2 n2 hb2
  rw [hn'] at this
  cases this
  exact ⟨b,n,_,hb,hb2⟩
theorem conKD_of {P:Program} {T:Nat→Option Ty} (hT:TOK P T) {f:FuncId} {fn:Func} {c:Code} {N:Nat} {rs:List ResultVar} {args:List AV} {hs hs':Nat→Option LObj} {r:AV} (u:FrameMode) (hf:P.funcs[f]?=some fn) (hb:fn.body=some c) (hN:fn.ntmps=N) (hrs:fn.results=rs.toArray) (hlen:(Nat.ble args.length N && Nat.ble N 1000000)=true)
  (hcl:∀ id o,hs' id=some o→isC o=true→N≤id∧∃ o',hs id=some o'∧isC o'=true) (h:A P N c (zql T rs r hs') ⟨look (yfz 0 args),hs⟩):zxi (KD P f u u) args hs r hs':=by
 refine ⟨fun id o hx hc=>(hcl id o hx hc).2,fun ok0 lv w us hi hus=>callsDIn_of_wp_marks hf hb trivial ?_⟩
 refine wpIn_mono (h _ ok0 _ _ w (zri hN hlen hi hus)) fun e a' w' ⟨s',lv',hq,hs2⟩=>?_
 cases e with
 | normal=>obtain ⟨x,hx,h1,h2⟩:=hq;exact ⟨.inl rfl,yst (B:=bM w lv) (tm:=a'.tmps) rfl (fun a2 w2 ht hs3=>by have:=zwr hT hrs hcl hi hs3 hx h1 h2 (fn:=fn);rwa [ht] at this) _ a' w' rfl rfl hs2⟩
 | ret=>obtain ⟨x,hx,h1,h2⟩:=hq;exact ⟨.inr rfl,yst (B:=bM w lv) (tm:=a'.tmps) rfl (fun a2 w2 ht hs3=>by have:=zwr hT hrs hcl hi hs3 hx h1 h2 (fn:=fn);rwa [ht] at this) _ a' w' rfl rfl hs2⟩
 | _=>exact hq.elim
def bD (B:Bse) (lv:Live) (w:World) (dl:List Deferred) (gv:Nat→Value):Bse:=⟨w,ybn lv,B.pin,none,dl,gv⟩
theorem Sim.rebase {B:Bse} {ok0:Nat→Prop} {N:Nat} {s:SS} {lv:Live} {a:Act} {w:World} (hs:Sim B ok0 N s lv a w) (hlow:∀ x,1000000≤x→s.t x=none) (gv:Nat→Value):Sim (bD B lv w a.defers gv) (yax B ok0 lv w) N s lv a w:=by
 have hm:∀ b,ybn lv b→B.mine b∧b < w.heap.size:=by
  rintro b ⟨id,n,hb⟩
  obtain ⟨_,_,h4,h5,_⟩:=hs.inv.lvat hb
  exact ⟨h4,h5⟩
 have hok:∀ g,yax B ok0 lv w g→yax (bD B lv w a.defers gv) (yax B ok0 lv w) lv w g:=fun g hg=>⟨.inl hg,hg.2.1,hg.2.2⟩
 refine ⟨⟨⟨rfl,rfl,rfl,Nat.le_refl _,fun _ _ _=>rfl,hs.inv.base.glob,hs.inv.base.glob.size,fun k hk=>hs.inv.base.mineG (hm k hk).1,fun l h=>by cases h⟩,fun g hg=>hg.2.1,hs.inv.dom,hs.inv.inj,fun id x hx=>?_⟩,hs.size,fun x y hy=>?_,⟨[],rfl,List.nodup_nil,fun d hd=>by cases hd⟩,hs.big,hs.pin⟩
 ·obtain ⟨b,n,h1,h2⟩:=hs.inv.obj id x hx
  refine ⟨b,n,h1,?_⟩
  cases b with
  | none=>exact h2
  | some b=>exact ⟨.inl ⟨id,n,h1⟩,h2.2.1,h2.2.2.keep (fun g hg=>⟨hok g hg,rfl⟩) rfl⟩
 ·obtain ⟨h1,h2⟩:=hs.frame x y hy
  refine ⟨h1,?_⟩
  have hlt:x < 1000000:=by
   rcases Nat.lt_or_ge x 1000000 with h|h
   ·exact h
   ·rw [hlow x h] at hy;cases hy
  have e:ydl (bD B lv w a.defers gv) a x=ydl B a x:=by simp [ydl,hlt]
  rw [e]
  exact h2.keep fun g hg=>⟨hok g hg,rfl⟩
theorem Sim.unbase {B:Bse} {ok0:Nat→Prop} {N:Nat} {s s':SS} {lv lv':Live} {a a':Act} {w w':World} {dl ds:List Deferred} {gv:Nat→Value} (hs:Sim B ok0 N s lv a w) (hrd:B.rd=none) (hs':Sim (bD B lv w dl gv) (yax B ok0 lv w) N s' lv' a' w') (hds:zbd B w' ds) (hlow:∀ x,1000000≤x→s'.t x=none):Sim B ok0 N s' lv' { a' with defers:=ds } w':=by
 have hm:∀ b,ybn lv b→B.mine b:=by
  rintro b ⟨id,n,hb⟩
  obtain ⟨_,_,h4,h5,_⟩:=hs.inv.lvat hb
  exact h4
 have hmine:∀ g,(bD B lv w dl gv).mine g→B.mine g:=by
  rintro g (h|h)
  ·exact hm g h
  ·exact .inr (Nat.le_trans hs.inv.base.size h)
 have hok:∀ g,yax (bD B lv w dl gv) (yax B ok0 lv w) lv' w' g→yax B ok0 lv' w' g:=fun g hg=>⟨by
  rcases hg.1 with h|h
  ·exact h.1
  ·exact .inr (hmine g h),hg.2.1,hg.2.2⟩
 have hb:=hs'.inv.base
 have hw:=hs.inv.base
 refine ⟨⟨⟨hb.os.trans hw.os,hb.tape.trans hw.tape,hb.output.trans hw.output,Nat.le_trans hw.size hb.size,fun k hk hnl=>?_,hb.glob,hw.gsize,hw.lentG,fun l h=>by rw [hrd] at h;cases h⟩,hs.inv.ok0lt,hs'.inv.dom,hs'.inv.inj,fun id x hx=>?_⟩,hs'.size,fun x y hy=>?_,hds,hs'.big,hs'.pin⟩
 ·refine (hb.block k (Nat.lt_of_lt_of_le hk hw.size) fun h=>?_).trans (hw.block k hk hnl)
  rcases hm k h with h|h
  ·exact hnl h
  ·omega
 ·obtain ⟨b,n,h1,h2⟩:=hs'.inv.obj id x hx
  refine ⟨b,n,h1,?_⟩
  cases b with
  | none=>exact h2
  | some b=>exact ⟨hmine b h2.1,h2.2.1,h2.2.2.keep (fun g hg=>⟨hok g hg,rfl⟩) rfl⟩
 ·obtain ⟨h1,h2⟩:=hs'.frame x y hy
  refine ⟨h1,?_⟩
  have hlt:x < 1000000:=by
   rcases Nat.lt_or_ge x 1000000 with h|h
   ·exact h
   ·rw [hlow x h] at hy;cases hy
  have e:ydl (bD B lv w dl gv) a' x=ydl B { a' with defers:=ds } x:=by simp [ydl,hlt]
  rw [e] at h2
  exact h2.keep fun g hg=>⟨hok g hg,rfl⟩
theorem ysm {P:Program} {fn:Func} {R:Ending→World→Prop} {B:Bse} {ok0:Nat→Prop} {N n:Nat} {s:SS} {lv:Live} {u:FrameMode} (hu:u≠.run) {tm:Array Value}
  (fin:∀ (a:Act) (w:World),a.tmps=tm→Sim B ok0 N s lv a w→LeavesInM Fence.wide n P fn tm R B.dl u w):∀ (ms:List Deferred) (a:Act) (w:World),a.tmps=tm→a.defers=ms++B.dl→ms.Nodup →
   (∀ d∈ms,∃ D,d={ target:=.collected D,args:=#[] }∧w.heap[D]?=some (.deferred (some []))∧B.w.heap.size≤D)→Sim B ok0 N s lv a w→LeavesInM Fence.wide n P fn tm R (ms++B.dl) u w
 | [],a,w,ht,hd,hn,h2,hs=>fin a w ht hs
 | d::ms,a,w,ht,hd,hn,h2,hs=>by
  obtain ⟨D,hdd,hD,hge⟩:=h2 d (by simp)
  refine ⟨hu,.inl ⟨D,_,by rw [hdd],run_takeDeferred hD,?_⟩⟩
  simp only [List.nodup_cons] at hn
  have hsh:=Shut.put hD
  have hrest:∀ d'∈ms,∃ D',d'={ target:=.collected D',args:=#[] }∧(w.putObj D (.deferred none)).heap[D']?=some (.deferred (some []))∧B.w.heap.size≤D':=fun d' hd'=>by
   obtain ⟨D',e1,e2,e3⟩:=h2 d' (by simp [hd'])
   refine ⟨D',e1,(World.putObj_heap_other fun e=>?_).trans e2,e3⟩
   subst e
   exact hn.1 (by rw [hdd,← e1];exact hd')
  have hs':=hs.shut hsh (fun k hk=>World.putObj_heap_other (by omega)) (l:=ms++B.dl) ⟨ms,rfl,hn.2,hrest⟩
  exact ysm hu fin ms { a with defers:=ms++B.dl } _ ht rfl hn.2 hrest hs'
def zxx (P:Program) (N:Nat) (B:Bse) (ok0:Nat→Prop) (Q:Option (FuncId × Nat)→Exit→SS→Prop) (e:Exit) (a':Act) (w':World):Prop:=
 (∃ s' lv',Q none e s'∧Sim B ok0 N s' lv' a' w') ∨
 ∃ (g:FuncId) (vs:List Value) (d:Deferred) (s0:SS) (lv0:Live) (a0:Act) (w0:World) (s':SS) (lv':Live),Sim B ok0 N s0 lv0 a0 w0∧(∃ fv cap,d.target=.fn fv cap∧∀ w,(invoke (.fn fv cap) d.args).run P w=.ok (.enter g vs.toArray) w) ∧
  Q (some (g,vs.length)) e s'∧Sim (bD B lv0 w0 (d::a0.defers) (fun x=>vs.getD (x - 1000000) undef)) (yax B ok0 lv0 w0) N s' lv' a' w'
def AF (P:Program) (N:Nat) (c:Code) (Q:Option (FuncId × Nat)→Exit→SS→Prop) (s:SS):Prop:=
 ∀ (B:Bse) (ok0:Nat→Prop) (lv:Live) (a:Act) (w:World),B.rd=none→B.dl=[]→Sim B ok0 N s lv a w→c.wpIn Fence.wide 0 P (zxx P N B ok0 Q) a w
section
variable {P:Program} {N:Nat} {Q:Option (FuncId × Nat)→Exit→SS→Prop} {s:SS}
theorem zqh {c:Code} (h:A P N c (Q none) s):AF P N c Q s:=fun B ok0 lv a w hrd hdl hs=>by
 have:=h B ok0 lv a w hs
 rw [hrd] at this
 exact wpIn_mono this fun e a' w' ⟨s',lv',h1,h2⟩=>.inl ⟨s',lv',h1,h2⟩
def ThenF (P:Program) (N:Nat) (y:Code) (Q:Option (FuncId × Nat)→Exit→SS→Prop):Option (FuncId × Nat)→Exit→SS→Prop
 | none,.normal,s=>AF P N y Q s
 | some D,.normal,s=>A P N y (Q (some D)) s
 | D,e,s=>Q D e s
theorem zlr {x y:Code} (h:AF P N x (ThenF P N y Q) s):AF P N (.seq x y) Q s:=by
 intro B ok0 lv a w hrd hdl hs
 refine wpIn_seq (wpIn_mono (h B ok0 lv a w hrd hdl hs) fun e a' w' hp=>?_)
 rcases hp with ⟨s',lv',h1,h2⟩|⟨g,vs,d,s0,lv0,a0,w0,s',lv',p1,p2,p3,p4⟩
 ·cases e with
  | normal=>exact h1 B ok0 lv' a' w' hrd hdl h2
  | _=>exact .inl ⟨s',lv',h1,h2⟩
 ·cases e with
  | normal=>exact wpIn_mono (p3 _ _ lv' a' w' p4) fun e a2 w2 ⟨s2,lv2,q1,q2⟩=>.inr ⟨g,vs,d,s0,lv0,a0,w0,s2,lv2,p1,p2,q1,q2⟩
  | _=>exact .inr ⟨g,vs,d,s0,lv0,a0,w0,s',lv',p1,p2,p3,p4⟩
theorem yzb {ops:Array Oper} {lf:Oper→Bool} {Q:SS→Prop} {B:Bse} {ok0:Nat→Prop} {Q':Exit→Act→World→Prop} {n:Nat} {rest:List Nat} (hQ:∀ s lv a w,Q s→Sim B ok0 N s lv a w→wpOpsIn (FW B.rd) n P ops Q' rest a w) {l:List Oper} {s:SS}
  (h:Lex P N ops lf Q l s):yga l=true→∀ (k:Nat),(∀ (j:Nat) (o:Oper),l[j]?=some o→ops[k+j]?=some o)→∀ (lv:Live) (a:Act) (w:World),Sim B ok0 N s lv a w→wpOpsIn (FW B.rd) n P ops Q' (List.range' k l.length++rest) a w:=by
 induction h with
 | nil h=>intro hnd k hl lv a w hs;exact hQ _ lv a w h hs
 | @calm o l s r hw hd hy k ih=>
  intro hnd k hl lv a w hs
  simp only [yga,List.all_cons,Bool.and_eq_true,Bool.not_eq_true'] at hnd
  have h0:ops[k]?=some o:=by simpa using hl 0 o rfl
  simp only [List.length_cons,List.range'_succ,List.cons_append,wpOpsIn,h0,hs.wanted hw,if_true]
  exact ymw hnd.1 (zgh hs hd hy Q' fun a' w' hs'=>ih hnd.2 (k+1) (fun j o' ho'=>by have:=hl (j+1) o' (by simpa using ho');rwa [show k+(j+1)=k+1+j by omega] at this) lv a' w' hs')
 | @skip o l s hw hd k ih=>
  intro hnd k hl lv a w hs
  simp only [yga,List.all_cons,Bool.and_eq_true,Bool.not_eq_true'] at hnd
  have h0:ops[k]?=some o:=by simpa using hl 0 o rfl
  simp only [List.length_cons,List.range'_succ,List.cons_append,wpOpsIn,h0,hs.wanted hw,Bool.false_eq_true,if_false]
  exact ⟨fun _ _=>trivial,ih hnd.2 (k+1) (fun j o' ho'=>by have:=hl (j+1) o' (by simpa using ho');rwa [show k+(j+1)=k+1+j by omega] at this) lv _ w (hs.put hd hs.inv (Below.refl _ _) (.v _))⟩
 | @loud o l s R hl' hw hy k ih=>
  intro hnd k hl lv a w hs
  simp only [yga,List.all_cons,Bool.and_eq_true,Bool.not_eq_true'] at hnd
  have h0:ops[k]?=some o:=by simpa using hl 0 o rfl
  simp only [List.length_cons,List.range'_succ,List.cons_append,wpOpsIn,h0,hs.wanted hw,if_true]
  refine ymw hnd.1 (Oper.wp_mono (fun a' w' ⟨s',lv',hR,hs'⟩=>?_) (hy B ok0 lv a w hs Q'))
  exact ih s' hR hnd.2 (k+1) (fun j o' ho'=>by have:=hl (j+1) o' (by simpa using ho');rwa [show k+(j+1)=k+1+j by omega] at this) lv' a' w' hs'
 | @split l s d b hb k ih=>
  intro hnd k hl lv a w hs
  refine ih b rfl hnd k hl lv a w ?_
  rw [ykc hb]
  exact hs
theorem ynw {lf:Oper→Bool} {id:Nat} {l:List Oper} (k:Nat) {o:Oper} {l1 l2:List Oper} {g:Operand} {args:List Operand} {ats:Array TypeId} (hk:l[k]?=some o) (h1:l.take k=l1) (h2:l.drop (k+1)=l2) (hn1:yga l1=true) (hn2:yga l2=true) (ho:o.op=.defer { callee:=.value g,args:=args.toArray,argTypes:=ats }) (hdst:ytr N o)
  (h:Lex P N l.toArray lf (fun s1=>yaj l.toArray s1.t o=some true∧∃ f caps xs,ynx P f∧evF s1.t g=some (.fn f caps)∧evL (evF s1.t) args=some xs∧(∀ x,1000000≤x→s1.t x=none) ∧
   Lex P N l.toArray lf (Q (some (f,xs.length+caps.length)) .normal) l2 ⟨fun x=>if 1000000≤x then (xs++caps)[x - 1000000]? else ydu s1.t o.dst (.v undef) x,s1.h⟩) l1 s):AF P N (.region id l.toArray false) Q s:=by
 intro B ok0 lv a w hrd hdl hs
 have hlt:=(List.getElem?_eq_some_iff.1 hk).1
 have hlen:l1.length=k:=by rw [← h1,List.length_take];omega
 have hlen2:l2.length=l.length - k - 1:=by rw [← h2,List.length_drop];omega
 have hFW:FW B.rd=Fence.wide:=by rw [hrd];rfl
 refine wpIn_region ?_
 have hsp:List.range l.toArray.size=List.range' 0 l1.length++(k::(List.range' (k+1) l2.length++[])):=by
  rw [List.append_nil,List.size_toArray,List.range_eq_range',hlen,hlen2]
  have e:l.length=k+((l.length - k - 1)+1):=by omega
  conv=>lhs;rw [e]
  rw [← List.range'_append_1,Nat.zero_add,List.range'_succ]
 rw [hsp,← hFW]
 refine yzb (fun s1 lv1 a1 w1 hq hs1=>?_) h hn1 0 (fun j o' ho'=>?_) lv a w hs
 ·have h0:l.toArray[k]?=some o:=by simpa using hk
  obtain ⟨hwt,f,caps,xs,hbody,hg,hx,hlow,hlex⟩:=hq
  simp only [wpOpsIn,h0,hs1.wanted hwt,if_true]
  have hfr:=hs1.eval hg
  have har:=yub (a:=a1) args xs (fun x y _ hxy=>hs1.eval hxy) hx
  generalize hv:a1.eval g=v at hfr
  cases hfr with
  | fn vs hl hrc=>
  let d:Deferred:={ target:=.fn (.func f) vs.toArray,args:=(args.map a1.eval).toArray }
  have hrun:(o.semAt (FW B.rd).round a1.eval).run P w1=.ok (.defer d) w1:=by
   rw [hFW]
   unfold Oper.semAt execOp
   simp only [ho,Fence.wide,resolve,Deferred.ofValue,hv,Sem.run_bind,Sem.run_pure,Result.andThen_ok]
   simp [d]
  refine ⟨fun _ _=>by rw [hFW];trivial,?_⟩
  rw [hrun,Oper.uponIn_defer]
  let gv:Nat→Value:=fun x=>(args.map a1.eval++vs).getD (x - 1000000) undef
  have hreb:=hs1.rebase hlow gv
  have hsim:Sim (bD B lv1 w1 (d::a1.defers) gv) (yax B ok0 lv1 w1) N ⟨fun x=>if 1000000≤x then (xs++caps)[x - 1000000]? else ydu s1.t o.dst (.v undef) x,s1.h⟩ lv1 ({ a1 with defers:=d::a1.defers }.put o.dst undef) w1:=by
   refine ⟨hreb.inv.pinned _ none _ _ (fun l h=>by cases h),?_,fun x y hy=>?_,⟨[],?_,List.nodup_nil,fun d hd=>by cases hd⟩,hs1.big,hs1.pin⟩
   ·cases hd:o.dst <;> simp [Act.put,hs1.size]
   ·simp only at hy
    split at hy
    ·rename_i hge
     refine ⟨.inr hge,?_⟩
     have e:ydl (bD B lv1 w1 (d::a1.defers) gv) ({ a1 with defers:=d::a1.defers }.put o.dst undef) x=gv x:=by simp only [ydl];rw [if_neg (by omega)];rfl
     rw [e]
     have hval:∃ u,(args.map a1.eval++vs)[x - 1000000]?=some u∧Rel (yax B ok0 lv1 w1) w1 lv1 y u:=by
      by_cases hxl:x - 1000000 < xs.length
      ·rw [List.getElem?_append_left hxl] at hy
       have hl2:x - 1000000 < (args.map a1.eval).length:=by rw [har.1];exact hxl
       exact ⟨(args.map a1.eval)[x - 1000000],by rw [List.getElem?_append_left hl2,List.getElem?_eq_getElem hl2],har.2 _ y _ hy (List.getElem?_eq_getElem hl2)⟩
      ·rw [List.getElem?_append_right (by omega)] at hy
       have hl2:x - 1000000 - xs.length < vs.length:=by have:=(List.getElem?_eq_some_iff.1 hy).1;rw [hl];exact this
       exact ⟨vs[x - 1000000 - xs.length],by rw [List.getElem?_append_right (by rw [har.1];omega),har.1,List.getElem?_eq_getElem hl2],hrc _ y _ hy (List.getElem?_eq_getElem hl2)⟩
     obtain ⟨u,hu1,hu2⟩:=hval
     have:gv x=u:=by simp only [gv,List.getD_eq_getElem?_getD,hu1,Option.getD_some]
     rw [this]
     exact hu2.keep fun g hg=>⟨⟨.inl hg,hg.2.1,hg.2.2⟩,rfl⟩
    ·rename_i hge
     have hput:=(hreb.put (d:=o.dst) (u:=undef) hdst hreb.inv (Below.refl _ _) (.v _)).frame x y hy
     refine ⟨hput.1,?_⟩
     have e:ydl (bD B lv1 w1 (d::a1.defers) gv) ({ a1 with defers:=d::a1.defers }.put o.dst undef) x=ydl (bD B lv1 w1 a1.defers gv) (a1.put o.dst undef) x:=by
      simp only [ydl]
      rw [if_pos (by omega),if_pos (by omega)]
      cases o.dst <;> rfl
     rw [e]
     exact hput.2
   ·cases hd:o.dst <;> rfl
  have hrest:=yzb (B:=bD B lv1 w1 (d::a1.defers) gv) (ok0:=yax B ok0 lv1 w1) (Q':=zxx P N B ok0 Q) (n:=0) (rest:=[]) (fun s2 lv2 a2 w2 hq2 hs2=>?_) hlex hn2 (k+1) (fun j o' ho'=>?_) lv1 _ w1 hsim
  ·rw [hFW];exact hrest
  ·refine .inr ⟨f,args.map a1.eval++vs,d,s1,lv1,a1,w1,s2,lv2,hs1,⟨.func f,vs.toArray,rfl,fun w=>?_⟩,?_,hs2⟩
   ·simp only [invoke,d]
    rw [ygl hbody]
    simp
   ·rw [List.length_append,har.1,hl];exact hq2
  ·rw [← h2,List.getElem?_drop] at ho'
   simpa using ho'
 ·rw [← h1,List.getElem?_take] at ho'
  split at ho'
  ·rw [Nat.zero_add];simpa using ho'
  ·cases ho'
def znq:Exit→Option FrameMode
 | .normal=>some .returning
 | .ret=>some .returning
 | .panic ch=>some (.panicking ch)
 | _=>none
def zxu (P:Program) (T:Nat→Option Ty) (rs:List ResultVar) (r:AV) (hs':Nat→Option LObj):Option (FuncId × Nat)→Exit→SS→Prop
 | none,e,s=>zql T rs r hs' e s
 | some (g,n),e,s=>∃ (u u':FrameMode) (args0:List AV) (hm:Nat→Option LObj) (v:AV) (hm':Nat→Option LObj) (σ:Nat→Nat) (ids:List Nat) (s2:SS),znq e=some u∧settle u'=.returning∧args0.length=n∧(∀ i x,args0[i]?=some x→s.t (1000000+i)=some (yez σ x))∧zxi (KD P g u u') args0 hm v hm' ∧
   ((∀ i∈ids,∀ j∈ids,σ i=σ j→i=j)∧(∀ id,(hm id).isSome→id∈ids)∧(∀ id,(hm' id).isSome→id∈ids)∧(∀ id o,hm id=some o→s.h (σ id)=some (zbb σ o))∧(∀ id o,hm' id=some o→yro ids o=true) ∧
    (∀ x y,s2.t x=some y→(y=.any∧∃ z,s.t x=some z)∨(s.t x=some y∧zyt σ ids hm' y))∧(∀ i∈ids,s2.h (σ i)=(hm' i).map (zbb σ))∧∀ j ob',(∀ i∈ids,σ i≠j)→s2.h j=some ob'→(∀ i∈ids,yfr (σ i) ob'=false)∧∃ ob,s.h j=some ob∧ymf ob ob') ∧
   (∀ x,1000000≤x→s2.t x=none)∧∃ x,yut T s2 rs=some x∧Wk x r∧∀ id o,hs' id=some o→s2.h id=some o
theorem zmi {T : Nat → Option Ty} (hT : TOK P T) {f : FuncId} {fn : Func} {c : Code} {rs : List ResultVar} {args : List AV} {hs hs' : Nat → Option LObj} {r : AV} (hf : P.funcs[f]? = some fn) (hn : (fn.name == "runtime.NumGoroutine") = false) (hb : fn.body = some c) (hN : fn.ntmps = N) (hrs : fn.results = rs.toArray) (hlen : (Nat.ble args.length N && Nat.ble N 1000000) = true)
  (hcl:∀ id o,hs' id=some o→isC o=true→N≤id∧∃ o',hs id=some o'∧isC o'=true) (h:AF P N c (zxu P T rs r hs') ⟨look (yfz 0 args),hs⟩):ywc P f args hs r hs':=by
 refine ⟨⟨fn,hf,hn,by simp [hb]⟩,fun id o hx hc=>(hcl id o hx hc).2,fun ok0 lv w us hi hus=>?_⟩
 refine (callsIn_wide (n:=0)).1 (callsIn_of_wp_marks hf hb trivial ?_)
 refine wpIn_mono (h _ ok0 _ _ w rfl rfl (zri hN hlen hi hus)) fun e a' w' hp=>?_
 rcases hp with ⟨s',lv',hq,hs2⟩|⟨g,vs,d,s0,lv0,a0,w0,s',lv',p1,⟨fv,cap,p2,p3⟩,⟨u,u',args0,hm,v,hm',σ,ids,s2,q1,q2,q3,q4,q5,⟨c1,c2,c3,c4,c5,c6,c7,c8⟩,q6,x,q7,q8,q9⟩,p4⟩
 ·cases e with
  | normal=>obtain ⟨x,hx,h1,h2⟩:=hq;exact ycw rfl rfl (fun a2 w2 hs3=>zwr hT hrs hcl hi hs3 hx h1 h2) _ a' w' rfl hs2
  | ret=>obtain ⟨x,hx,h1,h2⟩:=hq;exact ycw rfl rfl (fun a2 w2 hs3=>zwr hT hrs hcl hi hs3 hx h1 h2) _ a' w' rfl hs2
  | _=>exact hq.elim
 have hu:u≠.run:=by
  cases e <;> simp only [znq,Option.some.injEq] at q1 <;> first|(subst q1;simp)|cases q1
 have main:LeavesInM Fence.wide 0 P fn a'.tmps (fun e w'=>∃ u lv',e=.returned u∧Rel (yax (yfo w lv) ok0 lv' w') w' lv' r u∧Inv (yfo w lv) ok0 hs' lv' w'∧∀ id o,hs' id=some o→isC o=true→∃ b n n',lv id=some (some b,n)∧lv' id=some (some b,n')) a'.defers u w':=by
  obtain ⟨ms,m1,m2,m3⟩:=p4.defers
  rw [m1]
  refine ysm hu (B:=bD (bM w lv) lv0 w0 (d::a0.defers) (fun x=>vs.getD (x - 1000000) undef)) (tm:=a'.tmps) (fun a1 w1 ht hs1=>?_) ms a' w' rfl m1 m2 m3 p4
  refine ⟨hu,.inr ⟨fun h=>(by cases h),fv,cap,g,vs.toArray,p2,(by rw [p2];exact p3 w1),fun _ _=>trivial,?_⟩⟩
  have hvs:ybm (yax (bD (bM w lv) lv0 w0 (d::a0.defers) (fun x=>vs.getD (x - 1000000) undef)) (yax (bM w lv) ok0 lv0 w0) lv' w1) w1 lv' (args0.map (yez σ)) vs:=by
   refine ⟨by rw [List.length_map,q3],fun i y z hy hz=>?_⟩
   rw [List.getElem?_map] at hy
   cases hx:args0[i]? with
   | none=>rw [hx] at hy;cases hy
   | some x0=>
    rw [hx] at hy
    simp only [Option.map_some,Option.some.injEq] at hy
    subst hy
    have:=(hs1.frame _ _ (q4 i x0 hx)).2
    have e:ydl (bD (bM w lv) lv0 w0 (d::a0.defers) (fun x=>vs.getD (x - 1000000) undef)) a1 (1000000+i)=z:=by
     simp only [ydl]
     rw [if_neg (by omega)]
     simp only [bD,Nat.add_sub_cancel_left,List.getD_eq_getElem?_getD,hz,Option.getD_some]
    rw [e] at this
    exact this
  have hcall:=lendK (K:=KD P g u u') (fun us w R R' h hk=>KD.mono h hk) hs1 hvs q5 c1 c2 c3 c4 c5 c6 c7 c8
  refine CallsDIn.mono hcall fun e u2 w2 ⟨hu2,v2,lv2,he,hs2⟩=>?_
  subst he hu2
  simp only
  rw [q2]
  have hds:zbd (bM w lv) w2 a0.defers:=p1.defers.same fun D hD=>by
   have hlt:=(Array.getElem?_eq_some_iff.1 hD).1
   exact (hs2.inv.base.block D hlt (fun ⟨id,n,hn⟩=>(p1.inv.lvat hn).choose_spec.2.2.2.notDef hD)).trans hD
  have hs3:=Sim.unbase p1 rfl hs2 hds q6
  rw [← ht]
  exact ycw (B:=bM w lv) rfl rfl (fun a2 w3 hs4=>zwr hT hrs hcl hi hs4 q7 q8 q9) _ { a1 with defers:=a0.defers } w2 rfl hs3
 cases e <;> simp only [znq,Option.some.injEq] at q1 <;> first|(subst q1;exact main)|cases q1
end
section
variable {P:Program} {ty:TypeId} {h:Nat→Option LObj} {ρ:Operand→Option AV}
theorem yield_eqNilYes {x:Operand} {c:Value} {ti:TypeId} {ty':TypeId} (hu:P.underlying ti=some (.interface (P.methodsAt ti))) (hx:ρ x=some (.v .nilIface)) (hy:ρ (.const c)=some (.v .nilIface)):ybo P h ρ (.binOp .eql ti x (.const c) ty') ty (.v (.bool true)):=by
 refine ycf (fun _ _=>by simp) (by simp [yft,Op.operands,hx,hy,toV]) fun w=>?_
 simp [execOp,ydr hx,ydr hy,eqGuard,binOp,run_equal_nil_nil w ti hu]
end
theorem callsDIn_of_wpSIn_marks {P:Program} {F:Fence} {n:Nat} {f:FuncId} {fn:Func} {c:Code} {args:Array Value} {u u':FrameMode} {w:World} {R:Ending→World→Prop} (hf:P.funcs[f]?=some fn) (hb:fn.body=some c) (hF:F.fn f)
  (h:∀ (c₀:Frame) (cs:List Frame),c₀.mode=u→c.wpSIn F n P (fun e a cs' w'=>(e=.normal∨e=.ret)∧cs'={ c₀ with mode:=u' }::cs∧yqz P (fun w2=>∃ v,(results fn a.tmps).run P w2=.ok v w2∧R (.returned v) w2) a.defers w') { tmps:=args++Array.replicate (fn.ntmps - args.size) undef,defers:=[] } (c₀::cs) w) :
  CallsDIn F n P f args u w fun e u2 w'=>u2=u'∧R e w':=by
 refine ⟨hF,fun c₀ cs hu hroom=>?_⟩
 let b:Frame:={ (default:Frame) with fn:=f,kind:=.deferred,roundOf:=none }
 have henter:Frame.enter P f args .deferred =
   b.atR { tmps:=args++Array.replicate (fn.ntmps - args.size) undef,defers:=[] } [.code c]:=by
  simp [Frame.enter,Frame.atR,hf,hb,b]
 obtain ⟨e,a',cs',w',hl,⟨he,hcs,hq⟩,harr⟩:=h c₀ cs hu b [] rfl rfl hF hroom
 rw [← henter] at harr
 subst hcs
 have hroom':F.room (({ c₀ with mode:=u' }::cs).length+1+n):=hroom
 rcases he with rfl|rfl
 ·obtain ⟨w2,⟨v,g1,g2⟩,g3⟩:=yjv (F:=F) (n:=n) a'.defers w' { b.atR a' [] with mode:=.returning } ({ c₀ with mode:=u' }::cs) rfl rfl hF hroom' hq
  exact ⟨.returned v,u',w2,_,⟨rfl,g2⟩,StepsIn.trans (StepsIn.trans harr (.one (fenced_calm (fr:=b.atR a' []) hF hroom' rfl) (stepR_end rfl))) g3,rfl,rfl,rfl,rfl,fn,hf,g1⟩
 ·obtain ⟨todo,hs⟩:=harr.1 rfl
  obtain ⟨w2,⟨v,g1,g2⟩,g3⟩:=yjv (F:=F) (n:=n) a'.defers w' { b.atR a' todo with mode:=.returning } ({ c₀ with mode:=u' }::cs) rfl rfl hF hroom' hq
  exact ⟨.returned v,u',w2,_,⟨rfl,g2⟩,StepsIn.trans hs g3,rfl,rfl,rfl,rfl,fn,hf,g1⟩
inductive Rec:FrameMode→Value→FrameMode→Prop
 | idle:Rec .returning .nilIface .returning
 | caught (v:Value) (older:List PanicEntry):Rec (.panicking ({ v:=v,recovered:=false }::older)) v (.panicking ({ v:=v,recovered:=true }::older))
theorem wpSIn_recover {F:Fence} {n:Nat} {P:Program} {Q:Exit→Act→List Frame→World→Prop} {id:Nat} {o:Oper} {l1:List Oper} {ats:Array TypeId} {a:Act} {c₀:Frame} {cs:List Frame} {w:World} {u u':FrameMode} {v:Value} (hro:F.round=none) (hop:o.op=.call { callee:=.builtin .recover,args:=#[],argTypes:=ats }) (hgd:o.guard=none) (hu:c₀.mode=u) (hrec:Rec u v u')
  (h:wpOpsIn F n P (o::l1).toArray (fun e a' w'=>Q e a' ({ c₀ with mode:=u' }::cs) w') (List.range' 1 l1.length) (a.put o.dst v) w):(Code.region id (o::l1).toArray false).wpSIn F n P Q a (c₀::cs) w:=by
 intro b k hb hr hF hroom
 have hsp:List.range (o::l1).toArray.size=0::List.range' 1 l1.length:=by
  rw [List.size_toArray,List.range_eq_range',List.length_cons,List.range'_succ]
 have hg0:(o::l1).toArray[0]?=some o:=by simp
 have hw:Region.wanted o (yielded (o::l1).toArray a.tmps)=true:=by simp [Region.wanted,hgd]
 have hrun:(execOp a.eval o).run P w=.ok .recover w:=by
  unfold execOp
  simp only [hop,resolve,Sem.run_bind,Sem.run_pure,Result.andThen_ok,invoke,builtin]
 have habout:∀ f,o.about P w a.eval=some f→F.fn f:=by
  intro f hf
  simp [Oper.about,hop,resolve,Target.leads] at hf
 have h0:(lone (b.atR a (.inRegion (o::l1).toArray (0::List.range' 1 l1.length)::k)) (c₀::cs) w).fenced P F:=fenced_oper hF hroom hg0 habout
 have hg:=stepGR_op (P:=P) (b:=b) (k:=k) (cs:=c₀::cs) (w:=w) (rest:=List.range' 1 l1.length) hg0 hw
 rw [hr,Oper.semAt_none] at hg
 have hfin:∀ v,(b.atR a (.inRegion (o::l1).toArray (0::List.range' 1 l1.length)::k)).finish v=b.atR (a.put o.dst v) (.inRegion (o::l1).toArray (List.range' 1 l1.length)::k):=by
  intro v;rw [Frame.finish_atR,hg0];rfl
 have hk:(b.atR a (.inRegion (o::l1).toArray (0::List.range' 1 l1.length)::k)).kind=.deferred:=hb
 have htr:=tryRecover_deferred hk (c₀::cs)
 have hroom':F.room (({ c₀ with mode:=u' }::cs).length+1+n):=hroom
 obtain ⟨e,a',w',hq,harr⟩:=wp_opsIn _ _ w h b k ({ c₀ with mode:=u' }::cs) (hr.trans hro.symm) hF hroom'
 refine ⟨e,a',{ c₀ with mode:=u' }::cs,w',rfl,hq,.of_steps (.head (fenced_calm hF hroom rfl) stepR_region ?_) harr⟩
 rw [hsp]
 refine .one h0 (step_lone_go ?_)
 rw [hg,← hfin]
 cases hrec with
 | idle=>
  have hrc:recoverD (c₀::cs)=none:=by simp [recoverD,hu]
  have hc:({ c₀ with mode:=.returning }:Frame)=c₀:=by rw [← hu]
  rw [hc]
  simp only [Frame.atR,hr] at htr ⊢
  simp [stepG.apply,hrun,htr,hrc]
 | caught v older=>
  have hrc:recoverD (c₀::cs)=some (v,{ c₀ with mode:=.panicking ({ v:=v,recovered:=true }::older) }::cs):=by simp [recoverD,hu]
  simp only [Frame.atR,hr] at htr ⊢
  simp [stepG.apply,hrun,htr,hrc]
theorem conKD_recover {P:Program} {T:Nat→Option Ty} (hT:TOK P T) {f:FuncId} {fn:Func} {id d:Nat} {o:Oper} {l1:List Oper} {y:Code} {lf:Oper→Bool} {ats:Array TypeId} {N:Nat} {rs:List ResultVar} {args:List AV} {hs hs':Nat→Option LObj} {r:AV} {u u':FrameMode} {v:Value} (hf:P.funcs[f]?=some fn) (hb:fn.body=some (.seq (.region id (o::l1).toArray false) y)) (hN:fn.ntmps=N) (hrs:fn.results=rs.toArray) (hlen:(Nat.ble args.length N && Nat.ble N 1000000)=true)
  (hcl:∀ id o,hs' id=some o→isC o=true→N≤id∧∃ o',hs id=some o'∧isC o'=true) (hop:o.op=.call { callee:=.builtin .recover,args:=#[],argTypes:=ats }) (hgd:o.guard=none) (hdst:o.dst=some d) (hd:d < N) (hnd:yga l1=true) (hrec:Rec u v u')
  (h:Lex P N (o::l1).toArray lf (A P N y (zql T rs r hs')) l1 ⟨look ((d,.v v)::yfz 0 args),hs⟩):zxi (KD P f u u') args hs r hs':=by
 refine ⟨fun id o hx hc=>(hcl id o hx hc).2,fun ok0 lv w us hi hus=>callsDIn_of_wpSIn_marks hf hb trivial fun c₀ cs hu=>?_⟩
 have hsim:=zri hN hlen hi hus (n:=fn.ntmps)
 refine wpSIn_seq (wpSIn_recover rfl hop hgd hu hrec ?_)
 have hput:Sim (bM w lv) ok0 N ⟨look ((d,.v v)::yfz 0 args),hs⟩ lv (({ tmps:=us.toArray++Array.replicate (fn.ntmps - us.toArray.size) undef,defers:=[] }:Act).put o.dst v) w:=by
  have:=hsim.put (d:=o.dst) (r:=.v v) (u:=v) (fun x hx=>by rw [hdst] at hx;cases hx;exact hd) hsim.inv (Below.refl _ _) (.v _)
  rw [hdst] at this ⊢
  rw [← ydb]
  exact this
 have:=yzb (B:=bM w lv) (ok0:=ok0) (n:=0) (rest:=[]) (Q':=fun e a' w'=>Exit.thenS (y.wpSIn Fence.wide 0 P (fun e a cs' w'=>(e=.normal∨e=.ret)∧cs'={ c₀ with mode:=u' }::cs∧yqz P (fun w2=>∃ v,(results fn a.tmps).run P w2=.ok v w2∧∃ u lv',Ending.returned v=.returned u∧Rel (yax (yfo w lv) ok0 lv' w2) w2 lv' r u∧Inv (yfo w lv) ok0 hs' lv' w2∧∀ id o,hs' id=some o→isC o=true→∃ b n n',lv id=some (some b,n)∧lv' id=some (some b,n')) a.defers w'))
  (fun e a cs' w'=>(e=.normal∨e=.ret)∧cs'={ c₀ with mode:=u' }::cs∧yqz P (fun w2=>∃ v,(results fn a.tmps).run P w2=.ok v w2∧∃ u lv',Ending.returned v=.returned u∧Rel (yax (yfo w lv) ok0 lv' w2) w2 lv' r u∧Inv (yfo w lv) ok0 hs' lv' w2∧∀ id o,hs' id=some o→isC o=true→∃ b n n',lv id=some (some b,n)∧lv' id=some (some b,n')) a.defers w') e a' ({ c₀ with mode:=u' }::cs) w') (fun s1 lv1 a1 w1 hq hs1=>?_) h hnd 1 (fun j o' ho'=>by rw [Nat.add_comm];simpa using ho') lv _ w hput
 ·rw [List.append_nil] at this
  exact this
 ·show y.wpSIn _ _ _ _ _ _ _
  refine wpSIn_of_wpIn rfl ?_
  refine wpIn_mono (hq (bM w lv) ok0 lv1 a1 w1 hs1) fun e a' w' ⟨s',lv',hq2,hs2⟩=>?_
  cases e with
  | normal=>obtain ⟨x,hx,h1,h2⟩:=hq2;exact ⟨.inl rfl,rfl,yst (B:=bM w lv) (tm:=a'.tmps) rfl (fun a2 w2 ht hs3=>by have:=zwr hT hrs hcl hi hs3 hx h1 h2 (fn:=fn);rwa [ht] at this) _ a' w' rfl rfl hs2⟩
  | ret=>obtain ⟨x,hx,h1,h2⟩:=hq2;exact ⟨.inr rfl,rfl,yst (B:=bM w lv) (tm:=a'.tmps) rfl (fun a2 w2 ht hs3=>by have:=zwr hT hrs hcl hi hs3 hx h1 h2 (fn:=fn);rwa [ht] at this) _ a' w' rfl rfl hs2⟩
  | _=>exact hq2.elim
section
variable {P:Program} {N:Nat}
end
theorem yzu {ids:List Nat}:∀ {x:AV},yav x=true→yel ids x=true
 | .v _,_=>rfl
 | .any,_=>rfl
 | .one,_=>rfl
 | .sl _ _,_=>rfl
 | .dp _ _,_=>rfl
 | .mv _,_=>rfl
 | .agg cs,h=>rows (cs:=cs) h
 | .tup cs,h=>rows (cs:=cs) h
 | .fn _ cs,h=>rows (cs:=cs) h
 | .fm _ cs,h=>rows (cs:=cs) h
 where rows:∀ {cs:List AV},yav.pureL cs=true→yel.onlyL ids cs=true
 | [],_=>rfl
 | c::cs,h=>by
  simp only [yav.pureL,Bool.and_eq_true] at h
  simp only [yel.onlyL,yzu h.1,rows h.2,Bool.and_self]
theorem yxb:∀ (x:AV),yez (fun i=>i) x=x
 | .v _=>rfl
 | .any=>rfl
 | .one=>rfl
 | .sl _ _=>rfl
 | .dp _ _=>rfl
 | .mv _=>rfl
 | .lp _ _=>rfl
 | .ls _ _ _=>rfl
 | .mp _=>rfl
 | .agg cs=>by simp only [yez,rows cs]
 | .tup cs=>by simp only [yez,rows cs]
 | .fn _ cs=>by simp only [yez,rows cs]
 | .fm _ cs=>by simp only [yez,rows cs]
 where rows:∀ (cs:List AV),yez.renL (fun i=>i) cs=cs
 | []=>rfl
 | c::cs=>by simp only [yez.renL,yxb c,rows cs]
theorem zod (o:LObj):zbb (fun i=>i) o=o:=by cases o <;> simp only [zbb,yxb.rows]
def ydz (hs:List (Nat × Option LObj)):List Nat:=hs.map (·.1)
theorem ygf {hs:List (Nat × Option LObj)}:∀ {id:Nat},(hlook hs id).isSome→id∈ydz hs:=by
 induction hs with
 | nil=>intro id h;cases h
 | cons x hs ih=>
  intro id h
  obtain ⟨k,o⟩:=x
  simp only [hlook] at h
  cases hb:Nat.beq id k with
  | true=>simp [ydz,Nat.eq_of_beq_eq_true hb]
  | false=>rw [hb] at h;simp only at h;exact List.mem_cons_of_mem _ (ih h)
theorem hlook_out {hs:List (Nat × Option LObj)} {id:Nat} (h:id ∉ ydz hs):hlook hs id=none:=by
 cases hq:hlook hs id with
 | none=>rfl
 | some o=>exact absurd (ygf (by rw [hq];rfl)) h
theorem ylq {f g:List (Nat × Option LObj)} {id:Nat} (h:id ∉ ydz f):hlook (f++g) id=hlook g id:=by
 induction f with
 | nil=>rfl
 | cons x f ih=>
  obtain ⟨k,o⟩:=x
  simp only [ydz,List.map_cons,List.mem_cons,not_or] at h
  simp only [List.cons_append,hlook]
  cases hb:Nat.beq id k with
  | true=>exact absurd (Nat.eq_of_beq_eq_true hb) h.1
  | false=>exact ih h.2
theorem zhy {f g:List (Nat × Option LObj)} {id:Nat} (h:id ∉ ydz g):hlook (f++g) id=hlook f id:=by
 induction f with
 | nil=>exact hlook_out h
 | cons x f ih=>
  obtain ⟨k,o⟩:=x
  simp only [List.cons_append,hlook]
  cases hb:Nat.beq id k with
  | true=>rfl
  | false=>exact ih
section
variable {P:Program} {N:Nat} {ops:Array Oper} {lf:Oper→Bool} {Q:SS→Prop} {t t':List (Nat × AV)} {pre hs hs':List (Nat × Option LObj)} {rest:List Oper} {d:Nat} {ty:TypeId} {pos:String} {af:Array Edge} {gd:Option (Nat × Bool)}
structure Ahead (pre hs:List (Nat × Option LObj)):Prop where
 keys:∀ i∈ydz hs,i ∉ ydz pre
 ment:∀ j ob,hlook pre j=some ob→∀ i∈ydz hs,yfr i ob=false
theorem zlv {g:Operand} {args:List Operand} {ats:Array TypeId} {f:FuncId} {caps xs:List AV} {r:AV} (hc:ywc P f (xs++caps) (hlook hs) r (hlook hs')) (hpr:yav r=true) (hg:zbl (evF (look t) g) f caps args) (hx:evL (evF (look t)) args=some xs) (ha:Ahead pre (hs++hs')) (hro:∀ id o,hlook hs' id=some o→yro (ydz (hs++hs')) o=true)
  (ht:∀ x y,look t' x=some y→look t x=some y∧∀ i∈ydz (hs++hs'),ment i y=false) (hl:lf ⟨some d,.call { callee:=.value g,args:=args.toArray,argTypes:=ats },ty,pos,af,gd⟩=true) (hw:yaj ops (look t) ⟨some d,.call { callee:=.value g,args:=args.toArray,argTypes:=ats },ty,pos,af,gd⟩=some true) (hd:Nat.blt d N=true)
  (k:Lex P N ops lf Q rest (S ((d,r)::t') (pre++hs'))):Lex P N ops lf Q (⟨some d,.call { callee:=.value g,args:=args.toArray,argTypes:=ats },ty,pos,af,gd⟩::rest) (S t (pre++hs)):=by
 refine yed hl hw ?_ k
 have hk1:∀ i,i∈ydz hs→i∈ydz (hs++hs'):=fun i hi=>by simp only [ydz,List.map_append,List.mem_append] at hi ⊢;exact .inl hi
 have hk2:∀ i,i∈ydz hs'→i∈ydz (hs++hs'):=fun i hi=>by simp only [ydz,List.map_append,List.mem_append] at hi ⊢;exact .inr hi
 refine ypf (σ:=fun i=>i) (ids:=ydz (hs++hs')) rfl rfl (by simpa using hd) hg hx (by rw [show (yez fun i=>i)=id from funext yxb];simp) hc (fun _ _ _ _ h=>h) (fun id h=>hk1 id (ygf h)) (fun id h=>hk2 id (ygf h)) (fun id o ho=>?_) (yzu hpr) hro (fun x y hy=>?_) (fun i hi=>?_) (fun j ob' hj hob=>?_)
 ·show hlook (pre++hs) id=_
  rw [ylq (ha.keys id (hk1 id (ygf (by rw [ho];rfl)))),ho,zod]
 ·simp only [S,look] at hy
  cases hb:Nat.beq x d with
  | true=>rw [hb] at hy;simp only [Option.some.injEq] at hy;exact .inl ⟨Nat.eq_of_beq_eq_true hb,by rw [yxb];exact hy.symm⟩
  | false=>
   rw [hb] at hy
   simp only at hy
   obtain ⟨h1,h2⟩:=ht x y hy
   exact .inr ⟨fun e=>(by subst e;rw [Nat.beq_refl] at hb;cases hb),.inr ⟨h1,.inl h2⟩⟩
 ·show hlook (pre++hs') i=_
  rw [ylq (ha.keys i hi)]
  cases hlook hs' i <;> simp [zod]
 ·have hob:hlook (pre++hs') j=some ob':=hob
  rw [zhy fun hm=>hj j (hk2 j hm) rfl] at hob
  refine ⟨fun i hi=>ha.ment j ob' hob i hi,ob',?_,.inl rfl⟩
  show hlook (pre++hs) j=_
  rw [zhy fun hm=>hj j (hk1 j hm) rfl]
  exact hob
theorem L_callI {g:Operand} {args:List Operand} {ats:Array TypeId} {f:FuncId} {caps xs:List AV} {r:AV} (hc:ywc P f (xs++caps) (hlook hs) r (hlook hs')) (hpr:yav r=true) (hg:evF (look t) g=some (.fn f caps)) (hx:evL (evF (look t)) args=some xs) (ha:Ahead pre (hs++hs')) (hro:∀ id o,hlook hs' id=some o→yro (ydz (hs++hs')) o=true)
  (ht:∀ x y,look t' x=some y→look t x=some y∧∀ i∈ydz (hs++hs'),ment i y=false) (hl:lf ⟨some d,.call { callee:=.value g,args:=args.toArray,argTypes:=ats },ty,pos,af,gd⟩=true) (hw:yaj ops (look t) ⟨some d,.call { callee:=.value g,args:=args.toArray,argTypes:=ats },ty,pos,af,gd⟩=some true) (hd:Nat.blt d N=true)
  (k:Lex P N ops lf Q rest (S ((d,r)::t') (pre++hs'))):Lex P N ops lf Q (⟨some d,.call { callee:=.value g,args:=args.toArray,argTypes:=ats },ty,pos,af,gd⟩::rest) (S t (pre++hs)):=
 zlv hc hpr (.inl hg) hx ha hro ht hl hw hd k
theorem L_callIm {g:Operand} {ats:Array TypeId} {f:FuncId} {caps:List AV} {r:AV} (hc:ywc P f caps (hlook hs) r (hlook hs')) (hpr:yav r=true) (hg:evF (look t) g=some (.fm f caps)) (ha:Ahead pre (hs++hs')) (hro:∀ id o,hlook hs' id=some o→yro (ydz (hs++hs')) o=true)
  (ht:∀ x y,look t' x=some y→look t x=some y∧∀ i∈ydz (hs++hs'),ment i y=false) (hl:lf ⟨some d,.call { callee:=.value g,args:=#[],argTypes:=ats },ty,pos,af,gd⟩=true) (hw:yaj ops (look t) ⟨some d,.call { callee:=.value g,args:=#[],argTypes:=ats },ty,pos,af,gd⟩=some true) (hd:Nat.blt d N=true)
  (k:Lex P N ops lf Q rest (S ((d,r)::t') (pre++hs'))):Lex P N ops lf Q (⟨some d,.call { callee:=.value g,args:=#[],argTypes:=ats },ty,pos,af,gd⟩::rest) (S t (pre++hs)):=
 zlv (args:=[]) (xs:=[]) hc hpr (.inr ⟨hg,rfl⟩) rfl ha hro ht hl hw hd k
end
def xaf (f:Nat→Option AV):List (Nat × AV)→Prop
 | []=>True
 | (x,y)::t=>f x=some y∧xaf f t
theorem zan {f:Nat→Option AV}:∀ {t:List (Nat × AV)},xaf f t→∀ x y,look t x=some y→f x=some y
 | [],_,x,y,h=>by simp [look] at h
 | (a,z)::t,hs,x,y,h=>by
  simp only [look] at h
  cases hb:Nat.beq x a with
  | true=>rw [hb] at h;simp only [Option.some.injEq] at h;subst h;rw [Nat.eq_of_beq_eq_true hb];exact hs.1
  | false=>rw [hb] at h;exact zan hs.2 x y h
def zzw (t:List (Nat × AV)):Nat→List AV→Prop
 | _,[]=>True
 | i,x::l=>look t (1000000+i)=some x∧zzw t (i+1) l
theorem zon {t:List (Nat × AV)}:∀ {l:List AV} {k i:Nat} {x:AV},zzw t k l→l[i]?=some x→look t (1000000+(k+i))=some x
 | [],k,i,x,h,hx=>by simp at hx
 | y::l,k,0,x,h,hx=>by simp only [List.getElem?_cons_zero,Option.some.injEq] at hx;subst hx;exact h.1
 | y::l,k,i+1,x,h,hx=>by have:=zon h.2 (i:=i) (by simpa using hx);rwa [show k+1+i=k+(i+1) by omega] at this
theorem zca {P:Program} {T:Nat→Option Ty} {t:List (Nat × AV)} {h:List (Nat × Option LObj)} (sg:List (Nat × Nat)) {rs:List ResultVar} {r:AV} {hs':Nat→Option LObj} {g:FuncId} {n:Nat} {e:Exit} {u u':FrameMode} {args0:List AV} {hm hm' h':List (Nat × Option LObj)} {v x:AV} (hmode:znq e=some u) (hset:settle u'=.returning) (hn:args0.length=n) (ha:zzw t 0 (args0.map (yez (yep sg)))) (hc:zxi (KD P g u u') args0 (hlook hm) v (hlook hm'))
  (hk:yeb (ybg sg)=true) (hv:yeb (yce sg)=true) (hd1:ytz (ybg sg) hm=true) (hd2:ytz (ybg sg) hm'=true) (hsub:yuy h (zpr sg hm)) (ho:yom (ybg sg) hm'=true) (hh:∀ j ob',j ∉ yce sg→hlook h' j=some ob'→(∀ i∈yce sg,yfr i ob'=false)∧∃ ob,hlook h j=some ob∧ymf ob ob')
  (hx:yut T (S (ylo sg hm' (zsf t)) (yob sg hm' sg++h')) rs=some x) (hwk:Wk x r) (hend:∀ id o,hs' id=some o→hlook (yob sg hm' sg++h') id=some o):zxu P T rs r hs' (some (g,n)) e (S t h):=by
 refine ⟨u,u',args0,hlook hm,v,hlook hm',yep sg,ybg sg,S (ylo sg hm' (zsf t)) (yob sg hm' sg++h'),hmode,hset,hn,fun i x hx=>?_,hc,⟨zam hv,yhq hd1,yhq hd2,ytc hsub,yjw ho,fun x y hy=>?_,fun i hi=>ywj hk hv i hi,fun j ob' hj hob=>?_⟩,fun x hge=>?_,x,hx,hwk,hend⟩
 ·have:=zon ha (i:=i) (x:=yez (yep sg) x) (by simp [hx])
  rwa [Nat.zero_add] at this
 ·have hlow:∀ z,look (zsf t) x=some z→look t x=some z:=fun z hz=>by
   rw [yso] at hz
   cases hb:Nat.ble 1000000 x with
   | true=>rw [hb] at hz;cases hz
   | false=>rw [hb] at hz;exact hz
  rcases yhr hy with ⟨h1,z,h2⟩|⟨h1,h2⟩
  ·exact .inl ⟨h1,z,hlow z h2⟩
  ·exact .inr ⟨hlow y h1,yug hk h2⟩
 ·have hjv:j ∉ yce sg:=fun hm=>by
   obtain ⟨i,h1,h2⟩:=yux hm hk
   exact hj i h1 h2
  simp only [S,ymm hjv] at hob
  obtain ⟨h1,h2⟩:=hh j ob' hjv hob
  exact ⟨fun i hi=>h1 _ (yjz hi),h2⟩
 ·show look (ylo sg hm' (zsf t)) x=none
  cases hq:look (ylo sg hm' (zsf t)) x with
  | none=>rfl
  | some y=>
   have:∃ z,look (zsf t) x=some z:=by
    rcases yhr hq with ⟨_,z,h2⟩|⟨h1,_⟩
    ·exact ⟨z,h2⟩
    ·exact ⟨y,h1⟩
   obtain ⟨z,hz⟩:=this
   rw [yso,Nat.ble_eq_true_of_le hge] at hz
   cases hz
end
section
abbrev Bs:=List UInt8
def ba (l:Bs):ByteArray:=⟨l.toArray⟩
def bl (s:ByteArray):Bs:=s.data.toList
end
section
structure PW where
 w:Bs
 k:Nat
 v:Nat
def xab:List Bs→Bs→Option Nat
 | [],_=>none
 | x::l,w=>if x=w then some 0 else (xab l w).map (·+1)
def zug (first:Int) (l:List Bs) (w:Bs):Int:=
 if w=[] then 0 else match xab l w with
  | some i=>first+i
  | none=>0
def zzl:List Bs:=[[42],[47],[37],[43],[45],[61,61],[33,61],[60],[60,61],[62],[62,61],[38,38],[124,124]]
def aggL:List Bs:=[[97,108,108],[115,111,109,101],[99,111,117,110,116],[102,105,114,115,116],[109,105,110],[109,97,120],[115,117,109],[109,101,120],[115,101,99,111,110,100],[104,101,97,100]]
def zvd:List Bs:=[[116,114,117,101],[102,97,108,115,101],[110,111,110,101],[],[110],[105,100,115],[105,100],[100,101,103],[114,111,111,116]]
def zvg:List Bs:=[[105,100],[100,101,103],[114,111,111,116],[119,101,105,103,104,116],[98,97,99,107]]
def zwp (w:Bs):Int:=zug 30 zzl w
def zzi (w:Bs):Int:=zug 20 aggL w
def zrd (w:Bs):Int:=zug 2 zvd w
def zrl (w:Bs):Int:=zug 13 zvg w
def zyg (op:Int):Nat:=
 if op=43 then 0 else if op=42 then 1 else if op=41 then 2 else if 35≤op∧op≤40 then 3 else if op=33∨op=34 then 4 else if 30≤op∧op≤32 then 5 else if op=18∨op=19 then 6 else 7
def zhw:List PW→Bs
 | []=>[]
 | t::_=>t.w
inductive Res where
 | ok (e:List Tm) (rest:List PW)
 | bad (err:Int) (rest:List PW)
inductive NT where
 | choice
 | bin (l:Nat)
 | tail (l:Nat) (left:List Tm)
 | unary
 | prim
variable {nm:Bs→Bool} {names:List Bs}
end
section
abbrev dec (v:Nat):Bs:=Lib.decDigits v
end
section
variable {nm:Bs→Bool} {names:List Bs}
def pwS (w:Bs):PW:=⟨w,3,0⟩
def pwN (w:Bs):PW:=⟨w,1,0⟩
def pwV (n:Nat):PW:=⟨dec n,2,n⟩
inductive Wr (names:List Bs):Nat→Ex→Bs→List PW→Prop
 | down {l:Nat} {E:Ex} {x:Bs} {ws:List PW} (hl:l < 7) (h:Wr names (l+1) E x ws):Wr names l E x ws
 | paren {E:Ex} {x:Bs} {ws:List PW} (h:Wr names 0 E x ws):Wr names 7 E (40::(x++[41])) (pwS [40]::(ws++[pwS [41]]))
 | choice {a b c:Ex} {xa xb xc:Bs} {wa wb wc:List PW} (ha:Wr names 1 a xa wa) (hb:Wr names 0 b xb wb) (hc:Wr names 0 c xc wc):Wr names 0 (.tr (43,0) a b c) (xa++(32::63::32::(xb++(32::58::32::xc)))) (wa++(pwS [63]::(wb++(pwS [58]::wc))))
 | bin {op:Int} {l:Nat} {w:Bs} {a b:Ex} {xa xb:Bs} {wa wb:List PW} (h0:zwp w=op) (hw:w∈zzl) (hl:zyg op=l) (h3:l≠3) (ha:Wr names l a xa wa) (hb:Wr names (l+1) b xb wb):Wr names l (.bi (op,0) a b) (xa++(32::(w++(32::xb)))) (wa++(pwS w::wb))
 | cmp {op:Int} {w:Bs} {a b:Ex} {xa xb:Bs} {wa wb:List PW} (h0:zwp w=op) (hw:w∈zzl) (hl:zyg op=3) (ha:Wr names 4 a xa wa) (hb:Wr names 4 b xb wb):Wr names 3 (.bi (op,0) a b) (xa++(32::(w++(32::xb)))) (wa++(pwS w::wb))
 | neg {a:Ex} {xa:Bs} {wa:List PW} (ha:Wr names 6 a xa wa):Wr names 6 (.un (18,0) a) (45::xa) (pwS [45]::wa)
 | not {a:Ex} {xa:Bs} {wa:List PW} (ha:Wr names 6 a xa wa):Wr names 6 (.un (19,0) a) (33::xa) (pwS [33]::wa)
 | agg {op:Int} {w:Bs} {a:Ex} {xa:Bs} {wa:List PW} (h0:zzi w=op) (hw:w∈aggL) (ha:Wr names 0 a xa wa):Wr names 7 (.un (op,0) a) (w++(40::(xa++[41]))) (pwN w::pwS [40]::(wa++[pwS [41]]))
 | num {n:Nat} (hn:n≤1073741824):Wr names 7 (.lf (1,n)) (dec n) [pwV n]
 | own {i:Nat} {w:Bs} (h:names[i]?=some w):Wr names 7 (.lf (5,i)) w [pwN w]
 | near {i:Nat} {w:Bs} (h:names[i]?=some w):Wr names 7 (.lf (12,i)) (113::46::w) [pwN [113],pwS [46],pwN w]
 | here:Wr names 7 (.lf (11,0)) [113] [pwN [113]]
 | const {op:Int} {w:Bs} (h0:zrd w=op) (hw:w∈zvd) (hne:w≠[]):Wr names 7 (.lf (op,0)) w [pwN w]
 | field {op:Int} {w:Bs} (h0:zrl w=op) (hw:w∈zvg):Wr names 7 (.lf (op,0)) (113::46::w) [pwN [113],pwS [46],pwN w]
structure NmOk (nm:Bs→Bool) (names:List Bs):Prop where
 good:∀ w∈names,nm w=true
 nodup:names.Nodup
 res:∀ w,nm w=true→zrd w=0∧zzi w=0∧zrl w=0∧w≠[113]∧w≠[40]∧w≠[45]∧w≠[33]
def Fol (l:Nat) (r:List PW):Prop:=(l=0→zhw r≠[63])∧zhw r≠[46]∧(zwp (zhw r)=0∨zyg (zwp (zhw r)) < l)
def FolW (l:Nat) (r:List PW):Prop:=zhw r≠[46]∧(zwp (zhw r)=0∨zyg (zwp (zhw r)) < l∨(zyg (zwp (zhw r))=l∧l≠3))
theorem Fol.weak {l:Nat} {r:List PW} (h:Fol l r):FolW l r:=⟨h.2.1,h.2.2.imp id .inl⟩
end
section
open Go.RowKit
theorem skip_drop (r:List UInt8):∀ b:Bool,r.drop (ynu b r)≠[]→ynu false (r.drop (ynu b r))=0:=by
 induction r with
 | nil=>intro b h;simp at h
 | cons c r ih=>
  intro b h
  cases b
  ·simp only [ynu] at *
   split at h
   ·rename_i hc;rw [if_pos hc,Nat.add_comm,List.drop_succ_cons] at *;exact ih false h
   ·rename_i hc
    rw [if_neg hc]
    split at h
    ·rename_i h35;rw [if_pos h35,Nat.add_comm,List.drop_succ_cons] at *;exact ih true h
    ·rename_i h35;rw [if_neg h35,List.drop_zero];simp [ynu,hc,h35]
  ·simp only [ynu] at *
   split at h
   ·rename_i hc;rw [if_pos hc,Nat.add_comm,List.drop_succ_cons] at *;exact ih false h
   ·rename_i hc;rw [if_neg hc,Nat.add_comm,List.drop_succ_cons] at *;exact ih true h
def zuu (s:ByteArray):Nat→List Tok→Prop
 | p,[]=>p≤s.size∧zdn s false p=s.size
 | p,t::ts=>p≤s.size∧t.from_=zdn s false p∧t.from_ < s.size∧zzx (yaz s t.from_)=.ok (t.kind,t.to - t.from_,t.num)∧t.from_ < t.to∧t.to≤s.size∧zuu s t.to ts
theorem zuu.tail {s:ByteArray} {p:Nat} {t:Tok} {ts:List Tok} (h:zuu s p (t::ts)):zuu s t.to ts:=h.2.2.2.2.2.2
theorem zuu.len {s:ByteArray}:∀ {ts:List Tok} {p:Nat},zuu s p ts→ts.length+p≤s.size:=by
 intro ts
 induction ts with
 | nil=>intro p h;have:=h.1;simp;omega
 | cons t ts ih=>
  intro p h
  have h1:=ih h.tail
  obtain ⟨h2,h3,h4,_,h5,h6,_⟩:=h
  have:=(skipTo_bd s false p h2).1
  simp;omega
theorem zuu.mem {s:ByteArray}:∀ {ts:List Tok} {p:Nat},zuu s p ts→∀ t∈ts,t.from_ < s.size∧zzx (yaz s t.from_)=.ok (t.kind,t.to - t.from_,t.num)∧t.from_ < t.to∧t.to≤s.size∧ynu false (yaz s t.from_)=0:=by
 intro ts
 induction ts with
 | nil=>intro p _ t ht;cases ht
 | cons u ts ih=>
  intro p h t ht
  cases ht with
  | head=>
   obtain ⟨h2,h3,h4,h7,h5,h6,_⟩:=h
   refine ⟨h4,h7,h5,h6,?_⟩
   rw [h3,← zhe]
   refine skip_drop _ false ?_
   rw [zhe,← h3]
   intro h8
   rw [bytesFrom_nil_iff] at h8;omega
  | tail _ ht=>exact ih h.tail t ht
end
section
open Go.RowKit
variable {nm:Bs→Bool} {names:List Bs}
inductive Scans:Bs→List PW→Prop
 | nil {l:Bs} (h:l.drop (ynu false l)=[]):Scans l []
 | cons {l y r:Bs} {k v:Nat} {ws:List PW} (h:l.drop (ynu false l)=y++r) (hy:y≠[]) (ht:zzx (y++r)=.ok (k,y.length,v)) (hr:Scans r ws):Scans l (⟨y,k,v⟩::ws)
def WordOk (w:Bs):Prop:=w.length≤24∧(∀ c∈w,yma c=true)∧∃ c x,w=c::x∧yha c=true
end
section
open Go.RowKit
namespace Ex
def op:Ex→Int
 | lf t=>t.1
 | un t _=>t.1
 | bi t _ _=>t.1
 | tr t _ _ _=>t.1
end Ex
variable {names:List Bs}
end
section
variable {nm:Bs→Bool} {names:List Bs}
def Like (r r':List PW):Prop:=r'.head?=r.head?∨r'=[]
def EndR (y:Option Res):Prop:=y=none∨(∃ x,y=some (.ok x []))∨y=some (.bad 4 [])
def Res.rest:Res→List PW
 | .ok _ r=>r
 | .bad _ r=>r
def Cut (F:List PW→Option Res) (ts:List PW):Res→Prop
 | .ok e r=>∀ p,ts=p++r→∀ r',Like r r'→F (p++r')=some (.ok e r')
 | .bad c r=>r≠[]→∀ p,ts=p++r→(∀ r',r'.head?=r.head?→F (p++r')=some (.bad c r'))∧EndR (F p)
def zzz (F:List PW→Option Res):Prop:=∀ ts res,F ts=some res→res.rest <:+ ts∧Cut F ts res
inductive Looks (F:List PW→Option Res) (t:PW):Prop
 | takes (A:List PW→Option Res) (hA:zzz A) (h:∀ r,F (t::r)=A r):Looks F t
 | fails (c:Int) (h:∀ r,F (t::r)=some (.bad c (t::r))):Looks F t
 | leaves (B:List PW→Option Res) (hB:zzz B) (h0:F []=B []) (h:∀ r,F (t::r)=B (t::r)):Looks F t
end
section
open Go.RowKit
variable {nm:Bs→Bool} {names:List Bs}
def zwt (nm:Bs→Bool) (names:List Bs):Bool:=decide (names.length≤6) && (names.all nm && decide names.Nodup)
structure NmW (nm:Bs→Bool):Prop where
 word:∀ w,nm w=true→WordOk w
 res:∀ w,nm w=true→zrd w=0∧zzi w=0∧zrl w=0∧w≠[113]∧w≠[40]∧w≠[45]∧w≠[33]
theorem zci (h:zwt nm names=true):names.length≤6∧(∀ w∈names,nm w=true)∧names.Nodup:=by
 simp only [zwt,Bool.and_eq_true,decide_eq_true_eq,List.all_eq_true] at h
 exact h
theorem NmW.ok (hN:NmW nm) (h:zwt nm names=true):NmOk nm names:=⟨(zci h).2.1,(zci h).2.2,hN.res⟩
end
section
open Go.RowKit
theorem zrq {d id:Nat} {xs:List AV} {h:List (Nat × Option LObj)} (h1:Nat.beq d id=false) (h2:ment.mentL d xs=false) (hf:ybp d h=true):ybp d ((id,some (.cells xs))::h)=true:=by
 simp [ybp,h1,hf,yfr,h2]
theorem pureA_only {ids:List Nat}:∀ {x:AV},yav x=true→yel ids x=true
 | .v _,_=>rfl
 | .any,_=>rfl
 | .one,_=>rfl
 | .sl _ _,_=>rfl
 | .dp _ _,_=>rfl
 | .mv _,_=>rfl
 | .agg cs,h=>rows (cs:=cs) h
 | .tup cs,h=>rows (cs:=cs) h
 | .fn _ cs,h=>rows (cs:=cs) h
 | .fm _ cs,h=>rows (cs:=cs) h
 where rows:∀ {cs:List AV},yav.pureL cs=true→yel.onlyL ids cs=true
 | [],_=>rfl
 | c::cs,h=>by
  simp only [yav.pureL,Bool.and_eq_true] at h
  simp only [yel.onlyL,pureA_only h.1,rows h.2,Bool.and_self]
section
variable {s:ByteArray} {ts ts':List Tok} {names:List Bs} {us:List Value}
variable {P:Program} {N:Nat} {ops:Array Oper} {lf:Oper→Bool} {Q:SS→Prop} {t:List (Nat × AV)} {h:List (Nat × Option LObj)} {rest:List Oper} {d:Nat} {ty:TypeId} {pos:String} {af:Array Edge} {gd:Option (Nat × Bool)}
end
section
variable {s:ByteArray} {ts:List Tok} {names:List Bs} {us:List Value}
end
end
end Go.Proofs.YtgpbgfpjlhoicaaGreatDoor
