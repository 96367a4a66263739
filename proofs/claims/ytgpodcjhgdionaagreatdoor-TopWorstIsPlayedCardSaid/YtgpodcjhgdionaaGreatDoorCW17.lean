/- Part 17 of the texts under TopWorstIsPlayed. -/
import Derived.Lib.Bytealg
import Derived.Lib.Split
import Derived.Lib.SplitLaws
import GoSem.Core.Utf8
import Derived.Lib.ItoaNum
import Derived.Lib.Strings
import Derived.KernelRfl
import Derived.Test.YtgpodcjhgdionaaGreatDoorRows
import Derived.Test.YtgpodcjhgdionaaGreatDoorCW4
import Derived.Test.YtgpodcjhgdionaaGreatDoorCW6
import Derived.Test.YtgpodcjhgdionaaGreatDoorCW7
import Derived.Test.YtgpodcjhgdionaaGreatDoorCW8
import Derived.Test.YtgpodcjhgdionaaGreatDoorCW9
import Derived.Test.YtgpodcjhgdionaaGreatDoorCW11
import Derived.Test.YtgpodcjhgdionaaGreatDoorCW12
import Derived.Test.YtgpodcjhgdionaaGreatDoorCW13
import Derived.Test.YtgpodcjhgdionaaGreatDoorCW15
import Derived.Test.YtgpodcjhgdionaaGreatDoorCW16
set_option linter.unusedVariables false
namespace Go.Proofs.YtgpodcjhgdionaaGreatDoor
open Go.Proofs.Tryz
variable{w w':World}{v:Value}{x y:Operand}{ids:List Nat}{args:List AV}{f:FuncId}{l:List Lk}{lv:Live}{s:ByteArray}{i:Nat}{c:Code}{t u:TL}{hs:HL}{r:AV}
section
open Go.RowKit
section
variable{P:Program}{T:Nat->Option Ty}{N:Nat}{ops:Array Oper}{lf:Oper->Bool}{Q:SS->Prop}{t:TL}{h:HL}{rest:List Oper}{op:Op}{ty:TypeId}{pos:String}{af:Array Edge}{gd:Option (Nat × Bool)}{r:AV}
def xeo(T:Nat->Option Ty)(t:TL)(ti:Nat)(x:Operand)(lo hi:Option Operand):Option AV:=
 match yvg (evF (yak t)) lo,yvg (evF (yak t)) hi with
 | some bl,some bh=>match evF (yak t) x with
  | some (.v (.string s))=>match T ti with
   | some ⟨.string,_,_,_⟩=>match decide (0<=bl.getD 0) && (decide (bl.getD 0<=bh.getD s.size) && decide (bh.getD s.size<=s.size))with
    | true=>some (.v (.string (s.extract (bl.getD 0).toNat (bh.getD s.size).toNat)))
    | false=>none
   | _=>none
  | some (.sl es' rows)=>match T ti with
   | some ⟨.slc _ es _ _ _,_,_,_⟩=>match Nat.beq es' es && (decide (0<=bl.getD 0) && (decide (bl.getD 0<=bh.getD rows.length) && decide (bh.getD rows.length<=rows.length)))with
    | true=>some (.sl es ((rows.take (bh.getD rows.length).toNat).drop (bl.getD 0).toNat))
    | false=>none
   | _=>none
  | _=>none
 | _,_=>none
theorem sliceC_ok(hT:TOK P T){ti:Nat}{lo hi:Option Operand}(hr:xeo T t ti x lo hi=some r):ybu P (yac h) (evF (yak t)) (.slice ti x lo hi none) ty r:=by
 unfold xeo at hr;split at hr
 .rename_i bl bh h1 h2;split at hr
  .rename_i s hx;split at hr
   .rename_i sz ag z hk;split at hr
    .rename_i hb;simp only[Option.some.injEq]at hr;subst hr;simp only[qad,decide_eq_true_eq]at hb;exact yield_sslice (hT _ _ hk).2.2 hx h1 h2 hb.1 hb.2.1 hb.2.2
    cases hr
   cases hr
  .rename_i es' rows hx;split at hr
   .rename_i e es ea eb ez sz ag z hk;split at hr
    .rename_i hb;simp only[Option.some.injEq]at hr;subst hr;simp only[qad,decide_eq_true_eq]at hb;obtain rfl:=qaf hb.1;exact yxm (hT _ _ hk).2.2 hx h1 h2 hb.2.1 hb.2.2.1 hb.2.2.2
    cases hr
   cases hr
  cases hr
 cases hr
def xjg(T:Nat->Option Ty)(t:TL)(ti:Nat)(x y:Operand):Option AV:=
 match T ti with
 | some ⟨.string,_,_,_⟩=>match evF (yak t) x with
  | some (.v (.string s))=>match evF (yak t) y with
   | some (.v (.int _ (.ofNat m)))=>match s[m]? with
    | some b=>some (.v (.int .u8 b.toNat))
    | none=>none
   | _=>none
  | _=>none
 | _=>none
theorem sidxC_ok(hT:TOK P T){ti:Nat}(hr:xjg T t ti x y=some r):ybu P (yac h) (evF (yak t)) (.index ti x y) ty r:=by
 unfold xjg at hr;split at hr
 .rename_i sz ag z hk;split at hr
  .rename_i s hx;split at hr
   .rename_i k m hy;split at hr
    .rename_i b hb;simp only[Option.some.injEq]at hr;subst hr;exact zav (hT _ _ hk).2.2 hx hy sm (by simpa using hb)
    cases hr
   cases hr
  cases hr
 cases hr
def xbx(T:Nat->Option Ty)(t:TL)(ti:Nat)(parts:List (Nat × Operand)):Option AV:=
 match T ti with
 | some y=>match y.zero.all Value.oneCell' with
  | true=>match evP (evF (yak t)) parts with
   | some ps=>zos T ti ps
   | none=>none
  | false=>none
 | none=>none
theorem buildX_ok(hT:TOK P T){ti:Nat}{parts:List (Nat × Operand)}(hr:xbx T t ti parts=some r):ybu P (yac h) (evF (yak t)) (.build ti parts.toArray) ty r:=by
 unfold xbx at hr;split at hr
 .rename_i y hy;split at hr
  .rename_i hone;split at hr
   .rename_i ps hps;exact zgp hT hy hone hps hr
   cases hr
  cases hr
 cases hr
def ztg(T:Nat->Option Ty)(t:TL)(ti len:Nat)(parts:List (Nat × Operand)):Option AV:=
 match T ti with
 | some ⟨.slc _ es _ _ ez,_,_,_⟩=>match ez.all Value.oneCell' && Nat.ble (len * es) 16777216 with
  | true=>match evP (evF (yak t)) parts with
   | some ps=>match yyk (fun i=>some (i * es,es)) (ykx len (yhw ez)) ps with
    | some ys=>match yas.pureL ys with
     | true=>match ypk es len ys with
      | some rows=>some (.sl es rows)
      | none=>none
     | false=>none
    | none=>none
   | none=>none
  | false=>none
 | _=>none
theorem buildSX_ok(hT:TOK P T){ti len:Nat}{parts:List (Nat × Operand)}(hr:ztg T t ti len parts=some r):ybu P (yac h) (evF (yak t)) (.buildSlice ti len parts.toArray) ty r:=by
 unfold ztg at hr;split at hr
 .rename_i e es ea eb ez sz ag z hk;split at hr
  .rename_i hb;simp only[qad]at hb;split at hr
   .rename_i ps hps;split at hr
    .rename_i ys hf;split at hr
     .rename_i hpu;split at hr
      .rename_i rows hch;simp only[Option.some.injEq]at hr;subst hr;exact ykl hT hk hb.1 hps hf hpu hch hb.2
      cases hr
     cases hr
    cases hr
   cases hr
  cases hr
 cases hr
def xmx(t:TL)(h:HL)(x:Operand):Option AV:=
 match evF (yak t) x with
 | some (.lp id off)=>match yti (yac h id)with
  | some _=>some (.lp id off)
  | none=>none
 | some (.dp row off)=>some (.dp row off)
 | _=>none
theorem nilX_ok(hr:xmx t h x=some r):ybu P (yac h) (evF (yak t)) (.nilCheck x) ty r:=by
 unfold xmx at hr;split at hr
 .rename_i id off hx;split at hr
  .rename_i xs hh;simp only[Option.some.injEq]at hr;subst hr;exact ynm hx hh
  cases hr
 .rename_i row off hx;simp only[Option.some.injEq]at hr;subst hr;exact ymg hx
 cases hr
def fnX(t:TL)(f:Nat)(caps:List Operand):Option AV:=
 match evL (evF (yak t)) caps with
 | some xs=>some (.fn f xs)
 | none=>none
theorem fnX_ok{f:Nat}{caps:List Operand}(hr:fnX t f caps=some r):ybu P (yac h) (evF (yak t)) (.makeFunc (.func f) #[] caps.toArray) ty r:=by
 unfold fnX at hr;split at hr
 .rename_i xs hx;simp only[Option.some.injEq]at hr;subst hr;exact ytt hx
 cases hr
def fmX(t:TL)(f:Nat)(first:List Operand):Option AV:=
 match evL (evF (yak t)) first with
 | some xs=>some (.fm f xs)
 | none=>none
theorem fmX_ok{f:Nat}{first:List Operand}(hr:fmX t f first=some r):ybu P (yac h) (evF (yak t)) (.makeFunc (.func f) first.toArray #[]) ty r:=by
 unfold fmX at hr;split at hr
 .rename_i xs hx;simp only[Option.some.injEq]at hr;subst hr;exact yield_makeMeth hx
 cases hr
def xir(T:Nat->Option Ty)(t:TL)(h:HL)(op:Op)(ty:TypeId):Option AV:=
 match op with
 | .indexAddr ti x y=>match xmu T t h ti x y with
  | some r=>some r
  | none=>ysz T t h (.indexAddr ti x y) ty
 | .slice ti x lo hi none=>xeo T t ti x lo hi
 | .index ti x y=>xjg T t ti x y
 | .build ti ⟨parts⟩=>xbx T t ti parts
 | .buildSlice ti len ⟨parts⟩=>ztg T t ti len parts
 | .nilCheck x=>xmx t h x
 | .makeFunc (.func f) ⟨[]⟩ ⟨caps⟩=>fnX t f caps
 | .makeFunc (.func f) ⟨first⟩ ⟨[]⟩=>fmX t f first
 | op=>ysz T t h op ty
theorem calmX_ok(hT:TOK P T)(hr:xir T t h op ty=some r):ybu P (yac h) (evF (yak t)) op ty r:=by
 unfold xir at hr;split at hr
 .split at hr
  .rename_i r' h1;simp only[Option.some.injEq]at hr;subst hr;exact idxC_ok hT h1
  exact yme hT hr
 .exact sliceC_ok hT hr
 .exact sidxC_ok hT hr
 .exact buildX_ok hT hr
 .exact buildSX_ok hT hr
 .exact nilX_ok hr
 .exact fnX_ok hr
 .exact fmX_ok hr
 exact yme hT hr
end
end
section
open Go.RowKit
section
variable{P:Program}{T:Nat->Option Ty}{N:Nat}{ops:Array Oper}{lf:Oper->Bool}{Q:SS->Prop}{t t':TL}{h h':HL}{rest:List Oper}{d:Nat}{op:Op}{ty:TypeId}{pos:String}{af:Array Edge}{gd:Option (Nat × Bool)}{r:AV}
theorem ziq{d:Nat}:∀ {l:TL},(∀ s x,(s,x)∈l->ment d x=false)->ydl d l=true
 | [],_=>rfl
 | (s,x)::l,h=>by
  simp only[ydl,h s x qbe];exact ziq fun s' x' hm=>h s' x' (qap _ hm)
theorem zin{d:Nat}:∀ {l:HL},(∀ s x,(s,x)∈l->Nat.beq d s=false/\∀ o,x=some o->yew d o=false)->ybs d l=true
 | [],_=>rfl
 | (s,x)::l,h=>by
  obtain⟨h1,h2⟩:=h s x qbe;have h3:=zin fun s' x' hm=>h s' x' (qap _ hm);simp only[ybs,h1];cases x with
  | none=>exact h3
  | some o=>simp only[h2 o rfl];exact h3
theorem zbl{p:AV->Bool}:∀ {t:TL} {seen:List Nat} {s:Nat} {x:AV},(s,x)∈ynq p seen t->p x=true
 | [],seen,s,x,h=>by simp[ynq]at h
 | (k,y)::r,seen,s,x,h=>by
  simp only[ynq]at h;split at h
  .exact zbl h
  split at h
  .rename_i hp;rcases qaq.1 h with e|h
   .cases e;exact hp
   exact zbl h
  exact zbl h
theorem yrv{p:Nat->LObj->Bool}:∀ {t:HL} {seen:List Nat} {s:Nat} {x:Option LObj},(s,x)∈ylo p seen t->∃ o,x=some o/\p s o=true
 | [],seen,s,x,h=>by simp[ylo]at h
 | (k,y)::r,seen,s,x,h=>by
  simp only[ylo]at h;split at h
  .exact yrv h
  split at h
  .exact yrv h
  split at h
  .rename_i hp;rcases qaq.1 h with e|h
   .cases e;exact⟨_,rfl,hp⟩
   exact yrv h
  exact yrv h
theorem off_freshT(d:Nat)(t:TL):ydl d (zaz d t)=true:=ziq fun s x hm=>by simpa using zbl hm
theorem off_freshH(d:Nat)(h:HL):ybs d (zuc d h)=true:=zin fun s x hm=>by
 obtain⟨o,rfl,hp⟩:=yrv hm;simp only[qad,qbn]at hp;exact⟨hp.1,fun o' e=>by cases e;exact hp.2⟩
theorem ywn(d:Nat)(t:TL)(h:HL):ymi (S (zaz d t) (zuc d h)) d:=ygc (off_freshT d t) (off_freshH d h)
def xmn(t:TL)(h:HL)(d:Nat)(x:Operand):Option (TL × HL):=
 match evF (yak (zaz d t)) x with
 | some y=>match yec y with
  | some cs=>match ment.mentL d cs with
   | true=>none
   | false=>some ((d,.lp d 0)::zaz d t,(d,some (.cells cs))::zuc d h)
  | none=>none
 | none=>none
theorem boxX_ok{e:Nat}(hd:Nat.blt d N=true)(hr:xmn t h d x=some (t',h')):ybp P N ⟨some d,.box e x,ty,pos,af,gd⟩ (S t h) (·=S t' h'):=by
 unfold xmn at hr;split at hr
 .rename_i y hx;split at hr
  .rename_i cs hcs;split at hr
   .cases hr
   rename_i hm;simp only[Option.some.injEq,Prod.mk.injEq]at hr;obtain⟨rfl,rfl⟩:=hr;refine ybp.pre ?_ (zmi d t h);rw[<- ytz];exact zvx rfl rfl (by simpa using hd) d hx hcs (ywn d t h) hm (by simpa using hd)
  cases hr
 cases hr
def xbo(T:Nat->Option Ty)(t:TL)(h:HL)(d e:Nat):Option (TL × HL):=
 match T e with
 | some y=>match y.zero.all Value.oneCell' with
  | true=>some ((d,.lp d 0)::zaz d t,(d,some (.cells (yhw y.zero)))::zuc d h)
  | false=>none
 | none=>none
theorem allocX_ok(hT:TOK P T){e:Nat}(hd:Nat.blt d N=true)(hr:xbo T t h d e=some (t',h')):ybp P N ⟨some d,.alloc e,ty,pos,af,gd⟩ (S t h) (·=S t' h'):=by
 unfold xbo at hr;split at hr
 .rename_i y hy;split at hr
  .rename_i hone;simp only[Option.some.injEq,Prod.mk.injEq]at hr;obtain⟨rfl,rfl⟩:=hr;refine ybp.pre ?_ (zmi d t h);rw[<- ytz,ypd];exact yxy hT rfl rfl (by simpa using hd) d hy hone (ywn d t h) (by simpa using hd)
  cases hr
 cases hr
def ypu(d:Nat):Nat:=d+3000000
def xiv(T:Nat->Option Ty)(t:TL)(h:HL)(d ti:Nat)(x y:Operand):Option (TL × HL):=
 match T ti with
 | some ⟨.slc _ es _ eb ez,_,_,_⟩=>match evF (yak (zaz (ypu d) t)) x with
  | some (.v (.int .i64 (.ofNat m)))=>match evF (yak (zaz (ypu d) t)) y with
   | some (.v (.int .i64 (.ofNat m')))=>match ez.all Value.oneCell' && (Nat.beq m' m && (Nat.ble m 4294967296 && Nat.ble (eb * m) 281474976710656))with
    | true=>some ((d,.ls (ypu d) es m)::zaz (ypu d) t,(ypu d,some (.vec (ykx m (yhw ez))))::zuc (ypu d) h)
    | false=>none
   | _=>none
  | _=>none
 | _=>none
theorem makeX_ok(hT:TOK P T){ti:Nat}(hd:Nat.blt d N=true)(hr:xiv T t h d ti x y=some (t',h')):ybp P N ⟨some d,.makeSlice ti x y,ty,pos,af,gd⟩ (S t h) (·=S t' h'):=by
 unfold xiv at hr;split at hr
 .rename_i e es ea eb ez sz ag z hk;split at hr
  .rename_i m hx;split at hr
   .rename_i m' hy;split at hr
    .rename_i hb;simp only[qad,qdr]at hb;obtain⟨h1,h2,h3,h4⟩:=hb;obtain rfl:=qaf h2;simp only[Option.some.injEq,Prod.mk.injEq]at hr;obtain⟨rfl,rfl⟩:=hr;refine ybp.pre ?_ (zmi (ypu d) t h);rw[<- ytz];exact ywb hT rfl rfl (by simpa using hd) (ypu d) hk h1 hx hy ⟨h3,h4⟩ (ywn (ypu d) t h)
    cases hr
   cases hr
  cases hr
 cases hr
def xew(T:Nat->Option Ty)(t:TL)(h:HL)(ti:Nat)(x v:Operand):Option (TL × HL):=
 match T ti with
 | some y=>match evF (yak t) x with
  | some (.lp id off)=>match evF (yak t) v with
   | some u=>match yec u with
    | some cs=>match Nat.beq cs.length y.size with
     | true=>match yac h id with
      | some (.cells xs)=>match yjl off cs xs with
       | some ys=>some (t,(id,some (.cells ys))::h)
       | none=>none
      | some (.vec (z::xs))=>match yas.pureL cs with
       | true=>match yjl off cs (z::xs)with
        | some ys=>some (t,(id,some (.vec ys))::h)
        | none=>none
       | false=>none
      | _=>none
     | false=>none
    | none=>none
   | none=>none
  | _=>none
 | none=>none
theorem storeX_ok(hT:TOK P T){ti:Nat}{v:Operand}(hr:xew T t h ti x v=some (t',h')):ybp P N ⟨none,.store ti x v,ty,pos,af,gd⟩ (S t h) (·=S t' h'):=by
 unfold xew at hr;split at hr
 .rename_i y hy;split at hr
  .rename_i id off hx;split at hr
   .rename_i u hv;split at hr
    .rename_i cs hcs;split at hr
     .rename_i hcl;split at hr
      .rename_i xs hh;split at hr
       .rename_i ys hsp;simp only[Option.some.injEq,Prod.mk.injEq]at hr;obtain⟨rfl,rfl⟩:=hr;obtain⟨h1,h2⟩:=ylf hsp;rw[<- S_h];exact yig rfl rfl (hT _ _ hy).1 hx hv hcs (qaf hcl) hh (by rw[h2];exact .cells h1)
       cases hr
      .rename_i z xs hh;split at hr
       .rename_i hp;split at hr
        .rename_i ys hsp;simp only[Option.some.injEq,Prod.mk.injEq]at hr;obtain⟨rfl,rfl⟩:=hr;obtain⟨h1,h2⟩:=ylf hsp;rw[<- S_h];exact yig rfl rfl (hT _ _ hy).1 hx hv hcs (qaf hcl) hh (by rw[h2];exact .vec h1 (ylz hp) sm)
        cases hr
       cases hr
      cases hr
     cases hr
    cases hr
   cases hr
  cases hr
 cases hr
def xmj(T:Nat->Option Ty)(t:TL)(h:HL)(d ti:Nat)(x y:Operand):Option (TL × HL):=
 match T ti with
 | some ⟨.slc _ es _ eb _,_,_,_⟩=>match evF (yak t) x with
  | some (.v (.slice none 0 0))=>match evF (yak (zaz (ypu d) t)) x with
   | some (.v (.slice none 0 0))=>match evF (yak (zaz (ypu d) t)) y with
    | some (.sl es' rows)=>match yas.pureL rows.flatten && (Nat.beq es' es && (Nat.ble rows.length 4294967296 && Nat.ble (rows.length * eb) 140737488355328))with
     | true=>some ((d,.ls (ypu d) es rows.length)::zaz (ypu d) t,(ypu d,some (.vec rows.flatten))::zuc (ypu d) h)
     | false=>none
    | _=>none
   | _=>none
  | some (.ls id es1 len)=>match yac h id with
   | some (.vec xs)=>match evF (yak t) y with
    | some (.sl es' rows)=>match yas.pureL rows.flatten && (Nat.beq es' es && (Nat.beq es1 es && (Nat.beq xs.length (len * es) && (Nat.ble (len+rows.length) 4294967296 && Nat.ble ((len+rows.length) * eb) 140737488355328))))with
     | true=>match yvo id t with
      | some t1=>match yql id h with
       | some h1=>some ((d,.ls id es (len+rows.length))::t1,(id,some (.vec (xs++rows.flatten)))::h1)
       | none=>none
      | none=>none
     | false=>none
    | _=>none
   | _=>none
  | _=>none
 | _=>none
theorem appX_ok(hT:TOK P T){ti:Nat}(hd:Nat.blt d N=true)(hr:xmj T t h d ti x y=some (t',h')):ybp P N ⟨some d,.call { callee:=.builtin .append,args:=#[x,y],argTypes:=#[ti,ti] },ty,pos,af,gd⟩ (S t h) (·=S t' h'):=by
 unfold xmj at hr;split at hr
 .rename_i e es ea eb ez sz ag z hk;split at hr
  .split at hr
   .rename_i hx;split at hr
    .rename_i es' rows hy;split at hr
     .rename_i hb;simp only[qad,qdr]at hb;obtain⟨h1,h2,h3,h4⟩:=hb;obtain rfl:=qaf h2;simp only[Option.some.injEq,Prod.mk.injEq]at hr;obtain⟨rfl,rfl⟩:=hr;refine ybp.pre ?_ (zmi (ypu d) t h);rw[<- ytz];exact yjn hT (ypu d) rfl rfl (by simpa using hd) hk hx (ywn (ypu d) t h) hy (fun ok w lv u hr=>yxb hr) (ylz h1) ⟨h3,h4⟩
     cases hr
    cases hr
   cases hr
  .rename_i id es1 len hx;split at hr
   .rename_i xs hid;split at hr
    .rename_i es' rows hy;split at hr
     .rename_i hb;simp only[qad,qdr]at hb;obtain⟨h1,h2,h3,h4,h5,h6⟩:=hb;rw[qaf h2]at hy;rw[qaf h3]at hx;have hxl:=qaf h4;split at hr
      .rename_i t1 ht;split at hr
       .rename_i h1' hh;simp only[Option.some.injEq,Prod.mk.injEq]at hr;obtain⟨rfl,rfl⟩:=hr;obtain⟨g1,g2⟩:=yib ht;have e:S ((d,.ls id es (len+rows.length))::t1) ((id,some (.vec (xs++rows.flatten)))::h1')=(⟨yee (S t1 ((id,some (.vec (xs++rows.flatten)))::h1')).t (some d) (.ls id es (len+rows.length)),(S t1 ((id,some (.vec (xs++rows.flatten)))::h1')).h⟩:SS):=by
         unfold S;rw[ydm]
        rw[e];refine yll hT rfl rfl (by simpa using hd) hk hx hid hxl hy (fun ok w lv u hr=>yxb hr) (ylz h1) ⟨h5,h6⟩ g1 g2 (fun j ob' hj hob=>?_) ?_
        .simp only[S,yac,ycp hj]at hob;exact yfs hh j ob' hob
        simp[S,yac]
       cases hr
      cases hr
     cases hr
    cases hr
   cases hr
  cases hr
 cases hr
end
end
section
open Go.RowKit
theorem zmt{σ τ:Nat->Nat}(hσ:∀ i∈ids,σ (τ i)=i):∀ (x:AV),yex ids x=true->yfz σ (yfz τ x)=x
 | .v _,_=>rfl
 | .any,_=>rfl
 | .one,_=>rfl
 | .sl _ _,_=>rfl
 | .dp _ _,_=>rfl
 | .mv _,_=>rfl
 | .lp i o,h=>by simp only[yfz,hσ i (by simpa[yex]using h)]
 | .ls i _ _,h=>by simp only[yfz,hσ i (by simpa[yex]using h)]
 | .mp i,h=>by simp only[yfz,hσ i (by simpa[yex]using h)]
 | .agg cs,h=>by simp only[yfz,rows cs (by simpa[yex]using h)]
 | .tup cs,h=>by simp only[yfz,rows cs (by simpa[yex]using h)]
 | .fn _ cs,h=>by simp only[yfz,rows cs (by simpa[yex]using h)]
 | .fm _ cs,h=>by simp only[yfz,rows cs (by simpa[yex]using h)]
 where rows:∀ (cs:List AV),yex.onlyL ids cs=true->yfz.renL σ (yfz.renL τ cs)=cs
 | [],_=>rfl
 | c::cs,h=>by
  simp only[yex.onlyL,qad]at h;simp only[yfz.renL,zmt hσ c h.1,rows cs h.2]
theorem renO_back{σ τ:Nat->Nat}(hσ:∀ i∈ids,σ (τ i)=i){o:LObj}(h:yoz ids o=true):zcg σ (zcg τ o)=o:=by
 cases o <;> simp only[zcg,yoz]at h ⊢ <;> rw[zmt.rows hσ _ h]
def up(i:Nat):Nat:=i+1000
def xlb:List Nat->List (Nat × Nat)
 | []=>[]
 | i::l=>(up i,i)::xlb l
theorem ywz{sg:List (Nat × Nat)}:∀ {ids:List Nat},i∈ids->yga (xlb ids++sg) (up i)=i
 | [],h=>by cases h
 | k::l,h=>by
  simp only[xlb,qbb,yga];cases hb:Nat.beq (up i) (up k)with
  | true=>have:=qaf hb;unfold up at this;simp only;omega
  | false=>
   rcases qaq.1 h with rfl|h
   .simp at hb
   exact ywz h
def xkm(h:HL):List Nat->HL
 | []=>[]
 | i::l=>(up i,match yac h i with
  | some o=>some (zcg up o)
  | none=>none)::xkm h l
def zxz(h:HL)(ids:List Nat):List Nat->Bool
 | []=>true
 | i::l=>(match yac h i with
  | some o=>yoz ids o
  | none=>true) && zxz h ids l
theorem zxe{h:HL}{ids:List Nat}{sg:List (Nat × Nat)}:∀ {l:List Nat},(∀ i∈l,i∈ids)->zxz h ids l=true->yxr h (xal (xlb ids++sg) (xkm h l))
 | [],_,_=>trivial
 | i::l,hm,ho=>by
  simp only[zxz,qad]at ho;have ih:=zxe (sg:=sg) (l:=l) (fun j hj=>hm j (qap _ hj)) ho.2;have hi:=hm i qbe;simp only[xkm];cases hx:yac h i with
  | none=>
   unfold xal;exact And.intro (fun o e=>by cases e) ih
  | some o=>
   rw[hx]at ho;unfold xal;refine And.intro (fun o' e=>?_) ih;simp only[Option.some.injEq]at e;rw[ywz hi,hx,<- e,renO_back (fun j hj=>ywz hj) ho.1]
def zpx:AV->List Nat
 | .lp i _=>[i]
 | .ls i _ _=>[i]
 | .mp i=>[i]
 | .agg cs=>idsL cs
 | .tup cs=>idsL cs
 | .fn _ cs=>idsL cs
 | .fm _ cs=>idsL cs
 | _=>[]
 where idsL:List AV->List Nat
 | []=>[]
 | c::cs=>zpx c++idsL cs
def xlx:LObj->List Nat
 | .cells xs=>zpx.idsL xs
 | .tcells _ xs=>zpx.idsL xs
 | .mcells xs=>zpx.idsL xs
 | _=>[]
def xec(h:HL):Nat->List Nat->List Nat->List Nat
 | 0,_,seen=>seen
 | _+1,[],seen=>seen
 | n+1,i::r,seen=>match ykc i seen with
  | true=>xec h n r seen
  | false=>match yac h i with
   | some o=>xec h n (xlx o++r) (i::seen)
   | none=>xec h n r (i::seen)
def xdp(ks:List Nat):HL->Nat->List (Nat × Nat)
 | [],_=>[]
 | (i,_)::l,m=>match ykc i ks with
  | true=>xdp ks l m
  | false=>(i,m)::xdp ks l (m+1)
def xlf:HL->Nat->Nat
 | [],m=>m
 | (i,_)::l,m=>xlf l (match Nat.blt m i with
  | true=>i
  | false=>m)
section
variable{P:Program}{T:Nat->Option Ty}{N:Nat}{ops:Array Oper}{lf:Oper->Bool}{Q:SS->Prop}{t t':TL}{h h':HL}{rest:List Oper}{d:Nat}{op:Op}{ty:TypeId}{pos:String}{af:Array Edge}{gd:Option (Nat × Bool)}{r:AV}
theorem callMG_loud(sg:List (Nat × Nat)){g:Operand}{args:List Operand}{ats:Array TypeId}{caps xs args0:List AV}{hs hs' h':List (Nat × Option LObj)}(hc:ytb P f args0 (yac hs) r (yac hs'))(hg:zcs (evF (yak t) g) f caps args)(hx:evL (evF (yak t)) args=some xs)(hargs:xs++caps=args0.map (yfz (yga sg)))(hk:yed (ybm sg)=true)(hv:yed (ycz sg)=true)(hd1:yyh (ybm sg) hs=true)(hd2:yyh (ybm sg) hs'=true)(hsub:yxr h (xal sg hs))(hr:yex (ybm sg) r=true)(ho:yqu (ybm sg) hs'=true)(hh:zaa (ycz sg) (zpc (ycz sg) h)=some h')(hd:Nat.blt d N=true):
  ybp P N ⟨some d,.call { callee:=.value g,args:=args.toArray,argTypes:=ats },ty,pos,af,gd⟩ (S t h) (·=S ((d,yfz (yga sg) r)::ynw sg hs' t) (yqf sg hs' sg++h')):=by
 refine yru (σ:=yga sg) (ids:=ybm sg) rfl rfl (by simpa using hd) hg hx hargs hc (zfv hv) (yjd hd1) (yjd hd2) (ywt hsub) hr (yly ho) (fun x y hy=>?_) (fun i hi=>zbi hk hv i hi) (fun j ob' hj hob=>?_)
 .simp only[S,yak]at hy;cases hb:Nat.beq x d with
  | true=>simp only[hb,Option.some.injEq]at hy;exact .inl ⟨qaf hb,hy.symm⟩
  | false=>
   simp only[hb]at hy;refine .inr ⟨fun e=>by subst e;simp at hb,?_⟩;rcases yjf hy with hq|⟨h1,h2⟩
   .exact .inl hq
   exact .inr ⟨h1,yyp hk h2⟩
 have hjv:j ∉ ycz sg:=fun hm=>by
  obtain⟨i,h1,h2⟩:=yzg hm hk;exact hj i h1 h2
 simp only[S,yop hjv]at hob;obtain⟨h1,h2⟩:=yuj hh j ob' hob;rw[zbn hjv]at h2;exact⟨fun i hi=>h1 _ (ymd hi),h2⟩
structure Calls0 where
 pure:FuncId->List AV->Option AV
 lent:FuncId->List AV->HL->Option (AV × HL)
 fz:FuncId->Bool
structure CallsOk (P:Program) (K:Calls0):Prop where
 pure:∀ f xs r,K.pure f xs=some r->Con P f xs r
 lent:∀ f xs hs r hs',K.lent f xs hs=some (r,hs')->ytb P f xs (yac hs) r (yac hs')
def xiu:HL->List Nat
 | []=>[]
 | (i,_)::l=>i::xiu l
def xfx(K:Calls0)(t:TL)(h:HL)(d f:Nat)(all:List AV):Option (TL × HL):=
 let ids:=xec h 1000 (zpx.idsL all++xiu h) []
 match K.lent f (all.map (yfz up)) (xkm h ids)with
 | none=>none
 | some (r,hs')=>
  let sg:=xlb ids++xdp (ids.map up) hs' (xlf h 2000000+1)
  match yex.onlyL ids all && (zxz h ids ids && (yed (ybm sg) && (yed (ycz sg) && (yyh (ybm sg) (xkm h ids) && (yyh (ybm sg) hs' && (yex (ybm sg) r && yqu (ybm sg) hs'))))))with
  | false=>none
  | true=>match zaa (ycz sg) (zpc (ycz sg) h)with
   | none=>none
   | some h1=>some ((d,yfz (yga sg) r)::ynw sg hs' t,yqf sg hs' sg++h1)
theorem ren_backL{ids:List Nat}{σ τ:Nat->Nat}(hσ:∀ i∈ids,σ (τ i)=i){xs:List AV}(h:yex.onlyL ids xs=true):(xs.map (yfz τ)).map (yfz σ)=xs:=by
 have:=zmt.rows hσ xs h
 rwa [ycs,ycs]at this
theorem zxl{K:Calls0}(hK:CallsOk P K){g:Operand}{args:List Operand}{ats:Array TypeId}{caps xs:List AV}(hg:zcs (evF (yak t) g) f caps args)(hx:evL (evF (yak t)) args=some xs)(hd:Nat.blt d N=true)(hr:xfx K t h d f (xs++caps)=some (t',h')):
  ybp P N ⟨some d,.call { callee:=.value g,args:=args.toArray,argTypes:=ats },ty,pos,af,gd⟩ (S t h) (·=S t' h'):=by
 unfold xfx at hr;simp only at hr;split at hr
 .cases hr
 rename_i r hs' hc;split at hr
 .cases hr
 rename_i hb;simp only[qad]at hb;obtain⟨h1,h2,h3,h4,h5,h6,h7,h8⟩:=hb;split at hr
 .cases hr
 rename_i h1' hh;simp only[Option.some.injEq,Prod.mk.injEq]at hr;obtain⟨rfl,rfl⟩:=hr;exact callMG_loud _ (hK.lent _ _ _ _ _ hc) hg hx (ren_backL (fun i hi=>ywz hi) h1).symm h3 h4 h5 h6 (zxe (fun i hi=>hi) h2) h7 h8 hh hd
end
end
section
open Go.RowKit
section
variable{P:Program}{T:Nat->Option Ty}{N:Nat}{ops:Array Oper}{lf:Oper->Bool}{Q:SS->Prop}{t t':TL}{h h':HL}{rest:List Oper}{op:Op}{ty:TypeId}{pos:String}{af:Array Edge}{gd:Option (Nat × Bool)}{r:AV}{K:Calls0}{big:Bool}
def xku(N:Nat)(d:Option Nat)(r:Option AV)(t:TL)(h:HL):Option (TL × HL):=
 match r with
 | some r=>match d with
  | some d=>match Nat.blt d N with
   | true=>some ((d,r)::t,h)
   | false=>none
  | none=>some (t,h)
 | none=>none
def xkb(K:Calls0)(big:Bool)(t:TL)(h:HL)(d:Nat)(g:Operand)(args:List Operand):Option (TL × HL):=
 match evF (yak t) g with
 | some (.fn f caps)=>match evL (evF (yak t)) args with
  | some xs=>match yas.pureL (xs++caps)with
   | true=>match K.pure f (xs++caps)with
    | some r=>some ((d,r)::t,h)
    | none=>none
   | false=>match big with
    | true=>xfx K t h d f (xs++caps)
    | false=>none
  | none=>none
 | some (.fm f caps)=>match args,big with
  | [],true=>xfx K t h d f caps
  | _,_=>none
 | _=>none
def xms(T:Nat->Option Ty)(K:Calls0)(N:Nat)(big:Bool)(t:TL)(h:HL)(d:Option Nat)(op:Op)(ty:TypeId):Option (TL × HL):=
 match op with
 | .box _ x=>match d with
  | some d=>match Nat.blt d N with
   | true=>xmn t h d x
   | false=>none
  | none=>none
 | .alloc e=>match d with
  | some d=>match Nat.blt d N with
   | true=>xbo T t h d e
   | false=>none
  | none=>none
 | .makeSlice ti x y=>match d with
  | some d=>match Nat.blt d N with
   | true=>xiv T t h d ti x y
   | false=>none
  | none=>none
 | .store ti x v=>match d with
  | some _=>none
  | none=>xew T t h ti x v
 | .call ⟨.builtin .append,⟨[x,y]⟩,⟨[ti,tj]⟩⟩=>match d with
  | some d=>match Nat.blt d N && Nat.beq tj ti with
   | true=>xmj T t h d ti x y
   | false=>none
  | none=>none
 | .call ⟨.value g,⟨args⟩,ats⟩=>match d with
  | some d=>match Nat.blt d N with
   | true=>xkb K big t h d g args
   | false=>none
  | none=>none
 | op=>xku N d (xir T t h op ty) t h
theorem L_put{d:Option Nat}{r:Option AV}(hy:∀ r',r=some r'->ybu P (yac h) (evF (yak t)) op ty r')(hr:xku N d r t h=some (t',h'))(hw:yam ops (yak t) ⟨d,op,ty,pos,af,gd⟩=some true)(k:Lex P N ops lf Q rest (S t' h')):Lex P N ops lf Q (⟨d,op,ty,pos,af,gd⟩::rest) (S t h):=by
 unfold xku at hr;split at hr
 .split at hr
  .split at hr
   .rename_i hd;simp only[Option.some.injEq,Prod.mk.injEq]at hr;obtain⟨rfl,rfl⟩:=hr;exact ycm (hy _ rfl) hw hd k
   cases hr
  simp only[Option.some.injEq,Prod.mk.injEq]at hr;obtain⟨rfl,rfl⟩:=hr;exact L_yield0 (hy _ rfl) hw k
 cases hr
theorem exOp_ok(hT:TOK P T)(hK:CallsOk P K)(hlf:∀ o,xdc o.op=true->lf o=true)(hbig:big=true->∀ o,lf o=true){d:Option Nat}(hr:xms T K N big t h d op ty=some (t',h'))(hw:yam ops (yak t) ⟨d,op,ty,pos,af,gd⟩=some true)(k:Lex P N ops lf Q rest (S t' h')):Lex P N ops lf Q (⟨d,op,ty,pos,af,gd⟩::rest) (S t h):=by
 unfold xms at hr;split at hr
 .split at hr
  .split at hr
   .rename_i hd;exact yef (hlf _ rfl) hw (boxX_ok hd hr) k
   cases hr
  cases hr
 .split at hr
  .split at hr
   .rename_i hd;exact yef (hlf _ rfl) hw (allocX_ok hT hd hr) k
   cases hr
  cases hr
 .split at hr
  .split at hr
   .rename_i hd;exact yef (hlf _ rfl) hw (makeX_ok hT hd hr) k
   cases hr
  cases hr
 .split at hr
  .cases hr
  exact yef (hlf _ rfl) hw (storeX_ok hT hr) k
 .split at hr
  .split at hr
   .rename_i hd;simp only[qad]at hd;obtain rfl:=qaf hd.2;exact yef (hlf _ rfl) hw (appX_ok hT hd.1 hr) k
   cases hr
  cases hr
 .split at hr
  .split at hr
   .rename_i hd;unfold xkb at hr;split at hr
    .rename_i f caps hg;split at hr
     .rename_i xs hx;split at hr
      .split at hr
       .rename_i r hp;simp only[Option.some.injEq,Prod.mk.injEq]at hr;obtain⟨rfl,rfl⟩:=hr;exact ypg hg hx (hK.pure _ _ _ hp) hw hd k
       cases hr
      split at hr
      .exact yef (hbig rfl _) hw (zxl hK (.inl hg) hx hd hr) k
      cases hr
     cases hr
    .rename_i f caps hg;split at hr
     .exact yef (hbig rfl _) hw (zxl (xs:=[]) hK (.inr ⟨hg,rfl⟩) rfl hd hr) k
     cases hr
    cases hr
   cases hr
  cases hr
 exact L_put (fun r' e=>calmX_ok hT e) hr hw k
def exL(T:Nat->Option Ty)(K:Calls0)(N:Nat)(big:Bool)(ops:Array Oper):List Oper->TL->HL->Option (TL × HL)
 | [],t,h=>some (t,h)
 | ⟨d,op,ty,pos,af,gd⟩::l,t,h=>match yam ops (yak t) ⟨d,op,ty,pos,af,gd⟩with
  | some true=>match xms T K N big t h d op ty with
   | some (t1,h1)=>exL T K N big ops l t1 h1
   | none=>none
  | some false=>match xku N d (some (.v undef)) t h with
   | some (t1,h1)=>exL T K N big ops l t1 h1
   | none=>none
  | none=>none
theorem zig(hT:TOK P T)(hK:CallsOk P K)(hlf:∀ o,xdc o.op=true->lf o=true)(hbig:big=true->∀ o,lf o=true):∀ {l:List Oper} {t:TL} {h:HL},exL T K N big ops l t h=some (t',h')->Q (S t' h')->Lex P N ops lf Q l (S t h)
 | [],t,h,hr,hq=>by
  simp only[exL,Option.some.injEq,Prod.mk.injEq]at hr;obtain⟨rfl,rfl⟩:=hr;exact zny hq
 | ⟨d,op,ty,pos,af,gd⟩::l,t,h,hr,hq=>by
  simp only[exL]at hr;split at hr
  .rename_i hw;split at hr
   .rename_i t1 h1 ho;exact exOp_ok hT hK hlf hbig ho hw (zig hT hK hlf hbig hr hq)
   cases hr
  .rename_i hw;split at hr
   .rename_i t1 h1 ho;have k:=zig hT hK hlf hbig hr hq;unfold xku at ho;simp only at ho;split at ho
    .split at ho
     .rename_i hd;simp only[Option.some.injEq,Prod.mk.injEq]at ho;obtain⟨rfl,rfl⟩:=ho;exact xgm hw hd k
     cases ho
    simp only[Option.some.injEq,Prod.mk.injEq]at ho;obtain⟨rfl,rfl⟩:=ho;exact L_skip0 hw k
   cases hr
  cases hr
end
end
section
open Go.RowKit
def eqV:Value->Value->Bool
 | .bool a,.bool b=>a == b
 | .int k a,.int k' b=>decide (k=k') && decide (a=b)
 | .string a,.string b=>decide (a=b)
 | .slice none a b,.slice none c d=>Nat.beq a c && Nat.beq b d
 | .pointer none,.pointer none=>true
 | .nilFunc,.nilFunc=>true
 | .nilIface,.nilIface=>true
 | .tuple ⟨[]⟩,.tuple ⟨[]⟩=>true
 | _,_=>false
theorem eqV_ok{a b:Value}(h:eqV a b=true):a=b:=by
 unfold eqV at h;split at h
 .simpa using h
 .simp only[qad,decide_eq_true_eq]at h;rw[h.1,h.2]
 .rw [of_decide_eq_true h]
 .simp only[qad]at h;rw[qaf h.1,qaf h.2]
 .rfl
 .rfl
 .rfl
 .rfl
 cases h
def eqA:AV->AV->Bool
 | .v a,.v b=>eqV a b
 | .sl s xs,.sl s' ys=>Nat.beq s s' && eqR xs ys
 | .dp xs o,.dp ys o'=>eqL xs ys && Nat.beq o o'
 | .lp i o,.lp j o'=>Nat.beq i j && Nat.beq o o'
 | .ls i a b,.ls j c d=>Nat.beq i j && (Nat.beq a c && Nat.beq b d)
 | .agg xs,.agg ys=>eqL xs ys
 | .tup xs,.tup ys=>eqL xs ys
 | .fn f xs,.fn g ys=>Nat.beq f g && eqL xs ys
 | .fm f xs,.fm g ys=>Nat.beq f g && eqL xs ys
 | .any,.any=>true
 | .one,.one=>true
 | _,_=>false
 where
 eqL:List AV->List AV->Bool
 | [],[]=>true
 | x::xs,y::ys=>eqA x y && eqL xs ys
 | _,_=>false
 eqR:List (List AV)->List (List AV)->Bool
 | [],[]=>true
 | x::xs,y::ys=>eqL x y && eqR xs ys
 | _,_=>false
theorem zif:∀ (x y:AV),eqA x y=true->x=y
 | .v a,y,h=>by cases y <;> simp only[eqA]at h <;> first|rw[eqV_ok h]|cases h
 | .sl s xs,y,h=>by
  cases y <;> simp only[eqA,qad]at h <;> first|cases h;done|rw[qaf h.1,rws _ _ h.2]
 | .dp xs o,y,h=>by
  cases y <;> simp only[eqA,qad]at h <;> first|cases h;done|rw[qaf h.2,row _ _ h.1]
 | .lp i o,y,h=>by
  cases y <;> simp only[eqA,qad]at h <;> first|cases h;done|rw[qaf h.1,qaf h.2]
 | .ls i a b,y,h=>by
  cases y <;> simp only[eqA,qad]at h <;> first|cases h;done|rw[qaf h.1,qaf h.2.1,qaf h.2.2]
 | .agg xs,y,h=>by cases y <;> simp only[eqA]at h <;> first|cases h;done|rw[row _ _ h]
 | .tup xs,y,h=>by cases y <;> simp only[eqA]at h <;> first|cases h;done|rw[row _ _ h]
 | .fn f xs,y,h=>by
  cases y <;> simp only[eqA,qad]at h <;> first|cases h;done|rw[qaf h.1,row _ _ h.2]
 | .fm f xs,y,h=>by
  cases y <;> simp only[eqA,qad]at h <;> first|cases h;done|rw[qaf h.1,row _ _ h.2]
 | .any,y,h=>by cases y <;> simp only[eqA]at h <;> first|rfl|cases h
 | .one,y,h=>by cases y <;> simp only[eqA]at h <;> first|rfl|cases h
 | .mp i,y,h=>by cases y <;> simp only[eqA]at h <;> cases h
 | .mv i,y,h=>by cases y <;> simp only[eqA]at h <;> cases h
 where
 row:∀ (x y:List AV),eqA.eqL x y=true->x=y
 | [],[],_=>rfl
 | [],_::_,h=>by simp[eqA.eqL]at h
 | _::_,[],h=>by simp[eqA.eqL]at h
 | x::xs,y::ys,h=>by
  simp only[eqA.eqL,qad]at h;rw[zif x y h.1,row xs ys h.2]
 rws:∀ (x y:List (List AV)),eqA.eqR x y=true->x=y
 | [],[],_=>rfl
 | [],_::_,h=>by simp[eqA.eqR]at h
 | _::_,[],h=>by simp[eqA.eqR]at h
 | x::xs,y::ys,h=>by
  simp only[eqA.eqR,qad]at h;rw[row x y h.1,rws xs ys h.2]
def eqO:LObj->LObj->Bool
 | .cells xs,.cells ys=>eqA.eqL xs ys
 | .vec xs,.vec ys=>eqA.eqL xs ys
 | _,_=>false
theorem eqO_ok{x y:LObj}(h:eqO x y=true):x=y:=by
 unfold eqO at h;split at h
 .rw [zif.row _ _ h]
 .rw [zif.row _ _ h]
 cases h
end
section
open Go.RowKit
def xmq(x y:Option LObj):Bool:=match x,y with
 | some a,some b=>eqO a b
 | none,none=>true
 | _,_=>false
theorem eqHo_ok{x y:Option LObj}(h:xmq x y=true):x=y:=by
 unfold xmq at h;split at h
 .rw [eqO_ok h]
 .rfl
 cases h
def zrx(t u:HL):HL->Bool
 | []=>true
 | (s,_)::l=>xmq (yac t s) (yac u s) && zrx t u l
theorem zfs{t u:HL}:∀ {l:HL},zrx t u l=true->∀ s x,(s,x)∈l->yac t s=yac u s
 | [],_,s,x,h=>by cases h
 | (k,y)::l,hb,s,x,h=>by
  simp only[zrx,qad]at hb;rcases qaq.1 h with e|h
  .cases e;exact eqHo_ok hb.1
  exact zfs hb.2 s x h
theorem yyo:∀ {l:HL} {i:Nat},(∀ x,(i,x) ∉ l)->yac l i=none
 | [],i,_=>rfl
 | (k,x)::l,i,h=>by
  simp only[yac];cases hb:Nat.beq i k with
  | true=>exact absurd (by rw[qaf hb];exact qbe) (h x)
  | false=>exact yyo fun y hy=>h y (qap _ hy)
def xje(t u:HL):Bool:=zrx t u t && zrx t u u
theorem sameH_ok{t u:HL}(h:xje t u=true):yac t=yac u:=by
 simp only[xje,qad]at h;funext i;by_cases h1:∃ x,(i,x)∈t
 .obtain ⟨x,hx⟩:=h1;exact zfs h.1 i x hx
 by_cases h2:∃ x,(i,x)∈u
 .obtain ⟨x,hx⟩:=h2;exact zfs h.2 i x hx
 rw[yyo fun x hx=>h1 ⟨x,hx⟩,yyo fun x hx=>h2 ⟨x,hx⟩]
def yus(t u:TL):TL->Bool
 | []=>true
 | (s,_)::l=>(match yak t s,yak u s with
  | some a,some b=>eqA a b
  | none,none=>true
  | _,_=>false) && yus t u l
theorem yzd:∀ {l:TL},yus t u l=true->∀ s x,(s,x)∈l->yak t s=yak u s
 | [],_,s,x,h=>by cases h
 | (k,y)::l,hb,s,x,h=>by
  simp only[yus,qad]at hb;rcases qaq.1 h with e|h
  .cases e;have h1:=hb.1;split at h1
   .rename_i a b ha hb';rw[ha,hb',zif _ _ h1]
   .rename_i ha hb';rw[ha,hb']
   cases h1
  exact yzd hb.2 s x h
theorem zem:∀ {l:TL} {i:Nat},(∀ x,(i,x) ∉ l)->yak l i=none
 | [],i,_=>rfl
 | (k,x)::l,i,h=>by
  simp only[yak];cases hb:Nat.beq i k with
  | true=>exact absurd (by rw[qaf hb];exact qbe) (h x)
  | false=>exact zem fun y hy=>h y (qap _ hy)
theorem sameT_ok(h:(yus t u t && yus t u u)=true):yak t=yak u:=by
 simp only[qad]at h;funext i;by_cases h1:∃ x,(i,x)∈t
 .obtain ⟨x,hx⟩:=h1;exact yzd h.1 i x hx
 by_cases h2:∃ x,(i,x)∈u
 .obtain ⟨x,hx⟩:=h2;exact yzd h.2 i x hx
 rw[zem fun x hx=>h1 ⟨x,hx⟩,zem fun x hx=>h2 ⟨x,hx⟩]
def xjf(t:TL)(h:HL)(u:TL)(g:HL):Bool:=(yus t u t && yus t u u) && xje h g
theorem sameS_ok{h g:HL}(hb:xjf t h u g=true):S t h=S u g:=by
 simp only[xjf]at hb;rw[qad]at hb;unfold S;rw[sameT_ok hb.1,sameH_ok hb.2]
end
section
open Go.RowKit
section
variable{P:Program}{T:Nat->Option Ty}{N:Nat}{ops:Array Oper}{Q:SS->Prop}{K:Calls0}
def zbp(ops:Array Oper)(listed:Array Bool):List Nat->Option Nat
 | []=>none
 | k::l=>match zrg ops lf0 [k] listed with
  | true=>some k
  | false=>zbp ops listed l
theorem zdm{listed:Array Bool}:∀ {l:List Nat} {k:Nat},zbp ops listed l=some k->zrg ops lf0 [k] listed=true
 | [],k,h=>by cases h
 | i::l,k,h=>by
  unfold zbp at h;split at h
  .rename_i hp;simp only[Option.some.injEq]at h;subst h;exact hp
  exact zdm h
def zwm(f:Nat->Option (TL × HL)):List Nat->Option (TL × HL)
 | []=>none
 | [k]=>f k
 | k::l=>match f k with
  | none=>none
  | some (t1,h1)=>match zwm f l with
   | none=>none
   | some (t2,h2)=>match xjf t1 h1 t2 h2 with
    | true=>some (t2,h2)
    | false=>none
theorem zpg{f:Nat->Option (TL × HL)}:∀ {l:List Nat} {t':TL} {h':HL},zwm f l=some (t',h')->l≠[]/\∀ k∈l,∃ t1 h1,f k=some (t1,h1)/\S t1 h1=S t' h'
 | [],t',h',h=>by cases h
 | [k],t',h',h=>⟨sm,fun j hj=>by
  simp only[qau]at hj
  subst hj
  exact⟨t',h',h,rfl⟩⟩
 | k::i::l,t',h',h=>by
  unfold zwm at h;split at h
  .cases h
  rename_i t1 h1 hf;split at h
  .cases h
  rename_i t2 h2 hg;split at h
  .rename_i hs;simp only[Option.some.injEq,Prod.mk.injEq]at h;obtain⟨rfl,rfl⟩:=h;obtain⟨_,ih⟩:=zpg hg;refine⟨sm,fun j hj=>?_⟩;rcases qaq.1 hj with rfl|hj
   .exact ⟨t1,h1,hf,sameS_ok hs⟩
   exact ih j hj
  cases h
def xab(T:Nat->Option Ty)(K:Calls0)(N:Nat)(ops:Array Oper):Nat->Array Bool->TL->HL->Option (TL × HL)
 | 0,listed,t,h=>match ywo ops lf0 [] listed with
  | true=>some (t,h)
  | false=>none
 | n+1,listed,t,h=>match zbp ops listed (Region.ready .any ops listed)with
  | some k=>match ops[k]? with
   | some o=>match exL T K N false ops [o] t h with
    | some (t1,h1)=>xab T K N ops n (yha [k] listed) t1 h1
    | none=>none
   | none=>none
  | none=>zwm (fun k=>match ops[k]? with
   | some o=>match exL T K N false ops [o] t h with
    | some (t1,h1)=>xab T K N ops n (listed.setIfInBounds k true) t1 h1
    | none=>none
   | none=>none) (Region.ready .any ops listed)
theorem zld(hT:TOK P T)(hK:CallsOk P K):∀ (n:Nat) (listed:Array Bool) (t:TL) (h:HL) (t':TL) (h':HL),xab T K N ops n listed t h=some (t',h')->Q (S t' h')->xax P N ops lf0 Q n listed (S t h)
 | 0,listed,t,h,t',h',hr,hq=>by
  simp only[xab]at hr;split at hr
  .rename_i ho;simp only[Option.some.injEq,Prod.mk.injEq]at hr;obtain⟨rfl,rfl⟩:=hr;exact yaz [] (l:=[]) yal rfl ho (zny hq)
  cases hr
 | n+1,listed,t,h,t',h',hr,hq=>by
  simp only[xab]at hr;split at hr
  .rename_i k hp;split at hr
   .rename_i o ho;split at hr
    .rename_i t1 h1 hx;refine yeq [k] n (l:=[o]) (yaa ho yal) so (zdm hp) ?_;exact zig hT hK (fun _ ho=>ho) (fun e=>by cases e) hx (zld hT hK n _ _ _ _ _ hr hq)
    cases hr
   cases hr
  obtain⟨hne,hall⟩:=zpg hr;refine yax _ n rfl rfl hne ?_;generalize Region.ready .any ops listed=ks at hall;clear hne hr;induction ks with
  | nil=>exact trivial
  | cons k ks ih=>
   refine⟨?_,ih fun j hj=>hall j (qap _ hj)⟩;obtain⟨t1,h1,hf,hs⟩:=hall k qbe;split at hf
   .rename_i o ho;split at hf
    .rename_i t2 h2 hx;refine⟨o,ho,zig hT hK (fun _ ho=>ho) (fun e=>by cases e) hx (zld hT hK n _ _ _ _ _ hf (hs ▸ hq))⟩
    cases hf
   cases hf
end
end
section
open Go.RowKit
section
variable{P:Program}{N:Nat}{Q:Exit->SS->Prop}{c:Code}
def xlv(jb k:Nat)(t:TL)(h:HL):TL × HL:=
 match yac h jb with
 | some (.cells ys)=>match ys[k]? with
  | some (.ls id size len)=>match yac h id with
   | some (.vec xs)=>match ypk size len xs with
    | some rows=>match yvo id t with
     | some t1=>match yql id h with
      | some h1=>match yac ((id,none)::h1) jb with
       | some (.cells ys')=>match Nat.beq ys'.length ys.length with
        | true=>(t1,(jb,some (.cells (ys'.set k (.sl size rows))))::(id,none)::h1)
        | false=>(t,h)
       | _=>(t,h)
      | none=>(t,h)
     | none=>(t,h)
    | none=>(t,h)
   | _=>(t,h)
  | _=>(t,h)
 | _=>(t,h)
theorem frz1_ok{jb k:Nat}{h:HL}(q:A P N c Q (S (xlv jb k t h).1 (xlv jb k t h).2)):A P N c Q (S t h):=by
 unfold xlv at q;split at q
 .rename_i ys hj;split at q
  .rename_i id size len hk;split at q
   .rename_i xs hx;split at q
    .rename_i rows hc;obtain⟨q1,q2,q3⟩:=yos hc;split at q
     .rename_i t1 ht;split at q
      .rename_i h1 hh;split at q
       .rename_i ys' hj';split at q
        .rename_i hl;exact yey jb k rows hj hk hx q1 q2 q3 ht hh hj' hl q
        exact q
       exact q
      exact q
     exact q
    exact q
   exact q
  exact q
 exact q
def xlw(jb:Nat):Nat->TL->HL->TL × HL
 | 0,t,h=>(t,h)
 | k+1,t,h=>match xlv jb k t h with
  | (t1,h1)=>xlw jb k t1 h1
theorem xcn{jb:Nat}:∀ {k:Nat} {t:TL} {h:HL},A P N c Q (S (xlw jb k t h).1 (xlw jb k t h).2)->A P N c Q (S t h)
 | 0,t,h,q=>q
 | k+1,t,h,q=>frz1_ok (jb:=jb) (k:=k) (xcn (k:=k) q)
def xjo:HL->TL->HL->TL × HL
 | [],t,h=>(t,h)
 | (jb,some (.cells ys))::l,t,h=>match xlw jb ys.length t h with
  | (t1,h1)=>xjo l t1 h1
 | _::l,t,h=>xjo l t h
theorem ylq:∀ {l:HL} {t:TL} {h:HL},A P N c Q (S (xjo l t h).1 (xjo l t h).2)->A P N c Q (S t h)
 | [],t,h,q=>q
 | (jb,some (.cells ys))::l,t,h,q=>xcn (jb:=jb) (k:=ys.length) (ylq (l:=l) q)
 | (jb,none)::l,t,h,q=>ylq (l:=l) q
 | (jb,some (.vec _))::l,t,h,q=>ylq (l:=l) q
 | (jb,some (.map _))::l,t,h,q=>ylq (l:=l) q
 | (jb,some (.iter _ _ _))::l,t,h,q=>ylq (l:=l) q
 | (jb,some (.siter _ _))::l,t,h,q=>ylq (l:=l) q
 | (jb,some (.tcells _ _))::l,t,h,q=>ylq (l:=l) q
 | (jb,some (.tvec _ _))::l,t,h,q=>ylq (l:=l) q
 | (jb,some (.mcells _))::l,t,h,q=>ylq (l:=l) q
end
end
section
open Go.RowKit
section
variable{P:Program}{T:Nat->Option Ty}{N:Nat}{Q:Exit->SS->Prop}{t t':TL}{h h':HL}{K:Calls0}
def xck:List ResultVar->TL->HL->TL × HL
 | [],t,h=>(t,h)
 | .tmp d::rs,t,h=>match yak t d with
  | some (.ls id size len)=>match yac h id with
   | some (.vec xs)=>match ypk size len xs with
    | some rows=>match yvo id t with
     | some t1=>match yql id h with
      | some h1=>xck rs ((d,.sl size rows)::t1) ((id,none)::h1)
      | none=>xck rs t h
     | none=>xck rs t h
    | none=>xck rs t h
   | _=>xck rs t h
  | _=>xck rs t h
 | .cell _ _::rs,t,h=>xck rs t h
theorem yqk:∀ {rs:List ResultVar} {t:TL} {h:HL},A P N c Q (S (xck rs t h).1 (xck rs t h).2)->A P N c Q (S t h)
 | [],t,h,k=>k
 | .cell _ _::rs,t,h,k=>yqk (rs:=rs) k
 | .tmp d::rs,t,h,k=>by
  simp only[xck]at k;split at k
  .rename_i id size len hd;split at k
   .rename_i xs hx;split at k
    .rename_i rows hc;obtain⟨q1,q2,q3⟩:=yos hc;split at k
     .rename_i t1 ht;split at k
      .rename_i h1 hh;exact zbg d rows hd hx q1 q2 q3 ht hh (yqk (rs:=rs) k)
      exact yqk (rs:=rs) k
     exact yqk (rs:=rs) k
    exact yqk (rs:=rs) k
   exact yqk (rs:=rs) k
  exact yqk (rs:=rs) k
def wantsF(K:Calls0)(l:List Oper):Bool:=l.any fun o=>match o.op with
 | .call ⟨.value (.func f),_,_⟩=>K.fz f
 | _=>false
def xkt(K:Calls0)(l:List Oper)(t:TL)(h:HL):TL × HL:=match wantsF K l with
 | true=>xjo h t h
 | false=>(t,h)
theorem preX_ok{l:List Oper}(q:A P N c Q (S (xkt K l t h).1 (xkt K l t h).2)):A P N c Q (S t h):=by
 unfold xkt at q;split at q
 .exact ylq q
 exact q
def ownH(h:HL):HL:=h.filter fun x=>Nat.blt x.1 1000
def xjb(l:List Oper)(t:TL)(h:HL):TL × HL:=match l.any fun o=>(match o.op with
 | .call ⟨.builtin .append,_,_⟩=>true
 | _=>false)with
 | true=>xjo (ownH h) t h
 | false=>(t,h)
theorem xdy{l:List Oper}(q:A P N c Q (S (xjb l t h).1 (xjb l t h).2)):A P N c Q (S t h):=by
 unfold xjb at q;split at q
 .exact ylq q
 exact q
def exC(T:Nat->Option Ty)(K:Calls0)(N:Nat)(rs:List ResultVar):Nat->Code->TL->HL->Option (Exit × TL × HL)
 | 0,_,_,_=>none
 | n+1,c,t,h=>match c with
  | .skip=>some (.normal,t,h)
  | .exit id=>some (.exit id,t,h)
  | .label _=>some (.normal,t,h)
  | .ret=>match xck rs t h with
   | (t1,h1)=>some (.ret,t1,h1)
  | .seq x y=>match exC T K N rs n x t h with
   | some (.normal,t1,h1)=>exC T K N rs n y t1 h1
   | some (.exit id,t1,h1)=>some (.exit id,t1,h1)
   | some (.ret,t1,h1)=>some (.ret,t1,h1)
   | _=>none
  | .cond c x y=>match evF (yak t) c with
   | some (.v (.bool true))=>exC T K N rs n x t h
   | some (.v (.bool false))=>exC T K N rs n y t h
   | _=>none
  | .block id x=>match exC T K N rs n x t h with
   | some (.normal,t1,h1)=>some (.normal,t1,h1)
   | some (.exit id',t1,h1)=>match Nat.beq id' id with
    | true=>some (.normal,t1,h1)
    | false=>some (.exit id',t1,h1)
   | some (.ret,t1,h1)=>some (.ret,t1,h1)
   | _=>none
  | .loop x=>match exC T K N rs n x (ynq (fun _=>true) [] t) (ylo (fun _ _=>true) [] h)with
   | some (.normal,t1,h1)=>exC T K N rs n (.loop x) t1 h1
   | some (.exit id,t1,h1)=>some (.exit id,t1,h1)
   | some (.ret,t1,h1)=>some (.ret,t1,h1)
   | _=>none
  | .region _ ⟨l⟩ false=>match yht l with
   | true=>match exL T K N true l.toArray l (xkt K l t h).1 (xkt K l t h).2 with
    | some (t1,h1)=>some (.normal,t1,h1)
    | none=>none
   | false=>none
  | .region _ ⟨l⟩ true=>match zwa lf0 l && ytk N l with
   | true=>match exL T K N false l.toArray l (xjb l t h).1 (xjb l t h).2 with
    | some (t1,h1)=>some (.normal,t1,h1)
    | none=>none
   | false=>match ytk N l with
    | true=>match xab T K N l.toArray l.length (Array.replicate l.length false) (xjb l t h).1 (xjb l t h).2 with
     | some (t1,h1)=>some (.normal,t1,h1)
     | none=>none
    | false=>none
  | _=>none
theorem zwl(hm:P.follows .mixedOrders=true)(hT:TOK P T)(hK:CallsOk P K){rs:List ResultVar}:∀ (n:Nat) (c:Code) (t:TL) (h:HL) (e:Exit) (t':TL) (h':HL),exC T K N rs n c t h=some (e,t',h')->(∀ Q:Exit->SS->Prop,Q e (S t' h')->A P N c Q (S t h))/\(∀ x,c=.loop x->∀ Q:Exit->SS->Prop,Q e (S t' h')->ztc P N x Q (S t h))
 | 0,c,t,h,e,t',h',hr=>by simp[exC]at hr
 | n+1,c,t,h,e,t',h',hr=>by
  have ih:=fun c t h e t' h' hr=>(zwl hm hT hK (rs:=rs) n c t h e t' h' hr).1;have ihl:=fun x t h e t' h' hr=>(zwl hm hT hK (rs:=rs) n (.loop x) t h e t' h' hr).2 x rfl;by_cases hl:∃ x,c=.loop x
  .obtain ⟨x,rfl⟩:=hl;have key:∀ Q:Exit->SS->Prop,Q e (S t' h')->ztc P N x Q (S t h):=by
    intro Q hq;refine zcx ?_ (zhz (fun _=>true) t) (zhy (fun _ _=>true) h);refine yrq ?_;simp only[exC]at hr;split at hr
    .rename_i t1 h1 hb;exact ih _ _ _ _ _ _ hb _ (ihl _ _ _ _ _ _ hr Q hq)
    .rename_i id t1 h1 hb;simp only[Option.some.injEq,Prod.mk.injEq]at hr;obtain⟨rfl,rfl,rfl⟩:=hr;exact ih _ _ _ _ _ _ hb _ hq
    .rename_i t1 h1 hb;simp only[Option.some.injEq,Prod.mk.injEq]at hr;obtain⟨rfl,rfl,rfl⟩:=hr;exact ih _ _ _ _ _ _ hb _ hq
    cases hr
   exact⟨fun Q hq=>xbd (key Q hq),fun y e Q hq=>by cases e;exact key Q hq⟩
  refine⟨fun Q hq=>?_,fun x e=>absurd ⟨x,e⟩ hl⟩;unfold exC at hr;split at hr
  .simp only[Option.some.injEq,Prod.mk.injEq]at hr;obtain⟨rfl,rfl,rfl⟩:=hr;exact ydu hq
  .simp only[Option.some.injEq,Prod.mk.injEq]at hr;obtain⟨rfl,rfl,rfl⟩:=hr;exact ype hq
  .simp only[Option.some.injEq,Prod.mk.injEq]at hr;obtain⟨rfl,rfl,rfl⟩:=hr;exact A_label hq
  .simp only[Option.some.injEq,Prod.mk.injEq]at hr;obtain⟨rfl,h1,h2⟩:=hr;refine yqk (rs:=rs) (yqa ?_);rw[h1,h2];exact hq
  .rename_i x y;refine ysv ?_;split at hr
   .rename_i t1 h1 hb;exact ih _ _ _ _ _ _ hb _ (ih _ _ _ _ _ _ hr Q hq)
   .rename_i id t1 h1 hb;simp only[Option.some.injEq,Prod.mk.injEq]at hr;obtain⟨rfl,rfl,rfl⟩:=hr;exact ih _ _ _ _ _ _ hb _ hq
   .rename_i t1 h1 hb;simp only[Option.some.injEq,Prod.mk.injEq]at hr;obtain⟨rfl,rfl,rfl⟩:=hr;exact ih _ _ _ _ _ _ hb _ hq
   cases hr
  .rename_i cc x y;split at hr
   .rename_i hc;exact yux hc (fun _=>ih _ _ _ _ _ _ hr Q hq) (fun e=>by cases e)
   .rename_i hc;exact yux hc (fun e=>by cases e) (fun _=>ih _ _ _ _ _ _ hr Q hq)
   cases hr
  .rename_i id x;refine zsx ?_;split at hr
   .rename_i t1 h1 hb;simp only[Option.some.injEq,Prod.mk.injEq]at hr;obtain⟨rfl,rfl,rfl⟩:=hr;exact ih _ _ _ _ _ _ hb _ hq
   .rename_i id' t1 h1 hb;split at hr
    .rename_i he;simp only[Option.some.injEq,Prod.mk.injEq]at hr;obtain⟨rfl,rfl,rfl⟩:=hr;refine ih _ _ _ _ _ _ hb _ ?_;simp only[xbk,he,if_true];exact hq
    rename_i he;simp only[Option.some.injEq,Prod.mk.injEq]at hr;obtain⟨rfl,rfl,rfl⟩:=hr;refine ih _ _ _ _ _ _ hb _ ?_;simp only[xbk,he];exact hq
   .rename_i t1 h1 hb;simp only[Option.some.injEq,Prod.mk.injEq]at hr;obtain⟨rfl,rfl,rfl⟩:=hr;exact ih _ _ _ _ _ _ hb _ hq
   cases hr
  .exact absurd ⟨_,rfl⟩ hl
  .rename_i id l;split at hr
   .rename_i hn;split at hr
    .rename_i t1 h1 hb;simp only[Option.some.injEq,Prod.mk.injEq]at hr;obtain⟨rfl,rfl,rfl⟩:=hr;exact preX_ok (l:=l) (ydb (lf:=lfT) hn (zig hT hK (fun _ _=>rfl) (fun _ _=>rfl) hb hq))
    cases hr
   cases hr
  .rename_i id l;split at hr
   .rename_i hn;simp only[qad]at hn;split at hr
    .rename_i t1 h1 hb;simp only[Option.some.injEq,Prod.mk.injEq]at hr;obtain⟨rfl,rfl,rfl⟩:=hr;exact xdy (l:=l) (yta (lf:=lf0) hm hn.1 hn.2 (zig hT hK (fun _ ho=>ho) (fun e=>by cases e) hb hq))
    cases hr
   split at hr
   .rename_i hd;split at hr
    .rename_i t1 h1 hb;simp only[Option.some.injEq,Prod.mk.injEq]at hr;obtain⟨rfl,rfl,rfl⟩:=hr;exact xdy (l:=l) (ybg (lf:=lf0) hm hd (zld hT hK _ _ _ _ _ _ hb hq))
    cases hr
   cases hr
  cases hr
end
end
section
open Go.RowKit
section
variable{P:Program}{T:Nat->Option Ty}{K:Calls0}
def xgb:Exit->Bool
 | .normal=>true
 | .ret=>true
 | _=>false
def xlz(P:Program)(T:Nat->Option Ty)(K:Calls0)(F:Nat)(f:FuncId)(args:List AV)(hs:HL):Option (AV × HL):=
 match P.funcs[f]? with
 | none=>none
 | some fn => match fn.name == "runtime.NumGoroutine" with
  | true=>none
  | false=>match fn.body with
   | none=>none
   | some c=>match Nat.ble args.length fn.ntmps && Nat.ble fn.ntmps 1000 with
    | false=>none
    | true=>match exC T K fn.ntmps fn.results.toList F c (yfj 0 args) hs with
     | none=>none
     | some (e,t1,h1)=>match xgb e with
      | false=>none
      | true=>match yrf T (S t1 h1) fn.results.toList with
       | none=>none
       | some x=>some (x,h1)
theorem xek{F:Nat}{h1:HL}{x:AV}(hr:xlz P T K F f args hs=some (x,h1)):
  ∃ fn c e t1, P.funcs[f]? = some fn ∧ (fn.name == "runtime.NumGoroutine") = false ∧ fn.body = some c ∧ (Nat.ble args.length fn.ntmps = true ∧ Nat.ble fn.ntmps 1000 = true) ∧ exC T K fn.ntmps fn.results.toList F c (yfj 0 args) hs = some (e, t1, h1) ∧ xgb e = true ∧ yrf T (S t1 h1) fn.results.toList = some x := by
 unfold xlz at hr;split at hr
 .cases hr
 rename_i fn hf;split at hr
 .cases hr
 rename_i hn;split at hr
 .cases hr
 rename_i c hb;split at hr
 .cases hr
 rename_i hl;split at hr
 .cases hr
 rename_i e t1 h2 hc;split at hr
 .cases hr
 rename_i he;split at hr
 .cases hr
 rename_i x' hx;simp only[Option.some.injEq,Prod.mk.injEq]at hr;obtain⟨rfl,rfl⟩:=hr;simp only[qad]at hl;exact⟨fn,c,e,t1,hf,hn,hb,hl,hc,he,hx⟩
def zug(P:Program)(T:Nat->Option Ty)(K:Calls0)(F:Nat)(f:FuncId)(args:List AV):Option AV:=
 match xlz P T K F f args []with
 | some (x,_)=>match yas x with
  | true=>some x
  | false=>none
 | none=>none
theorem pureRun_ok(hm:P.follows .mixedOrders=true)(hT:TOK P T)(hK:CallsOk P K){F:Nat}(hr:zug P T K F f args=some r):Con P f args r:=by
 unfold zug at hr;split at hr
 .rename_i x h1 hx;split at hr
  .rename_i hp;simp only[Option.some.injEq]at hr;subst hr;obtain⟨fn,c,e,t1,hf,hn,hb,hl,hc,he,hres⟩:=xek hx;have hl2:Nat.ble fn.ntmps 1000000=true:=by have:=hl.2;simp only[qdr]at this ⊢;omega
   refine ycx hT hf hn hb rfl (rs:=fn.results.toList) sm (by rw[hl.1,hl2];rfl) hp ?_;refine(zwl hm hT hK _ _ _ _ _ _ _ hc).1 _ ?_;cases e with
   | normal=>exact⟨_,hres,Frz.pure⟩
   | ret=>exact⟨_,hres,Frz.pure⟩
   | _=>simp[xgb]at he
  cases hr
 cases hr
def zts(P:Program)(T:Nat->Option Ty)(K:Calls0)(F:Nat)(f:FuncId)(args:List AV)(hs:HL):Option (AV × HL):=
 match xlz P T K F f args hs with
 | some (x,h1)=>
  let live:=xec h1 1000 (zpx x++xiu hs) []
  some (x,ylo (fun i o=>ykc i live && (!isC o || (Nat.ble 1000 i && (match yac hs i with
   | some o'=>isC o'
   | none=>false)))) [] h1)
 | none=>none
theorem yvr:∀ {l:HL} {i:Nat} {o:LObj},yac l i=some o->(i,some o)∈l
 | [],i,o,h=>by simp[yac]at h
 | (k,x)::l,i,o,h=>by
  simp only[yac]at h;cases hb:Nat.beq i k with
  | true=>rw[hb]at h;simp only at h;rw[qaf hb,h];exact qbe
  | false=>rw[hb]at h;exact qap _ (yvr h)
theorem lentRun_ok(hm:P.follows .mixedOrders=true)(hT:TOK P T)(hK:CallsOk P K){F:Nat}{hs':HL}(hr:zts P T K F f args hs=some (r,hs')):ytb P f args (yac hs) r (yac hs'):=by
 unfold zts at hr;split at hr
 .rename_i x h1 hx;simp only[Option.some.injEq,Prod.mk.injEq]at hr;obtain⟨rfl,rfl⟩:=hr;obtain⟨fn,c,e,t1,hf,hn,hb,hl,hc,he,hres⟩:=xek hx;have hl2:Nat.ble fn.ntmps 1000000=true:=by have:=hl.2;simp only[qdr]at this ⊢;omega
  refine zdh hT hf hn hb rfl (rs:=fn.results.toList) sm (by rw[hl.1,hl2];rfl) (fun id o ho hc'=>?_) ?_
  .obtain ⟨o',e',hp⟩:=yrv (yvr ho);cases e';rw[hc']at hp;simp only[qad,qck,Bool.not_true,qbj,false_or]at hp;obtain⟨_,h2,h3⟩:=hp;have h4:=hl.2;simp only[qdr]at h2 h4;refine⟨om,?_⟩;split at h3
   .rename_i o' ho';exact⟨o',ho',h3⟩
   cases h3
  show A P fn.ntmps c _ (S (yfj 0 args) hs);refine(zwl hm hT hK _ _ _ _ _ _ _ hc).1 _ ?_;cases e with
  | normal=>exact⟨_,hres,yhx _,fun id o ho=>(yqh (yvr ho)).2⟩
  | ret=>exact⟨_,hres,yhx _,fun id o ho=>(yqh (yvr ho)).2⟩
  | _=>simp[xgb]at he
 cases hr
def yqg(P:Program)(T:Nat->Option Ty)(F:Nat)(kn:FuncId->List AV->Option AV)(kl:Calls0->FuncId->List AV->HL->Option (AV × HL))(fz:FuncId->Bool):Nat->Calls0
 | 0=>⟨fun _ _=>none,fun _ _ _=>none,fz⟩
 | n+1=>⟨fun f xs=>match kn f xs with
   | some r=>some r
   | none=>zug P T (yqg P T F kn kl fz n) F f xs,fun f xs hs=>match kl (yqg P T F kn kl fz n) f xs hs with
   | some r=>some r
   | none=>zts P T (yqg P T F kn kl fz n) F f xs hs,fz⟩
theorem zht(hm:P.follows .mixedOrders=true)(hT:TOK P T){F:Nat}{kn:FuncId->List AV->Option AV}{kl:Calls0->FuncId->List AV->HL->Option (AV × HL)}{fz:FuncId->Bool}(hkn:∀ f xs r,kn f xs=some r->Con P f xs r)(hkl:∀ K,CallsOk P K->∀ f xs hs r hs',kl K f xs hs=some (r,hs')->ytb P f xs (yac hs) r (yac hs')):∀ n,CallsOk P (yqg P T F kn kl fz n)
 | 0=>⟨fun f xs r h=>by simp[yqg]at h,fun f xs hs r hs' h=>by simp[yqg]at h⟩
 | n+1=>by
  have ih:=zht hm hT hkn hkl (F:=F) (fz:=fz) n;refine⟨fun f xs r h=>?_,fun f xs hs r hs' h=>?_⟩ <;> simp only[yqg]at h <;> split at h
  .rename_i r' hk;simp only[Option.some.injEq]at h;subst h;exact hkn _ _ _ hk
  .exact pureRun_ok hm hT ih h
  .rename_i q hk;simp only[Option.some.injEq]at h;subst h;exact hkl _ ih _ _ _ _ _ hk
  exact lentRun_ok hm hT ih h
theorem con_run(hm:P.follows .mixedOrders=true)(hT:TOK P T){F:Nat}{kn:FuncId->List AV->Option AV}{kl:Calls0->FuncId->List AV->HL->Option (AV × HL)}{fz:FuncId->Bool}(hkn:∀ f xs r,kn f xs=some r->Con P f xs r)(hkl:∀ K,CallsOk P K->∀ f xs hs r hs',kl K f xs hs=some (r,hs')->ytb P f xs (yac hs) r (yac hs'))(n:Nat)(h:(yqg P T F kn kl fz n).pure f args=some r):Con P f args r:=(zht hm hT hkn hkl n).pure _ _ _ h
end
end
set_option maxRecDepth 100000
section
open Go.RowKit
theorem indexByte_slite(s:ByteArray)(c:Int)(w:World) :
  Calls prog 259 #[.string s,.int .u8 c] w fun e w'=>e=.returned (.int .i64 (Lib.indexByte s.data.toList c.toNat.toUInt8))/\w=w':=by
 go_enter Tryz.func259,ntmps259;go_wp2;rw[run_callFunc_extern Tryz.func275 kf kf kf (e:=Extern.BytealgIndexByte.indexByte) kf,Lib.run_indexByteString];simp only[Result.andThen];rw[Oper.upon_value];go_wp2;go_ret;exact⟨rfl,rfl⟩
theorem indexByte_any(s:ByteArray)(c:Int)(w:World) :
  Calls prog 231 #[.string s,.int .u8 c] w fun e w'=>e=.returned (.int .i64 (Lib.indexByte s.data.toList c.toNat.toUInt8))/\w=w':=by
 go_enter Tryz.func231,ntmps231;go_wp2_with (go_at_call 259;refine(indexByte_slite _ _ _).mono ?_;rintro e w' ⟨rfl,rfl⟩);go_ret;exact⟨rfl,rfl⟩
end
section
open Go.RowKit
theorem zsi{l:List Tm}(h:yit w v l):Rel (okW w) w lv (ybr l) v:=
 yrd (g:=fun t:Tm=>[.int .i64 t.1,.int .i64 t.2]) (fun _=>rfl) (fun x u hu=>by simp at hu;rcases hu with rfl|rfl <;> rfl) h
theorem vars_rel{l:List VarD}(h:yzr w v l):Rel (okW w) w lv (.sl 6 (l.map ybl)) v:=
 yrd (g:=ynd) (fun _=>rfl) (fun x u hu=>by simp[ynd]at hu;rcases hu with rfl|rfl|rfl|rfl|rfl|rfl <;> rfl) h
theorem prog_rel{p:ProgD}(h:zhm w v p):Rel (okW w) w lv (ygg p) v:=by
 obtain⟨vv,rv,rfl,h1,h2⟩:=h;have h3:ybn (okW w) w lv [ykp p.name,.sl 6 (p.vars.map ybl),.sl 3 (p.rules.map ybc)] [.string p.name,vv,rv]:=by
  refine ybt (.v _) (ybt (vars_rel h1) (ybt ?_ yie));refine yso h2 (fun _=>rfl) (fun x c hc=>by simp[ybc]at hc;rcases hc with rfl|rfl|rfl <;> rfl) fun x _ cs hc=>?_;obtain⟨gv,sv,rfl,q1,q2⟩:=hc;refine ybt (.v _) (ybt (zsi q1) (ybt ?_ yie));refine yso q2 (fun _=>rfl) (fun x c hc=>by simp[zid]at hc;rcases hc with rfl|rfl <;> rfl) fun x _ cs hc=>?_;obtain⟨tv,rfl,r1⟩:=hc;exact ybt (.v _) (ybt (zsi r1) yie)
 exact .agg _ h3.1 (fun c hc=>by simp at hc;rcases hc with rfl|rfl|rfl <;> rfl) h3.2
end
section
open Go.RowKit
theorem idx_con(s:ByteArray)(c:Int):Con prog 231 [.v (.string s),.v (.int .u8 c)] (i64 (Lib.indexByte s.data.toList c.toNat.toUInt8)):=
 ymp ⟨_,Tryz.func231,rfl,rfl⟩ fun w us ok hok hr=>by
  obtain⟨u,v,rfl,h1,h2⟩:=zfn hr;cases h1;cases h2;exact(indexByte_any s c w).mono fun e w' ⟨he,hw⟩=>⟨he,hw ▸ Below.refl _ _⟩
def knI(f:FuncId)(xs:List AV):Option AV:=
 match Nat.beq f 231 with
 | true=>match xs with
  | [.v (.string s),.v (.int .u8 c)]=>some (i64 (Lib.indexByte s.data.toList c.toNat.toUInt8))
  | _=>none
 | false=>none
theorem knI_ok(f:FuncId)(xs:List AV)(r:AV)(h:knI f xs=some r):Con prog f xs r:=by
 unfold knI at h;split at h
 .rename_i hf;split at h
  .simp only[Option.some.injEq]at h;subst h;rw[qaf hf];exact idx_con _ _
  cases h
 cases h
end
section
abbrev Bs:=List UInt8
def ba(l:Bs):ByteArray:=⟨l.toArray⟩
def bl(s:ByteArray):Bs:=s.data.toList
end
section
structure PW where
 w:Bs
 k:Nat
 v:Nat
def xnl:List Bs->Bs->Option Nat
 | [],_=>none
 | x::l,w=>if x=w then some 0 else(xnl l w).map (·+1)
def xfu(first:Int)(l:List Bs)(w:Bs):Int:=
 if w=[]then 0 else match xnl l w with
  | some i=>first+i
  | none=>0
def xmm:List Bs:=[[42],[47],[37],[43],[45],[61,61],[33,61],[60],[60,61],[62],[62,61],[38,38],[124,124]]
def aggL:List Bs:=[[97,108,108],[115,111,109,101],[99,111,117,110,116],[102,105,114,115,116],[109,105,110],[109,97,120],[115,117,109],[109,101,120],[115,101,99,111,110,100],[104,101,97,100]]
def xgr:List Bs:=[[116,114,117,101],[102,97,108,115,101],[110,111,110,101],[],[110],[105,100,115],[105,100],[100,101,103],[114,111,111,116]]
def xgv:List Bs:=[[105,100],[100,101,103],[114,111,111,116],[119,101,105,103,104,116],[98,97,99,107]]
def xiq(w:Bs):Int:=xfu 30 xmm w
def xmh(w:Bs):Int:=xfu 20 aggL w
def xcd(w:Bs):Int:=xfu 2 xgr w
def xci(w:Bs):Int:=xfu 13 xgv w
def xko(op:Int):Nat:=
 if op=43 then 0 else if op=42 then 1 else if op=41 then 2 else if 35<=op/\op<=40 then 3 else if op=33\/op=34 then 4 else if 30<=op/\op<=32 then 5 else if op=18\/op=19 then 6 else 7
def zpv:List PW->Bs
 | []=>[]
 | t::_=>t.w
inductive Res where
 | ok (e:List Tm) (rest:List PW)
 | bad (err:Int) (rest:List PW)
inductive NT where
 | choice
 | bin (l:Nat)
 | tail (l:Nat) (left:List Tm)
 | unary
 | prim
variable{nm:Bs->Bool}{names:List Bs}
end
section
abbrev dec (v:Nat):Bs:=Lib.decDigits v
end
section
variable{nm:Bs->Bool}{names:List Bs}
def pwS(w:Bs):PW:=⟨w,3,0⟩
def pwN(w:Bs):PW:=⟨w,1,0⟩
def pwV(n:Nat):PW:=⟨dec n,2,n⟩
inductive Wr (names:List Bs):Nat->Ex->Bs->List PW->Prop
 | down {l:Nat} {E:Ex} {x:Bs} {ws:List PW} (hl:l < 7) (h:Wr names (l+1) E x ws):Wr names l E x ws
 | paren {E:Ex} {x:Bs} {ws:List PW} (h:Wr names 0 E x ws):Wr names 7 E (40::(x++[41])) (pwS [40]::(ws++[pwS [41]]))
 | choice {a b c:Ex} {xa xb xc:Bs} {wa wb wc:List PW} (ha:Wr names 1 a xa wa) (hb:Wr names 0 b xb wb) (hc:Wr names 0 c xc wc):Wr names 0 (.tr (43,0) a b c) (xa++(32::63::32::(xb++(32::58::32::xc)))) (wa++(pwS [63]::(wb++(pwS [58]::wc))))
 | bin {op:Int} {l:Nat} {w:Bs} {a b:Ex} {xa xb:Bs} {wa wb:List PW} (h0:xiq w=op) (hw:w∈xmm) (hl:xko op=l) (h3:l≠3) (ha:Wr names l a xa wa) (hb:Wr names (l+1) b xb wb):Wr names l (.bi (op,0) a b) (xa++(32::(w++(32::xb)))) (wa++(pwS w::wb))
 | cmp {op:Int} {w:Bs} {a b:Ex} {xa xb:Bs} {wa wb:List PW} (h0:xiq w=op) (hw:w∈xmm) (hl:xko op=3) (ha:Wr names 4 a xa wa) (hb:Wr names 4 b xb wb):Wr names 3 (.bi (op,0) a b) (xa++(32::(w++(32::xb)))) (wa++(pwS w::wb))
 | neg {a:Ex} {xa:Bs} {wa:List PW} (ha:Wr names 6 a xa wa):Wr names 6 (.un (18,0) a) (45::xa) (pwS [45]::wa)
 | not {a:Ex} {xa:Bs} {wa:List PW} (ha:Wr names 6 a xa wa):Wr names 6 (.un (19,0) a) (33::xa) (pwS [33]::wa)
 | agg {op:Int} {w:Bs} {a:Ex} {xa:Bs} {wa:List PW} (h0:xmh w=op) (hw:w∈aggL) (ha:Wr names 0 a xa wa):Wr names 7 (.un (op,0) a) (w++(40::(xa++[41]))) (pwN w::pwS [40]::(wa++[pwS [41]]))
 | num {n:Nat} (hn:n<=1073741824):Wr names 7 (.lf (1,n)) (dec n) [pwV n]
 | own {i:Nat} {w:Bs} (h:names[i]?=some w):Wr names 7 (.lf (5,i)) w [pwN w]
 | near {i:Nat} {w:Bs} (h:names[i]?=some w):Wr names 7 (.lf (12,i)) (113::46::w) [pwN [113],pwS [46],pwN w]
 | here:Wr names 7 (.lf (11,0)) [113] [pwN [113]]
 | const {op:Int} {w:Bs} (h0:xcd w=op) (hw:w∈xgr) (hne:w≠[]):Wr names 7 (.lf (op,0)) w [pwN w]
 | field {op:Int} {w:Bs} (h0:xci w=op) (hw:w∈xgv):Wr names 7 (.lf (op,0)) (113::46::w) [pwN [113],pwS [46],pwN w]
structure NmOk (nm:Bs->Bool) (names:List Bs):Prop where
 good:∀ w∈names,nm w=true
 nodup:names.Nodup
 res:∀ w,nm w=true->xcd w=0/\xmh w=0/\xci w=0/\w≠[113]/\w≠[40]/\w≠[45]/\w≠[33]
def Fol(l:Nat)(r:List PW):Prop:=(l=0->zpv r≠[63])/\zpv r≠[46]/\(xiq (zpv r)=0\/xko (xiq (zpv r)) < l)
def FolW(l:Nat)(r:List PW):Prop:=zpv r≠[46]/\(xiq (zpv r)=0\/xko (xiq (zpv r)) < l\/(xko (xiq (zpv r))=l/\l≠3))
theorem Fol.weak{l:Nat}{r:List PW}(h:Fol l r):FolW l r:=⟨h.2.1,h.2.2.imp id .inl⟩
end
section
open Go.RowKit
theorem skip_drop(r:List UInt8):∀ b:Bool,r.drop (ypw b r)≠[]->ypw false (r.drop (ypw b r))=0:=by
 induction r with
 | nil=>intro b h;simp at h
 | cons c r ih=>
  intro b h;cases b
  .simp only[ypw]at *;split at h
   .rename_i hc;rw[if_pos hc,qda,qdp]at *;exact ih false h
   rename_i hc;rw[if_neg hc];split at h
   .rename_i h35;rw[if_pos h35,qda,qdp]at *;exact ih true h
   rename_i h35;rw[if_neg h35,qfi];simp[ypw,hc,h35]
  simp only[ypw]at *;split at h
  .rename_i hc;rw[if_pos hc,qda,qdp]at *;exact ih false h
  rename_i hc;rw[if_neg hc,qda,qdp]at *;exact ih true h
def xgi(s:ByteArray):Nat->List Tok->Prop
 | p,[]=>p<=s.size/\zjt s false p=s.size
 | p,t::ts=>p<=s.size/\t.from_=zjt s false p/\t.from_ < s.size/\xmz (ybf s t.from_)=.ok (t.kind,t.to - t.from_,t.num)/\t.from_ < t.to/\t.to<=s.size/\xgi s t.to ts
theorem xgi.tail{p:Nat}{t:Tok}{ts:List Tok}(h:xgi s p (t::ts)):xgi s t.to ts:=h.2.2.2.2.2.2
theorem xgi.len:∀ {ts:List Tok} {p:Nat},xgi s p ts->ts.length+p<=s.size:=by
 intro ts;induction ts with
 | nil=>intro p h;have:=h.1;simp;omega
 | cons t ts ih=>
  intro p h;have h1:=ih h.tail;obtain⟨h2,h3,h4,_,h5,h6,_⟩:=h;have:=(skipTo_bd s false p h2).1;simp;omega
theorem xgi.mem:∀ {ts:List Tok} {p:Nat},xgi s p ts->∀ t∈ts,t.from_ < s.size/\xmz (ybf s t.from_)=.ok (t.kind,t.to - t.from_,t.num)/\t.from_ < t.to/\t.to<=s.size/\ypw false (ybf s t.from_)=0:=by
 intro ts;induction ts with
 | nil=>intro p _ t ht;cases ht
 | cons u ts ih=>
  intro p h t ht;cases ht with
  | head=>
   obtain⟨h2,h3,h4,h7,h5,h6,_⟩:=h;refine⟨h4,h7,h5,h6,?_⟩;rw[h3,<- zpd];refine skip_drop _ false ?_;rw[zpd,<- h3];intro h8;rw[bytesFrom_nil_iff]at h8;omega
  | tail _ ht=>exact ih h.tail t ht
end
section
open Go.RowKit
variable{nm:Bs->Bool}{names:List Bs}
inductive Scans:Bs->List PW->Prop
 | nil {l:Bs} (h:l.drop (ypw false l)=[]):Scans l []
 | cons {l y r:Bs} {k v:Nat} {ws:List PW} (h:l.drop (ypw false l)=y++r) (hy:y≠[]) (ht:xmz (y++r)=.ok (k,y.length,v)) (hr:Scans r ws):Scans l (⟨y,k,v⟩::ws)
def WordOk(w:Bs):Prop:=w.length<=24/\(∀ c∈w,ypx c=true)/\∃ c x,w=c::x/\ykk c=true
end
section
open Go.RowKit
namespace Ex
def op:Ex->Int
 | lf t=>t.1
 | un t _=>t.1
 | bi t _ _=>t.1
 | tr t _ _ _=>t.1
end Ex
variable{names:List Bs}
end
section
variable{nm:Bs->Bool}{names:List Bs}
def Like(r r':List PW):Prop:=r'.head?=r.head?\/r'=[]
def EndR(y:Option Res):Prop:=y=none\/(∃ x,y=some (.ok x []))\/y=some (.bad 4 [])
def Res.rest:Res->List PW
 | .ok _ r=>r
 | .bad _ r=>r
def Cut(F:List PW->Option Res)(ts:List PW):Res->Prop
 | .ok e r=>∀ p,ts=p++r->∀ r',Like r r'->F (p++r')=some (.ok e r')
 | .bad c r=>r≠[]->∀ p,ts=p++r->(∀ r',r'.head?=r.head?->F (p++r')=some (.bad c r'))/\EndR (F p)
def xne(F:List PW->Option Res):Prop:=∀ ts res,F ts=some res->res.rest <:+ ts/\Cut F ts res
inductive Looks (F:List PW->Option Res) (t:PW):Prop
 | takes (A:List PW->Option Res) (hA:xne A) (h:∀ r,F (t::r)=A r):Looks F t
 | fails (c:Int) (h:∀ r,F (t::r)=some (.bad c (t::r))):Looks F t
 | leaves (B:List PW->Option Res) (hB:xne B) (h0:F []=B []) (h:∀ r,F (t::r)=B (t::r)):Looks F t
end
section
open Go.RowKit
variable{nm:Bs->Bool}{names:List Bs}
def xit(nm:Bs->Bool)(names:List Bs):Bool:=decide (names.length<=6) && (names.all nm && decide names.Nodup)
structure NmW (nm:Bs->Bool):Prop where
 word:∀ w,nm w=true->WordOk w
 res:∀ w,nm w=true->xcd w=0/\xmh w=0/\xci w=0/\w≠[113]/\w≠[40]/\w≠[45]/\w≠[33]
theorem zir(h:xit nm names=true):names.length<=6/\(∀ w∈names,nm w=true)/\names.Nodup:=by
 simp only[xit,qad,decide_eq_true_eq,List.all_eq_true]at h;exact h
theorem NmW.ok(hN:NmW nm)(h:xit nm names=true):NmOk nm names:=⟨(zir h).2.1,(zir h).2.2,hN.res⟩
end
set_option maxHeartbeats 4000000
section
open Go.RowKit
theorem xcm{d id:Nat}{xs:List AV}{h:List (Nat × Option LObj)}(h1:Nat.beq d id=false)(h2:ment.mentL d xs=false)(hf:ybs d h=true):ybs d ((id,some (.cells xs))::h)=true:=by
 simp[ybs,h1,hf,yew,h2]
theorem pureA_only:∀ {x:AV},yas x=true->yex ids x=true
 | .v _,_=>rfl
 | .any,_=>rfl
 | .one,_=>rfl
 | .sl _ _,_=>rfl
 | .dp _ _,_=>rfl
 | .mv _,_=>rfl
 | .agg cs,h=>rows (cs:=cs) h
 | .tup cs,h=>rows (cs:=cs) h
 | .fn _ cs,h=>rows (cs:=cs) h
 | .fm _ cs,h=>rows (cs:=cs) h
 where rows:∀ {cs:List AV},yas.pureL cs=true->yex.onlyL ids cs=true
 | [],_=>rfl
 | c::cs,h=>by
  simp only[yas.pureL,qad]at h;simp only[yex.onlyL,pureA_only h.1,rows h.2,Bool.and_self]
section
variable{s:ByteArray}{ts ts':List Tok}{names:List Bs}{us:List Value}
variable{P:Program}{N:Nat}{ops:Array Oper}{lf:Oper->Bool}{Q:SS->Prop}{t:List (Nat × AV)}{h:List (Nat × Option LObj)}{rest:List Oper}{d:Nat}{ty:TypeId}{pos:String}{af:Array Edge}{gd:Option (Nat × Bool)}
end
section
variable{s:ByteArray}{ts:List Tok}{names:List Bs}{us:List Value}
end
end
section
open Go.RowKit
theorem recovered_nil:Con prog 132 [.v .nilIface] (.tup [.agg [i64 0,i64 0],yau false]):=by
 refine ycx tok Tryz.func132 rfl rfl ntmps132 Tryz.results132 rfl rfl ?_
 (repeat (first|refine zy ?_|refine ycm (yield_eqNilYes kf rfl rfl) rfl rfl ?_))
 exact zp
def xkc(p e:Int):List (Nat × Option LObj):=[(1002,some (.cells [i64 p])),(1003,some (.cells [i64 e]))]
theorem cat_cl{p e p' e':Int}:∀ id o,yac (xkc p' e') id=some o->isC o=true->14<=id/\∃ o',yac (xkc p e) id=some o'/\isC o'=true:=by
 intro id o ho hc;simp only[xkc,yac]at ho ⊢;cases h1:Nat.beq id 1002 with
 | true=>have:=qaf h1;exact⟨om,_,rfl,rfl⟩
 | false=>
  simp only[h1]at ho;cases h2:Nat.beq id 1003 with
  | true=>have:=qaf h2;exact⟨om,_,rfl,rfl⟩
  | false=>simp only[h2]at ho;cases ho
theorem yzx(p e:Int):xjt (KD prog 131 .returning .returning) [.lp 1002 0,.lp 1003 0] (yac (xkc p e)) (.tup []) (yac (xkc p e)):=by
 refine conKD_recover (lf:=lfT) tok Tryz.func131 rfl ntmps131 Tryz.results131 rfl cat_cl rfl rfl rfl dc rfl .idle ?_;show Lex _ _ _ _ _ _ (S _ _)
 (repeat (first|refine zy ?_|refine zc recovered_nil ?_))
 exact⟨_,rfl,yhx _,yah (yab rfl (yab rfl yag))⟩
section
variable{g:FuncId}{caps:List AV}{hs hs':List (Nat × Option LObj)}
structure CatMem (g:FuncId) (caps:List AV) (hs hs':List (Nat × Option LObj)):Prop where
 keys:∀ i∈ycl (hs++hs'),1000<=i
 caps:∀ i,i < 1000->ment.mentL i caps=false
 fresh:∀ i,i < 1000->ybs i hs=true
 fresh2:∀ i,i < 1000->ybs i hs'=true
 only:∀ id o,yac hs' id=some o->yoz (ycl (hs++hs')) o=true
theorem zok{p e:Int}(h:∀ i∈ycl hs,1000<=i):Ahead [(3,some (.cells [i64 e])),(2,some (.cells [i64 p]))] hs:=by
 refine⟨fun i hi hm=>?_,fun j ob hj i hi=>?_⟩
 .have:=h i hi;simp[ycl]at hm;omega
 have:ob=.cells [i64 e]\/ob=.cells [i64 p]:=by
  simp only[yac]at hj;split at hj
  .cases hj;exact .inl rfl
  split at hj
  .cases hj;exact .inr rfl
  cases hj
 rcases this with rfl|rfl <;> rfl
theorem xgq{i:Nat}(h:i∈ycz [(1002,2),(1003,3)]):i < 1000:=by simp[ycz]at h;omega
theorem catch_ok(hc:ytb prog g caps (yac hs) (.tup []) (yac hs'))(hm:CatMem g caps hs hs'):ytb prog 73 [.fn g caps] (yac hs) (.tup [i64 0,i64 0]) (yac hs'):=by
 refine zwd tok Tryz.func73 rfl rfl ntmps73 Tryz.results73 rfl (fun id o ho hi=>⟨?_,hc.2.1 id o ho hi⟩) ?_
 .have:=hm.keys id (by simp only[ycl,qbz,qat];exact .inr (yez (by rw[ho];rfl)));omega
 show AF _ _ _ _ (S _ _);have f1:ydl 2 (yfj 0 [AV.fn g caps])=true:=by
  show ydl 2 [(0,.fn g caps)]=true;simp[ydl,ment,hm.caps 2 om]
 have f2:ydl 3 ((2,.lp 2 0)::yfj 0 [AV.fn g caps])=true:=by
  show ydl 3 [(2,.lp 2 0),(0,.fn g caps)]=true;simp[ydl,ment,hm.caps 3 om]
 refine zuy (xbc ?_);refine ydb (lf:=lfT) rfl ?_;refine zA (h1:=f1) (h2:=hm.fresh 2 om) ?_;refine zA (h1:=f2) (h2:=xcm rfl rfl (hm.fresh 3 om)) ?_;refine zny ?_;show AF _ _ _ _ (S _ _);refine zuy ?_;refine ypz (lf:=lfT) 1 rfl rfl rfl rfl rfl rfl (fun d h=>by cases h) ?_;refine zF ?_;refine zny ⟨rfl,_,_,_,⟨_,Tryz.func131,rfl,rfl⟩,rfl,rfl,fun x hx=>?_,?_⟩
 .have:∀ y,yak ((4,.fn 131 [.lp 2 0,.lp 3 0])::(3,.lp 3 0)::(2,.lp 2 0)::yfj 0 [AV.fn g caps]) x≠some y:=fun y hy=>by
   simp only[yak,yfj]at hy
   (repeat' split at hy)
   all_goals first|(rename_i hb;have:=qaf hb;omega)|cases hy
  cases hq:yak ((4,.fn 131 [.lp 2 0,.lp 3 0])::(3,.lp 3 0)::(2,.lp 2 0)::yfj 0 [AV.fn g caps]) x with
  | none=>exact hq
  | some y=>exact absurd hq (this y)
 show Lex _ _ _ _ _ [] _;refine .nil ?_;show A _ _ _ _ _;refine ypf (s':=S [(0,.fn g caps),(2,.lp 2 0),(3,.lp 3 0),(1000000,.lp 2 0),(1000001,.lp 3 0)] _) ?_ ⟨zfz ⟨rfl,rfl,rfl,rfl,rfl,trivial⟩,fun id x h=>h⟩;have hk0:=hm.keys;have hbig:∀ i,i < 1000->∀ j∈ycl (hs++hs'),Nat.beq i j=false:=fun i hi j hj=>ycp (by have:=hk0 j hj;omega);refine ysv ?_;refine ydb (lf:=lfT) rfl ?_;refine zC ?_;refine L_callI (pre:=[_,_]) (xs:=[]) (t':=[(2,.lp 2 0),(3,.lp 3 0),(1000000,.lp 2 0),(1000001,.lp 3 0)]) hc rfl rfl rfl (zok hk0) hm.only (fun x y hy=>⟨ycd zs x y hy,fun i hi=>?_⟩) rfl rfl rfl ?_
 .simp only[yak]at hy
  (repeat' split at hy)
  all_goals first|(cases hy;exact hbig _ om i hi)|cases hy
 refine zY ?_;refine yqa ?_;refine zie (h':=hs') (args0:=[.lp 1002 0,.lp 1003 0]) [(1002,2),(1003,3)] rfl rfl rfl ⟨rfl,rfl,trivial⟩ (yzx 0 0) rfl rfl rfl rfl (yab rfl (yab rfl yag)) rfl (fun j ob hj hob=>⟨fun i hi=>(yer (hm.fresh2 i (xgq hi))).2 j ob hob,ob,?_,.inl rfl⟩) rfl (yhx _) (fun id o ho=>?_)
 .refine (yjz (f:=[(3,_),(2,_),(3,_),(2,_)]) ?_).trans hob;simp[ycl,ycz]at hj ⊢;omega
 refine(yjz (f:=yqf _ _ _) ?_).trans ho;have:=hk0 id (by simp only[ycl,qbz,qat];exact .inr (yez (by rw[ho];rfl)));simp[ycl,yqf];omega
theorem catchm_ok(hc:ytb prog g caps (yac hs) (.tup []) (yac hs'))(hm:CatMem g caps hs hs'):ytb prog 73 [.fm g caps] (yac hs) (.tup [i64 0,i64 0]) (yac hs'):=by
 refine zwd tok Tryz.func73 rfl rfl ntmps73 Tryz.results73 rfl (fun id o ho hi=>⟨?_,hc.2.1 id o ho hi⟩) ?_
 .have:=hm.keys id (by simp only[ycl,qbz,qat];exact .inr (yez (by rw[ho];rfl)));omega
 show AF _ _ _ _ (S _ _);have f1:ydl 2 (yfj 0 [AV.fm g caps])=true:=by
  show ydl 2 [(0,.fm g caps)]=true;simp[ydl,ment,hm.caps 2 om]
 have f2:ydl 3 ((2,.lp 2 0)::yfj 0 [AV.fm g caps])=true:=by
  show ydl 3 [(2,.lp 2 0),(0,.fm g caps)]=true;simp[ydl,ment,hm.caps 3 om]
 refine zuy (xbc ?_);refine ydb (lf:=lfT) rfl ?_;refine zA (h1:=f1) (h2:=hm.fresh 2 om) ?_;refine zA (h1:=f2) (h2:=xcm rfl rfl (hm.fresh 3 om)) ?_;refine zny ?_;show AF _ _ _ _ (S _ _);refine zuy ?_;refine ypz (lf:=lfT) 1 rfl rfl rfl rfl rfl rfl (fun d h=>by cases h) ?_;refine zF ?_;refine zny ⟨rfl,_,_,_,⟨_,Tryz.func131,rfl,rfl⟩,rfl,rfl,fun x hx=>?_,?_⟩
 .have:∀ y,yak ((4,.fn 131 [.lp 2 0,.lp 3 0])::(3,.lp 3 0)::(2,.lp 2 0)::yfj 0 [AV.fm g caps]) x≠some y:=fun y hy=>by
   simp only[yak,yfj]at hy
   (repeat' split at hy)
   all_goals first|(rename_i hb;have:=qaf hb;omega)|cases hy
  cases hq:yak ((4,.fn 131 [.lp 2 0,.lp 3 0])::(3,.lp 3 0)::(2,.lp 2 0)::yfj 0 [AV.fm g caps]) x with
  | none=>exact hq
  | some y=>exact absurd hq (this y)
 show Lex _ _ _ _ _ [] _;refine .nil ?_;show A _ _ _ _ _;refine ypf (s':=S [(0,.fm g caps),(2,.lp 2 0),(3,.lp 3 0),(1000000,.lp 2 0),(1000001,.lp 3 0)] _) ?_ ⟨zfz ⟨rfl,rfl,rfl,rfl,rfl,trivial⟩,fun id x h=>h⟩;have hk0:=hm.keys;have hbig:∀ i,i < 1000->∀ j∈ycl (hs++hs'),Nat.beq i j=false:=fun i hi j hj=>ycp (by have:=hk0 j hj;omega);refine ysv ?_;refine ydb (lf:=lfT) rfl ?_;refine zC ?_;refine L_callIm (pre:=[_,_]) (t':=[(2,.lp 2 0),(3,.lp 3 0),(1000000,.lp 2 0),(1000001,.lp 3 0)]) hc rfl rfl (zok hk0) hm.only (fun x y hy=>⟨ycd zs x y hy,fun i hi=>?_⟩) rfl rfl rfl ?_
 .simp only[yak]at hy
  (repeat' split at hy)
  all_goals first|(cases hy;exact hbig _ om i hi)|cases hy
 refine zY ?_;refine yqa ?_;refine zie (h':=hs') (args0:=[.lp 1002 0,.lp 1003 0]) [(1002,2),(1003,3)] rfl rfl rfl ⟨rfl,rfl,trivial⟩ (yzx 0 0) rfl rfl rfl rfl (yab rfl (yab rfl yag)) rfl (fun j ob hj hob=>⟨fun i hi=>(yer (hm.fresh2 i (xgq hi))).2 j ob hob,ob,?_,.inl rfl⟩) rfl (yhx _) (fun id o ho=>?_)
 .refine (yjz (f:=[(3,_),(2,_),(3,_),(2,_)]) ?_).trans hob;simp[ycl,ycz]at hj ⊢;omega
 refine(yjz (f:=yqf _ _ _) ?_).trans ho;have:=hk0 id (by simp only[ycl,qbz,qat];exact .inr (yez (by rw[ho];rfl)));simp[ycl,yqf];omega
end
end
section
open Go.RowKit
theorem zmd:∀ (x:AV),ment i x=true->i∈zpx x
 | .v _,h=>by simp[ment]at h
 | .any,h=>by simp[ment]at h
 | .one,h=>by simp[ment]at h
 | .sl _ _,h=>by simp[ment]at h
 | .dp _ _,h=>by simp[ment]at h
 | .mv _,h=>by simp[ment]at h
 | .lp j o,h=>by simp only[zpx,qau];exact(qaf h).symm
 | .ls j _ _,h=>by simp only[zpx,qau];exact(qaf h).symm
 | .mp j,h=>by simp only[zpx,qau];exact(qaf h).symm
 | .agg cs,h=>by simpa[zpx]using rows cs (by simpa[ment]using h)
 | .tup cs,h=>by simpa[zpx]using rows cs (by simpa[ment]using h)
 | .fn _ cs,h=>by simpa[zpx]using rows cs (by simpa[ment]using h)
 | .fm _ cs,h=>by simpa[zpx]using rows cs (by simpa[ment]using h)
 where rows:∀ (cs:List AV),ment.mentL i cs=true->i∈zpx.idsL cs
 | [],h=>by simp[ment.mentL]at h
 | c::cs,h=>by
  simp only[ment.mentL,qck]at h;simp only[zpx.idsL,qat];exact h.imp (zmd c) (rows cs)
def xml(l:List Nat):Bool:=l.all fun i=>Nat.ble 1000 i
def xip:HL->Bool
 | []=>true
 | (i,o)::l=>Nat.ble 1000 i && ((match o with
  | some o=>xml (xlx o)
  | none=>true) && xip l)
theorem zvw{l:List Nat}(h:xml l=true)(hi:i < 1000):i ∉ l:=fun hm=>by
 have:=List.all_eq_true.1 h i hm;simp only[qdr]at this;omega
theorem mentO_ids{o:LObj}(h:yew i o=true):i∈xlx o:=by
 cases o <;> simp only[yew,xlx]at h ⊢ <;> first|exact zmd.rows _ h|cases h
theorem yyb(hi:i < 1000):∀ {l:HL},xip l=true->ybs i l=true
 | [],_=>rfl
 | (k,o)::l,h=>by
  simp only[xip,qad,qdr]at h;have ih:=yyb hi h.2.2;have hk:Nat.beq i k=false:=ycp om;simp only[ybs,hk];cases o with
  | none=>exact ih
  | some o=>
   cases hm:yew i o with
   | true=>exact absurd (mentO_ids hm) (zvw h.2.1 hi)
   | false=>simp only[hm];exact ih
def zyb(ks:List Nat):HL->Bool
 | []=>true
 | (_,o)::l=>(match o with
  | some o=>yoz ks o
  | none=>true) && zyb ks l
theorem zqx{ks:List Nat}:∀ {l:HL},zyb ks l=true->∀ id o,yac l id=some o->yoz ks o=true
 | [],_,id,o,h=>by simp[yac]at h
 | (k,x)::l,hb,id,o,h=>by
  simp only[zyb,qad]at hb;simp only[yac]at h;cases he:Nat.beq id k with
  | true=>rw[he]at h;simp only at h;subst h;exact hb.1
  | false=>rw[he]at h;exact zqx hb.2 id o h
def xlq(caps:List AV)(hs hs':HL):Bool:=xip hs && (xip hs' && (xml (zpx.idsL caps) && zyb (ycl (hs++hs')) hs'))
theorem xby{g:FuncId}{caps:List AV}{hs':HL}(h:xlq caps hs hs'=true):CatMem g caps hs hs':=by
 simp only[xlq,qad]at h;obtain⟨h1,h2,h3,h4⟩:=h;have key:∀ {l:HL},xip l=true->∀ i∈ycl l,1000<=i:=by
  intro l;induction l with
  | nil=>intro _ i hi;simp[ycl]at hi
  | cons a l ih=>
   obtain⟨k,o⟩:=a;intro hb i hi;simp only[xip,qad,qdr]at hb;simp only[ycl,qce,qaq]at hi;rcases hi with rfl|hi
   .exact hb.1
   exact ih hb.2.2 i hi
 refine⟨fun i hi=>?_,fun i hi=>?_,fun i hi=>yyb hi h1,fun i hi=>yyb hi h2,zqx h4⟩
 .rw [ycl,qbz,qat]at hi;exact hi.elim (key h1 i) (key h2 i)
 cases hm:ment.mentL i caps with
 | false=>rfl
 | true=>exact absurd (zmd.rows _ hm) (zvw h3 hi)
def klC(K:Calls0)(f:FuncId)(xs:List AV)(hs:HL):Option (AV × HL):=
 match Nat.beq f 73 with
 | true=>match xs with
  | [.fn g caps]=>match K.lent g caps hs with
   | some (.tup [],hs')=>match xlq caps hs hs' with
    | true=>some (.tup [i64 0,i64 0],hs')
    | false=>none
   | _=>none
  | [.fm g caps]=>match K.lent g caps hs with
   | some (.tup [],hs')=>match xlq caps hs hs' with
    | true=>some (.tup [i64 0,i64 0],hs')
    | false=>none
   | _=>none
  | _=>none
 | false=>none
theorem klC_ok(K:Calls0)(hK:CallsOk prog K)(f:FuncId)(xs:List AV)(hs:HL)(r:AV)(hs':HL)(h:klC K f xs hs=some (r,hs')):ytb prog f xs (yac hs) r (yac hs'):=by
 unfold klC at h;split at h
 .rename_i hf;rw[qaf hf];split at h
  .split at h
   .rename_i q hc;split at h
    .rename_i hb;simp only[Option.some.injEq,Prod.mk.injEq]at h;obtain⟨rfl,rfl⟩:=h;exact catch_ok (hK.lent _ _ _ _ _ hc) (xby hb)
    cases h
   cases h
  .split at h
   .rename_i q hc;split at h
    .rename_i hb;simp only[Option.some.injEq,Prod.mk.injEq]at h;obtain⟨rfl,rfl⟩:=h;exact catchm_ok (hK.lent _ _ _ _ _ hc) (xby hb)
    cases h
   cases h
  cases h
 cases h
end
section
open Go.RowKit
theorem getN'{α:Type}{l:List α}{k:Nat}(h:k < l.length):∃ x,l[k]?=some x:=⟨_,qae h⟩
theorem A_matVec{P:Program}{N:Nat}{Q:Exit->SS->Prop}{t:List (Nat × AV)}{h:List (Nat × Option LObj)}(id:Nat){xs:List AV}(hx:yac h id=some (.mcells xs))(hp:∀ y∈xs,yas y=true)(k:A P N c Q (S t ((id,some (.vec xs))::h))):A P N c Q (S t h):=by
 intro B ok0 lv a w hs;refine k B ok0 lv a w ⟨⟨hs.inv.base,hs.inv.ok0lt,fun j hj=>?_,hs.inv.inj,fun j x hj=>?_⟩,hs.size,hs.frame,hs.defers,hs.big,fun j b ws hN hj hc hb=>?_⟩
 .refine hs.inv.dom j ?_;simp only[S,yac]at hj ⊢;split at hj
  .cases hj
  exact hj
 .simp only[S,yac]at hj;split at hj
  .rename_i hb;cases hj;have e:=qaf hb;subst e;obtain⟨b,n,h1,h2⟩:=hs.inv.obj j _ hx;refine⟨b,n,h1,?_⟩;cases b with
   | none=>simp[yge]at h2
   | some b=>exact⟨h2.1,h2.2.1,h2.2.2,hp⟩
  exact hs.inv.obj j x hj
 simp only[S,yac]at hj;split at hj
 .cases hj;cases hc
 exact hs.pin j b ws hN hj hc hb
theorem leaf_own(op a:Int):ytb prog 264 [i64 op,i64 a] (yac []) (.ls 1002 2 1) (yac [(1002,some (.vec [i64 op,i64 a]))]):=by
 refine zdh tok Tryz.func264 rfl rfl ntmps264 Tryz.results264 rfl (fun id o ho hc=>?_) ?_
 .simp only[yac]at ho;cases h1:Nat.beq id 1002 with
  | true=>simp only[h1,Option.some.injEq]at ho;subst ho;cases hc
  | false=>simp only[h1]at ho;cases ho
 show A _ _ _ _ (S _ _);refine zt ?_;refine ydb (lf:=lfT) rfl ?_;refine zO ?_;refine zt ?_;refine ydb (lf:=lfT) rfl ?_
 (repeat (first|refine zC ?_|refine zU ?_))
 refine zko tok 1002 rfl rfl rfl rfl rfl rfl ⟨rfl,fun x y h=>?_,fun j ob h=>by cases h⟩ rfl rfl rfl rfl ?_
 .exact (yov (id:=1002) rfl) x y h
 refine zO ?_;refine zt ?_;refine A_matVec 1002 rfl (by intro y hy;simp[yhw,ykx]at hy;rcases hy with rfl|rfl <;> rfl) ?_;refine yqa ?_;exact⟨_,rfl,yhx _,yah (yab rfl yag)⟩
theorem terms_flat(l:List Tm):(l.map yii).flatten.length=l.length * 2:=by
 induction l with
 | nil=>rfl
 | cons t l ih=>simp only[qce,qcc,qan,ih,qaj,yii,qew];omega
theorem zjz(l:List Tm):∀ c∈(l.map yii).flatten,yas c=true:=by
 intro c hc;simp only[qdk,qag]at hc;obtain⟨r,⟨t,_,rfl⟩,hc⟩:=hc;simp only[yii,qaq,qeb,or_false]at hc;rcases hc with rfl|rfl <;> rfl
def zkz(es:List (List Tm)):AV:=.sl 1 (es.map fun e=>[ybr e])
theorem operation_con(op:Int)(es:List (List Tm))(hl:es.length<=10)(h1:es.flatten.length<=1000000):Con prog 235 [i64 op,zkz es] (ybr ((op,0)::es.flatten)):=by
 refine ze Tryz.func235 ntmps235 Tryz.results235 ?_;refine zt ?_;refine ydb (lf:=lfT) rfl ?_;refine zO ?_;refine zt ?_;refine ydb (lf:=lfT) rfl ?_;refine zO ?_;refine yxu [(1002,9)] (leaf_own op 0) rfl rfl rfl rfl rfl rfl rfl (yag) rfl rfl rfl rfl rfl rfl ?_;refine zO ?_;refine zY ?_;refine ybj (α:=Nat) (fun k=>[(5,.ls 9 2 (1+(es.take k).flatten.length)),(12,i64 (k:Int)),(11,i64 (es.length:Int)),(10,zkz es)]) (fun k=>[(9,some (.vec ((((op,0)::(es.take k).flatten).map yii).flatten)))]) (fun k=>es.length - k) (fun k=>k<=es.length) 0 om zs (yab rfl yag) ?_;intro k hk;refine zY ?_;refine zj ?_ ?_ <;> intro h2
 .have h2:k < es.length:=by simpa using h2
  obtain⟨e,he⟩:=getN' h2;have hfl:(es.take (k+1)).flatten=(es.take k).flatten++e:=by
   rw[qfn,he];simp
  have hle:(es.take (k+1)).flatten.length<=es.flatten.length:=by
   conv=>rhs;rw[<- qcd (k+1) es,qdq,qan]
   omega
  rw[hfl,qan]at hle;refine zY ?_;refine znw tok (id:=9) (t':=[(12,i64 (k:Int)),(11,i64 (es.length:Int)),(10,zkz es)]) rfl rfl (by rw[terms_flat];simp;omega) rfl (zjz e) (by rw[qai];constructor <;> omega) (by(repeat (first|exact yxc|refine yss rfl rfl ?_))) rfl rfl rfl rfl ?_;refine zY ?_;have e1:1+(es.take k).flatten.length+(e.map yii).length=1+(es.take (k+1)).flatten.length:=by rw[hfl,qan,qai];omega
  have e2:(((op,0)::(es.take k).flatten).map yii).flatten++(e.map yii).flatten=(((op,0)::(es.take (k+1)).flatten).map yii).flatten:=by rw[hfl];simp
  rw[e1,e2];exact rnd (k+1) om om zs (yab rfl yag)
 have h2:es.length<=k:=by simpa using h2
 rw[qal h2];refine zk ?_;refine Frz.ls rfl (by rw[qai,qaj];omega) (fun row hr=>by obtain⟨t,_,rfl⟩:=qag.1 hr;rfl) rfl fun x hx i=>yas.ment (zjz ((op,0)::es.flatten) x hx)
end
section
open Go.RowKit
def xjs:List (List AV)->Option (List Tm)
 | []=>some []
 | [.v (.int .i64 a),.v (.int .i64 b)]::l=>match xjs l with
  | some r=>some ((a,b)::r)
  | none=>none
 | _=>none
theorem zut:∀ {l:List (List AV)} {r:List Tm},xjs l=some r->l=r.map yii
 | [],r,h=>by simp only[xjs,Option.some.injEq]at h;subst h;rfl
 | x::l,r,h=>by
  unfold xjs at h;split at h
  .rename_i e;cases e
  .rename_i a b l' e;cases e;split at h
   .rename_i r' hr;simp only[Option.some.injEq]at h;subst h;rw[zut hr];rfl
   cases h
  cases h
def xki:List (List AV)->Option (List (List Tm))
 | []=>some []
 | [.sl 2 rows]::l=>match xjs rows,xki l with
  | some e,some r=>some (e::r)
  | _,_=>none
 | _=>none
theorem xch:∀ {l:List (List AV)} {r:List (List Tm)},xki l=some r->l=r.map fun e=>[ybr e]
 | [],r,h=>by simp only[xki,Option.some.injEq]at h;subst h;rfl
 | x::l,r,h=>by
  unfold xki at h;split at h
  .rename_i e;cases e
  .rename_i rows l' e;cases e;split at h
   .rename_i e r' h1 h2;simp only[Option.some.injEq]at h;subst h;rw[xch h2,zut h1];rfl
   cases h
  cases h
def knO(f:FuncId)(xs:List AV):Option AV:=
 match Nat.beq f 235 with
 | true=>match xs with
  | [.v (.int .i64 op),.sl 1 rows]=>match xki rows with
   | some es=>match Nat.ble es.length 10 && Nat.ble es.flatten.length 1000000 with
    | true=>some (ybr ((op,0)::es.flatten))
    | false=>none
   | none=>none
  | _=>none
 | false=>knI f xs
theorem knO_ok(f:FuncId)(xs:List AV)(r:AV)(h:knO f xs=some r):Con prog f xs r:=by
 unfold knO at h;split at h
 .rename_i hf;split at h
  .rename_i op rows;split at h
   .rename_i es he;split at h
    .rename_i hb;simp only[qad,qdr]at hb;simp only[Option.some.injEq]at h;subst h;rw[qaf hf,xch he];exact operation_con op es hb.1 hb.2
    cases h
   cases h
  cases h
 exact knI_ok _ _ _ h
end
section
open Go.RowKit
def colT:Bs:=[112,114,111,103,114,97,109,32,99,111,108,111,117,114,115,59,32,118,97,114,32,99,32,58,32,48,32,46,46,32,110,59,32,114,117,108,101,32,102,105,120,58,32,115,111,109,101,40,113,46,99,32,61,61,32,99,41,32,45,62,32,99,32,58,61,32,109,101,120,40,113,46,99,41,59]
def zzz:ProgD:={ name:=ba [99,111,108,111,117,114,115],vars:=[{ name:=ba [99],kind:=1,lo:=0,hi:=0,perNode:=1,perID:=0 }],rules:=[{ name:=ba [102,105,120],guard:=[(21,0),(35,0),(12,0),(5,0)],sets:=[{ var:=0,val:=[(27,0),(12,0)] }] }] }
theorem col_light:ylu zzz=true:=by kernel_rfl
theorem xcb:yjt zzz:=by
 refine⟨by(try unfold yxn);decide,fun x hx=>?_,fun r hr=>?_⟩
 .simp only[zzz,qaq,qeb,or_false]at hx;subst hx;exact⟨by(try unfold yxn);decide,by(try unfold yxn);decide,by(try unfold yxn);decide,by(try unfold yxn);decide,by(try unfold yxn);decide,by(try unfold yxn);decide⟩
 simp only[zzz,qaq,qeb,or_false]at hr;subst hr;refine⟨by(try unfold yxn);decide,fun t ht=>?_,fun s hs=>?_⟩
 .simp only[qaq,qeb,or_false]at ht;rcases ht with rfl|rfl|rfl|rfl <;> exact⟨by(try unfold yxn);decide,by(try unfold yxn);decide⟩
 simp only[qaq,qeb,or_false]at hs;subst hs;refine⟨by(try unfold yxn);decide,fun t ht=>?_⟩;simp only[qaq,qeb,or_false]at ht;rcases ht with rfl|rfl <;> exact⟨by(try unfold yxn);decide,by(try unfold yxn);decide⟩
def xls:RuleD:={ name:=ba [102,105,120],guard:=[(21,0),(35,0),(12,0),(5,0)],sets:=[{ var:=0,val:=[(27,0),(12,0)] }] }
theorem colnamed_con:Con prog 140 [ygg zzz] (yau true):=by
 have:=zji zzz xcb dc dc
 rwa [show ygx zzz=true by kernel_rfl]at this
theorem colformed_con:Con prog 142 [.agg (ybc xls),i64 1] (yau true):=by
 have:=zim xls 1 (xcb.2.2 _ (qau.2 rfl)) ⟨dc,dc,fun s hs=>by
  obtain rfl:=qau.1 hs
  decide⟩ dc
 rwa [show yfx xls (1:Nat)=true by kernel_rfl]at this
def isChk(f:FuncId):Bool:=Nat.beq f 75
def isMap(f:FuncId):Bool:=Nat.beq f 140 || Nat.beq f 142
def knC(f:FuncId)(xs:List AV):Option AV:=
 match isMap f with
 | true=>match (Nat.beq f 140 && eqA.eqL xs [ygg zzz]) || (Nat.beq f 142 && eqA.eqL xs [.agg (ybc xls),i64 1])with
  | true=>some (yau true)
  | false=>none
 | false=>match Nat.beq f 105 with
  | true=>match xs with
   | [.sl 2 rows,.v (.int .i64 n)]=>match xjs rows with
    | some l=>match Nat.ble l.length 1000 with
     | true=>some (yau (ycu l n))
     | false=>none
    | none=>none
   | _=>none
  | false=>knO f xs
theorem knC_ok(f:FuncId)(xs:List AV)(r:AV)(h:knC f xs=some r):Con prog f xs r:=by
 unfold knC at h;split at h
 .split at h
  .rename_i he;simp only[Option.some.injEq]at h;subst h;simp only[qck,qad]at he;rcases he with⟨h1,h2⟩|⟨h1,h2⟩
   .rw [qaf h1,zif.row _ _ h2];exact colnamed_con
   rw[qaf h1,zif.row _ _ h2];exact colformed_con
  cases h
 split at h
 .rename_i hf;split at h
  .rename_i rows n;split at h
   .rename_i l he;split at h
    .rename_i hb;simp only[Option.some.injEq]at h;subst h;rw[qaf hf,zut he];exact znm l n (Nat.le_of_ble_eq_true hb)
    cases h
   cases h
  cases h
 exact knO_ok _ _ _ h
theorem colparse_con:Con prog 28 [ykp (ba colT)] (.tup [ygg zzz,i64 0,i64 0]):=
 con_run ymj tok knC_ok klC_ok (F:=1000) (fz:=isChk) 40 kf
end
set_option maxHeartbeats 16000000
section
open Go.RowKit
theorem two_fair:Fair zzz (xaj 2):=⟨xcb,zls col_light,kf⟩
theorem two_ok:CfgOk zzz (xaj 2) [[0],[0]]:=⟨two_fair,kf⟩
theorem two_run:xcl zzz (xaj 2) 1 [[0],[0]] [3#32,3#32]=some ⟨[[1],[0]],0#32,⟨1,1,1,1,0#32⟩,[1#32],[3#32,0#32]⟩:=by kernel_rfl
theorem tawake_con:Con prog 6 [] (yau true):=by
 have hf:=rFollow_con two_ok (zpb zzz (xaj 2) 1 (.inl rfl)) [3#32,3#32] sm;rw[two_run]at hf;refine ze Tryz.func6 ntmps6 Tryz.results6 ?_
 (repeat (first|refine zz ?_|refine zc colparse_con ?_|refine zc (path_con 2 om) ?_))
 refine yng tok rfl rfl rfl om (rfl) rfl rfl ?_;refine zY ?_;refine yng tok rfl rfl rfl om (rfl) rfl rfl ?_;refine zY ?_;refine yng tok rfl rfl rfl om (rfl) rfl rfl ?_;exact zkp
end
section
open Go.ChangeShapes Go.WideShapes Go.RowKit
def zoc(w:World)(v:Value)(l:List Lk):Prop:=Row w v 2 l.length (l.flatMap fun t=>[.int .i64 t.1,.int .i64 t.2])
theorem zoc.below(h:zoc w v l)(hb:Below w.heap.size w w'):zoc w' v l:=Row.below h hb
theorem zoc.open(h:zoc w v l):∃ a cap,v=.slice a l.length cap/\l.length<=cap/\cap<=9223372036854775807 /\
  (0 < l.length->∃ g o,a=some ⟨g,o,none⟩/\g < w.heap.size/\∀ i t,l[i]?=some t->w.cell? ⟨g,o+i * 2,none⟩=some (.int .i64 t.1)/\w.cell? ⟨g,o+i * 2+1,none⟩=some (.int .i64 t.2)):=by
 obtain⟨a,cap,hv,h1,h2,h3,h4⟩:=Row.open h;refine⟨a,cap,hv,h1,h2,fun hn=>?_⟩;obtain⟨g,o,ha,hg,hc⟩:=h4 hn;exact⟨g,o,ha,hg,fun i t ht=>⟨hc _ _ (yks _ 2 (fun _=>rfl) l i 0 t _ ht rfl),hc _ _ (yks _ 2 (fun _=>rfl) l i 1 t _ ht rfl)⟩⟩
def ytv(w:World)(cs:List Value)(l:List Lk):Prop:=∃ v,cs=[v]/\zoc w v l
theorem ytv.below{cs:List Value}(hb:Below w.heap.size w w')(h:ytv w cs l):ytv w' cs l:=by
 obtain⟨v,h1,h2⟩:=h;exact⟨v,h1,h2.below hb⟩
def ytw(w:World)(v:Value)(ports:List (List Lk)):Prop:=Seq (ytv w) 1 w v ports
theorem ytw.below{l:List (List Lk)}(h:ytw w v l)(hb:Below w.heap.size w w'):ytw w' v l:=Seq.below h hb fun _ _=>ytv.below hb
def yxt(w:World)(v:Value)(g:GraphD):Prop:=∃ iv pv,v=.agg #[iv,pv]/\xfi .i64 w iv g.ids/\ytw w pv g.ports
theorem yxt.below{g:GraphD}(h:yxt w v g)(hb:Below w.heap.size w w'):yxt w' v g:=by
 obtain⟨iv,pv,h1,h2,h3⟩:=h;exact⟨iv,pv,h1,h2.below hb,h3.below hb⟩
def zhl(t:Lk):Prop:=yxn t.1/\yxn t.2
def xbj(g:GraphD):Prop:=(∀ x∈g.ids,yxn x)/\∀ l∈g.ports,∀ t∈l,zhl t
theorem seqOpen{α:Type}{R:List Value->α->Prop}{size:Nat}{l:List α}(h:Seq R size w v l):∃ a cap,v=.slice a l.length cap/\l.length<=cap/\cap<=9223372036854775807 /\
  (0 < l.length->∃ g o,a=some ⟨g,o,none⟩/\g < w.heap.size/\∀ i x,l[i]?=some x->∃ cs,cs.length=size/\R cs x/\∀ j u,cs[j]?=some u->w.cell? ⟨g,o+i * size+j,none⟩=some u):=by
 obtain⟨xs,h1,h2⟩:=h;have hlen:xs.length=l.length * size:=by obtain⟨_,_,_,_,_,h,_⟩:=h1;exact h
 obtain⟨a,cap,hv,h3,h4,_,h5⟩:=Row.open h1;refine⟨a,cap,hv,h3,h4,fun hn=>?_⟩;obtain⟨g,o,ha,hg,hc⟩:=h5 hn;refine⟨g,o,ha,hg,fun i x hx=>⟨_,?_,h2 i x hx,fun j u hu=>?_⟩⟩
 .have hi:=(qaa.1 hx).1;rw[qcj,qdj,hlen];have:i * size+size<=l.length * size:=by rw[<- qdi];exact qel _ hi
  omega
 rw[qbc]at hu;split at hu
 .rw [qby]at hu;have:=hc _ u hu;rw[<- qdf]at this;exact this
 cases hu
theorem ytw.open{l:List (List Lk)}(h:ytw w v l):∃ a cap,v=.slice a l.length cap/\l.length<=cap/\cap<=9223372036854775807 /\
  (0 < l.length->∃ g o,a=some ⟨g,o,none⟩/\g < w.heap.size/\∀ i x,l[i]?=some x->∃ pv,zoc w pv x/\w.cell? ⟨g,o+i,none⟩=some pv):=by
 obtain⟨a,cap,hv,h3,h4,h5⟩:=seqOpen h;refine⟨a,cap,hv,h3,h4,fun hn=>?_⟩;obtain⟨g,o,ha,hg,hc⟩:=h5 hn;refine⟨g,o,ha,hg,fun i x hx=>?_⟩;obtain⟨cs,_,⟨pv,rfl,q1⟩,q2⟩:=hc i x hx;have:=q2 0 _ rfl;rw[qgv,qdv]at this;exact⟨pv,q1,this⟩
theorem zps:prog.cellsOf 3=1:=by kernel_rfl
theorem zot:prog.cellsOf 178=2:=by kernel_rfl
theorem cellsInts:prog.cellsOf 26=1:=by kernel_rfl
theorem cellsLinks:prog.cellsOf 176=1:=by kernel_rfl
theorem cellsPorts:prog.cellsOf 27=1:=by kernel_rfl
theorem cellsGraph:prog.cellsOf 29=2:=by kernel_rfl
section
variable{H:Type}{enc:TypeId × Value->H}{w:World}{cs:List Value}{v:Value}{base:Nat}{d:DataW H}{ps:List MemPlace}
theorem rd_link(h:Rd enc prog w 178 cs):∃ t:Lk,cs=[.int .i64 t.1,.int .i64 t.2]/\zhl t:=by
 obtain⟨h1,h2⟩:=ymb underlying178 h;rw[zot]at h1
 match cs,h1 with
 | [a,b],_=>
  have g0:=h2 0 _ rfl;have g1:=h2 1 _ rfl;simp[zps]at g0 g1;obtain⟨x,hx,hx'⟩:=yio underlying3 g0;obtain⟨y,hy,hy'⟩:=yio underlying3 g1;simp at hx hy;exact⟨(x,y),by simp[hx,hy],hx',hy'⟩
theorem rd_links(h:Rd enc prog w 176 cs):∃ l,ytv w cs l/\∀ t∈l,zhl t:=by
 obtain⟨v,l,h1,h2⟩:=ymy (R:=fun cs (t:Lk)=>cs=[.int .i64 t.1,.int .i64 t.2]/\zhl t) underlying176 zot (qhi 1) (fun cs h=>rd_link h) h;refine⟨l,⟨v,h1,ysr (fun t:Lk=>[.int .i64 t.1,.int .i64 t.2]) (fun _=>rfl) om h2 (fun cs x h=>h.1)⟩,fun x hx=>?_⟩;obtain⟨xs,_,h3⟩:=h2;obtain⟨i,hi⟩:=qao hx;exact(h3 i x hi).2
theorem rd_ints(h:Rd enc prog w 26 cs):∃ v l,cs=[v]/\xfi .i64 w v l/\∀ x∈l,yxn x:=by
 obtain⟨v,l,h1,hl⟩:=ymy (R:=fun cs x=>cs=[.int .i64 x]/\yxn x) underlying26 zps Nat.one_pos (fun cs h=>by obtain⟨n,h1,h2⟩:=yio underlying3 h;exact⟨n,h1,h2⟩) h;refine⟨v,l,h1,?_,fun x hx=>?_⟩
 .have:=ysr (fun x=>[.int .i64 x]) (fun _=>rfl) Nat.one_pos hl (fun cs x h=>h.1);unfold xfi
  rwa [zwu l]at this
 obtain⟨xs,_,h2⟩:=hl;obtain⟨i,hi⟩:=qao hx;exact(h2 i x hi).2
theorem rd_ports(h:Rd enc prog w 27 cs):∃ v l,cs=[v]/\ytw w v l/\∀ x∈l,∀ t∈x,zhl t:=by
 obtain⟨v,l,h1,h2⟩:=ymy (R:=fun cs l=>ytv w cs l/\∀ t∈l,zhl t) underlying27 cellsLinks Nat.one_pos (fun cs h=>rd_links h) h;refine⟨v,l,h1,h2.imp fun _ _ _ h=>h.1,fun x hx=>?_⟩;obtain⟨xs,_,h3⟩:=h2;obtain⟨i,hi⟩:=qao hx;exact(h3 i x hi).2
theorem open_graph(hv:Value.okWide prog w .any base 29 v)(h:DataW.Trod enc prog w 0 (fun _=>true) true 29 v d ps):∃ g,yxt w v g/\xbj g:=by
 obtain⟨cs,rfl,hcs⟩:∃ cs,v=.agg cs/\cs.size=prog.cellsOf 29:=by
  unfold Value.okWide at hv;rw[underlying29]at hv;obtain⟨cs,h1,h2,_⟩:=hv;exact⟨cs,h1,h2⟩
 have hr:=xjd h;simp only[Value.cells]at hr;obtain⟨h1,h2⟩:=ymb underlying29 hr;rw[cellsGraph]at h1;obtain⟨cs⟩:=cs;simp only at h1 h2
 match cs,h1 with
 | [a,b],_=>
  have g0:=h2 0 _ rfl;have g1:=h2 1 _ rfl;simp[cellsInts,cellsPorts]at g0 g1;obtain⟨iv,l,e2,q2,q3⟩:=rd_ints g0;obtain⟨pv,rr,e3,q4,q5⟩:=rd_ports g1;simp at e2 e3;exact⟨⟨l,rr⟩,⟨iv,pv,by simp[e2,e3],q2,q4⟩,q3,q5⟩
end
end
section
open Go.RowKit
theorem links_rel(h:zoc w v l):Rel (okW w) w lv (ykr l) v:=
 yrd (g:=fun t:Lk=>[.int .i64 t.1,.int .i64 t.2]) (fun _=>rfl) (fun x u hu=>by simp at hu;rcases hu with rfl|rfl <;> rfl) h
theorem graph_rel{g:GraphD}(h:yxt w v g):Rel (okW w) w lv (yev g) v:=by
 obtain⟨iv,pv,rfl,h1,h2⟩:=h;have h3:ybn (okW w) w lv [yai g.ids,yaq g.ports] [iv,pv]:=by
  refine ybt (ints_rel h1) (ybt ?_ yie);refine yso h2 (fun _=>rfl) (fun x c hc=>by simp at hc;subst hc;rfl) fun x _ cs hc=>?_;obtain⟨lv',rfl,r1⟩:=hc;exact ybt (links_rel r1) yie
 exact .agg _ h3.1 (fun c hc=>by simp at hc;rcases hc with rfl|rfl <;> rfl) h3.2
end
end Go.Proofs.YtgpodcjhgdionaaGreatDoor
