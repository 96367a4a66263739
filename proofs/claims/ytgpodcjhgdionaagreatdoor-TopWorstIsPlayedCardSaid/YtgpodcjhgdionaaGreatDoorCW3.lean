/- Part 3 of the texts under TopWorstIsPlayed. -/
import Derived.Laws.Concat
import Derived.Laws.Slices
import Derived.Laws.Strings2
import Derived.IntWalk
import Derived.Test.YtgpodcjhgdionaaGreatDoorCW2
set_option linter.unusedVariables false
namespace Go.Proofs.YtgpodcjhgdionaaGreatDoor
open Go.Proofs.Tryz
variable{x y:Operand}{ops:Array Oper}{w:World}{h:List (Nat × Option LObj)}{lv:Live}{lf:Oper->Bool}{Q:Exit->SS->Prop}{t:List (Nat × AV)}{k:IntKind}{α:Type}{o:Oper}{a b:Int}{B:Bse}{P:Program}{c:Code}{i N:Nat}
section
open Go.RowKit
structure OpM where
 anc:Nat
 looks:Nat
 dst:Option Nat
 loud:Bool
 top:Nat
def yvf:List Nat->Nat
 | []=>0
 | d::l=>Nat.lor (Nat.shiftLeft 1 d) (yvf l)
theorem xbu(d i:Nat):(Nat.shiftLeft 1 d).testBit i=decide (d=i):=by
 show (1 <<< d).testBit i=_;rw[Nat.testBit_shiftLeft];by_cases h:d=i
 .subst h;simp
 by_cases h2:d<=i
 .have e:i - d≠0:=by omega
  obtain⟨q,hq⟩:∃ q,i - d=q+1:=⟨i - d - 1,om⟩;simp[h,h2,hq,Nat.testBit_succ]
 simp[h];omega
theorem yyc(i:Nat):∀ l,(yvf l).testBit i=l.contains i
 | []=>by simp[yvf]
 | d::l=>by
  show (Nat.shiftLeft 1 d ||| yvf l).testBit i=_;rw[Nat.testBit_or,xbu,yyc i l,List.contains_cons];congr 1;by_cases h:d=i
  .subst h;simp
  simp[h,Ne.symm h]
def zgv(k:Nat)(acc:List Nat):List Edge->Nat
 | []=>0
 | e::es=>match Region.binds .any e with
  | true=>Nat.lor (Nat.lor (Nat.shiftLeft 1 e.on) (match Nat.blt e.on k with|true=>acc.getD (k - 1 - e.on) 0|false=>0)) (zgv k acc es)
  | false=>zgv k acc es
def zbd:List Edge->Nat
 | []=>0
 | e::es=>match Region.binds .any e with
  | true=>Nat.max (e.on+1) (zbd es)
  | false=>zbd es
theorem zzn:∀ {l:List Edge} {e:Edge},e∈l->Region.binds .any e=true->e.on+1<=zbd l
 | [],e,h,_=>by cases h
 | x::l,e,h,hb=>by
  simp only[zbd];rcases qaq.1 h with rfl|h
  .rw [hb];exact Nat.le_max_left _ _
  have:=zzn h hb;split
  .exact qbp this (Nat.le_max_right _ _)
  exact this
theorem znk:∀ {l:List Edge} {k:Nat},k < zbd l->∃ e∈l,Region.binds .any e=true/\k<=e.on
 | [],k,h=>by simp[zbd]at h
 | x::l,k,h=>by
  simp only[zbd]at h;split at h
  .rename_i hb;rcases qbh k (zbd l)with h1|h1
   .obtain ⟨e,q1,q2,q3⟩:=znk h1;exact⟨e,qap _ q1,q2,q3⟩
   refine⟨x,qbe,hb,?_⟩;have:Nat.max (x.on+1) (zbd l)<=Nat.max (x.on+1) k:=Nat.max_le.2 ⟨Nat.le_max_left _ _,qbp h1 (Nat.le_max_right _ _)⟩;have h2:k < Nat.max (x.on+1) k:=qbg h this;rcases Nat.le_total k (x.on+1)with h3|h3
   .rw [show Nat.max (x.on+1) k=x.on+1 from Nat.max_eq_left h3]at h2;omega
   rw[show Nat.max (x.on+1) k=k from Nat.max_eq_right h3]at h2;omega
  obtain⟨e,q1,q2,q3⟩:=znk h;exact⟨e,qap _ q1,q2,q3⟩
def mks(ops:Array Oper)(lf:Oper->Bool):Nat->List Nat->List Oper->List OpM
 | _,_,[]=>[]
 | k,acc,o::l=>⟨zgv k acc o.after.toList,yvf (o.looksAt ops),o.dst,lf o,zbd o.after.toList⟩::mks ops lf (k+1) (zgv k acc o.after.toList::acc) l
theorem yzm:∀ {f f' j i:Nat},f<=f'->yhk ops f j i=true->yhk ops f' j i=true
 | 0,_,j,i,_,h=>by simp[yhk]at h
 | f+1,0,j,i,hle,h=>by omega
 | f+1,f'+1,j,i,hle,h=>by
  simp only[yhk]at h ⊢;cases ho:ops[j]? with
  | none=>rw[ho]at h;cases h
  | some o=>
   rw[ho]at h;simp only[qck,qgk,qad]at h ⊢;rcases h with h|⟨e,h1,h2,h3⟩
   .exact .inl h
   exact .inr ⟨e,h1,h2,yzm om h3⟩
def xig(ops:Array Oper)(k:Nat)(acc:List Nat):Prop:=acc.length=k/\∀ (j i:Nat),j < k->(acc.getD (k - 1 - j) 0).testBit i=true->yhk ops (j+1) j i=true
theorem yxz{k:Nat}{acc:List Nat}(ha:xig ops k acc):∀ {es:List Edge} {i:Nat},(zgv k acc es).testBit i=true->∃ e∈es,Region.binds .any e=true/\(e.on=i\/(e.on < k/\yhk ops (e.on+1) e.on i=true))
 | [],i,h=>by simp[zgv]at h
 | e::es,i,h=>by
  simp only[zgv]at h;split at h
  .rename_i hb;have h':((Nat.shiftLeft 1 e.on ||| (match Nat.blt e.on k with|true=>acc.getD (k - 1 - e.on) 0|false=>0)) ||| zgv k acc es).testBit i=true:=h;rw[Nat.testBit_or,Nat.testBit_or,xbu]at h';simp only[qck,decide_eq_true_eq]at h';rcases h' with(h'|h')|h'
   .exact ⟨e,qbe,hb,.inl h'⟩
   .refine ⟨e,qbe,hb,.inr ?_⟩;split at h'
    .rename_i hlt;have hlt':e.on < k:=by simpa using hlt
     exact⟨hlt',ha.2 e.on i hlt' h'⟩
    simp at h'
   obtain⟨x,q1,q2⟩:=yxz ha h';exact⟨x,qap _ q1,q2⟩
  obtain⟨x,q1,q2⟩:=yxz ha h;exact⟨x,qap _ q1,q2⟩
theorem zom{k:Nat}{acc:List Nat}(ha:xig ops k acc)(ho:ops[k]?=some o)(h:(zgv k acc o.after.toList).testBit i=true):yhk ops (k+1) k i=true:=by
 obtain⟨e,h1,h2,h3⟩:=yxz ha h;simp only[yhk,ho,qck,qgk,qad,beq_iff_eq];rcases h3 with h3|⟨h3,h4⟩
 .exact .inl ⟨e,by simpa using h1,h2,h3⟩
 exact .inr ⟨e,by simpa using h1,h2,yzm om h4⟩
def MOk(ops:Array Oper)(lf:Oper->Bool)(k:Nat)(m:OpM):Prop:=
 ∃ o,ops[k]?=some o/\m.looks=yvf (o.looksAt ops)/\m.dst=o.dst/\m.loud=lf o/\m.top=zbd o.after.toList/\∀ i,m.anc.testBit i=true->yhk ops (k+1) k i=true
theorem xhd:∀ {l:List Oper} {k:Nat} {acc:List Nat},xig ops k acc->(∀ j:Nat,l[j]?=ops[k+j]?)->∀ (j:Nat) (m:OpM),(mks ops lf k acc l)[j]?=some m->MOk ops lf (k+j) m
 | [],k,acc,_,_,j,m,h=>by simp[mks]at h
 | o::l,k,acc,ha,hl,j,m,h=>by
  have ho:ops[k]?=some o:=by have:=hl 0;simpa using this.symm
  cases j with
  | zero=>
   simp only[mks,qas,Option.some.injEq]at h;subst h;exact⟨o,ho,rfl,rfl,rfl,rfl,fun i hi=>zom ha ho hi⟩
  | succ j=>
   simp only[mks,qca]at h;have:=xhd (l:=l) (k:=k+1) (acc:=zgv k acc o.after.toList::acc) ⟨by simp[ha.1],fun j' i hj hi=>?_⟩ (fun j'=>by have:=hl (j'+1);simp only[qca]at this;rw[this];congr 1;omega) j m h
   .rwa [show k+1+j=k+(j+1) by omega]at this
   rcases qbh j' k with h1|h1
   .rw [show k+1 - 1 - j'=(k - 1 - j')+1 by omega]at hi;exact ha.2 j' i h1 (by simpa using hi)
   obtain rfl:j'=k:=by omega
   rw[show j'+1 - 1 - j'=0 by omega]at hi;exact zom ha ho (by simpa using hi)
theorem ztx:∀ {l:List Oper} {k:Nat} {acc:List Nat},(mks ops lf k acc l).length=l.length
 | [],_,_=>rfl
 | o::l,k,acc=>by simp[mks,ztx (l:=l)]
def zvo(m x:OpM):Bool:=
 (match m.dst with
  | some d=>!(Nat.testBit x.looks d) && (match x.dst with|some d'=>!(Nat.beq d' d)|none=>true)
  | none=>true) &&
 (match x.dst with
  | some d=>!(Nat.testBit m.looks d)
  | none=>true)
def zkw(k:Nat)(m:OpM):List OpM->Bool
 | []=>true
 | x::l=>(match m.loud with
  | true=>Nat.blt k x.top
  | false=>(match Nat.testBit x.anc k with
   | true=>true
   | false=>zvo m x && !x.loud)) && zkw k m l
def xlr:Nat->List OpM->Bool
 | _,[]=>true
 | k,m::l=>match Nat.ble m.top k with
  | false=>false
  | true=>match zkw k m l with
   | false=>false
   | true=>xlr (k+1) l
theorem zde{k:Nat}{m:OpM}:∀ {l:List OpM},zkw k m l=true->∀ x∈l,(m.loud=true->k < x.top)/\(m.loud=false->x.anc.testBit k=true\/(zvo m x=true/\x.loud=false))
 | [],_,x,hx=>by cases hx
 | y::l,h,x,hx=>by
  simp only[zkw,qad]at h;rcases qaq.1 hx with rfl|hx
  .refine ⟨fun hm=>?_,fun hm=>?_⟩
   .rw [hm]at h;simpa using h.1
   rw[hm]at h;have h1:=h.1;simp only at h1;split at h1
   .rename_i ht;exact .inl ht
   simp only[qad,qbn]at h1;exact .inr h1
  exact zde h.2 x hx
theorem apartM_ok{lf:Oper->Bool}{j k:Nat}{m x:OpM}{p:Oper}(ho:m.looks=yvf (o.looksAt ops)/\m.dst=o.dst)(hp:x.looks=yvf (p.looksAt ops)/\x.dst=p.dst)(h:zvo m x=true):o.apart ops p=true:=by
 unfold zvo at h;unfold Oper.apart;rw[ho.1,ho.2,hp.1,hp.2]at h;simp only[qad]at h ⊢;refine⟨?_,?_⟩
 .cases hd:o.dst with
  | none=>rfl
  | some d=>
   rw[hd]at h;have h1:=h.1;simp only[qad,qbn,yyc]at h1;simp only[qad,qbn,h1.1,true_and];cases hd2:p.dst with
   | none=>rfl
   | some d'=>
    rw[hd2]at h1;have h2:=h1.2;simp only[qbn]at h2;have:d'≠d:=fun e=>by subst e;simp at h2
    simp[this]
 cases hd2:p.dst with
 | none=>rfl
 | some d=>
  rw[hd2]at h;have h2:=h.2;simp only[qbn,yyc]at h2;simp only[h2,Bool.not_false]
def ygr(n k:Nat):Array Bool:=((List.range n).map fun i=>decide (i < k)).toArray
theorem yms(n k i:Nat)(b:Bool):(ygr n k).getD i b=if i < n then decide (i < k)else b:=by
 simp only[ygr,qar,qeh,qak];split
 .rename_i h;rw[qcf h];rfl
 rename_i h;rw[qch (by simpa using h)];rfl
theorem listedTo_set(n k:Nat):(ygr n k).setIfInBounds k true=ygr n (k+1):=by
 apply qgn;intro i;rw[qbx];simp only[ygr,qeh,qak,qdg,qai,qds];by_cases hi:i < n
 .rw [qcf hi];by_cases e:k=i
  .subst e;simp[hi]
  have:i < k+1<->i < k:=by omega
  simp[e,this]
 rw[qch (by simpa using hi)];by_cases e:k=i
 .subst e;simp[hi]
 simp[e]
theorem listedTo_zero(n:Nat):Array.replicate n false=ygr n 0:=by
 apply qgn;intro i;simp only[ygr,qeh,qak,qgl];by_cases hi:i < n
 .rw [qcf hi,if_pos hi];simp
 rw[qch (by simpa using hi),if_neg hi];rfl
theorem zyi{k j:Nat}(ho:ops[j]?=some o):j∈Region.ready .any ops (ygr ops.size k)<->k<=j/\∀ e∈o.after,Region.binds .any e=true->e.on < k/\e.on < ops.size:=by
 have hj:=(qaz.1 ho).1;unfold Region.ready;rw[qdc,qbt];simp only[yms,hj,if_true,true_and,ho,qav,qbu,qad,qbn,decide_eq_false_iff_not,Nat.not_lt,Array.all_eq_true',qck];constructor
 .rintro ⟨h1,h2⟩;refine⟨h1,fun e he hb=>?_⟩;rcases h2 e he with h3|h3
  .rw [hb]at h3;cases h3
  split at h3
  .rename_i h4;exact⟨by simpa using h3,h4⟩
  cases h3
 rintro⟨h1,h2⟩;refine⟨h1,fun e he=>?_⟩;cases hb:Region.binds .any e with
 | false=>exact .inl rfl
 | true=>
  obtain⟨h3,h4⟩:=h2 e he hb;exact .inr (by rw[if_pos h4];simpa using h3)
theorem filter_range_one{p:Nat->Bool}{n k:Nat}(hk:k < n)(hp:p k=true)(h:∀ j,j < n->j≠k->p j=false):(List.range n).filter p=[k]:=by
 induction n with
 | zero=>omega
 | succ n ih=>
  rw[qdd,qcn];by_cases e:k=n
  .subst e;have:(List.range k).filter p=[]:=by
    rw[List.filter_eq_nil_iff];intro j hj;have hj':j < k:=by simpa using hj
    rw[h j om om];simp
   rw[this];simp[hp]
  rw[ih om fun j hj hne=>h j om hne];have:p n=false:=h n om (Ne.symm e);simp[this]
theorem zrb{ops:Array Oper}{lf:Oper->Bool}:∀ {ms:List OpM} {k:Nat},k+ms.length=ops.size->(∀ (j:Nat) (m:OpM),ms[j]?=some m->MOk ops lf (k+j) m)->xlr k ms=true->ywo ops lf (List.range' k ms.length) (ygr ops.size k)=true
 | [],k,hn,_,_=>by
  simp only[qew,qdv]at hn;simp only[qew,List.range'_zero,ywo,List.isEmpty_iff];unfold Region.ready;rw[List.filter_eq_nil_iff];intro i hi;have hi':i < ops.size:=by simpa using hi
  rw[yms,if_pos hi'];have:i < k:=by omega
  simp[this]
 | m::ms,k,hn,hm,h=>by
  simp only[qaj]at hn;simp only[xlr]at h;split at h
  .cases h
  rename_i htop;split at h
  .cases h
  rename_i hrest;obtain⟨o,ho,hlk,hds,hld,htp,hanc⟩:=hm 0 m rfl;simp only[qdv]at ho hanc;have htop':m.top<=k:=by simpa using htop
  have hready:k∈Region.ready .any ops (ygr ops.size k):=by
   refine(zyi ho).2 ⟨qbf _,fun e he hb=>?_⟩;have:=zzn (l:=o.after.toList) (by simpa using he) hb;omega
  have hxs:∀ (j:Nat),k < j->j < ops.size->∃ x p,x∈ms/\ops[j]?=some p/\x.looks=yvf (p.looksAt ops)/\x.dst=p.dst/\x.loud=lf p/\x.top=zbd p.after.toList/\∀ i,x.anc.testBit i=true->yhk ops (j+1) j i=true:=by
   intro j hkj hj;obtain⟨x,hx⟩:∃ x,ms[j - k - 1]?=some x:=⟨_,qae om⟩;obtain⟨p,hp⟩:=hm (j - k) x (by rw[show j - k=(j - k - 1)+1 by omega,qca];exact hx);rw[show k+(j - k)=j by omega]at hp;exact⟨x,p,qab hx,hp⟩
  have hcr:=zde hrest;simp only[qaj,qek,ywo,qad,qhc];refine⟨⟨hready,?_⟩,?_⟩
  .rw [ho];simp only;rw[<- hld];cases hloud:m.loud with
   | true=>
    simp only[if_true,beq_iff_eq];unfold Region.ready;refine filter_range_one om ?_ fun j hj hne=>?_
    .have:=hready;unfold Region.ready at this;exact(qdc.1 this).2
    rcases qbh j k with h1|h1
    .rw [yms,if_pos hj];simp[h1]
    obtain⟨x,p,hx,hp,_,_,_,hxt,_⟩:=hxs j om hj;have hlt:=(hcr x hx).1 hloud;rw[hxt]at hlt;obtain⟨e,he,hb,hon⟩:=znk hlt;have hnot:j ∉ Region.ready .any ops (ygr ops.size k):=fun hmem=>by
     have:=((zyi hp).1 hmem).2 e (by simpa using he) hb;omega
    unfold Region.ready at hnot;rw[qdc]at hnot;cases hpj:(!(ygr ops.size k).getD j true && ((ops[j]?).map (·.after.all fun e=>!Region.binds .any e || (ygr ops.size k).getD e.on false)).getD false)with
    | false=>rfl
    | true=>exact absurd ⟨by simpa using hj,hpj⟩ hnot
   | false=>
    simp only[qbj,if_false,List.all_eq_true,qbt,qck];intro j hj;by_cases hjk:j=k
    .exact .inl (.inl (.inl (by simp[hjk])))
    rcases qbh j k with h1|h1
    .exact .inl (.inl (.inr (by rw[yms,if_pos hj];simpa using h1)))
    obtain⟨x,p,hx,hp,q1,q2,q3,_,q5⟩:=hxs j om hj;rcases (hcr x hx).2 hloud with h2|⟨h2,h3⟩
    .exact .inl (.inr (yzm om (q5 k h2)))
    refine .inr ?_;rw[hp];simp only[qad,qbn];exact⟨apartM_ok (lf:=lf) (j:=0) (k:=0) ⟨hlk,hds⟩ ⟨q1,q2⟩ h2,by rw[<- q3];exact h3⟩
  rw[listedTo_set];exact zrb om (fun j m' hj=>by
   have:=hm (j+1) m' (by simpa using hj)
   rwa [show k+(j+1)=k+1+j by omega]at this) h
def zwa(lf:Oper->Bool)(l:List Oper):Bool:=xlr 0 (mks l.toArray lf 0 [] l)
theorem ordOk_of_chk{l:List Oper}(h:zwa lf l=true):ywo l.toArray lf (List.range l.length) (Array.replicate l.length false)=true:=by
 have:=zrb (ops:=l.toArray) (lf:=lf) (ms:=mks l.toArray lf 0 [] l) (k:=0) (by simp[ztx]) (xhd ⟨rfl,fun j i hj=>by omega⟩ (fun j=>by simp)) h;rw[ztx,qdg]at this;rw[listedTo_zero,qgd];exact this
end
section
open Go.RowKit
def i64(n:Int):AV:=.v (.int .i64 n)
def yau(b:Bool):AV:=.v (.bool b)
def ykp(s:ByteArray):AV:=.v (.string s)
section
variable{P:Program}{T:Nat->Option Ty}{N:Nat}{ops:Array Oper}{lf:Oper->Bool}{Q:SS->Prop}{t:List (Nat × AV)}{h:List (Nat × Option LObj)}{rest:List Oper}{d:Nat}{op:Op}{ty:TypeId}{pos:String}{af:Array Edge}{gd:Option (Nat × Bool)}{r:AV}
theorem yta{Q:Exit->SS->Prop}{s:SS}(hm:P.follows .mixedOrders=true){id:Nat}{l:List Oper}(hB:zwa lf l=true)(hD:ytk N l=true)(k:Lex P N l.toArray lf (Q .normal) l s):A P N (.region id l.toArray true) Q s:=by
 refine A_region_draw hm (List.range l.length) ?_ rfl (ordOk_of_chk hB) hD k;apply qdt;intro i;simp only[qak];rcases qbh i l.length with h1|h1
 .rw [qcf h1];simp[qae h1]
 simp[h1]
theorem L_int(hT:TOK P T){z:Int}(hr:ysz T t h op ty=some (.v (.int .i64 (IntKind.i64.wrap z))))(h0:-9223372036854775808<=z/\z<=9223372036854775807)(hw:yam ops (yak t) ⟨some d,op,ty,pos,af,gd⟩=some true)(hd:Nat.blt d N=true)(k:Lex P N ops lf Q rest (S ((d,.v (.int .i64 z))::t) h)) :
  Lex P N ops lf Q (⟨some d,op,ty,pos,af,gd⟩::rest) (S t h):=by
 refine znx hT hr hw hd ?_;rw[IntWalk.i64_in z h0];exact k
theorem yeu{ρ:Operand->Option AV}{v:Value}(hx:ρ x=some (.v v)):zgz ρ x=v:=by simp[zgz,hx,toV]
theorem yield_quo{ρ:Operand->Option AV}{hp:Nat->Option LObj}{tx ty':TypeId}(hx:ρ x=some (.v (.int k a)))(hy:ρ y=some (.v (.int k b)))(hb:b≠0):ybu P hp ρ (.binOp .quo tx x y ty') ty (.v (.int k (k.wrap (a.tdiv b)))):=
 yco (fun _ _=>by simp) (by simp[ygy,Op.operands,hx,hy,toV]) fun w=>by simp[execOp,yeu hx,yeu hy,eqGuard,binOp,Op.intDiv,hb]
theorem yield_rem{ρ:Operand->Option AV}{hp:Nat->Option LObj}{tx ty':TypeId}(hx:ρ x=some (.v (.int k a)))(hy:ρ y=some (.v (.int k b)))(hb:b≠0):ybu P hp ρ (.binOp .rem tx x y ty') ty (.v (.int k (a.tmod b))):=
 yco (fun _ _=>by simp) (by simp[ygy,Op.operands,hx,hy,toV]) fun w=>by simp[execOp,yeu hx,yeu hy,eqGuard,binOp,Op.intDiv,hb]
theorem yield_shl{ρ:Operand->Option AV}{hp:Nat->Option LObj}{k':IntKind}{tx ty':TypeId}(hx:ρ x=some (.v (.int k a)))(hy:ρ y=some (.v (.int k' b)))(hb:0<=b):ybu P hp ρ (.binOp .shl tx x y ty') ty (.v (.int k (k.wrap (a * 2 ^ (min b.toNat k.bits))))):=
 yco (fun _ _=>by simp) (by simp[ygy,Op.operands,hx,hy,toV]) fun w=>by simp[execOp,yeu hx,yeu hy,eqGuard,binOp,Op.shift,Int.not_lt.2 hb]
theorem yield_shr{ρ:Operand->Option AV}{hp:Nat->Option LObj}{k':IntKind}{tx ty':TypeId}(hx:ρ x=some (.v (.int k a)))(hy:ρ y=some (.v (.int k' b)))(hb:0<=b):ybu P hp ρ (.binOp .shr tx x y ty') ty (.v (.int k (a.fdiv (2 ^ (min b.toNat k.bits))))):=
 yco (fun _ _=>by simp) (by simp[ygy,Op.operands,hx,hy,toV]) fun w=>by simp[execOp,yeu hx,yeu hy,eqGuard,binOp,Op.shift,Int.not_lt.2 hb]
theorem yng(hT:TOK P T){ti e es eb sz:Nat}{ea ag:Bool}{ez z:List Value}{x y:Operand}{k:IntKind}{i:Int}{rows:List (List AV)}{row:List AV}(hk:T ti=some ⟨.slc e es ea eb ez,sz,ag,z⟩)(hx:evF (yak t) x=some (.sl es rows))(hy:evF (yak t) y=some (.v (.int k i)))(h0:0<=i)(hrow:rows[i.toNat]?=some row)
  (hw:yam ops (yak t) ⟨some d,.indexAddr ti x y,ty,pos,af,gd⟩=some true) (hd:Nat.blt d N=true) (k:Lex P N ops lf Q rest (S ((d,.dp row 0)::t) h)):Lex P N ops lf Q (⟨some d,.indexAddr ti x y,ty,pos,af,gd⟩::rest) (S t h):=
 ycm (ynl (hT _ _ hk).2.2 hx hy h0 hrow) hw hd k
theorem yat(hT:TOK P T){ti e es eb sz:Nat}{ea ag:Bool}{ez z:List Value}{x y:Operand}{k:IntKind}{i:Int}{id len:Nat}{ob:LObj}(hk:T ti=some ⟨.slc e es ea eb ez,sz,ag,z⟩)(hx:evF (yak t) x=some (.ls id es len))(hh:yac h id=some ob)(hy:evF (yak t) y=some (.v (.int k i)))(h0:0<=i)(h1:i < len)
  (hw:yam ops (yak t) ⟨some d,.indexAddr ti x y,ty,pos,af,gd⟩=some true) (hd:Nat.blt d N=true) (k:Lex P N ops lf Q rest (S ((d,.lp id (i.toNat * es))::t) h)):Lex P N ops lf Q (⟨some d,.indexAddr ti x y,ty,pos,af,gd⟩::rest) (S t h):=
 ycm (yts (hT _ _ hk).2.2 hx hh hy h0 h1) hw hd k
theorem ydp(hT:TOK P T){ti:Nat}{y:Ty}{id off:Nat}{xs:List AV}(hy:T ti=some y)(hag:y.agg=false)(hx:evF (yak t) x=some (.lp id off))(hh:ycw (yac h id)=some xs)(hr:xs[off]?=some r)(hw:yam ops (yak t) ⟨some d,.load ti x,ty,pos,af,gd⟩=some true)(hd:Nat.blt d N=true)(k:Lex P N ops lf Q rest (S ((d,r)::t) h)):Lex P N ops lf Q (⟨some d,.load ti x,ty,pos,af,gd⟩::rest) (S t h):=by
 have hlt:=(qaa.1 hr).1;refine ycm (yxl (hT _ _ hy).1 hx hh (.inl (by intro h0;simp[h0]at hlt)) ?_) hw hd k;rw[hag];have:xs.drop off=r::xs.drop (off+1):=by
  rw[qbl hlt];rw[qae hlt]at hr;simp only[Option.some.injEq]at hr;rw[hr]
 rw[this];rfl
theorem xej{f:α->List AV}{l:List α}{k:Nat}{x:α}(hx:l[k]?=some x):(l.map f)[((k:Nat):Int).toNat]?=some (f x):=by simp[hx]
theorem row_mapI{f:α->List AV}{l:List α}{i:Int}{x:α}(hx:l[i.toNat]?=some x):(l.map f)[i.toNat]?=some (f x):=by simp[hx]
theorem zav{ρ:Operand->Option AV}{hp:Nat->Option LObj}{ti:Nat}{s:ByteArray}{i:Int}{b:UInt8}(hk:ygb P ti .string)(hx:ρ x=some (.v (.string s)))(hy:ρ y=some (.v (.int k i)))(h0:0<=i)(hb:s[i.toNat]?=some b):ybu P hp ρ (.index ti x y) ty (.v (.int .u8 b.toNat)):=
 yco (fun _ _=>by simp) (by simp[ygy,Op.operands,hx,hy,toV]) fun w=>by
  have hk':P.underlying ti=some .string:=hk;simp[execOp,yeu hx,yeu hy,Instr.index,asIntOf,run_underlying hk',h0,hb]
theorem yml(hT:TOK P T){ti sz:Nat}{ag:Bool}{z:List Value}{x y:Operand}{s:ByteArray}{k:IntKind}{i:Int}{b:UInt8}(hk:T ti=some ⟨.string,sz,ag,z⟩)(hx:evF (yak t) x=some (.v (.string s)))(hy:evF (yak t) y=some (.v (.int k i)))(h0:0<=i)(hb:s[i.toNat]?=some b)
  (hw:yam ops (yak t) ⟨some d,.index ti x y,ty,pos,af,gd⟩=some true) (hd:Nat.blt d N=true) (k:Lex P N ops lf Q rest (S ((d,.v (.int .u8 b.toNat))::t) h)):Lex P N ops lf Q (⟨some d,.index ti x y,ty,pos,af,gd⟩::rest) (S t h):=
 ycm (zav (hT _ _ hk).2.2 hx hy h0 hb) hw hd k
def yvg(ρ:Operand->Option AV):Option Operand->Option (Option Int)
 | none=>some none
 | some x=>match ρ x with
  | some (.v (.int _ i))=>some (some i)
  | _=>none
theorem yjb{ρ:Operand->Option AV}{x:Option Operand}{b:Option Int}(hx:yvg ρ x=some b):(x=none/\b=none)\/∃ y k i,x=some y/\b=some i/\ρ y=some (.v (.int k i)):=by
 cases x with
 | none=>simp only[yvg,Option.some.injEq]at hx;exact .inl ⟨rfl,hx.symm⟩
 | some y=>
  simp only[yvg]at hx;split at hx
  .rename_i k i hy;simp only[Option.some.injEq]at hx;exact .inr ⟨y,k,i,rfl,hx.symm,hy⟩
  cases hx
theorem yield_sslice{ρ:Operand->Option AV}{hp:Nat->Option LObj}{ti:Nat}{lo hi:Option Operand}{bl bh:Option Int}{s:ByteArray}(hk:ygb P ti .string)(hx:ρ x=some (.v (.string s)))(hl:yvg ρ lo=some bl)(hh:yvg ρ hi=some bh)(h0:0<=bl.getD 0)(h1:bl.getD 0<=bh.getD s.size)(h2:bh.getD s.size<=s.size):
  ybu P hp ρ (.slice ti x lo hi none) ty (.v (.string (s.extract (bl.getD 0).toNat (bh.getD s.size).toNat))):=by
 have hk':P.underlying ti=some .string:=hk;have hp':∀ z∈lo.toList++hi.toList,∃ k i,ρ z=some (.v (.int k i)):=by
  intro z hz;rcases qat.1 hz with hz|hz
  .rcases yjb hl with⟨h,_⟩|⟨y,k,i,h,_,hy⟩
   .simp [h]at hz
   simp[h]at hz;subst hz;exact⟨k,i,hy⟩
  rcases yjb hh with⟨h,_⟩|⟨y,k,i,h,_,hy⟩
  .simp [h]at hz
  simp[h]at hz;subst hz;exact⟨k,i,hy⟩
 refine yco (fun _ _=>by simp) ?_ fun w=>?_
 .have:∀ l:List Operand,(∀ z∈l,∃ v,ρ z=some (.v v))->ygy ρ l=true:=by
   intro l;induction l with
   | nil=>intro _;rfl
   | cons z l ih=>intro hz;obtain⟨v,hv⟩:=hz z sm;simp[ygy,hv,toV,ih fun q hq=>hz q (by simp[hq])]
  refine this _ fun z hz=>?_;simp only[Op.operands,Array.toList_append]at hz;simp only[qat]at hz;rcases hz with((hz|hz)|hz)|hz
  .simp at hz;subst hz;exact⟨_,hx⟩
  .obtain ⟨k,i,h⟩:=hp' z (qat.2 (.inl (by simpa using hz)));exact⟨_,h⟩
  .obtain ⟨k,i,h⟩:=hp' z (qat.2 (.inr (by simpa using hz)));exact⟨_,h⟩
  simp at hz
 have hsb:∀ (k:IntKind) (i:Int) (y:Nat) (c:BoundsCode),0<=i->i<=y->(Instr.sliceBound (.int k i) y c).run P w=.ok i.toNat w:=fun k i y c g0 g1=>by simp[Instr.sliceBound,asIntOf,g0,g1]
 rcases yjb hl with⟨rfl,rfl⟩|⟨y,k,i,rfl,rfl,hy⟩ <;> rcases yjb hh with⟨rfl,rfl⟩|⟨y',k',i',rfl,rfl,hy'⟩ <;> simp only[Option.getD_none,qbu]at h0 h1 h2 ⊢
 .simp [execOp,yeu hx,Instr.sliceAt,run_underlying hk',Instr.slice,Instr.sliceBounds]
 .have e1:((i'.toNat:Nat):Int)=i':=by omega
  simp[execOp,yeu hx,yeu hy',Instr.sliceAt,run_underlying hk',Instr.slice,Instr.sliceBounds,hsb k' i' s.size _ om h2]
 .simp [execOp,yeu hx,yeu hy,Instr.sliceAt,run_underlying hk',Instr.slice,Instr.sliceBounds,hsb k i s.size _ h0 h1]
 have e1:i<=((i'.toNat:Nat):Int):=by omega
 simp[execOp,yeu hx,yeu hy,yeu hy',Instr.sliceAt,run_underlying hk',Instr.slice,Instr.sliceBounds,hsb k' i' s.size _ om h2,hsb k i i'.toNat _ h0 e1]
theorem yxm{ρ:Operand->Option AV}{hp:Nat->Option LObj}{ti e es eb:Nat}{ea:Bool}{ez:List Value}{lo hi:Option Operand}{bl bh:Option Int}{rows:List (List AV)}(hk:ygb P ti (.slc e es ea eb ez))(hx:ρ x=some (.sl es rows))(hl:yvg ρ lo=some bl)(hh:yvg ρ hi=some bh)(h0:0<=bl.getD 0)(h1:bl.getD 0<=bh.getD rows.length)(h2:bh.getD rows.length<=rows.length):ybu P hp ρ (.slice ti x lo hi none) ty (.sl es ((rows.take (bh.getD rows.length).toNat).drop (bl.getD 0).toNat)):=
 yay fun B ok0 lv w a o ho hty hi' hops=>by
  have hr:=hops x _ (by simp[Op.operands]) hx;generalize hv:a.eval x=v at hr;have hsb:∀ (k:IntKind) (i:Int) (y:Nat) (c:BoundsCode),0<=i->i<=y->(Instr.sliceBound (.int k i) y c).run P w=.ok i.toNat w:=fun k i y c g0 g1=>by simp[Instr.sliceBound,asIntOf,g0,g1]
  cases hr with
  | sl ad cap u g q hn hc ha hsz hg hcell hrel=>
   generalize hL:(bl.getD 0).toNat=L;generalize hH:(bh.getD rows.length).toNat=H;have hLH:L<=H/\H<=rows.length:=by omega
   have hrun:(Instr.sliceAt ti (.slice ad rows.length cap) (lo.map a.eval) (hi.map a.eval) none).run P w=.ok (.slice (if cap=L then ad else ad.map (·.add (L * es))) (H - L) (cap - L)) w:=by
    have h7:=(hk.2.1.run (w:=w)).1;rcases yjb hl with⟨rfl,rfl⟩|⟨y,k,i,rfl,rfl,hy⟩ <;> rcases yjb hh with⟨rfl,rfl⟩|⟨y',k',i',rfl,rfl,hy'⟩ <;> simp only[Option.getD_none,qbu]at h0 h1 h2 hL hH
    .subst hL hH;simp[Instr.sliceAt,run_underlying hk.1,Instr.slice,Instr.sliceBounds,h7]
    .have e1:=ykw (hops y' _ (by simp[Op.operands]) hy');subst hL hH;simp[e1,Instr.sliceAt,run_underlying hk.1,Instr.slice,Instr.sliceBounds,h7,hsb k' i' cap _ om om]
    .have e1:=ykw (hops y _ (by simp[Op.operands]) hy);subst hL hH;simp[e1,Instr.sliceAt,run_underlying hk.1,Instr.slice,Instr.sliceBounds,h7,hsb k i rows.length _ om om]
    have e1:=ykw (hops y _ (by simp[Op.operands]) hy);have e2:=ykw (hops y' _ (by simp[Op.operands]) hy');subst hL hH;simp[e1,e2,Instr.sliceAt,run_underlying hk.1,Instr.slice,Instr.sliceBounds,h7,hsb k' i' cap _ om om,hsb k i i'.toNat _ om om]
   refine⟨.slice (if cap=L then ad else ad.map (·.add (L * es))) (H - L) (cap - L),by simp[execOp,ho,hv,hrun],?_⟩;have hlen:((rows.take H).drop L).length=H - L:=by simp;omega
   have hget:∀ (i:Nat) (row:List AV),((rows.take H).drop L)[i]?=some row->rows[L+i]?=some row/\L+i < H:=by
    intro i row hi;rw[qby,qbc]at hi;split at hi
    .exact ⟨hi,by assumption⟩
    cases hi
   rw[<- hlen];refine .sl _ _ (fun i j=>u (L+i) j) g (q+L * es) om om (fun hnone=>?_) (fun row hrow=>hsz row (qcv (qdn hrow))) (fun hne=>?_) (fun i j row c hi hj=>?_) (fun i j row c hi hj=>?_)
   .split at hnone
    .omega
    cases ad with
    | none=>have:=ha rfl;omega
    | some x=>simp at hnone
   .have hpos:L < H:=by
     rcases qbh L H with h|h
     .exact h
     exact absurd (qax om) hne
    obtain⟨rfl,hok⟩:=hg (by intro h;simp[h]at hLH;omega);rw[if_neg om];exact⟨by simp[ymm],hok⟩
   .have h3:=hget i row hi;have h4:=hcell (L+i) j row c h3.1 hj;rw[show q+L * es+i * es+j=q+(L+i) * es+j by rw[qgg];omega];exact h4
   exact hrel (L+i) j row c (hget i row hi).1 hj
end
end
section
open Go.RowKit
section
variable{P:Program}{T:Nat->Option Ty}{N:Nat}{ops:Array Oper}{lf:Oper->Bool}{Q:SS->Prop}{t:List (Nat × AV)}{h:List (Nat × Option LObj)}{rest:List Oper}{d:Nat}{op:Op}{ty:TypeId}{pos:String}{af:Array Edge}{gd:Option (Nat × Bool)}{r:AV}
def yyk(place:Nat->Option (Nat × Nat)):List AV->List (Nat × AV)->Option (List AV)
 | xs,[]=>some xs
 | xs,(i,v)::rest=>match place i with
  | none=>none
  | some (off,size)=>match yec v with
   | none=>none
   | some cs=>match Nat.beq cs.length size with
    | false=>none
    | true=>match yjl off cs xs with
     | none=>none
     | some ys=>yyk place ys rest
theorem set_splice(l:List α)(m:Nat)(v:α)(vs:List α)(hle:m < l.length):(l.set m v).take (m+1)++vs++(l.set m v).drop (m+1+vs.length)=l.take m++v::vs++l.drop (m+(vs.length+1)):=by
 obtain⟨a,x,b,rfl,rfl⟩:∃ a x b,l=a++x::b/\m=a.length:=⟨l.take m,l[m],l.drop (m+1),sm,so⟩;rw[qbo _ _ (qbf _),qbm,qer];have e1:(a++v::b).take (a.length+1)=a++[v]:=by
  rw[List.take_append,qal om,show a.length+1 - a.length=1 by omega];rfl
 have e2:∀ y:α,(a++y::b).drop (a.length+1+vs.length)=b.drop vs.length:=by
  intro y;rw[List.drop_append,List.drop_of_length_le om,qcw,show a.length+1+vs.length - a.length=vs.length+1 by omega,qdp]
 rw[e1,e2,show a.length+(vs.length+1)=a.length+1+vs.length by omega,e2,List.take_left];simp
theorem zpq(off:Nat):∀ (vs:List Value) (k:Nat) (cells:Array Value),off+k+vs.length<=cells.size ->
  (vs.zipIdx k).foldl (fun cs (x:Value × Nat)=>cs.setIfInBounds (off+x.2) x.1) cells=(cells.toList.take (off+k)++vs++cells.toList.drop (off+k+vs.length)).toArray
 | [],k,cells,hle=>by simp
 | v::vs,k,cells,hle=>by
  simp only[qaj]at hle;simp only[List.zipIdx_cons,qcr];rw[zpq off vs (k+1) _ so,Array.toList_setIfInBounds,<- qdf,set_splice _ _ _ _ so,qaj]
theorem yvl{ok:Nat->Prop}{place place':Nat->Option (Nat × Nat)}(hpp:∀ i p,place i=some p->place' i=some p):∀ {xs:List AV} {parts:List (Nat × AV)} {us:List (Nat × Value)} {ys:List AV} {cells:List Value},yyk place xs parts=some ys->ybn ok w lv xs cells->(∀ c∈xs,yeb c=true) ->
  us.length=parts.length->(∀ (i:Nat) (p:Nat × AV) (u:Nat × Value),parts[i]?=some p->us[i]?=some u->u.1=p.1/\Rel ok w lv p.2 u.2) ->
  ∃ out:List Value,Instr.fill place' cells.toArray us=some out.toArray/\ybn ok w lv ys out/\∀ c∈ys,yeb c=true
 | xs,[],us,ys,cells,hf,hr,hc,hl,_=>by
  simp only[yyk,Option.some.injEq]at hf;subst hf;have:us=[]:=qax (by simpa using hl);subst this;exact⟨cells,rfl,hr,hc⟩
 | xs,(i,v)::parts,us,ys,cells,hf,hr,hc,hl,hp=>by
  match us,hl with
  | (i',u)::us,hl=>
   obtain⟨h1,h2⟩:=hp 0 _ _ rfl rfl;simp only at h1 h2;subst h1;simp only[yyk]at hf;split at hf
   .cases hf
   rename_i off size hpl;split at hf
   .cases hf
   rename_i cs hcs;split at hf
   .cases hf
   rename_i hsz;have hsz':cs.length=size:=qaf hsz;split at hf
   .cases hf
   rename_i zs hz;obtain⟨vs,g1,g2,g3⟩:=yye hcs h2;obtain⟨g4,g5⟩:=ylf hz;have hvl:vs.length=size:=by rw[g2.1,hsz']
   have hrel:ybn ok w lv zs (cells.take off++vs++cells.drop (off+vs.length)):=by
    refine⟨?_,fun j x u hx hu=>?_⟩
    .rw [g5];simp[hr.1,g2.1]
    subst g5;have hl1:(xs.take off).length=(cells.take off).length:=by simp[hr.1]
    by_cases b1:j < off
    .have c1:=hr.1;rw[qbd,qam so,qbc,if_pos b1]at hx;rw[qbd,qam so,qbc,if_pos b1]at hu;exact hr.2 j x u hx hu
    have c1:=hr.1;have e1:(xs.take off).length=off:=by simp;omega
    have e2:(cells.take off).length=off:=by simp;omega
    by_cases b2:j < off+cs.length
    .rw [qbd,qah om,e1,qam om]at hx;rw[qbd,qah om,e2,qam om]at hu;exact g2.2 _ x u hx hu
    rw[qah so,qby]at hx;rw[qah so,qby]at hu;simp only[qan,e1,e2]at hx hu;rw[hvl,<- hsz']at hu;exact hr.2 _ x u hx hu
   have hcz:∀ c∈zs,yeb c=true:=by
    subst g5;intro c hc';simp only[qat]at hc';rcases hc' with(hc'|hc')|hc'
    .exact hc c (qcv hc')
    .exact g3 c hc'
    exact hc c (qdn hc')
   obtain⟨out,o1,o2,o3⟩:=yvl hpp (us:=us) hf hrel hcz (by simpa using hl) fun j p q hj hq=>hp (j+1) p q (by simpa using hj) (by simpa using hq);refine⟨out,?_,o2,o3⟩;have hfit:off+vs.length<=cells.length:=by rw[hr.1,g2.1];exact g4
   simp only[Instr.fill,hpp _ _ hpl,g1];rw[if_neg (by simp[hvl];omega)];have:=zpq off vs 0 cells.toArray (by simpa using hfit);simp only[qdv]at this;have e:(vs.toArray.zipIdx.foldl (fun cs (x:Value × Nat)=>cs.setIfInBounds (off+x.2) x.1) cells.toArray)=(vs.zipIdx).foldl (fun cs (x:Value × Nat)=>cs.setIfInBounds (off+x.2) x.1) cells.toArray:=by
    rw[<- Array.foldl_toList];simp
   refine Eq.trans (congrArg (fun q=>Instr.fill place' q us) (e.trans this)) o1
def evP(ρ:Operand->Option AV):List (Nat × Operand)->Option (List (Nat × AV))
 | []=>some []
 | (i,x)::l=>match ρ x,evP ρ l with
  | some y,some ys=>some ((i,y)::ys)
  | _,_=>none
theorem zlc{ok:Nat->Prop}{ρ:Operand->Option AV}{a:Act}:∀ {l:List (Nat × Operand)} {ys:List (Nat × AV)},evP ρ l=some ys->(∀ x y,x∈l.map (·.2)->ρ x=some y->Rel ok w lv y (a.eval x)) ->
  (l.map fun p=>(p.1,a.eval p.2)).length=ys.length/\∀ (i:Nat) (p:Nat × AV) (u:Nat × Value),ys[i]?=some p->(l.map fun p=>(p.1,a.eval p.2))[i]?=some u->u.1=p.1/\Rel ok w lv p.2 u.2
 | [],ys,he,_=>by simp only[evP,Option.some.injEq]at he;subst he;exact⟨rfl,fun i p u h=>by simp at h⟩
 | (i,x)::l,ys,he,hr=>by
  simp only[evP]at he;split at he
  .rename_i y ys' h1 h2;simp only[Option.some.injEq]at he;subst he;obtain⟨h3,h4⟩:=zlc h2 fun z y hz=>hr z y (by simp at hz ⊢;exact .inr hz);refine⟨by simpa using h3,fun j p u hp hu=>?_⟩;cases j with
   | zero=>simp only[qas,Option.some.injEq,qce]at hp hu;subst hp hu;exact⟨rfl,hr x y sm h1⟩
   | succ j=>exact h4 j p u (by simpa using hp) (by simpa using hu)
  cases he
def xdv(fs:List (Nat × Nat × Bool))(i:Nat):Option (Nat × Nat):=match fs[i]? with
 | some (o,s,_)=>some (o,s)
 | none=>none
def zos(T:Nat->Option Ty)(ti:Nat)(ps:List (Nat × AV)):Option AV:=
 match T ti with
 | some ⟨.strct fs,_,_,z⟩=>match yyk (xdv fs) (yhw z) ps with
  | some ys=>some (.agg ys)
  | none=>none
 | some ⟨.arr _ es _,_,_,z⟩=>match yyk (fun i=>some (i * es,es)) (yhw z) ps with
  | some ys=>some (.agg ys)
  | none=>none
 | _=>none
theorem zzq{ok:Nat->Prop}(z:List Value):ybn ok w lv (yhw z) z:=by
 rw[ypd];exact⟨sm,fun i x u hx hu=>by rw[qak,hu]at hx;simp at hx;subst hx;exact .v u⟩
theorem yrn{z:List Value}(hz:z.all Value.oneCell'=true):∀ c∈yhw z,yeb c=true:=by
 rw[ypd];intro c hc;obtain⟨v,hv,rfl⟩:=qag.1 hc;exact List.all_eq_true.1 hz v hv
theorem places_run{ti:Nat}{fs:List (Nat × Nat × Bool)}(hk:ygb P ti (.strct fs)):∃ flds,P.underlying ti=some (.struct flds)/\∃ ps:Array (Nat × Nat),(flds.mapM fun f=>do pure (f.offset,<- sizeOf f.type):Sem (Array (Nat × Nat))).run P w=.ok ps w/\∀ i p,xdv fs i=some p->ps[i]?=some p:=by
 obtain⟨flds,h1,h2,h3⟩:=hk;refine⟨flds,h1,?_⟩;obtain⟨fl⟩:=flds;simp only[qdg]at h2;have key:∀ (fl:List Field) (fs:List (Nat × Nat × Bool)),fl.length=fs.length->(∀ (i o s:Nat) (ag:Bool),fs[i]?=some (o,s,ag)->∃ f,fl[i]?=some f/\f.offset=o/\yix P f.type s ag/\s≠0) ->
   (fl.mapM (fun f=>do pure (f.offset,<- sizeOf f.type):Field->Sem (Nat × Nat))).run P w=.ok (fs.map fun x=>(x.1,x.2.1)) w:=by
  intro fl;induction fl with
  | nil=>intro fs hl _;have:fs=[]:=qax (by simpa using hl.symm);subst this;simp
  | cons f fl ih=>
   intro fs hl hg
   match fs,hl with
   | (o,s,ag)::fs,hl=>
    obtain⟨f',h4,h5,h6,_⟩:=hg 0 o s ag rfl;simp only[qas,Option.some.injEq]at h4;subst h4;have h7:=(h6.run (w:=w)).1;have h8:=ih fs (by simpa using hl) fun i o s ag hi=>by simpa using hg (i+1) o s ag (by simpa using hi)
    simp only[List.mapM_cons,Sem.run_bind,h7,Result.andThen_ok,Sem.run_pure,h8,h5,qce]
 have e2:(List.toArray <$> fl.mapM (fun f=>do pure (f.offset,<- sizeOf f.type):Field->Sem (Nat × Nat)))=(fl.mapM (fun f=>do pure (f.offset,<- sizeOf f.type):Field->Sem (Nat × Nat)) >>= fun l=>pure l.toArray):=rfl;refine⟨(fs.map fun x=>(x.1,x.2.1)).toArray,?_,fun i p hp=>?_⟩
 .rw [List.mapM_toArray,e2];simp only[Sem.run_bind,key fl fs h2 (fun i o s ag hi=>by obtain⟨f,g1,g2⟩:=h3 i o s ag hi;exact⟨f,by simpa using g1,g2⟩),Result.andThen_ok,Sem.run_pure]
 unfold xdv at hp;split at hp
 .rename_i o s ag hi;simp only[Option.some.injEq]at hp;subst hp;simp[hi]
 cases hp
theorem zgp(hT:TOK P T){hp:Nat->Option LObj}{ρ:Operand->Option AV}{ti:Nat}{y:Ty}{parts:List (Nat × Operand)}{ps:List (Nat × AV)}(hy:T ti=some y)(hone:y.zero.all Value.oneCell'=true)(hps:evP ρ parts=some ps)(hr:zos T ti ps=some r):ybu P hp ρ (.build ti parts.toArray) ty r:=
 yay fun B ok0 lv w a o ho hty hi hops=>by
  obtain⟨h1,h2⟩:=zlc (ok:=yba B ok0 lv w) (w:=w) (lv:=lv) (a:=a) hps fun x y hx hxy=>hops x y (by simp only[Op.operands];simpa using hx) hxy;obtain⟨zv,hz1,hz2⟩:=(hT _ _ hy).2.1.run (w:=w);have hk:=(hT _ _ hy).2.2;unfold zos at hr;rw[hy]at hr;obtain⟨kind,size,ag,zero⟩:=y;simp only at hz2 hk hone hr;have hz2':zv.cells=zero.toArray:=hz2;cases kind with
  | strct fs=>
   simp only at hr;split at hr
   .rename_i ys hf;simp only[Option.some.injEq]at hr;subst hr;obtain⟨flds,hu,pl,hpl,hpp⟩:=places_run (w:=w) hk;obtain⟨out,g1,g2,g3⟩:=yvl (place':=(pl[·]?)) hpp hf (zzq zero) (yrn hone) h1 h2;refine⟨.agg out.toArray,?_,.agg out g2.1 g3 g2.2⟩;simp only[execOp,ho,Instr.build,Sem.run_bind,hz1,Result.andThen_ok,run_underlying hu,hpl,hz2'];have e:(parts.toArray.map fun x=>(x.1,a.eval x.2)).toList=parts.map fun x=>(x.1,a.eval x.2):=by simp
    have e':Instr.fill (pl[·]?) zero.toArray (parts.toArray.map fun x=>(x.1,a.eval x.2)).toList=some out.toArray:=by rw[e];exact g1
    simp only[e',Sem.run_pure,Result.andThen_ok]
   cases hr
  | arr n es ea=>
   simp only at hr;split at hr
   .rename_i ys hf;simp only[Option.some.injEq]at hr;subst hr;obtain⟨e,hu,hs⟩:=hk;obtain⟨out,g1,g2,g3⟩:=yvl (place':=fun i=>some (i * es,es)) (fun i p h=>h) hf (zzq zero) (yrn hone) h1 h2;refine⟨.agg out.toArray,?_,.agg out g2.1 g3 g2.2⟩;simp only[execOp,ho,Instr.build,Sem.run_bind,hz1,Result.andThen_ok,run_underlying hu,(hs.run (w:=w)).1,hz2'];have e:(parts.toArray.map fun x=>(x.1,a.eval x.2)).toList=parts.map fun x=>(x.1,a.eval x.2):=by simp
    have e':Instr.fill (fun i=>some (i * es,es)) zero.toArray (parts.toArray.map fun x=>(x.1,a.eval x.2)).toList=some out.toArray:=by rw[e];exact g1
    simp only[e',Sem.run_pure,Result.andThen_ok]
   cases hr
  | _=>simp at hr
theorem L_build(hT:TOK P T){ti:Nat}{y:Ty}{parts:List (Nat × Operand)}{ps:List (Nat × AV)}(hy:T ti=some y)(hone:y.zero.all Value.oneCell'=true)(hps:evP (evF (yak t)) parts=some ps)(hr:zos T ti ps=some r)
  (hw:yam ops (yak t) ⟨some d,.build ti parts.toArray,ty,pos,af,gd⟩=some true) (hd:Nat.blt d N=true) (k:Lex P N ops lf Q rest (S ((d,r)::t) h)):Lex P N ops lf Q (⟨some d,.build ti parts.toArray,ty,pos,af,gd⟩::rest) (S t h):=
 ycm (zgp hT hy hone hps hr) hw hd k
def ykx:Nat->List AV->List AV
 | 0,_=>[]
 | n+1,z=>z++ykx n z
theorem repA_len(n:Nat)(z:List AV):(ykx n z).length=n * z.length:=by
 induction n with
 | zero=>simp[ykx]
 | succ n ih=>rw[ykx,qan,ih,qdi,qda]
theorem zyn{z:List AV}:∀ {n i:Nat} {x:AV},(ykx n z)[i]?=some x->z[i % z.length]?=some x
 | 0,i,x,hx=>by simp[ykx]at hx
 | n+1,i,x,hx=>by
  simp only[ykx]at hx;rcases qbh i z.length with h1|h1
  .rw [qam h1]at hx;rw[qeq h1];exact hx
  rw[qah h1]at hx;have:=zyn hx
  rwa [<- Nat.mod_eq_sub_mod h1]at this
theorem zmu{ok:Nat->Prop}{z:List Value}(n:Nat)(hz:0 < z.length):ybn ok w lv (ykx n (yhw z)) (madeCells z.toArray (n * z.length)).toList:=by
 refine⟨by simp[madeCells,repA_len,ypd],fun i x u hx hu=>?_⟩;have h1:=zyn hx;simp only[madeCells,Array.getElem?_toList,Array.getElem?_map,ypd,qai]at hu h1;cases hi:(Array.range (n * z.length))[i]? with
 | none=>simp[hi]at hu
 | some j=>
  have hj:j=i:=by
   have:=qaz.1 hi;simpa using this.2.symm
  subst hj;simp only[hi,qav,Option.some.injEq]at hu;have hm:j % z.length < z.length:=Nat.mod_lt _ hz;rw[qak]at h1;have e:z.toArray[j % z.toArray.size]! = z[j % z.length]:=by simp[hm]
  rw[e]at hu;rw[qae hm]at h1;simp only[qav,Option.some.injEq]at h1;subst h1 hu;exact .v _
theorem ywv{z:List AV}(hz:∀ c∈z,yeb c=true):∀ n,∀ c∈ykx n z,yeb c=true
 | 0,c,hc=>by simp[ykx]at hc
 | n+1,c,hc=>by
  simp only[ykx,qat]at hc;rcases hc with hc|hc
  .exact hz c hc
  exact ywv hz n c hc
def ypk(size:Nat):Nat->List AV->Option (List (List AV))
 | 0,[]=>some []
 | 0,_::_=>none
 | n+1,xs=>match zgg size xs with
  | none=>none
  | some row=>match ypk size n (xs.drop size)with
   | none=>none
   | some rows=>some (row::rows)
theorem zjy:∀ {n:Nat} {xs ys:List AV},zgg n xs=some ys->ys=xs.take n
 | 0,xs,ys,h=>by simp only[zgg,Option.some.injEq]at h;subst h;simp
 | n+1,[],ys,h=>by simp[zgg]at h
 | n+1,x::xs,ys,h=>by
  simp only[zgg]at h;split at h
  .rename_i zs hz;simp only[Option.some.injEq]at h;subst h;simp[zjy hz]
  cases h
theorem yos{size:Nat}:∀ {n:Nat} {xs:List AV} {rows:List (List AV)},ypk size n xs=some rows->rows.length=n/\(∀ row∈rows,row.length=size)/\rows.flatten=xs
 | 0,[],rows,h=>by simp only[ypk,Option.some.injEq]at h;subst h;simp
 | 0,_::_,rows,h=>by simp[ypk]at h
 | n+1,xs,rows,h=>by
  simp only[ypk]at h;split at h
  .cases h
  rename_i row hr;split at h
  .cases h
  rename_i rows' hrs;simp only[Option.some.injEq]at h;subst h;obtain⟨h1,h2,h3⟩:=yos hrs;refine⟨by simp[h1],fun row' hm=>?_,?_⟩
  .rcases qaq.1 hm with rfl|hm
   .exact (ysu hr).1
   exact h2 row' hm
  rw[qcc,h3,zjy hr,qcd]
theorem zdq{size:Nat}:∀ {rows:List (List AV)},(∀ row∈rows,row.length=size)->∀ (i j:Nat) (row:List AV) (x:AV),rows[i]?=some row->row[j]?=some x->rows.flatten[i * size+j]?=some x
 | [],_,i,j,row,x,h,_=>by simp at h
 | r::rows,hs,i,j,row,x,hrow,hx=>by
  have hr:=hs r sm;rw[qcc];cases i with
  | zero=>
   simp at hrow;subst hrow;rw[qhg,qay,qam (qaa.1 hx).1];exact hx
  | succ i=>
   rw[qdi,qah (by rw[hr];omega),hr,show i * size+size+j - size=i * size+j by omega];exact zdq (fun r h=>hs r (by simp[h])) i j row x (by simpa using hrow) hx
theorem rel_new{ok0:Nat->Prop}{hp:Nat->Option LObj}{e size len:Nat}{rows:List (List AV)}{ys:List AV}{out:List Value}(hi:Inv B ok0 hp lv w)(hr:ybn (yba B ok0 lv w) w lv ys out)(hc:∀ c∈ys,yeb c=true)(hpu:yas.pureL ys=true)(hlen:rows.length=len)(hsz:∀ row∈rows,row.length=size)(hfl:rows.flatten=ys)(hmax:len<=maxLen):
  Rel (yba B ok0 lv (w.alloc (.cells out.toArray e))) (w.alloc (.cells out.toArray e)) lv (.sl size rows) (.slice (some ⟨w.heap.size,0,none⟩) len len):=by
 subst hlen;have hb:=ydw w (.cells out.toArray e);have hcell:∀ (i j:Nat) (row:List AV) (x:AV),rows[i]?=some row->row[j]?=some x->∃ u,out[i * size+j]?=some u/\Rel (yba B ok0 lv w) w lv x u/\yeb x=true/\yas x=true:=by
  intro i j row x h1 h2;have h3:=zdq hsz i j row x h1 h2;rw[hfl]at h3;obtain⟨u,hu⟩:∃ u,out[i * size+j]?=some u:=⟨_,qae (by rw[hr.1];exact(qaa.1 h3).1)⟩;exact⟨u,hu,hr.2 _ x u h3 hu,hc x (qab h3),ylz hpu x (qab h3)⟩
 refine .sl _ _ (fun i j=>out.getD (i * size+j) undef) w.heap.size 0 (qbf _) hmax (fun h=>by cases h) hsz (fun _=>⟨rfl,.inr (.inr hi.base.size),sm,fun id b n hb=>by have:=hi.lvlt hb;omega⟩) (fun i j row x h1 h2=>?_) (fun i j row x h1 h2=>?_)
 .obtain ⟨u,hu,_,h5,_⟩:=hcell i j row x h1 h2;refine⟨?_,h5⟩;simp only[World.cell?,ydr];simp[hu]
 obtain⟨u,hu,h4,_,h6⟩:=hcell i j row x h1 h2;have:out.getD (i * size+j) undef=u:=by simp[hu]
 simp only[this];exact(h4.relive fun id b n hb _=>by cases hb).keep (yba.grow hb)
theorem ykl(hT:TOK P T){hp:Nat->Option LObj}{ρ:Operand->Option AV}{ti e es eb sz len:Nat}{ea ag:Bool}{ez z:List Value}{parts:List (Nat × Operand)}{ps:List (Nat × AV)}{ys:List AV}{rows:List (List AV)}(hk:T ti=some ⟨.slc e es ea eb ez,sz,ag,z⟩)(hone:ez.all Value.oneCell'=true)(hps:evP ρ parts=some ps)
  (hf:yyk (fun i=>some (i * es,es)) (ykx len (yhw ez)) ps=some ys) (hpu:yas.pureL ys=true) (hch:ypk es len ys=some rows) (hlim:Nat.ble (len * es) 16777216=true):ybu P hp ρ (.buildSlice ti len parts.toArray) ty (.sl es rows):=by
 intro B ok0 lv w a o ho hty hi hops K Q' hK;obtain⟨h1,h2⟩:=zlc (ok:=yba B ok0 lv w) (w:=w) (lv:=lv) (a:=a) hps fun x y hx hxy=>hops x y (by simp only[Op.operands];simpa using hx) hxy;obtain⟨hu,hs,_,hz,hzl,hpos⟩:=(hT _ _ hk).2.2;obtain⟨zv,hz1,hz2⟩:=hz.run (w:=w);obtain⟨out,g1,g2,g3⟩:=yvl (place':=fun i=>some (i * es,es)) (fun i p h=>h) hf (zmu (z:=ez) len om) (ywv (yrn hone) len) h1 h2;obtain⟨c1,c2,c3⟩:=yos hch;have hlim':len * es<=16777216:=by simpa using hlim
 have hlen:len<=len * es:=Nat.le_mul_of_pos_right _ hpos;have hrun:(execOp a.eval o).run P w=.ok (.value (.slice (some ⟨w.heap.size,0,none⟩) len len)) (w.alloc (.cells out.toArray e)):=by
  have e':Instr.fill (fun i=>some (i * es,es)) (madeCells ez.toArray (len * es)) (parts.toArray.map fun x=>(x.1,a.eval x.2)).toList=some out.toArray:=by
   have:(madeCells ez.toArray (len * ez.length)).toList.toArray=madeCells ez.toArray (len * es):=by rw[hzl]
   rw[<- this];have e:(parts.toArray.map fun x=>(x.1,a.eval x.2)).toList=parts.map fun x=>(x.1,a.eval x.2):=by simp
   rw[e];exact g1
  unfold madeCells at e';have n1:¬ (len * es > 2 ^ 24):=by omega
  by_cases h0:len * es=0
  .have hl0:len=0:=by omega
   subst hl0;simp only[qhg,Array.range_zero',Array.map_empty]at e';simp[execOp,ho,Instr.buildSlice,run_underlying hu,(hs.run (w:=w)).1,newRow,Array.range_zero'];simp at e';rw[e'];simp
  simp only[execOp,ho,Instr.buildSlice,Sem.run_bind,run_underlying hu,(hs.run (w:=w)).1,Result.andThen_ok,if_neg n1,if_neg h0,hz1,hz2,Sem.run_pure,e',newRow];simp
 unfold Oper.wp;rw[hrun];exact hK _ _ (rel_new hi g2 g3 hpu c1 c2 c3 (by unfold maxLen;omega)) (hi.grow (ydw w _)) (ydw w _)
theorem L_buildSlice(hT:TOK P T){ti e es eb sz len:Nat}{ea ag:Bool}{ez z:List Value}{parts:List (Nat × Operand)}{ps:List (Nat × AV)}{ys:List AV}{rows:List (List AV)}(hk:T ti=some ⟨.slc e es ea eb ez,sz,ag,z⟩)(hone:ez.all Value.oneCell'=true)(hps:evP (evF (yak t)) parts=some ps)
  (hf:yyk (fun i=>some (i * es,es)) (ykx len (yhw ez)) ps=some ys) (hpu:yas.pureL ys=true) (hch:ypk es len ys=some rows) (hlim:Nat.ble (len * es) 16777216=true)
  (hw:yam ops (yak t) ⟨some d,.buildSlice ti len parts.toArray,ty,pos,af,gd⟩=some true) (hd:Nat.blt d N=true) (k:Lex P N ops lf Q rest (S ((d,.sl es rows)::t) h)):Lex P N ops lf Q (⟨some d,.buildSlice ti len parts.toArray,ty,pos,af,gd⟩::rest) (S t h):=
 ycm (ykl hT hk hone hps hf hpu hch hlim) hw hd k
end
end
section
open Go.RowKit
section
variable{P:Program}{T:Nat->Option Ty}{N:Nat}{ops:Array Oper}{lf:Oper->Bool}{Q:SS->Prop}{t:List (Nat × AV)}{h:List (Nat × Option LObj)}{rest:List Oper}{d:Nat}{op:Op}{ty:TypeId}{pos:String}{af:Array Edge}{gd:Option (Nat × Bool)}{r:AV}
theorem zfh{z:List Value}:∀ n,∀ c∈ykx n (yhw z),yas c=true
 | 0,c,hc=>by simp[ykx]at hc
 | n+1,c,hc=>by
  simp only[ykx,qat]at hc;rcases hc with hc|hc
  .rw [ypd]at hc;obtain⟨v,_,rfl⟩:=qag.1 hc;rfl
  exact zfh n c hc
theorem ywb(hT:TOK P T){o:Oper}{ti e es eb sz:Nat}{ea ag:Bool}{ez z:List Value}{m:Nat}{s:SS}(ho:o.op=.makeSlice ti x y)(hd:o.dst=some d)(hdN:d < N)(id:Nat)(hk:T ti=some ⟨.slc e es ea eb ez,sz,ag,z⟩)(hone:ez.all Value.oneCell'=true)(hx:evF s.t x=some (.v (.int .i64 m)))(hy:evF s.t y=some (.v (.int .i64 m)))(hm:m<=4294967296/\eb * m<=281474976710656)(hf:ymi s id):
  ybp P N o s (·=⟨yee s.t (some d) (.ls id es m),yei s.h id (some (.vec (ykx m (yhw ez))))⟩):=by
 intro B ok0 lv a w hs Q;obtain⟨hu,hsz,hby,hz,hzl,hpos⟩:=(hT _ _ hk).2.2;have e1:=ykw (hs.eval hx);have e2:=ykw (hs.eval hy);obtain⟨i,hi,hisz,hiby,zv,hiz,hizc⟩:∃ i,P.info? e=some i/\i.size=es/\i.bytes=eb/\∃ zv,i.zero=some zv/\zv.cells=ez.toArray:=by
  cases hi:P.info? e with
  | none=>simp[hi]at hby
  | some i=>
   have h1:=hsz.1;unfold yte at hz;simp only[hi,qav,Option.some.injEq]at hby h1 hz;cases hzz:i.zero with
   | none=>simp[hzz]at hz
   | some zv=>simp only[hzz,qav,Option.some.injEq]at hz;exact⟨i,rfl,h1,hby,zv,hzz,hz⟩
 have hb':(i.bytes:Int) * (m:Int)<=281474976710656:=by
  have h:((i.bytes * m:Nat):Int)<=281474976710656:=by rw[hiby];omega
  rwa [Int.natCast_mul]at h
 have hrun0:=run_make (P:=P) w ti e i zv hu hi hiz .i64 .i64 m m om om hb' om;simp only[qcl,hisz,hizc]at hrun0;have hrun:(execOp a.eval o).run P w=.ok (.value (.slice (some ⟨w.heap.size,0,none⟩) m m)) (w.alloc (.cells (madeCells ez.toArray (m * es)) e)):=by
  simp[execOp,ho,e1,e2,hrun0]
 unfold Oper.wp;rw[hrun];have hra:=zmu (ok:=yba B ok0 lv w) (w:=w) (lv:=lv) (z:=ez) m om;have hnew:=hs.newBlock (ob:=.vec (ykx m (yhw ez))) (n:=m * es) hf (ydw w (.cells (madeCells ez.toArray (m * es)) e)) sm rfl (fun h=>by cases h)
  (fun ok' lv' g1 g2=>⟨yyd (extra:=[]) (e:=e) (by simp[madeCells,hzl]) (by rw[ydr,hzl];simp) hra (ywv (yrn hone) m) ok' lv' g1 (fun i b mm hb hmm=>by
   obtain⟨c,hc,hcm⟩:∃ c∈ykx m (yhw ez),ment i c=true:=by
    generalize ykx m (yhw ez)=l at hmm
    induction l with
    | nil=>simp[ment.mentL]at hmm
    | cons a l ih=>
     simp only[ment.mentL,qck]at hmm
     rcases hmm with h|h
     .exact ⟨a,sm,h⟩
     obtain⟨c,h1,h2⟩:=ih h;exact⟨c,by simp[h1],h2⟩
   rw[yas.ment (zfh m c hc)]at hcm;cases hcm),zfh m⟩)
 simp only[Oper.upon,hd];refine⟨_,_,rfl,hnew.putOnly hdN (.ls _ rfl fun b n hb=>?_)⟩;simp only[yke,if_true,Option.some.injEq,Prod.mk.injEq]at hb;obtain⟨rfl,rfl⟩:=hb;exact⟨m,rfl,qbf _,by unfold maxLen;omega,rfl⟩
theorem yph(hT:TOK P T){ti e es eb sz:Nat}{ea ag:Bool}{ez z:List Value}{m:Nat}(hk:T ti=some ⟨.slc e es ea eb ez,sz,ag,z⟩)(hone:ez.all Value.oneCell'=true)(hx:evF (yak t) x=some (.v (.int .i64 m)))(hy:evF (yak t) y=some (.v (.int .i64 m)))(hm:m<=4294967296/\eb * m<=281474976710656)(h1:ydl d t=true)(h2:ybs d h=true)(hl:lf ⟨some d,.makeSlice ti x y,ty,pos,af,gd⟩=true)(hw:yam ops (yak t) ⟨some d,.makeSlice ti x y,ty,pos,af,gd⟩=some true)(hd:Nat.blt d N=true)(k:Lex P N ops lf Q rest (S ((d,.ls d es m)::t) ((d,some (.vec (ykx m (yhw ez))))::h))):Lex P N ops lf Q (⟨some d,.makeSlice ti x y,ty,pos,af,gd⟩::rest) (S t h):=
 yef hl hw (by rw[<- ytz];exact ywb hT rfl rfl (by simpa using hd) d hk hone hx hy hm (ygc h1 h2)) k
def ymh(ob ob':LObj):Prop:=ob'=ob\/(∃ xs ys,ob=.cells xs/\ob'=.cells ys/\ys.length=xs.length/\∀ (j:Nat) (x y:AV),xs[j]?=some x->ys[j]?=some y->y=x\/y=.one)\/∃ e xs ys,ob=.tcells e xs/\ob'=.tcells e ys/\ys.length=xs.length/\∀ (j:Nat) (x y:AV),xs[j]?=some x->ys[j]?=some y->y=x\/y=.one
theorem Sim.forg{ok0:Nat->Prop}{s:SS}{a:Act}(hs:Sim B ok0 N s lv a w){s':SS}(ht:∀ x y,s'.t x=some y->y=.any\/s.t x=some y)(hlt:∀ x y,s'.t x=some y->∃ z,s.t x=some z)(hh:∀ j ob',s'.h j=some ob'->∃ ob,s.h j=some ob/\ymh ob ob'):
  ∃ lv',Sim B ok0 N s' lv' a w/\(∀ j b n,lv' j=some (b,n)->lv j=some (b,n))/\(∀ j,(s'.h j).isSome->lv' j=lv j)/\∀ g,yba B ok0 lv w g->yba B ok0 lv' w g:=by
 have hsub:∀ id b n,(fun id=>if (s'.h id).isSome then lv id else none) id=some (b,n)->lv id=some (b,n):=by
  intro id b n hb;simp only at hb;split at hb
  .exact hb
  cases hb
 have hok:∀ g,yba B ok0 lv w g->yba B ok0 (fun id=>if (s'.h id).isSome then lv id else none) w g:=fun g hg=>⟨hg.1,hg.2.1,fun id b n hb=>hg.2.2 id (b) n (hsub id _ n hb)⟩;refine⟨fun id=>if (s'.h id).isSome then lv id else none,⟨⟨hs.inv.base,hs.inv.ok0lt,fun id hn=>by simp[hn],fun i j b n m h1 h2=>hs.inv.inj i j b n m (hsub _ _ _ h1) (hsub _ _ _ h2),fun id x hx=>?_⟩,hs.size,fun x y hy=>?_,hs.defers,hs.big,?_⟩,hsub,fun j hj=>by simp[hj],hok⟩
 .obtain ⟨ob,hob,hfo⟩:=hh id x hx;obtain⟨b,n,h1,h2⟩:=hs.inv.obj id ob hob;refine⟨b,n,by simp[hx,h1],?_⟩;rcases hfo with rfl|⟨xs,ys,rfl,rfl,hl,hxy⟩|⟨te,xs,ys,rfl,rfl,hl,hxy⟩
  .cases b with
   | none=>exact h2
   | some b=>exact⟨h2.1,h2.2.1,(h2.2.2.relive fun id b n hb _=>hsub id b n hb).keep (fun g hg=>⟨hok g hg,rfl⟩) rfl⟩
  .cases b with
   | none=>simp[yge]at h2
   | some b=>
    obtain⟨h3,h4,c,e,g1,g2,g3,g4,g5⟩:=h2;refine⟨h3,h4,c,e,g1,g2,om,fun y hy=>?_,fun j y u hy hu=>?_⟩
    .obtain ⟨j,hj⟩:=qao hy;obtain⟨x,hx⟩:∃ x,xs[j]?=some x:=⟨_,qae (by have:=(qaa.1 hj).1;omega)⟩;rcases hxy j x y hx hj with rfl|rfl
     .exact g4 _ (qab hx)
     rfl
    obtain⟨x,hx⟩:∃ x,xs[j]?=some x:=⟨_,qae (by have:=(qaa.1 hy).1;omega)⟩;rcases hxy j x y hx hy with rfl|rfl
    .exact ((g5 j _ u hx hu).relive fun id b n hb _=>hsub id b n hb).keep fun g hg=>⟨hok g hg,rfl⟩
    exact .one _ ((g5 j x u hx hu).oneCell (g4 x (qab hx)))
  cases b with
  | none=>simp[yge]at h2
  | some b=>
   obtain⟨h3,h4,⟨c,e,g1,g2,g3,g4,g5⟩,hsh⟩:=h2;refine⟨h3,h4,⟨c,e,g1,g2,om,fun y hy=>?_,fun j y u hy hu=>?_⟩,by rw[hl];exact hsh⟩
   .obtain ⟨j,hj⟩:=qao hy;obtain⟨x,hx⟩:∃ x,xs[j]?=some x:=⟨_,qae (by have:=(qaa.1 hj).1;omega)⟩;rcases hxy j x y hx hj with rfl|rfl
    .exact g4 _ (qab hx)
    rfl
   obtain⟨x,hx⟩:∃ x,xs[j]?=some x:=⟨_,qae (by have:=(qaa.1 hy).1;omega)⟩;rcases hxy j x y hx hy with rfl|rfl
   .exact ((g5 j _ u hx hu).relive fun id b n hb _=>hsub id b n hb).keep fun g hg=>⟨hok g hg,rfl⟩
   exact .one _ ((g5 j x u hx hu).oneCell (g4 x (qab hx)))
 .obtain ⟨z,hz⟩:=hlt x y hy;refine⟨(hs.frame x z hz).1,?_⟩;rcases ht x y hy with rfl|hy'
  .exact .any _
  exact((hs.frame x y hy').2.relive fun id b n hb _=>hsub id b n hb).keep fun g hg=>⟨hok g hg,rfl⟩
 intro id b o hN hx hc hb;obtain⟨ob,hob,hfo⟩:=hh id _ hx;have hc':isC ob=true:=by
  rcases hfo with rfl|⟨xs',ys',rfl,_,_⟩|⟨e,xs',ys',rfl,_,_⟩
  .exact hc
  .rfl
  rfl
 obtain⟨n,hn⟩:=hs.pin id b ob hN hob hc' hb;exact⟨n,by simp[hx,hn]⟩
theorem ypp(ti ty e e':TypeId)(i:TypeInfo)(ht:P.underlying ti=some (.slice e))(hi:P.info? e=some i)(g sLen sCap:Nat)(cur:Array Value)(hg:w.heap[g]?=some (.cells cur e' (0,0)))(a:Addr)(m c:Nat)(news:List Value)(hl:news.length=m * i.size)(hnews:∀ (j:Nat) (u:Value),news[j]?=some u->w.cell? (a.add j)=some u)(h1:∀ u∈news,u.oneCell'=true)(hroom:sLen+m<=sCap)(hfit:sLen * i.size+news.length<=cur.size):
  (Builtin.append_ #[ti,ti] ty #[.slice (some ⟨g,0,none⟩) sLen sCap,.slice (some a) m c]).run P w=.ok (.slice (some ⟨g,0,none⟩) (sLen+m) sCap) (w.setRow g (cur.toList.take (sLen * i.size)++news++cur.toList.drop (sLen * i.size+news.length)).toArray):=by
 have hf:=run_firstCells_some (P:=P) w i.size m a m c news hl hnews;have hst:=run_storeCells_at P g (sLen * i.size) e' news 0 cur w hg (by simpa using hfit) h1;simp only[qdv]at hst;simp[Builtin.append_,run_underlying ht,sizeOf,typeInfo,hi,Builtin.lenOf,hroom,hf,Addr.add_lit,hst]
theorem yip(ti ty e:TypeId)(i:TypeInfo)(ht:P.underlying ti=some (.slice e))(hi:P.info? e=some i)(base ao:Option Addr)(sLen sCap c:Nat)(hle:sLen<=sCap):
  (Builtin.append_ #[ti,ti] ty #[.slice base sLen sCap,.slice ao 0 c]).run P w=.ok (.slice base sLen sCap) w:=by
 cases ao <;> cases base <;> simp[Builtin.append_,run_underlying ht,sizeOf,typeInfo,hi,Builtin.lenOf,hle,Builtin.firstCells,loadCells,loadCellsFrom,storeCells]
def xfp(ok:Nat->Prop)(w:World)(size m:Nat)(cs:List AV)(u:Value):Prop:=
 ∃ (ao:Option Addr) (c:Nat) (news:List Value),u=.slice ao m c/\news.length=m * size/\ybn ok w (fun _=>none) cs news/\(0 < m->∃ g o,ao=some ⟨g,o,none⟩/\∀ (j:Nat) (v:Value),news[j]?=some v->w.cell? ((⟨g,o,none⟩:Addr).add j)=some v)
theorem yxb{ok:Nat->Prop}{size:Nat}{rows:List (List AV)}{u:Value}(hr:Rel ok w lv (.sl size rows) u):xfp ok w size rows.length rows.flatten u/\∀ c∈rows.flatten,yeb c=true:=by
 cases hr with
 | sl ad cap f g q hn hc ha hsz hg hcell hrel=>
  have hlen:rows.flatten.length=rows.length * size:=by
   clear hcell hrel hg hn;induction rows with
   | nil=>simp
   | cons r rows ih=>rw[qcc,qan,hsz r sm,ih (fun r h=>hsz r (by simp[h])),qaj,qdi,qda]
  have hdiv:∀ (j:Nat) (x:AV),rows.flatten[j]?=some x->∃ i k row,rows[i]?=some row/\row[k]?=some x/\j=i * size+k:=by
   clear hcell hrel hg hn hlen;induction rows with
   | nil=>intro j x h;simp at h
   | cons r rows ih=>
    intro j x hj;rw[qcc]at hj;have hr:=hsz r sm;rcases qbh j r.length with h1|h1
    .rw [qam h1]at hj;exact⟨0,j,r,rfl,hj,om⟩
    rw[qah h1]at hj;obtain⟨i,k,row,g1,g2,g3⟩:=ih (fun r h=>hsz r (by simp[h])) _ x hj;exact⟨i+1,k,row,by simpa using g1,g2,by rw[qdi];omega⟩
  refine⟨⟨ad,cap,(List.range (rows.length * size)).map fun j=>f (j / size) (j % size),rfl,sm,⟨by simp[hlen],fun j x u hx hu=>?_⟩,fun hm=>?_⟩,fun c hc'=>?_⟩
  .obtain ⟨i,k,row,g1,g2,rfl⟩:=hdiv j x hx;have hk:k < size:=by have:=(qaa.1 g2).1;rw[hsz row (qab g1)]at this;exact this
   have hlt:i * size+k < rows.length * size:=by have:=(qaa.1 hx).1;omega
   rw[qak,qcf hlt]at hu;simp only[qav,Option.some.injEq]at hu;have e1:(i * size+k) / size=i:=by rw[qda,qhd _ _ om,qgy hk,qay]
   have e2:(i * size+k) % size=k:=by rw[qda,qgf,qeq hk]
   rw[e1,e2]at hu;subst hu;exact hrel i k row x g1 g2
  .obtain ⟨rfl,_⟩:=hg (by intro h;simp[h]at hm);refine⟨g,q,rfl,fun j v hv=>?_⟩;have hlt:=(qaa.1 hv).1;simp only[qai,qds]at hlt;rw[qak,qcf hlt]at hv;simp only[qav,Option.some.injEq]at hv;obtain⟨x,hx⟩:∃ x,rows.flatten[j]?=some x:=⟨_,qae om⟩;obtain⟨i,k,row,g1,g2,rfl⟩:=hdiv j x hx;have hk:k < size:=by have:=(qaa.1 g2).1;rw[hsz row (qab g1)]at this;exact this
   have e1:(i * size+k) / size=i:=by rw[qda,qhd _ _ om,qgy hk,qay]
   have e2:(i * size+k) % size=k:=by rw[qda,qgf,qeq hk]
   rw[e1,e2]at hv;subst hv;rw[ymm,<- qdf];exact(hcell i k row x g1 g2).1
  obtain⟨j,hj⟩:=qao hc';obtain⟨i,k,row,g1,g2,_⟩:=hdiv j c hj;exact(hcell i k row c g1 g2).2
theorem blk_app{ok0:Nat->Prop}{w':World}{b n size len:Nat}{xs cs:List AV}{news:List Value}{c:Array Value}{e:TypeId}(g2:c.size=n)(g3:xs.length=len * size)(g4:∀ x∈xs,yeb x=true)(g5:∀ (j:Nat) (x:AV) (u:Value),xs[j]?=some x->c[j]?=some u->Rel (yba B ok0 lv w) w lv x u)(hr:ybn (yba B ok0 lv w) w (fun _=>none) cs news)(hc:∀ x∈cs,yeb x=true)(hp:∀ x∈cs,yas x=true)(hfit:len * size+news.length<=n)(hw:w'.heap[b]?=some (.cells (c.toList.take (len * size)++news++c.toList.drop (len * size+news.length)).toArray e (0,0)))(ok':Nat->Prop)(hk:∀ g,yba B ok0 lv w g->ok' g/\w'.heap[g]?=w.heap[g]?):yhd ok' lv w' b n (xs++cs):=by
 have hl:=hr.1;refine⟨_,e,hw,so,by simp[g3];omega,fun x hx=>?_,fun j x u hx hu=>?_⟩
 .rcases qat.1 hx with hx|hx
  .exact g4 x hx
  exact hc x hx
 simp only[qeh]at hu;have e2:(c.toList.take (len * size)).length=len * size:=by simp;omega
 by_cases h1:j < len * size
 .rw [qam om]at hx;rw[qbd,qam om,qbc,if_pos h1]at hu;exact(g5 j x u hx (by simpa using hu)).keep hk
 rw[qah om,g3]at hx;have hlt:=(qaa.1 hx).1;rw[qbd,qah om,e2,qam om]at hu;exact((hr.2 _ x u hx hu).relive fun id b n hb hm=>by rw[yas.ment (hp x (qab hx))]at hm;cases hm).keep hk
theorem yzs{ok0:Nat->Prop}{s:SS}{a:Act}(hs:Sim B ok0 N s lv a w){ti e es eb:Nat}{ea:Bool}{ez:List Value}(hk:ygb P ti (.slc e es ea eb ez)){id len m:Nat}{xs cs:List AV}{v u:Value}(hid:s.h id=some (.vec xs))(hxl:xs.length=len * es)(hv:Rel (yba B ok0 lv w) w lv (.ls id es len) v)(hsrc:xfp (yba B ok0 lv w) w es m cs u)(hcc:∀ c∈cs,yeb c=true)(hcp:∀ c∈cs,yas c=true)(hlim:len+m<=4294967296/\(len+m) * eb<=140737488355328){s':SS}(ht:∀ x y,s'.t x=some y->y=.any\/(s.t x=some y/\ment id y=false))(hlt:∀ x y,s'.t x=some y->∃ z,s.t x=some z)(hh:∀ j ob',j≠id->s'.h j=some ob'->yew id ob'=false/\∃ ob,s.h j=some ob/\ymh ob ob')(hid':s'.h id=some (.vec (xs++cs))):
  ∃ v' w' lv',(Builtin.append_ #[ti,ti] ty #[v,u]).run P w=.ok v' w'/\Sim B ok0 N s' lv' a w'/\Rel (yba B ok0 lv' w') w' lv' (.ls id es (len+m)) v':=by
 obtain⟨hu,hsz,hby,hz,hzl,hpos⟩:=hk;obtain⟨i,hi,hisz,hiby,zv,hiz,hizc⟩:∃ i,P.info? e=some i/\i.size=es/\i.bytes=eb/\∃ zv,i.zero=some zv/\zv.cells=ez.toArray:=by
  cases hi:P.info? e with
  | none=>simp[hi]at hby
  | some i=>
   have h1:=hsz.1;unfold yte at hz;simp only[hi,qav,Option.some.injEq]at hby h1 hz;cases hzz:i.zero with
   | none=>simp[hzz]at hz
   | some zv=>simp only[hzz,qav,Option.some.injEq]at hz;exact⟨i,rfl,h1,hby,zv,hzz,hz⟩
 obtain⟨ao,c,news,rfl,hnl,hnr,hna⟩:=hsrc;have hcl:cs.length=m * es:=by rw[<- hnr.1,hnl]
 -- the state with the block written in place,or the same,forgets
 have forget:∀ (w':World) (lv1:Live),Sim B ok0 N ⟨s.t,yei s.h id (some (.vec (xs++cs)))⟩ lv1 a w'->∃ lv',Sim B ok0 N s' lv' a w'/\lv' id=lv1 id:=by
  intro w' lv1 h1;obtain⟨lv',g1,g2,g3,g4⟩:=h1.forg (s':=s') (fun x y hy=>(ht x y hy).imp (fun h=>h) And.left) hlt (fun j ob' hj=>by
   by_cases hji:j=id
   .subst hji
    rw[hid']at hj
    cases hj
    exact⟨.vec (xs++cs),by simp[yei],.inl rfl⟩
   obtain⟨_,ob,q1,q2⟩:=hh j ob' hji hj
   exact⟨ob,by simp[yei,hji,q1],q2⟩)
  exact⟨lv',g1,g3 id (by simp[hid'])⟩
 have hvs:∀ u∈news,u.oneCell'=true:=fun u hu=>by
  obtain⟨j,hj⟩:=qao hu;obtain⟨q,hq⟩:∃ q,cs[j]?=some q:=⟨_,qae (by have:=(qaa.1 hj).1;rw[hnr.1]at this;exact this)⟩;exact(hnr.2 j q u hq hj).oneCell (hcc q (qab hq))
 obtain⟨bo,n,hl,hown⟩:=hs.inv.obj id _ hid;cases hv with
 | ls _ hone hls=>
  have hlsv:=hls bo n hl;by_cases hm:m=0
  .subst hm;have hcs:cs=[]:=qax om;subst hcs;have hsame:(⟨s.t,yei s.h id (some (.vec (xs++[])))⟩:SS)=s:=by
    have:yei s.h id (some (.vec (xs++[])))=s.h:=by
     funext j;by_cases hj:j=id
     .subst hj;simp[yei,hid]
     simp[yei,hj]
    rw[this]
   obtain⟨lv',q1,q2⟩:=forget w lv (by rw[hsame];exact hs);cases bo with
   | none=>
    obtain⟨rfl,rfl⟩:=hlsv;refine⟨_,w,lv',yip ti ty e i hu hi none ao 0 0 c (qbf _),q1,.ls _ rfl fun b n' hb=>?_⟩;rw[q2,hl]at hb;cases hb;exact⟨rfl,rfl⟩
   | some b=>
    obtain⟨cap,rfl,h1,h2,h3⟩:=hlsv;refine⟨_,w,lv',yip ti ty e i hu hi _ ao len cap c h1,q1,.ls _ rfl fun b' n' hb=>?_⟩;rw[q2,hl]at hb;cases hb;exact⟨cap,rfl,h1,h2,h3⟩
  obtain⟨g,q,rfl,hcell⟩:=hna om
  -- a new block
  have grown:∀ (old:Nat) (olds:List Value),ybn (yba B ok0 lv w) w lv xs olds->old < len+m ->
    let cap:=grownCap w (len+m) old e
    let w':=w.drew.alloc (.cells (olds.toArray++news.toArray++Builtin.zeroCells zv.cells (cap - (len+m))) e)
    ∃ lv',Sim B ok0 N s' lv' a w'/\Rel (yba B ok0 lv' w') w' lv' (.ls id es (len+m)) (.slice (some ⟨w.heap.size,0,none⟩) (len+m) cap):=by
   intro old olds hor hold;have hge:=grownCap_ge w (len+m) old e;have hmx:grownCap w (len+m) old e<=maxLen:=grownCap_le_maxLen w (len+m) old e (by unfold maxLen;omega);intro cap w'
   -- first forget,id given up
   obtain⟨lv0,q1,q2,q3,q4⟩:=hs.forg (s':=⟨s'.t,fun j=>if j=id then none else s'.h j⟩) (fun x y hy=>(ht x y hy).imp (fun h=>h) And.left) hlt (fun j ob' hj=>by
    simp only at hj
    split at hj
    .cases hj
    rename_i hji;exact(hh j ob' hji hj).2)
   have q0:Sim B ok0 N ⟨s'.t,fun j=>if j=id then none else s'.h j⟩ lv0 a w.drew:=q1.drew (Below.drew (Below.refl _ _));have hall:ybn (yba B ok0 lv0 w.drew) w.drew lv0 (xs++cs) (olds++news):=by
    refine⟨by simp[hor.1,hnr.1],fun j x u hx hu=>?_⟩;have hpu:=(show yho (yba B ok0 lv w) lv w (bo.getD 0) n (.vec xs)\/xs=[] by
     cases bo with
     | none=>simp only[yge,reduceCtorEq,exists_const,or_false]at hown;exact .inr (by cases hown;rfl)
     | some b=>exact .inl hown.2.2)
    have hpx:∀ x∈xs,yas x=true:=by
     rcases hpu with h|h
     .exact h.2
     intro x hx;rw[h]at hx;cases hx
    rcases qbh j xs.length with h1|h1
    .rw [qam h1]at hx;rw[qam (by rw[hor.1];exact h1)]at hu;exact((hor.2 j x u hx hu).relive fun id b n hb hmm=>by rw[yas.ment (hpx x (qab hx))]at hmm;cases hmm).keep fun g hg=>⟨q4 g hg,rfl⟩
    rw[qah h1]at hx;rw[qah (by rw[hor.1];exact h1),hor.1]at hu;exact((hnr.2 _ x u hx hu).relive fun id b n hb hmm=>by rw[yas.ment (hcp x (qab hx))]at hmm;cases hmm).keep fun g hg=>⟨q4 g hg,rfl⟩
   have hcell':∀ x∈xs++cs,yeb x=true:=by
    intro x hx;rcases qat.1 hx with hx|hx
    .cases bo with
     | none=>simp only[yge,reduceCtorEq,exists_const,or_false]at hown;cases hown;cases hx
     | some b=>obtain⟨_,_,⟨c,e,_,_,_,g4,_⟩,_⟩:=hown;exact g4 x hx
    exact hcc x hx
   have hpure':∀ x∈xs++cs,yas x=true:=by
    intro x hx;rcases qat.1 hx with hx|hx
    .cases bo with
     | none=>simp only[yge,reduceCtorEq,exists_const,or_false]at hown;cases hown;cases hx
     | some b=>exact hown.2.2.2 x hx
    exact hcp x hx
   have hfr:ymi (⟨s'.t,fun j=>if j=id then none else s'.h j⟩:SS) id:=by
    refine⟨sm,fun x y hy=>?_,fun j ob hj=>?_⟩
    .rcases ht x y hy with rfl|⟨_,hm⟩
     .rfl
     exact hm
    simp only at hj;split at hj
    .cases hj
    rename_i hji;exact(hh j ob hji hj).1
   have hzc:(olds++news).length+(Builtin.zeroCells zv.cells (cap - (len+m))).toList.length=cap * es:=by
    have e1:=size_zeroCells zv.cells (cap - (len+m));rw[hizc]at e1;simp only[qdg,hzl]at e1;rw[hizc];simp only[Array.length_toList,qan,e1,hor.1,hxl,hnl];rw[<- qgg,<- qgg];congr 1;omega
   have hw':w'=w.drew.alloc (.cells ((olds++news)++(Builtin.zeroCells zv.cells (cap - (len+m))).toList).toArray e):=by
    simp only[w'];congr 2;simp
   have hnew:=q0.newBlock (ob:=.vec (xs++cs)) (n:=cap * es) hfr (w':=w') (by rw[hw'];exact ydw w.drew _) (by rw[hw'];simp) rfl (fun h=>by cases h)
    (fun ok' lv' g1 g2=>⟨yyd (e:=e) hzc.symm (by rw[hw'];exact ydr w.drew _) hall hcell' ok' lv' g1 (fun i b mm hb hmm=>by
     obtain⟨c,hc,hcm⟩:∃ c∈xs++cs,ment i c=true:=by
      generalize xs++cs=l at hmm
      induction l with
      | nil=>simp[ment.mentL]at hmm
      | cons a l ih=>
       simp only[ment.mentL,qck]at hmm
       rcases hmm with h|h
       .exact ⟨a,sm,h⟩
       obtain⟨c,h1,h2⟩:=ih h;exact⟨c,by simp[h1],h2⟩
     rw[yas.ment (hpure' c hc)]at hcm;cases hcm),hpure'⟩)
   have hs'':(⟨s'.t,yei (fun j=>if j=id then none else s'.h j) id (some (.vec (xs++cs)))⟩:SS)=s':=by
    have:yei (fun j=>if j=id then none else s'.h j) id (some (.vec (xs++cs)))=s'.h:=by
     funext j;by_cases hj:j=id
     .subst hj;simp[yei,hid']
     simp[yei,hj]
    rw[this]
   rw[hs'']at hnew;refine⟨_,hnew,.ls _ rfl fun b n' hb=>?_⟩;simp only[yke,if_true,Option.some.injEq,Prod.mk.injEq]at hb;obtain⟨rfl,rfl⟩:=hb;exact⟨cap,rfl,hge,hmx,rfl⟩
  cases bo with
  | none=>
   simp only[yge,reduceCtorEq,exists_const,or_false]at hown;cases hown;obtain⟨rfl,rfl⟩:=hlsv;have hr:=run_append_nil (P:=P) w ti ty e i zv hu hi hiz ⟨g,q,none⟩ m c news (by rw[hisz];exact hnl) hcell om om (by have:=hlim.2;rw[hiby];simp only[qay]at this;omega);obtain⟨lv',g1,g2⟩:=grown 0 [] ⟨rfl,fun i x u h=>by simp at h⟩ om;simp only[qay,Array.empty_append]at hr g1 g2 ⊢;exact⟨_,_,lv',hr,g1,g2⟩
  | some b=>
   obtain⟨cap,rfl,hlc,hmx,hcn⟩:=hlsv;obtain⟨hb1,hb2,⟨cu,e',g1,g2,g3,g4,g5⟩,hpu⟩:=hown;by_cases hroom:len+m<=cap
   .have hfit:len * es+news.length<=cu.size:=by rw[hnl,g2,<- hcn,<- qgg];exact qel _ hroom
    have hr:=ypp (P:=P) (w:=w) ti ty e e' i hu hi b len cap cu g1 ⟨g,q,none⟩ m c news (by rw[hisz];exact hnl) hcell hvs hroom (by rw[hisz];exact hfit);rw[hisz]at hr;have hwr:=hs.write (w':=w.setRow b (cu.toList.take (len * es)++news++cu.toList.drop (len * es+news.length)).toArray) hl rfl rfl rfl sm (fun g hg=>setRow_other w b g _ hg) (ob:=.vec (xs++cs)) (fun h=>by cases h)
     (fun ok' hk=>⟨blk_app (w:=w) g2 hxl g4 g5 hnr hcc hcp om (setRow_heap w b cu _ e' _ g1) ok' hk,fun x hx=>by
      rcases qat.1 hx with hx|hx
      .exact hpu x hx
      exact hcp x hx⟩)
    obtain⟨lv',q1,q2⟩:=forget _ _ hwr;refine⟨_,_,lv',hr,q1,.ls _ rfl fun b' n' hb=>?_⟩;rw[q2,hl]at hb;cases hb;exact⟨cap,rfl,hroom,hmx,hcn⟩
   have hxle:xs.length<=cu.size:=by omega
   have hor:ybn (yba B ok0 lv w) w lv xs (cu.toList.take xs.length):=⟨so,fun j x u hx hu=>by
    have hlt:=(qaa.1 hx).1
    rw[qbc,if_pos hlt]at hu
    exact g5 j x u hx (by simpa using hu)⟩
   have hr:=run_append_grow (P:=P) w ti ty e i zv hu hi hiz ⟨b,0,none⟩ len cap (cu.toList.take xs.length) (by simp[hisz];omega) (fun j v hj=>by
    rw[qbc]at hj
    split at hj
    .rw [ymm];simp only[World.cell?,g1,qay];simpa using hj
    cases hj) ⟨g,q,none⟩ m c news (by rw[hisz];exact hnl) hcell om om (by rw[hiby];exact growslice_fits om hlim.2)
   obtain⟨lv',q1,q2⟩:=grown cap _ hor om;exact⟨_,_,lv',hr,q1,q2⟩
end
end
section
open Go.RowKit
section
variable{P:Program}{T:Nat->Option Ty}{N:Nat}{ops:Array Oper}{lf:Oper->Bool}{Q:SS->Prop}{t:List (Nat × AV)}{h:List (Nat × Option LObj)}{rest:List Oper}{d:Nat}{op:Op}{ty:TypeId}{pos:String}{af:Array Edge}{gd:Option (Nat × Bool)}{r:AV}
def yvo(id:Nat):List (Nat × AV)->Option (List (Nat × AV))
 | []=>some []
 | (s,x)::t=>match yvo id t with
  | none=>none
  | some t'=>match ment id x with
   | true=>some ((s,.any)::t')
   | false=>some ((s,x)::t')
theorem yib{id:Nat}:∀ {t t':List (Nat × AV)},yvo id t=some t'->(∀ x y,yak t' x=some y->y=.any\/(yak t x=some y/\ment id y=false))/\∀ x y,yak t' x=some y->∃ z,yak t x=some z
 | [],t',h=>by simp only[yvo,Option.some.injEq]at h;subst h;exact⟨fun x y h=>by simp[yak]at h,fun x y h=>by simp[yak]at h⟩
 | (s,x)::t,t',h=>by
  simp only[yvo]at h;split at h
  .cases h
  rename_i t1 h1;obtain⟨g1,g2⟩:=yib h1;split at h
  .simp only[Option.some.injEq]at h;subst h;refine⟨fun z y hy=>?_,fun z y hy=>?_⟩
   .simp only[yak]at hy ⊢;split at hy
    .simp only[Option.some.injEq]at hy;exact .inl hy.symm
    exact g1 z y hy
   simp only[yak]at hy ⊢;split at hy
   .exact ⟨x,rfl⟩
   exact g2 z y hy
  rename_i hm;simp only[Option.some.injEq]at h;subst h;refine⟨fun z y hy=>?_,fun z y hy=>?_⟩
  .simp only[yak]at hy ⊢;split at hy
   .simp only[Option.some.injEq]at hy;subst hy;exact .inr ⟨rfl,hm⟩
   exact g1 z y hy
  simp only[yak]at hy ⊢;split at hy
  .exact ⟨x,rfl⟩
  exact g2 z y hy
def xae(id:Nat):List AV->Option (List AV)
 | []=>some []
 | x::xs=>match xae id xs with
  | none=>none
  | some ys=>match ment id x with
   | true=>some (.one::ys)
   | false=>some (x::ys)
theorem yyl{id:Nat}:∀ {xs ys:List AV},xae id xs=some ys->ys.length=xs.length/\ment.mentL id ys=false/\∀ (j:Nat) (x y:AV),xs[j]?=some x->ys[j]?=some y->y=x\/y=.one
 | [],ys,h=>by simp only[xae,Option.some.injEq]at h;subst h;exact⟨rfl,rfl,fun j x y h=>by simp at h⟩
 | x::xs,ys,h=>by
  simp only[xae]at h;split at h
  .cases h
  rename_i zs hz;obtain⟨g1,g2,g3⟩:=yyl hz;split at h
  .simp only[Option.some.injEq]at h;subst h;refine⟨by simp[g1],by simp[ment.mentL,ment,g2],fun j a b ha hb=>?_⟩;cases j with
   | zero=>simp at hb;exact .inr hb.symm
   | succ j=>exact g3 j a b (by simpa using ha) (by simpa using hb)
  rename_i hm;simp only[Option.some.injEq]at h;subst h;refine⟨by simp[g1],by simp[ment.mentL,hm,g2],fun j a b ha hb=>?_⟩;cases j with
  | zero=>simp at ha hb;exact .inl (hb.symm.trans ha)
  | succ j=>exact g3 j a b (by simpa using ha) (by simpa using hb)
def xis(id:Nat):Option LObj->Option (Option LObj)
 | none=>some none
 | some (.cells xs)=>match xae id xs with
  | some ys=>some (some (.cells ys))
  | none=>none
 | some (.vec xs)=>some (some (.vec xs))
 | some (.map es)=>some (some (.map es))
 | some (.iter es l c)=>some (some (.iter es l c))
 | some (.siter b q)=>some (some (.siter b q))
 | some (.tcells e xs)=>match xae id xs with
  | some ys=>some (some (.tcells e ys))
  | none=>none
 | some (.tvec e xs)=>some (some (.tvec e xs))
 | some (.mcells xs)=>match ment.mentL id xs with
  | true=>none
  | false=>some (some (.mcells xs))
theorem forgO_spec{id:Nat}{o:Option LObj}{ob':LObj}(h:xis id o=some (some ob')):yew id ob'=false/\∃ ob,o=some ob/\ymh ob ob':=by
 unfold xis at h;split at h
 .cases h
 .split at h
  .rename_i ys hy;simp only[Option.some.injEq]at h;subst h;obtain⟨h1,h2,h3⟩:=yyl hy;exact⟨h2,_,rfl,.inr (.inl ⟨_,_,rfl,rfl,h1,h3⟩)⟩
  cases h
 .simp only[Option.some.injEq]at h;subst h;exact⟨rfl,_,rfl,.inl rfl⟩
 .simp only[Option.some.injEq]at h;subst h;exact⟨rfl,_,rfl,.inl rfl⟩
 .simp only[Option.some.injEq]at h;subst h;exact⟨rfl,_,rfl,.inl rfl⟩
 .simp only[Option.some.injEq]at h;subst h;exact⟨rfl,_,rfl,.inl rfl⟩
 .split at h
  .rename_i ys hy;simp only[Option.some.injEq]at h;subst h;obtain⟨h1,h2,h3⟩:=yyl hy;exact⟨h2,_,rfl,.inr (.inr ⟨_,_,_,rfl,rfl,h1,h3⟩)⟩
  cases h
 .simp only[Option.some.injEq]at h;subst h;exact⟨rfl,_,rfl,.inl rfl⟩
 split at h
 .cases h
 rename_i hm;simp only[Option.some.injEq]at h;subst h;exact⟨hm,_,rfl,.inl rfl⟩
def yql(id:Nat):List (Nat × Option LObj)->Option (List (Nat × Option LObj))
 | []=>some []
 | (j,o)::h=>match yql id h with
  | none=>none
  | some h'=>match xis id o with
   | none=>none
   | some o'=>some ((j,o')::h')
theorem yfs{id:Nat}:∀ {h h':List (Nat × Option LObj)},yql id h=some h'->∀ j ob',yac h' j=some ob'->yew id ob'=false/\∃ ob,yac h j=some ob/\ymh ob ob'
 | [],h',hf,j,ob',hj=>by simp only[yql,Option.some.injEq]at hf;subst hf;simp[yac]at hj
 | (i,o)::h,h',hf,j,ob',hj=>by
  simp only[yql]at hf;split at hf
  .cases hf
  rename_i h1 hh1;split at hf
  .cases hf
  rename_i o' ho';simp only[Option.some.injEq]at hf;subst hf;simp only[yac]at hj ⊢;split at hj
  .subst hj;exact forgO_spec ho'
  exact yfs hh1 j ob' hj
theorem yll(hT:TOK P T){o:Oper}{ti e es eb sz:Nat}{ea ag:Bool}{ez z:List Value}{id len m:Nat}{xs cs:List AV}{src:AV}{s s':SS}(ho:o.op=.call { callee:=.builtin .append,args:=#[x,y],argTypes:=#[ti,ti] })(hd:o.dst=some d)(hdN:d < N)(hk:T ti=some ⟨.slc e es ea eb ez,sz,ag,z⟩)(hx:evF s.t x=some (.ls id es len))(hid:s.h id=some (.vec xs))(hxl:xs.length=len * es)(hy:evF s.t y=some src)(hsrc:∀ (ok:Nat->Prop) (w:World) (lv:Live) (u:Value),Rel ok w lv src u->xfp ok w es m cs u/\∀ c∈cs,yeb c=true)(hcp:∀ c∈cs,yas c=true)(hlim:len+m<=4294967296/\(len+m) * eb<=140737488355328)(ht:∀ x y,s'.t x=some y->y=.any\/(s.t x=some y/\ment id y=false))(hlt:∀ x y,s'.t x=some y->∃ z,s.t x=some z)(hh:∀ j ob',j≠id->s'.h j=some ob'->yew id ob'=false/\∃ ob,s.h j=some ob/\ymh ob ob')(hid':s'.h id=some (.vec (xs++cs))):
  ybp P N o s (·=⟨yee s'.t (some d) (.ls id es (len+m)),s'.h⟩):=by
 intro B ok0 lv a w hs Q;obtain⟨h1,h2⟩:=hsrc _ _ _ _ (hs.eval hy);obtain⟨v',w',lv',hrun0,hs',hrel⟩:=yzs (ty:=o.type) hs (hT _ _ hk).2.2 hid hxl (hs.eval hx) h1 h2 hcp hlim ht hlt hh hid';have hrun:(execOp a.eval o).run P w=.ok (.value v') w':=by
  simp only[execOp,ho,resolve,invoke,builtin,Sem.run_bind,Sem.run_pure,Result.andThen_ok,List.map_toArray,qce,qex,hrun0]
 unfold Oper.wp;rw[hrun];simp only[Oper.upon,hd];exact⟨_,lv',rfl,hs'.putOnly hdN hrel⟩
theorem ydy(hT:TOK P T){ti e es eb sz:Nat}{ea ag:Bool}{ez z:List Value}{id len:Nat}{xs:List AV}{rows:List (List AV)}{t':List (Nat × AV)}{h':List (Nat × Option LObj)}(hk:T ti=some ⟨.slc e es ea eb ez,sz,ag,z⟩)(hx:evF (yak t) x=some (.ls id es len))(hid:yac h id=some (.vec xs))(hxl:xs.length=len * es)(hy:evF (yak t) y=some (.sl es rows))(hcp:∀ c∈rows.flatten,yas c=true)(hlim:len+rows.length<=4294967296/\(len+rows.length) * eb<=140737488355328)(ht:yvo id t=some t')(hh:yql id h=some h')(hl:lf ⟨some d,.call { callee:=.builtin .append,args:=#[x,y],argTypes:=#[ti,ti] },ty,pos,af,gd⟩=true)(hw:yam ops (yak t) ⟨some d,.call { callee:=.builtin .append,args:=#[x,y],argTypes:=#[ti,ti] },ty,pos,af,gd⟩=some true)(hd:Nat.blt d N=true)(k:Lex P N ops lf Q rest (S ((d,.ls id es (len+rows.length))::t') ((id,some (.vec (xs++rows.flatten)))::h'))):
  Lex P N ops lf Q (⟨some d,.call { callee:=.builtin .append,args:=#[x,y],argTypes:=#[ti,ti] },ty,pos,af,gd⟩::rest) (S t h):=by
 obtain⟨g1,g2⟩:=yib ht;have e:S ((d,.ls id es (len+rows.length))::t') ((id,some (.vec (xs++rows.flatten)))::h')=(⟨yee (S t' ((id,some (.vec (xs++rows.flatten)))::h')).t (some d) (.ls id es (len+rows.length)),(S t' ((id,some (.vec (xs++rows.flatten)))::h')).h⟩:SS):=by
  unfold S;rw[ydm]
 refine yef hl hw ?_ k;rw[e];refine yll hT rfl rfl (by simpa using hd) hk hx hid hxl hy (fun ok w lv u hr=>yxb hr) hcp hlim g1 g2 (fun j ob' hj hob=>?_) ?_
 .simp only[S,yac,ycp hj]at hob;exact yfs hh j ob' hob
 simp[S,yac]
theorem Sim.own{ok0:Nat->Prop}{s:SS}{a:Act}(hs:Sim B ok0 N s lv a w){id size d:Nat}(hf:ymi s id)(hd:s.t d=some (.v (.slice none 0 0))):
  ∃ lv',Sim B ok0 N ⟨yee s.t (some d) (.ls id size 0),yei s.h id (some (.vec []))⟩ lv' a w:=by
 have hid:lv id=none:=hs.inv.dom id hf.1;have hsame:∀ j b n,(fun j=>if j=id then some (none,0)else lv j:Live) j=some (some b,n)->lv j=some (some b,n):=by
  intro j b n hj;simp only at hj;split at hj
  .cases hj
  exact hj
 have hok:∀ g,yba B ok0 lv w g->yba B ok0 (fun j=>if j=id then some (none,0)else lv j) w g:=fun g hg=>⟨hg.1,hg.2.1,fun j b n hj=>hg.2.2 j b n (hsame j b n hj)⟩;have hre:∀ (x:AV) (u:Value),ment id x=false->Rel (yba B ok0 lv w) w lv x u->Rel (yba B ok0 (fun j=>if j=id then some (none,0)else lv j) w) w (fun j=>if j=id then some (none,0)else lv j) x u:=fun x u hm hr=>
  (hr.relive fun j b n hj hmj=>by
   split at hj
   .rename_i e;subst e;rw[hm]at hmj;cases hmj
   exact hj).keep fun g hg=>⟨hok g hg,rfl⟩
 refine⟨fun j=>if j=id then some (none,0)else lv j,⟨hs.inv.base,hs.inv.ok0lt,fun j hj=>?_,fun i j b n m h1 h2=>hs.inv.inj i j b n m (hsame _ _ _ h1) (hsame _ _ _ h2),fun j x hx=>?_⟩,hs.size,fun x y hy=>?_,hs.defers,hs.big,fun j b o hN hj hc hb=>?_⟩
 .by_cases h:j=id
  .subst h;simp[yei]at hj
  simp only[yei,h,if_false]at hj ⊢;exact hs.inv.dom j hj
 .by_cases h:j=id
  .subst h;simp only[yei,if_true,Option.some.injEq]at hx;subst hx;exact⟨none,0,sm,.inl rfl⟩
  simp only[yei,h,if_false]at hx;obtain⟨b,n,h1,h2⟩:=hs.inv.obj j x hx;refine⟨b,n,by simp[h,h1],?_⟩;cases b with
  | none=>exact h2
  | some b=>
   refine⟨h2.1,h2.2.1,(h2.2.2.relive fun i b n hi hmi=>?_).keep (fun g hg=>⟨hok g hg,rfl⟩) rfl⟩;split at hi
   .rename_i e;subst e;rw[hf.2.2 j x hx]at hmi;cases hmi
   exact hi
 .simp only[yee]at hy;split at hy
  .rename_i e;subst e;simp only[Option.some.injEq]at hy;subst hy;have:=hs.frame x _ hd;refine⟨this.1,?_⟩;rw[ykw this.2];refine .ls _ rfl fun b n hb=>?_;simp only[if_true,Option.some.injEq,Prod.mk.injEq]at hb;obtain⟨rfl,rfl⟩:=hb;exact⟨rfl,rfl⟩
  have:=hs.frame x y hy;exact⟨this.1,hre y _ (hf.2.1 x y hy) this.2⟩
 by_cases h:j=id
 .subst h;simp only[yei,if_true,Option.some.injEq]at hj;subst hj;cases hc
 simp only[yei,h,if_false]at hj ⊢;exact hs.pin j b o hN hj hc hb
theorem zcr{Q:Exit->SS->Prop}(d id size:Nat)(hd:yak t d=some (.v (.slice none 0 0)))(h1:ydl id t=true)(h2:ybs id h=true)(k:A P N c Q (S ((d,.ls id size 0)::t) ((id,some (.vec []))::h))):A P N c Q (S t h):=by
 intro B ok0 lv a w hs;obtain⟨lv',hs'⟩:=hs.own (id:=id) (size:=size) (ygc h1 h2) hd;rw[show (⟨yee (S t h).t (some d) (.ls id size 0),yei (S t h).h id (some (.vec []))⟩:SS)=S ((d,.ls id size 0)::t) ((id,some (.vec []))::h) from ytz]at hs';exact k B ok0 lv' a w hs'
theorem Sim.freeze{ok0:Nat->Prop}{s:SS}{a:Act}(hs:Sim B ok0 N s lv a w){d id size len:Nat}{xs:List AV}{rows:List (List AV)}(hd:s.t d=some (.ls id size len))(hx:s.h id=some (.vec xs))(hlen:rows.length=len)(hsize:∀ row∈rows,row.length=size)(hfl:rows.flatten=xs){s':SS}(ht:∀ x y,s'.t x=some y->y=.any\/s.t x=some y)(hlt:∀ x y,s'.t x=some y->∃ z,s.t x=some z)(hid:s'.h id=none)(hh:∀ j ob',s'.h j=some ob'->∃ ob,s.h j=some ob/\ymh ob ob'):∃ lv',Sim B ok0 N ⟨yee s'.t (some d) (.sl size rows),s'.h⟩ lv' a w:=by
 obtain⟨lv',h1,h2,h3,h4⟩:=hs.forg ht hlt hh;refine⟨lv',?_⟩;have hpure:∀ x∈xs,∀ i,ment i x=false:=by
  intro x hxm i;obtain⟨b,n,g1,g2⟩:=hs.inv.obj id _ hx;cases b with
  | none=>simp only[yge,reduceCtorEq,exists_const,or_false]at g2;cases g2;cases hxm
  | some b=>exact yas.ment (g2.2.2.2 x hxm)
 have hdN:=(hs.frame d _ hd).1;have hr:=ysd hs.inv (hs.frame d _ hd).2 (by rw[hx];rfl) hlen hsize hfl hpure (yba B ok0 lv' w) h4 (fun b n hb=>?_)
 .have hrl:Rel (yba B ok0 lv' w) w lv' (.sl size rows) (ydx B a d):=hr.relive fun i b n _ hm=>by simp[ment]at hm
  refine⟨h1.inv,h1.size,fun x y hy=>?_,h1.defers,h1.big,h1.pin⟩;simp only[yee]at hy;split at hy
  .rename_i e;subst e;simp only[Option.some.injEq]at hy;subst hy;exact⟨hdN,hrl⟩
  exact h1.frame x y hy
 obtain⟨_,_,g1,g2,_⟩:=hs.inv.lvat hb;refine⟨.inr g1,g2,fun j b' m hj he=>?_⟩;subst he;have:=hs.inv.inj j id b' m n (h2 j _ m hj) hb;subst this;rw[h1.inv.dom j hid]at hj;cases hj
theorem zbg{Q:Exit->SS->Prop}{t':List (Nat × AV)}{h':List (Nat × Option LObj)}(d:Nat){id size len:Nat}{xs:List AV}(rows:List (List AV))(hd:yak t d=some (.ls id size len))(hx:yac h id=some (.vec xs))(hlen:rows.length=len)(hsize:∀ row∈rows,row.length=size)(hfl:rows.flatten=xs)(ht:yvo id t=some t')(hh:yql id h=some h')(k:A P N c Q (S ((d,.sl size rows)::t') ((id,none)::h'))):A P N c Q (S t h):=by
 intro B ok0 lv a w hs;obtain⟨g1,g2⟩:=yib ht;obtain⟨lv',hs'⟩:=hs.freeze (s':=S t' ((id,none)::h')) hd hx hlen hsize hfl (fun x y hy=>(g1 x y hy).imp (fun h=>h) And.left) g2 (by simp[S,yac]) (fun j ob' hj=>by
  simp only[S,yac]at hj
  split at hj
  .cases hj
  exact(yfs hh j ob' hj).2)
 rw[show (⟨yee (S t' ((id,none)::h')).t (some d) (.sl size rows),(S t' ((id,none)::h')).h⟩:SS)=S ((d,.sl size rows)::t') ((id,none)::h') by unfold S;rw[ydm]]at hs';exact k B ok0 lv' a w hs'
theorem ytt{ρ:Operand->Option AV}{hp:Nat->Option LObj}{f:Nat}{caps:List Operand}{xs:List AV}(hx:evL ρ caps=some xs):ybu P hp ρ (.makeFunc (.func f) #[] caps.toArray) ty (.fn f xs):=
 yay fun B ok0 lv w a o ho hty hi hops=>by
  have har:=yue (a:=a) caps xs (fun x y hm=>hops x y (by simp[Op.operands,hm])) hx;exact⟨.func (.func f) #[] (caps.map a.eval).toArray,by simp[execOp,ho,Instr.makeFunc],.fn _ har.1 har.2⟩
theorem L_makeFunc{f:Nat}{caps:List Operand}{xs:List AV}(hx:evL (evF (yak t)) caps=some xs)(hw:yam ops (yak t) ⟨some d,.makeFunc (.func f) #[] caps.toArray,ty,pos,af,gd⟩=some true)(hd:Nat.blt d N=true)(k:Lex P N ops lf Q rest (S ((d,.fn f xs)::t) h)) :
  Lex P N ops lf Q (⟨some d,.makeFunc (.func f) #[] caps.toArray,ty,pos,af,gd⟩::rest) (S t h):=ycm (ytt hx) hw hd k
theorem yield_makeMeth{ρ:Operand->Option AV}{hp:Nat->Option LObj}{f:Nat}{first:List Operand}{xs:List AV}(hx:evL ρ first=some xs):ybu P hp ρ (.makeFunc (.func f) first.toArray #[]) ty (.fm f xs):=
 yay fun B ok0 lv w a o ho hty hi hops=>by
  have har:=yue (a:=a) first xs (fun x y hm=>hops x y (by simp[Op.operands,hm])) hx
  exact⟨.func (.func f) (first.map a.eval).toArray #[],by simp[execOp,ho,Instr.makeFunc],.fm _ har.1 har.2⟩
def zap(t:List (Nat × AV)):List (Nat × AV)->Prop
 | []=>True
 | (s,x)::t'=>yak t s=some x/\zap t t'
def yxr(h:List (Nat × Option LObj)):List (Nat × Option LObj)->Prop
 | []=>True
 | (s,x)::h'=>(∀ o,x=some o->yac h s=some o)/\yxr h h'
theorem ycd:∀ {t' t:List (Nat × AV)},zap t t'->∀ x y,yak t' x=some y->yak t x=some y
 | [],t,_,x,y,hy=>by simp[yak]at hy
 | (s,z)::t',t,hs,x,y,hy=>by
  simp only[yak]at hy;split at hy
  .rename_i hb;simp only[Option.some.injEq]at hy;subst hy;rw[qaf hb];exact hs.1
  exact ycd hs.2 x y hy
theorem yah:∀ {h' h:List (Nat × Option LObj)},yxr h h'->∀ x y,yac h' x=some y->yac h x=some y
 | [],h,_,x,y,hy=>by simp[yac]at hy
 | (s,z)::h',h,hs,x,y,hy=>by
  simp only[yac]at hy;split at hy
  .rename_i hb;rw[qaf hb];exact hs.1 y hy
  exact yah hs.2 x y hy
theorem xif{Q:Exit->SS->Prop}{t':List (Nat × AV)}{h':List (Nat × Option LObj)}(k:A P N c Q (S t' h'))(h1:zap t t')(h2:yxr h h'):A P N c Q (S t h):=ypf k ⟨ycd h1,yah h2⟩
end
end
section
open Go.RowKit
def xlo{α:Type}(t:α->List (Nat × AV))(h:α->List (Nat × Option LObj))(m:α->Nat)(I:α->Prop)(a:α)(Q:Exit->SS->Prop):Exit->SS->Prop
 | .normal,s=>∃ b,I b/\m b < m a/\Sub (S (t b) (h b)) s
 | e,s=>Q e s
theorem ybj{t0:List (Nat × AV)}{h0:List (Nat × Option LObj)}(t:α->List (Nat × AV))(h:α->List (Nat × Option LObj))(m:α->Nat)(I:α->Prop)(a:α)(hI:I a)(h1:zap t0 (t a))(h2:yxr h0 (h a))(round:∀ a,I a->A P N c (xlo t h m I a Q) (S (t a) (h a))):A P N (.loop c) Q (S t0 h0):=by
 refine xgh (fun n s=>∃ b,I b/\m b=n/\Sub (S (t b) (h b)) s) (m a) ⟨a,hI,rfl,ycd h1,yah h2⟩ ?_;rintro n s ⟨b,hb,rfl,hsub⟩;refine(ypf (round b hb) hsub).mono fun e s' hq=>?_;cases e with
 | normal=>
  obtain⟨b',h3,h4,h5⟩:=hq;exact⟨m b',h4,b',h3,rfl,h5⟩
 | _=>exact hq
theorem rnd{t:α->List (Nat × AV)}{h:α->List (Nat × Option LObj)}{m:α->Nat}{I:α->Prop}{a:α}{t1:List (Nat × AV)}{h1:List (Nat × Option LObj)}(b:α)(hI:I b)(hm:m b < m a)(g1:zap t1 (t b))(g2:yxr h1 (h b)):xlo t h m I a Q .normal (S t1 h1):=
 ⟨b,hI,hm,ycd g1,yah g2⟩
theorem ycy{id:Nat}{s:SS}(h:Q .normal s):xbk id Q .normal s:=h
theorem yeo{y:Code}{s:SS}(h:A P N y Q s):xme P N y Q .normal s:=h
theorem yag:yxr h []:=trivial
theorem yab{o:LObj}{r:List (Nat × Option LObj)}(h1:yac h i=some o)(h2:yxr h r):yxr h ((i,some o)::r):=⟨fun q hq=>by cases hq;exact h1,h2⟩
theorem subT_nil:zap t []:=trivial
theorem yan{o:AV}{r:List (Nat × AV)}(h1:yak t i=some o)(h2:zap t r):zap t ((i,o)::r):=⟨h1,h2⟩
theorem yes{x y:AV}{o:Option AV}(h:o=some x)(e:x=y):o=some y:=e ▸ h
theorem yka(h:a=b):i64 a=i64 b:=by rw[h]
theorem yad{h:Nat->Option LObj}(e:a=b):Frz h (.v (.int .i64 a)) (i64 b):=by subst e;exact Frz.pure
theorem yae{h:Nat->Option LObj}{a b:Bool}(e:a=b):Frz h (.v (.bool a)) (yau b):=by subst e;exact Frz.pure
theorem ybk{l:List α}{k:Nat}(h:k < l.length):∃ x,l[k]?=some x:=⟨_,qae h⟩
theorem L_lenMap{T:Nat->Option Ty}(hT:TOK P T){Q:SS->Prop}{rest:List Oper}{d:Nat}{ty:TypeId}{pos:String}{af:Array Edge}{gd:Option (Nat × Bool)}{ti e es eb sz z:Nat}{ea ag:Bool}{ez z0:List Value}{f:α->List AV}{l:List α}(hk:T ti=some ⟨.slc e es ea eb ez,sz,ag,z0⟩)(hx:evF (yak t) x=some (.sl z (l.map f)))(hw:yam ops (yak t) ⟨some d,.call { callee:=.builtin .len,args:=#[x],argTypes:=#[ti] },ty,pos,af,gd⟩=some true)(hd:Nat.blt d N=true)(k:Lex P N ops lf Q rest (S ((d,.v (.int .i64 l.length))::t) h)):Lex P N ops lf Q (⟨some d,.call { callee:=.builtin .len,args:=#[x],argTypes:=#[ti] },ty,pos,af,gd⟩::rest) (S t h):=by
 have:=zau (P:=P) (h:=yac h) (ρ:=evF (yak t)) (ty:=ty) (hT _ _ hk).2.2 hx;rw[qai]at this;exact ycm this hw hd k
end
end Go.Proofs.YtgpodcjhgdionaaGreatDoor
