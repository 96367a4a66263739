/- Part 6 of the texts under TopCertificatesBoundRuns. -/
import Derived.Test.YtgpodcjhgdionaaGreatDoorProg
import Derived.KernelRfl
import Derived.Below
import Derived.Test.YtgpodcjhgdionaaGreatDoorCB3
import Derived.Test.YtgpodcjhgdionaaGreatDoorCB5
set_option linter.unusedVariables false
set_option maxHeartbeats 4000000
namespace Go.Proofs.YtgpodcjhgdionaaGreatDoor
open Go.Proofs.Tryz
variable {h:List (Nat × Option LObj)} {P:Program} {x y v c:Operand} {d j k i t:Nat} {α:Type} {cs:List Value} {ok:Nat->Prop} {fid:FuncId} {lv:Live} {w:World} {u:Int} {a:AV}
section
open Go.RowKit
theorem yao {o:Option LObj} (hne:j≠d):yac ((d,o)::h) j=yac h j:=by
 simp only [yac];rw [ycr hne]
theorem yaz {o:Option LObj}:yac ((d,o)::h) d=o:=by
 simp [yac]
theorem yic {a b:Option LObj}:yac ((d,a)::(d,b)::h)=yac ((d,a)::h):=by
 funext j;by_cases hj:j=d
 .subst hj;rw [yaz,yaz]
 rw [yao hj,yao hj,yao hj]
def fam (M k:Nat):Nat:=(k+1) * 1000000+M
theorem ygf (M k:Nat):1000000<=fam M k:=by unfold fam;omega
theorem yuh {M:Nat} (h:fam M i=fam M j):i=j:=by unfold fam at h;omega
theorem yde {M:Nat} (h:d < 1000000):d≠fam M k:=by have:=ygf M k;omega
def ypy (M:Nat):Nat->List (List AV)->List (Nat × Option LObj)
 | _,[]=>[]
 | k,r::rs=>(fam M k,some (.vec r))::ypy M (k+1) rs
def yfi (M sz:Nat):Nat->List (List AV)->List AV
 | _,[]=>[]
 | k,r::rs=>.ls (fam M k) sz (r.length / sz)::yfi M sz (k+1) rs
def ygy:List AV->LObj
 | []=>.vec []
 | x::xs=>.mcells (x::xs)
def ybs (M sz:Nat) (rows:List (List AV)) (extra:List AV):List (Nat × Option LObj):=
 (M,some (ygy (yfi M sz 0 rows++extra)))::ypy M 0 rows
theorem yem (M sz:Nat):∀ (k:Nat) (rows:List (List AV)),(yfi M sz k rows).length=rows.length
 | _,[]=>rfl
 | k,r::rs=>by simp [yfi,yem M sz (k+1) rs]
theorem yel (M sz:Nat):∀ (k i:Nat) (rows:List (List AV)),(yfi M sz k rows)[i]?=(rows[i]?).map fun r=>.ls (fam M (k+i)) sz (r.length / sz)
 | _,_,[]=>by simp [yfi]
 | k,0,r::rs=>by simp [yfi]
 | k,i+1,r::rs=>by
  simp only [yfi,qce,yel M sz (k+1) i rs];rw [show k+1+i=k+(i+1) by omega]
theorem ylp (M:Nat):∀ (k i:Nat) (rows:List (List AV)),yac (ypy M k rows) (fam M (k+i))=(rows[i]?).map LObj.vec
 | _,_,[]=>by simp [ypy,yac]
 | k,0,r::rs=>by simp [ypy,yac]
 | k,i+1,r::rs=>by
  simp only [ypy,qce];rw [yao (fun h=>by have:=yuh h;omega),show k+(i+1)=k+1+i by omega];exact ylp M (k+1) i rs
theorem yiw (M:Nat):∀ (k:Nat) (rows:List (List AV)),(∀ i,k<=i->j≠fam M i)->yac (ypy M k rows) j=none
 | _,[],_=>rfl
 | k,r::rs,h=>by
  simp only [ypy];rw [yao (h k (qbh k))];exact yiw M (k+1) rs fun i hi=>h i om
def zld:List (Nat × Option LObj)->Bool
 | []=>true
 | (k,_)::h=>match Nat.ble 1000000 k with
  | true=>false
  | false=>zld h
theorem ybh:∀ (f g:List (Nat × Option LObj)) {j:Nat},(∀ x∈f,x.1≠j)->yac (f++g) j=yac g j
 | [],g,j,_=>rfl
 | (k,o)::f,g,j,h=>by
  rw [qax,yao (fun e=>h (k,o) (qbk) e.symm)];exact ybh f g fun x hx=>h x (qap _ hx)
theorem ydi:∀ (f g:List (Nat × Option LObj)) {j:Nat},yac (f++g) j=yac f j\/((∀ x∈f,x.1≠j)/\yac (f++g) j=yac g j)
 | [],g,j=>.inr ⟨sm,rfl⟩
 | (k,o)::f,g,j=>by
  simp only [qax,yac];cases hb:Nat.beq j k with
  | true=>exact .inl rfl
  | false=>
   rcases ydi f g (j:=j) with h|⟨h1,h2⟩
   .exact .inl h
   refine .inr ⟨fun x hx=>?_,h2⟩;rcases qas.1 hx with rfl|hx
   .intro e;simp only at e;subst e;simp at hb
   exact h1 x hx
theorem yhf:∀ {f:List (Nat × Option LObj)},zld f=true->∀ x∈f,x.1 < 1000000
 | [],_,x,hx=>by simp at hx
 | (k,o)::f,h,x,hx=>by
  simp only [zld] at h;cases hb:Nat.ble 1000000 k with
  | true=>simp [hb] at h
  | false=>
   simp only [hb] at h;rcases qas.1 hx with rfl|hx
   .exact xfg hb
   exact yhf h x hx
variable {f:List (Nat × Option LObj)} {M sz:Nat} {rows:List (List AV)} {extra:List AV}
theorem ylw (hf:zld f=true) (hM:M < 1000000) {i:Nat} {r:List AV} (hr:rows[i]?=some r):yac (f++ybs M sz rows extra) (fam M i)=some (.vec r):=by
 rw [ybh f _ fun x hx=>yde (yhf hf x hx)];unfold ybs;rw [yao (Ne.symm (yde hM))];have:=ylp M 0 i rows;rw [qba] at this;rw [this,hr];rfl
theorem zeg {j:Nat} (hj:j < 1000000) (o o':LObj) (rows rows':List (List AV)):j≠M->yac (f++(M,some o)::ypy M 0 rows) j=yac (f++(M,some o')::ypy M 0 rows') j:=fun hne=>by
 rcases ydi f ((M,some o)::ypy M 0 rows) (j:=j) with h|⟨h1,h2⟩
 .rcases ydi f ((M,some o')::ypy M 0 rows') (j:=j) with h'|⟨h1',h2'⟩
  .rw [h,h']
  rw [h,h2'];rw [yao hne,yiw M 0 _ fun i _=>yde hj];rw [<- qbe f,ybh f [] h1'];rfl
 rw [h2,ybh f _ h1];rw [yao hne,yao hne,yiw M 0 _ fun i _=>yde hj,yiw M 0 _ fun i _=>yde hj]
theorem zsp {h:Nat->Option LObj} (hf:zld f=true) (hM:M < 1000000) (h1:∀ j,j < 1000000->h j=yac (f++ybs M sz rows extra) j) (h2:∀ i,h (fam M i)=(rows[i]?).map LObj.vec) (h3:∀ j,1000000<=j->(∀ i,j≠fam M i)->h j=none):h=yac (f++ybs M sz rows extra):=by
 funext j;by_cases hj:j < 1000000
 .exact h1 j hj
 by_cases he:∃ i,j=fam M i
 .obtain ⟨i,rfl⟩:=he;rw [h2,ybh f _ fun x hx=>yde (yhf hf x hx)];unfold ybs;rw [yao (Ne.symm (yde hM))];have:=ylp M 0 i rows;rw [qba] at this;exact this.symm
 have he':∀ i,j≠fam M i:=fun i e=>he ⟨i,e⟩;rw [h3 j om he',ybh f _ fun x hx=>by have:=yhf hf x hx;omega];unfold ybs;rw [yao om,yiw M 0 _ fun i _=>he' i]
theorem zit (hf:zld f=true) (hM:M < 1000000) (i:Nat):yac (f++ybs M sz rows extra) (fam M i)=(rows[i]?).map LObj.vec:=by
 rw [ybh f _ fun x hx=>yde (yhf hf x hx)];unfold ybs;rw [yao (Ne.symm (yde hM))];have:=ylp M 0 i rows
 rwa [qba] at this
theorem xbz (hf:zld f=true) (hM:M < 1000000) {j:Nat} (hj:1000000<=j) (he:∀ i,j≠fam M i):yac (f++ybs M sz rows extra) j=none:=by
 rw [ybh f _ fun x hx=>by have:=yhf hf x hx;omega];unfold ybs;rw [yao om,yiw M 0 _ fun i _=>he i]
theorem matC_set (M sz k i:Nat) (rows:List (List AV)) (r:List AV) (hl:∀ r',rows[i]?=some r'->r.length=r'.length):yfi M sz k (rows.set i r)=yfi M sz k rows:=by
 apply qdm;intro j;rw [yel,yel,qcy];by_cases h:i=j
 .subst h;by_cases hi:i < rows.length
  .have:=hl _ (qae hi);simp [hi,this]
  simp [hi]
 simp [h]
theorem zlj (hf:zld f=true) (hM:M < 1000000) {i:Nat} {r r':List AV} (hr:rows[i]?=some r') (hl:r.length=r'.length):yac ((fam M i,some (.vec r))::(f++ybs M sz rows extra))=yac (f++ybs M sz (rows.set i r) extra):=by
 have hi:i < rows.length:=(qaa.1 hr).1;refine zsp hf hM (fun j hj=>?_) (fun k=>?_) (fun j hj he=>?_)
 .rw [yao (yde hj)];unfold ybs;rw [matC_set _ _ _ _ _ _ fun r'' h''=>by rw [hr] at h'';cases h'';exact hl];by_cases hjM:j=M
  .subst hjM;rcases ydi f ((j,some (ygy (yfi j sz 0 rows++extra)))::ypy j 0 rows) (j:=j) with h|⟨h1,h2⟩
   .rcases ydi f ((j,some (ygy (yfi j sz 0 rows++extra)))::ypy j 0 (rows.set i r)) (j:=j) with h'|⟨h1',h2'⟩
    .rw [h,h']
    rw [ybh f _ h1',ybh f _ h1'];rw [yaz,yaz]
   rw [ybh f _ h1,ybh f _ h1];rw [yaz,yaz]
  exact zeg hj _ _ _ _ hjM
 .by_cases hk:k=i
  .subst hk;rw [yaz];simp [hi]
  rw [yao (fun e=>hk (yuh e)),zit hf hM,qcy,if_neg (fun e=>hk e.symm)]
 rw [yao (he i),xbz hf hM hj he]
theorem mat_add (hf:zld f=true) (hM:M < 1000000) {n:Nat} {r:List AV} {ex ex':List AV} (hn:n=rows.length) (he:.ls (fam M n) sz (r.length / sz)::ex'=ex):yac ((fam M n,some (.vec r))::(f++(M,some (ygy (yfi M sz 0 rows++ex)))::ypy M 0 rows))=yac (f++ybs M sz (rows++[r]) ex'):=by
 subst hn he;have hc:yfi M sz 0 (rows++[r])++ex'=yfi M sz 0 rows++.ls (fam M rows.length) sz (r.length / sz)::ex':=by
  have:∀ (rows:List (List AV)) (k:Nat),yfi M sz k (rows++[r])=yfi M sz k rows++[.ls (fam M (k+rows.length)) sz (r.length / sz)]:=by
   intro rows;induction rows with
   | nil=>intro k;simp [yfi]
   | cons a rs ih=>
    intro k;simp only [qax,yfi,ih (k+1),qaj];rw [show k+1+rs.length=k+(rs.length+1) by omega]
  rw [this];simp
 refine zsp hf hM (fun j hj=>?_) (fun k=>?_) (fun j hj he=>?_)
 .rw [yao (yde hj)];unfold ybs;rw [hc];by_cases hjM:j=M
  .subst hjM;rcases ydi f ((j,some (ygy (yfi j sz 0 rows++.ls (fam j rows.length) sz (r.length / sz)::ex')))::ypy j 0 rows) (j:=j) with h|⟨h1,h2⟩
   .rcases ydi f ((j,some (ygy (yfi j sz 0 rows++.ls (fam j rows.length) sz (r.length / sz)::ex')))::ypy j 0 (rows++[r])) (j:=j) with h'|⟨h1',h2'⟩
    .rw [h,h']
    rw [ybh f _ h1',ybh f _ h1'];rw [yaz,yaz]
   rw [ybh f _ h1,ybh f _ h1];rw [yaz,yaz]
  exact zeg hj _ _ _ _ hjM
 .by_cases hk:k=rows.length
  .subst hk;rw [yaz];simp
  rw [yao (fun e=>hk (yuh e))];have:=zit (sz:=sz) (rows:=rows) (extra:=.ls (fam M rows.length) sz (r.length / sz)::ex') hf hM k;unfold ybs at this;rw [this,List.getElem?_append];by_cases h1:k < rows.length
  .simp [h1]
  rw [if_neg h1,qcj om,qcj so]
 rw [yao (he _)];exact xbz (extra:=.ls (fam M rows.length) sz (r.length / sz)::ex') hf hM hj he
theorem zeq {M sz:Nat} {r:List AV}:∀ (k:Nat) (rows:List (List AV)),yfi M sz k (rows++[r])=yfi M sz k rows++[.ls (fam M (k+rows.length)) sz (r.length / sz)]
 | k,[]=>by simp [yfi]
 | k,a::rs=>by
  simp only [qax,yfi,zeq (k+1) rs,qaj];rw [show k+1+rs.length=k+(rs.length+1) by omega]
theorem ynj {f:List (Nat × Option LObj)} {M:Nat} (hk:(f.all fun x=>!Nat.beq x.1 M)=true):∀ x∈f,x.1≠M:=fun x hx e=>by
 have:=List.all_eq_true.1 hk x hx;simp [e] at this
theorem zsq (hf:zld f=true) (hM:Nat.blt M 1000000=true) (hk:(f.all fun x=>!Nat.beq x.1 M)=true) {i k:Nat} {r:List AV} {a:AV} {ex:List AV} {rows':List (List AV)} (hi:i=rows.length) (hr:r.length / sz=k) (he:extra=a::ex) (hrows:rows'=rows++[r]) :
  yac ((M,some (ygy ((yfi M sz 0 rows++extra).set i (.ls (fam M i) sz k))))::(fam M i,some (.vec r))::(f++ybs M sz rows extra))=yac (f++ybs M sz rows' ex):=by
 subst hi hr he hrows;have hM':M < 1000000:=by simpa using hM
 have hset:(yfi M sz 0 rows++a::ex).set rows.length (.ls (fam M rows.length) sz (r.length / sz))=yfi M sz 0 (rows++[r])++ex:=by
  rw [zeq,qbb,qbm _ _ (Nat.le_of_eq (yem _ _ _ _)),yem,qbn,qba];rfl
 rw [hset];refine zsp hf hM' (fun j hj=>?_) (fun k=>?_) (fun j hj he=>?_)
 .by_cases hjM:j=M
  .subst hjM;rw [yaz,ybh f _ (ynj hk)];exact yaz.symm
  rw [yao hjM,yao (yde hj)];exact zeg hj _ _ _ _ hjM
 .rw [yao (Ne.symm (yde hM'))];by_cases hk:k=rows.length
  .subst hk;rw [yaz];simp
  rw [yao (fun e=>hk (yuh e)),zit hf hM',List.getElem?_append];by_cases h1:k < rows.length
  .simp [h1]
  rw [if_neg h1,qcj om,qcj so]
 rw [yao om,yao (he _),xbz hf hM' hj he]
theorem ybt (hk:(f.all fun x=>!Nat.beq x.1 M)=true):yac (f++ybs M sz rows extra) M=some (ygy (yfi M sz 0 rows++extra)):=by
 rw [ybh f _ (ynj hk)];exact yaz
def yqu:AV->Bool
 | .lp id _=>Nat.blt id 1000000
 | .ls id _ _=>Nat.blt id 1000000
 | .mp id=>Nat.blt id 1000000
 | .agg cs=>lowL cs
 | .tup cs=>lowL cs
 | .fn _ cs=>lowL cs
 | .fm _ cs=>lowL cs
 | _=>true
 where lowL:List AV->Bool
 | []=>true
 | c::cs=>yqu c && lowL cs
theorem zsb {id j:Nat} (h:Nat.blt id 1000000=true) (hj:1000000<=j):Nat.beq id j=false:=ycr (by have h2:id < 1000000:=(by simpa using h);omega)
theorem yqu.ment {j:Nat} (hj:1000000<=j):∀ {x:AV},yqu x=true->ment j x=false
 | .v _,_=>rfl
 | .any,_=>rfl
 | .one,_=>rfl
 | .sl _ _,_=>rfl
 | .dp _ _,_=>rfl
 | .mv _,_=>rfl
 | .lp id _,h=>zsb h hj
 | .ls id _ _,h=>zsb h hj
 | .mp id,h=>zsb h hj
 | .agg cs,h=>rowsM (cs:=cs) h
 | .tup cs,h=>rowsM (cs:=cs) h
 | .fn _ cs,h=>rowsM (cs:=cs) h
 | .fm _ cs,h=>rowsM (cs:=cs) h
 where rowsM:∀ {cs:List AV},yqu.lowL cs=true->ment.mentL j cs=false
 | [],_=>rfl
 | c::cs,h=>by
  simp only [yqu.lowL,qac] at h;simp only [ment.mentL,qei];exact ⟨yqu.ment hj h.1,rowsM h.2⟩
def xel:List (Nat × AV)->Bool
 | []=>true
 | (_,x)::t=>match yqu x with
  | true=>xel t
  | false=>false
theorem ywd:∀ {t:List (Nat × AV)},xel t=true->∀ x y,yaj t x=some y->yqu y=true
 | [],_,x,y,h=>by simp [yaj] at h
 | (d,r)::t,hl,x,y,h=>by
  simp only [xel] at hl;cases hr:yqu r with
  | false=>simp [hr] at hl
  | true=>
   simp only [hr] at hl;simp only [yaj] at h;cases hb:Nat.beq x d with
   | true=>simp only [hb,Option.some.injEq] at h;subst h;exact hr
   | false=>simp only [hb] at h;exact ywd hl x y h
def zzr:LObj->Bool
 | .cells xs=>yqu.lowL xs
 | .tcells _ xs=>yqu.lowL xs
 | .mcells xs=>yqu.lowL xs
 | _=>true
theorem zzr.ment {j:Nat} (hj:1000000<=j) {o:LObj} (h:zzr o=true):yeb j o=false:=by
 cases o <;> first|rfl|exact yqu.ment.rowsM hj h
def zpj:List (Nat × Option LObj)->Bool
 | []=>true
 | (k,o)::h=>match Nat.ble 1000000 k with
  | true=>false
  | false=>match o with
   | none=>zpj h
   | some o=>match zzr o with
    | true=>zpj h
    | false=>false
theorem ysg:∀ {h:List (Nat × Option LObj)},zpj h=true->zld h=true
 | [],_=>rfl
 | (k,o)::h,hl=>by
  simp only [zpj] at hl;simp only [zld];cases hb:Nat.ble 1000000 k with
  | true=>simp [hb] at hl
  | false=>
   simp only [hb] at hl ⊢;cases o with
   | none=>exact ysg hl
   | some o=>
    cases ho:zzr o with
    | false=>simp [ho] at hl
    | true=>simp only [ho] at hl;exact ysg hl
theorem ylu:∀ {h:List (Nat × Option LObj)},zpj h=true->∀ j ob,yac h j=some ob->zzr ob=true/\j < 1000000
 | [],_,j,ob,h=>by simp [yac] at h
 | (k,o)::h,hl,j,ob,hj=>by
  simp only [zpj] at hl;cases hb:Nat.ble 1000000 k with
  | true=>simp [hb] at hl
  | false=>
   simp only [hb] at hl;simp only [yac] at hj;cases hk:Nat.beq j k with
   | true=>
    simp only [hk] at hj;subst hj;cases ho:zzr ob with
    | false=>simp [ho] at hl
    | true=>exact ⟨rfl,by rw [qaf hk];exact xfg hb⟩
   | false=>
    simp only [hk] at hj;cases o with
    | none=>exact ylu hl j ob hj
    | some o=>
     cases ho:zzr o with
     | false=>simp [ho] at hl
     | true=>simp only [ho] at hl;exact ylu hl j ob hj
theorem zlg (x:AV) (hx:yqu x=true):∀ n,yqu.lowL (List.replicate n x)=true
 | 0=>rfl
 | n+1=>by simp [qbo,yqu.lowL,hx,zlg x hx n]
theorem zlm (d:Nat) (x:AV) (hx:ment d x=false):∀ n,ment.mentL d (List.replicate n x)=false
 | 0=>rfl
 | n+1=>by simp [qbo,ment.mentL,hx,zlm d x hx n]
theorem yiz (d:Nat) (xs:List AV):yeb d (ygy xs)=ment.mentL d xs:=by cases xs <;> rfl
theorem zet {d M sz:Nat}:∀ (k:Nat) (rows:List (List AV)),(∀ i,k<=i->i < k+rows.length->d≠fam M i)->ment.mentL d (yfi M sz k rows)=false
 | _,[],_=>rfl
 | k,r::rs,h=>by
  simp only [yfi,ment.mentL,qei];refine ⟨ycr (Ne.symm (h k (qbh k) sm)),zet (k+1) rs fun i h1 h2=>h i om so⟩
theorem ywg {d:Nat}:∀ {a b:List AV},ment.mentL d (a++b)=(ment.mentL d a || ment.mentL d b)
 | [],b=>rfl
 | x::a,b=>by simp only [qax,ment.mentL,ywg,Bool.or_assoc]
theorem ysb {d:Nat}:∀ {a b:List (Nat × Option LObj)},ybv d a=true->ybv d b=true->ybv d (a++b)=true
 | [],b,_,h=>h
 | (i,o)::a,b,h1,h2=>by
  simp only [ybv,qax] at h1 ⊢;cases hb:Nat.beq d i with
  | true=>simp [hb] at h1
  | false=>
   simp only [hb] at h1 ⊢;cases o with
   | none=>exact ysb h1 h2
   | some o=>
    cases ho:yeb d o with
    | true=>simp [ho] at h1
    | false=>simp only [ho] at h1 ⊢;exact ysb h1 h2
theorem zea {d M:Nat}:∀ (k:Nat) (rows:List (List AV)),(∀ i,k<=i->i < k+rows.length->d≠fam M i)->ybv d (ypy M k rows)=true
 | _,[],_=>rfl
 | k,r::rs,h=>by
  simp only [ypy,ybv,yeb];rw [ycr (h k (qbh k) sm)];exact zea (k+1) rs fun i h1 h2=>h i om so
theorem zeb {d:Nat} (hd:d≠M) (hr:∀ i,i < rows.length->d≠fam M i) (he:ment.mentL d extra=false):ybv d (ybs M sz rows extra)=true:=by
 unfold ybs;simp only [ybv,yiz,ywg,he,qdv];rw [ycr hd,zet 0 rows fun i _ hi=>hr i om];exact zea 0 rows fun i _ hi=>hr i om
theorem ypp {d:Nat} (h1:ybv d f=true) (h2:Nat.beq d M=false) (h3:Nat.blt d 1000000=true) (he:ment.mentL d extra=false):ybv d (f++ybs M sz rows extra)=true:=
 ysb h1 (zeb (by rintro rfl;simp at h2) (fun i _=>yde (by simpa using h3)) he)
theorem yyv {j:Nat} (hj:1000000<=j):∀ {h:List (Nat × Option LObj)},zpj h=true->ybv j h=true
 | [],_=>rfl
 | (k,o)::h,hl=>by
  simp only [zpj] at hl;simp only [ybv];cases hb:Nat.ble 1000000 k with
  | true=>simp [hb] at hl
  | false=>
   simp only [hb] at hl;rw [ycr (by have:=xfg hb;omega)];cases o with
   | none=>exact yyv hj hl
   | some o=>
    cases ho:zzr o with
    | false=>simp [ho] at hl
    | true=>
     simp only [ho] at hl;simp only [zzr.ment hj ho];exact yyv hj hl
theorem yqq {t:List (Nat × AV)} {n:Nat} (ht:xel t=true) (hf:zpj f=true) (hM:Nat.blt M 1000000=true) (hn:n=rows.length) (he:yqu.lowL extra=true):ynd (S t (f++ybs M sz rows extra)) (fam M n):=by
 have hM':M < 1000000:=by simpa using hM
 have hb:=ygf M n;have h2:ybv (fam M n) (f++ybs M sz rows extra)=true:=ysb (yyv hb hf) (zeb (Ne.symm (yde hM')) (fun i hi e=>by have:=yuh e;omega) (yqu.ment.rowsM hb he));exact ⟨(yer h2).1,fun x y h=>(ywd ht x y h |> yqu.ment hb),(yer h2).2⟩
section
variable {P:Program} {T:Nat->Option Ty} {N:Nat} {ops:Array Oper} {lf:Oper->Bool} {Q:SS->Prop} {t:List (Nat × AV)} {h:List (Nat × Option LObj)} {rest:List Oper} {d:Nat} {op:Op} {ty:TypeId} {pos:String} {af:Array Edge} {gd:Option (Nat × Bool)} {r:AV}
theorem xft {l:List Oper} {t:List (Nat × AV)} {h h':List (Nat × Option LObj)} (he:yac h=yac h') (k:Lex P N ops lf Q l (S t h')):Lex P N ops lf Q l (S t h):=by
 have:S t h=S t h':=by unfold S;rw [he]
 rw [this];exact k
theorem xab (hT:TOK P T) {ti e es eb sz:Nat} {ea ag:Bool} {ez z:List Value} {m:Nat} (id:Nat) (hk:T ti=some ⟨.slc e es ea eb ez,sz,ag,z⟩) (hone:ez.all Value.oneCell'=true) (hx:evF (yaj t) x=some (.v (.int .i64 m))) (hy:evF (yaj t) y=some (.v (.int .i64 m))) (hm:m<=4294967296/\eb * m<=281474976710656) (hf:ynd (S t h) id) (hl:lf ⟨some d,.makeSlice ti x y,ty,pos,af,gd⟩=true) (hw:yal ops (yaj t) ⟨some d,.makeSlice ti x y,ty,pos,af,gd⟩=some true) (hd:Nat.blt d N=true) (k:Lex P N ops lf Q rest (S ((d,.ls id es m)::t) ((id,some (.vec (ykr m (yit ez))))::h))):Lex P N ops lf Q (⟨some d,.makeSlice ti x y,ty,pos,af,gd⟩::rest) (S t h):=
 yec hl hw (by rw [<- yuc];exact ywe hT rfl rfl (by simpa using hd) id hk hone hx hy hm hf) k
theorem yzx (hT:TOK P T) {ti e es eb sz:Nat} {ea ag:Bool} {ez z:List Value} {rows:List (List AV)} (id:Nat) (hk:T ti=some ⟨.slc e es ea eb ez,sz,ag,z⟩) (hx:evF (yaj t) x=some (.v (.slice none 0 0))) (hy:evF (yaj t) y=some (.sl es rows)) (hcp:∀ c∈rows.flatten,yar c=true) (hlim:rows.length<=4294967296/\rows.length * eb<=140737488355328) (hf:ynd (S t h) id) (hl:lf ⟨some d,.call { callee:=.builtin .append,args:=#[x,y],argTypes:=#[ti,ti] },ty,pos,af,gd⟩=true) (hw:yal ops (yaj t) ⟨some d,.call { callee:=.builtin .append,args:=#[x,y],argTypes:=#[ti,ti] },ty,pos,af,gd⟩=some true) (hd:Nat.blt d N=true) (k:Lex P N ops lf Q rest (S ((d,.ls id es rows.length)::t) ((id,some (.vec rows.flatten))::h))):
  Lex P N ops lf Q (⟨some d,.call { callee:=.builtin .append,args:=#[x,y],argTypes:=#[ti,ti] },ty,pos,af,gd⟩::rest) (S t h):=by
 refine yec hl hw ?_ k;rw [<- yuc];exact ynf hT id rfl rfl (by simpa using hd) hk hx hf hy (fun ok w lv u hr=>zfu hr) hcp hlim
theorem ygd (xs:List AV):ycu (some (ygy xs))=some xs:=by cases xs <;> rfl
theorem yjo {xs:List AV} (h:xs≠[]):ygy xs=.mcells xs:=by cases xs <;> simp_all [ygy]
theorem yrr (hT:TOK P T) {ti:Nat} {y:Ty} {id off:Nat} {xs:List AV} {u:AV} (hy:T ti=some y) (hx:evF (yaj t) x=some (.lp id off)) (hv:evF (yaj t) v=some u) (hcs:yeh u=some [u]) (hcl:Nat.beq 1 y.size=true) (hh:yac h id=some (ygy xs)) (hlt:off < xs.length) (hl:lf ⟨none,.store ti x v,ty,pos,af,gd⟩=true) (hw:yal ops (yaj t) ⟨none,.store ti x v,ty,pos,af,gd⟩=some true) (k:Lex P N ops lf Q rest (S t ((id,some (ygy (xs.set off u)))::h))):Lex P N ops lf Q (⟨none,.store ti x v,ty,pos,af,gd⟩::rest) (S t h):=by
 have hne:xs≠[]:=by intro h0;simp [h0] at hlt
 have he:xs.set off u=xs.take off++[u]++xs.drop (off+[u].length):=by
  rw [qem,if_pos hlt];simp
 rw [yjo hne] at hh;rw [yjo (by intro h0;have:=congrArg List.length h0;simp at this;exact hne this)] at k;refine yec hl hw (by rw [<- S_h,he];exact yjf rfl rfl (hT _ _ hy).1 hx hv hcs (by simpa using hcl) hh (.mcells so hne)) k
theorem yjh (hT:TOK P T) {ti:Nat} {y:Ty} {id off:Nat} {xs:List AV} {u:AV} {h':List (Nat × Option LObj)} (hy:T ti=some y) (hx:evF (yaj t) x=some (.lp id off)) (hv:evF (yaj t) v=some u) (hcs:yeh u=some [u]) (hcl:Nat.beq 1 y.size=true) (hh:yac h id=some (.vec xs)) (hlt:off < xs.length) (hp:yar u=true) (he:yac ((id,some (.vec (xs.set off u)))::h)=yac h') (hl:lf ⟨none,.store ti x v,ty,pos,af,gd⟩=true) (hw:yal ops (yaj t) ⟨none,.store ti x v,ty,pos,af,gd⟩=some true) (k:Lex P N ops lf Q rest (S t h')):Lex P N ops lf Q (⟨none,.store ti x v,ty,pos,af,gd⟩::rest) (S t h):=
 ykk hT hy hx hv hcs hcl hh hlt hp hl hw (xft he k)
theorem yxv {c:Code} {Q:Exit->SS->Prop} (id:Nat) {xs:List AV} (ys:List AV) (hx:yac h id=some (.vec xs)) (he:xs=ys) (k:A P N c Q (S t ((id,some (ygy ys))::h))):A P N c Q (S t h):=by
 subst he;intro B ok0 lv a w hs;refine k B ok0 lv a w ⟨⟨hs.inv.base,hs.inv.ok0lt,fun j hj=>?_,hs.inv.inj,fun j x hj=>?_⟩,hs.size,hs.frame,hs.defers,hs.big,fun j b ws hN hj hc hb=>?_⟩
 .refine hs.inv.dom j ?_;simp only [S,yac] at hj ⊢;split at hj
  .cases hj
  exact hj
 .simp only [S,yac] at hj;split at hj
  .rename_i hb;cases hj;have e:=qaf hb;subst e;obtain ⟨b,n,h1,h2⟩:=hs.inv.obj j _ hx;refine ⟨b,n,h1,?_⟩;cases xs with
   | nil=>exact h2
   | cons x xs=>
    cases b with
    | none=>simp [ygb] at h2
    | some b=>exact ⟨h2.1,h2.2.1,h2.2.2.1⟩
  exact hs.inv.obj j x hj
 simp only [S,yac] at hj;split at hj
 .cases hj;cases xs <;> cases hc
 exact hs.pin j b ws hN hj hc hb
end
theorem yoj {id:Nat} {o:LObj} (h:yac (ybs M sz rows extra) id=some o):id=M\/∃ i,i < rows.length/\id=fam M i:=by
 by_cases hM:id=M
 .exact .inl hM
 unfold ybs at h;rw [yao hM] at h;by_cases he:∃ i,id=fam M i
 .obtain ⟨i,rfl⟩:=he;have h2:=ylp M 0 i rows;rw [qba] at h2;rw [h2] at h;refine .inr ⟨i,?_,rfl⟩;cases hr:rows[i]? with
  | none=>simp [hr] at h
  | some r=>exact (qaa.1 hr).1
 rw [yiw M 0 rows fun i _ e=>he ⟨i,e⟩] at h;cases h
theorem yex:yac (ybs M sz rows extra) M=some (ygy (yfi M sz 0 rows++extra)):=yaz
theorem ylv (hM:M < 1000000) (i:Nat):yac (ybs M sz rows extra) (fam M i)=(rows[i]?).map LObj.vec:=by
 have:=zit (f:=[]) (sz:=sz) (rows:=rows) (extra:=extra) rfl hM i;simpa using this
theorem xcq (hM:M < 1000000) {id:Nat} {o:LObj} (h:yac (ybs M sz rows extra) id=some o):isC o=false:=by
 rcases yoj h with rfl|⟨i,_,rfl⟩
 .rw [yex] at h;cases h;cases yfi id sz 0 rows++extra <;> rfl
 rw [ylv hM] at h;cases hr:rows[i]? with
 | none=>simp [hr] at h
 | some r=>simp only [hr,qar,Option.some.injEq] at h;subst h;rfl
theorem yyx (hf:zld f=true) (hM:M < 1000000) (hk:(f.all fun x=>!Nat.beq x.1 M)=true):∀ id o,yac (ybs M sz rows extra) id=some o->yac (f++ybs M sz rows extra) id=some o:=fun id o h=>by
 rw [ybh f _ fun x hx=>?_]
 .exact h
 rcases yoj h with rfl|⟨i,_,rfl⟩
 .have:=List.all_eq_true.1 hk x hx;intro e;simp [e] at this
 exact yde (yhf hf x hx)
theorem zdl {T:Nat → Option Ty} (hT : TOK P T) {fn:Func} {c:Code} {N:Nat} {rs:List ResultVar} {args:List AV} {r:AV} {M sz:Nat} {rows:List (List AV)} (hf : P.funcs[fid]? = some fn) (hn : (fn.name == "runtime.NumGoroutine") = false) (hb : fn.body = some c) (hN : fn.ntmps = N) (hrs : fn.results = rs.toArray) (hlen : (Nat.ble args.length N && Nat.ble N 1000000) = true) (hM : Nat.blt M 1000000 = true) (h:A P N c (zzw T rs r (yac (ybs M sz rows []))) (S (yfn 0 args) [])):yot P fid args (fun _=>none) r (yac (ybs M sz rows [])):=
 ynh hT hf hn hb hN hrs hlen (fun id o ho hc=>by rw [xcq (by simpa using hM) ho] at hc;cases hc) h
theorem zqb {σ:Nat->Nat}:∀ {x:AV},yar x=true->yfg σ x=x
 | .v _,_=>rfl
 | .any,_=>rfl
 | .one,_=>rfl
 | .sl _ _,_=>rfl
 | .dp _ _,_=>rfl
 | .mv _,_=>rfl
 | .agg cs,h=>by simp only [yfg,rows (cs:=cs) h]
 | .tup cs,h=>by simp only [yfg,rows (cs:=cs) h]
 | .fn _ cs,h=>by simp only [yfg,rows (cs:=cs) h]
 | .fm _ cs,h=>by simp only [yfg,rows (cs:=cs) h]
 where rows:∀ {cs:List AV},yar.pureL cs=true->yfg.renL σ cs=cs
 | [],_=>rfl
 | c::cs,h=>by
  simp only [yar.pureL,qac] at h;simp only [yfg.renL,zqb h.1,rows h.2]
def zza (d j:Nat):Nat:=match Nat.ble 1000000 j with
 | false=>d
 | true=>d+(j / 1000000) * 1000000
theorem yvp {d j:Nat} (h:j < 1000000):zza d j=d:=by
 unfold zza;cases hb:Nat.ble 1000000 j with
 | false=>rfl
 | true=>have:=Nat.le_of_ble_eq_true hb;omega
theorem famS_high {d j:Nat} (h:1000000<=j):zza d j=d+(j / 1000000) * 1000000:=by
 unfold zza;cases hb:Nat.ble 1000000 j with
 | false=>have:=xfg hb;omega
 | true=>rfl
theorem fam_div {M k:Nat} (hM:M < 1000000):fam M k / 1000000=k+1:=by unfold fam;omega
theorem ymo {d M k:Nat} (hM:M < 1000000):zza d (fam M k)=fam d k:=by
 rw [famS_high (ygf M k),fam_div hM];unfold fam;omega
theorem zqc {d M sz:Nat} (hM:M < 1000000):∀ (k:Nat) (rows:List (List AV)),yfg.renL (zza d) (yfi M sz k rows)=yfi d sz k rows
 | _,[]=>rfl
 | k,r::rs=>by simp only [yfi,yfg.renL,yfg,ymo hM,zqc hM (k+1) rs]
theorem yzb {ids:List Nat} {M sz:Nat}:∀ (k:Nat) (rows:List (List AV)),(∀ i,i < k+rows.length->fam M i∈ids)->yen.onlyL ids (yfi M sz k rows)=true
 | _,[],_=>rfl
 | k,r::rs,h=>by
  simp only [yfi,yen.onlyL,yen,qac];exact ⟨qhg.2 (h k sm),yzb (k+1) rs fun i hi=>h i so⟩
theorem zie {d:Nat}:∀ {h:List (Nat × Option LObj)},ybv d h=true->∀ x∈h,x.1≠d
 | [],_,x,hx=>by simp at hx
 | (k,o)::h,hh,x,hx=>by
  simp only [ybv] at hh;cases hb:Nat.beq d k with
  | true=>simp [hb] at hh
  | false=>
   simp only [hb] at hh;rcases qas.1 hx with rfl|hx
   .intro e;simp only at e;subst e;simp at hb
   refine zie ?_ x hx;cases o with
   | none=>exact hh
   | some o=>
    cases ho:yeb d o with
    | true=>simp [ho] at hh
    | false=>simpa [ho] using hh
section
variable {P:Program} {T:Nat->Option Ty} {N:Nat} {ops:Array Oper} {lf:Oper->Bool} {Q:SS->Prop} {t:List (Nat × AV)} {h:List (Nat × Option LObj)} {rest:List Oper} {d:Nat} {op:Op} {ty:TypeId} {pos:String} {af:Array Edge} {gd:Option (Nat × Bool)} {r:AV}
theorem zub (M:Nat) {g:Operand} {args:List Operand} {ats:Array TypeId} {caps xs:List AV} {M0 sz:Nat} {rows:List (List AV)} (hc:yot P fid (xs++caps) (fun _=>none) r (yac (ybs M0 sz rows []))) (hM:Nat.blt M0 1000000=true) (hg:evF (yaj t) g=some (.fn fid caps)) (hx:evL (evF (yaj t)) args=some xs) (hp:yar.pureL (xs++caps)=true) (hr:yen (M0::(List.range rows.length).map (fam M0)) r=true) (h1:ydg M t=true) (h2:xel t=true) (h3:ybv M h=true) (h4:zpj h=true) (h5:Nat.blt M 1000000=true) (hl:lf ⟨some d,.call { callee:=.value g,args:=args.toArray,argTypes:=ats },ty,pos,af,gd⟩=true) (hw:yal ops (yaj t) ⟨some d,.call { callee:=.value g,args:=args.toArray,argTypes:=ats },ty,pos,af,gd⟩=some true) (hd:Nat.blt d N=true) (k:Lex P N ops lf Q rest (S ((d,yfg (zza M) r)::t) (h++ybs M sz rows []))):
  Lex P N ops lf Q (⟨some d,.call { callee:=.value g,args:=args.toArray,argTypes:=ats },ty,pos,af,gd⟩::rest) (S t h):=by
 have hM':M0 < 1000000:=by simpa using hM
 have hd':M < 1000000:=by simpa using h5
 have hids:∀ i∈M0::(List.range rows.length).map (fam M0),i=M0\/∃ j,j < rows.length/\i=fam M0 j:=fun i hi=>by
  rcases qas.1 hi with rfl|hi
  .exact .inl rfl
  obtain ⟨j,hj,rfl⟩:=qag.1 hi;exact .inr ⟨j,by simpa using hj,rfl⟩
 have hfam:∀ j,j < rows.length->fam M0 j∈M0::(List.range rows.length).map (fam M0):=fun j hj=>qap _ (qag.2 ⟨j,by simpa using hj,rfl⟩);have hsig:∀ i∈M0::(List.range rows.length).map (fam M0),zza M i=M\/1000000<=zza M i:=fun i hi=>by
  rcases hids i hi with rfl|⟨j,_,rfl⟩
  .exact .inl (yvp hM')
  exact .inr (by rw [ymo hM'];exact ygf M j)
 refine yec hl hw ?_ k;refine yrw (σ:=zza M) (ids:=M0::(List.range rows.length).map (fam M0)) (hm:=fun _=>none) (hm':=yac (ybs M0 sz rows [])) (r:=r) (args0:=xs++caps) rfl rfl (by simpa using hd) (.inl hg) hx ?_ hc ?_ (fun id hs=>by simp at hs) ?_ (fun id o ho=>by cases ho) hr ?_ ?_ ?_ ?_
 .have:∀ l:List AV,yar.pureL l=true->l=l.map (yfg (zza M)):=by
   intro l hl;rw [<- ycs,zqb.rows hl]
  exact this _ hp
 .intro i hi j hj e;rcases hids i hi with rfl|⟨a,_,rfl⟩ <;> rcases hids j hj with rfl|⟨b,_,rfl⟩
  .rfl
  .rw [yvp hM',ymo hM'] at e;exact absurd e (yde hd')
  .rw [yvp hM',ymo hM'] at e;exact absurd e.symm (yde hd')
  rw [ymo hM',ymo hM'] at e;rw [yuh e]
 .intro id hs;obtain ⟨o,ho⟩:=qgp.1 hs;rcases yoj ho with rfl|⟨i,hi,rfl⟩
  .exact qbk
  exact hfam i hi
 .intro id o ho;rcases yoj ho with rfl|⟨i,hi,rfl⟩
  .rw [yex] at ho;cases ho;rw [qbe];have:=yzb (M:=id) (sz:=sz) (ids:=id::(List.range rows.length).map (fam id)) 0 rows fun i hi=>hfam i om;cases hm:yfi id sz 0 rows with
   | nil=>rfl
   | cons a l=>rw [hm] at this;exact this
  rw [ylv hM'] at ho;cases hr:rows[i]? with
  | none=>simp [hr] at ho
  | some r=>simp only [hr,qar,Option.some.injEq] at ho;subst ho;rfl
 .intro x y hy;simp only [S,yaj] at hy;cases hb:Nat.beq x d with
  | true=>
   simp only [hb,Option.some.injEq] at hy;exact .inl ⟨qaf hb,hy.symm⟩
  | false=>
   simp only [hb] at hy;refine .inr ⟨by rintro rfl;simp at hb,.inr ⟨hy,.inl fun i hi=>?_⟩⟩;rcases hsig i hi with e|e
   .rw [e];exact ype h1 x y hy
   exact yqu.ment e (ywd h2 x y hy)
 .intro i hi;show yac (h++ybs M sz rows []) (zza M i)=_;rw [ybh h _ fun x hx=>?_]
  .rcases hids i hi with rfl|⟨j,_,rfl⟩
   .rw [yvp hM',yex,yex];simp only [qbe,qar,Option.some.injEq];have:=zqc (d:=M) (sz:=sz) hM' 0 rows;cases hm:yfi i sz 0 rows with
    | nil=>rw [hm] at this;rw [<- this];rfl
    | cons a l=>rw [hm] at this;rw [<- this];rfl
   rw [ymo hM',ylv hd',ylv hM'];cases rows[j]? <;> rfl
  rcases hsig i hi with e|e
  .rw [e];exact zie h3 x hx
  have:=yhf (ysg h4) x hx;omega
 intro j ob' hj hob;have hob2:yac h j=some ob':=by
  rcases ydi h (ybs M sz rows []) (j:=j) with e|⟨_,e⟩
  .exact e.symm.trans hob
  have hob3:yac (ybs M sz rows []) j=some ob':=e.symm.trans hob;exfalso;rcases yoj hob3 with rfl|⟨i,hi,rfl⟩
  .exact hj M0 qbk (yvp hM')
  exact hj (fam M0 i) (hfam i hi) (ymo hM')
 refine ⟨fun i hi=>?_,ob',hob2,.inl rfl⟩;rcases hsig i hi with e|e
 .rw [e];exact (yer h3).2 j ob' hob2
 exact zzr.ment e (ylu h4 j ob' hob2).1
theorem zcx {g:Operand} {args:List Operand} {ats:Array TypeId} {caps xs:List AV} {M0 sz:Nat} {rows:List (List AV)} (hc:yot P fid (xs++caps) (fun _=>none) r (yac (ybs M0 sz rows []))) (hM:Nat.blt M0 1000000=true) (hg:evF (yaj t) g=some (.fn fid caps)) (hx:evL (evF (yaj t)) args=some xs) (hp:yar.pureL (xs++caps)=true) (hr:yen (M0::(List.range rows.length).map (fam M0)) r=true) (h1:ydg d t=true) (h2:xel t=true) (h3:ybv d h=true) (h4:zpj h=true) (h5:Nat.blt d 1000000=true) (hl:lf ⟨some d,.call { callee:=.value g,args:=args.toArray,argTypes:=ats },ty,pos,af,gd⟩=true) (hw:yal ops (yaj t) ⟨some d,.call { callee:=.value g,args:=args.toArray,argTypes:=ats },ty,pos,af,gd⟩=some true) (hd:Nat.blt d N=true) (k:Lex P N ops lf Q rest (S ((d,yfg (zza d) r)::t) (h++ybs d sz rows []))):
  Lex P N ops lf Q (⟨some d,.call { callee:=.value g,args:=args.toArray,argTypes:=ats },ty,pos,af,gd⟩::rest) (S t h):=
 zub d hc hM hg hx hp hr h1 h2 h3 h4 h5 hl hw hd k
end
theorem ls_to_slM {h:Nat->Option LObj} {id len:Nat} {xs ys:List AV} {B:Bse} {ok0:Nat->Prop} {u:Value} (hi:Inv B ok0 h lv w) (hr:Rel (yax B ok0 lv w) w lv (.ls id 1 len) u) (hx:h id=some (ygy xs)) (hlen:ys.length=len) (hxy:xs.length=ys.length) (ok':Nat->Prop) (hk2:∀ b n,lv id=some (some b,n)->ok' b) (hconv:∀ (j:Nat) (x y:AV),xs[j]?=some x->ys[j]?=some y->yea y=true/\∀ u,Rel (yax B ok0 lv w) w lv x u->Rel ok' w (fun _=>none) y u):Rel ok' w (fun _=>none) (.sl 1 (ys.map fun y=>[y])) u:=by
 subst hlen;cases hr with
 | ls _ hone hls=>
  have hnil:(∃ n,lv id=some (none,n))\/∃ b n,lv id=some (some b,n)/\B.mine b/\b < w.heap.size/\yhd (yax B ok0 lv w) lv w b n xs:=by
   obtain ⟨b,n,h1,h2⟩:=hi.obj id _ hx;cases b with
   | none=>exact .inl ⟨n,h1⟩
   | some b=>
    obtain ⟨h2,h3,h4⟩:=h2;cases xs with
    | nil=>exact .inr ⟨b,n,h1,h2,h3,h4.1⟩
    | cons x xs=>exact .inr ⟨b,n,h1,h2,h3,h4⟩
  rcases hnil with ⟨n,h1⟩|⟨b,n,h1,h2,h3,h4⟩
  .obtain ⟨rfl,h0⟩:=hls _ _ h1;obtain rfl:=qaz h0;exact ysn
  obtain ⟨cap,rfl,hcap,hmax,hn⟩:=hls (some b) n h1;obtain ⟨c,e,g1,g2,g3,g4,g5⟩:=h4;have hcells:∀ (i j:Nat) (row:List AV) (y:AV),(ys.map fun y=>[y])[i]?=some row->row[j]?=some y->j=0/\∃ u,c[i]?=some u/\yea y=true/\Rel ok' w (fun _=>none) y u:=by
   intro i j row y hrow hy;rw [qah] at hrow;cases hyi:ys[i]? with
   | none=>simp [hyi] at hrow
   | some y'=>
    simp only [hyi,qar,Option.some.injEq] at hrow;subst hrow
    match j with
    | j+1=>simp at hy
    | 0=>
     simp only [qat,Option.some.injEq] at hy;subst hy;have hlt:=(qaa.1 hyi).1;obtain ⟨x,hxi⟩:∃ x,xs[i]?=some x:=⟨_,qae om⟩;have hci:i < c.size:=by omega
     obtain ⟨q1,q2⟩:=hconv i x y' hxi hyi;exact ⟨rfl,_,qbr hci,q1,q2 _ (g5 i x _ hxi (qbr hci))⟩
  have hl:(ys.map fun y=>[y]).length=ys.length:=by simp
  have:=Rel.sl (ok:=ok') (w:=w) (lv:=fun _=>none) (size:=1) (rows:=ys.map fun y=>[y]) (some ⟨b,0,none⟩) cap (fun i _=>c.getD i undef) b 0 (by rw [hl];exact hcap) hmax (fun h=>by cases h) (fun row hr=>by obtain ⟨y,_,rfl⟩:=qag.1 hr;rfl) (fun _=>⟨rfl,hk2 b n h1⟩) (fun i j row x hrow hx=>?_) (fun i j row x hrow hx=>?_)
  .rw [hl] at this;exact this
  .obtain ⟨rfl,u,hu,hc,_⟩:=hcells i j row x hrow hx;refine ⟨?_,hc⟩;simp only [World.cell?,g1];simp [hu]
  obtain ⟨rfl,u,hu,_,hr⟩:=hcells i j row x hrow hx;have:c.getD i undef=u:=by simp [hu]
  simp only [this];exact hr
theorem Frz.mat {els:List (List (List AV))} (hf:zld f=true) (hM:Nat.blt M 1000000=true) (hk:(f.all fun x=>!Nat.beq x.1 M)=true) (hs:0 < sz) (hsz:∀ r∈els,∀ e∈r,e.length=sz) {n:Nat} (hn:n=els.length) (hrows:rows=els.map List.flatten) :
  Frz (yac (f++ybs M sz rows [])) (.ls M 1 n) (.sl 1 (els.map fun r=>[.sl sz r])):=by
 subst hn hrows;have hM':M < 1000000:=by simpa using hM
 intro B ok0 lv w u hi hr;have h1:yac (f++ybs M sz (els.map List.flatten) []) M=some (ygy (yfi M sz 0 (els.map List.flatten))):=by
  rw [yyx hf hM' hk M _ yex,qbe]
 have hlv:∀ id b n,lv id=some (some b,n)->(ok0 b\/B.mine b)/\b < w.heap.size:=fun id b n hb=>by obtain ⟨_,_,h1,h2,_⟩:=hi.lvat hb;exact ⟨.inr h1,h2⟩
 have:=ls_to_slM (ys:=els.map fun r=>.sl sz r) hi hr h1 sm (by rw [yem];simp) (fun g=>(ok0 g\/B.mine g)/\g < w.heap.size) (fun b n hb=>hlv M b n hb) (fun j x y hx hy=>?_)
 .rw [qex] at this;exact this
 rw [yel,qah] at hx;rw [qah] at hy;cases hj:els[j]? with
 | none=>simp [hj] at hx
 | some r=>
  simp only [hj,qar,Option.some.injEq] at hx hy;subst hx hy;refine ⟨rfl,fun u hu=>?_⟩;rw [qba] at hu;have hrow:=zit (f:=f) (sz:=sz) (rows:=els.map List.flatten) (extra:=[]) hf hM' j;rw [qah,hj] at hrow;simp only [qar] at hrow;have hr1:∀ e∈r,e.length=sz:=hsz r (qab hj);have hfl:r.flatten.length / sz=r.length:=by
   have:∀ r:List (List AV),(∀ e∈r,e.length=sz)->r.flatten.length=r.length * sz:=by
    intro r;induction r with
    | nil=>intro _;simp
    | cons e r ih=>
     intro he;rw [qci,qao,ih fun e h=>he e (by simp [h]),he e sm,qaj,qdh,qcv]
   rw [this r hr1];exact Nat.mul_div_cancel _ hs
  rw [hfl] at hu;refine ysh hi hu (by rw [hrow];rfl) rfl hr1 rfl (fun x hx i=>?_) _ (fun g hg=>⟨hg.1,hg.2.1⟩) (fun b n hb=>hlv _ b n hb);obtain ⟨b,n,q1,q2⟩:=hi.obj _ _ hrow;cases b with
  | none=>
   rcases q2 with q2|⟨e,q2⟩
   .simp only [LObj.vec.injEq] at q2;rw [q2] at hx;simp at hx
   cases q2
  | some b=>exact yar.ment (q2.2.2.2 x hx)
theorem ycx {N:Nat} {c:Code} {Q:Exit->SS->Prop} {t0:List (Nat × AV)} {h0:List (Nat × Option LObj)} (t:α->List (Nat × AV)) (h:α->List (Nat × Option LObj)) (m:α->Nat) (I:α->Prop) (a:α) (hI:I a) (h1:yxu t0 (t a)) (h2:∀ id o,yac (h a) id=some o->yac h0 id=some o) (round:∀ a,I a->A P N c (xkr t h m I a Q) (S (t a) (h a))):A P N (.loop c) Q (S t0 h0):=by
 refine xfp (fun n s=>∃ b,I b/\m b=n/\Sub (S (t b) (h b)) s) (m a) ⟨a,hI,rfl,ybo h1,h2⟩ ?_;rintro n s ⟨b,hb,rfl,hsub⟩;refine (ynu (round b hb) hsub).mono fun e s' hq=>?_;cases e with
 | normal=>
  obtain ⟨b',h3,h4,h5⟩:=hq;exact ⟨m b',h4,b',h3,rfl,h5⟩
 | _=>exact hq
theorem ylb {t:α->List (Nat × AV)} {h:α->List (Nat × Option LObj)} {m:α->Nat} {I:α->Prop} {a:α} {Q:Exit->SS->Prop} {t1:List (Nat × AV)} {h1:List (Nat × Option LObj)} (b:α) (hI:I b) (hm:m b < m a) (g1:yxu t1 (t b)) (g2:∀ id o,yac (h b) id=some o->yac h1 id=some o):xkr t h m I a Q .normal (S t1 h1):=
 ⟨b,hI,hm,ybo g1,g2⟩
theorem hsE {h h':List (Nat × Option LObj)} (e:yac h=yac h'):∀ id o,yac h' id=some o->yac h id=some o:=fun id o ho=>by rw [e];exact ho
theorem yew:∀ {f g:List (Nat × Option LObj)} {j:Nat} {o:LObj},yac f j=some o->yac (f++g) j=some o
 | [],g,j,o,h=>by simp [yac] at h
 | (k,x)::f,g,j,o,h=>by
  simp only [yac,qax] at h ⊢;cases hb:Nat.beq j k with
  | true=>simpa [hb] using h
  | false=>simp only [hb] at h ⊢;exact yew h
theorem hsM {f':List (Nat × Option LObj)} (hs:yts f f') (hf:zld f=true) (hM:Nat.blt M 1000000=true) (hk:(f.all fun x=>!Nat.beq x.1 M)=true):∀ id o,yac (f'++ybs M sz rows extra) id=some o->yac (f++ybs M sz rows extra) id=some o:=fun id o ho=>by
 rcases ydi f' (ybs M sz rows extra) (j:=id) with e|⟨_,e⟩
 .rw [e] at ho;exact yew (yai hs id o ho)
 rw [e] at ho;exact yyx hf (by simpa using hM) hk id o ho
end
section
open Go.RowKit
def xiz (P:Program) (t:Nat):Option (Nat × Bool):=match P.info? t with
 | some i=>(match P.underlying t with
  | some d=>some (i.size,xlm d)
  | none=>none)
 | none=>none
theorem zmj {s:Nat} {ag:Bool} (h:xiz P t=some (s,ag)):yip P t s ag:=by
 unfold xiz at h;split at h
 .rename_i i hi;split at h
  .rename_i d hd;simp only [Option.some.injEq,Prod.mk.injEq] at h;exact ⟨by rw [hi];simp [h.1],by rw [hd];simp [h.2]⟩
  cases h
 cases h
def xli (P:Program) (t:Nat):Option (List Value):=match P.info? t with
 | some i=>(match i.zero with
  | some z=>some z.cells.toList
  | none=>none)
 | none=>none
theorem xei {z:List Value} (h:xli P t=some z):ytf P t z:=by
 unfold xli at h;split at h
 .rename_i i hi;split at h
  .rename_i u hu;simp only [Option.some.injEq] at h;subst h;unfold ytf;rw [hi];simp [hu]
  cases h
 cases h
def zom (P:Program):List Field->Option (List (Nat × Nat × Bool))
 | []=>some []
 | f::l=>match xiz P f.type with
  | some (s+1,ag)=>(match zom P l with
   | some r=>some ((f.offset,s+1,ag)::r)
   | none=>none)
  | _=>none
theorem zon:∀ {l:List Field} {r:List (Nat × Nat × Bool)},zom P l=some r->zzy P l r
 | [],r,h=>by simp only [zom,Option.some.injEq] at h;subst h;exact trivial
 | f::l,r,h=>by
  unfold zom at h;split at h
  .rename_i s ag hs;split at h
   .rename_i r' hr;simp only [Option.some.injEq] at h;subst h;exact ⟨⟨rfl,zmj hs,sm⟩,zon hr⟩
   cases h
  cases h
def xly (P:Program) (t:Nat):TK->Option TK
 | .other=>some .other
 | _=>match P.underlying t with
  | some (.int k)=>some (.int k)
  | some .bool=>some .bool
  | some .string=>some .string
  | some (.struct fs)=>(match zom P fs.toList with
   | some r=>some (.strct r)
   | none=>none)
  | some (.array n e)=>(match xiz P e with
   | some (s,a)=>some (.arr n s a)
   | none=>none)
  | some (.slice e)=>(match xiz P e with
   | some (s,a)=>(match P.info? e with
    | some i=>(match xli P e with
     | some z=>(match Nat.beq z.length s && Nat.blt 0 s with
      | true=>some (.slc e s a i.bytes z)
      | false=>none)
     | none=>none)
    | none=>none)
   | none=>none)
  | some (.map k e)=>some (.map k e)
  | _=>none
theorem kdAt_ok {k0 k:TK} (h:xly P t k0=some k):yfy P t k:=by
 unfold xly at h;split at h
 .simp only [Option.some.injEq] at h;subst h;exact trivial
 split at h
 .rename_i hu;simp only [Option.some.injEq] at h;subst h;exact hu
 .rename_i hu;simp only [Option.some.injEq] at h;subst h;exact hu
 .rename_i hu;simp only [Option.some.injEq] at h;subst h;exact hu
 .rename_i fs hu;split at h
  .rename_i r hr;simp only [Option.some.injEq] at h;subst h;exact strct_of (flds:=fs.toList) (by simpa using hu) (zon hr)
  cases h
 .rename_i n e hu;split at h
  .rename_i s a hs;simp only [Option.some.injEq] at h;subst h;exact ⟨e,hu,zmj hs⟩
  cases h
 .rename_i e hu;split at h
  .rename_i s a hs;split at h
   .rename_i i hi;split at h
    .rename_i z hz;split at h
     .rename_i hb;simp only [Option.some.injEq] at h;subst h;simp only [qac] at hb;exact ⟨hu,zmj hs,by rw [hi];rfl,xei hz,qaf hb.1,by simpa using hb.2⟩
     cases h
    cases h
   cases h
  cases h
 .rename_i a b hu;simp only [Option.some.injEq] at h;subst h;exact hu
 cases h
def xfl (P:Program) (x:Nat × Ty):Option Ty:=match xiz P x.1 with
 | some (s,a)=>(match xli P x.1 with
  | some z=>(match xly P x.1 x.2.kind with
   | some k=>some ⟨k,s,a,z⟩
   | none=>none)
  | none=>none)
 | none=>none
theorem rowAt_ok {x:Nat × Ty} (h:xfl P x=some x.2):xlk P x.1 x.2:=by
 unfold xfl at h;split at h
 .rename_i s a hs;split at h
  .rename_i z hz;split at h
   .rename_i k hk;simp only [Option.some.injEq] at h;rw [<- h];exact ⟨zmj hs,xei hz,kdAt_ok hk⟩
   cases h
  cases h
 cases h
theorem znk:∀ {l:List (Nat × Ty)},l.map (xfl P)=l.map (fun x=>some x.2)->xhr P l
 | [],_=>trivial
 | (t,y)::l,h=>by
  simp only [qcl,List.cons.injEq] at h;exact ⟨rowAt_ok (x:=(t,y)) h.1,znk h.2⟩
theorem tok_tab {l:List (Nat × Ty)} (h:l.map (xfl P)=l.map (fun x=>some x.2)):TOK P (zzn l):=xgx (znk h)
end
set_option maxRecDepth 100000
section
def ybf:Ty:=⟨.other,1,false,[.nilFunc]⟩
def xme:Ty:=⟨(.int .i64),1,false,[(.int .i64 0)]⟩
def ty_4:Ty:=⟨.bool,1,false,[(.bool false)]⟩
def xlh:Ty:=⟨(.int .u8),1,false,[(.int .u8 0)]⟩
def xmv:Ty:=⟨(.strct [(0,1,false),(1,1,false),(2,1,false),(3,1,false)]),4,true,[(.int .i64 0),(.int .i64 0),(.bool false),(.int .u8 0)]⟩
def xmf:Ty:=⟨.string,1,false,[(.string ByteArray.empty)]⟩
def xkk:Ty:=⟨(.int .u64),1,false,[(.int .u64 0)]⟩
def xkl:Ty:=⟨(.strct [(0,1,false),(1,1,false)]),2,true,[(.string ByteArray.empty),(.int .u64 0)]⟩
def zbg:Ty:=⟨.other,1,false,[(.pointer none)]⟩
def xkm:Ty:=⟨(.strct [(0,1,false)]),1,true,[(.pointer none)]⟩
def ty_20:Ty:=⟨.other,1,false,[.nilIface]⟩
def xir:Ty:=⟨(.int .i32),1,false,[(.int .i32 0)]⟩
def ty_22:Ty:=⟨(.slc 160 6 true 56 [(.string ByteArray.empty),(.int .i64 0),(.int .i64 0),(.int .i64 0),(.int .i64 0),(.int .i64 0)]),1,false,[(.slice none 0 0)]⟩
def ty_23:Ty:=⟨(.slc 217 3 true 64 [(.string ByteArray.empty),(.slice none 0 0),(.slice none 0 0)]),1,false,[(.slice none 0 0)]⟩
def zzo:Ty:=⟨(.strct [(0,1,false),(1,1,false),(2,1,false)]),3,true,[(.string ByteArray.empty),(.slice none 0 0),(.slice none 0 0)]⟩
def ty_26:Ty:=⟨(.slc 3 1 false 8 [(.int .i64 0)]),1,false,[(.slice none 0 0)]⟩
def ty_27:Ty:=⟨(.slc 176 1 false 24 [(.slice none 0 0)]),1,false,[(.slice none 0 0)]⟩
def zhc:Ty:=⟨(.strct [(0,1,false),(1,1,false)]),2,true,[(.slice none 0 0),(.slice none 0 0)]⟩
def ty_30:Ty:=⟨(.slc 4 1 false 1 [(.bool false)]),1,false,[(.slice none 0 0)]⟩
def xkn:Ty:=⟨(.slc 50 1 false 4 [(.int .u32 0)]),1,false,[(.slice none 0 0)]⟩
def ty_32:Ty:=⟨(.slc 82 1 false 24 [(.slice none 0 0)]),1,false,[(.slice none 0 0)]⟩
def ty_47:Ty:=⟨(.slc 26 1 false 24 [(.slice none 0 0)]),1,false,[(.slice none 0 0)]⟩
def ty_50:Ty:=⟨(.int .u32),1,false,[(.int .u32 0)]⟩
def xko:Ty:=⟨(.strct [(0,1,false),(1,1,false),(2,1,false),(3,1,false),(4,1,false)]),5,true,[(.int .i64 0),(.int .i64 0),(.int .i64 0),(.int .i64 0),(.int .u32 0)]⟩
def ztt:Ty:=⟨(.strct [(0,1,false),(1,1,false),(2,1,false),(3,5,true)]),8,true,(List.replicate 3 (.slice none 0 0)++List.replicate 4 (.int .i64 0)++List.replicate 1 (.int .u32 0))⟩
def ty_60:Ty:=⟨(.slc 68 1 false 24 [(.slice none 0 0)]),1,false,[(.slice none 0 0)]⟩
def ty_63:Ty:=⟨(.slc 47 1 false 24 [(.slice none 0 0)]),1,false,[(.slice none 0 0)]⟩
def ty_64:Ty:=⟨(.slc 52 5 true 40 [(.int .i64 0),(.int .i64 0),(.int .i64 0),(.int .i64 0),(.int .u32 0)]),1,false,[(.slice none 0 0)]⟩
def ty_68:Ty:=⟨(.slc 238 2 true 16 [(.int .i64 0),(.int .i64 0)]),1,false,[(.slice none 0 0)]⟩
def ty_82:Ty:=⟨(.slc 87 2 true 16 [(.int .u32 0),(.int .i64 0)]),1,false,[(.slice none 0 0)]⟩
def xkp:Ty:=⟨(.strct [(0,1,false),(1,1,false)]),2,true,[(.int .u32 0),(.int .i64 0)]⟩
def xkq:Ty:=⟨(.strct [(0,1,false),(1,1,false),(2,1,false),(3,1,false),(4,1,false)]),5,true,[(.pointer none),(.slice none 0 0),(.int .i64 0),(.int .u32 0),.nilFunc]⟩
def ty_100:Ty:=⟨(.slc 103 1 false 24 [(.slice none 0 0)]),1,false,[(.slice none 0 0)]⟩
def ty_103:Ty:=⟨(.slc 104 2 true 16 [(.int .i64 0),(.int .i64 0)]),1,false,[(.slice none 0 0)]⟩
def ty_104:Ty:=⟨(.arr 2 1 false),2,true,[(.int .i64 0),(.int .i64 0)]⟩
def xhd:Ty:=⟨(.strct [(0,1,false),(1,1,false),(2,1,false),(3,1,false),(4,1,false)]),5,true,[(.pointer none),(.slice none 0 0),(.int .i64 0),(.slice none 0 0),(.slice none 0 0)]⟩
def ty_134:Ty:=⟨(.slc 203 4 true 32 [(.int .i64 0),(.int .i64 0),(.int .i64 0),(.int .i64 0)]),1,false,[(.slice none 0 0)]⟩
def ty_138:Ty:=⟨(.slc 9 1 false 16 [(.string ByteArray.empty)]),1,false,[(.slice none 0 0)]⟩
def xhe:Ty:=⟨(.strct [(0,3,true),(3,3,true),(6,1,false)]),7,true,(List.replicate 1 (.string ByteArray.empty)++List.replicate 2 (.slice none 0 0)++List.replicate 1 (.string ByteArray.empty)++List.replicate 3 (.slice none 0 0))⟩
def xhf:Ty:=⟨(.strct [(0,1,false),(1,1,false),(2,1,false),(3,1,false),(4,1,false),(5,1,false)]),6,true,[(.string ByteArray.empty),(.int .i64 0),(.int .i64 0),(.int .i64 0),(.int .i64 0),(.int .i64 0)]⟩
def xhg:Ty:=⟨(.strct [(0,3,true),(3,2,true),(5,1,false),(6,1,false)]),7,true,(List.replicate 1 (.string ByteArray.empty)++List.replicate 4 (.slice none 0 0)++List.replicate 1 (.int .i64 0)++List.replicate 1 (.slice none 0 0))⟩
def ty_176:Ty:=⟨(.slc 178 2 true 16 [(.int .i64 0),(.int .i64 0)]),1,false,[(.slice none 0 0)]⟩
def zjq:Ty:=⟨(.strct [(0,1,false),(1,1,false)]),2,true,[(.int .i64 0),(.int .i64 0)]⟩
def ty_190:Ty:=⟨(.arr 24 1 false),24,true,(List.replicate 24 (.int .i64 0))⟩
def xhh:Ty:=⟨(.strct [(0,1,false),(1,1,false),(2,1,false),(3,1,false)]),4,true,[(.int .i64 0),(.int .i64 0),(.int .i64 0),(.int .i64 0)]⟩
def ty_215:Ty:=⟨(.slc 249 2 true 32 [(.int .i64 0),(.slice none 0 0)]),1,false,[(.slice none 0 0)]⟩
def xhi:Ty:=⟨(.strct [(0,3,true),(3,1,false),(4,1,false)]),5,true,[(.string ByteArray.empty),(.slice none 0 0),(.slice none 0 0),(.pointer none),(.slice none 0 0)]⟩
def xhj:Ty:=⟨(.strct [(0,1,false),(1,1,false)]),2,true,[(.int .i64 0),.nilFunc]⟩
def ty_234:Ty:=⟨(.slc 233 2 true 16 [(.int .i64 0),.nilFunc]),1,false,[(.slice none 0 0)]⟩
def xhk:Ty:=⟨(.strct [(0,1,false),(1,1,false),(2,1,false),(3,1,false)]),4,true,[(.pointer none),(.slice none 0 0),(.int .i64 0),(.slice none 0 0)]⟩
def xhl:Ty:=⟨(.strct [(0,1,false),(1,1,false)]),2,true,[(.int .i64 0),(.slice none 0 0)]⟩
def ty_272:Ty:=⟨(.map 9 4),1,false,[(.map none)]⟩
def ty_273:Ty:=⟨(.map 3 4),1,false,[(.map none)]⟩
def ty_284:Ty:=⟨(.arr 3 1 false),3,true,[(.int .i64 0),(.int .i64 0),(.int .i64 0)]⟩
def ty_294:Ty:=⟨(.arr 32 1 false),32,true,(List.replicate 32 (.int .u8 0))⟩
def ty_301:Ty:=⟨(.arr 256 1 false),256,true,(List.replicate 256 (.bool false))⟩
def ty_302:Ty:=⟨(.map 104 3),1,false,[(.map none)]⟩
def xhm:Ty:=⟨(.strct [(0,1,false),(1,1,false),(2,1,false),(3,1,false)]),4,true,[(.pointer none),(.pointer none),(.pointer none),(.string ByteArray.empty)]⟩
def xhn:Ty:=⟨(.strct [(0,1,false),(1,1,false),(2,1,false),(3,1,false),(4,1,false),(5,1,false),(6,1,false),(7,1,false),(8,1,false),(9,1,false),(10,1,false)]),11,true,(List.replicate 2 (.int .u64 0)++List.replicate 1 (.int .u32 0)++List.replicate 4 (.int .u8 0)++List.replicate 1 .nilFunc++List.replicate 1 (.pointer none)++List.replicate 2 (.int .i32 0))⟩
def tabL:List (Nat × Ty):=[(1,ybf),(2,xme),(3,xme),(4,ty_4),(5,xlh),(6,xlh),(7,xmv),(8,xmv),(9,xmf),(10,xmf),(11,xmf),(12,xkk),(13,xkl),(14,xkl),(15,zbg),(16,zbg),(17,zbg),(18,xkm),(19,xkm),(20,ty_20),(21,xir),(22,ty_22),(23,ty_23),(24,zzo),(25,zzo),(26,ty_26),(27,ty_27),(28,zhc),(29,zhc),(30,ty_30),(31,xkn),(32,ty_32),(33,zhc),(34,zhc),(36,ybf),(37,ybf),(38,xme),(40,ybf),(41,ybf),(42,ybf),(44,ybf),(46,ybf),(47,ty_47),(49,ybf),(50,ty_50),(51,xko),(52,xko),(53,ztt),(54,ztt),(56,ybf),(58,ybf),(59,ybf),(60,ty_60),(61,ybf),(62,ybf),(63,ty_63),(64,ty_64),(66,ybf),(67,ybf),(68,ty_68),(69,ybf),(70,ybf),(71,ybf),(72,ybf),(73,ybf),(75,ybf),(76,ybf),(78,ybf),(80,ybf),(81,ybf),(82,ty_82),(83,ybf),(84,ybf),(85,ybf),(86,xkp),(87,xkp),(88,ybf),(89,ybf),(90,ybf),(91,ybf),(92,zbg),(93,xkn),(94,ybf),(95,xkq),(96,xkq),(97,ybf),(98,ybf),(99,ybf),(100,ty_100),(101,ybf),(102,ybf),(103,ty_103),(104,ty_104),(105,ybf),(106,ybf),(107,ybf),(108,ybf),(110,ybf),(111,ybf),(112,ybf),(113,ybf),(114,ybf),(115,ybf),(116,ybf),(117,zbg),(118,ybf),(119,ybf),(120,ybf),(121,ybf),(122,ybf),(123,ybf),(124,ybf),(125,zbg),(126,ybf),(127,ybf),(129,ybf),(130,ybf),(131,xhd),(132,xhd),(133,ybf),(134,ty_134),(136,ybf),(137,zbg),(138,ty_138),(139,zzo),(140,zzo),(141,xhe),(142,xhe),(143,ybf),(144,ybf),(145,ybf),(146,ybf),(147,ybf),(148,ybf),(149,ybf),(150,ybf),(152,ybf),(153,ybf),(154,ybf),(155,ybf),(156,ybf),(157,ybf),(158,ybf),(159,xhf),(160,xhf),(161,ybf),(162,ybf),(163,ybf),(164,ybf),(166,ybf),(167,ybf),(168,ybf),(169,ybf),(170,ybf),(171,ybf),(172,ybf),(173,ybf),(174,xhg),(175,xhg),(176,ty_176),(177,zjq),(178,zjq),(179,ybf),(180,ybf),(181,ybf),(182,ybf),(183,ybf),(184,ybf),(185,xkk),(186,ybf),(187,ybf),(188,ybf),(189,ybf),(190,ty_190),(191,ybf),(192,ybf),(193,ybf),(194,ybf),(195,ybf),(196,ybf),(197,ybf),(198,ybf),(199,ybf),(200,ybf),(201,ybf),(202,xhh),(203,xhh),(205,ybf),(206,zjq),(207,zjq),(209,ybf),(210,ybf),(211,ybf),(212,ybf),(213,ybf),(214,ybf),(215,ty_215),(216,zzo),(217,zzo),(218,ybf),(219,ybf),(220,ybf),(221,ybf),(222,ybf),(223,ybf),(224,xhi),(225,xhi),(226,ybf),(228,ybf),(229,ybf),(230,ybf),(231,ybf),(232,xhj),(233,xhj),(234,ty_234),(235,ybf),(236,ybf),(237,zjq),(238,zjq),(239,ybf),(240,ybf),(241,zhc),(242,zhc),(243,ybf),(244,xhk),(245,xhk),(246,ybf),(247,ybf),(248,xhl),(249,xhl),(250,ybf),(251,ybf),(252,ybf),(253,ybf),(254,ybf),(255,ybf),(256,ybf),(257,ybf),(258,ybf),(259,ybf),(260,ybf),(262,ybf),(263,ybf),(264,zbg),(265,ybf),(266,ybf),(267,ybf),(268,ybf),(269,ybf),(270,zbg),(271,ybf),(272,ty_272),(273,ty_273),(274,ybf),(275,ybf),(276,ybf),(277,ybf),(278,ybf),(279,ybf),(280,ybf),(281,ybf),(282,ybf),(283,ybf),(284,ty_284),(285,ybf),(286,zbg),(287,ybf),(288,ybf),(289,ybf),(290,ybf),(291,ybf),(292,ybf),(293,ybf),(294,ty_294),(295,ybf),(296,ybf),(297,ybf),(298,ybf),(299,ybf),(300,ybf),(301,ty_301),(302,ty_302),(303,ybf),(304,ybf),(305,ybf),(306,ybf),(307,ybf),(308,ybf),(309,ybf),(310,ybf),(311,ybf),(312,ybf),(313,ybf),(314,ybf),(315,ybf),(316,xhm),(317,xhm),(321,xlh),(322,xlh),(323,ybf),(324,zbg),(325,xir),(326,xir),(327,xhn),(328,xhn),(329,zbg)]
def TT:Nat->Option Ty:=zzn tabL
theorem tok:TOK prog TT:=tok_tab kf
theorem ysy:prog.follows .mixedOrders=true:=by kernel_rfl
end
section
open Go.RowKit
variable {N:Nat} {ops:Array Oper} {lf:Oper->Bool} {Q:SS->Prop} {t:List (Nat × AV)} {h:List (Nat × Option LObj)} {rest:List Oper} {d:Nat} {op:Op} {ty:TypeId} {pos:String} {af:Array Edge} {gd:Option (Nat × Bool)} {r:AV}
theorem zI {z:Int} (k:Lex prog N ops lf Q rest (S ((d,.v (.int .i64 z))::t) h)) (hr:ysz TT t h op ty=some (.v (.int .i64 (IntKind.i64.wrap z))):=by rfl) (h0:-9223372036854775808<=z/\z<=9223372036854775807:=by constructor <;> omega) (hw:yal ops (yaj t) ⟨some d,op,ty,pos,af,gd⟩=some true:=by rfl) (hd:Nat.blt d N=true:=by rfl):Lex prog N ops lf Q (⟨some d,op,ty,pos,af,gd⟩::rest) (S t h):=L_int tok hr h0 hw hd k
theorem zL {ti e es eb sz z:Nat} {ea ag:Bool} {ez z0:List Value} {f:α->List AV} {l:List α} (k:Lex prog N ops lf Q rest (S ((d,.v (.int .i64 l.length))::t) h)) (hk:TT ti=some ⟨.slc e es ea eb ez,sz,ag,z0⟩:=by rfl) (hx:evF (yaj t) x=some (.sl z (l.map f)):=by rfl) (hw:yal ops (yaj t) ⟨some d,.call { callee:=.builtin .len,args:=#[x],argTypes:=#[ti] },ty,pos,af,gd⟩=some true:=by rfl) (hd:Nat.blt d N=true:=by rfl):Lex prog N ops lf Q (⟨some d,.call { callee:=.builtin .len,args:=#[x],argTypes:=#[ti] },ty,pos,af,gd⟩::rest) (S t h):=L_lenMap tok hk hx hw hd k
theorem zC  (k:Lex prog N ops lf Q rest (S ((d,r)::t) h)) (hr:ysz TT t h op ty=some r:=by rfl) (hw:yal ops (yaj t) ⟨some d,op,ty,pos,af,gd⟩=some true:=by rfl) (hd:Nat.blt d N=true:=by rfl):Lex prog N ops lf Q (⟨some d,op,ty,pos,af,gd⟩::rest) (S t h):=zmx tok hr hw hd k
theorem zK (k:Lex prog N ops lf Q rest (S ((d,.v undef)::t) h)) (hw:yal ops (yaj t) ⟨some d,op,ty,pos,af,gd⟩=some false:=by rfl) (hd:Nat.blt d N=true:=by rfl):Lex prog N ops lf Q (⟨some d,op,ty,pos,af,gd⟩::rest) (S t h):=xfy hw hd k
theorem zB {elem:TypeId} {y:AV} {cs:List AV} (k:Lex prog N ops lf Q rest (S ((d,.lp d 0)::t) ((d,some (.cells cs))::h))) (hx:evF (yaj t) x=some y:=by rfl) (hcs:yeh y=some cs:=by rfl) (h1:ydg d t=true:=by rfl) (h2:ybv d h=true:=by rfl) (hm:ment.mentL d cs=false:=by rfl) (hl:lf ⟨some d,.box elem x,ty,pos,af,gd⟩=true:=by rfl) (hw:yal ops (yaj t) ⟨some d,.box elem x,ty,pos,af,gd⟩=some true:=by rfl) (hd:Nat.blt d N=true:=by rfl):Lex prog N ops lf Q (⟨some d,.box elem x,ty,pos,af,gd⟩::rest) (S t h):=xje hx hcs h1 h2 hm hl hw hd k
theorem zA {elem:TypeId} {y:Ty} (k:Lex prog N ops lf Q rest (S ((d,.lp d 0)::t) ((d,some (.cells (yit y.zero)))::h))) (hy:TT elem=some y:=by rfl) (hone:y.zero.all Value.oneCell'=true:=by rfl) (h1:ydg d t=true:=by rfl) (h2:ybv d h=true:=by rfl) (hl:lf ⟨some d,.alloc elem,ty,pos,af,gd⟩=true:=by rfl) (hw:yal ops (yaj t) ⟨some d,.alloc elem,ty,pos,af,gd⟩=some true:=by rfl) (hd:Nat.blt d N=true:=by rfl):Lex prog N ops lf Q (⟨some d,.alloc elem,ty,pos,af,gd⟩::rest) (S t h):=zkb tok hy hone h1 h2 hl hw hd k
theorem zS {ti:Nat} {y:Ty} {id off:Nat} {xs cs ys:List AV} {u:AV} (k:Lex prog N ops lf Q rest (S t ((id,some (.cells ys))::h))) (hy:TT ti=some y:=by rfl) (hx:evF (yaj t) x=some (.lp id off):=by rfl) (hv:evF (yaj t) v=some u:=by rfl) (hcs:yeh u=some cs:=by rfl) (hcl:Nat.beq cs.length y.size=true:=by rfl) (hh:yac h id=some (.cells xs):=by rfl) (hsp:yje off cs xs=some ys:=by rfl) (hl:lf ⟨none,.store ti x v,ty,pos,af,gd⟩=true:=by rfl) (hw:yal ops (yaj t) ⟨none,.store ti x v,ty,pos,af,gd⟩=some true:=by rfl):Lex prog N ops lf Q (⟨none,.store ti x v,ty,pos,af,gd⟩::rest) (S t h):=L_store tok hy hx hv hcs hcl hh hsp hl hw k
theorem zU {ti:Nat} {y:Ty} {parts:List (Nat × Operand)} {ps:List (Nat × AV)} (k:Lex prog N ops lf Q rest (S ((d,r)::t) h)) (hy:TT ti=some y:=by rfl) (hone:y.zero.all Value.oneCell'=true:=by rfl) (hps:evP (evF (yaj t)) parts=some ps:=by rfl) (hr:znr TT ti ps=some r:=by rfl) (hw:yal ops (yaj t) ⟨some d,.build ti parts.toArray,ty,pos,af,gd⟩=some true:=by rfl) (hd:Nat.blt d N=true:=by rfl):Lex prog N ops lf Q (⟨some d,.build ti parts.toArray,ty,pos,af,gd⟩::rest) (S t h):=L_build tok hy hone hps hr hw hd k
theorem zV {ti e es eb sz len:Nat} {ea ag:Bool} {ez z:List Value} {parts:List (Nat × Operand)} {ps:List (Nat × AV)} {ys:List AV} {rows:List (List AV)} (k:Lex prog N ops lf Q rest (S ((d,.sl es rows)::t) h)) (hk:TT ti=some ⟨.slc e es ea eb ez,sz,ag,z⟩:=by rfl) (hone:ez.all Value.oneCell'=true:=by rfl) (hps:evP (evF (yaj t)) parts=some ps:=by rfl) (hf:zbb (fun i=>some (i * es,es)) (ykr len (yit ez)) ps=some ys:=by rfl) (hpu:yar.pureL ys=true:=by rfl) (hch:yqk es len ys=some rows:=by rfl) (hlim:Nat.ble (len * es) 16777216=true:=by rfl) (hw:yal ops (yaj t) ⟨some d,.buildSlice ti len parts.toArray,ty,pos,af,gd⟩=some true:=by rfl) (hd:Nat.blt d N=true:=by rfl):Lex prog N ops lf Q (⟨some d,.buildSlice ti len parts.toArray,ty,pos,af,gd⟩::rest) (S t h):=L_buildSlice tok hk hone hps hf hpu hch hlim hw hd k
theorem zF {f:Nat} {caps:List Operand} {xs:List AV} (k:Lex prog N ops lf Q rest (S ((d,.fn f xs)::t) h)) (hx:evL (evF (yaj t)) caps=some xs:=by rfl) (hw:yal ops (yaj t) ⟨some d,.makeFunc (.func f) #[] caps.toArray,ty,pos,af,gd⟩=some true:=by rfl) (hd:Nat.blt d N=true:=by rfl):Lex prog N ops lf Q (⟨some d,.makeFunc (.func f) #[] caps.toArray,ty,pos,af,gd⟩::rest) (S t h):=L_makeFunc hx hw hd k
theorem zX {ti e es eb sz:Nat} {ea ag:Bool} {ez z:List Value} {ki:IntKind} {i:Int} {rows:List (List AV)} {row:List AV} (k:Lex prog N ops lf Q rest (S ((d,.dp row 0)::t) h)) (hk:TT ti=some ⟨.slc e es ea eb ez,sz,ag,z⟩:=by rfl) (hx:evF (yaj t) x=some (.sl es rows):=by rfl) (hy:evF (yaj t) y=some (.v (.int ki i)):=by rfl) (h0:0<=i:=by omega) (hrow:rows[i.toNat]?=some row:=by first|exact xdl (by assumption)|exact row_mapI (by assumption)) (hw:yal ops (yaj t) ⟨some d,.indexAddr ti x y,ty,pos,af,gd⟩=some true:=by rfl) (hd:Nat.blt d N=true:=by rfl):Lex prog N ops lf Q (⟨some d,.indexAddr ti x y,ty,pos,af,gd⟩::rest) (S t h):=yne tok hk hx hy h0 hrow hw hd k
theorem zR {Q:Exit->SS->Prop} {s:SS} {id:Nat} {l:List Oper} (k:Lex prog N l.toArray lfT (Q .normal) l s) (hn:yhr l=true:=by rfl):A prog N (.region id l.toArray false) Q s:=ybi (lf:=lfT) hn k
theorem zD {Q:Exit->SS->Prop} {s:SS} {id:Nat} {l:List Oper} (k:Lex prog N l.toArray lf0 (Q .normal) l s) (hB:zuy lf0 l=true:=by kernel_rfl) (hD:ytk N l=true:=by rfl):A prog N (.region id l.toArray true) Q s:=yta (lf:=lf0) ysy hB hD k
theorem zT {Q:Exit->SS->Prop} {s:SS} {x y:Code} (k:A prog N x Q s) (hc:evF s.t c=some (.v (.bool true)):=by rfl):A prog N (.cond c x y) Q s:=yvb hc (fun _=>k) (fun e=>by cases e)
theorem zE {Q:Exit->SS->Prop} {s:SS} {x y:Code} (k:A prog N y Q s) (hc:evF s.t c=some (.v (.bool false)):=by rfl):A prog N (.cond c x y) Q s:=yvb hc (fun e=>by cases e) (fun _=>k)
theorem ymd {ty:TypeId} {h:Nat->Option LObj} {ρ:Operand->Option AV} {row:List AV} {off:Nat} (hx:ρ x=some (.dp row off)):yby P h ρ (.nilCheck x) ty (.dp row off):=
 yav fun B ok0 lv w a o ho hty hi hops=>by
  have hr:=hops x _ (by simp [Op.operands]) hx;obtain ⟨g,q,hv,_⟩:=ylm hr;exact ⟨a.eval x,by simp [execOp,ho,hv],hr⟩
theorem zN {row:List AV} {off:Nat} (k:Lex prog N ops lf Q rest (S ((d,.dp row off)::t) h)) (hx:evF (yaj t) x=some (.dp row off):=by rfl) (hw:yal ops (yaj t) ⟨some d,.nilCheck x,ty,pos,af,gd⟩=some true:=by rfl) (hd:Nat.blt d N=true:=by rfl):Lex prog N ops lf Q (⟨some d,.nilCheck x,ty,pos,af,gd⟩::rest) (S t h):=ycl (ymd hx) hw hd k
structure Zk (q:Prop):Prop where
 out:q
theorem z3 {p q:Prop} (k:q) (h:Zk q->p:=by intro hq;(first|refine zI ?_|refine zL ?_|refine zC ?_|refine zK ?_|refine zB ?_|refine zA ?_|refine zS ?_|refine zU ?_|refine zV ?_|refine zF ?_|refine zX ?_|refine zmy ?_|refine yxz rfl rfl rfl rfl ?_|refine zN ?_);exact hq.out):p:=h ⟨k⟩
theorem z2 {p q:Prop} (k:q) (h:Zk q->p:=by intro hq;(first|refine zI ?_|refine zL ?_|refine zC ?_|refine zmy ?_|refine ynb ?_|refine zR ?_|refine zK ?_|refine zB ?_|refine zA ?_|refine zS ?_|refine zU ?_|refine zV ?_|refine zF ?_|with_reducible refine ycd ?_|with_reducible refine ydk ?_|refine zrs ?_|refine ycy ?_|refine ymi ?_|refine zT ?_|refine zE ?_|refine zX ?_|refine yxz rfl rfl rfl rfl ?_|refine zN ?_);exact hq.out):p:=h ⟨k⟩
theorem z1 {p q:Prop} (k:q) (h:Zk q->p:=by intro hq;(first|refine z2 ?_|refine zD ?_);exact hq.out):p:=h ⟨k⟩
theorem zy {p q:Prop} (k:q) (h:Zk q->p:=by intro hq;refine z1 ?_;(repeat refine z1 ?_);exact hq.out):p:=h ⟨k⟩
theorem zY {p q:Prop} (k:q) (h:Zk q->p:=by intro hq;(repeat refine z1 ?_);exact hq.out):p:=h ⟨k⟩
theorem zw {p q:Prop} (k:q) (h:Zk q->p:=by intro hq;refine z2 ?_;(repeat refine z2 ?_);exact hq.out):p:=h ⟨k⟩
theorem zW {p q:Prop} (k:q) (h:Zk q->p:=by intro hq;(repeat refine z2 ?_);exact hq.out):p:=h ⟨k⟩
theorem zo {p q:Prop} (k:q) (h:Zk q->p:=by intro hq;refine z3 ?_;(repeat refine z3 ?_);exact hq.out):p:=h ⟨k⟩
theorem zO {p q:Prop} (k:q) (h:Zk q->p:=by intro hq;(repeat refine z3 ?_);exact hq.out):p:=h ⟨k⟩
theorem z4 {p q:Prop} (k:q) (h:Zk q->p:=by intro hq;(first|refine z1 ?_|refine (yte rfl rfl (by assumption) rfl rfl ?_));exact hq.out):p:=h ⟨k⟩
theorem z5 {p q:Prop} (k:q) (h:Zk q->p:=by intro hq;(first|refine z2 ?_|refine (yte rfl rfl (by assumption) rfl rfl ?_));exact hq.out):p:=h ⟨k⟩
theorem zz {p q:Prop} (k:q) (h:Zk q->p:=by intro hq;refine z4 ?_;(repeat refine z4 ?_);exact hq.out):p:=h ⟨k⟩
theorem zZ {p q:Prop} (k:q) (h:Zk q->p:=by intro hq;(repeat refine z4 ?_);exact hq.out):p:=h ⟨k⟩
theorem zwz {p q:Prop} (k:q) (h:Zk q->p:=by intro hq;refine z5 ?_;(repeat refine z5 ?_);exact hq.out):p:=h ⟨k⟩
theorem zWZ {p q:Prop} (k:q) (h:Zk q->p:=by intro hq;(repeat refine z5 ?_);exact hq.out):p:=h ⟨k⟩
theorem zr {p q:Prop} (k:q) (h:Zk q->p:=by intro hq;refine ykj ⟨_,rfl,hq.out⟩):p:=h ⟨k⟩
theorem zc {p q r:Prop} (x:r) (k:q) (h:Zk r->Zk q->p:=by intro hx hq;refine (yte rfl rfl hx.out rfl rfl ?_);exact hq.out):p:=h ⟨x⟩ ⟨k⟩
theorem zk {p q:Prop} (k:q) (h:Zk q->p:=by intro hq;refine zY ?_;refine ykj ⟨_,rfl,hq.out⟩):p:=h ⟨k⟩
theorem zp {p:Prop} (h:p:=by refine ykj ⟨_,rfl,Frz.pure⟩):p:=h
theorem zkp {p:Prop} (h:p:=by refine zY ?_;refine ykj ⟨_,rfl,Frz.pure⟩):p:=h
theorem ze {f : FuncId} {fn : Func} {c : Code} {M : Nat} {rs : List ResultVar} {args : List AV} {r : AV} (hf : prog.funcs[f]? = some fn) (hN : fn.ntmps = M) (hrs : fn.results = rs.toArray) (k : A prog M c (xlj rs r) (S (yfn 0 args) [])) (hn : (fn.name == "runtime.NumGoroutine") = false := by rfl) (hb : fn.body = some c := by rfl)
  (hlen:(Nat.ble args.length M && Nat.ble M 1000000)=true:=by rfl) (hp:yar r=true:=by rfl):Con prog f args r:=xgd hf hn hb hN hrs hlen hp k
theorem zj {Q:Exit->SS->Prop} {s:SS} {x y:Code} {b:Bool} (k1:b=true->A prog N x Q s) (k2:b=false->A prog N y Q s) (hc:evF s.t c=some (.v (.bool b)):=by rfl):A prog N (.cond c x y) Q s:=yvb hc k1 k2
theorem zt {p q:Prop} (k:q) (h:Zk q->p:=by intro hq;(repeat (first|with_reducible refine ydk ?_|with_reducible refine ycd ?_|refine ycy ?_|refine ynb ?_|refine zrs ?_));exact hq.out):p:=h ⟨k⟩
theorem zs {t t':List (Nat × AV)} (h:yxu t t':=by (repeat (first|exact subT_nil|refine yas rfl ?_))):yxu t t':=h
theorem zh {t t':List (Nat × Option LObj)} (h:yts t t':=by first|exact yag|exact yaa rfl yag|exact yaa rfl (yaa rfl yag)|exact yaa rfl (yaa rfl (yaa rfl yag))|exact yaa rfl (yaa rfl (yaa rfl (yaa rfl yag)))):yts t t':=h
end
section
open Go.RowKit
abbrev Lk:=Int × Int
structure GraphD where
 ids:List Int
 ports:List (List Lk)
def GraphD.n (g:GraphD):Nat:=g.ports.length
def zpg (n v:Nat) (l:Lk):Bool:=decide (0<=l.1) && (decide (l.1 < n) && (!(l.1 == (v:Int)) && (decide (1<=l.2) && decide (l.2<=15))))
theorem ybp (n v:Nat) (l:Lk):zpg n v l=true<->0<=l.1/\l.1 < n/\l.1≠v/\1<=l.2/\l.2<=15:=by
 unfold zpg;simp
def yid (n v:Nat) (ls:List Lk):Bool:=ls.all (zpg n v) && decide ((ls.map (·.1)).Nodup)
def idB (x:Int):Bool:=decide (0<=x) && decide (x<=255)
def zrm (l:List Int):Bool:=l.all idB && decide l.Nodup
def yga (ls:List Lk) (u:Int):Int:=match ls.find? (fun l=>l.1 == u) with|some l=>l.2|none=>0
def zff (ports:List (List Lk)):Bool:=(List.range ports.length).all fun v=>yid ports.length v (ports.getD v [])
def xki (ports:List (List Lk)):Bool:=(List.range ports.length).all fun v=>(ports.getD v []).all fun l=>yga (ports.getD l.1.toNat []) v == l.2
def ych (g:GraphD):Bool:=decide (1<=g.ports.length) && (decide (g.ports.length<=24) && (decide (g.ids.length=g.ports.length) && (zrm g.ids && (zff g.ports && xki g.ports))))
theorem xgo (n:Nat):∀ l:List Nat,l.Nodup->(∀ x∈l,x < n)->l.length<=n:=by
 induction n with
 | zero=>
  intro l _ h;cases l with
  | nil=>simp
  | cons a l=>exact absurd (h a sm) om
 | succ n ih=>
  intro l hn h;by_cases hm:n∈l
  .have h1:=ih (l.erase n) (hn.erase n) (fun x hx=>by
    have h2:=h x (List.mem_of_mem_erase hx)
    have h3:x≠n:=fun e=>by rw [e] at hx;exact (List.Nodup.not_mem_erase hn) hx
    omega)
   rw [List.length_erase_of_mem hm] at h1;omega
  have:=ih l hn (fun x hx=>by have h2:=h x hx;have h3:x≠n:=fun e=>hm (e ▸ hx);omega);omega
theorem nodup_map_inj {β:Type} (f:α->β):∀ l:List α,l.Nodup->(∀ x∈l,∀ y∈l,f x=f y->x=y)->(l.map f).Nodup:=by
 intro l;induction l with
 | nil=>intro _ _;simp
 | cons a l ih=>
  intro hn hf;rw [qcl,qde] at *;refine ⟨fun h=>?_,ih hn.2 fun x hx y hy h=>hf x (by simp [hx]) y (by simp [hy]) h⟩;rw [qag] at h;obtain ⟨b,hb,he⟩:=h;exact hn.1 (hf b (by simp [hb]) a sm he ▸ hb)
theorem ydb {n v:Nat} {ls:List Lk} (hv:v < n) (h:yid n v ls=true):ls.length < n:=by
 unfold yid at h;rw [qac,decide_eq_true_eq,List.all_eq_true] at h;obtain ⟨h1,h2⟩:=h;have hb:∀ x:Int,x∈ls.map (·.1)->0<=x/\x < n/\x≠v:=by
  intro x hx;rw [qag] at hx;obtain ⟨l,hl,rfl⟩:=hx;have:=(ybp n v l).1 (h1 l hl);exact ⟨this.1,this.2.1,this.2.2.1⟩
 have h3:((ls.map (·.1)).map Int.toNat).Nodup:=nodup_map_inj Int.toNat _ h2 fun x hx y hy he=>by
  have hx':=hb x hx;have hy':=hb y hy;omega
 have h4:=xgo n (v::(ls.map (·.1)).map Int.toNat) (by
  rw [qde]
  refine ⟨fun hm=>?_,h3⟩
  rw [qag] at hm
  obtain ⟨x,hx,he⟩:=hm
  have:=hb x hx
  omega) (fun x hx=>by
   rcases qas.1 hx with rfl|hx
   .exact hv
   rw [qag] at hx
   obtain ⟨y,hy,rfl⟩:=hx
   have:=hb y hy
   omega)
 simp at h4;omega
theorem yba {g:GraphD} (h:ych g=true):1<=g.ports.length/\g.ports.length<=24/\g.ids.length=g.ports.length/\(∀ x∈g.ids,0<=x/\x<=255)/\g.ids.Nodup /\
  (∀ (v:Nat) (ls:List Lk),g.ports[v]?=some ls->yid g.ports.length v ls=true)/\(∀ (v:Nat) (ls:List Lk),g.ports[v]?=some ls->∀ l∈ls,yga (g.ports.getD l.1.toNat []) v=l.2):=by
 unfold ych at h;simp only [qac,decide_eq_true_eq] at h;obtain ⟨h1,h2,h3,h4,h5,h6⟩:=h;unfold zrm at h4;simp only [qac,decide_eq_true_eq,List.all_eq_true,idB] at h4;refine ⟨h1,h2,h3,h4.1,h4.2,fun v ls hv=>?_,fun v ls hv l hl=>?_⟩
 .have hlt:=(qaa.1 hv).1;have:=List.all_eq_true.1 h5 v (qca.2 hlt);rw [qad,hv] at this;exact this
 have hlt:=(qaa.1 hv).1;have:=List.all_eq_true.1 h6 v (qca.2 hlt);rw [qad,hv] at this;have:=List.all_eq_true.1 this l hl;simpa using this
end
variable {l:List Lk}
section
theorem zky {l:List Int} {x:Int} (hx:l[k]?=some x) (h:idB x=false):zrm l=false:=by
 unfold zrm;rw [qcd.2 ⟨x,qab hx,by simp [h]⟩];rfl
theorem zii {l:List Int} {x:Int} (hx:l[k]?=some x) (h:x∈l.take k):zrm l=false:=by
 unfold zrm;have:¬ l.Nodup:=by
  intro hn;obtain ⟨j,hj⟩:=qan h;rw [qbc] at hj;split at hj
  .rename_i hjk;have h1:=qaa.1 hj;have h2:=qaa.1 hx;have:=(qdc.1 hn) j k h1.1 h2.1 hjk;rw [h1.2,h2.2] at this;exact this rfl
  cases hj
 simp [this]
theorem idsB_iff (l:List Int):zrm l=true<->(∀ x∈l,idB x=true)/\l.Nodup:=by
 unfold zrm;rw [qac,decide_eq_true_eq,List.all_eq_true]
theorem yhh {l:List α} {x:α} (hx:l[k]?=some x):l.take (k+1)=l.take k++[x]:=by
 rw [qga,hx];rfl
theorem zov {l:List Int} {x:Int} (hx:l[k]?=some x) (h:zrm (l.take k)=true) (h1:idB x=true) (h2:x ∉ l.take k):zrm (l.take (k+1))=true:=by
 rw [idsB_iff] at *;rw [yhh hx];refine ⟨fun y hy=>?_,?_⟩
 .rcases qau.1 hy with hy|hy
  .exact h.1 y hy
  simp at hy;subst hy;exact h1
 rw [qfm];exact ⟨h.2,sm,fun a ha b hb=>by simp at hb;subst hb;exact fun e=>h2 (e ▸ ha)⟩
def yvi (l:List Int):List Bool:=(List.range 256).map fun i:Nat=>decide ((i:Int)∈l)
theorem bits_nil:yvi []=List.replicate 256 false:=by
 unfold yvi;rw [show (fun i:Nat=>decide ((i:Int)∈([]:List Int)))=fun _=>false from by funext i;simp,List.map_const',qdz]
theorem bits_len (l:List Int):(yvi l).length=256:=by simp [yvi]
theorem bits_get (l:List Int) (x:Int) (h0:0<=x) (h1:x<=255):(yvi l)[x.toNat]?=some (decide (x∈l)):=by
 unfold yvi;rw [qah,qbw om];have:((x.toNat:Nat):Int)=x:=by omega
 simp [this]
theorem bits_set (l:List Int) (x:Int) (h0:0<=x) (h1:x<=255):(yvi l).set x.toNat true=yvi (l++[x]):=by
 apply List.ext_getElem
 .simp [yvi]
 intro i h2 h3;have hx:((x.toNat:Nat):Int)=x:=by omega
 rw [List.getElem_set];unfold yvi;simp only [List.getElem_map,List.getElem_range,qau,qaq];by_cases hi:x.toNat=i
 .subst hi;simp [hx]
 have:¬ ((i:Nat):Int)=x:=by omega
 simp [hi,this]
end
section
variable {n:Nat}
theorem yck (n v:Nat) (l:List Lk):yid n v l=true<->(∀ x∈l,zpg n v x=true)/\(l.map (·.1)).Nodup:=by
 unfold yid;rw [qac,decide_eq_true_eq,List.all_eq_true]
theorem yhz {v:Nat} {x:Lk} (hx:l[k]?=some x) (h:zpg n v x=false):yid n v l=false:=by
 rw [<- qbv,yck];intro h1;rw [h1.1 x (qab hx)] at h;cases h
theorem zan {v:Nat} {x y:Lk} (hjk:j < k) (hy:l[j]?=some y) (hx:l[k]?=some x) (h:y.1=x.1):yid n v l=false:=by
 rw [<- qbv,yck];intro h1;have g1:=qaa.1 hy;have g2:=qaa.1 hx;have:=(qdc.1 h1.2) j k (by simpa using g1.1) (by simpa using g2.1) hjk;simp [g1.2,g2.2,h] at this
theorem zel {v:Nat} {x:Lk} (hx:l[k]?=some x) (h:yid n v (l.take k)=true) (h1:zpg n v x=true) (h2:∀ (j:Nat) (y:Lk),j < k->l[j]?=some y->y.1≠x.1):yid n v (l.take (k+1))=true:=by
 rw [yck] at *;rw [yhh hx];refine ⟨fun y hy=>?_,?_⟩
 .rcases qau.1 hy with hy|hy
  .exact h.1 y hy
  simp at hy;subst hy;exact h1
 rw [qbu,qfm];refine ⟨h.2,sm,fun a ha b hb=>?_⟩;simp at hb;subst hb;obtain ⟨y,hy,rfl⟩:=qag.1 ha;obtain ⟨j,hj⟩:=qan hy;rw [qbc] at hj;split at hj
 .rename_i hjk;exact h2 j y hjk hj
 cases hj
def yjw (l:List Lk) (u:Int):Int:=match l.findIdx? (fun x=>x.1 == u) with|some i=>i|none=>-1
theorem zfd (h:∀ (j:Nat) (y:Lk),l[j]?=some y->y.1≠u):yjw l u=-1:=by
 unfold yjw;have:l.findIdx? (fun x=>x.1 == u)=none:=by
  rw [List.findIdx?_eq_none_iff];intro x hx;obtain ⟨j,hj⟩:=qan hx;simpa using h j x hj
 rw [this]
theorem zfe {x:Lk} (hx:l[k]?=some x) (hu:x.1=u) (h:∀ (j:Nat) (y:Lk),j < k->l[j]?=some y->y.1≠u):yjw l u=k:=by
 unfold yjw;have:l.findIdx? (fun x=>x.1 == u)=some k:=by
  rw [List.findIdx?_eq_some_iff_getElem];have g:=qaa.1 hx;refine ⟨g.1,by simp [g.2,hu],fun j hj=>?_⟩;have hjl:j < l.length:=by have:=g.1;omega
  have:=h j l[j] hj (qae hjl);simpa using this
 rw [this]
theorem yrb (l:List Lk) (u:Int):(yjw l u=-1/\∀ x∈l,x.1≠u)\/∃ (k:Nat) (x:Lk),yjw l u=k/\l[k]?=some x/\x.1=u/\l.find? (fun x=>x.1 == u)=some x:=by
 unfold yjw;cases hf:l.findIdx? (fun x=>x.1 == u) with
 | none=>
  rw [List.findIdx?_eq_none_iff] at hf;exact .inl ⟨rfl,fun x hx=>by simpa using hf x hx⟩
 | some k=>
  obtain ⟨h1,h2,h3⟩:=List.findIdx?_eq_some_iff_getElem.1 hf;refine .inr ⟨k,l[k],rfl,qae h1,by simpa using h2,?_⟩;rw [List.find?_eq_some_iff_getElem];exact ⟨h2,k,h1,rfl,fun j hj=>by simpa using h3 j hj⟩
theorem zgm (h:∀ x∈l,x.1≠u):yga l u=0:=by
 unfold yga;have:l.find? (fun x=>x.1 == u)=none:=by
  rw [qdr];intro x hx;simpa using h x hx
 rw [this]
theorem zgn {x:Lk} (h:l.find? (fun x=>x.1 == u)=some x):yga l u=x.2:=by unfold yga;rw [h]
theorem ylf (g:GraphD):ych g=true<->1<=g.ports.length/\g.ports.length<=24/\g.ids.length=g.ports.length/\zrm g.ids=true/\zff g.ports=true/\xki g.ports=true:=by
 unfold ych;simp only [qac,decide_eq_true_eq]
theorem yjc (ports:List (List Lk)):zff ports=true<->∀ (v:Nat) (ls:List Lk),ports[v]?=some ls->yid ports.length v ls=true:=by
 unfold zff;rw [List.all_eq_true];constructor
 .intro h v ls hv;have:=h v (qca.2 (qaa.1 hv).1)
  rwa [qad,hv] at this
 intro h v hv;obtain ⟨ls,hls⟩:∃ ls,ports[v]?=some ls:=⟨_,qae (qca.1 hv)⟩;rw [qad,hls];exact h v ls hls
theorem zcl (ports:List (List Lk)):xki ports=true<->∀ (v:Nat) (ls:List Lk),ports[v]?=some ls->∀ l∈ls,yga (ports.getD l.1.toNat []) v=l.2:=by
 unfold xki;rw [List.all_eq_true];constructor
 .intro h v ls hv l hl;have:=h v (qca.2 (qaa.1 hv).1);rw [qad,hv] at this;simpa using List.all_eq_true.1 this l hl
 intro h v hv;obtain ⟨ls,hls⟩:∃ ls,ports[v]?=some ls:=⟨_,qae (qca.1 hv)⟩;rw [qad,hls];rw [qcp,List.all_eq_true];intro l hl;simpa using h v ls hls l hl
end
section
open Go.RowKit
def yah (l:List Int):AV:=.sl 1 (l.map fun z=>[i64 z])
def yfe (l:Lk):List AV:=[i64 l.1,i64 l.2]
def ykm (l:List Lk):AV:=.sl 2 (l.map yfe)
def yat (l:List (List Lk)):AV:=.sl 1 (l.map fun x=>[ykm x])
def yfm (g:GraphD):AV:=.agg [yah g.ids,yat g.ports]
def yds (c:List (List Int)):AV:=.sl 1 (c.map fun x=>[yah x])
def okW (w:World) (g:Nat):Prop:=g < w.heap.size
theorem ztc (h:ybm ok w lv [a] cs):∃ u,cs=[u]/\Rel ok w lv a u:=by
 match cs,h with
 | [u],h=>exact ⟨u,rfl,h.2 0 _ _ rfl rfl⟩
theorem yzh {b:AV} (h:ybm ok w lv [a,b] cs):∃ u v,cs=[u,v]/\Rel ok w lv a u/\Rel ok w lv b v:=by
 match cs,h with
 | [u,v],h=>exact ⟨u,v,rfl,h.2 0 _ _ rfl rfl,h.2 1 _ _ rfl rfl⟩
theorem relAll3 {b c:AV} (h:ybm ok w lv [a,b,c] cs):∃ u v x,cs=[u,v,x]/\Rel ok w lv a u/\Rel ok w lv b v/\Rel ok w lv c x:=by
 match cs,h with
 | [u,v,x],h=>exact ⟨u,v,x,rfl,h.2 0 _ _ rfl rfl,h.2 1 _ _ rfl rfl,h.2 2 _ _ rfl rfl⟩
theorem yge {f:FuncId} {args:List AV} {x:Value} (hb:ylh P f) (h:∀ (w:World) (us:List Value) (ok:Nat->Prop),(∀ g,ok g->g < w.heap.size)->ybm ok w (fun _=>none) args us->Calls P f us.toArray w fun e w'=>e=.returned x/\Below w.heap.size w w'):Con P f args (.v x):=
 ⟨hb,rfl,fun ok0 w us _ hok hr=>(h w us ok0 hok hr).mono fun e w' ⟨h1,h2⟩=>⟨x,h1,.v x,h2⟩⟩
end
set_option maxHeartbeats 8000000
section
open Go.RowKit
def yiv (p:Int × Int):List AV:=[i64 p.1,i64 p.2]
def ydl (tbl:List (List (Int × Int))):AV:=.sl 1 (tbl.map fun r=>[.sl 2 (r.map yiv)])
def yfj:AV:=.v (.slice none 0 0)
theorem zxi (x:AV) (n:Nat):ykr n [x]=List.replicate n x:=by
 induction n with
 | zero=>rfl
 | succ n ih=>simp [ykr,ih,qbo]
def ykh (tbl:List (List (Int × Int))) (val:Nat->Nat->Int):List (List AV):=tbl.mapIdx fun i r=>(List.range r.length).map fun j=>i64 (val i j)
theorem zhk {tbl:List (List (Int × Int))} {val:Nat->Nat->Int} {r:List (Int × Int)} (h:tbl[i]?=some r):(ykh tbl val)[i]?=some ((List.range r.length).map fun j=>i64 (val i j)):=by
 simp [ykh,h]
theorem yan {l:List α} {x:α} (h:l[i]?=some x):l.take (i+1)=l.take i++[x]:=by
 rw [qga,h];rfl
theorem zxr {l:List α} {m:Nat} {x z:α} (hl:l.length=m) (h:l[j]?=some x):(l.take j++List.replicate (m - j) z).set j x=l.take (j+1)++List.replicate (m - (j+1)) z:=by
 have hj:=(qaa.1 h).1;have e:(l.take j).length=j:=by rw [qcf];omega
 rw [qbm _ _ (Nat.le_of_eq e),e,qbn,show m - j=(m - (j+1))+1 by omega,qbo,yan h];simp
theorem zxs {l:List α} {x y:α} (h:l.length=k):(l++[x]).set k y=l++[y]:=by
 rw [qbm _ _ (Nat.le_of_eq h),h,qbn];rfl
theorem build_con (tbl:List (List (Int × Int))) (F:Nat) (caps:List AV) (val:Nat->Nat->Int) (hcaps:yar.pureL caps=true) (hlow:yqu.lowL caps=true) (hn:tbl.length<=1000) (hm:∀ r∈tbl,r.length<=1000) (hF:∀ (i j:Nat) (r:List (Int × Int)),tbl[i]?=some r->j < r.length->Con prog F ([i64 i,i64 j]++caps) (i64 (val i j))) :
  yot prog 121 [ydl tbl,.fn F caps] (fun _=>none) (.ls 10 1 tbl.length) (yac (ybs 10 1 (ykh tbl val) [])):=by
 refine zdl tok Tryz.func121 rfl rfl ntmps121 Tryz.results121 rfl rfl ?_
 (repeat (first|refine zy ?_|refine yqg tok rfl rfl rfl rfl co (by simp [ydg,ment,yfn,ydl,yar.pureL.ment hcaps]) rfl rfl rfl rfl ?_))
 refine yxv 10 (List.replicate tbl.length yfj) rfl (zxi _ _) ?_;refine ycx (α:=Nat) (fun k=>[(13,i64 k),(12,i64 tbl.length),(5,.ls 10 1 tbl.length),(0,ydl tbl),(1,.fn F caps)]) (fun k=>ybs 10 1 ((ykh tbl val).take k) (List.replicate (tbl.length - k) yfj)) (fun k=>tbl.length - k) (fun k=>k<=tbl.length) 0 om zs (hsE (by simp only [ybs,yfi,ypy,qff,qcn,qhm];exact yic)) ?_;intro k hk;refine zY ?_;refine zj ?_ ?_ <;> intro h
 .simp at h;obtain ⟨r,hr⟩:=ybr (show k < tbl.length by omega);refine zY ?_;have hrm:=hm r (qab hr);have hrow:=zhk (val:=val) hr;have hlen:(ykh tbl val).length=tbl.length:=by simp [ykh]
  have htk:((ykh tbl val).take k).length=k:=by rw [qcf,hlen];omega
  refine xab tok (fam 10 k) rfl rfl rfl rfl co (yqq (f:=[]) (by simp [xel,yqu,ydl,i64,hlow];rfl) rfl rfl htk.symm (zlg yfj rfl _)) rfl rfl rfl ?_;refine yaw tok rfl rfl (by rw [yao (yde om)];exact ybt (f:=[]) rfl) rfl om om rfl rfl ?_;refine yrr tok rfl rfl rfl rfl rfl (by rw [yao (yde om)];exact ybt (f:=[]) rfl) (by rw [qao,yem,htk,qdk];simp;omega) rfl rfl ?_;refine xft (h':=ybs 10 1 ((ykh tbl val).take k++[List.replicate r.length (i64 0)]) (List.replicate (tbl.length - k - 1) yfj)) ?_ ?_
  .have hrep:ykr r.length (yit [Value.int .i64 0])=List.replicate r.length (i64 0):=zxi _ _;have hex:List.replicate (tbl.length - k) yfj=yfj::List.replicate (tbl.length - k - 1) yfj:=by rw [<- qbo];congr 1;omega
   rw [show ((k:Int).toNat * 1)=k by simp];exact zsq (f:=[]) (a:=yfj) rfl rfl rfl htk.symm (by rw [hrep];simp) hex (by rw [hrep])
  refine zY ?_;refine ycx (α:=Nat) (fun j=>[(30,i64 j),(29,i64 r.length),(6,i64 k),(13,i64 k),(12,i64 tbl.length),(5,.ls 10 1 tbl.length),(0,ydl tbl),(1,.fn F caps)]) (fun j=>ybs 10 1 ((ykh tbl val).take k++[((List.range r.length).map fun j=>i64 (val k j)).take j++List.replicate (r.length - j) (i64 0)]) (List.replicate (tbl.length - k - 1) yfj)) (fun j=>r.length - j) (fun j=>j<=r.length) 0 om zs (hsE sm) ?_;intro j hj;refine zY ?_;refine zj ?_ ?_ <;> intro h2
  .simp at h2;have hpart:((ykh tbl val).take k++[((List.range r.length).map fun j=>i64 (val k j)).take j++List.replicate (r.length - j) (i64 0)])[k]?=some (((List.range r.length).map fun j=>i64 (val k j)).take j++List.replicate (r.length - j) (i64 0)):=by
    rw [qai om,htk,qbn];rfl
   have hpl:(((List.range r.length).map fun j=>i64 (val k j)).take j++List.replicate (r.length - j) (i64 0)).length=r.length:=by simp;omega
   refine zY ?_;refine yaw tok rfl rfl (ybt (f:=[]) rfl) rfl om om rfl rfl ?_;refine yft (r:=.ls (fam 10 k) 1 r.length) tok rfl rfl rfl (by rw [yex];exact ygd _) ?_ rfl rfl ?_
   .rw [show ((k:Int).toNat * 1)=k by simp,qam (by rw [yem];simp;omega),yel,hpart];simp only [qar,hpl,Nat.div_one,qba]
   refine zY ?_;refine zc (hF k j r hr om) ?_;refine yaw tok rfl rfl (ylw (f:=[]) rfl om hpart) rfl om om rfl rfl ?_;refine yjh (h':=ybs 10 1 ((ykh tbl val).take k++[((List.range r.length).map fun j=>i64 (val k j)).take (j+1)++List.replicate (r.length - (j+1)) (i64 0)]) (List.replicate (tbl.length - k - 1) yfj)) tok rfl rfl rfl rfl rfl (ylw (f:=[]) rfl om hpart) (by rw [hpl];simp;omega) rfl ?_ rfl rfl ?_
   .rw [show ((j:Int).toNat * 1)=j by simp,zxr sm (show ((List.range r.length).map fun j=>i64 (val k j))[j]?=some (i64 (val k j)) by rw [qah,qbw om];rfl)];refine (zlj (f:=[]) rfl om hpart so).trans ?_;rw [zxs htk];rfl
   refine zY ?_;refine ylb (j+1) om om zs (fun id o h=>h)
  simp at h2;obtain rfl:j=r.length:=by omega
  refine zY ?_;refine ylb (k+1) om om zs (hsE ?_);rw [yan hrow];simp [qak,Nat.sub_sub]
 simp at h;obtain rfl:k=tbl.length:=by omega
 refine zY ?_;refine ykj ⟨_,rfl,yfa _,fun id o ho=>?_⟩;have:(ykh tbl val).take tbl.length=ykh tbl val:=qak (by simp [ykh]);rw [<- this] at ho;simpa [S] using ho
def yfq (c:List (List Int)):List (List AV):=c.map fun r=>r.map i64
theorem ydj (r:List Int):(r.map fun x=>[i64 x]).flatten=r.map i64:=by
 induction r with
 | nil=>rfl
 | cons x r ih=>simp [ih]
theorem zbn (c:List (List Int)) (hn:c.length<=1000) (hm:∀ r∈c,r.length<=1000):yot prog 53 [yds c] (fun _=>none) (.ls 8 1 c.length) (yac (ybs 8 1 (yfq c) [])):=by
 refine zdl tok Tryz.func53 rfl rfl ntmps53 Tryz.results53 rfl rfl ?_
 (repeat (first|refine zy ?_|refine yqg tok rfl rfl rfl rfl co rfl rfl rfl rfl rfl ?_))
 refine yxv 8 (List.replicate c.length yfj) rfl (zxi _ _) ?_;refine ycx (α:=Nat) (fun k=>[(11,i64 k),(10,i64 c.length),(9,yds c),(3,.ls 8 1 c.length)]) (fun k=>ybs 8 1 (yfq (c.take k)) (List.replicate (c.length - k) yfj)) (fun k=>c.length - k) (fun k=>k<=c.length) 0 om zs (hsE (by simp only [ybs,yfi,ypy,qff,qcn,qhm,yfq,qew];exact yic)) ?_;intro k hk;refine zY ?_;refine zj ?_ ?_ <;> intro h
 .simp at h;obtain ⟨r,hr⟩:=ybr (show k < c.length by omega);have hrm:=hm r (qab hr);have htk:(yfq (c.take k)).length=k:=by simp [yfq];omega
  refine zY ?_;refine yzx tok (fam 8 k) rfl rfl rfl (by intro c hc;rw [ydj] at hc;obtain ⟨x,_,rfl⟩:=qag.1 hc;rfl) (by constructor <;> simp <;> omega) (yqq (f:=[]) rfl rfl rfl htk.symm (zlg yfj rfl _)) rfl rfl rfl ?_;refine yaw tok rfl rfl (by rw [yao (yde om)];exact yex) rfl om om rfl rfl ?_;refine yrr tok rfl rfl rfl rfl rfl (by rw [yao (yde om)];exact yex) (by rw [qao,yem,htk,qdk];simp;omega) rfl rfl ?_;refine xft (h':=ybs 8 1 (yfq (c.take (k+1))) (List.replicate (c.length - (k+1)) yfj)) ?_ ?_
  .have hex:List.replicate (c.length - k) yfj=yfj::List.replicate (c.length - (k+1)) yfj:=by rw [<- qbo];congr 1;omega
   rw [show ((k:Int).toNat * 1)=k by simp,ydj];exact zsq (f:=[]) (a:=yfj) rfl rfl rfl htk.symm sm hex (by rw [yan hr];simp [yfq])
  refine zY ?_;refine ylb (k+1) om om zs (fun id o h=>h)
 simp at h;obtain rfl:k=c.length:=by omega
 refine zY ?_;refine ykj ⟨_,rfl,yfa _,fun id o ho=>?_⟩;rw [<- qay (l:=c)] at ho;simpa [S] using ho
end
end Go.Proofs.YtgpodcjhgdionaaGreatDoor
