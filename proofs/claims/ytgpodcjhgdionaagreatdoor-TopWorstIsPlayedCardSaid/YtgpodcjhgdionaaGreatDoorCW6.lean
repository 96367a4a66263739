/- Part 6 of the texts under TopWorstIsPlayed. -/
import Derived.Test.YtgpodcjhgdionaaGreatDoorProg
import Derived.KernelRfl
import Derived.Below
import Derived.Test.YtgpodcjhgdionaaGreatDoorCW3
import Derived.Test.YtgpodcjhgdionaaGreatDoorCW5
set_option linter.unusedVariables false
set_option maxHeartbeats 4000000
namespace Go.Proofs.YtgpodcjhgdionaaGreatDoor
open Go.Proofs.Tryz
variable{h:List (Nat × Option LObj)}{P:Program}{x y v c:Operand}{d j k i t:Nat}{α:Type}{fid:FuncId}{u:Int}
section
open Go.RowKit
theorem yap{o:Option LObj}(hne:j≠d):yac ((d,o)::h) j=yac h j:=by
 simp only[yac];rw[ycp hne]
theorem ybb{o:Option LObj}:yac ((d,o)::h) d=o:=by
 simp[yac]
theorem yhg{a b:Option LObj}:yac ((d,a)::(d,b)::h)=yac ((d,a)::h):=by
 funext j;by_cases hj:j=d
 .subst hj;rw[ybb,ybb]
 rw[yap hj,yap hj,yap hj]
def fam(M k:Nat):Nat:=(k+1) * 1000000+M
theorem yfw(M k:Nat):1000000<=fam M k:=by unfold fam;omega
theorem yug{M:Nat}(h:fam M i=fam M j):i=j:=by unfold fam at h;omega
theorem ydg{M:Nat}(h:d < 1000000):d≠fam M k:=by have:=yfw M k;omega
def ypl(M:Nat):Nat->List (List AV)->List (Nat × Option LObj)
 | _,[]=>[]
 | k,r::rs=>(fam M k,some (.vec r))::ypl M (k+1) rs
def yfe(M sz:Nat):Nat->List (List AV)->List AV
 | _,[]=>[]
 | k,r::rs=>.ls (fam M k) sz (r.length / sz)::yfe M sz (k+1) rs
def ygi:List AV->LObj
 | []=>.vec []
 | x::xs=>.mcells (x::xs)
def ybz(M sz:Nat)(rows:List (List AV))(extra:List AV):List (Nat × Option LObj):=
 (M,some (ygi (yfe M sz 0 rows++extra)))::ypl M 0 rows
theorem ydz(M sz:Nat):∀ (k:Nat) (rows:List (List AV)),(yfe M sz k rows).length=rows.length
 | _,[]=>rfl
 | k,r::rs=>by simp[yfe,ydz M sz (k+1) rs]
theorem yej(M sz:Nat):∀ (k i:Nat) (rows:List (List AV)),(yfe M sz k rows)[i]?=(rows[i]?).map fun r=>.ls (fam M (k+i)) sz (r.length / sz)
 | _,_,[]=>by simp[yfe]
 | k,0,r::rs=>by simp[yfe]
 | k,i+1,r::rs=>by
  simp only[yfe,qca,yej M sz (k+1) i rs];rw[show k+1+i=k+(i+1) by omega]
theorem ylp(M:Nat):∀ (k i:Nat) (rows:List (List AV)),yac (ypl M k rows) (fam M (k+i))=(rows[i]?).map LObj.vec
 | _,_,[]=>by simp[ypl,yac]
 | k,0,r::rs=>by simp[ypl,yac]
 | k,i+1,r::rs=>by
  simp only[ypl,qca];rw[yap (fun h=>by have:=yug h;omega),show k+(i+1)=k+1+i by omega];exact ylp M (k+1) i rs
theorem yje(M:Nat):∀ (k:Nat) (rows:List (List AV)),(∀ i,k<=i->j≠fam M i)->yac (ypl M k rows) j=none
 | _,[],_=>rfl
 | k,r::rs,h=>by
  simp only[ypl];rw[yap (h k (qbf k))];exact yje M (k+1) rs fun i hi=>h i om
def zlu:List (Nat × Option LObj)->Bool
 | []=>true
 | (k,_)::h=>match Nat.ble 1000000 k with
  | true=>false
  | false=>zlu h
theorem ybh:∀ (f g:List (Nat × Option LObj)) {j:Nat},(∀ x∈f,x.1≠j)->yac (f++g) j=yac g j
 | [],g,j,_=>rfl
 | (k,o)::f,g,j,h=>by
  rw[qbb,yap (fun e=>h (k,o) (qbe) e.symm)];exact ybh f g fun x hx=>h x (qap _ hx)
theorem ydn:∀ (f g:List (Nat × Option LObj)) {j:Nat},yac (f++g) j=yac f j\/((∀ x∈f,x.1≠j)/\yac (f++g) j=yac g j)
 | [],g,j=>.inr ⟨sm,rfl⟩
 | (k,o)::f,g,j=>by
  simp only[qbb,yac];cases hb:Nat.beq j k with
  | true=>exact .inl rfl
  | false=>
   rcases ydn f g (j:=j)with h|⟨h1,h2⟩
   .exact .inl h
   refine .inr ⟨fun x hx=>?_,h2⟩;rcases qaq.1 hx with rfl|hx
   .intro e;simp only at e;subst e;simp at hb
   exact h1 x hx
theorem yhh:∀ {f:List (Nat × Option LObj)},zlu f=true->∀ x∈f,x.1 < 1000000
 | [],_,x,hx=>by simp at hx
 | (k,o)::f,h,x,hx=>by
  simp only[zlu]at h;cases hb:Nat.ble 1000000 k with
  | true=>simp[hb]at h
  | false=>
   simp only[hb]at h;rcases qaq.1 hx with rfl|hx
   .exact xfz hb
   exact yhh h x hx
variable{f:List (Nat × Option LObj)}{M sz:Nat}{rows:List (List AV)}{extra:List AV}
theorem ylx(hf:zlu f=true)(hM:M < 1000000){i:Nat}{r:List AV}(hr:rows[i]?=some r):yac (f++ybz M sz rows extra) (fam M i)=some (.vec r):=by
 rw[ybh f _ fun x hx=>ydg (yhh hf x hx)];unfold ybz;rw[yap (Ne.symm (ydg hM))];have:=ylp M 0 i rows;rw[qay]at this;rw[this,hr];rfl
theorem zdz{j:Nat}(hj:j < 1000000)(o o':LObj)(rows rows':List (List AV)):j≠M->yac (f++(M,some o)::ypl M 0 rows) j=yac (f++(M,some o')::ypl M 0 rows') j:=fun hne=>by
 rcases ydn f ((M,some o)::ypl M 0 rows) (j:=j)with h|⟨h1,h2⟩
 .rcases ydn f ((M,some o')::ypl M 0 rows') (j:=j)with h'|⟨h1',h2'⟩
  .rw [h,h']
  rw[h,h2'];rw[yap hne,yje M 0 _ fun i _=>ydg hj];rw[<- qba f,ybh f [] h1'];rfl
 rw[h2,ybh f _ h1];rw[yap hne,yap hne,yje M 0 _ fun i _=>ydg hj,yje M 0 _ fun i _=>ydg hj]
theorem ztu{h:Nat->Option LObj}(hf:zlu f=true)(hM:M < 1000000)(h1:∀ j,j < 1000000->h j=yac (f++ybz M sz rows extra) j)(h2:∀ i,h (fam M i)=(rows[i]?).map LObj.vec)(h3:∀ j,1000000<=j->(∀ i,j≠fam M i)->h j=none):h=yac (f++ybz M sz rows extra):=by
 funext j;by_cases hj:j < 1000000
 .exact h1 j hj
 by_cases he:∃ i,j=fam M i
 .obtain ⟨i,rfl⟩:=he;rw[h2,ybh f _ fun x hx=>ydg (yhh hf x hx)];unfold ybz;rw[yap (Ne.symm (ydg hM))];have:=ylp M 0 i rows;rw[qay]at this;exact this.symm
 have he':∀ i,j≠fam M i:=fun i e=>he ⟨i,e⟩;rw[h3 j om he',ybh f _ fun x hx=>by have:=yhh hf x hx;omega];unfold ybz;rw[yap om,yje M 0 _ fun i _=>he' i]
theorem zjc(hf:zlu f=true)(hM:M < 1000000)(i:Nat):yac (f++ybz M sz rows extra) (fam M i)=(rows[i]?).map LObj.vec:=by
 rw[ybh f _ fun x hx=>ydg (yhh hf x hx)];unfold ybz;rw[yap (Ne.symm (ydg hM))];have:=ylp M 0 i rows
 rwa [qay]at this
theorem xde(hf:zlu f=true)(hM:M < 1000000){j:Nat}(hj:1000000<=j)(he:∀ i,j≠fam M i):yac (f++ybz M sz rows extra) j=none:=by
 rw[ybh f _ fun x hx=>by have:=yhh hf x hx;omega];unfold ybz;rw[yap om,yje M 0 _ fun i _=>he i]
theorem matC_set(M sz k i:Nat)(rows:List (List AV))(r:List AV)(hl:∀ r',rows[i]?=some r'->r.length=r'.length):yfe M sz k (rows.set i r)=yfe M sz k rows:=by
 apply qdt;intro j;rw[yej,yej,qdb];by_cases h:i=j
 .subst h;by_cases hi:i < rows.length
  .have:=hl _ (qae hi);simp[hi,this]
  simp[hi]
 simp[h]
theorem zmb(hf:zlu f=true)(hM:M < 1000000){i:Nat}{r r':List AV}(hr:rows[i]?=some r')(hl:r.length=r'.length):yac ((fam M i,some (.vec r))::(f++ybz M sz rows extra))=yac (f++ybz M sz (rows.set i r) extra):=by
 have hi:i < rows.length:=(qaa.1 hr).1;refine ztu hf hM (fun j hj=>?_) (fun k=>?_) (fun j hj he=>?_)
 .rw [yap (ydg hj)];unfold ybz;rw[matC_set _ _ _ _ _ _ fun r'' h''=>by rw[hr]at h'';cases h'';exact hl];by_cases hjM:j=M
  .subst hjM;rcases ydn f ((j,some (ygi (yfe j sz 0 rows++extra)))::ypl j 0 rows) (j:=j)with h|⟨h1,h2⟩
   .rcases ydn f ((j,some (ygi (yfe j sz 0 rows++extra)))::ypl j 0 (rows.set i r)) (j:=j)with h'|⟨h1',h2'⟩
    .rw [h,h']
    rw[ybh f _ h1',ybh f _ h1'];rw[ybb,ybb]
   rw[ybh f _ h1,ybh f _ h1];rw[ybb,ybb]
  exact zdz hj _ _ _ _ hjM
 .by_cases hk:k=i
  .subst hk;rw[ybb];simp[hi]
  rw[yap (fun e=>hk (yug e)),zjc hf hM,qdb,if_neg (fun e=>hk e.symm)]
 rw[yap (he i),xde hf hM hj he]
theorem mat_add(hf:zlu f=true)(hM:M < 1000000){n:Nat}{r:List AV}{ex ex':List AV}(hn:n=rows.length)(he:.ls (fam M n) sz (r.length / sz)::ex'=ex):yac ((fam M n,some (.vec r))::(f++(M,some (ygi (yfe M sz 0 rows++ex)))::ypl M 0 rows))=yac (f++ybz M sz (rows++[r]) ex'):=by
 subst hn he;have hc:yfe M sz 0 (rows++[r])++ex'=yfe M sz 0 rows++.ls (fam M rows.length) sz (r.length / sz)::ex':=by
  have:∀ (rows:List (List AV)) (k:Nat),yfe M sz k (rows++[r])=yfe M sz k rows++[.ls (fam M (k+rows.length)) sz (r.length / sz)]:=by
   intro rows;induction rows with
   | nil=>intro k;simp[yfe]
   | cons a rs ih=>
    intro k;simp only[qbb,yfe,ih (k+1),qaj];rw[show k+1+rs.length=k+(rs.length+1) by omega]
  rw[this];simp
 refine ztu hf hM (fun j hj=>?_) (fun k=>?_) (fun j hj he=>?_)
 .rw [yap (ydg hj)];unfold ybz;rw[hc];by_cases hjM:j=M
  .subst hjM;rcases ydn f ((j,some (ygi (yfe j sz 0 rows++.ls (fam j rows.length) sz (r.length / sz)::ex')))::ypl j 0 rows) (j:=j)with h|⟨h1,h2⟩
   .rcases ydn f ((j,some (ygi (yfe j sz 0 rows++.ls (fam j rows.length) sz (r.length / sz)::ex')))::ypl j 0 (rows++[r])) (j:=j)with h'|⟨h1',h2'⟩
    .rw [h,h']
    rw[ybh f _ h1',ybh f _ h1'];rw[ybb,ybb]
   rw[ybh f _ h1,ybh f _ h1];rw[ybb,ybb]
  exact zdz hj _ _ _ _ hjM
 .by_cases hk:k=rows.length
  .subst hk;rw[ybb];simp
  rw[yap (fun e=>hk (yug e))];have:=zjc (sz:=sz) (rows:=rows) (extra:=.ls (fam M rows.length) sz (r.length / sz)::ex') hf hM k;unfold ybz at this;rw[this,List.getElem?_append];by_cases h1:k < rows.length
  .simp [h1]
  rw[if_neg h1,qch om,qch so]
 rw[yap (he _)];exact xde (extra:=.ls (fam M rows.length) sz (r.length / sz)::ex') hf hM hj he
theorem zeo{M sz:Nat}{r:List AV}:∀ (k:Nat) (rows:List (List AV)),yfe M sz k (rows++[r])=yfe M sz k rows++[.ls (fam M (k+rows.length)) sz (r.length / sz)]
 | k,[]=>by simp[yfe]
 | k,a::rs=>by
  simp only[qbb,yfe,zeo (k+1) rs,qaj];rw[show k+1+rs.length=k+(rs.length+1) by omega]
theorem yls{f:List (Nat × Option LObj)}{M:Nat}(hk:(f.all fun x=>!Nat.beq x.1 M)=true):∀ x∈f,x.1≠M:=fun x hx e=>by
 have:=List.all_eq_true.1 hk x hx;simp[e]at this
theorem ztv(hf:zlu f=true)(hM:Nat.blt M 1000000=true)(hk:(f.all fun x=>!Nat.beq x.1 M)=true){i k:Nat}{r:List AV}{a:AV}{ex:List AV}{rows':List (List AV)}(hi:i=rows.length)(hr:r.length / sz=k)(he:extra=a::ex)(hrows:rows'=rows++[r]) :
  yac ((M,some (ygi ((yfe M sz 0 rows++extra).set i (.ls (fam M i) sz k))))::(fam M i,some (.vec r))::(f++ybz M sz rows extra))=yac (f++ybz M sz rows' ex):=by
 subst hi hr he hrows;have hM':M < 1000000:=by simpa using hM
 have hset:(yfe M sz 0 rows++a::ex).set rows.length (.ls (fam M rows.length) sz (r.length / sz))=yfe M sz 0 (rows++[r])++ex:=by
  rw[zeo,qbd,qbo _ _ (Nat.le_of_eq (ydz _ _ _ _)),ydz,qbm,qay];rfl
 rw[hset];refine ztu hf hM' (fun j hj=>?_) (fun k=>?_) (fun j hj he=>?_)
 .by_cases hjM:j=M
  .subst hjM;rw[ybb,ybh f _ (yls hk)];exact ybb.symm
  rw[yap hjM,yap (ydg hj)];exact zdz hj _ _ _ _ hjM
 .rw [yap (Ne.symm (ydg hM'))];by_cases hk:k=rows.length
  .subst hk;rw[ybb];simp
  rw[yap (fun e=>hk (yug e)),zjc hf hM',List.getElem?_append];by_cases h1:k < rows.length
  .simp [h1]
  rw[if_neg h1,qch om,qch so]
 rw[yap om,yap (he _),xde hf hM' hj he]
theorem ybo(hk:(f.all fun x=>!Nat.beq x.1 M)=true):yac (f++ybz M sz rows extra) M=some (ygi (yfe M sz 0 rows++extra)):=by
 rw[ybh f _ (yls hk)];exact ybb
def yps:AV->Bool
 | .lp id _=>Nat.blt id 1000000
 | .ls id _ _=>Nat.blt id 1000000
 | .mp id=>Nat.blt id 1000000
 | .agg cs=>lowL cs
 | .tup cs=>lowL cs
 | .fn _ cs=>lowL cs
 | .fm _ cs=>lowL cs
 | _=>true
 where lowL:List AV->Bool
 | []=>true
 | c::cs=>yps c && lowL cs
theorem ztf{id j:Nat}(h:Nat.blt id 1000000=true)(hj:1000000<=j):Nat.beq id j=false:=ycp (by have h2:id < 1000000:=(by simpa using h);omega)
theorem yps.ment{j:Nat}(hj:1000000<=j):∀ {x:AV},yps x=true->ment j x=false
 | .v _,_=>rfl
 | .any,_=>rfl
 | .one,_=>rfl
 | .sl _ _,_=>rfl
 | .dp _ _,_=>rfl
 | .mv _,_=>rfl
 | .lp id _,h=>ztf h hj
 | .ls id _ _,h=>ztf h hj
 | .mp id,h=>ztf h hj
 | .agg cs,h=>rowsM (cs:=cs) h
 | .tup cs,h=>rowsM (cs:=cs) h
 | .fn _ cs,h=>rowsM (cs:=cs) h
 | .fm _ cs,h=>rowsM (cs:=cs) h
 where rowsM:∀ {cs:List AV},yps.lowL cs=true->ment.mentL j cs=false
 | [],_=>rfl
 | c::cs,h=>by
  simp only[yps.lowL,qad]at h;simp only[ment.mentL,qea];exact⟨yps.ment hj h.1,rowsM h.2⟩
def xfj:List (Nat × AV)->Bool
 | []=>true
 | (_,x)::t=>match yps x with
  | true=>xfj t
  | false=>false
theorem ywa:∀ {t:List (Nat × AV)},xfj t=true->∀ x y,yak t x=some y->yps y=true
 | [],_,x,y,h=>by simp[yak]at h
 | (d,r)::t,hl,x,y,h=>by
  simp only[xfj]at hl;cases hr:yps r with
  | false=>simp[hr]at hl
  | true=>
   simp only[hr]at hl;simp only[yak]at h;cases hb:Nat.beq x d with
   | true=>simp only[hb,Option.some.injEq]at h;subst h;exact hr
   | false=>simp only[hb]at h;exact ywa hl x y h
def xba:LObj->Bool
 | .cells xs=>yps.lowL xs
 | .tcells _ xs=>yps.lowL xs
 | .mcells xs=>yps.lowL xs
 | _=>true
theorem xba.ment{j:Nat}(hj:1000000<=j){o:LObj}(h:xba o=true):yew j o=false:=by
 cases o <;> first|rfl|exact yps.ment.rowsM hj h
def zqk:List (Nat × Option LObj)->Bool
 | []=>true
 | (k,o)::h=>match Nat.ble 1000000 k with
  | true=>false
  | false=>match o with
   | none=>zqk h
   | some o=>match xba o with
    | true=>zqk h
    | false=>false
theorem ysc:∀ {h:List (Nat × Option LObj)},zqk h=true->zlu h=true
 | [],_=>rfl
 | (k,o)::h,hl=>by
  simp only[zqk]at hl;simp only[zlu];cases hb:Nat.ble 1000000 k with
  | true=>simp[hb]at hl
  | false=>
   simp only[hb]at hl ⊢;cases o with
   | none=>exact ysc hl
   | some o=>
    cases ho:xba o with
    | false=>simp[ho]at hl
    | true=>simp only[ho]at hl;exact ysc hl
theorem ylv:∀ {h:List (Nat × Option LObj)},zqk h=true->∀ j ob,yac h j=some ob->xba ob=true/\j < 1000000
 | [],_,j,ob,h=>by simp[yac]at h
 | (k,o)::h,hl,j,ob,hj=>by
  simp only[zqk]at hl;cases hb:Nat.ble 1000000 k with
  | true=>simp[hb]at hl
  | false=>
   simp only[hb]at hl;simp only[yac]at hj;cases hk:Nat.beq j k with
   | true=>
    simp only[hk]at hj;subst hj;cases ho:xba ob with
    | false=>simp[ho]at hl
    | true=>exact⟨rfl,by rw[qaf hk];exact xfz hb⟩
   | false=>
    simp only[hk]at hj;cases o with
    | none=>exact ylv hl j ob hj
    | some o=>
     cases ho:xba o with
     | false=>simp[ho]at hl
     | true=>simp only[ho]at hl;exact ylv hl j ob hj
theorem zlx(x:AV)(hx:yps x=true):∀ n,yps.lowL (List.replicate n x)=true
 | 0=>rfl
 | n+1=>by simp[qbq,yps.lowL,hx,zlx x hx n]
theorem zme(d:Nat)(x:AV)(hx:ment d x=false):∀ n,ment.mentL d (List.replicate n x)=false
 | 0=>rfl
 | n+1=>by simp[qbq,ment.mentL,hx,zme d x hx n]
theorem yjh(d:Nat)(xs:List AV):yew d (ygi xs)=ment.mentL d xs:=by cases xs <;> rfl
theorem zer{d M sz:Nat}:∀ (k:Nat) (rows:List (List AV)),(∀ i,k<=i->i < k+rows.length->d≠fam M i)->ment.mentL d (yfe M sz k rows)=false
 | _,[],_=>rfl
 | k,r::rs,h=>by
  simp only[yfe,ment.mentL,qea];refine⟨ycp (Ne.symm (h k (qbf k) sm)),zer (k+1) rs fun i h1 h2=>h i om so⟩
theorem ywd{d:Nat}:∀ {a b:List AV},ment.mentL d (a++b)=(ment.mentL d a || ment.mentL d b)
 | [],b=>rfl
 | x::a,b=>by simp only[qbb,ment.mentL,ywd,Bool.or_assoc]
theorem ysa{d:Nat}:∀ {a b:List (Nat × Option LObj)},ybs d a=true->ybs d b=true->ybs d (a++b)=true
 | [],b,_,h=>h
 | (i,o)::a,b,h1,h2=>by
  simp only[ybs,qbb]at h1 ⊢;cases hb:Nat.beq d i with
  | true=>simp[hb]at h1
  | false=>
   simp only[hb]at h1 ⊢;cases o with
   | none=>exact ysa h1 h2
   | some o=>
    cases ho:yew d o with
    | true=>simp[ho]at h1
    | false=>simp only[ho]at h1 ⊢;exact ysa h1 h2
theorem zdu{d M:Nat}:∀ (k:Nat) (rows:List (List AV)),(∀ i,k<=i->i < k+rows.length->d≠fam M i)->ybs d (ypl M k rows)=true
 | _,[],_=>rfl
 | k,r::rs,h=>by
  simp only[ypl,ybs,yew];rw[ycp (h k (qbf k) sm)];exact zdu (k+1) rs fun i h1 h2=>h i om so
theorem zdv{d:Nat}(hd:d≠M)(hr:∀ i,i < rows.length->d≠fam M i)(he:ment.mentL d extra=false):ybs d (ybz M sz rows extra)=true:=by
 unfold ybz;simp only[ybs,yjh,ywd,he,qdm];rw[ycp hd,zer 0 rows fun i _ hi=>hr i om];exact zdu 0 rows fun i _ hi=>hr i om
theorem yqm{d:Nat}(h1:ybs d f=true)(h2:Nat.beq d M=false)(h3:Nat.blt d 1000000=true)(he:ment.mentL d extra=false):ybs d (f++ybz M sz rows extra)=true:=
 ysa h1 (zdv (by rintro rfl;simp at h2) (fun i _=>ydg (by simpa using h3)) he)
theorem yyr{j:Nat}(hj:1000000<=j):∀ {h:List (Nat × Option LObj)},zqk h=true->ybs j h=true
 | [],_=>rfl
 | (k,o)::h,hl=>by
  simp only[zqk]at hl;simp only[ybs];cases hb:Nat.ble 1000000 k with
  | true=>simp[hb]at hl
  | false=>
   simp only[hb]at hl;rw[ycp (by have:=xfz hb;omega)];cases o with
   | none=>exact yyr hj hl
   | some o=>
    cases ho:xba o with
    | false=>simp[ho]at hl
    | true=>
     simp only[ho]at hl;simp only[xba.ment hj ho];exact yyr hj hl
theorem yqn{t:List (Nat × AV)}{n:Nat}(ht:xfj t=true)(hf:zqk f=true)(hM:Nat.blt M 1000000=true)(hn:n=rows.length)(he:yps.lowL extra=true):ymi (S t (f++ybz M sz rows extra)) (fam M n):=by
 have hM':M < 1000000:=by simpa using hM
 have hb:=yfw M n;have h2:ybs (fam M n) (f++ybz M sz rows extra)=true:=ysa (yyr hb hf) (zdv (Ne.symm (ydg hM')) (fun i hi e=>by have:=yug e;omega) (yps.ment.rowsM hb he));exact⟨(yer h2).1,fun x y h=>(ywa ht x y h |> yps.ment hb),(yer h2).2⟩
section
variable{P:Program}{T:Nat->Option Ty}{N:Nat}{ops:Array Oper}{lf:Oper->Bool}{Q:SS->Prop}{t:List (Nat × AV)}{h:List (Nat × Option LObj)}{rest:List Oper}{d:Nat}{op:Op}{ty:TypeId}{pos:String}{af:Array Edge}{gd:Option (Nat × Bool)}{r:AV}
theorem xfm{l:List Oper}{t:List (Nat × AV)}{h h':List (Nat × Option LObj)}(he:yac h=yac h')(k:Lex P N ops lf Q l (S t h')):Lex P N ops lf Q l (S t h):=by
 have:S t h=S t h':=by unfold S;rw[he]
 rw[this];exact k
theorem xbl(hT:TOK P T){ti e es eb sz:Nat}{ea ag:Bool}{ez z:List Value}{m:Nat}(id:Nat)(hk:T ti=some ⟨.slc e es ea eb ez,sz,ag,z⟩)(hone:ez.all Value.oneCell'=true)(hx:evF (yak t) x=some (.v (.int .i64 m)))(hy:evF (yak t) y=some (.v (.int .i64 m)))(hm:m<=4294967296/\eb * m<=281474976710656)(hf:ymi (S t h) id)(hl:lf ⟨some d,.makeSlice ti x y,ty,pos,af,gd⟩=true)(hw:yam ops (yak t) ⟨some d,.makeSlice ti x y,ty,pos,af,gd⟩=some true)(hd:Nat.blt d N=true)(k:Lex P N ops lf Q rest (S ((d,.ls id es m)::t) ((id,some (.vec (ykx m (yhw ez))))::h))):Lex P N ops lf Q (⟨some d,.makeSlice ti x y,ty,pos,af,gd⟩::rest) (S t h):=
 yef hl hw (by rw[<- ytz];exact ywb hT rfl rfl (by simpa using hd) id hk hone hx hy hm hf) k
theorem yzo(hT:TOK P T){ti e es eb sz:Nat}{ea ag:Bool}{ez z:List Value}{rows:List (List AV)}(id:Nat)(hk:T ti=some ⟨.slc e es ea eb ez,sz,ag,z⟩)(hx:evF (yak t) x=some (.v (.slice none 0 0)))(hy:evF (yak t) y=some (.sl es rows))(hcp:∀ c∈rows.flatten,yas c=true)(hlim:rows.length<=4294967296/\rows.length * eb<=140737488355328)(hf:ymi (S t h) id)(hl:lf ⟨some d,.call { callee:=.builtin .append,args:=#[x,y],argTypes:=#[ti,ti] },ty,pos,af,gd⟩=true)(hw:yam ops (yak t) ⟨some d,.call { callee:=.builtin .append,args:=#[x,y],argTypes:=#[ti,ti] },ty,pos,af,gd⟩=some true)(hd:Nat.blt d N=true)(k:Lex P N ops lf Q rest (S ((d,.ls id es rows.length)::t) ((id,some (.vec rows.flatten))::h))):
  Lex P N ops lf Q (⟨some d,.call { callee:=.builtin .append,args:=#[x,y],argTypes:=#[ti,ti] },ty,pos,af,gd⟩::rest) (S t h):=by
 refine yef hl hw ?_ k;rw[<- ytz];exact yjn hT id rfl rfl (by simpa using hd) hk hx hf hy (fun ok w lv u hr=>yxb hr) hcp hlim
theorem yfg(xs:List AV):ycw (some (ygi xs))=some xs:=by cases xs <;> rfl
theorem yjs{xs:List AV}(h:xs≠[]):ygi xs=.mcells xs:=by cases xs <;> simp_all[ygi]
theorem yon(hT:TOK P T){ti:Nat}{y:Ty}{id off:Nat}{xs:List AV}{u:AV}(hy:T ti=some y)(hx:evF (yak t) x=some (.lp id off))(hv:evF (yak t) v=some u)(hcs:yec u=some [u])(hcl:Nat.beq 1 y.size=true)(hh:yac h id=some (ygi xs))(hlt:off < xs.length)(hl:lf ⟨none,.store ti x v,ty,pos,af,gd⟩=true)(hw:yam ops (yak t) ⟨none,.store ti x v,ty,pos,af,gd⟩=some true)(k:Lex P N ops lf Q rest (S t ((id,some (ygi (xs.set off u)))::h))):Lex P N ops lf Q (⟨none,.store ti x v,ty,pos,af,gd⟩::rest) (S t h):=by
 have hne:xs≠[]:=by intro h0;simp[h0]at hlt
 have he:xs.set off u=xs.take off++[u]++xs.drop (off+[u].length):=by
  rw[qem,if_pos hlt];simp
 rw[yjs hne]at hh;rw[yjs (by intro h0;have:=congrArg List.length h0;simp at this;exact hne this)]at k;refine yef hl hw (by rw[<- S_h,he];exact yig rfl rfl (hT _ _ hy).1 hx hv hcs (by simpa using hcl) hh (.mcells so hne)) k
theorem ygo(hT:TOK P T){ti:Nat}{y:Ty}{id off:Nat}{xs:List AV}{u:AV}{h':List (Nat × Option LObj)}(hy:T ti=some y)(hx:evF (yak t) x=some (.lp id off))(hv:evF (yak t) v=some u)(hcs:yec u=some [u])(hcl:Nat.beq 1 y.size=true)(hh:yac h id=some (.vec xs))(hlt:off < xs.length)(hp:yas u=true)(he:yac ((id,some (.vec (xs.set off u)))::h)=yac h')(hl:lf ⟨none,.store ti x v,ty,pos,af,gd⟩=true)(hw:yam ops (yak t) ⟨none,.store ti x v,ty,pos,af,gd⟩=some true)(k:Lex P N ops lf Q rest (S t h')):Lex P N ops lf Q (⟨none,.store ti x v,ty,pos,af,gd⟩::rest) (S t h):=
 yom hT hy hx hv hcs hcl hh hlt hp hl hw (xfm he k)
theorem ytu{c:Code}{Q:Exit->SS->Prop}(id:Nat){xs:List AV}(ys:List AV)(hx:yac h id=some (.vec xs))(he:xs=ys)(k:A P N c Q (S t ((id,some (ygi ys))::h))):A P N c Q (S t h):=by
 subst he;intro B ok0 lv a w hs;refine k B ok0 lv a w ⟨⟨hs.inv.base,hs.inv.ok0lt,fun j hj=>?_,hs.inv.inj,fun j x hj=>?_⟩,hs.size,hs.frame,hs.defers,hs.big,fun j b ws hN hj hc hb=>?_⟩
 .refine hs.inv.dom j ?_;simp only[S,yac]at hj ⊢;split at hj
  .cases hj
  exact hj
 .simp only[S,yac]at hj;split at hj
  .rename_i hb;cases hj;have e:=qaf hb;subst e;obtain⟨b,n,h1,h2⟩:=hs.inv.obj j _ hx;refine⟨b,n,h1,?_⟩;cases xs with
   | nil=>exact h2
   | cons x xs=>
    cases b with
    | none=>simp[yge]at h2
    | some b=>exact⟨h2.1,h2.2.1,h2.2.2.1⟩
  exact hs.inv.obj j x hj
 simp only[S,yac]at hj;split at hj
 .cases hj;cases xs <;> cases hc
 exact hs.pin j b ws hN hj hc hb
end
theorem yob{id:Nat}{o:LObj}(h:yac (ybz M sz rows extra) id=some o):id=M\/∃ i,i < rows.length/\id=fam M i:=by
 by_cases hM:id=M
 .exact .inl hM
 unfold ybz at h;rw[yap hM]at h;by_cases he:∃ i,id=fam M i
 .obtain ⟨i,rfl⟩:=he;have h2:=ylp M 0 i rows;rw[qay]at h2;rw[h2]at h;refine .inr ⟨i,?_,rfl⟩;cases hr:rows[i]? with
  | none=>simp[hr]at h
  | some r=>exact(qaa.1 hr).1
 rw[yje M 0 rows fun i _ e=>he ⟨i,e⟩]at h;cases h
theorem yfn:yac (ybz M sz rows extra) M=some (ygi (yfe M sz 0 rows++extra)):=ybb
theorem ylw(hM:M < 1000000)(i:Nat):yac (ybz M sz rows extra) (fam M i)=(rows[i]?).map LObj.vec:=by
 have:=zjc (f:=[]) (sz:=sz) (rows:=rows) (extra:=extra) rfl hM i;simpa using this
theorem xdq(hM:M < 1000000){id:Nat}{o:LObj}(h:yac (ybz M sz rows extra) id=some o):isC o=false:=by
 rcases yob h with rfl|⟨i,_,rfl⟩
 .rw [yfn]at h;cases h;cases yfe id sz 0 rows++extra <;> rfl
 rw[ylw hM]at h;cases hr:rows[i]? with
 | none=>simp[hr]at h
 | some r=>simp only[hr,qav,Option.some.injEq]at h;subst h;rfl
theorem yys(hf:zlu f=true)(hM:M < 1000000)(hk:(f.all fun x=>!Nat.beq x.1 M)=true):∀ id o,yac (ybz M sz rows extra) id=some o->yac (f++ybz M sz rows extra) id=some o:=fun id o h=>by
 rw[ybh f _ fun x hx=>?_]
 .exact h
 rcases yob h with rfl|⟨i,_,rfl⟩
 .have:=List.all_eq_true.1 hk x hx;intro e;simp[e]at this
 exact ydg (yhh hf x hx)
theorem zdi {T:Nat → Option Ty} (hT : TOK P T) {fn:Func} {c:Code} {N:Nat} {rs:List ResultVar} {args:List AV} {r:AV} {M sz:Nat} {rows:List (List AV)} (hf : P.funcs[fid]? = some fn) (hn : (fn.name == "runtime.NumGoroutine") = false) (hb : fn.body = some c) (hN : fn.ntmps = N) (hrs : fn.results = rs.toArray) (hlen : (Nat.ble args.length N && Nat.ble N 1000000) = true) (hM : Nat.blt M 1000000 = true) (h:A P N c (xbg T rs r (yac (ybz M sz rows []))) (S (yfj 0 args) [])):ytb P fid args (fun _=>none) r (yac (ybz M sz rows [])):=
 zdh hT hf hn hb hN hrs hlen (fun id o ho hc=>by rw[xdq (by simpa using hM) ho]at hc;cases hc) h
theorem zrl{σ:Nat->Nat}:∀ {x:AV},yas x=true->yfz σ x=x
 | .v _,_=>rfl
 | .any,_=>rfl
 | .one,_=>rfl
 | .sl _ _,_=>rfl
 | .dp _ _,_=>rfl
 | .mv _,_=>rfl
 | .agg cs,h=>by simp only[yfz,rows (cs:=cs) h]
 | .tup cs,h=>by simp only[yfz,rows (cs:=cs) h]
 | .fn _ cs,h=>by simp only[yfz,rows (cs:=cs) h]
 | .fm _ cs,h=>by simp only[yfz,rows (cs:=cs) h]
 where rows:∀ {cs:List AV},yas.pureL cs=true->yfz.renL σ cs=cs
 | [],_=>rfl
 | c::cs,h=>by
  simp only[yas.pureL,qad]at h;simp only[yfz.renL,zrl h.1,rows h.2]
def xac(d j:Nat):Nat:=match Nat.ble 1000000 j with
 | false=>d
 | true=>d+(j / 1000000) * 1000000
theorem yvk{d j:Nat}(h:j < 1000000):xac d j=d:=by
 unfold xac;cases hb:Nat.ble 1000000 j with
 | false=>rfl
 | true=>have:=Nat.le_of_ble_eq_true hb;omega
theorem famS_high{d j:Nat}(h:1000000<=j):xac d j=d+(j / 1000000) * 1000000:=by
 unfold xac;cases hb:Nat.ble 1000000 j with
 | false=>have:=xfz hb;omega
 | true=>rfl
theorem fam_div{M k:Nat}(hM:M < 1000000):fam M k / 1000000=k+1:=by unfold fam;omega
theorem ymr{d M k:Nat}(hM:M < 1000000):xac d (fam M k)=fam d k:=by
 rw[famS_high (yfw M k),fam_div hM];unfold fam;omega
theorem zrm{d M sz:Nat}(hM:M < 1000000):∀ (k:Nat) (rows:List (List AV)),yfz.renL (xac d) (yfe M sz k rows)=yfe d sz k rows
 | _,[]=>rfl
 | k,r::rs=>by simp only[yfe,yfz.renL,yfz,ymr hM,zrm hM (k+1) rs]
theorem yyw{ids:List Nat}{M sz:Nat}:∀ (k:Nat) (rows:List (List AV)),(∀ i,i < k+rows.length->fam M i∈ids)->yex.onlyL ids (yfe M sz k rows)=true
 | _,[],_=>rfl
 | k,r::rs,h=>by
  simp only[yfe,yex.onlyL,yex,qad];exact⟨qhc.2 (h k sm),yyw (k+1) rs fun i hi=>h i so⟩
theorem zio{d:Nat}:∀ {h:List (Nat × Option LObj)},ybs d h=true->∀ x∈h,x.1≠d
 | [],_,x,hx=>by simp at hx
 | (k,o)::h,hh,x,hx=>by
  simp only[ybs]at hh;cases hb:Nat.beq d k with
  | true=>simp[hb]at hh
  | false=>
   simp only[hb]at hh;rcases qaq.1 hx with rfl|hx
   .intro e;simp only at e;subst e;simp at hb
   refine zio ?_ x hx;cases o with
   | none=>exact hh
   | some o=>
    cases ho:yew d o with
    | true=>simp[ho]at hh
    | false=>simpa[ho]using hh
section
variable{P:Program}{T:Nat->Option Ty}{N:Nat}{ops:Array Oper}{lf:Oper->Bool}{Q:SS->Prop}{t:List (Nat × AV)}{h:List (Nat × Option LObj)}{rest:List Oper}{d:Nat}{op:Op}{ty:TypeId}{pos:String}{af:Array Edge}{gd:Option (Nat × Bool)}{r:AV}
theorem L_callOM(M:Nat){g:Operand}{args:List Operand}{ats:Array TypeId}{caps xs:List AV}{M0 sz:Nat}{rows:List (List AV)}(hc:ytb P fid (xs++caps) (fun _=>none) r (yac (ybz M0 sz rows [])))(hM:Nat.blt M0 1000000=true)(hg:evF (yak t) g=some (.fn fid caps))(hx:evL (evF (yak t)) args=some xs)(hp:yas.pureL (xs++caps)=true)(hr:yex (M0::(List.range rows.length).map (fam M0)) r=true)(h1:ydl M t=true)(h2:xfj t=true)(h3:ybs M h=true)(h4:zqk h=true)(h5:Nat.blt M 1000000=true)(hl:lf ⟨some d,.call { callee:=.value g,args:=args.toArray,argTypes:=ats },ty,pos,af,gd⟩=true)(hw:yam ops (yak t) ⟨some d,.call { callee:=.value g,args:=args.toArray,argTypes:=ats },ty,pos,af,gd⟩=some true)(hd:Nat.blt d N=true)(k:Lex P N ops lf Q rest (S ((d,yfz (xac M) r)::t) (h++ybz M sz rows []))):
  Lex P N ops lf Q (⟨some d,.call { callee:=.value g,args:=args.toArray,argTypes:=ats },ty,pos,af,gd⟩::rest) (S t h):=by
 have hM':M0 < 1000000:=by simpa using hM
 have hd':M < 1000000:=by simpa using h5
 have hids:∀ i∈M0::(List.range rows.length).map (fam M0),i=M0\/∃ j,j < rows.length/\i=fam M0 j:=fun i hi=>by
  rcases qaq.1 hi with rfl|hi
  .exact .inl rfl
  obtain⟨j,hj,rfl⟩:=qag.1 hi;exact .inr ⟨j,by simpa using hj,rfl⟩
 have hfam:∀ j,j < rows.length->fam M0 j∈M0::(List.range rows.length).map (fam M0):=fun j hj=>qap _ (qag.2 ⟨j,by simpa using hj,rfl⟩);have hsig:∀ i∈M0::(List.range rows.length).map (fam M0),xac M i=M\/1000000<=xac M i:=fun i hi=>by
  rcases hids i hi with rfl|⟨j,_,rfl⟩
  .exact .inl (yvk hM')
  exact .inr (by rw[ymr hM'];exact yfw M j)
 refine yef hl hw ?_ k;refine yru (σ:=xac M) (ids:=M0::(List.range rows.length).map (fam M0)) (hm:=fun _=>none) (hm':=yac (ybz M0 sz rows [])) (r:=r) (args0:=xs++caps) rfl rfl (by simpa using hd) (.inl hg) hx ?_ hc ?_ (fun id hs=>by simp at hs) ?_ (fun id o ho=>by cases ho) hr ?_ ?_ ?_ ?_
 .have:∀ l:List AV,yas.pureL l=true->l=l.map (yfz (xac M)):=by
   intro l hl;rw[<- ycs,zrl.rows hl]
  exact this _ hp
 .intro i hi j hj e;rcases hids i hi with rfl|⟨a,_,rfl⟩ <;> rcases hids j hj with rfl|⟨b,_,rfl⟩
  .rfl
  .rw [yvk hM',ymr hM']at e;exact absurd e (ydg hd')
  .rw [yvk hM',ymr hM']at e;exact absurd e.symm (ydg hd')
  rw[ymr hM',ymr hM']at e;rw[yug e]
 .intro id hs;obtain⟨o,ho⟩:=qgm.1 hs;rcases yob ho with rfl|⟨i,hi,rfl⟩
  .exact qbe
  exact hfam i hi
 .intro id o ho;rcases yob ho with rfl|⟨i,hi,rfl⟩
  .rw [yfn]at ho;cases ho;rw[qba];have:=yyw (M:=id) (sz:=sz) (ids:=id::(List.range rows.length).map (fam id)) 0 rows fun i hi=>hfam i om;cases hm:yfe id sz 0 rows with
   | nil=>rfl
   | cons a l=>rw[hm]at this;exact this
  rw[ylw hM']at ho;cases hr:rows[i]? with
  | none=>simp[hr]at ho
  | some r=>simp only[hr,qav,Option.some.injEq]at ho;subst ho;rfl
 .intro x y hy;simp only[S,yak]at hy;cases hb:Nat.beq x d with
  | true=>
   simp only[hb,Option.some.injEq]at hy;exact .inl ⟨qaf hb,hy.symm⟩
  | false=>
   simp only[hb]at hy;refine .inr ⟨by rintro rfl;simp at hb,.inr ⟨hy,.inl fun i hi=>?_⟩⟩;rcases hsig i hi with e|e
   .rw [e];exact yov h1 x y hy
   exact yps.ment e (ywa h2 x y hy)
 .intro i hi;show yac (h++ybz M sz rows []) (xac M i)=_;rw[ybh h _ fun x hx=>?_]
  .rcases hids i hi with rfl|⟨j,_,rfl⟩
   .rw [yvk hM',yfn,yfn];simp only[qba,qav,Option.some.injEq];have:=zrm (d:=M) (sz:=sz) hM' 0 rows;cases hm:yfe i sz 0 rows with
    | nil=>rw[hm]at this;rw[<- this];rfl
    | cons a l=>rw[hm]at this;rw[<- this];rfl
   rw[ymr hM',ylw hd',ylw hM'];cases rows[j]? <;> rfl
  rcases hsig i hi with e|e
  .rw [e];exact zio h3 x hx
  have:=yhh (ysc h4) x hx;omega
 intro j ob' hj hob;have hob2:yac h j=some ob':=by
  rcases ydn h (ybz M sz rows []) (j:=j)with e|⟨_,e⟩
  .exact e.symm.trans hob
  have hob3:yac (ybz M sz rows []) j=some ob':=e.symm.trans hob;exfalso;rcases yob hob3 with rfl|⟨i,hi,rfl⟩
  .exact hj M0 qbe (yvk hM')
  exact hj (fam M0 i) (hfam i hi) (ymr hM')
 refine⟨fun i hi=>?_,ob',hob2,.inl rfl⟩;rcases hsig i hi with e|e
 .rw [e];exact(yer h3).2 j ob' hob2
 exact xba.ment e (ylv h4 j ob' hob2).1
theorem zcw{g:Operand}{args:List Operand}{ats:Array TypeId}{caps xs:List AV}{M0 sz:Nat}{rows:List (List AV)}(hc:ytb P fid (xs++caps) (fun _=>none) r (yac (ybz M0 sz rows [])))(hM:Nat.blt M0 1000000=true)(hg:evF (yak t) g=some (.fn fid caps))(hx:evL (evF (yak t)) args=some xs)(hp:yas.pureL (xs++caps)=true)(hr:yex (M0::(List.range rows.length).map (fam M0)) r=true)(h1:ydl d t=true)(h2:xfj t=true)(h3:ybs d h=true)(h4:zqk h=true)(h5:Nat.blt d 1000000=true)(hl:lf ⟨some d,.call { callee:=.value g,args:=args.toArray,argTypes:=ats },ty,pos,af,gd⟩=true)(hw:yam ops (yak t) ⟨some d,.call { callee:=.value g,args:=args.toArray,argTypes:=ats },ty,pos,af,gd⟩=some true)(hd:Nat.blt d N=true)(k:Lex P N ops lf Q rest (S ((d,yfz (xac d) r)::t) (h++ybz d sz rows []))):
  Lex P N ops lf Q (⟨some d,.call { callee:=.value g,args:=args.toArray,argTypes:=ats },ty,pos,af,gd⟩::rest) (S t h):=
 L_callOM d hc hM hg hx hp hr h1 h2 h3 h4 h5 hl hw hd k
end
theorem ls_to_slM{h:Nat->Option LObj}{id len:Nat}{xs ys:List AV}{B:Bse}{ok0:Nat->Prop}{lv:Live}{w:World}{u:Value}(hi:Inv B ok0 h lv w)(hr:Rel (yba B ok0 lv w) w lv (.ls id 1 len) u)(hx:h id=some (ygi xs))(hlen:ys.length=len)(hxy:xs.length=ys.length)
  (ok':Nat->Prop) (hk2:∀ b n,lv id=some (some b,n)->ok' b) (hconv:∀ (j:Nat) (x y:AV),xs[j]?=some x->ys[j]?=some y->yeb y=true/\∀ u,Rel (yba B ok0 lv w) w lv x u->Rel ok' w (fun _=>none) y u):Rel ok' w (fun _=>none) (.sl 1 (ys.map fun y=>[y])) u:=by
 subst hlen;cases hr with
 | ls _ hone hls=>
  have hnil:(∃ n,lv id=some (none,n))\/∃ b n,lv id=some (some b,n)/\B.mine b/\b < w.heap.size/\yhd (yba B ok0 lv w) lv w b n xs:=by
   obtain⟨b,n,h1,h2⟩:=hi.obj id _ hx;cases b with
   | none=>exact .inl ⟨n,h1⟩
   | some b=>
    obtain⟨h2,h3,h4⟩:=h2;cases xs with
    | nil=>exact .inr ⟨b,n,h1,h2,h3,h4.1⟩
    | cons x xs=>exact .inr ⟨b,n,h1,h2,h3,h4⟩
  rcases hnil with⟨n,h1⟩|⟨b,n,h1,h2,h3,h4⟩
  .obtain ⟨rfl,h0⟩:=hls _ _ h1;obtain rfl:=qax h0;exact ysn
  obtain⟨cap,rfl,hcap,hmax,hn⟩:=hls (some b) n h1;obtain⟨c,e,g1,g2,g3,g4,g5⟩:=h4;have hcells:∀ (i j:Nat) (row:List AV) (y:AV),(ys.map fun y=>[y])[i]?=some row->row[j]?=some y->j=0/\∃ u,c[i]?=some u/\yeb y=true/\Rel ok' w (fun _=>none) y u:=by
   intro i j row y hrow hy;rw[qak]at hrow;cases hyi:ys[i]? with
   | none=>simp[hyi]at hrow
   | some y'=>
    simp only[hyi,qav,Option.some.injEq]at hrow;subst hrow
    match j with
    | j+1=>simp at hy
    | 0=>
     simp only[qas,Option.some.injEq]at hy;subst hy;have hlt:=(qaa.1 hyi).1;obtain⟨x,hxi⟩:∃ x,xs[i]?=some x:=⟨_,qae om⟩;have hci:i < c.size:=by omega
     obtain⟨q1,q2⟩:=hconv i x y' hxi hyi;exact⟨rfl,_,qbk hci,q1,q2 _ (g5 i x _ hxi (qbk hci))⟩
  have hl:(ys.map fun y=>[y]).length=ys.length:=by simp
  have:=Rel.sl (ok:=ok') (w:=w) (lv:=fun _=>none) (size:=1) (rows:=ys.map fun y=>[y]) (some ⟨b,0,none⟩) cap (fun i _=>c.getD i undef) b 0 (by rw[hl];exact hcap) hmax (fun h=>by cases h) (fun row hr=>by obtain⟨y,_,rfl⟩:=qag.1 hr;rfl) (fun _=>⟨rfl,hk2 b n h1⟩) (fun i j row x hrow hx=>?_) (fun i j row x hrow hx=>?_)
  .rw [hl]at this;exact this
  .obtain ⟨rfl,u,hu,hc,_⟩:=hcells i j row x hrow hx;refine⟨?_,hc⟩;simp only[World.cell?,g1];simp[hu]
  obtain⟨rfl,u,hu,_,hr⟩:=hcells i j row x hrow hx;have:c.getD i undef=u:=by simp[hu]
  simp only[this];exact hr
theorem Frz.mat{els:List (List (List AV))}(hf:zlu f=true)(hM:Nat.blt M 1000000=true)(hk:(f.all fun x=>!Nat.beq x.1 M)=true)(hs:0 < sz)(hsz:∀ r∈els,∀ e∈r,e.length=sz){n:Nat}(hn:n=els.length)(hrows:rows=els.map List.flatten) :
  Frz (yac (f++ybz M sz rows [])) (.ls M 1 n) (.sl 1 (els.map fun r=>[.sl sz r])):=by
 subst hn hrows;have hM':M < 1000000:=by simpa using hM
 intro B ok0 lv w u hi hr;have h1:yac (f++ybz M sz (els.map List.flatten) []) M=some (ygi (yfe M sz 0 (els.map List.flatten))):=by
  rw[yys hf hM' hk M _ yfn,qba]
 have hlv:∀ id b n,lv id=some (some b,n)->(ok0 b\/B.mine b)/\b < w.heap.size:=fun id b n hb=>by obtain⟨_,_,h1,h2,_⟩:=hi.lvat hb;exact⟨.inr h1,h2⟩
 have:=ls_to_slM (ys:=els.map fun r=>.sl sz r) hi hr h1 sm (by rw[ydz];simp) (fun g=>(ok0 g\/B.mine g)/\g < w.heap.size) (fun b n hb=>hlv M b n hb) (fun j x y hx hy=>?_)
 .rw [qen]at this;exact this
 rw[yej,qak]at hx;rw[qak]at hy;cases hj:els[j]? with
 | none=>simp[hj]at hx
 | some r=>
  simp only[hj,qav,Option.some.injEq]at hx hy;subst hx hy;refine⟨rfl,fun u hu=>?_⟩;rw[qay]at hu;have hrow:=zjc (f:=f) (sz:=sz) (rows:=els.map List.flatten) (extra:=[]) hf hM' j;rw[qak,hj]at hrow;simp only[qav]at hrow;have hr1:∀ e∈r,e.length=sz:=hsz r (qab hj);have hfl:r.flatten.length / sz=r.length:=by
   have:∀ r:List (List AV),(∀ e∈r,e.length=sz)->r.flatten.length=r.length * sz:=by
    intro r;induction r with
    | nil=>intro _;simp
    | cons e r ih=>
     intro he;rw[qcc,qan,ih fun e h=>he e (by simp[h]),he e sm,qaj,qdi,qda]
   rw[this r hr1];exact Nat.mul_div_cancel _ hs
  rw[hfl]at hu;refine ysd hi hu (by rw[hrow];rfl) rfl hr1 rfl (fun x hx i=>?_) _ (fun g hg=>⟨hg.1,hg.2.1⟩) (fun b n hb=>hlv _ b n hb);obtain⟨b,n,q1,q2⟩:=hi.obj _ _ hrow;cases b with
  | none=>
   rcases q2 with q2|⟨e,q2⟩
   .simp only[LObj.vec.injEq]at q2;rw[q2]at hx;simp at hx
   cases q2
  | some b=>exact yas.ment (q2.2.2.2 x hx)
theorem ybw{N:Nat}{c:Code}{Q:Exit->SS->Prop}{t0:List (Nat × AV)}{h0:List (Nat × Option LObj)}(t:α->List (Nat × AV))(h:α->List (Nat × Option LObj))(m:α->Nat)(I:α->Prop)(a:α)(hI:I a)(h1:zap t0 (t a))(h2:∀ id o,yac (h a) id=some o->yac h0 id=some o)(round:∀ a,I a->A P N c (xlo t h m I a Q) (S (t a) (h a))):A P N (.loop c) Q (S t0 h0):=by
 refine xgh (fun n s=>∃ b,I b/\m b=n/\Sub (S (t b) (h b)) s) (m a) ⟨a,hI,rfl,ycd h1,h2⟩ ?_;rintro n s ⟨b,hb,rfl,hsub⟩;refine(ypf (round b hb) hsub).mono fun e s' hq=>?_;cases e with
 | normal=>
  obtain⟨b',h3,h4,h5⟩:=hq;exact⟨m b',h4,b',h3,rfl,h5⟩
 | _=>exact hq
theorem yhi{t:α->List (Nat × AV)}{h:α->List (Nat × Option LObj)}{m:α->Nat}{I:α->Prop}{a:α}{Q:Exit->SS->Prop}{t1:List (Nat × AV)}{h1:List (Nat × Option LObj)}(b:α)(hI:I b)(hm:m b < m a)(g1:zap t1 (t b))(g2:∀ id o,yac (h b) id=some o->yac h1 id=some o):xlo t h m I a Q .normal (S t1 h1):=
 ⟨b,hI,hm,ycd g1,g2⟩
theorem hsE{h h':List (Nat × Option LObj)}(e:yac h=yac h'):∀ id o,yac h' id=some o->yac h id=some o:=fun id o ho=>by rw[e];exact ho
theorem yft:∀ {f g:List (Nat × Option LObj)} {j:Nat} {o:LObj},yac f j=some o->yac (f++g) j=some o
 | [],g,j,o,h=>by simp[yac]at h
 | (k,x)::f,g,j,o,h=>by
  simp only[yac,qbb]at h ⊢;cases hb:Nat.beq j k with
  | true=>simpa[hb]using h
  | false=>simp only[hb]at h ⊢;exact yft h
theorem hsM{f':List (Nat × Option LObj)}(hs:yxr f f')(hf:zlu f=true)(hM:Nat.blt M 1000000=true)(hk:(f.all fun x=>!Nat.beq x.1 M)=true):∀ id o,yac (f'++ybz M sz rows extra) id=some o->yac (f++ybz M sz rows extra) id=some o:=fun id o ho=>by
 rcases ydn f' (ybz M sz rows extra) (j:=id)with e|⟨_,e⟩
 .rw [e]at ho;exact yft (yah hs id o ho)
 rw[e]at ho;exact yys hf (by simpa using hM) hk id o ho
end
section
open Go.RowKit
def xjr(P:Program)(t:Nat):Option (Nat × Bool):=match P.info? t with
 | some i=>(match P.underlying t with
  | some d=>some (i.size,xmg d)
  | none=>none)
 | none=>none
theorem zng{s:Nat}{ag:Bool}(h:xjr P t=some (s,ag)):yix P t s ag:=by
 unfold xjr at h;split at h
 .rename_i i hi;split at h
  .rename_i d hd;simp only[Option.some.injEq,Prod.mk.injEq]at h;exact⟨by rw[hi];simp[h.1],by rw[hd];simp[h.2]⟩
  cases h
 cases h
def xmb(P:Program)(t:Nat):Option (List Value):=match P.info? t with
 | some i=>(match i.zero with
  | some z=>some z.cells.toList
  | none=>none)
 | none=>none
theorem xfh{z:List Value}(h:xmb P t=some z):yte P t z:=by
 unfold xmb at h;split at h
 .rename_i i hi;split at h
  .rename_i u hu;simp only[Option.some.injEq]at h;subst h;unfold yte;rw[hi];simp[hu]
  cases h
 cases h
def zpo(P:Program):List Field->Option (List (Nat × Nat × Bool))
 | []=>some []
 | f::l=>match xjr P f.type with
  | some (s+1,ag)=>(match zpo P l with
   | some r=>some ((f.offset,s+1,ag)::r)
   | none=>none)
  | _=>none
theorem zpp:∀ {l:List Field} {r:List (Nat × Nat × Bool)},zpo P l=some r->xbh P l r
 | [],r,h=>by simp only[zpo,Option.some.injEq]at h;subst h;exact trivial
 | f::l,r,h=>by
  unfold zpo at h;split at h
  .rename_i s ag hs;split at h
   .rename_i r' hr;simp only[Option.some.injEq]at h;subst h;exact⟨⟨rfl,zng hs,sm⟩,zpp hr⟩
   cases h
  cases h
def xmv(P:Program)(t:Nat):TK->Option TK
 | .other=>some .other
 | _=>match P.underlying t with
  | some (.int k)=>some (.int k)
  | some .bool=>some .bool
  | some .string=>some .string
  | some (.struct fs)=>(match zpo P fs.toList with
   | some r=>some (.strct r)
   | none=>none)
  | some (.array n e)=>(match xjr P e with
   | some (s,a)=>some (.arr n s a)
   | none=>none)
  | some (.slice e)=>(match xjr P e with
   | some (s,a)=>(match P.info? e with
    | some i=>(match xmb P e with
     | some z=>(match Nat.beq z.length s && Nat.blt 0 s with
      | true=>some (.slc e s a i.bytes z)
      | false=>none)
     | none=>none)
    | none=>none)
   | none=>none)
  | some (.map k e)=>some (.map k e)
  | _=>none
theorem kdAt_ok{k0 k:TK}(h:xmv P t k0=some k):ygb P t k:=by
 unfold xmv at h;split at h
 .simp only[Option.some.injEq]at h;subst h;exact trivial
 split at h
 .rename_i hu;simp only[Option.some.injEq]at h;subst h;exact hu
 .rename_i hu;simp only[Option.some.injEq]at h;subst h;exact hu
 .rename_i hu;simp only[Option.some.injEq]at h;subst h;exact hu
 .rename_i fs hu;split at h
  .rename_i r hr;simp only[Option.some.injEq]at h;subst h;exact strct_of (flds:=fs.toList) (by simpa using hu) (zpp hr)
  cases h
 .rename_i n e hu;split at h
  .rename_i s a hs;simp only[Option.some.injEq]at h;subst h;exact⟨e,hu,zng hs⟩
  cases h
 .rename_i e hu;split at h
  .rename_i s a hs;split at h
   .rename_i i hi;split at h
    .rename_i z hz;split at h
     .rename_i hb;simp only[Option.some.injEq]at h;subst h;simp only[qad]at hb;exact⟨hu,zng hs,by rw[hi];rfl,xfh hz,qaf hb.1,by simpa using hb.2⟩
     cases h
    cases h
   cases h
  cases h
 .rename_i a b hu;simp only[Option.some.injEq]at h;subst h;exact hu
 cases h
def xgd(P:Program)(x:Nat × Ty):Option Ty:=match xjr P x.1 with
 | some (s,a)=>(match xmb P x.1 with
  | some z=>(match xmv P x.1 x.2.kind with
   | some k=>some ⟨k,s,a,z⟩
   | none=>none)
  | none=>none)
 | none=>none
theorem rowAt_ok{x:Nat × Ty}(h:xgd P x=some x.2):xmf P x.1 x.2:=by
 unfold xgd at h;split at h
 .rename_i s a hs;split at h
  .rename_i z hz;split at h
   .rename_i k hk;simp only[Option.some.injEq]at h;rw[<- h];exact⟨zng hs,xfh hz,kdAt_ok hk⟩
   cases h
  cases h
 cases h
theorem zol:∀ {l:List (Nat × Ty)},l.map (xgd P)=l.map (fun x=>some x.2)->xih P l
 | [],_=>trivial
 | (t,y)::l,h=>by
  simp only[qce,List.cons.injEq]at h;exact⟨rowAt_ok (x:=(t,y)) h.1,zol h.2⟩
theorem tok_tab{l:List (Nat × Ty)}(h:l.map (xgd P)=l.map (fun x=>some x.2)):TOK P (xau l):=xho (zol h)
end
set_option maxRecDepth 100000
section
def ybi:Ty:=⟨.other,1,false,[.nilFunc]⟩
def xna:Ty:=⟨(.int .i64),1,false,[(.int .i64 0)]⟩
def ty_4:Ty:=⟨.bool,1,false,[(.bool false)]⟩
def xma:Ty:=⟨(.int .u8),1,false,[(.int .u8 0)]⟩
def xnu:Ty:=⟨(.strct [(0,1,false),(1,1,false),(2,1,false),(3,1,false)]),4,true,[(.int .i64 0),(.int .i64 0),(.bool false),(.int .u8 0)]⟩
def xnb:Ty:=⟨.string,1,false,[(.string ByteArray.empty)]⟩
def xlg:Ty:=⟨(.int .u64),1,false,[(.int .u64 0)]⟩
def xlh:Ty:=⟨(.strct [(0,1,false),(1,1,false)]),2,true,[(.string ByteArray.empty),(.int .u64 0)]⟩
def zbe:Ty:=⟨.other,1,false,[(.pointer none)]⟩
def xli:Ty:=⟨(.strct [(0,1,false)]),1,true,[(.pointer none)]⟩
def ty_20:Ty:=⟨.other,1,false,[.nilIface]⟩
def xjk:Ty:=⟨(.int .i32),1,false,[(.int .i32 0)]⟩
def ty_22:Ty:=⟨(.slc 160 6 true 56 [(.string ByteArray.empty),(.int .i64 0),(.int .i64 0),(.int .i64 0),(.int .i64 0),(.int .i64 0)]),1,false,[(.slice none 0 0)]⟩
def ty_23:Ty:=⟨(.slc 217 3 true 64 [(.string ByteArray.empty),(.slice none 0 0),(.slice none 0 0)]),1,false,[(.slice none 0 0)]⟩
def xav:Ty:=⟨(.strct [(0,1,false),(1,1,false),(2,1,false)]),3,true,[(.string ByteArray.empty),(.slice none 0 0),(.slice none 0 0)]⟩
def ty_26:Ty:=⟨(.slc 3 1 false 8 [(.int .i64 0)]),1,false,[(.slice none 0 0)]⟩
def ty_27:Ty:=⟨(.slc 176 1 false 24 [(.slice none 0 0)]),1,false,[(.slice none 0 0)]⟩
def zhh:Ty:=⟨(.strct [(0,1,false),(1,1,false)]),2,true,[(.slice none 0 0),(.slice none 0 0)]⟩
def ty_30:Ty:=⟨(.slc 4 1 false 1 [(.bool false)]),1,false,[(.slice none 0 0)]⟩
def xlj:Ty:=⟨(.slc 50 1 false 4 [(.int .u32 0)]),1,false,[(.slice none 0 0)]⟩
def ty_32:Ty:=⟨(.slc 82 1 false 24 [(.slice none 0 0)]),1,false,[(.slice none 0 0)]⟩
def ty_47:Ty:=⟨(.slc 26 1 false 24 [(.slice none 0 0)]),1,false,[(.slice none 0 0)]⟩
def ty_50:Ty:=⟨(.int .u32),1,false,[(.int .u32 0)]⟩
def xlk:Ty:=⟨(.strct [(0,1,false),(1,1,false),(2,1,false),(3,1,false),(4,1,false)]),5,true,[(.int .i64 0),(.int .i64 0),(.int .i64 0),(.int .i64 0),(.int .u32 0)]⟩
def zhi:Ty:=⟨(.strct [(0,1,false),(1,1,false),(2,1,false),(3,5,true)]),8,true,(List.replicate 3 (.slice none 0 0)++List.replicate 4 (.int .i64 0)++List.replicate 1 (.int .u32 0))⟩
def ty_60:Ty:=⟨(.slc 68 1 false 24 [(.slice none 0 0)]),1,false,[(.slice none 0 0)]⟩
def ty_63:Ty:=⟨(.slc 47 1 false 24 [(.slice none 0 0)]),1,false,[(.slice none 0 0)]⟩
def ty_64:Ty:=⟨(.slc 52 5 true 40 [(.int .i64 0),(.int .i64 0),(.int .i64 0),(.int .i64 0),(.int .u32 0)]),1,false,[(.slice none 0 0)]⟩
def ty_68:Ty:=⟨(.slc 238 2 true 16 [(.int .i64 0),(.int .i64 0)]),1,false,[(.slice none 0 0)]⟩
def ty_82:Ty:=⟨(.slc 87 2 true 16 [(.int .u32 0),(.int .i64 0)]),1,false,[(.slice none 0 0)]⟩
def xll:Ty:=⟨(.strct [(0,1,false),(1,1,false)]),2,true,[(.int .u32 0),(.int .i64 0)]⟩
def xlm:Ty:=⟨(.strct [(0,1,false),(1,1,false),(2,1,false),(3,1,false),(4,1,false)]),5,true,[(.pointer none),(.slice none 0 0),(.int .i64 0),(.int .u32 0),.nilFunc]⟩
def ty_100:Ty:=⟨(.slc 103 1 false 24 [(.slice none 0 0)]),1,false,[(.slice none 0 0)]⟩
def ty_103:Ty:=⟨(.slc 104 2 true 16 [(.int .i64 0),(.int .i64 0)]),1,false,[(.slice none 0 0)]⟩
def ty_104:Ty:=⟨(.arr 2 1 false),2,true,[(.int .i64 0),(.int .i64 0)]⟩
def xhu:Ty:=⟨(.strct [(0,1,false),(1,1,false),(2,1,false),(3,1,false),(4,1,false)]),5,true,[(.pointer none),(.slice none 0 0),(.int .i64 0),(.slice none 0 0),(.slice none 0 0)]⟩
def ty_134:Ty:=⟨(.slc 203 4 true 32 [(.int .i64 0),(.int .i64 0),(.int .i64 0),(.int .i64 0)]),1,false,[(.slice none 0 0)]⟩
def ty_138:Ty:=⟨(.slc 9 1 false 16 [(.string ByteArray.empty)]),1,false,[(.slice none 0 0)]⟩
def xhv:Ty:=⟨(.strct [(0,3,true),(3,3,true),(6,1,false)]),7,true,(List.replicate 1 (.string ByteArray.empty)++List.replicate 2 (.slice none 0 0)++List.replicate 1 (.string ByteArray.empty)++List.replicate 3 (.slice none 0 0))⟩
def xhw:Ty:=⟨(.strct [(0,1,false),(1,1,false),(2,1,false),(3,1,false),(4,1,false),(5,1,false)]),6,true,[(.string ByteArray.empty),(.int .i64 0),(.int .i64 0),(.int .i64 0),(.int .i64 0),(.int .i64 0)]⟩
def xhx:Ty:=⟨(.strct [(0,3,true),(3,2,true),(5,1,false),(6,1,false)]),7,true,(List.replicate 1 (.string ByteArray.empty)++List.replicate 4 (.slice none 0 0)++List.replicate 1 (.int .i64 0)++List.replicate 1 (.slice none 0 0))⟩
def ty_176:Ty:=⟨(.slc 178 2 true 16 [(.int .i64 0),(.int .i64 0)]),1,false,[(.slice none 0 0)]⟩
def zkb:Ty:=⟨(.strct [(0,1,false),(1,1,false)]),2,true,[(.int .i64 0),(.int .i64 0)]⟩
def ty_190:Ty:=⟨(.arr 24 1 false),24,true,(List.replicate 24 (.int .i64 0))⟩
def xhy:Ty:=⟨(.strct [(0,1,false),(1,1,false),(2,1,false),(3,1,false)]),4,true,[(.int .i64 0),(.int .i64 0),(.int .i64 0),(.int .i64 0)]⟩
def ty_215:Ty:=⟨(.slc 249 2 true 32 [(.int .i64 0),(.slice none 0 0)]),1,false,[(.slice none 0 0)]⟩
def xhz:Ty:=⟨(.strct [(0,3,true),(3,1,false),(4,1,false)]),5,true,[(.string ByteArray.empty),(.slice none 0 0),(.slice none 0 0),(.pointer none),(.slice none 0 0)]⟩
def xia:Ty:=⟨(.strct [(0,1,false),(1,1,false)]),2,true,[(.int .i64 0),.nilFunc]⟩
def ty_234:Ty:=⟨(.slc 233 2 true 16 [(.int .i64 0),.nilFunc]),1,false,[(.slice none 0 0)]⟩
def xib:Ty:=⟨(.strct [(0,1,false),(1,1,false),(2,1,false),(3,1,false)]),4,true,[(.pointer none),(.slice none 0 0),(.int .i64 0),(.slice none 0 0)]⟩
def xic:Ty:=⟨(.strct [(0,1,false),(1,1,false)]),2,true,[(.int .i64 0),(.slice none 0 0)]⟩
def ty_272:Ty:=⟨(.map 9 4),1,false,[(.map none)]⟩
def ty_273:Ty:=⟨(.map 3 4),1,false,[(.map none)]⟩
def ty_284:Ty:=⟨(.arr 3 1 false),3,true,[(.int .i64 0),(.int .i64 0),(.int .i64 0)]⟩
def ty_294:Ty:=⟨(.arr 32 1 false),32,true,(List.replicate 32 (.int .u8 0))⟩
def ty_301:Ty:=⟨(.arr 256 1 false),256,true,(List.replicate 256 (.bool false))⟩
def ty_302:Ty:=⟨(.map 104 3),1,false,[(.map none)]⟩
def xid:Ty:=⟨(.strct [(0,1,false),(1,1,false),(2,1,false),(3,1,false)]),4,true,[(.pointer none),(.pointer none),(.pointer none),(.string ByteArray.empty)]⟩
def xie:Ty:=⟨(.strct [(0,1,false),(1,1,false),(2,1,false),(3,1,false),(4,1,false),(5,1,false),(6,1,false),(7,1,false),(8,1,false),(9,1,false),(10,1,false)]),11,true,(List.replicate 2 (.int .u64 0)++List.replicate 1 (.int .u32 0)++List.replicate 4 (.int .u8 0)++List.replicate 1 .nilFunc++List.replicate 1 (.pointer none)++List.replicate 2 (.int .i32 0))⟩
def tabL:List (Nat × Ty):=[(1,ybi),(2,xna),(3,xna),(4,ty_4),(5,xma),(6,xma),(7,xnu),(8,xnu),(9,xnb),(10,xnb),(11,xnb),(12,xlg),(13,xlh),(14,xlh),(15,zbe),(16,zbe),(17,zbe),(18,xli),(19,xli),(20,ty_20),(21,xjk),(22,ty_22),(23,ty_23),(24,xav),(25,xav),(26,ty_26),(27,ty_27),(28,zhh),(29,zhh),(30,ty_30),(31,xlj),(32,ty_32),(33,zhh),(34,zhh),(36,ybi),(37,ybi),(38,xna),(40,ybi),(41,ybi),(42,ybi),(44,ybi),(46,ybi),(47,ty_47),(49,ybi),(50,ty_50),(51,xlk),(52,xlk),(53,zhi),(54,zhi),(56,ybi),(58,ybi),(59,ybi),(60,ty_60),(61,ybi),(62,ybi),(63,ty_63),(64,ty_64),(66,ybi),(67,ybi),(68,ty_68),(69,ybi),(70,ybi),(71,ybi),(72,ybi),(73,ybi),(75,ybi),(76,ybi),(78,ybi),(80,ybi),(81,ybi),(82,ty_82),(83,ybi),(84,ybi),(85,ybi),(86,xll),(87,xll),(88,ybi),(89,ybi),(90,ybi),(91,ybi),(92,zbe),(93,xlj),(94,ybi),(95,xlm),(96,xlm),(97,ybi),(98,ybi),(99,ybi),(100,ty_100),(101,ybi),(102,ybi),(103,ty_103),(104,ty_104),(105,ybi),(106,ybi),(107,ybi),(108,ybi),(110,ybi),(111,ybi),(112,ybi),(113,ybi),(114,ybi),(115,ybi),(116,ybi),(117,zbe),(118,ybi),(119,ybi),(120,ybi),(121,ybi),(122,ybi),(123,ybi),(124,ybi),(125,zbe),(126,ybi),(127,ybi),(129,ybi),(130,ybi),(131,xhu),(132,xhu),(133,ybi),(134,ty_134),(136,ybi),(137,zbe),(138,ty_138),(139,xav),(140,xav),(141,xhv),(142,xhv),(143,ybi),(144,ybi),(145,ybi),(146,ybi),(147,ybi),(148,ybi),(149,ybi),(150,ybi),(152,ybi),(153,ybi),(154,ybi),(155,ybi),(156,ybi),(157,ybi),(158,ybi),(159,xhw),(160,xhw),(161,ybi),(162,ybi),(163,ybi),(164,ybi),(166,ybi),(167,ybi),(168,ybi),(169,ybi),(170,ybi),(171,ybi),(172,ybi),(173,ybi),(174,xhx),(175,xhx),(176,ty_176),(177,zkb),(178,zkb),(179,ybi),(180,ybi),(181,ybi),(182,ybi),(183,ybi),(184,ybi),(185,xlg),(186,ybi),(187,ybi),(188,ybi),(189,ybi),(190,ty_190),(191,ybi),(192,ybi),(193,ybi),(194,ybi),(195,ybi),(196,ybi),(197,ybi),(198,ybi),(199,ybi),(200,ybi),(201,ybi),(202,xhy),(203,xhy),(205,ybi),(206,zkb),(207,zkb),(209,ybi),(210,ybi),(211,ybi),(212,ybi),(213,ybi),(214,ybi),(215,ty_215),(216,xav),(217,xav),(218,ybi),(219,ybi),(220,ybi),(221,ybi),(222,ybi),(223,ybi),(224,xhz),(225,xhz),(226,ybi),(228,ybi),(229,ybi),(230,ybi),(231,ybi),(232,xia),(233,xia),(234,ty_234),(235,ybi),(236,ybi),(237,zkb),(238,zkb),(239,ybi),(240,ybi),(241,zhh),(242,zhh),(243,ybi),(244,xib),(245,xib),(246,ybi),(247,ybi),(248,xic),(249,xic),(250,ybi),(251,ybi),(252,ybi),(253,ybi),(254,ybi),(255,ybi),(256,ybi),(257,ybi),(258,ybi),(259,ybi),(260,ybi),(262,ybi),(263,ybi),(264,zbe),(265,ybi),(266,ybi),(267,ybi),(268,ybi),(269,ybi),(270,zbe),(271,ybi),(272,ty_272),(273,ty_273),(274,ybi),(275,ybi),(276,ybi),(277,ybi),(278,ybi),(279,ybi),(280,ybi),(281,ybi),(282,ybi),(283,ybi),(284,ty_284),(285,ybi),(286,zbe),(287,ybi),(288,ybi),(289,ybi),(290,ybi),(291,ybi),(292,ybi),(293,ybi),(294,ty_294),(295,ybi),(296,ybi),(297,ybi),(298,ybi),(299,ybi),(300,ybi),(301,ty_301),(302,ty_302),(303,ybi),(304,ybi),(305,ybi),(306,ybi),(307,ybi),(308,ybi),(309,ybi),(310,ybi),(311,ybi),(312,ybi),(313,ybi),(314,ybi),(315,ybi),(316,xid),(317,xid),(321,xma),(322,xma),(323,ybi),(324,zbe),(325,xjk),(326,xjk),(327,xie),(328,xie),(329,zbe)]
def TT:Nat->Option Ty:=xau tabL
theorem tok:TOK prog TT:=tok_tab kf
theorem ymj:prog.follows .mixedOrders=true:=by kernel_rfl
end
section
open Go.RowKit
variable{N:Nat}{ops:Array Oper}{lf:Oper->Bool}{Q:SS->Prop}{t:List (Nat × AV)}{h:List (Nat × Option LObj)}{rest:List Oper}{d:Nat}{op:Op}{ty:TypeId}{pos:String}{af:Array Edge}{gd:Option (Nat × Bool)}{r:AV}
theorem zI{z:Int}(k:Lex prog N ops lf Q rest (S ((d,.v (.int .i64 z))::t) h))(hr:ysz TT t h op ty=some (.v (.int .i64 (IntKind.i64.wrap z))):=by rfl)(h0:-9223372036854775808<=z/\z<=9223372036854775807:=by constructor <;> omega)(hw:yam ops (yak t) ⟨some d,op,ty,pos,af,gd⟩=some true:=by rfl)(hd:Nat.blt d N=true:=by rfl):Lex prog N ops lf Q (⟨some d,op,ty,pos,af,gd⟩::rest) (S t h):=L_int tok hr h0 hw hd k
theorem zL{ti e es eb sz z:Nat}{ea ag:Bool}{ez z0:List Value}{f:α->List AV}{l:List α}(k:Lex prog N ops lf Q rest (S ((d,.v (.int .i64 l.length))::t) h))(hk:TT ti=some ⟨.slc e es ea eb ez,sz,ag,z0⟩:=by rfl)(hx:evF (yak t) x=some (.sl z (l.map f)):=by rfl)(hw:yam ops (yak t) ⟨some d,.call { callee:=.builtin .len,args:=#[x],argTypes:=#[ti] },ty,pos,af,gd⟩=some true:=by rfl)(hd:Nat.blt d N=true:=by rfl):Lex prog N ops lf Q (⟨some d,.call { callee:=.builtin .len,args:=#[x],argTypes:=#[ti] },ty,pos,af,gd⟩::rest) (S t h):=L_lenMap tok hk hx hw hd k
theorem zC  (k:Lex prog N ops lf Q rest (S ((d,r)::t) h)) (hr:ysz TT t h op ty=some r:=by rfl) (hw:yam ops (yak t) ⟨some d,op,ty,pos,af,gd⟩=some true:=by rfl) (hd:Nat.blt d N=true:=by rfl):Lex prog N ops lf Q (⟨some d,op,ty,pos,af,gd⟩::rest) (S t h):=znx tok hr hw hd k
theorem zK(k:Lex prog N ops lf Q rest (S ((d,.v undef)::t) h))(hw:yam ops (yak t) ⟨some d,op,ty,pos,af,gd⟩=some false:=by rfl)(hd:Nat.blt d N=true:=by rfl):Lex prog N ops lf Q (⟨some d,op,ty,pos,af,gd⟩::rest) (S t h):=xgm hw hd k
theorem zB{elem:TypeId}{y:AV}{cs:List AV}(k:Lex prog N ops lf Q rest (S ((d,.lp d 0)::t) ((d,some (.cells cs))::h)))(hx:evF (yak t) x=some y:=by rfl)(hcs:yec y=some cs:=by rfl)(h1:ydl d t=true:=by rfl)(h2:ybs d h=true:=by rfl)(hm:ment.mentL d cs=false:=by rfl)(hl:lf ⟨some d,.box elem x,ty,pos,af,gd⟩=true:=by rfl)(hw:yam ops (yak t) ⟨some d,.box elem x,ty,pos,af,gd⟩=some true:=by rfl)(hd:Nat.blt d N=true:=by rfl):Lex prog N ops lf Q (⟨some d,.box elem x,ty,pos,af,gd⟩::rest) (S t h):=xjv hx hcs h1 h2 hm hl hw hd k
theorem zA{elem:TypeId}{y:Ty}(k:Lex prog N ops lf Q rest (S ((d,.lp d 0)::t) ((d,some (.cells (yhw y.zero)))::h)))(hy:TT elem=some y:=by rfl)(hone:y.zero.all Value.oneCell'=true:=by rfl)(h1:ydl d t=true:=by rfl)(h2:ybs d h=true:=by rfl)(hl:lf ⟨some d,.alloc elem,ty,pos,af,gd⟩=true:=by rfl)(hw:yam ops (yak t) ⟨some d,.alloc elem,ty,pos,af,gd⟩=some true:=by rfl)(hd:Nat.blt d N=true:=by rfl):Lex prog N ops lf Q (⟨some d,.alloc elem,ty,pos,af,gd⟩::rest) (S t h):=zkn tok hy hone h1 h2 hl hw hd k
theorem zS{ti:Nat}{y:Ty}{id off:Nat}{xs cs ys:List AV}{u:AV}(k:Lex prog N ops lf Q rest (S t ((id,some (.cells ys))::h)))(hy:TT ti=some y:=by rfl)(hx:evF (yak t) x=some (.lp id off):=by rfl)(hv:evF (yak t) v=some u:=by rfl)(hcs:yec u=some cs:=by rfl)(hcl:Nat.beq cs.length y.size=true:=by rfl)(hh:yac h id=some (.cells xs):=by rfl)(hsp:yjl off cs xs=some ys:=by rfl)(hl:lf ⟨none,.store ti x v,ty,pos,af,gd⟩=true:=by rfl)(hw:yam ops (yak t) ⟨none,.store ti x v,ty,pos,af,gd⟩=some true:=by rfl):Lex prog N ops lf Q (⟨none,.store ti x v,ty,pos,af,gd⟩::rest) (S t h):=L_store tok hy hx hv hcs hcl hh hsp hl hw k
theorem zU{ti:Nat}{y:Ty}{parts:List (Nat × Operand)}{ps:List (Nat × AV)}(k:Lex prog N ops lf Q rest (S ((d,r)::t) h))(hy:TT ti=some y:=by rfl)(hone:y.zero.all Value.oneCell'=true:=by rfl)(hps:evP (evF (yak t)) parts=some ps:=by rfl)(hr:zos TT ti ps=some r:=by rfl)(hw:yam ops (yak t) ⟨some d,.build ti parts.toArray,ty,pos,af,gd⟩=some true:=by rfl)(hd:Nat.blt d N=true:=by rfl):Lex prog N ops lf Q (⟨some d,.build ti parts.toArray,ty,pos,af,gd⟩::rest) (S t h):=L_build tok hy hone hps hr hw hd k
theorem zV{ti e es eb sz len:Nat}{ea ag:Bool}{ez z:List Value}{parts:List (Nat × Operand)}{ps:List (Nat × AV)}{ys:List AV}{rows:List (List AV)}(k:Lex prog N ops lf Q rest (S ((d,.sl es rows)::t) h))(hk:TT ti=some ⟨.slc e es ea eb ez,sz,ag,z⟩:=by rfl)(hone:ez.all Value.oneCell'=true:=by rfl)(hps:evP (evF (yak t)) parts=some ps:=by rfl)(hf:yyk (fun i=>some (i * es,es)) (ykx len (yhw ez)) ps=some ys:=by rfl)(hpu:yas.pureL ys=true:=by rfl)(hch:ypk es len ys=some rows:=by rfl)(hlim:Nat.ble (len * es) 16777216=true:=by rfl)(hw:yam ops (yak t) ⟨some d,.buildSlice ti len parts.toArray,ty,pos,af,gd⟩=some true:=by rfl)(hd:Nat.blt d N=true:=by rfl):Lex prog N ops lf Q (⟨some d,.buildSlice ti len parts.toArray,ty,pos,af,gd⟩::rest) (S t h):=L_buildSlice tok hk hone hps hf hpu hch hlim hw hd k
theorem zF{f:Nat}{caps:List Operand}{xs:List AV}(k:Lex prog N ops lf Q rest (S ((d,.fn f xs)::t) h))(hx:evL (evF (yak t)) caps=some xs:=by rfl)(hw:yam ops (yak t) ⟨some d,.makeFunc (.func f) #[] caps.toArray,ty,pos,af,gd⟩=some true:=by rfl)(hd:Nat.blt d N=true:=by rfl):Lex prog N ops lf Q (⟨some d,.makeFunc (.func f) #[] caps.toArray,ty,pos,af,gd⟩::rest) (S t h):=L_makeFunc hx hw hd k
theorem zX{ti e es eb sz:Nat}{ea ag:Bool}{ez z:List Value}{ki:IntKind}{i:Int}{rows:List (List AV)}{row:List AV}(k:Lex prog N ops lf Q rest (S ((d,.dp row 0)::t) h))(hk:TT ti=some ⟨.slc e es ea eb ez,sz,ag,z⟩:=by rfl)(hx:evF (yak t) x=some (.sl es rows):=by rfl)(hy:evF (yak t) y=some (.v (.int ki i)):=by rfl)(h0:0<=i:=by omega)(hrow:rows[i.toNat]?=some row:=by first|exact xej (by assumption)|exact row_mapI (by assumption))(hw:yam ops (yak t) ⟨some d,.indexAddr ti x y,ty,pos,af,gd⟩=some true:=by rfl)(hd:Nat.blt d N=true:=by rfl):Lex prog N ops lf Q (⟨some d,.indexAddr ti x y,ty,pos,af,gd⟩::rest) (S t h):=yng tok hk hx hy h0 hrow hw hd k
theorem zR{Q:Exit->SS->Prop}{s:SS}{id:Nat}{l:List Oper}(k:Lex prog N l.toArray lfT (Q .normal) l s)(hn:yht l=true:=by rfl):A prog N (.region id l.toArray false) Q s:=ydb (lf:=lfT) hn k
theorem zD{Q:Exit->SS->Prop}{s:SS}{id:Nat}{l:List Oper}(k:Lex prog N l.toArray lf0 (Q .normal) l s)(hB:zwa lf0 l=true:=by kernel_rfl)(hD:ytk N l=true:=by rfl):A prog N (.region id l.toArray true) Q s:=yta (lf:=lf0) ymj hB hD k
theorem zT{Q:Exit->SS->Prop}{s:SS}{x y:Code}(k:A prog N x Q s)(hc:evF s.t c=some (.v (.bool true)):=by rfl):A prog N (.cond c x y) Q s:=yux hc (fun _=>k) (fun e=>by cases e)
theorem zE{Q:Exit->SS->Prop}{s:SS}{x y:Code}(k:A prog N y Q s)(hc:evF s.t c=some (.v (.bool false)):=by rfl):A prog N (.cond c x y) Q s:=yux hc (fun e=>by cases e) (fun _=>k)
theorem ymg{ty:TypeId}{h:Nat->Option LObj}{ρ:Operand->Option AV}{row:List AV}{off:Nat}(hx:ρ x=some (.dp row off)):ybu P h ρ (.nilCheck x) ty (.dp row off):=
 yay fun B ok0 lv w a o ho hty hi hops=>by
  have hr:=hops x _ (by simp[Op.operands]) hx;obtain⟨g,q,hv,_⟩:=yor hr;exact⟨a.eval x,by simp[execOp,ho,hv],hr⟩
theorem zN{row:List AV}{off:Nat}(k:Lex prog N ops lf Q rest (S ((d,.dp row off)::t) h))(hx:evF (yak t) x=some (.dp row off):=by rfl)(hw:yam ops (yak t) ⟨some d,.nilCheck x,ty,pos,af,gd⟩=some true:=by rfl)(hd:Nat.blt d N=true:=by rfl):Lex prog N ops lf Q (⟨some d,.nilCheck x,ty,pos,af,gd⟩::rest) (S t h):=ycm (ymg hx) hw hd k
structure Zk (q:Prop):Prop where
 out:q
theorem z3{p q:Prop}(k:q)(h:Zk q->p:=by intro hq;(first|refine zI ?_|refine zL ?_|refine zC ?_|refine zK ?_|refine zB ?_|refine zA ?_|refine zS ?_|refine zU ?_|refine zV ?_|refine zF ?_|refine zX ?_|refine zny ?_|refine yxv rfl rfl rfl rfl ?_|refine zN ?_);exact hq.out):p:=h ⟨k⟩
theorem z2{p q:Prop}(k:q)(h:Zk q->p:=by intro hq;(first|refine zI ?_|refine zL ?_|refine zC ?_|refine zny ?_|refine ysv ?_|refine zR ?_|refine zK ?_|refine zB ?_|refine zA ?_|refine zS ?_|refine zU ?_|refine zV ?_|refine zF ?_|with_reducible refine ycy ?_|with_reducible refine yeo ?_|refine zsx ?_|refine ydu ?_|refine ype ?_|refine zT ?_|refine zE ?_|refine zX ?_|refine yxv rfl rfl rfl rfl ?_|refine zN ?_);exact hq.out):p:=h ⟨k⟩
theorem z1{p q:Prop}(k:q)(h:Zk q->p:=by intro hq;(first|refine z2 ?_|refine zD ?_);exact hq.out):p:=h ⟨k⟩
theorem zy{p q:Prop}(k:q)(h:Zk q->p:=by intro hq;refine z1 ?_;(repeat refine z1 ?_);exact hq.out):p:=h ⟨k⟩
theorem zY{p q:Prop}(k:q)(h:Zk q->p:=by intro hq;(repeat refine z1 ?_);exact hq.out):p:=h ⟨k⟩
theorem zw{p q:Prop}(k:q)(h:Zk q->p:=by intro hq;refine z2 ?_;(repeat refine z2 ?_);exact hq.out):p:=h ⟨k⟩
theorem zW{p q:Prop}(k:q)(h:Zk q->p:=by intro hq;(repeat refine z2 ?_);exact hq.out):p:=h ⟨k⟩
theorem zo{p q:Prop}(k:q)(h:Zk q->p:=by intro hq;refine z3 ?_;(repeat refine z3 ?_);exact hq.out):p:=h ⟨k⟩
theorem zO{p q:Prop}(k:q)(h:Zk q->p:=by intro hq;(repeat refine z3 ?_);exact hq.out):p:=h ⟨k⟩
theorem z4{p q:Prop}(k:q)(h:Zk q->p:=by intro hq;(first|refine z1 ?_|refine(ypg rfl rfl (by assumption) rfl rfl ?_));exact hq.out):p:=h ⟨k⟩
theorem z5{p q:Prop}(k:q)(h:Zk q->p:=by intro hq;(first|refine z2 ?_|refine(ypg rfl rfl (by assumption) rfl rfl ?_));exact hq.out):p:=h ⟨k⟩
theorem zz{p q:Prop}(k:q)(h:Zk q->p:=by intro hq;refine z4 ?_;(repeat refine z4 ?_);exact hq.out):p:=h ⟨k⟩
theorem zZ{p q:Prop}(k:q)(h:Zk q->p:=by intro hq;(repeat refine z4 ?_);exact hq.out):p:=h ⟨k⟩
theorem zwz{p q:Prop}(k:q)(h:Zk q->p:=by intro hq;refine z5 ?_;(repeat refine z5 ?_);exact hq.out):p:=h ⟨k⟩
theorem zWZ{p q:Prop}(k:q)(h:Zk q->p:=by intro hq;(repeat refine z5 ?_);exact hq.out):p:=h ⟨k⟩
theorem zr{p q:Prop}(k:q)(h:Zk q->p:=by intro hq;refine yqa ⟨_,rfl,hq.out⟩):p:=h ⟨k⟩
theorem zc{p q r:Prop}(x:r)(k:q)(h:Zk r->Zk q->p:=by intro hx hq;refine(ypg rfl rfl hx.out rfl rfl ?_);exact hq.out):p:=h ⟨x⟩ ⟨k⟩
theorem zk{p q:Prop}(k:q)(h:Zk q->p:=by intro hq;refine zY ?_;refine yqa ⟨_,rfl,hq.out⟩):p:=h ⟨k⟩
theorem zp{p:Prop}(h:p:=by refine yqa ⟨_,rfl,Frz.pure⟩):p:=h
theorem zkp{p:Prop}(h:p:=by refine zY ?_;refine yqa ⟨_,rfl,Frz.pure⟩):p:=h
theorem ze {f : FuncId} {fn : Func} {c : Code} {M : Nat} {rs : List ResultVar} {args : List AV} {r : AV} (hf : prog.funcs[f]? = some fn) (hN : fn.ntmps = M) (hrs : fn.results = rs.toArray) (k : A prog M c (xmc rs r) (S (yfj 0 args) [])) (hn : (fn.name == "runtime.NumGoroutine") = false := by rfl) (hb : fn.body = some c := by rfl)
  (hlen:(Nat.ble args.length M && Nat.ble M 1000000)=true:=by rfl) (hp:yas r=true:=by rfl):Con prog f args r:=con_of hf hn hb hN hrs hlen hp k
theorem zj{Q:Exit->SS->Prop}{s:SS}{x y:Code}{b:Bool}(k1:b=true->A prog N x Q s)(k2:b=false->A prog N y Q s)(hc:evF s.t c=some (.v (.bool b)):=by rfl):A prog N (.cond c x y) Q s:=yux hc k1 k2
theorem zt{p q:Prop}(k:q)(h:Zk q->p:=by intro hq;(repeat (first|with_reducible refine yeo ?_|with_reducible refine ycy ?_|refine ydu ?_|refine ysv ?_|refine zsx ?_));exact hq.out):p:=h ⟨k⟩
theorem zs{t t':List (Nat × AV)}(h:zap t t':=by(repeat (first|exact subT_nil|refine yan rfl ?_))):zap t t':=h
theorem zh{t t':List (Nat × Option LObj)}(h:yxr t t':=by first|exact yag|exact yab rfl yag|exact yab rfl (yab rfl yag)|exact yab rfl (yab rfl (yab rfl yag))|exact yab rfl (yab rfl (yab rfl (yab rfl yag)))):yxr t t':=h
end
section
open Go.RowKit
abbrev Lk:=Int × Int
structure GraphD where
 ids:List Int
 ports:List (List Lk)
def GraphD.n(g:GraphD):Nat:=g.ports.length
def zqh(n v:Nat)(l:Lk):Bool:=decide (0<=l.1) && (decide (l.1 < n) && (!(l.1 == (v:Int)) && (decide (1<=l.2) && decide (l.2<=15))))
theorem ybv(n v:Nat)(l:Lk):zqh n v l=true<->0<=l.1/\l.1 < n/\l.1≠v/\1<=l.2/\l.2<=15:=by
 unfold zqh;simp
def yij(n v:Nat)(ls:List Lk):Bool:=ls.all (zqh n v) && decide ((ls.map (·.1)).Nodup)
def idB(x:Int):Bool:=decide (0<=x) && decide (x<=255)
def zsr(l:List Int):Bool:=l.all idB && decide l.Nodup
def ygu(ls:List Lk)(u:Int):Int:=match ls.find? (fun l=>l.1 == u)with|some l=>l.2|none=>0
def zff(ports:List (List Lk)):Bool:=(List.range ports.length).all fun v=>yij ports.length v (ports.getD v [])
def xld(ports:List (List Lk)):Bool:=(List.range ports.length).all fun v=>(ports.getD v []).all fun l=>ygu (ports.getD l.1.toNat []) v == l.2
def ycf(g:GraphD):Bool:=decide (1<=g.ports.length) && (decide (g.ports.length<=24) && (decide (g.ids.length=g.ports.length) && (zsr g.ids && (zff g.ports && xld g.ports))))
theorem zre(n:Nat):∀ l:List Nat,l.Nodup->(∀ x∈l,x < n)->l.length<=n:=by
 induction n with
 | zero=>
  intro l _ h;cases l with
  | nil=>simp
  | cons a l=>exact absurd (h a sm) om
 | succ n ih=>
  intro l hn h;by_cases hm:n∈l
  .have h1:=ih (l.erase n) (hn.erase n) (fun x hx=>by
    have h2:=h x (List.mem_of_mem_erase hx)
    have h3:x≠n:=fun e=>by rw[e]at hx;exact(List.Nodup.not_mem_erase hn) hx
    omega)
   rw[qgo hm]at h1;omega
  have:=ih l hn (fun x hx=>by have h2:=h x hx;have h3:x≠n:=fun e=>hm (e ▸ hx);omega);omega
theorem nodup_map_inj{β:Type}(f:α->β):∀ l:List α,l.Nodup->(∀ x∈l,∀ y∈l,f x=f y->x=y)->(l.map f).Nodup:=by
 intro l;induction l with
 | nil=>intro _ _;simp
 | cons a l ih=>
  intro hn hf;rw[qce,qcq]at *;refine⟨fun h=>?_,ih hn.2 fun x hx y hy h=>hf x (by simp[hx]) y (by simp[hy]) h⟩;rw[qag]at h;obtain⟨b,hb,he⟩:=h;exact hn.1 (hf b (by simp[hb]) a sm he ▸ hb)
theorem yde{n v:Nat}{ls:List Lk}(hv:v < n)(h:yij n v ls=true):ls.length < n:=by
 unfold yij at h;rw[qad,decide_eq_true_eq,List.all_eq_true]at h;obtain⟨h1,h2⟩:=h;have hb:∀ x:Int,x∈ls.map (·.1)->0<=x/\x < n/\x≠v:=by
  intro x hx;rw[qag]at hx;obtain⟨l,hl,rfl⟩:=hx;have:=(ybv n v l).1 (h1 l hl);exact⟨this.1,this.2.1,this.2.2.1⟩
 have h3:((ls.map (·.1)).map Int.toNat).Nodup:=nodup_map_inj Int.toNat _ h2 fun x hx y hy he=>by
  have hx':=hb x hx;have hy':=hb y hy;omega
 have h4:=zre n (v::(ls.map (·.1)).map Int.toNat) (by
  rw[qcq]
  refine⟨fun hm=>?_,h3⟩
  rw[qag]at hm
  obtain⟨x,hx,he⟩:=hm
  have:=hb x hx
  omega) (fun x hx=>by
   rcases qaq.1 hx with rfl|hx
   .exact hv
   rw[qag]at hx
   obtain⟨y,hy,rfl⟩:=hx
   have:=hb y hy
   omega)
 simp at h4;omega
theorem ybe{g:GraphD}(h:ycf g=true):1<=g.ports.length/\g.ports.length<=24/\g.ids.length=g.ports.length/\(∀ x∈g.ids,0<=x/\x<=255)/\g.ids.Nodup /\
  (∀ (v:Nat) (ls:List Lk),g.ports[v]?=some ls->yij g.ports.length v ls=true)/\(∀ (v:Nat) (ls:List Lk),g.ports[v]?=some ls->∀ l∈ls,ygu (g.ports.getD l.1.toNat []) v=l.2):=by
 unfold ycf at h;simp only[qad,decide_eq_true_eq]at h;obtain⟨h1,h2,h3,h4,h5,h6⟩:=h;unfold zsr at h4;simp only[qad,decide_eq_true_eq,List.all_eq_true,idB]at h4;refine⟨h1,h2,h3,h4.1,h4.2,fun v ls hv=>?_,fun v ls hv l hl=>?_⟩
 .have hlt:=(qaa.1 hv).1;have:=List.all_eq_true.1 h5 v (qbt.2 hlt);rw[qac,hv]at this;exact this
 have hlt:=(qaa.1 hv).1;have:=List.all_eq_true.1 h6 v (qbt.2 hlt);rw[qac,hv]at this;have:=List.all_eq_true.1 this l hl;simpa using this
end
variable{l:List Lk}
section
theorem zlo{l:List Int}{x:Int}(hx:l[k]?=some x)(h:idB x=false):zsr l=false:=by
 unfold zsr;rw[qcm.2 ⟨x,qab hx,by simp[h]⟩];rfl
theorem zit{l:List Int}{x:Int}(hx:l[k]?=some x)(h:x∈l.take k):zsr l=false:=by
 unfold zsr;have:¬ l.Nodup:=by
  intro hn;obtain⟨j,hj⟩:=qao h;rw[qbc]at hj;split at hj
  .rename_i hjk;have h1:=qaa.1 hj;have h2:=qaa.1 hx;have:=(qdo.1 hn) j k h1.1 h2.1 hjk;rw[h1.2,h2.2]at this;exact this rfl
  cases hj
 simp[this]
theorem idsB_iff(l:List Int):zsr l=true<->(∀ x∈l,idB x=true)/\l.Nodup:=by
 unfold zsr;rw[qad,decide_eq_true_eq,List.all_eq_true]
theorem yhj{l:List α}{x:α}(hx:l[k]?=some x):l.take (k+1)=l.take k++[x]:=by
 rw[qfn,hx];rfl
theorem zpy{l:List Int}{x:Int}(hx:l[k]?=some x)(h:zsr (l.take k)=true)(h1:idB x=true)(h2:x ∉ l.take k):zsr (l.take (k+1))=true:=by
 rw[idsB_iff]at *;rw[yhj hx];refine⟨fun y hy=>?_,?_⟩
 .rcases qat.1 hy with hy|hy
  .exact h.1 y hy
  simp at hy;subst hy;exact h1
 rw[qdl];exact⟨h.2,sm,fun a ha b hb=>by simp at hb;subst hb;exact fun e=>h2 (e ▸ ha)⟩
def yve(l:List Int):List Bool:=(List.range 256).map fun i:Nat=>decide ((i:Int)∈l)
theorem bits_nil:yve []=List.replicate 256 false:=by
 unfold yve;rw[show (fun i:Nat=>decide ((i:Int)∈([]:List Int)))=fun _=>false from by funext i;simp,List.map_const',qds]
theorem bits_len(l:List Int):(yve l).length=256:=by simp[yve]
theorem bits_get(l:List Int)(x:Int)(h0:0<=x)(h1:x<=255):(yve l)[x.toNat]?=some (decide (x∈l)):=by
 unfold yve;rw[qak,qcf om];have:((x.toNat:Nat):Int)=x:=by omega
 simp[this]
theorem bits_set(l:List Int)(x:Int)(h0:0<=x)(h1:x<=255):(yve l).set x.toNat true=yve (l++[x]):=by
 apply List.ext_getElem
 .simp [yve]
 intro i h2 h3;have hx:((x.toNat:Nat):Int)=x:=by omega
 rw[List.getElem_set];unfold yve;simp only[List.getElem_map,List.getElem_range,qat,qau];by_cases hi:x.toNat=i
 .subst hi;simp[hx]
 have:¬ ((i:Nat):Int)=x:=by omega
 simp[hi,this]
end
section
variable{n:Nat}
theorem ycq(n v:Nat)(l:List Lk):yij n v l=true<->(∀ x∈l,zqh n v x=true)/\(l.map (·.1)).Nodup:=by
 unfold yij;rw[qad,decide_eq_true_eq,List.all_eq_true]
theorem yic{v:Nat}{x:Lk}(hx:l[k]?=some x)(h:zqh n v x=false):yij n v l=false:=by
 rw[<- qbv,ycq];intro h1;rw[h1.1 x (qab hx)]at h;cases h
theorem zae{v:Nat}{x y:Lk}(hjk:j < k)(hy:l[j]?=some y)(hx:l[k]?=some x)(h:y.1=x.1):yij n v l=false:=by
 rw[<- qbv,ycq];intro h1;have g1:=qaa.1 hy;have g2:=qaa.1 hx;have:=(qdo.1 h1.2) j k (by simpa using g1.1) (by simpa using g2.1) hjk;simp[g1.2,g2.2,h]at this
theorem zei{v:Nat}{x:Lk}(hx:l[k]?=some x)(h:yij n v (l.take k)=true)(h1:zqh n v x=true)(h2:∀ (j:Nat) (y:Lk),j < k->l[j]?=some y->y.1≠x.1):yij n v (l.take (k+1))=true:=by
 rw[ycq]at *;rw[yhj hx];refine⟨fun y hy=>?_,?_⟩
 .rcases qat.1 hy with hy|hy
  .exact h.1 y hy
  simp at hy;subst hy;exact h1
 rw[qbz,qdl];refine⟨h.2,sm,fun a ha b hb=>?_⟩;simp at hb;subst hb;obtain⟨y,hy,rfl⟩:=qag.1 ha;obtain⟨j,hj⟩:=qao hy;rw[qbc]at hj;split at hj
 .rename_i hjk;exact h2 j y hjk hj
 cases hj
def ykd(l:List Lk)(u:Int):Int:=match l.findIdx? (fun x=>x.1 == u)with|some i=>i|none=>-1
theorem zfd(h:∀ (j:Nat) (y:Lk),l[j]?=some y->y.1≠u):ykd l u=-1:=by
 unfold ykd;have:l.findIdx? (fun x=>x.1 == u)=none:=by
  rw[List.findIdx?_eq_none_iff];intro x hx;obtain⟨j,hj⟩:=qao hx;simpa using h j x hj
 rw[this]
theorem zfe{x:Lk}(hx:l[k]?=some x)(hu:x.1=u)(h:∀ (j:Nat) (y:Lk),j < k->l[j]?=some y->y.1≠u):ykd l u=k:=by
 unfold ykd;have:l.findIdx? (fun x=>x.1 == u)=some k:=by
  rw[List.findIdx?_eq_some_iff_getElem];have g:=qaa.1 hx;refine⟨g.1,by simp[g.2,hu],fun j hj=>?_⟩;have hjl:j < l.length:=by have:=g.1;omega
  have:=h j l[j] hj (qae hjl);simpa using this
 rw[this]
theorem yqx(l:List Lk)(u:Int):(ykd l u=-1/\∀ x∈l,x.1≠u)\/∃ (k:Nat) (x:Lk),ykd l u=k/\l[k]?=some x/\x.1=u/\l.find? (fun x=>x.1 == u)=some x:=by
 unfold ykd;cases hf:l.findIdx? (fun x=>x.1 == u)with
 | none=>
  rw[List.findIdx?_eq_none_iff]at hf;exact .inl ⟨rfl,fun x hx=>by simpa using hf x hx⟩
 | some k=>
  obtain⟨h1,h2,h3⟩:=List.findIdx?_eq_some_iff_getElem.1 hf;refine .inr ⟨k,l[k],rfl,qae h1,by simpa using h2,?_⟩;rw[List.find?_eq_some_iff_getElem];exact⟨h2,k,h1,rfl,fun j hj=>by simpa using h3 j hj⟩
theorem zgn(h:∀ x∈l,x.1≠u):ygu l u=0:=by
 unfold ygu;have:l.find? (fun x=>x.1 == u)=none:=by
  rw[qes];intro x hx;simpa using h x hx
 rw[this]
theorem zgo{x:Lk}(h:l.find? (fun x=>x.1 == u)=some x):ygu l u=x.2:=by unfold ygu;rw[h]
theorem yli(g:GraphD):ycf g=true<->1<=g.ports.length/\g.ports.length<=24/\g.ids.length=g.ports.length/\zsr g.ids=true/\zff g.ports=true/\xld g.ports=true:=by
 unfold ycf;simp only[qad,decide_eq_true_eq]
theorem yjj(ports:List (List Lk)):zff ports=true<->∀ (v:Nat) (ls:List Lk),ports[v]?=some ls->yij ports.length v ls=true:=by
 unfold zff;rw[List.all_eq_true];constructor
 .intro h v ls hv;have:=h v (qbt.2 (qaa.1 hv).1)
  rwa [qac,hv]at this
 intro h v hv;obtain⟨ls,hls⟩:∃ ls,ports[v]?=some ls:=⟨_,qae (qbt.1 hv)⟩;rw[qac,hls];exact h v ls hls
theorem zcm(ports:List (List Lk)):xld ports=true<->∀ (v:Nat) (ls:List Lk),ports[v]?=some ls->∀ l∈ls,ygu (ports.getD l.1.toNat []) v=l.2:=by
 unfold xld;rw[List.all_eq_true];constructor
 .intro h v ls hv l hl;have:=h v (qbt.2 (qaa.1 hv).1);rw[qac,hv]at this;simpa using List.all_eq_true.1 this l hl
 intro h v hv;obtain⟨ls,hls⟩:∃ ls,ports[v]?=some ls:=⟨_,qae (qbt.1 hv)⟩;rw[qac,hls];rw[qbu,List.all_eq_true];intro l hl;simpa using h v ls hls l hl
end
section
open Go.RowKit
def yai(l:List Int):AV:=.sl 1 (l.map fun z=>[i64 z])
def yfh(l:Lk):List AV:=[i64 l.1,i64 l.2]
def ykr(l:List Lk):AV:=.sl 2 (l.map yfh)
def yaq(l:List (List Lk)):AV:=.sl 1 (l.map fun x=>[ykr x])
def yev(g:GraphD):AV:=.agg [yai g.ids,yaq g.ports]
def ycj(c:List (List Int)):AV:=.sl 1 (c.map fun x=>[yai x])
def okW(w:World)(g:Nat):Prop:=g < w.heap.size
theorem zfn{ok:Nat->Prop}{w:World}{lv:Live}{a b:AV}{cs:List Value}(h:ybn ok w lv [a,b] cs):∃ u v,cs=[u,v]/\Rel ok w lv a u/\Rel ok w lv b v:=by
 match cs,h with
 | [u,v],h=>exact⟨u,v,rfl,h.2 0 _ _ rfl rfl,h.2 1 _ _ rfl rfl⟩
theorem ymp{f:FuncId}{args:List AV}{x:Value}(hb:ylj P f)(h:∀ (w:World) (us:List Value) (ok:Nat->Prop),(∀ g,ok g->g < w.heap.size)->ybn ok w (fun _=>none) args us->Calls P f us.toArray w fun e w'=>e=.returned x/\Below w.heap.size w w'):Con P f args (.v x):=
 ⟨hb,rfl,fun ok0 w us _ hok hr=>(h w us ok0 hok hr).mono fun e w' ⟨h1,h2⟩=>⟨x,h1,.v x,h2⟩⟩
end
set_option maxHeartbeats 8000000
section
open Go.RowKit
def yiv(p:Int × Int):List AV:=[i64 p.1,i64 p.2]
def yeh(tbl:List (List (Int × Int))):AV:=.sl 1 (tbl.map fun r=>[.sl 2 (r.map yiv)])
def ygd:AV:=.v (.slice none 0 0)
theorem zym(x:AV)(n:Nat):ykx n [x]=List.replicate n x:=by
 induction n with
 | zero=>rfl
 | succ n ih=>simp[ykx,ih,qbq]
def ykm(tbl:List (List (Int × Int)))(val:Nat->Nat->Int):List (List AV):=tbl.mapIdx fun i r=>(List.range r.length).map fun j=>i64 (val i j)
theorem zhr{tbl:List (List (Int × Int))}{val:Nat->Nat->Int}{r:List (Int × Int)}(h:tbl[i]?=some r):(ykm tbl val)[i]?=some ((List.range r.length).map fun j=>i64 (val i j)):=by
 simp[ykm,h]
theorem yao{l:List α}{x:α}(h:l[i]?=some x):l.take (i+1)=l.take i++[x]:=by
 rw[qfn,h];rfl
theorem zyu{l:List α}{m:Nat}{x z:α}(hl:l.length=m)(h:l[j]?=some x):(l.take j++List.replicate (m - j) z).set j x=l.take (j+1)++List.replicate (m - (j+1)) z:=by
 have hj:=(qaa.1 h).1;have e:(l.take j).length=j:=by rw[qcj];omega
 rw[qbo _ _ (Nat.le_of_eq e),e,qbm,show m - j=(m - (j+1))+1 by omega,qbq,yao h];simp
theorem zyv{l:List α}{x y:α}(h:l.length=k):(l++[x]).set k y=l++[y]:=by
 rw[qbo _ _ (Nat.le_of_eq h),h,qbm];rfl
theorem build_con(tbl:List (List (Int × Int)))(F:Nat)(caps:List AV)(val:Nat->Nat->Int)(hcaps:yas.pureL caps=true)(hlow:yps.lowL caps=true)(hn:tbl.length<=1000)(hm:∀ r∈tbl,r.length<=1000)(hF:∀ (i j:Nat) (r:List (Int × Int)),tbl[i]?=some r->j < r.length->Con prog F ([i64 i,i64 j]++caps) (i64 (val i j))) :
  ytb prog 121 [yeh tbl,.fn F caps] (fun _=>none) (.ls 10 1 tbl.length) (yac (ybz 10 1 (ykm tbl val) [])):=by
 refine zdi tok Tryz.func121 rfl rfl ntmps121 Tryz.results121 rfl rfl ?_
 (repeat (first|refine zy ?_|refine yph tok rfl rfl rfl rfl co (by simp[ydl,ment,yfj,yeh,yas.pureL.ment hcaps]) rfl rfl rfl rfl ?_))
 refine ytu 10 (List.replicate tbl.length ygd) rfl (zym _ _) ?_;refine ybw (α:=Nat) (fun k=>[(13,i64 k),(12,i64 tbl.length),(5,.ls 10 1 tbl.length),(0,yeh tbl),(1,.fn F caps)]) (fun k=>ybz 10 1 ((ykm tbl val).take k) (List.replicate (tbl.length - k) ygd)) (fun k=>tbl.length - k) (fun k=>k<=tbl.length) 0 om zs (hsE (by simp only[ybz,yfe,ypl,qet,qcw,qhh];exact yhg)) ?_;intro k hk;refine zY ?_;refine zj ?_ ?_ <;> intro h
 .simp at h;obtain⟨r,hr⟩:=ybk (show k < tbl.length by omega);refine zY ?_;have hrm:=hm r (qab hr);have hrow:=zhr (val:=val) hr;have hlen:(ykm tbl val).length=tbl.length:=by simp[ykm]
  have htk:((ykm tbl val).take k).length=k:=by rw[qcj,hlen];omega
  refine xbl tok (fam 10 k) rfl rfl rfl rfl co (yqn (f:=[]) (by simp[xfj,yps,yeh,i64,hlow];rfl) rfl rfl htk.symm (zlx ygd rfl _)) rfl rfl rfl ?_;refine yat tok rfl rfl (by rw[yap (ydg om)];exact ybo (f:=[]) rfl) rfl om om rfl rfl ?_;refine yon tok rfl rfl rfl rfl rfl (by rw[yap (ydg om)];exact ybo (f:=[]) rfl) (by rw[qan,ydz,htk,qdw];simp;omega) rfl rfl ?_;refine xfm (h':=ybz 10 1 ((ykm tbl val).take k++[List.replicate r.length (i64 0)]) (List.replicate (tbl.length - k - 1) ygd)) ?_ ?_
  .have hrep:ykx r.length (yhw [Value.int .i64 0])=List.replicate r.length (i64 0):=zym _ _;have hex:List.replicate (tbl.length - k) ygd=ygd::List.replicate (tbl.length - k - 1) ygd:=by rw[<- qbq];congr 1;omega
   rw[show ((k:Int).toNat * 1)=k by simp];exact ztv (f:=[]) (a:=ygd) rfl rfl rfl htk.symm (by rw[hrep];simp) hex (by rw[hrep])
  refine zY ?_;refine ybw (α:=Nat) (fun j=>[(30,i64 j),(29,i64 r.length),(6,i64 k),(13,i64 k),(12,i64 tbl.length),(5,.ls 10 1 tbl.length),(0,yeh tbl),(1,.fn F caps)]) (fun j=>ybz 10 1 ((ykm tbl val).take k++[((List.range r.length).map fun j=>i64 (val k j)).take j++List.replicate (r.length - j) (i64 0)]) (List.replicate (tbl.length - k - 1) ygd)) (fun j=>r.length - j) (fun j=>j<=r.length) 0 om zs (hsE sm) ?_;intro j hj;refine zY ?_;refine zj ?_ ?_ <;> intro h2
  .simp at h2;have hpart:((ykm tbl val).take k++[((List.range r.length).map fun j=>i64 (val k j)).take j++List.replicate (r.length - j) (i64 0)])[k]?=some (((List.range r.length).map fun j=>i64 (val k j)).take j++List.replicate (r.length - j) (i64 0)):=by
    rw[qah om,htk,qbm];rfl
   have hpl:(((List.range r.length).map fun j=>i64 (val k j)).take j++List.replicate (r.length - j) (i64 0)).length=r.length:=by simp;omega
   refine zY ?_;refine yat tok rfl rfl (ybo (f:=[]) rfl) rfl om om rfl rfl ?_;refine ydp (r:=.ls (fam 10 k) 1 r.length) tok rfl rfl rfl (by rw[yfn];exact yfg _) ?_ rfl rfl ?_
   .rw [show ((k:Int).toNat * 1)=k by simp,qam (by rw[ydz];simp;omega),yej,hpart];simp only[qav,hpl,Nat.div_one,qay]
   refine zY ?_;refine zc (hF k j r hr om) ?_;refine yat tok rfl rfl (ylx (f:=[]) rfl om hpart) rfl om om rfl rfl ?_;refine ygo (h':=ybz 10 1 ((ykm tbl val).take k++[((List.range r.length).map fun j=>i64 (val k j)).take (j+1)++List.replicate (r.length - (j+1)) (i64 0)]) (List.replicate (tbl.length - k - 1) ygd)) tok rfl rfl rfl rfl rfl (ylx (f:=[]) rfl om hpart) (by rw[hpl];simp;omega) rfl ?_ rfl rfl ?_
   .rw [show ((j:Int).toNat * 1)=j by simp,zyu sm (show ((List.range r.length).map fun j=>i64 (val k j))[j]?=some (i64 (val k j)) by rw[qak,qcf om];rfl)];refine(zmb (f:=[]) rfl om hpart so).trans ?_;rw[zyv htk];rfl
   refine zY ?_;refine yhi (j+1) om om zs (fun id o h=>h)
  simp at h2;obtain rfl:j=r.length:=by omega
  refine zY ?_;refine yhi (k+1) om om zs (hsE ?_);rw[yao hrow];simp[qal,Nat.sub_sub]
 simp at h;obtain rfl:k=tbl.length:=by omega
 refine zY ?_;refine yqa ⟨_,rfl,yhx _,fun id o ho=>?_⟩;have:(ykm tbl val).take tbl.length=ykm tbl val:=qal (by simp[ykm]);rw[<- this]at ho;simpa[S]using ho
def yek(c:List (List Int)):List (List AV):=c.map fun r=>r.map i64
theorem ydo(r:List Int):(r.map fun x=>[i64 x]).flatten=r.map i64:=by
 induction r with
 | nil=>rfl
 | cons x r ih=>simp[ih]
theorem zwe(c:List (List Int))(hn:c.length<=1000)(hm:∀ r∈c,r.length<=1000):ytb prog 53 [ycj c] (fun _=>none) (.ls 8 1 c.length) (yac (ybz 8 1 (yek c) [])):=by
 refine zdi tok Tryz.func53 rfl rfl ntmps53 Tryz.results53 rfl rfl ?_
 (repeat (first|refine zy ?_|refine yph tok rfl rfl rfl rfl co rfl rfl rfl rfl rfl ?_))
 refine ytu 8 (List.replicate c.length ygd) rfl (zym _ _) ?_;refine ybw (α:=Nat) (fun k=>[(11,i64 k),(10,i64 c.length),(9,ycj c),(3,.ls 8 1 c.length)]) (fun k=>ybz 8 1 (yek (c.take k)) (List.replicate (c.length - k) ygd)) (fun k=>c.length - k) (fun k=>k<=c.length) 0 om zs (hsE (by simp only[ybz,yfe,ypl,qet,qcw,qhh,yek,qex];exact yhg)) ?_;intro k hk;refine zY ?_;refine zj ?_ ?_ <;> intro h
 .simp at h;obtain⟨r,hr⟩:=ybk (show k < c.length by omega);have hrm:=hm r (qab hr);have htk:(yek (c.take k)).length=k:=by simp[yek];omega
  refine zY ?_;refine yzo tok (fam 8 k) rfl rfl rfl (by intro c hc;rw[ydo]at hc;obtain⟨x,_,rfl⟩:=qag.1 hc;rfl) (by constructor <;> simp <;> omega) (yqn (f:=[]) rfl rfl rfl htk.symm (zlx ygd rfl _)) rfl rfl rfl ?_;refine yat tok rfl rfl (by rw[yap (ydg om)];exact yfn) rfl om om rfl rfl ?_;refine yon tok rfl rfl rfl rfl rfl (by rw[yap (ydg om)];exact yfn) (by rw[qan,ydz,htk,qdw];simp;omega) rfl rfl ?_;refine xfm (h':=ybz 8 1 (yek (c.take (k+1))) (List.replicate (c.length - (k+1)) ygd)) ?_ ?_
  .have hex:List.replicate (c.length - k) ygd=ygd::List.replicate (c.length - (k+1)) ygd:=by rw[<- qbq];congr 1;omega
   rw[show ((k:Int).toNat * 1)=k by simp,ydo];exact ztv (f:=[]) (a:=ygd) rfl rfl rfl htk.symm sm hex (by rw[yao hr];simp[yek])
  refine zY ?_;refine yhi (k+1) om om zs (fun id o h=>h)
 simp at h;obtain rfl:k=c.length:=by omega
 refine zY ?_;refine yqa ⟨_,rfl,yhx _,fun id o ho=>?_⟩;rw[<- qaw (l:=c)]at ho;simpa[S]using ho
end
end Go.Proofs.YtgpodcjhgdionaaGreatDoor
