/- Part 12 of the texts under TopWorstIsPlayed. -/
import Derived.WalkKit
import Derived.Laws.Bits64b
import Derived.Test.YtgpodcjhgdionaaGreatDoorCW5
import Derived.Test.YtgpodcjhgdionaaGreatDoorCW6
import Derived.Test.YtgpodcjhgdionaaGreatDoorCW8
import Derived.Test.YtgpodcjhgdionaaGreatDoorCW9
import Derived.Test.YtgpodcjhgdionaaGreatDoorCW10
import Derived.Test.YtgpodcjhgdionaaGreatDoorCW11
set_option linter.unusedVariables false
set_option maxRecDepth 100000
set_option maxHeartbeats 8000000
namespace Go.Proofs.YtgpodcjhgdionaaGreatDoor
open Go.Proofs.Tryz
variable{c:List (List Int)}{g:GraphD}{B e set x s:BitVec 32}{p:ProgD}{k id i v n u:Nat}{h:Nat->Option LObj}{tbl:List (List (Int × Int))}{kind:Int}{Q:Exit->SS->Prop}
section
open Go.RowKit
structure CntD where
 steps:Int
 moves:Int
 rounds:Int
 begun:Int
 pend:BitVec 32
def zzx:BitVec 32:=16777215#32
def yfi(k:CntD):List AV:=[i64 k.steps,i64 k.moves,i64 k.rounds,i64 k.begun,yav k.pend]
def ymn(e:BitVec 32):CntD:=⟨0,0,0,0,e &&& zzx⟩
def zgq(k:CntD)(ch af:BitVec 32):CntD:=
 if k.pend &&& ~~~ch &&& af=0#32 then⟨k.steps+1,k.moves+zak ch,k.rounds+1,k.rounds+1,af⟩else⟨k.steps+1,k.moves+zak ch,k.rounds,k.rounds+1,k.pend &&& ~~~ch &&& af⟩
def InM(B:BitVec 32):Prop:=B &&& ~~~zzx=0#32
structure CntOk (k:CntD):Prop where
 s0:0<=k.steps
 s1:k.steps<=4096
 r0:0<=k.rounds
 r1:k.rounds<=k.begun
 b1:k.begun<=k.steps
 b2:k.begun<=k.rounds+1
 m0:k.steps<=k.moves
 m1:k.moves<=24 * k.steps
 pend:InM k.pend
theorem zeb(h:InM B)(hi:24<=i):B.getLsbD i=false:=by
 rcases qbh i 32 with h9|h9
 .have:=congrArg (fun X=>BitVec.getLsbD X i) h;simp only[qbi,qcy,qbs]at this;have e:zzx.getLsbD i=false:=by
   have:∀ j:Fin 8,zzx.getLsbD (24+j.val)=false:=by decide
   have:=this ⟨i - 24,om⟩
   rwa [show 24+(i - 24)=i by omega]at this
  rw[e]at this;simpa[h9]using this
 exact qcg _ _ h9
theorem yvs(h:∀ i,24<=i->B.getLsbD i=false):InM B:=by
 apply qbr;intro i hi;rw[qbi,qcy,qbs];rcases qbh i 24 with h9|h9
 .have:∀ j:Fin 24,zzx.getLsbD j.val=true:=by decide
  rw[this ⟨i,h9⟩];simp
 rw[h i h9];simp
theorem xja(h:InM B):zak B<=24:=by
 have e:zak B=ypb B.getLsbD 24+ypb (fun i=>B.getLsbD (24+i)) 8:=ywp _ 24 8;have e2:ypb (fun i=>B.getLsbD (24+i)) 8=0:=by
  unfold ypb;rw[List.filter_eq_nil_iff.2 (fun i _=>by simp[zeb h (show 24<=24+i by omega)])];rfl
 have:=zmp B.getLsbD 24;omega
theorem zuf(h:B≠0#32):1<=zak B:=by
 rcases qfv (zak B)with h0|h0
 .exfalso;refine h (qbr fun i hi=>?_);rw[qbs];have:=List.filter_eq_nil_iff.1 (qax h0) i (qbt.2 hi);simpa using this
 exact h0
theorem xgo{k:CntD}(h:CntOk k)(h4:k.steps < 4096){ch af:BitVec 32}(hc:ch≠0#32)(h1:InM ch)(h2:InM af):CntOk (zgq k ch af):=by
 have p1:=zuf hc;have p2:=xja h1;obtain⟨a1,a2,a3,a4,a5,a6,a7,a8,a9⟩:=h;unfold zgq;split
 .exact ⟨by simp only;omega,by simp only;omega,by simp only;omega,by simp only;omega,by simp only;omega,by simp only;omega,by simp only;omega,by simp only;omega,h2⟩
 refine⟨by simp only;omega,by simp only;omega,by simp only;omega,by simp only;omega,by simp only;omega,by simp only;omega,by simp only;omega,by simp only;omega,yvs fun i hi=>?_⟩;rw[qbi,qbi,zeb a9 hi];simp
theorem zvv:CntOk (ymn e):=⟨by simp[ymn],by simp[ymn],by simp[ymn],by simp[ymn],by simp[ymn],by simp[ymn],by simp[ymn],by simp[ymn],yvs fun i hi=>by
 simp only[ymn]
 rw[qbi,zeb (B:=zzx) (by unfold InM zzx;decide) hi,qci]⟩
theorem begin_con(e:BitVec 32):Con prog 152 [yav e] (.agg (yfi (ymn e))):=by
 refine ycx tok Tryz.func152 rfl rfl ntmps152 Tryz.results152 rfl rfl ?_
 (repeat (first|refine znv (C:=zzx) rfl rfl rfl rfl ?_|refine z1 ?_|fail))
 exact zp
def ydh(l:List (BitVec 32)):AV:=.sl 1 (l.map fun B=>[yav B])
theorem zal(l:List (BitVec 32))(hl:l.length<=1000)(h:∀ B∈l,InM B):Con prog 208 [ydh l] (yau true):=by
 refine ze Tryz.func208 ntmps208 Tryz.results208 ?_;refine zY ?_;refine ybj (α:=Nat) (fun k=>[(7,i64 k),(6,i64 l.length),(5,ydh l)]) (fun k=>[]) (fun k=>l.length - k) (fun k=>k<=l.length) 0 om zs yag ?_;intro k hk;refine zY ?_;refine zj ?_ ?_ <;> intro h1
 .simp at h1;obtain⟨B,hB⟩:=ybk h1;have hm:=h B (qab hB)
  (repeat (first|refine zct (C:=zzx) rfl rfl rfl rfl ?_|refine z1 ?_|fail))
  refine zj ?_ ?_ <;> intro h2
  .rw [ydd,hm]at h2;simp at h2
  refine zY ?_;exact rnd (k+1) om om zs yag
 simp at h1;obtain rfl:k=l.length:=by omega
 exact zkp
theorem avalid_con(k:CntD)(h:CntOk k):Con prog 207 [.agg (yfi k)] (yau true):=by
 obtain⟨a1,a2,a3,a4,a5,a6,a7,a8,a9⟩:=h;have hp:=zal [k.pend] sm (by simp[a9]);refine ze Tryz.func207 ntmps207 Tryz.results207 ?_;refine zY ?_;refine yaj 6 rfl (fun h1=>?_) (fun h1=>?_)
 .simp at h1;omega
 refine zY ?_;refine yaj 11 rfl (fun h2=>?_) (fun h2=>?_)
 .simp at h2;omega
 refine zY ?_;refine yaj 16 rfl (fun h3=>?_) (fun h3=>?_)
 .simp at h3;omega
 refine zY ?_;refine yaj 23 rfl (fun h4=>?_) (fun h4=>?_)
 .simp at h4;omega
 refine zY ?_;refine zj ?_ ?_ <;> intro h5
 .simp at h5;omega
 refine zY ?_;refine zj ?_ ?_ <;> intro h6
 .simp at h6;omega
 refine zY ?_;refine yaj 41 rfl (fun h7=>?_) (fun h7=>?_)
 .refine zY ?_;refine yaj 49 rfl (fun h8=>?_) (fun h8=>?_)
  .refine zZ ?_;exact zp
  simp at h8;omega
 simp at h7;omega
theorem add_con(k:CntD)(h:CntOk k)(h4:k.steps < 4096){ch af:BitVec 32}(hc:ch≠0#32)(h1:InM ch)(h2:InM af):Con prog 155 [.agg (yfi k),yav ch,yav af] (.tup [.agg (yfi (zgq k ch af)),i64 0]):=by
 have hv:=avalid_con k h;have hp:=zal [ch,af] sm (by simp[h1,h2]);have p1:=zuf hc;have p2:=xja h1;obtain⟨a1,a2,a3,a4,a5,a6,a7,a8,a9⟩:=h;refine ycx tok Tryz.func155 rfl rfl ntmps155 Tryz.results155 rfl rfl ?_;refine zZ ?_;refine yaj 14 rfl (fun q1=>?_) (fun q1=>?_)
 .rw [yct]at q1;exact absurd (by simpa using q1) hc
 refine zZ ?_;refine zj ?_ ?_ <;> intro q2
 .simp at q2;omega
 (repeat (first|refine zb ?_|refine zc (zmj ch) ?_))
 refine zj ?_ ?_ <;> intro q3
 .rw [yct]at q3;have e:zgq k ch af=⟨k.steps+1,k.moves+zak ch,k.rounds+1,k.rounds+1,af⟩:=by unfold zgq;rw[if_pos (by simpa using q3)]
  rw[e];exact zkp
 rw[yct]at q3;have e:zgq k ch af=⟨k.steps+1,k.moves+zak ch,k.rounds,k.rounds+1,k.pend &&& ~~~ch &&& af⟩:=by unfold zgq;rw[if_neg (by simpa using q3)]
 rw[e];exact zkp
end
section
open Go.RowKit
def zua(ls:List Lk):BitVec 32:=ls.foldl (fun B l=>B ||| (1#32 <<< l.1.toNat)) 0#32
def ywh(g:GraphD):List (BitVec 32):=g.ports.map zua
def yyu(g:GraphD):AV:=ydh (ywh g)
def xag(g:GraphD)(k:Nat)(B:BitVec 32):List (BitVec 32):=(ywh g).take k++B::List.replicate (g.ports.length - k - 1) 0#32
def xga(g:GraphD)(k:Nat):List (BitVec 32):=(ywh g).take k++List.replicate (g.ports.length - k) 0#32
theorem ywi:(ywh g).length=g.ports.length:=by simp[ywh]
theorem netK_zero(h:k < g.ports.length):xga g k=xag g k 0#32:=by
 unfold xga xag;rw[show g.ports.length - k=(g.ports.length - k - 1)+1 by omega,qbq];simp
theorem ywj(h:k < g.ports.length):((ywh g).take k).length=k:=by simp[ywh];omega
theorem netK_at(h:k < g.ports.length):(xag g k B)[k]?=some B:=by
 unfold xag;rw[qah (by rw[ywj h];omega),ywj h,qbm];rfl
theorem netK_len(h:k < g.ports.length):(xag g k B).length=g.ports.length:=by
 unfold xag;rw[qan,ywj h,qaj,qdw];omega
theorem netK_set{C:BitVec 32}(h:k < g.ports.length):(xag g k B).set k C=xag g k C:=by
 unfold xag;rw[qbo _ _ (by rw[ywj h];omega),ywj h,qbm,qer]
theorem netK_end{ls:List Lk}(hls:g.ports[k]?=some ls):xag g k (zua ls)=xga g (k+1):=by
 unfold xag xga;have e:(ywh g)[k]?=some (zua ls):=by simp[ywh,hls]
 rw[yao e];simp[Nat.sub_sub]
theorem netV_snoc{ls:List Lk}{j:Nat}{l:Lk}(h:ls[j]?=some l):zua (ls.take (j+1))=zua (ls.take j) ||| (1#32 <<< l.1.toNat):=by
 unfold zua;rw[yao h,qcx];rfl
theorem zjj(g:GraphD)(hg:ycf g=true):Con prog 86 [yev g] (yyu g):=by
 have hv:=ybe hg;refine ze Tryz.func86 ntmps86 Tryz.results86 ?_
 (repeat (first|refine zy ?_|refine yph tok rfl rfl rfl rfl co rfl rfl rfl rfl rfl ?_))
 refine ybw (α:=Nat) (fun k=>[(15,i64 k),(14,i64 g.ports.length),(13,yaq g.ports),(3,.ls 11 1 g.ports.length)]) (fun k=>[(11,some (.vec ((xga g k).map yav)))]) (fun k=>g.ports.length - k) (fun k=>k<=g.ports.length) 0 om zs ?_ ?_
 .refine yah (yab ?_ yag);show some _=some _;congr 2;rw[show yhw [Value.int .u32 0]=[yav 0#32] from rfl,zym];simp[xga]
 intro k hk;refine zY ?_;refine zj ?_ ?_ <;> intro h1
 .simp at h1;obtain⟨ls,hls⟩:=ybk h1;have hlb:=hv.2.2.2.2.2.1 k ls hls;have hll:=yde h1 hlb;refine zY ?_;refine ybw (α:=Nat) (fun j=>[(22,i64 j),(21,i64 ls.length),(20,ykr ls),(4,i64 k),(15,i64 k),(14,i64 g.ports.length),(13,yaq g.ports),(3,.ls 11 1 g.ports.length)]) (fun j=>[(11,some (.vec ((xag g k (zua (ls.take j))).map yav)))]) (fun j=>ls.length - j) (fun j=>j<=ls.length) 0 om zs (hsE (by rw[netK_zero h1];rfl)) ?_;intro j hj;refine zY ?_;refine zj ?_ ?_ <;> intro h2
  .simp at h2;obtain⟨l,hl⟩:=ybk h2;have hl1:=(ybv _ _ _).1 (((ycq _ _ _).1 hlb).1 l (qab hl));have hat:=netK_at (B:=zua (ls.take j)) h1;refine zY ?_;refine yat tok rfl rfl rfl rfl om om rfl rfl ?_;refine ydp (r:=yav (zua (ls.take j))) tok rfl rfl rfl rfl (by rw[qak,show ((k:Int).toNat * 1)=k by simp,hat];rfl) rfl rfl ?_
   (repeat (first|refine zb ?_|refine yat tok rfl rfl rfl rfl om om rfl rfl ?_))
   refine ygo tok rfl rfl rfl rfl rfl rfl (by rw[qai,netK_len h1];omega) rfl (congrArg (fun z=>yac ((11,some (LObj.vec z))::_)) (show _=(xag g k (zua (ls.take (j+1)))).map yav by rw[netV_snoc hl,<- qdx,show ((k:Int).toNat * 1)=k by simp,netK_set h1])) rfl rfl ?_;refine zY ?_;exact yhi (j+1) om om zs (yah (yab rfl yag))
  simp at h2;obtain rfl:j=ls.length:=by omega
  refine zY ?_;exact yhi (k+1) om om zs (hsE (by rw[qaw,netK_end hls]))
 simp at h1;obtain rfl:k=g.ports.length:=by omega
 refine zk ?_;have e:xga g g.ports.length=ywh g:=by unfold xga;rw[qbm,qal (by rw[ywi];omega)];simp
 refine Frz.ls (rows:=(ywh g).map fun B=>[yav B]) (xs:=(ywh g).map yav) ?_ (by rw[qai,ywi]) (by intro r hr;obtain⟨z,_,rfl⟩:=qag.1 hr;rfl) (ydq _) (by intro x hx i;obtain⟨z,_,rfl⟩:=qag.1 hx;rfl);show some ((xga g g.ports.length).map yav)=_;rw[e]
theorem alld_con(g:GraphD)(hg:ycf g=true):Con prog 87 [yev g] (yav (xio g.ports.length)):=by
 have hv:=ybe hg;refine ze Tryz.func87 ntmps87 Tryz.results87 ?_
 (try refine zq ?_)
 refine zr ?_;rw[show xio g.ports.length=(1#32 <<< ((g.ids.length:Int)).toNat) - 1#32 by rw[hv.2.2.1,qcl];rfl];exact Frz.pure
theorem zic(kind:Int)(hk:1<=kind/\kind<=4):Con prog 66 [i64 kind] (yau true):=by
 refine ze Tryz.func66 ntmps66 Tryz.results66 ?_;refine zY ?_;refine yaj 5 rfl (fun h1=>?_) (fun h1=>?_)
 .refine zk ?_;exact yae so
 simp at h1;omega
def yvt(g:GraphD)(s:BitVec 32):Bool:=(List.range 24).all fun v=>!(s.getLsbD v) || (ywh g).getD v 0#32 &&& s == 0#32
def zce(g:GraphD)(kind:Int)(e s:BitVec 32):Bool:=!(s == 0#32) && (s &&& ~~~e == 0#32) && (if kind=1 then s &&& (s - 1#32) == 0#32 else if kind=2 then yvt g s else if kind=4 then s == e else true)
theorem yuq(g:GraphD)(kind:Int)(hk:1<=kind/\kind<=4)(e s:BitVec 32)(hi:kind=2->s &&& ~~~e=0#32->Con prog 206 [yyu g,yav s] (yau (yvt g s))):Con prog 153 [yyu g,i64 kind,yav e,yav s] (yau (zce g kind e s)):=by
 refine ze Tryz.func153 ntmps153 Tryz.results153 ?_;refine zY ?_;refine yaj 11 rfl (fun h1=>?_) (fun h1=>?_)
 .rw [yct]at h1;refine zk ?_;exact yae (by simp only[zce,h1];rfl)
 rw[yct]at h1
 (try refine zb ?_)
 refine zj ?_ ?_ <;> intro h2
 .rw [ydd]at h2;refine zk ?_;exact yae (by unfold zce;rw[show (s &&& ~~~e == 0#32)=false by simpa[bne]using h2];simp)
 rw[ydd]at h2;have h2:(s &&& ~~~e == 0#32)=true:=by simpa[bne]using h2
 have hbase:zce g kind e s=(if kind=1 then s &&& (s - 1#32) == 0#32 else if kind=2 then yvt g s else if kind=4 then s == e else true):=by
  unfold zce;rw[h1,h2];simp
 rw[hbase];have:kind=1\/kind=2\/kind=3\/kind=4:=by omega
 rcases this with rfl|rfl|rfl|rfl
 ·(try refine zq ?_)
  refine zr ?_;rw[yct];exact yae rfl
 ·(repeat (first|refine zy ?_|refine zc (hi rfl (by simpa using h2)) ?_))
  refine zr ?_;exact yae rfl
 .refine zk ?_;exact yae rfl
 refine zk ?_;rw[zuv];exact yae rfl
end
section
open Go.RowKit
section
variable{P:Program}{N:Nat}{t:List (Nat × AV)}{h:List (Nat × Option LObj)}
theorem Sim.freezeM{B:Bse}{ok0:Nat->Prop}{s:SS}{lv:Live}{a:Act}{w:World}(hs:Sim B ok0 N s lv a w){jb k id size len:Nat}{xs ys:List AV}{rows:List (List AV)}(hj:s.h jb=some (.mcells ys))(hk:ys[k]?=some (.ls id size len))(hx:s.h id=some (.vec xs))(hlen:rows.length=len)
  (hsize:∀ row∈rows,row.length=size) (hfl:rows.flatten=xs) {s':SS} (ht:∀ x y,s'.t x=some y->s.t x=some y) (hid:s'.h id=none) (hj':s'.h jb=some (.mcells (ys.set k (.sl size rows)))) (hh:∀ j ob,j≠jb->s'.h j=some ob->s.h j=some ob):∃ lv',Sim B ok0 N s' lv' a w:=by
 obtain⟨lv',h1,h2,h3,h4⟩:=hs.forg (s':=⟨s'.t,fun j=>if j=jb then some (.mcells ys)else s'.h j⟩) (fun x y hy=>.inr (ht x y hy)) (fun x y hy=>⟨y,ht x y hy⟩) (fun j ob hb=>by
  simp only at hb
  split at hb
  .rename_i e;subst e;cases hb;exact⟨_,hj,.inl rfl⟩
  rename_i e;exact⟨ob,hh j ob e hb,.inl rfl⟩)
 refine⟨lv',?_⟩;have hne:id≠jb:=by intro e;subst e;rw[hj']at hid;cases hid
 have hpure:∀ x∈xs,∀ i,ment i x=false:=by
  intro x hxm i;obtain⟨b,n,g1,g2⟩:=hs.inv.obj id _ hx;cases b with
  | none=>simp only[yge,reduceCtorEq,exists_const,or_false]at g2;cases g2;cases hxm
  | some b=>exact yas.ment (g2.2.2.2 x hxm)
 obtain⟨bo,n,g1,g2⟩:=hs.inv.obj jb _ hj;obtain⟨bo',n',k1,k2⟩:=h1.inv.obj jb (.mcells ys) sm;have hsame:=h2 jb bo' n' k1;rw[g1]at hsame;cases hsame;cases bo with
 | none=>simp[yge]at g2
 | some b=>
  obtain⟨q1,q2,c,e,q3,q4,q5,q6,q7⟩:=g2;obtain⟨r1,r2,c',e',r3,r4,r5,r6,r7⟩:=k2;rw[q3]at r3;cases r3;have hkl:=(qaa.1 hk).1;have hkc:k < c.size:=by omega
  have hold:Rel (yba B ok0 lv w) w lv (.ls id size len) c[k]:=q7 k _ _ hk (by simp[hkc]);have hnew:Rel (yba B ok0 lv' w) w lv' (.sl size rows) c[k]:=by
   have hr:=ysd hs.inv hold (by rw[hx];rfl) hlen hsize hfl hpure (yba B ok0 lv' w) h4 (fun b n hb=>?_)
   .exact hr.relive fun i b n _ hm=>by simp[ment]at hm
   obtain⟨_,_,g1,g2,_⟩:=hs.inv.lvat hb;refine⟨.inr g1,g2,fun j b' m hj he=>?_⟩;subst he;have:=hs.inv.inj j id b' m n (h2 j _ m hj) hb;subst this;rw[h1.inv.dom j (by simp[hne,hid])]at hj;cases hj
  refine⟨⟨h1.inv.base,h1.inv.ok0lt,fun j hjn=>?_,h1.inv.inj,fun j x hxj=>?_⟩,h1.size,h1.frame,h1.defers,h1.big,fun j b o hN hjx hc hb=>?_⟩
  .by_cases hjj:j=jb
   .subst hjj;rw[hj']at hjn;cases hjn
   exact h1.inv.dom j (by simp[hjj,hjn])
  .by_cases hjj:j=jb
   .subst hjj;rw[hj']at hxj;cases hxj;refine⟨some b,n,k1,r1,r2,c,e,q3,q4,by simpa using r5,fun x hxm=>?_,fun i x u hi hu=>?_⟩
    .rcases qeu hxm with hm|hm
     .exact r6 x hm
     subst hm;rfl
    rw[qdb]at hi;split at hi
    .rename_i e1;subst e1;cases hi;simp only[hkc,qbk,Option.some.injEq]at hu;subst hu;exact hnew
    exact r7 i x u hi hu
   exact h1.inv.obj j x (by simp[hjj,hxj])
  by_cases hjj:j=jb
  .subst hjj;rw[hj']at hjx;cases hjx;cases hc
  exact h1.pin j b o hN (by simp[hjj,hjx]) hc hb
theorem A_freezeM{c:Code}{Q:Exit->SS->Prop}{t':List (Nat × AV)}{h':List (Nat × Option LObj)}(jb k:Nat){id size len:Nat}{xs ys:List AV}(rows:List (List AV))(hj:yac h jb=some (ygi ys))(hk:ys[k]?=some (.ls id size len))(hx:yac h id=some (.vec xs))(hlen:rows.length=len)
  (hsize:∀ row∈rows,row.length=size) (hfl:rows.flatten=xs) (ht:zap t t') (hh:yxr h h') (hid:yac h' id=none) (hne:id≠jb) (k:A P N c Q (S t' ((jb,some (ygi (ys.set k (.sl size rows))))::h'))):A P N c Q (S t h):=by
 have hy:ys≠[]:=by intro e;subst e;simp at hk
 rw[yjs hy]at hj;rw[yjs (by intro e;have:=congrArg List.length e;simp at this;exact hy this)]at k;intro B ok0 lv a w hs;obtain⟨lv',hs'⟩:=hs.freezeM (s':=S t' ((jb,some (.mcells (ys.set _ (.sl size rows))))::h')) hj hk hx hlen hsize hfl (ycd ht) (by rw[S];simp only;rw[yap hne];exact hid) ybb (fun j ob hj hb=>by
  rw[S]at hb
  simp only at hb
  rw[yap hj]at hb
  exact yah hh j ob hb)
 exact k B ok0 lv' a w hs'
theorem A_asPlain{c:Code}(id:Nat){xs:List AV}(hx:yac h id=some (ygi xs))(hp:yas.pureL xs=true)(k:A P N c Q (S t ((id,some (.vec xs))::h))):A P N c Q (S t h):=by
 intro B ok0 lv a w hs;refine k B ok0 lv a w ⟨⟨hs.inv.base,hs.inv.ok0lt,fun j hj=>?_,hs.inv.inj,fun j x hj=>?_⟩,hs.size,hs.frame,hs.defers,hs.big,fun j b ws hN hj hc hb=>?_⟩
 .refine hs.inv.dom j ?_;simp only[S,yac]at hj ⊢;split at hj
  .cases hj
  exact hj
 .simp only[S,yac]at hj;split at hj
  .rename_i hb;cases hj;have e:=qaf hb;subst e;obtain⟨b,n,h1,h2⟩:=hs.inv.obj j _ hx;refine⟨b,n,h1,?_⟩;cases xs with
   | nil=>exact h2
   | cons x xs=>
    cases b with
    | none=>simp[yge,ygi]at h2
    | some b=>exact⟨h2.1,h2.2.1,h2.2.2,ylz hp⟩
  exact hs.inv.obj j x hj
 simp only[S,yac]at hj;split at hj
 .cases hj;cases hc
 exact hs.pin j b ws hN hj hc hb
end
section
variable{P:Program}{T:Nat->Option Ty}{N:Nat}{ops:Array Oper}{lf:Oper->Bool}{Q:SS->Prop}{t:List (Nat × AV)}{h:List (Nat × Option LObj)}{rest:List Oper}{d:Nat}{ty:TypeId}{pos:String}{af:Array Edge}{gd:Option (Nat × Bool)}
theorem L_fieldLp(hT:TOK P T){ti i o s sz:Nat}{ag a2:Bool}{fs:List (Nat × Nat × Bool)}{z:List Value}{x:Operand}{id off:Nat}{xs:List AV}(hk:T ti=some ⟨.strct fs,sz,a2,z⟩)(hf:fs[i]?=some (o,s,ag))(hx:evF (yak t) x=some (.lp id off))(hh:ycw (yac h id)=some xs)(hne:xs≠[])
  (hw:yam ops (yak t) ⟨some d,.fieldAddr ti x i,ty,pos,af,gd⟩=some true) (hd:Nat.blt d N=true) (k:Lex P N ops lf Q rest (S ((d,.lp id (off+o))::t) h)):Lex P N ops lf Q (⟨some d,.fieldAddr ti x i,ty,pos,af,gd⟩::rest) (S t h):=
 ycm (ytr (hT _ _ hk).2.2 hf hx hh (.inl hne)) hw hd k
end
theorem pureL_map{α:Type}{f:α->AV}(l:List α)(hf:∀ x,yas (f x)=true):yas.pureL (l.map f)=true:=by
 induction l with
 | nil=>rfl
 | cons x l ih=>simp[yas.pureL,hf,ih]
end
section
open Go.RowKit
def zbc:List (Int × Int)->Int->List Int × Int
 | [],P=>([],P)
 | r::rs,P=>((zbc rs P).2::(zbc rs P).1,(zbc rs P).2 * (r.2 - r.1+1))
def zar:List (List (Int × Int))->Int->List (List Int) × Int
 | [],P=>([],P)
 | r::rs,P=>((zbc r (zar rs P).2).1::(zar rs P).1,(zbc r (zar rs P).2).2)
def ymk:List (Int × Int)->Int
 | []=>1
 | r::rs=>(r.2 - r.1+1) * ymk rs
theorem xeh:∀ (l:List (Int × Int)) (P:Int),(zbc l P).2=P * ymk l
 | [],P=>by simp[zbc,ymk]
 | r::rs,P=>by
  simp only[zbc,ymk];rw[xeh rs P,qff,Int.mul_comm (ymk rs)]
theorem ywq:∀ (a b:List (Int × Int)),ymk (a++b)=ymk a * ymk b
 | [],b=>by simp[ymk]
 | r::rs,b=>by
  simp only[qbb,ymk];rw[ywq rs b,qff]
theorem xhn:∀ (t:List (List (Int × Int))) (P:Int),(zar t P).2=P * ymk t.flatten
 | [],P=>by simp[zar,ymk]
 | r::rs,P=>by
  simp only[zar,qcc];rw[xeh,xhn rs P,ywq,qff,Int.mul_comm (ymk rs.flatten)]
theorem ywx:∀ (l:List (Int × Int)) (P:Int),(zbc l P).1.length=l.length
 | [],P=>rfl
 | r::rs,P=>by simp[zbc,ywx rs P]
theorem yxd:∀ (t:List (List (Int × Int))) (P:Int),(zar t P).1.length=t.length
 | [],P=>rfl
 | r::rs,P=>by simp[zar,yxd rs P]
theorem ywr:∀ {l:List (Int × Int)},(∀ q∈l,ytx q)->1<=ymk l
 | [],_=>by simp[ymk]
 | r::rs,h=>by
  have ih:=ywr (l:=rs) fun q hq=>h q (qap _ hq);have hr:=h r (qbe ..);have:=qfz (show (1:Int)<=r.2 - r.1+1 by have:=hr.2.1;omega) ih om (by have:=hr.2.1;omega);simpa[ymk]using this
theorem prodL_le{a b:List (Int × Int)}(h:∀ q∈a++b,ytx q):ymk b<=ymk (a++b):=by
 have ha:=ywr (l:=a) fun q hq=>h q (qfd _ hq);have hb:=ywr (l:=b) fun q hq=>h q (qfy _ hq);rw[ywq];have:=qfz ha (qgw (ymk b)) om om;simpa using this
theorem zox:∀ {l:List (Int × Int)} {n m:Int},n<=32768->ygz n l=some m->m=n * ymk l/\m<=32768
 | [],n,m,hn,h=>by simp only[ygz,Option.some.injEq]at h;subst h;simp[ymk,hn]
 | r::rs,n,m,hn,h=>by
  simp only[ygz]at h;split at h
  .cases h
  rename_i h1;obtain⟨e,h2⟩:=zox om h;exact⟨by rw[e,ymk,qff],h2⟩
theorem tab_split{r:List (Int × Int)}(hk:tbl[k]?=some r)(j:Nat):tbl.flatten=((tbl.take k).flatten++r.take j)++(r.drop j++(tbl.drop (k+1)).flatten):=by
 conv=>lhs;rw[<- qcd (k+1) tbl,yao hk]
 rw[qdq,qdq,qbd,qbd];congr 1;rw[<- qbd,qcd];simp
theorem zmn(ht:xbn tbl){n:Int}(hn:yce tbl=(n,0)){r:List (Int × Int)}(hk:tbl[k]?=some r)(j:Nat):1<=(zbc (r.drop j) (zar (tbl.drop (k+1)) 1).2).2/\(zbc (r.drop j) (zar (tbl.drop (k+1)) 1).2).2<=32768:=by
 have hall:∀ q∈tbl.flatten,ytx q:=fun q hq=>by
  obtain⟨r,hr,hq⟩:=qdk.1 hq;exact(ht.2 r hr).2 q hq
 have hc:ygz 1 tbl.flatten=some n:=by
  unfold yce at hn;split at hn
  .rename_i e;cases hn;exact e
  cases hn
 obtain⟨e,hn2⟩:=zox om hc;rw[qeo]at e;have hs:=tab_split hk j;rw[xeh,xhn,qeo,Int.mul_comm,<- ywq];rw[hs]at hall e;have h1:=ywr (l:=r.drop j++(tbl.drop (k+1)).flatten) fun q hq=>hall q (qfy _ hq);have h2:=prodL_le hall;omega
theorem xcf{α:Type}{l:List α}{x:α}(h:l[k]?=some x):l.drop k=x::l.drop (k+1):=by
 obtain⟨h1,h2⟩:=qaa.1 h;rw[qbl h1,h2]
def yhv(p:ProgD)(g:GraphD):List (List Int):=(zar (yaf p g) 1).1
def xeg(p:ProgD)(g:GraphD)(kind:Int)(pl:AV):List AV:=[ygw p g,yyu g,i64 kind,yeh (yaf p g),pl]
def ygp(p:ProgD)(g:GraphD)(kind:Int):AV:=.dp (xeg p g kind (.sl 1 ((yhv p g).map fun r=>[yai r]))) 0
def plX(k:Nat)(R:List (List Int)):List AV:=List.replicate k ygd++R.map yai
theorem plX_len(k:Nat)(R:List (List Int)):(plX k R).length=k+R.length:=by simp[plX]
theorem plX_ment(d k:Nat)(R:List (List Int)):ment.mentL d (plX k R)=false:=by
 unfold plX;rw[ywd,zme d ygd rfl,qep];refine ygk fun x hx=>?_;obtain⟨y,_,rfl⟩:=qag.1 hx;rfl
theorem plX_set(k:Nat)(R:List (List Int))(x:AV):(plX (k+1) R).set k x=List.replicate k ygd++x::R.map yai:=by
 unfold plX;rw[List.replicate_succ',qbd,qbo _ _ sm];simp
theorem xdh(k:Nat)(x:AV)(l:List AV):(List.replicate k ygd++x::l)[k]?=some x:=by
 rw[qah sm];simp
theorem mid_set(k:Nat)(x y:AV)(l:List AV):(List.replicate k ygd++x::l).set k y=List.replicate k ygd++y::l:=by
 rw[qbo _ _ sm];simp
def rwX(j:Nat)(Q:List Int):List AV:=(List.replicate j 0++Q).map i64
theorem rwX_len(j:Nat)(Q:List Int):(rwX j Q).length=j+Q.length:=by simp[rwX]
theorem rwX_set(j:Nat)(Q:List Int)(z:Int):(rwX (j+1) Q).set j (i64 z)=rwX j (z::Q):=by
 unfold rwX;rw[<- qdx,List.replicate_succ',qbd,qbo _ _ sm];simp
theorem newbuilder_con(p:ProgD)(g:GraphD)(hf:Fair p g)(h0:ycv p g=0)(kind:Int)(n:Int)(hn:yce (yaf p g)=(n,0)):Con prog 67 [ygg p,yev g,i64 kind] (ygp p g kind):=by
 have hg:=(ydk.1 h0).2.1;have ht:=ydj hf h0;obtain⟨tbl,htb⟩:∃ tbl,yaf p g=tbl:=⟨_,rfl⟩;have hT:=yoh p g hf h0;have htl:=ht.1;unfold ygp yhv xeg;rw[htb]at hn ht hT htl ⊢;refine ze Tryz.func67 ntmps67 Tryz.results67 ?_
 (repeat (first|refine zz ?_|refine zc (zai p g hf h0) ?_|refine zc (zjj g hg) ?_|refine yph tok rfl rfl rfl rfl co rfl rfl rfl rfl rfl ?_))
 refine ytu 28 (List.replicate tbl.length ygd) rfl (zym _ _) ?_;refine ybw (α:=Int × Int × List (List Int)) (fun q=>[(9,i64 q.1),(8,i64 q.2.1),(7,.lp 21 0)]) (fun q=>[(28,some (ygi (plX (q.1+1).toNat q.2.2))),(21,some (.cells [ygw p g,yyu g,i64 kind,yeh tbl,.ls 28 1 tbl.length]))]) (fun q=>(q.1+1).toNat) (fun q=>-1<=q.1/\q.1 < tbl.length/\zar (tbl.drop (q.1+1).toNat) 1=(q.2.2,q.2.1)) (tbl.length - 1,1,[]) ⟨by simp only;omega,by simp only;omega,?_⟩ zs ?_ ?_
 .simp only;rw[show ((tbl.length:Int) - 1+1).toNat=tbl.length by omega,qcb];rfl
 .refine yah (yab ?_ (yab rfl yag));simp only;rw[show ((tbl.length:Int) - 1+1).toNat=tbl.length by omega];simp[plX,yac]
 rintro⟨z,P0,R⟩ ⟨hz1,hz2,hR⟩;simp only at hz1 hz2 hR ⊢;refine zY ?_;refine zj ?_ ?_ <;> intro h1
 .simp at h1;obtain⟨k,rfl⟩:∃ k:Nat,z=k:=⟨z.toNat,om⟩;obtain⟨r,hr⟩:=ybk (show k < tbl.length by omega);obtain⟨hrl,hrq⟩:=ht.2 r (qab hr);rw[show ((k:Int)+1).toNat=k+1 by omega]at hR ⊢;have hP:(zar (tbl.drop (k+1)) 1).2=P0:=by rw[hR]
  have hRl:R.length=tbl.length - (k+1):=by
   have:=yxd (tbl.drop (k+1)) 1;rw[hR]at this;simpa using this
  refine zW ?_;refine ybg (lf:=lf0) ymj rfl ?_;refine yeq [5,6,7,8,9,10,11,12] 8 (yaa rfl (yaa rfl (yaa rfl (yaa rfl (yaa rfl (yaa rfl (yaa rfl (yaa rfl yal)))))))) rfl dk ?_;refine zO ?_;refine yva tok (fun y=>!ment 54 y) [(0,41,.lp 21 0),(1,42,.lp 21 0),(2,43,.lp 21 (0+4)),(3,44,.ls 28 1 tbl.length),(4,45,i64 k)] 13 54 [] (.ls 54 1 r.length) (req:=[(7,.lp 21 0),(9,i64 k)]) 2 rfl kf rfl rfl rfl kf kf rfl ⟨⟨rfl,rfl,rfl⟩,⟨rfl,rfl,rfl⟩,trivial⟩ rfl
   ⟨⟨_,[(7,.lp 21 0),(9,i64 k)],rfl,rfl,rfl,kf,kf,kf,kf,rfl,rfl,rfl⟩,⟨_,[(41,.lp 21 0),(7,.lp 21 0),(9,i64 k)],rfl,rfl,rfl,kf,kf,kf,kf,rfl,rfl,rfl⟩,⟨_,[(41,.lp 21 0),(42,.lp 21 0),(7,.lp 21 0),(9,i64 k)],rfl,rfl,rfl,kf,kf,kf,kf,rfl,rfl,rfl⟩,⟨_,[(41,.lp 21 0),(42,.lp 21 0),(43,.lp 21 (0+4)),(7,.lp 21 0),(9,i64 k)],rfl,rfl,rfl,kf,kf,kf,kf,rfl,rfl,rfl⟩,⟨_,[(7,.lp 21 0),(9,i64 k)],rfl,rfl,rfl,kf,kf,kf,kf,rfl,rfl,rfl⟩,trivial⟩ rfl rfl rfl
   (fun t ht hl=>zqm tok 54 hl rfl rfl rfl rfl rfl (ht 53 _ rfl) (ht 53 _ rfl) co (yuk dc (by rw[yjh];exact plX_ment _ _ _) rfl)) ?_
  refine yaz [14,15] (yaa rfl (yaa rfl yal)) rfl kf ?_
  (repeat (first|refine zo ?_|refine yat tok rfl rfl rfl rfl om om rfl rfl ?_))
  refine yon tok rfl rfl rfl rfl rfl rfl (by rw[plX_len];simp;omega) rfl rfl ?_;refine zY ?_;refine ybw (α:=Int × Int × List Int) (fun q=>[(10,i64 q.1),(8,i64 q.2.1),(9,i64 k),(7,.lp 21 0)]) (fun q=>[(54,some (.vec (rwX (q.1+1).toNat q.2.2))),(28,some (ygi (List.replicate k ygd++.ls 54 1 r.length::R.map yai))),(21,some (.cells [ygw p g,yyu g,i64 kind,yeh tbl,.ls 28 1 tbl.length]))]) (fun q=>(q.1+1).toNat) (fun q=>-1<=q.1/\q.1 < r.length/\zbc (r.drop (q.1+1).toNat) P0=(q.2.2,q.2.1)) (r.length - 1,P0,[]) ⟨by simp only;omega,by simp only;omega,?_⟩ zs ?_ ?_
  .simp only;rw[show ((r.length:Int) - 1+1).toNat=r.length by omega,qcb];rfl
  .refine yah (yab ?_ (yab ?_ (yab rfl yag)))
   .simp only;rw[show ((r.length:Int) - 1+1).toNat=r.length by omega,show yhw [Value.int .i64 0]=[i64 0] from rfl,zym];simp[rwX,yac]
   rw[show ((k:Int).toNat * 1)=k by simp,plX_set];rfl
  rintro⟨y,P,Q⟩ ⟨hy1,hy2,hQ⟩;simp only at hy1 hy2 hQ ⊢;refine zY ?_;refine zj ?_ ?_ <;> intro h2
  .simp at h2;obtain⟨j,rfl⟩:∃ j:Nat,y=j:=⟨y.toNat,om⟩;obtain⟨q,hq⟩:=ybk (show j < r.length by omega);rw[show ((j:Int)+1).toNat=j+1 by omega]at hQ ⊢;have hQl:Q.length=r.length - (j+1):=by
    have:=ywx (r.drop (j+1)) P0;rw[hQ]at this;simpa using this
   have b1:=zmn ht hn hr (j+1);have b2:=zmn ht hn hr j;have hnew:zbc (r.drop j) P0=(P::Q,P * (q.2 - q.1+1)):=by rw[xcf hq];simp only[zbc,hQ]
   rw[hP,hQ]at b1;rw[hP,hnew]at b2;simp only at b1 b2;obtain⟨q1,q2,q3⟩:=hrq q (qab hq)
   (repeat (first|refine zy ?_|refine yat tok rfl rfl rfl rfl om om rfl rfl ?_|refine ydp (r:=.ls 54 1 r.length) tok rfl rfl rfl (yfg _) (by rw[show ((k:Int).toNat * 1)=k by simp];exact xdh _ _ _) rfl rfl ?_|refine yom tok rfl rfl rfl rfl rfl rfl (by rw[rwX_len];simp;omega) rfl rfl rfl ?_))
   refine yhi ((j:Int) - 1,P * (q.2 - q.1+1),P::Q) ⟨by simp only;omega,by simp only;omega,?_⟩ (by simp only;omega) zs (yah (yab ?_ (yab rfl (yab rfl yag))))
   .simp only;rw[show ((j:Int) - 1+1).toNat=j by omega];exact hnew
   simp only;rw[show ((j:Int) - 1+1).toNat=j by omega,show ((j:Int).toNat * 1)=j by simp,rwX_set];rfl
  simp at h2;obtain rfl:y=-1:=by omega
  have hQ':zbc r P0=(Q,P):=hQ;have hQl:Q.length=r.length:=by
   have:=ywx r P0;rw[hQ']at this;simpa using this
  have hnew:zar (tbl.drop k) 1=(Q::R,P):=by rw[xcf hr];simp only[zar,hR,hQ']
  (repeat (first|with_reducible refine yeo ?_|with_reducible refine ycy ?_|refine ydu ?_))
  refine A_freezeM (t':=[(8,i64 P),(9,i64 k),(7,.lp 21 0)]) (h':=[(21,some (.cells [ygw p g,yyu g,i64 kind,yeh tbl,.ls 28 1 tbl.length]))]) 28 k (Q.map fun z=>[i64 z]) rfl (xdh _ _ _) rfl (by simpa using hQl) (fun row hrow=>by obtain⟨z,_,rfl⟩:=qag.1 hrow;rfl) ?_ zs (yab rfl yag) rfl dc ?_
  .rw [ydo];simp[rwX]
  rw[mid_set];refine zY ?_;refine yhi ((k:Int) - 1,P,Q::R) ⟨by simp only;omega,by simp only;omega,?_⟩ (by simp only;omega) zs (yah (yab ?_ (yab rfl yag)))
  .simp only;rw[show ((k:Int) - 1+1).toNat=k by omega];exact hnew
  simp only;rw[show ((k:Int) - 1+1).toNat=k by omega];rfl
 simp at h1;obtain rfl:z=-1:=by omega
 have hR':zar tbl 1=(R,P0):=hR;have hRl:R.length=tbl.length:=by
  have:=yxd tbl 1;rw[hR']at this;simpa using this
 rw[hR']
 (repeat (first|with_reducible refine yeo ?_|with_reducible refine ycy ?_|refine ydu ?_))
 refine A_asPlain 28 (xs:=R.map yai) rfl (pureL_map _ fun _=>rfl) ?_;refine yqb (t':=[(7,.lp 21 0)]) (h':=[(28,some (.vec (R.map yai))),(21,some (.cells [ygw p g,yyu g,i64 kind,yeh tbl,.ls 28 1 tbl.length]))]) ?_ zs (yah (yab rfl (yab rfl yag)));refine yey 21 4 (R.map fun r=>[yai r]) rfl rfl rfl (by simpa using hRl) (fun row hrow=>by obtain⟨z,_,rfl⟩:=qag.1 hrow;rfl) (ydq _) rfl rfl rfl rfl ?_;refine zk ?_;exact Frz.box rfl rfl
end
section
open Go.RowKit
def tzV(B:BitVec 32):Nat:=B.ctz.toNat
theorem yrm(h:B≠0#32):tzV B < 32/\B.getLsbD (tzV B)=true/\∀ u,u < tzV B->B.getLsbD u=false:=by
 refine⟨?_,BitVec.getLsbD_true_ctz_of_ne_zero h,fun u hu=>BitVec.getLsbD_false_of_lt_ctz hu⟩;have:=BitVec.ctz_lt_iff_ne_zero.2 h;simpa[BitVec.lt_def,tzV]using this
theorem zly(h:B≠0#32)(u:Nat):(∃ j,j < u/\B.getLsbD j=true)<->tzV B < u:=by
 obtain⟨_,h2,h3⟩:=yrm h;constructor
 .rintro ⟨j,hj,hb⟩;rcases qbh j (tzV B)with h4|h4
  .rw [h3 j h4]at hb;cases hb
  omega
 intro hu;exact⟨_,hu,h2⟩
theorem low_off(h:B≠0#32)(u:Nat):(B &&& (B - 1#32)).getLsbD u=(B.getLsbD u && decide (u≠tzV B)):=by
 rcases qbh u 32 with hu|hu
 .obtain ⟨_,h2,h3⟩:=yrm h;have e:B - 1#32 = ~~~(-B):=(BitVec.not_neg B).symm;rw[qbi,e,qcy,qgp];have hl:=zly h u;by_cases h4:tzV B < u
  .simp [hu,hl.2 h4,show u≠tzV B by omega]
  by_cases h5:u=tzV B
  .subst h5;rw[decide_eq_false (show ¬ ∃ j,j < tzV B/\B.getLsbD j=true from fun q=>h4 (hl.1 q)),h2];simp
  simp[h3 u om]
 rw[qcg _ _ hu,qcg _ _ hu];rfl
theorem ztt(h:B≠0#32):B &&& -B=1#32 <<< tzV B:=by
 obtain⟨h1,h2,h3⟩:=yrm h;apply qbr;intro u hu;rw[qbi,qgp,qfb];have hl:=zly h u;by_cases h4:tzV B < u
 .have:¬ u - tzV B=0:=by omega
  simp[hu,hl.2 h4,this]
 by_cases h5:u=tzV B
 .subst h5;rw[decide_eq_false (show ¬ ∃ j,j < tzV B/\B.getLsbD j=true from fun q=>h4 (hl.1 q)),h2];simp[h1]
 simp[h3 u om,show u < tzV B by omega]
def ycb(B:BitVec 32):List Nat:=(List.range 32).filter B.getLsbD
theorem zih(p:Nat->Bool)(k:Nat)(hk:p k=true)(hl:∀ u,u < k->p u=false):∀ n,k < n->(List.range n).filter p=k::(List.range n).filter fun u=>p u && decide (u≠k)
 | 0,h=>by omega
 | n+1,h=>by
  rw[qdd,qcn,qcn];by_cases e:k=n
  .subst e;have e1:(List.range k).filter p=[]:=List.filter_eq_nil_iff.2 fun u hu=>by simp[hl u (qbt.1 hu)]
   have e2:((List.range k).filter fun u=>p u && decide (u≠k))=[]:=List.filter_eq_nil_iff.2 fun u hu=>by simp[hl u (qbt.1 hu)]
   rw[e1,e2];simp[hk]
  rw[zih p k hk hl n om];have:decide (n≠k)=true:=by simp;omega
  simp only[qge,qhl,this,qfl,qbb]
theorem zjk(h:B≠0#32):ycb B=tzV B::ycb (B &&& (B - 1#32)):=by
 obtain⟨h1,h2,h3⟩:=yrm h;unfold ycb;rw[zih B.getLsbD (tzV B) h2 h3 32 h1];congr 1;exact qfm fun u _=>(low_off h u).symm
theorem zex:ycb B=[]<->B=0#32:=by
 constructor
 .intro h;refine qbr fun u hu=>?_;rw[qbs];simpa using List.filter_eq_nil_iff.1 h u (qbt.2 hu)
 rintro rfl;exact List.filter_eq_nil_iff.2 fun u _=>by simp
def ysp(B:BitVec 32):Nat->BitVec 32
 | 0=>B
 | k+1=>ysp B k &&& (ysp B k - 1#32)
theorem zcf(B:BitVec 32):∀ k,ycb (ysp B k)=(ycb B).drop k
 | 0=>rfl
 | k+1=>by
  have ih:=zcf B k;rw[<- qhq,<- ih];show ycb (ysp B k &&& (ysp B k - 1#32))=_;by_cases h:ysp B k=0#32
  .rw [h];simp[zex.2]
  rw[zjk h];rfl
theorem zyj:ysp B k=0#32<->(ycb B).length<=k:=by
 rw[<- zex,zcf,List.drop_eq_nil_iff]
theorem rem_at(h:ysp B k≠0#32):(ycb B)[k]?=some (tzV (ysp B k)):=by
 have e:=zcf B k;rw[zjk h]at e;have:=congrArg List.head? e;rw[List.head?_drop]at this;exact this.symm
theorem yfo:v∈ycb B<->v < 32/\B.getLsbD v=true:=by
 unfold ycb;rw[qdc,qbt]
theorem zew(B:BitVec 32):(ycb B).length<=32:=by
 unfold ycb;have:=qcu B.getLsbD (List.range 32);simpa using this
end
section
open Go.RowKit
def yoy(e x:BitVec 32):BitVec 32:=(x - e) &&& e
def yzq(x e:BitVec 32):Prop:=x &&& ~~~e=0#32
theorem yzq.bit(h:yzq x e)(hu:x.getLsbD u=true):e.getLsbD u=true:=by
 have:=congrArg (fun X=>BitVec.getLsbD X u) h;simp only[qbi,qcy,qbs,hu]at this;rcases qbh u 32 with h1|h1
 .simpa [h1]using this
 rw[qcg _ _ h1]at hu;cases hu
theorem ymv(e x:BitVec 32):yzq (yoy e x) e:=by
 apply qbr;intro u hu;simp only[yoy,qbi,qcy,qbs];cases e.getLsbD u <;> simp
theorem next_neg(h:yzq x e):yoy e x=-(e &&& ~~~x) &&& e:=by
 unfold yoy;congr 1;have h1:x+~~~e=x ||| ~~~e:=BitVec.add_eq_or_of_and_eq_zero _ _ h;have h2 : ~~~(e &&& ~~~x)=x ||| ~~~e:=by
  apply qbr;intro u hu;simp only[qcy,qbi,qgs,hu,decide_true,qfe];cases e.getLsbD u <;> cases x.getLsbD u <;> rfl
 rw[BitVec.neg_eq_not_add,h2,<- h1,BitVec.sub_eq_add_neg,BitVec.neg_eq_not_add,BitVec.add_assoc]
theorem ywk:yoy e e=0#32:=by
 unfold yoy;simp
theorem bit_lt{m:Nat}(k:Nat)(h1:n.testBit k=false)(h2:m.testBit k=true)(h3:∀ j,k < j->n.testBit j=m.testBit j):n < m:=by
 have e:n / 2 ^ k / 2=m / 2 ^ k / 2:=Nat.eq_of_testBit_eq fun j=>by
  rw[Nat.testBit_div_two,Nat.testBit_div_two,qfu,qfu];exact h3 _ om
 have a1:n / 2 ^ k % 2=0:=by
  have:=qfu (n:=k) n 0;rw[qay,h1,Nat.testBit_zero]at this;simpa using this
 have a2:m / 2 ^ k % 2=1:=by
  have:=qfu (n:=k) m 0;rw[qay,h2,Nat.testBit_zero]at this;simpa using this
 have hlt:n / 2 ^ k < m / 2 ^ k:=by omega
 exact qfr fun hge=>by
  have:=Nat.div_le_div_right (c:=2 ^ k) hge;omega
theorem zmf(h:yzq x e)(hne:x≠e):x.toNat < (yoy e x).toNat:=by
 have hr:e &&& ~~~x≠0#32:=fun q=>hne (by
  apply qbr
  intro u hu
  have:=congrArg (fun X=>BitVec.getLsbD X u) q
  simp only[qbi,qcy,qbs,hu,decide_true,qfe]at this
  cases hx:x.getLsbD u with
  | true=>exact(h.bit hx).symm
  | false=>rw[hx]at this;simpa using this.symm)
 obtain⟨k1,k2,k3⟩:=yrm hr;have hlow:=zly hr;rw[next_neg h];generalize hR:e &&& ~~~x=r at *;have rb:∀ u,u < 32->r.getLsbD u=(e.getLsbD u && !x.getLsbD u):=fun u hu=>by
  rw[<- hR];simp[hu]
 have hk:=k2;rw[rb _ k1]at hk;simp only[qad,qbn]at hk;refine bit_lt (tzV r) hk.2 ?_ fun u hu=>?_
 .show (-r &&& e).getLsbD (tzV r)=true;rw[qbi,qgp,k2,hk.1,decide_eq_false (show ¬ ∃ j,j < tzV r/\r.getLsbD j=true from fun q=>by have:=(hlow _).1 q;omega)];simp
 show x.getLsbD u=(-r &&& e).getLsbD u;rcases qbh u 32 with h1|h1
 .rw [qbi,qgp,decide_eq_true ((hlow u).2 hu),rb u h1];cases hx:x.getLsbD u with
  | true=>rw[h.bit hx];simp[h1]
  | false=>cases e.getLsbD u <;> simp[h1]
 rw[qcg _ _ h1,qcg _ _ h1]
def ynj(e:BitVec 32):Nat->BitVec 32->List (BitVec 32)
 | 0,_=>[]
 | n+1,x=>if x=0#32 then []else x::ynj e n (yoy e x)
def zne(e x:BitVec 32):List (BitVec 32):=ynj e (4294967296 - x.toNat) x
theorem ylg:∀ n,ynj e n 0#32=[]
 | 0=>rfl
 | n+1=>by simp[ynj]
theorem zaq:∀ (n m:Nat) (x:BitVec 32),yzq x e->4294967296<=n+x.toNat->4294967296<=m+x.toNat->ynj e n x=ynj e m x
 | 0,m,x,hs,hn,hm=>by have:=x.isLt;omega
 | n+1,0,x,hs,hn,hm=>by have:=x.isLt;omega
 | n+1,m+1,x,hs,hn,hm=>by
  unfold ynj;by_cases h0:x=0#32
  .rw [if_pos h0,if_pos h0]
  rw[if_neg h0,if_neg h0];by_cases he:x=e
  .subst he;rw[ywk,ylg,ylg]
  have:=zmf hs he;rw[zaq n m (yoy e x) (ymv e x) om om]
theorem yzj:zne e 0#32=[]:=ylg _
theorem yzi(hs:yzq x e)(h0:x≠0#32):zne e x=x::zne e (yoy e x):=by
 have hx:=x.isLt;unfold zne;obtain⟨n,hn⟩:∃ n,4294967296 - x.toNat=n+1:=⟨4294967296 - x.toNat - 1,om⟩;rw[hn]
 conv=>lhs;unfold ynj
 rw[if_neg h0];congr 1;by_cases he:x=e
 .subst he;rw[ywk,ylg,ylg]
 have:=zmf hs he;have:=(yoy e x).isLt;exact zaq _ _ _ (ymv e x) om om
def xkj(x:BitVec 32):Nat:=if x=0#32 then 0 else 4294967296 - x.toNat
theorem zwo(hs:yzq x e)(h0:x≠0#32):xkj (yoy e x) < xkj x:=by
 have hx:=x.isLt;unfold xkj;rw[if_neg h0];by_cases h1:yoy e x=0#32
 .rw [if_pos h1];omega
 rw[if_neg h1];have:x≠e:=fun q=>h1 (by rw[q];exact ywk);have:=zmf hs this;omega
def zga(e:BitVec 32):List (BitVec 32):=zne e (-e &&& e)
theorem yjx(e:BitVec 32):yzq (-e &&& e) e:=by
 apply qbr;intro u hu;simp only[qbi,qcy,qbs];cases e.getLsbD u <;> simp
end
section
open Go.RowKit
set_option maxHeartbeats 1000000 in
theorem tz32_core(x k idx:Nat)(w:World)(hx0:((x:Int) == 0)=false)(key:bits BinOp.and IntKind.u32 (x:Int) (-(x:Int) % 4294967296) * 125613361 % 4294967296 / 134217728=(idx:Int))
  (hi:idx < 32) (hk:k < 32) (hcell:w.cell? ⟨0,idx,none⟩=some (.int .u8 k)) :
  Calls prog 181 #[.int .u32 x] w fun e w'=>e=.returned (.int .i64 k)/\w'=w:=by
 go_enter Tryz.func181,ntmps181;go_wp2_with (simp only[key]);go_ret;exact⟨rfl,rfl⟩
theorem tab32_at:∀ k:Fin 32,2 ^ k.val * 125613361 % 4294967296 / 134217728 < 32/\xgg[2 ^ k.val * 125613361 % 4294967296 / 134217728]?=some (k.val:Int):=by decide +kernel
theorem glob32{w:World}(h:zaw w){j:Nat}{z:Int}(hz:xgg[j]?=some z):w.cell? ⟨0,j,none⟩=some (.int .u8 z):=by
 unfold zaw Lib.TabIs World.var? at h;rw[zxa]at h;simp only[qej]at h;split at h
 .rename_i cs a b hc;cases h;simp[World.cell?,hc,hz]
 cases h
theorem tz_con(B:BitVec 32)(h:B≠0#32):Con prog 181 [yav B] (i64 (tzV B)):=by
 refine⟨⟨_,Tryz.func181,rfl,rfl⟩,rfl,fun ok0 w us hG hok hr=>?_⟩;obtain⟨u,rfl,hu⟩:=zms hr;cases hu;have hlt:=(yrm h).1;have hB:=B.isLt;have hne:B.toNat≠0:=fun e=>h (qgb (by simpa using e));obtain⟨t1,t2⟩:=tab32_at ⟨tzV B,hlt⟩;have hlow:=congrArg BitVec.toNat (ztt h);rw[qgx,BitVec.toNat_and,qha,qeq (show 2 ^ 32 - B.toNat < 2 ^ 32 by omega)]at hlow;simp only[BitVec.toNat_ofNat,Nat.shiftLeft_eq]at hlow;have hp:2 ^ tzV B < 2 ^ 32:=qhm om hlt;rw[show (1 % 2 ^ 32) * 2 ^ tzV B=2 ^ tzV B by omega,qeq hp]at hlow;have e1:-(B.toNat:Int) % 4294967296=((-B).toNat:Int):=by
  rw[qha];omega
 have e2:bits .and .u32 (B.toNat:Int) ((-B).toNat:Int)=((B &&& -B).toNat:Int):=by
  have h1:BitVec.ofInt IntKind.u32.bits (B.toNat:Int)=B:=yim B;have h2:BitVec.ofInt IntKind.u32.bits ((-B).toNat:Int)=-B:=yim (-B);unfold bits;simp only[h1,h2];exact zco (B &&& -B)
 have e3:(B &&& -B).toNat=2 ^ tzV B:=by
  rw[BitVec.toNat_and,qha,qeq (show 2 ^ 32 - B.toNat < 2 ^ 32 by omega)];exact hlow
 refine(tz32_core B.toNat (tzV B) _ w so ?_ t1 hlt (glob32 hG t2)).mono ?_
 .rw [e1,e2,e3];generalize 2 ^ tzV B=m;omega
 rintro e w' ⟨rfl,rfl⟩;exact⟨_,rfl,.v _,Below.refl _ _⟩
end
set_option maxHeartbeats 4000000
section
open Go.RowKit
def xao(c:Array Value)(v:Value):Array Value:=(c.toList.take 0++[v]++c.toList.drop 1).toArray
def zzu(W:World)(b:Nat)(v:Value):Prop:=∃ c e,W.heap[b]?=some (.cells c e (0,0))/\c[0]?=some v
def zkm(P:Program)(f:FuncId)(els:List (List AV))(st:Nat->Value):Prop:=
 ylj P f/\∀ (l:Nat) (ok:Nat->Prop) (W:World) (b:Nat) (J J':Nat->World->Prop) (X:World->Prop),
  (∀ k W',J k W'->zzu W' b (st k)/\zaw W')->(∀ k W',J' k W'->zzu W' b (st k)) ->
  (∀ k W1 W2,J k W1->Below W1.heap.size W1 W2->J k W2)->(∀ k W1 W2,J' k W1->Below W1.heap.size W1 W2->J' k W2)->(∀ W1 W2,X W1->Below W1.heap.size W1 W2->X W2) ->
  (∀ k c e W1,J' k W1->W1.heap[b]?=some (.cells c e (0,0))->J (k+1) (W1.setRow b (xao c (st (k+1))))) ->
  (∀ k el vs W1,els[k]?=some el->J k W1->ybn ok W1 (fun _=>none) el vs->YieldAt Fence.wide 0 P l vs.toArray W1 fun e W'=>(e=.returned (.bool true)/\J' k W')\/(e=.returned (.bool false)/\X W')) ->
  J 0 W->CallsIn Fence.wide 0 P f (#[.func (.yield l) #[] #[]]++[Value.pointer (some ⟨b,0,none⟩)].toArray) W fun e W'=>(∃ v,e=.returned v)/\(J els.length W'\/X W')
def ynk(id:Nat)(v:Value)(h:Nat->Option LObj):Nat->Option LObj:=fun i=>match Nat.beq i id with
 | true=>some (.cells [.v v])
 | false=>h i
theorem yne{v:Value}:ynk id v h id=some (.cells [.v v]):=by simp[ynk]
theorem withB_upd{v v':Value}:yei (ynk id v h) id (some (.cells [.v v']))=ynk id v' h:=by
 funext i;unfold yei ynk;by_cases e:i=id
 .subst e;simp
 simp[e,ycp e]
section
variable{P:Program}{N:Nat}{g:Operand}{ps:List Nat}{assign body:Code}{Q:Exit->SS->Prop}{s:SS}{gf:Nat}{els:List (List AV)}{st:Nat->Value}
variable{B Bx:Bse}{okx:Nat->Prop}{l:Nat}{rec:LoopState->Option Code->Loop}{t0:Nat->Option AV}{vt:Nat->Value}{o:Loop}{h:Nat->Option LObj}{W:World}{id b:Nat}{v v':Value}
theorem yis.cellB(hK:yis B Bx okx N l rec t0 vt o (ynk id v h) W)(hl:¬ Bx.mine l)(hN:N<=id)(hp:B.pin id=some b):zzu W b v:=by
 obtain⟨hWl,lv',i1,f1,p1⟩:=hK;obtain⟨n,hlv⟩:=p1 id b _ hN yne rfl hp;obtain⟨b',n',g1,g2⟩:=i1.obj id _ yne;rw[hlv]at g1;cases g1;have hbl:b≠l:=yyq i1 hl ⟨id,n,hlv⟩;obtain⟨g3,g4,c,e,q1,q2,q3,q4,q5⟩:=g2;rw[World.putObj_heap_other hbl]at q1;simp only[qaj,qew]at q3;obtain⟨u,hu⟩:∃ u,c[0]?=some u:=⟨_,qbk om⟩;have:=q5 0 _ u rfl hu;cases this;exact⟨c,e,q1,hu⟩
theorem yis.glob(hK:yis B Bx okx N l rec t0 vt o h W)(hl:GN<=l):zaw W:=by
 obtain⟨hWl,lv',i1,_,_⟩:=hK;have:=zbt (o:=.loop o) i1.base.glob hl
 rwa [yqy,ypc hWl]at this
theorem yis.write(hK:yis B Bx okx N l rec t0 vt o (ynk id v h) W)(hl:¬ Bx.mine l)(hpx:∀ x,Bx.pin x=none)(hN:N<=id)(hp:B.pin id=some b){c:Array Value}{e:TypeId}(hc:W.heap[b]?=some (.cells c e (0,0)))(hv':v'.oneCell'=true):yis B Bx okx N l rec t0 vt o (ynk id v' h) (W.setRow b (xao c v')):=by
 obtain⟨hWl,lv',i1,f1,p1⟩:=hK;obtain⟨n,hlv⟩:=p1 id b _ hN yne rfl hp;obtain⟨b',n',g1,g2⟩:=i1.obj id _ yne;rw[hlv]at g1;cases g1;have hbl:b≠l:=yyq i1 hl ⟨id,n,hlv⟩;obtain⟨g3,g4,c',e',q1,q2,q3,q4,q5⟩:=g2;have q1':=q1;rw[World.putObj_heap_other hbl,hc]at q1';cases q1';have hlt:=(qaz.1 hWl).1;have hos:((W.setRow b (xao c v')).putObj l (.loop (rec .ready none))).os=(W.putObj l (.loop (rec .ready none))).os/\((W.setRow b (xao c v')).putObj l (.loop (rec .ready none))).tape=(W.putObj l (.loop (rec .ready none))).tape/\((W.setRow b (xao c v')).putObj l (.loop (rec .ready none))).output=(W.putObj l (.loop (rec .ready none))).output/\((W.setRow b (xao c v')).putObj l (.loop (rec .ready none))).heap.size=(W.putObj l (.loop (rec .ready none))).heap.size:=⟨rfl,rfl,rfl,sm⟩;have hsz:(W.setRow b (xao c v')).heap.size=W.heap.size:=by simp
 have hoth:∀ g,g≠b->((W.setRow b (xao c v')).putObj l (.loop (rec .ready none))).heap[g]?=(W.putObj l (.loop (rec .ready none))).heap[g]?:=by
  intro g hg;by_cases hgl:g=l
  .subst hgl;rw[World.putObj_heap_same (by rw[hsz];exact hlt),World.putObj_heap_same hlt]
  rw[World.putObj_heap_other hgl,World.putObj_heap_other hgl,setRow_other W b g _ hg]
 have hwb:((W.setRow b (xao c v')).putObj l (.loop (rec .ready none))).heap[b]?=some (.cells (xao c v') e (0,0)):=by
  rw[World.putObj_heap_other hbl];exact setRow_heap W b c _ e _ hc
 generalize hw':(W.setRow b (xao c v')).putObj l (.loop (rec .ready none))=w' at hos hoth hwb;have hsim:Sim Bx okx 0 ⟨fun _=>none,ynk id v h⟩ lv' { tmps:=#[],defers:=Bx.dl } (W.putObj l (.loop (rec .ready none))):=
  ⟨i1,rfl,fun x y hx=>(by cases hx),⟨[],rfl,qdu,fun d hd=>(by cases hd)⟩,om,fun id b o hN hx hc hb=>by rw[hpx]at hb;cases hb⟩
 have hw:=(hsim.write hlv hos.1 hos.2.1 hos.2.2.1 hos.2.2.2 hoth (ob:=.cells [.v v']) (fun _=>⟨_,yne,rfl⟩) fun ok' hk=>
  zsa (w:=W.putObj l (.loop (rec .ready none))) (xs:=[.v v]) (cs:=[.v v']) (vs:=[v']) (off:=0) q1 q2 q3 q4 q5 ⟨rfl,fun j x u hx hu=>by
   cases j with
   | zero=>cases hx;cases hu;exact .v _
   | succ j=>simp at hx⟩ (fun x hx=>by cases qau.1 hx;exact hv') sm hwb ok' hk).inv
 rw[withB_upd]at hw;refine⟨(setRow_other W b l _ hbl.symm).trans hWl,lv',?_,fun x y hx=>?_,fun id' b' o' hN' hx hc' hb'=>?_⟩
 .rw [hw'];exact hw
 .rw [hw'];exact(f1 x y hx).keep fun g hg=>⟨⟨hg.1,by rw[hos.2.2.2];exact hg.2.1,hg.2.2⟩,hoth g fun e=>hg.2.2 id b n hlv e.symm⟩
 by_cases e:id'=id
 .subst e;exact p1 id' b' _ hN' yne rfl hb'
 exact p1 id' b' o' hN' (by simpa[ynk,ycp e]using hx) hc' hb'
def xgn(id:Nat)(Q:Exit->SS->Prop)(e:Exit)(s:SS):Prop:=∃ h',(∀ i o,h' i=some o->s.h i=some o/\i ∉ [id])/\Q e ⟨s.t,h'⟩
theorem A_rangeB(hgv:evF s.t g=some (.fn gf [.lp id 0]))(hit:zkm P gf els st)(hst:∀ k,(st k).oneCell'=true)(hN:N<=id)(hpe:∀ el∈els,el.length=ps.length/\yas.pureL el=true)(hps:∀ p∈ps,p < N)(hpn:ps.Nodup)(ht0:∀ x y,t0 x=some y->s.t x=some y/\(x < N\/1000000<=x))
  (hk:Nat->Nat->Option LObj) (hv:s.h id=some (.vec [.v (st 0)])) (h0:∀ i o,hk 0 i=some o->s.h i=some o) (round:∀ k el,els[k]?=some el->A P N assign (fun e s1=>e=.normal/\A P N body (xfo t0 (fun j=>ynk id (st k) (hk j)) k (xgn id Q)) s1) ⟨zao t0 ps el,ynk id (st k) (hk k)⟩)
  (done:xgn id Q .normal ⟨t0,ynk id (st els.length) (hk els.length)⟩):A P N (.rangeFunc g ps.toArray assign body) Q s:=by
 refine zuz [id] hgv hit.1 hps hpn t0 ht0 (ynk id (st 0) (hk 0)) (ynk id (st els.length) (hk els.length)) (fun i o ho=>?_) (fun i hi=>?_) (xgn id Q) (fun e h hq=>hq) (fun B Bx okx l rec vt lv lb W1 hL hK0=>?_) done
 .by_cases e:i=id
  .subst e;rw[yne]at ho;cases ho;exact .inr ⟨sm,_,_,rfl,hv⟩
  exact .inl (h0 i o (by simpa[ynk,ycp e]using ho))
 .cases qau.1 hi;exact⟨hN,_,yne⟩
 obtain⟨b,n,hlv,hp⟩:=hL.pin id (List.mem_singleton_self _);have hlb:lb=[Value.pointer (some ⟨b,0,none⟩)]:=by
  have h1:=hL.len
  match lb,h1,hL.caps with
  | [u],_,hc=>
   have:=hc 0 _ u rfl rfl;cases this with
   | lp _ _ h=>rw[h b n hlv]
 subst hlb;exact hit.2 l okx W1 b (fun k W=>yis B Bx okx N l rec t0 vt (rec .ready none) (ynk id (st k) (hk k)) W) (fun k W=>yis B Bx okx N l rec t0 vt (rec .ready none) (ynk id (st k) (hk (k+1))) W)
  (fun W=>∃ (c:Code) (h:Nat->Option LObj),((c=.ret/\xgn id Q .ret ⟨t0,h⟩)\/∃ i,c=.exit i/\xgn id Q (.exit i) ⟨t0,h⟩)/\yis B Bx okx N l rec t0 vt (rec .done (some c)) h W)
  (fun k W' hK=>⟨hK.cellB hL.mx hN hp,hK.glob hL.gl⟩) (fun k W' hK=>hK.cellB hL.mx hN hp) (fun k W2 W3 hK hb=>hK.grow hb) (fun k W2 W3 hK hb=>hK.grow hb) (fun W2 W3 ⟨c,h,hc,hK⟩ hb=>⟨c,h,hc,hK.grow hb⟩) (fun k c e W2 hK hc=>hK.write hL.mx hL.pinx hN hp hc (hst _))
  (fun k el vs W2 hel hK hvs=>hL.yield (fun j=>ynk id (st k) (hk j)) k el vs W2 (hpe el (qab hel)) (round k el hel) hK hvs) hK0
def xly(id:Nat)(l:List (Nat × Option LObj)):Bool:=l.all fun x=>!Nat.beq x.1 id
theorem zfa{id:Nat}:∀ {l:List (Nat × Option LObj)},xly id l=true->∀ i o,yac l i=some o->i ∉ [id]
 | [],_,i,o,h=>by simp[yac]at h
 | (k,x)::l,hl,i,o,h=>by
  simp only[xly,qfg,qad,qbn]at hl;simp only[yac]at h;cases hb:Nat.beq i k with
  | true=>
   rw[qaf hb];intro hm;rw[qau.1 hm]at hl;simp at hl
  | false=>rw[hb]at h;exact zfa (l:=l) hl.2 i o h
theorem zbh{t:List (Nat × AV)}{h:List (Nat × Option LObj)}(id:Nat)(hgv:evF (yak t) g=some (.fn gf [.lp id 0]))(hit:zkm P gf els st)(hst:∀ k,(st k).oneCell'=true)(hN:Nat.ble N id=true)
  (hpe:∀ el∈els,el.length=ps.length/\yas.pureL el=true) (hps:(zql N ps && (yed ps && zql 1000000 ps))=true) (t0:List (Nat × AV)) (ht0:zap t t0) (hlt:zqa N t0=true) (hk:Nat->List (Nat × Option LObj)) (hv:yac h id=some (.vec [.v (st 0)])) (h0:∀ i o,yac (hk 0) i=some o->yac h i=some o) (hoff:xly id (hk els.length)=true)
  (round:∀ k el,els[k]?=some el->A P N assign (fun e s1=>e=.normal/\A P N body (xfo (yak t0) (fun j=>yac ((id,some (.cells [.v (st k)]))::hk j)) k (xgn id Q)) s1) (S (zyp ps el t0) ((id,some (.cells [.v (st k)]))::hk k))) (done:Q .normal (S t0 (hk els.length))):A P N (.rangeFunc g ps.toArray assign body) Q (S t h):=by
 simp only[qad]at hps;have hd:xgn id Q .normal ⟨yak t0,ynk id (st els.length) (yac (hk els.length))⟩:=⟨yac (hk els.length),fun i o ho=>by
  have hn:=zfa hoff i o ho
  refine⟨?_,hn⟩
  have:i≠id:=fun e=>hn (by simp[e])
  simpa[ynk,ycp this]using ho,done⟩
 refine A_rangeB hgv hit hst (by simpa using hN) hpe (yse hps.1) (yhu hps.2.1) (t0:=yak t0) (fun x y hx=>⟨ycd ht0 x y hx,yul hlt x y hx⟩) (fun k=>yac (hk k)) hv h0 (fun k el hel=>?_) hd;refine ypf (round k el hel) ⟨fun x y hx=>zfq hps.2.2 hx,fun id o ho=>ho⟩
theorem rndN_ret{t0' t1:List (Nat × AV)}{hk:Nat->List (Nat × Option LObj)}{h1:List (Nat × Option LObj)}{k:Nat}(hx:List (Nat × Option LObj))(g1:zap t1 (zgw t0'))(g2:yxr h1 hx)(ho:xly id hx=true)(hq:Q .ret (S t0' hx)):xfo (yak t0') (fun k=>yac (hk k)) k (xgn id Q) .ret (S t1 h1):=
 ⟨yac hx,fun x y hx=>ycd g1 _ y (by rw[yoa];exact hx),yah g2,yac hx,fun i o h=>⟨h,zfa ho i o h⟩,hq⟩
end
end
set_option maxHeartbeats 8000000
section
open Go.RowKit
section
variable{P:Program}{n:Nat}{ops:Array Oper}{Q:Exit->Act->World->Prop}{a:Act}{w:World}
theorem opI_call{i d:Nat}{rest:List Nat}{o:Oper}{f:FuncId}{args:Array Value}{R:Ending->World->Prop}(hlt:d < a.tmps.size)(ho:ops[i]?=some o)(hdst:o.dst=some d)(hg:o.guard=none)(hd:yow o.op=false)(hr:(execOp a.eval o).run P w=.ok (.enter f args) w)(hc:Calls P f args w R)
  (k:∀ e w',R e w'->∃ u,e=.returned u/\∀ a':Act,a'.tmps.size=a.tmps.size->a'.defers=a.defers->a'.eval (.tmp d)=u->(∀ x,x≠d->a'.eval (.tmp x)=a.eval (.tmp x))->wpOpsIn Fence.wide n P ops Q rest a' w'):wpOpsIn Fence.wide n P ops Q (i::rest) a w:=by
 have hw:Region.wanted o (yielded ops a.tmps)=true:=by simp[Region.wanted,hg]
 simp only[wpOpsIn,ho,hw,if_true];refine ypa (rd:=none) hd ?_;unfold Oper.wp;rw[hr];refine hc.mono fun e w' hR=>?_;obtain⟨u,rfl,hk⟩:=k e w' hR;show wpOpsIn _ _ _ _ _ _ (a.put o.dst u) w';rw[hdst];exact hk _ ymz yid (yel hlt) fun x hx=>yma hx
theorem opI_skip{i:Nat}{rest:List Nat}{o:Oper}{w':World}(ho:ops[i]?=some o)(hdst:o.dst=none)(hg:o.guard=none)(hd:yow o.op=false)(hr:(execOp a.eval o).run P w=.ok .skip w')(k:wpOpsIn Fence.wide n P ops Q rest a w'):wpOpsIn Fence.wide n P ops Q (i::rest) a w:=by
 have hw:Region.wanted o (yielded ops a.tmps)=true:=by simp[Region.wanted,hg]
 simp only[wpOpsIn,ho,hw,if_true];refine ypa (rd:=none) hd ?_;unfold Oper.wp;rw[hr];show wpOpsIn _ _ _ _ _ _ (a.put o.dst undef) w';rw[hdst];exact k
end
theorem ev_func{a:Act}{f:FuncId}:a.eval (.func f)=.func (.func f) #[] #[]:=rfl
def znr(B:BitVec 32):Value:=.int .u32 (B.toNat:Int)
def ytn(B:BitVec 32):List (List AV):=(ycb B).map fun v:Nat=>[i64 v]
def leftOf(w:World)(b:Nat):Nat:=match w.cell? ⟨b,0,none⟩with
 | some (.int _ z)=>(ycb (BitVec.ofInt 32 z)).length
 | _=>0
theorem zzu.cell{W:World}{b:Nat}{v:Value}(h:zzu W b v):W.cell? ⟨b,0,none⟩=some v:=by
 obtain⟨c,e,h1,h2⟩:=h;simp[World.cell?,h1,h2]
theorem xhb{W:World}{b:Nat}{v:Value}(hv:v.oneCell'=true)(h:W.cell? ⟨b,0,none⟩=some v):(loadVar 50 ⟨b,0,none⟩).run prog W=.ok v W:=by
 obtain⟨u,h1,h2⟩:=ymt (P:=prog) (ok:=fun _=>True) (w:=W) (lv:=fun _=>none) (g:=b) (o:=0) (xs:=[.v v]) (t:=50) (s:=1) (ag:=false) (r:=.v v) (tok _ _ (show TT 50=some _ from rfl)).1 (fun j x hx=>by
  match j with
  | 0=>simp only[qas,Option.some.injEq]at hx;subst hx;exact⟨hv,_,h,.v _⟩
  | j+1=>simp at hx) rfl
 cases h2;exact h1
theorem ysh(B:BitVec 32):zkm prog 180 (ytn B) (fun k=>znr (ysp B k)):=by
 refine⟨⟨_,Tryz.func180,rfl,rfl⟩,fun l ok W b J J' X hJ hJ' hJg hJg' hXg hput hround h0=>?_⟩;refine callsIn_of_wp Tryz.func180 rfl trivial ?_;rw[ntmps180];rw[show (#[Value.func (.yield l) #[] #[]]++[Value.pointer (some ⟨b,0,none⟩)].toArray:Array Value)=[Value.func (.yield l) #[] #[],Value.pointer (some ⟨b,0,none⟩)].toArray by simp];generalize ha:({ tmps:=[Value.func (.yield l) #[] #[],Value.pointer (some ⟨b,0,none⟩)].toArray++Array.replicate (14 - [Value.func (.yield l) #[] #[],Value.pointer (some ⟨b,0,none⟩)].toArray.size) undef,defers:=[] }:Act)=a0;have hs0:a0.tmps.size=14:=by rw[<- ha];simp only[Array.size_append,qhj,qdg,qaj,qew]
 have e0:a0.eval (.tmp 0)=.func (.yield l) #[] #[]:=by rw[<- ha];simp only[Act.eval];exact yfm [Value.func (.yield l) #[] #[],Value.pointer (some ⟨b,0,none⟩)] _ 0 _ rfl
 have e1:a0.eval (.tmp 1)=.pointer (some ⟨b,0,none⟩):=by rw[<- ha];simp only[Act.eval];exact yfm [Value.func (.yield l) #[] #[],Value.pointer (some ⟨b,0,none⟩)] _ 1 _ rfl
 have hd0:a0.defers=[]:=by rw[<- ha]
 clear ha;have hrem:∀ k,(znr (ysp B k)).oneCell'=true:=fun k=>rfl;have hleft:∀ k w,zzu w b (znr (ysp B k))->leftOf w b=(ycb B).length - k:=fun k w h=>by
  unfold leftOf;rw[h.cell];show (ycb (BitVec.ofInt 32 ((ysp B k).toNat:Int))).length=_;rw[yim,zcf,qdj]
 refine wpIn_block (wpIn_loop (fun a w=>∃ k,k<=(ycb B).length/\J k w/\a.tmps.size=14/\a.defers=[]/\a.eval (.tmp 0)=.func (.yield l) #[] #[]/\a.eval (.tmp 1)=.pointer (some ⟨b,0,none⟩)) (fun a w=>leftOf w b) ⟨0,om,h0,hs0,hd0,e0,e1⟩ ?_);clear e0 e1 hs0 hd0 h0 a0;rintro a0 w ⟨k,hk,hj,hs0,hd0,e0,e1⟩;obtain⟨hc,hG⟩:=hJ k w hj;have hl:=xhb (hrem k) hc.cell;refine wpIn_seq (wpIn_seq (wpIn_region ?_));refine ymx (d:=3) (znr (ysp B k)) om rfl rfl rfl rfl (by simp[execOp,e1,Instr.loadAt,Instr.sureAddr,hl]) fun a1 s1 d1 q1 n1=>?_;refine ymx (d:=4) (.bool (ysp B k != 0#32)) om rfl rfl rfl rfl (by
  rw[<- ydd]
  simp[execOp,q1,znr,ymq,eqGuard,binOp,Op.intCmp]) fun a2 s2 d2 q2 n2=>?_
 refine wpIn_cond_split q2 (fun hb=>?_) (fun hb=>?_)
 .have hne:ysp B k≠0#32:=by simpa using hb
  refine wpIn_skip ?_;refine wpIn_seq (wpIn_block (wpIn_seq (wpIn_region ?_)));refine ymx (d:=9) (.func (.yield l) #[] #[]) om rfl rfl rfl rfl (by simp[execOp,n2,n1,e0]) fun a3 s3 d3 q3 n3=>?_;refine ymx (d:=10) (znr (ysp B k)) om rfl rfl rfl rfl (by simp[execOp,n3,n2,n1,e1,Instr.loadAt,Instr.sureAddr,hl]) fun a4 s4 d4 q4 n4=>?_;refine opI_call (d:=11) om rfl rfl rfl rfl (f:=181) (args:=#[znr (ysp B k)]) (by simp[execOp,resolve,invoke,q4,ev_func,Deferred.ofValue,ygm (P:=prog) ⟨_,Tryz.func181,rfl,rfl⟩]) (yzv (tz_con _ hne) (us:=[znr (ysp B k)]) hG (ok:=fun _=>False) (fun _ h=>h.elim) (ybt (.v _) yie)) fun e w' hR=>?_;obtain⟨rfl,hbel⟩:=hR;refine⟨_,rfl,fun a5 s5 d5 q5 n5=>?_⟩;have hj':=hJg k w w' hj hbel;have hkl:k < (ycb B).length:=qfr fun h=>hne (zyj.2 h);have hel:(ytn B)[k]?=some [i64 (tzV (ysp B k):Nat)]:=by
   unfold ytn;rw[qak,rem_at hne];rfl
  have hy:=hround k _ [.int .i64 (tzV (ysp B k):Nat)] w' hel hj' (ybt (.v _) yie);refine zfc (g:=.tmp 9) (args:=#[.tmp 11]) rfl rfl rfl (by rw[n5 9 sm,n4 9 sm,q3]) (R:=fun e W'=>(e=.returned (.bool true)/\J' k W')\/(e=.returned (.bool false)/\X W')) (by simpa[q5]using hy) fun e w2 hR2=>?_;have e0':a5.eval (.tmp 0)=.func (.yield l) #[] #[]:=by rw[n5 0 sm,n4 0 sm,n3 0 sm,n2 0 sm,n1 0 sm,e0]
  have e1':a5.eval (.tmp 1)=.pointer (some ⟨b,0,none⟩):=by rw[n5 1 sm,n4 1 sm,n3 1 sm,n2 1 sm,n1 1 sm,e1]
  have hd5:a5.defers=[]:=by rw[d5,d4,d3,d2,d1,hd0]
  have hs5:a5.tmps.size=14:=by omega
  rcases hR2 with⟨rfl,hj1⟩|⟨rfl,hx⟩
  .refine ⟨_,rfl,?_⟩;show wpOpsIn _ _ _ _ _ _ (a5.put (some 12) (.bool true)) w2;have s6:(a5.put (some 12) (.bool true)).tmps.size=14:=by rw[ymz,hs5]
   have d6:(a5.put (some 12) (.bool true)).defers=[]:=by rw[yid,hd5]
   have q6:(a5.put (some 12) (.bool true)).eval (.tmp 12)=.bool true:=yel om;have n6:∀ x,x≠12->(a5.put (some 12) (.bool true)).eval (.tmp x)=a5.eval (.tmp x):=fun x hx=>yma hx;generalize a5.put (some 12) (.bool true)=a6 at s6 d6 q6 n6 ⊢;refine ymx (d:=13) (.bool false) om rfl rfl rfl rfl (by simp[execOp,q6,Op.unary]) fun a7 s7 d7 q7 n7=>?_;refine wpIn_cond_false q7 (wpIn_skip ?_);have hc2:=hJ' k w2 hj1;have hl2:=xhb (hrem k) hc2.cell;obtain⟨c,e,hb2,hc0⟩:=hc2;have hsz:0 < c.size:=(qaz.1 hc0).1;have f1:a7.eval (.tmp 1)=.pointer (some ⟨b,0,none⟩):=by rw[n7 1 sm,n6 1 sm,e1']
   refine wpIn_region ?_;refine ymx (d:=5) (znr (ysp B k)) om rfl rfl rfl rfl (by simp[execOp,f1,Instr.loadAt,Instr.sureAddr,hl2]) fun a8 s8 d8 q8 n8=>?_;refine ymx (d:=6) (znr (ysp B k)) om rfl rfl rfl rfl (by simp[execOp,n8,f1,Instr.loadAt,Instr.sureAddr,hl2]) fun a9 s9 d9 q9 n9=>?_;refine ymx (d:=7) (znr (ysp B k - 1#32)) om rfl rfl rfl rfl (by
    have:=znd (ysp B k) 1#32
    simp only[BitVec.toNat_ofNat,Nat.reducePow,Nat.reduceMod,Int.cast_ofNat_Int]at this
    simp[execOp,q9,znr,ymq,eqGuard,binOp,Op.intArith,this]) fun a10 s10 d10 q10 n10=>?_
   obtain⟨X,hX⟩:∃ X,X=ysp B k - 1#32:=⟨_,rfl⟩;obtain⟨Z,hZ⟩:∃ Z,Z=ysp B (k+1):=⟨_,rfl⟩;rw[<- hX]at q10;refine ymx (d:=8) (znr Z) om rfl rfl rfl rfl (by
    have:=zvl (ysp B k) X
    rw[show ysp B k &&& X=Z by rw[hZ,hX];rfl]at this
    simp[execOp,q10,n10,n9,q8,znr,eqGuard,binOp,this]) fun a11 s11 d11 q11 n11=>?_
   rw[hZ]at q11;have f2:a11.eval (.tmp 1)=.pointer (some ⟨b,0,none⟩):=by rw[n11 1 sm,n10 1 sm,n9 1 sm,n8 1 sm,f1]
   have hst:=run_storeCells_at prog b 0 e [znr (ysp B (k+1))] 0 c w2 hb2 so (fun v hv=>by cases qau.1 hv;rfl);simp only[qdv]at hst;have hszr:yix prog 50 1 false:=(tok _ _ (show TT 50=some _ from rfl)).1;have hcl:(znr (ysp B (k+1))).cells=#[znr (ysp B (k+1))]:=rfl;refine opI_skip (w':=w2.setRow b (xao c (znr (ysp B (k+1))))) rfl rfl rfl rfl (by
    simp[execOp,f2,q11,Instr.storeAt,Instr.sureAddr,storeVar,(hszr.run (w:=w2)).1,hcl,hst,xao]) ?_
   have hj2:=hput k c e w2 hj1 hb2;refine⟨⟨k+1,om,hj2,om,by rw[d11,d10,d9,d8,d7,d6],by rw[n11 0 sm,n10 0 sm,n9 0 sm,n8 0 sm,n7 0 sm,n6 0 sm,e0'],f2⟩,?_⟩;rw[hleft _ _ (hJ _ _ hj2).1,hleft _ _ hc];omega
  refine⟨_,rfl,?_⟩;show wpOpsIn _ _ _ _ _ _ (a5.put (some 12) (.bool false)) w2;have s6:(a5.put (some 12) (.bool false)).tmps.size=14:=by rw[ymz,hs5]
  have d6:(a5.put (some 12) (.bool false)).defers=[]:=by rw[yid,hd5]
  have q6:(a5.put (some 12) (.bool false)).eval (.tmp 12)=.bool false:=yel om;generalize a5.put (some 12) (.bool false)=a6 at s6 d6 q6 ⊢;refine ymx (d:=13) (.bool true) om rfl rfl rfl rfl (by simp[execOp,q6,Op.unary]) fun a7 s7 d7 q7 n7=>?_;refine wpIn_cond_true q7 (wpIn_ret ?_);refine⟨?_,.tuple #[],?_,⟨_,rfl⟩,.inr hx⟩
  .show a7.defers=[];rw[d7,d6]
  simp[results,Tryz.results180]
 have h0:ysp B k=0#32:=by simpa using hb
 have hk2:=zyj.1 h0;obtain rfl:k=(ycb B).length:=by omega
 refine wpIn_exit ?_;refine⟨?_,.tuple #[],?_,⟨_,rfl⟩,.inl ?_⟩
 .show a2.defers=[];rw[d2,d1,hd0]
 .simp [results,Tryz.results180]
 rw[show (ytn B).length=(ycb B).length by simp[ytn]];exact hj
end
section
open Go.RowKit
structure Ren (n:Nat) (f i:Nat->Nat):Prop where
 lt:∀ v,v < n->f v < n
 ilt:∀ v,v < n->i v < n
 back:∀ v,v < n->i (f v)=v
 forth:∀ v,v < n->f (i v)=v
theorem Ren.inj{f i:Nat->Nat}(h:Ren n f i)(hu:u < n)(hv:v < n)(e:f u=f v):u=v:=by
 rw[<- h.back u hu,<- h.back v hv,e]
def renL{α:Type}(i:Nat->Nat)(l:List α)(d:α):List α:=(List.range l.length).map fun u=>l.getD (i u) d
section
variable{g:GraphD}{f i:Nat->Nat}
def rootB(op:Int):Bool:=op == 10 || op == 15
end
end
section
open Go.RowKit
def xky(l:List Tm):Bool:=l.any fun t=>rootB t.1
def xkz(p:ProgD):Bool:=p.rules.any fun r=>xky r.guard || r.sets.any fun x=>xky x.val
section
variable{g:GraphD}{f i:Nat->Nat}
section
variable{p:ProgD}(hp:yet p=0)(hr:xkz p=false)(hg:ycf g=true){c:List (List Int)}(hl:c.length=g.ports.length)(R:Ren g.ports.length f i)
include hp hr hg hl R
end
def InN(n:Nat)(B:BitVec 32):Prop:=∀ u,n<=u->B.getLsbD u=false
theorem xha{n:Nat}{A:BitVec 32}(h:A &&& ~~~B=0#32)(hB:InN n B):InN n A:=fun u hu=>by
 rcases qbh u 32 with h1|h1
 .have:=congrArg (fun X=>BitVec.getLsbD X u) h;simp only[qbi,qcy,qbs,hB u hu]at this;simpa[h1]using this
 exact qcg _ _ h1
end
end
set_option maxHeartbeats 4000000
section
open Go.RowKit
variable{P:Program}{N:Nat}{Q:Exit->SS->Prop}{t:List (Nat × AV)}
theorem A_freezeRows{c:Code}{t':List (Nat × AV)}{h f f':List (Nat × Option LObj)}{M:Nat}{els:List (List (List AV))}{sz:Nat}(hh:yac h=yac (f++ybz M sz (els.map List.flatten) []))(ht':zap t t')(ht:xfj t'=true)(hf:zqk f=true)(hf':yxr f f')(hl':zqk f'=true)(hM:Nat.blt M 1000000=true)(hkey:(f.all fun x=>!Nat.beq x.1 M)=true)(hkey':(f'.all fun x=>!Nat.beq x.1 M)=true)(hs:0 < sz)(hsz:∀ r∈els,∀ e∈r,e.length=sz)
  (k:A P N c Q (S t' ((M,some (.vec (els.map fun r=>.sl sz r)))::f'))):A P N c Q (S t h):=by
 have hS:S t h=S t (f++ybz M sz (els.map List.flatten) []):=by unfold S;rw[hh]
 rw[hS];intro B ok0 lv a w hs0;have hM':M < 1000000:=by simpa using hM
 have hfl:=ysc hf;have hkn:=yls hkey;have hkn':=yls hkey'
 let lv':Live:=fun j=>match yac ((M,some (LObj.vec (els.map fun r=>.sl sz r)))::f') j with|some _=>lv j|none=>none
 have hlv:∀ j b n,lv' j=some (b,n)->lv j=some (b,n)/\j < 1000000:=by
  intro j b n hj;simp only[lv']at hj;split at hj
  .rename_i o ho;refine⟨hj,?_⟩;by_cases hjM:j=M
   .omega
   rw[yap hjM]at ho;exact(ylv hl' j o ho).2
  cases hj
 have hok:∀ g,yba B ok0 lv w g->yba B ok0 lv' w g:=fun g hg=>⟨hg.1,hg.2.1,fun j b m hj=>hg.2.2 j b m (hlv j _ m hj).1⟩;have hfree:∀ i b n,lv (fam M i)=some (some b,n)->yba B ok0 lv' w b:=fun i b n hb=>by
  obtain⟨_,_,h1,h2,_⟩:=hs0.inv.lvat hb;refine⟨.inr h1,h2,fun j b' m hj e=>?_⟩;subst e;obtain⟨g1,g2⟩:=hlv j _ m hj;have:=hs0.inv.inj _ _ _ _ _ hb g1;have:=yfw M i;omega
 have hre:∀ (x:AV) (u:Value),Rel (yba B ok0 lv w) w lv x u->Rel (yba B ok0 lv' w) w lv' x u:=fun x u hr=>
  (hr.relive fun j b m hj hm=>(hlv j b m hj).1).keep fun g hg=>⟨hok g hg,rfl⟩
 refine k B ok0 lv' a w ⟨⟨hs0.inv.base,hs0.inv.ok0lt,fun j hj=>?_,fun i j b m q h1 h2=>hs0.inv.inj i j b m q (hlv i _ m h1).1 (hlv j _ q h2).1,fun j x hj=>?_⟩,hs0.size,fun x y hy=>?_,hs0.defers,hs0.big,fun j b o hN hj hc hb=>?_⟩
 .show lv' j=none;simp only[lv'];have hj:yac ((M,some (LObj.vec (els.map fun r=>.sl sz r)))::f') j=none:=hj;rw[hj]
 .have hj:yac ((M,some (LObj.vec (els.map fun r=>.sl sz r)))::f') j=some x:=hj;have e1:lv' j=lv j:=by simp only[lv',hj]
  by_cases hjM:j=M
  .subst hjM;rw[ybb]at hj;cases hj;obtain⟨b,n,g1,g2⟩:=hs0.inv.obj j _ (ybo (sz:=sz) (rows:=els.map List.flatten) (extra:=[]) hkey);refine⟨b,n,by rw[e1];exact g1,?_⟩;rw[qba]at g2;cases b with
   | none=>
    have:=ygs g2;have hl:=congrArg List.length this;rw[ydz,qai]at hl;have:els=[]:=qax hl;subst this;exact .inl rfl
   | some b=>
    obtain⟨q1,q2,q3⟩:=g2;obtain⟨c,e,g1',g2',g3,g4,g5⟩:=yfb.1 q3;refine⟨q1,q2,⟨c,e,g1',g2',by rw[ydz]at g3;simpa using g3,fun y hy=>?_,fun k y u hy hu=>?_⟩,fun y hy=>?_⟩
    .obtain ⟨r,_,rfl⟩:=qag.1 hy;rfl
    .rw [qak]at hy;cases hr:els[k]? with
     | none=>rw[hr]at hy;cases hy
     | some r=>
      rw[hr]at hy;cases hy;have hcell:(yfe j sz 0 (els.map List.flatten))[k]?=some (.ls (fam j k) sz (r.flatten.length / sz)):=by
       rw[yej,qak,hr];simp
      have hrel:=g5 k _ u hcell hu;have hrow:=ylx (f:=f) (sz:=sz) (rows:=els.map List.flatten) (extra:=[]) hfl hM' (i:=k) (r:=r.flatten) (by rw[qak,hr];rfl);have hr1:∀ e∈r,e.length=sz:=hsz r (qab hr);have hfl2:r.flatten.length / sz=r.length:=by
       have:∀ r:List (List AV),(∀ e∈r,e.length=sz)->r.flatten.length=r.length * sz:=by
        intro r;induction r with
        | nil=>intro _;simp
        | cons e r ih=>
         intro he;rw[qcc,qan,ih fun e h=>he e (by simp[h]),he e sm,qaj,qdi,qda]
       rw[this r hr1];exact Nat.mul_div_cancel _ hs
      rw[hfl2]at hrel;refine zjn (ysd hs0.inv hrel (by show ycw (yac _ _)=_;rw[hrow];rfl) rfl hr1 rfl (fun x hx i=>?_) _ hok (fun b n hb=>hfree _ b n hb)) rfl;obtain⟨b',n',p1,p2⟩:=hs0.inv.obj _ _ hrow;cases b' with
      | none=>
       rcases p2 with p2|⟨e,p2⟩
       .simp only[LObj.vec.injEq]at p2;rw[p2]at hx;simp at hx
       cases p2
      | some b'=>exact yas.ment (p2.2.2.2 x hx)
    obtain⟨r,_,rfl⟩:=qag.1 hy;rfl
  rw[yap hjM]at hj;have hj0:=yah hf' j x hj;obtain⟨b,n,g1,g2⟩:=hs0.inv.obj j x (yft hj0);refine⟨b,n,by rw[e1];exact g1,?_⟩;cases b with
  | none=>exact g2
  | some b=>exact⟨g2.1,g2.2.1,(g2.2.2.relive fun j' b n hb _=>(hlv j' b n hb).1).keep (fun g hg=>⟨hok g hg,rfl⟩) rfl⟩
 .have:=ycd ht' x y hy;exact⟨(hs0.frame x y this).1,hre y _ (hs0.frame x y this).2⟩
 have hj:yac ((M,some (LObj.vec (els.map fun r=>.sl sz r)))::f') j=some o:=hj;have e1:lv' j=lv j:=by simp only[lv',hj]
 by_cases hjM:j=M
 .subst hjM;rw[ybb]at hj;cases hj;cases hc
 rw[yap hjM]at hj;obtain⟨n,hn⟩:=hs0.pin j b o hN (yft (yah hf' j o hj)) hc hb;exact⟨n,by rw[e1];exact hn⟩
end
set_option maxHeartbeats 8000000
section
open Go.RowKit
theorem zlj{l:List Int}(hx:h id=some (.vec (l.map i64)))(hn:n=l.length):Frz h (.ls id 1 n) (yai l):=by
 subst hn;exact Frz.ls (rows:=l.map fun z=>[i64 z]) (by rw[hx];rfl) sm (by intro r hr;obtain⟨z,_,rfl⟩:=qag.1 hr;rfl) (ydo l) (by intro x hx i;obtain⟨z,_,rfl⟩:=qag.1 hx;rfl)
theorem zna{s:Scn}:∀ (l:List SetD) (st:List Int),(l.foldl (xhj p tbl s) st).length=st.length
 | [],st=>rfl
 | x::l,st=>by rw[qcr,zna l];simp[xhj]
theorem zqp(h:CfgOk p g c)(hv:v < c.length){r:RuleD}(hr:p.rules[i]?=some r):Con prog 124 [ygw p g,ycj c,i64 v,i64 i] (yai (xix p (yaf p g) ⟨g,c,v⟩ i)):=by
 obtain⟨st,hst⟩:=ybk hv;obtain⟨b,hb,hsb⟩:=h.row hst;have hbl:=ykf hb;have hsl:=(yci hsb).1;have h6:=h.vars6;have hrs:r.sets.length<=1000:=(h.fair.light.2.2 r (qab hr)).2.1;have hcv:c.getD v []=st:=by rw[qac,hst];rfl
 let row:Nat->List Int:=fun j=>(r.sets.take j).foldl (xhj p (yaf p g) ⟨g,c,v⟩) st
 have hrl:∀ j,(row j).length=p.vars.length:=fun j=>by simp only[row];rw[zna];omega
 refine ze Tryz.func124 ntmps124 Tryz.results124 ?_
 (repeat (first|refine zy ?_|refine zcu tok rfl rfl rfl (by intro c hc;rw[ydo]at hc;obtain⟨x,_,rfl⟩:=qag.1 hc;rfl) (by constructor <;> simp <;> omega) rfl rfl rfl rfl rfl ?_))
 refine ybw (α:=Nat) (fun j=>[(28,i64 j),(27,i64 r.sets.length),(26,.sl 2 (r.sets.map zid)),(9,.ls 17 1 p.vars.length),(0,ygw p g),(1,ycj c),(2,i64 v)]) (fun j=>[(17,some (.vec ((row j).map i64)))]) (fun j=>r.sets.length - j) (fun j=>j<=r.sets.length) 0 om ?_ (hsE ?_) ?_
 .refine yan rfl (yan rfl (yan rfl (yan (yes rfl (by rw[qai,hsl,hbl])) zs)))
 .rw [ydo];rfl
 intro j hj;refine zY ?_;refine zj ?_ ?_ <;> intro h1
 .simp at h1;obtain⟨x,hx⟩:=ybk h1;have hty:=xhk h.prog (qab hr) (qab hx);obtain⟨y,hy⟩:=ybk (show x.var.toNat < p.vars.length by omega);obtain⟨q,hq⟩:=ybk (show x.var.toNat < b.length by omega)
  (repeat (first|refine zy ?_|refine zc (zzi h hv hty.2.2) ?_|refine zc (bring_con _ _ _ _) ?_))
  have hbr:yjo p (yaf p g) v x.var.toNat ((⟨g,c,v⟩:Scn).of x.val)=yiy y.kind q.1 q.2 ((⟨g,c,v⟩:Scn).of x.val):=by
   simp only[yjo,qac,hy,hb,qbu,hq]
  have hnext:row (j+1)=(row j).set x.var.toNat (yiy y.kind q.1 q.2 ((⟨g,c,v⟩:Scn).of x.val)):=by
   simp only[row];rw[yao hx,qcx,qcr,qhp,xhj,hbr]
  refine yat tok rfl rfl rfl rfl hty.1 om rfl rfl ?_;refine ygo tok rfl rfl rfl rfl rfl rfl (by rw[qai,hrl];omega) rfl (congrArg (fun z=>yac ((17,some (LObj.vec z))::_)) (show _=(row (j+1)).map i64 by rw[qgv,hnext,qdx])) rfl rfl ?_;refine zY ?_;exact yhi (j+1) om om zs (yah (yab rfl yag))
 simp at h1;obtain rfl:j=r.sets.length:=by omega
 refine zk ?_;have e:xix p (yaf p g) ⟨g,c,v⟩ i=row r.sets.length:=by simp only[xix,hr,hcv,row,qaw]
 rw[e];exact zlj rfl (hrl _).symm
end
section
open Go.RowKit
theorem zum{s:Scn}(h:0<=xap p s):∃ (i:Nat) (r:RuleD),xap p s=i/\p.rules[i]?=some r:=by
 unfold xap at *;rcases zwy (p.rules.map fun r=>s.of r.guard) 0 with e|⟨e1,e2⟩
 .omega
 obtain⟨r,hr⟩:=ybk (show (zax (p.rules.map fun r=>s.of r.guard) 0).toNat < p.rules.length by simp at e2;omega);exact⟨_,r,om,hr⟩
def zsb(p:ProgD)(g:GraphD)(c:List (List Int))(set:BitVec 32)(k:Nat):List (List Int):=(yut p g c set).take k++c.drop k
theorem zsd:zsb p g c set 0=c:=by simp[zsb]
theorem zzb:zsb p g c set c.length=yut p g c set:=by
 unfold zsb;rw[qal (by simp[yri]),qcb,qba]
theorem znc(hk:k<=c.length):(zsb p g c set k).length=c.length:=by
 simp[zsb,yri];omega
theorem zfy{r:List Int}(hr:c[k]?=some r):zsb p g c set (k+1)=(zsb p g c set k).set k (if set.getLsbD k then znq p g c k else r):=by
 have hk:=(qaa.1 hr).1;have hs:=zuq (p:=p) (g:=g) (set:=set) hr;unfold zsb;rw[yao hs,qbo _ _ (by simp[yri];omega)];have e:((yut p g c set).take k).length=k:=by simp[yri];omega
 rw[e,qbm,qbd];congr 1;have hd:c.drop k=r::c.drop (k+1):=by
  rw[<- (qaa.1 hr).2,List.getElem_cons_drop]
 rw[hd];rfl
theorem stpK_at(hk:k < c.length):(zsb p g c set k)[k]?=c[k]?:=by
 have e:((yut p g c set).take k).length=k:=by simp[yri];omega
 unfold zsb;rw[qah om,e,qbm,qby,qdv]
theorem zsc(hk:k < c.length)(hs:set.getLsbD k=false):zsb p g c set (k+1)=zsb p g c set k:=by
 obtain⟨r,hr⟩:=ybk hk;have hat:=stpK_at (p:=p) (g:=g) (set:=set) hk;rw[zfy hr,hs,if_neg sm];apply qdt;intro j;rw[qdb];split
 .rename_i e;subst e;rw[if_pos (by rw[znc om];exact hk),hat,hr]
 rfl
theorem zcp{P:Program}{N:Nat}{t:List (Nat × AV)}{code:Code}{t':List (Nat × AV)}{h f f':List (Nat × Option LObj)}{M:Nat}(hh:yac h=yac (f++ybz M 1 (yek c) []))(ht':zap t t')(ht:xfj t'=true)(hf:zqk f=true)(hf':yxr f f')(hl':zqk f'=true)(hM:Nat.blt M 1000000=true)(hkey:(f.all fun x=>!Nat.beq x.1 M)=true)(hkey':(f'.all fun x=>!Nat.beq x.1 M)=true)(k:A P N code Q (S t' ((M,some (.vec (c.map yai)))::f'))):A P N code Q (S t h):=by
 refine A_freezeRows (els:=c.map fun r=>r.map fun x=>[i64 x]) (sz:=1) (f:=f) (M:=M) ?_ ht' ht hf hf' hl' hM hkey hkey' om (by intro r hr e he;obtain⟨r0,_,rfl⟩:=qag.1 hr;obtain⟨q,_,rfl⟩:=qag.1 he;rfl) ?_
 .have:(c.map fun r=>r.map fun x=>[i64 x]).map List.flatten=yek c:=by
   simp only[yek,qen];congr 1;funext r;exact ydo r
  rw[hh,this]
 rw[qen];exact k
theorem zww(hx:h id=some (.vec (c.map yai)))(hn:n=c.length):Frz h (.ls id 1 n) (ycj c):=by
 subst hn;refine Frz.ls (rows:=c.map fun r=>[yai r]) (by rw[hx];rfl) sm (by intro r hr;obtain⟨z,_,rfl⟩:=qag.1 hr;rfl) ?_ (by intro x hx i;obtain⟨z,_,rfl⟩:=qag.1 hx;rfl);clear hx;induction c with
 | nil=>rfl
 | cons r c ih=>simp[ih]
theorem mstep_con(h:CfgOk p g c)(set:BitVec 32)(hset:∀ v:Nat,v < c.length->set.getLsbD v=true->yry p g c v=true):Con prog 154 [ygw p g,ycj c,yav set] (ycj (yut p g c set)):=by
 have h24:=h.n24;have hl:=h.len;have h6:=h.vars6;have hrows:∀ r∈c,r.length<=1000:=fun r hr=>by have:=h.rowlen r hr;omega
 refine ze Tryz.func154 ntmps154 Tryz.results154 ?_
 (repeat (first|refine zy ?_|refine zcw (zwe c om hrows) rfl rfl rfl rfl rfl rfl rfl rfl rfl rfl rfl rfl rfl ?_))
 refine zcp (f:=[]) (f':=[]) (M:=10) (c:=c) (t':=[(13,i64 (0:Nat)),(12,i64 c.length),(7,.ls 10 1 c.length),(0,ygw p g),(1,ycj c),(2,yav set)]) rfl zs rfl rfl yag rfl rfl rfl rfl ?_;refine ybw (α:=Nat) (fun k=>[(13,i64 k),(12,i64 c.length),(7,.ls 10 1 c.length),(0,ygw p g),(1,ycj c),(2,yav set)]) (fun k=>[(10,some (.vec ((zsb p g c set k).map yai)))]) (fun k=>c.length - k) (fun k=>k<=c.length) 0 om zs (hsE (by rw[zsd])) ?_;intro k hk;refine zY ?_;refine zj ?_ ?_ <;> intro h1
 .simp at h1;obtain⟨st,hst⟩:=ybk h1;have hkl:=znc (p:=p) (g:=g) (set:=set) hk
  (try refine zb ?_)
  refine zj ?_ ?_ <;> intro h2
  .rw [zun]at h2;have h2:set.getLsbD k=true:=by simpa using h2
   have hen:=hset k h1 h2;obtain⟨i,r,hi,hr⟩:=zum (p:=p) (s:=⟨g,c,k⟩) (by simpa[yry]using hen)
   (repeat (first|refine zy ?_|refine ypg rfl rfl (ywf h h1) rfl rfl (yno 29 (y:=i64 i) rfl (yka hi) ?_)|refine zc (zqp h h1 hr) ?_))
   have hrow:xix p (yaf p g) ⟨g,c,k⟩ i=znq p g c k:=by unfold znq;rw[hi];rfl
   refine yat tok rfl rfl rfl rfl om om rfl rfl ?_;refine ygo tok rfl rfl rfl rfl rfl rfl (by rw[qai,hkl];omega) rfl (congrArg (fun z=>yac ((10,some (LObj.vec z))::_)) (show _=(zsb p g c set (k+1)).map yai by rw[zfy hst,h2,if_pos rfl,qdx,hrow];simp)) rfl rfl ?_;refine zY ?_;exact yhi (k+1) om om zs (yah (yab rfl yag))
  rw[zun]at h2;have h2:set.getLsbD k=false:=by simpa using h2
  refine zY ?_;refine yhi (k+1) om om zs (hsE (by rw[zsc h1 h2]))
 simp at h1;obtain rfl:k=c.length:=by omega
 refine zk ?_;rw[zzb];exact zww rfl (by rw[yri])
end
section
open Go.RowKit
theorem yud(hc:c.length<=24)(v:Nat):(ydc p g c).getLsbD v=(decide (v < c.length) && yry p g c v):=by
 unfold ydc;rcases qbh v 32 with h|h
 .exact yhm _ _ _ h
 rw[qcg _ _ h,show decide (v < c.length)=false by simp;omega];rfl
theorem zus{A:BitVec 32}(h:A &&& ~~~B=0#32)(hv:A.getLsbD v=true):B.getLsbD v=true:=by
 rcases qbh v 32 with h9|h9
 .have:=congrArg (fun X=>BitVec.getLsbD X v) h;simp only[qbi,qcy,hv,qbs,qfe]at this;simpa[h9]using this
 rw[qcg _ _ h9]at hv;cases hv
theorem CfgOk.step{p:ProgD}{g:GraphD}{c:List (List Int)}(h:CfgOk p g c)(set:BitVec 32):CfgOk p g (yut p g c set):=⟨h.fair,stp_check h.fair h.chk set⟩
end
section
open Go.RowKit
def yxk(e w:BitVec 32):BitVec 32:=if w &&& e=0#32 then e &&& -e else w &&& e
def zll(g:GraphD)(w:BitVec 32):BitVec 32:=(List.range 24).foldl (fun B v=>if w.getLsbD v && ((ywh g).getD v 0#32 &&& B == 0#32)then B ||| (1#32 <<< v)else B) 0#32
def xkw(g:GraphD)(kind:Int)(e w:BitVec 32):BitVec 32:=if kind=1 then yxk e w &&& -(yxk e w)else if kind=2 then zll g (yxk e w)else if kind=4 then e else yxk e w
theorem resolve_con(g:GraphD)(kind:Int)(hk:kind=1\/kind=3\/kind=4)(e w:BitVec 32):Con prog 101 [yyu g,i64 kind,yav e,yav w] (yav (xkw g kind e w)):=by
 refine ze Tryz.func101 ntmps101 Tryz.results101 ?_
 (try refine zq ?_)
 refine yzn [(3,yav (yxk e w)),(2,yav e),(1,i64 kind),(4,.lp 4 0)] [(4,some (.cells [yyu g]))] ?_ ?_
 .refine zj ?_ ?_ <;> intro h1
  .rw [yct]at h1;have h1:w &&& e=0#32:=by simpa using h1
   (try refine zq ?_)
   refine mid (yan (yes rfl ?_) zs) zh;rw[yxk,if_pos h1]
  rw[yct]at h1;have h1:¬ w &&& e=0#32:=by simpa using h1
  refine zY ?_;refine mid (yan (yes rfl ?_) zs) zh;rw[yxk,if_neg h1]
 rcases hk with rfl|rfl|rfl
 ·(try refine zq ?_)
  exact zp
 .exact zkp
 exact zkp
def zmw(p:ProgD)(g:GraphD)(kind:Int)(see:AV):AV:=.agg [ygw p g,yyu g,i64 kind,yav (xio g.ports.length),see]
theorem ykv(p:ProgD)(g:GraphD)(hf:Fair p g)(h0:ycv p g=0)(kind:Int)(f:Nat):Con prog 39 [ygg p,yev g,i64 kind,.fn f []] (zmw p g kind (.fn f [])):=by
 have hg:=(ydk.1 h0).2.1;refine ycx tok Tryz.func39 rfl rfl ntmps39 Tryz.results39 rfl rfl ?_
 (repeat (first|refine zy ?_|refine zc (zai p g hf h0) ?_|refine zc (zjj g hg) ?_|refine zc (alld_con g hg) ?_))
 exact zp
theorem ynb(h:CfgOk p g c)(kind:Int)(hk:1<=kind/\kind<=4)(n:Nat)(hn:n<=4096):Con prog 38 [ygg p,yev g,i64 kind,ycj c,i64 n] (i64 0):=by
 have hm:=zjd p g c h.fair h.cin;rw[h.chk]at hm;refine ze Tryz.func38 ntmps38 Tryz.results38 ?_
 (repeat (first|refine zz ?_|refine zc (zic kind hk) ?_))
 refine zj ?_ ?_ <;> intro h1
 .simp at h1;omega
 exact zkp
theorem ziu(c:List (List Int))(e:BitVec 32)(k:CntD):Con prog 40 [ycj c,yav e,.agg (yfi k)] (.tup []):=by
 refine ze Tryz.func40 ntmps40 Tryz.results40 ?_;refine zY ?_;exact⟨_,rfl,Frz.pure⟩
structure RunD where
 c:List (List Int)
 e:BitVec 32
 k:CntD
 ch:List (BitVec 32)
 en:List (BitVec 32)
def zhe(p:ProgD)(g:GraphD)(c:List (List Int)):RunD:=⟨c,ydc p g c,ymn (ydc p g c),[],[ydc p g c]⟩
def yxq(p:ProgD)(g:GraphD)(S:RunD)(set:BitVec 32):RunD:=
 ⟨yut p g S.c set,ydc p g (yut p g S.c set),zgq S.k set (ydc p g (yut p g S.c set)),S.ch++[set],S.en++[ydc p g (yut p g S.c set)]⟩
def yuf(p:ProgD)(g:GraphD)(kind:Int)(ch:Nat->BitVec 32->BitVec 32 × Bool):Nat->Nat->RunD->Option RunD
 | 0,i,S=>some S
 | m+1,i,S=>if (ch i S.e).2=true then(if zce g kind S.e (ch i S.e).1=true then yuf p g kind ch m (i+1) (yxq p g S (ch i S.e).1)else none)else some S
def yiq(S:RunD):AV:=.agg ([ydh S.ch,ydh S.en,ycj S.c]++yfi S.k)
def zas:Option RunD->AV
 | some S=>.tup [yiq S,i64 0]
 | none=>.tup [.agg [ydh [],ydh [],ycj [],i64 0,i64 0,i64 0,i64 0,yav 0#32],i64 11]
end
section
open Go.RowKit
theorem frz_none:Frz h (.tup [.agg [.v (.slice none 0 0),.v (.slice none 0 0),.v (.slice none 0 0),i64 0,i64 0,i64 0,i64 0,yav 0#32],i64 11]) (zas none):=by
 refine Frz.tup2 (Frz.aggL rfl rfl fun i x y hx hy=>?_) Frz.pure;have hi:=(qaa.1 hx).1;have:i=0\/i=1\/i=2\/i=3\/i=4\/i=5\/i=6\/i=7:=by simp at hi;omega
 rcases this with rfl|rfl|rfl|rfl|rfl|rfl|rfl|rfl <;> simp only[qas,qca,Option.some.injEq]at hx hy <;> subst hx hy
 .exact Frz.nil
 .exact Frz.nil
 .exact Frz.nil
 .exact Frz.pure
 .exact Frz.pure
 .exact Frz.pure
 .exact Frz.pure
 exact Frz.pure
theorem zhn{k:CntD}{a b:BitVec 32}:(zgq k a b).steps=k.steps+1:=by unfold zgq;split <;> rfl
theorem ymf:∀ R:Option RunD,yas (zas R)=true
 | none=>rfl
 | some S=>rfl
def exH(S:RunD):List (Nat × Option LObj):=[(12,some (.cells (yfi S.k))),(10,some (.cells [.ls 100 1 S.ch.length,.ls 101 1 S.en.length,.v (.slice none 0 0),i64 0,i64 0,i64 0,i64 0,yav 0#32])),(100,some (.vec (S.ch.map yav))),(101,some (.vec (S.en.map yav)))]
theorem zwn(h:CfgOk p g c)(kind:Int)(n:Nat)(hn:n<=4096){f:Nat}{caps:List AV}(hcaps:(∃ r,caps=[.dp r 0])\/∃ r s,caps=[.dp r 0,.dp s 0])(ch:Nat->BitVec 32->BitVec 32 × Bool)(hch:∀ (i:Nat) (S:RunD),i < n->CfgOk p g S.c->S.e=ydc p g S.c->Con prog f ([i64 i,yav S.e]++caps) (.tup [yav (ch i S.e).1,yau (ch i S.e).2]))(hper:∀ (d:List (List Int)) (s:BitVec 32),CfgOk p g d->Con prog 153 [yyu g,i64 kind,yav (ydc p g d),yav s] (yau (zce g kind (ydc p g d) s))):
  Con prog 88 [zmw p g kind (.fn 40 []),ycj c,i64 n,.fn f caps] (zas (yuf p g kind ch n 0 (zhe p g c))):=by
 have h24:=h.n24;have hlen:=h.len;have h6:=h.vars6;have hrows:∀ r∈c,r.length<=1000:=fun r hr=>by have:=h.rowlen r hr;omega
 have hcopy:=zib (zwe c om hrows) (r':=ycj c) rfl (yym (f:=[]) (M:=8) (n:=c.length) rfl rfl rfl rfl rfl);have hand:∀ d,CfgOk p g d->ydc p g d &&& xio g.ports.length=ydc p g d:=fun d hd=>by
  have hl:=hd.len;apply qbr;intro i hi;rw[qbi,allV_bit _ h24 i hi,yud om,hl];cases decide (i < g.ports.length) <;> simp
 rcases hcaps with⟨r0,rfl⟩|⟨r0,s0,rfl⟩
 all_goals
  refine ycx tok Tryz.func88 rfl rfl ntmps88 Tryz.results88 rfl (ymf _) ?_
  (repeat (first|with_reducible refine yeo ?_|with_reducible refine ycy ?_|refine ydu ?_));refine ysv ?_;refine ydb (lf:=lfT) rfl ?_
  refine zO ?_;refine zt ?_;refine ydb (lf:=lfT) rfl ?_;refine zO ?_;refine zt ?_;refine znt 10 0 100 1 rfl rfl rfl rfl rfl ?_;refine znt 10 1 101 1 rfl rfl rfl rfl rfl ?_
  (repeat (first|refine znv rfl rfl rfl rfl (yno 24 (y:=yav (ydc p g c)) rfl (by rw[hand c h]) ?_)|refine z1 ?_|refine zc hcopy ?_|refine zc (zaf h) ?_|refine zc (begin_con _) ?_|refine zc (ziu _ _ _) ?_|refine ydy tok rfl rfl rfl sm rfl (by simp[yas]) sm rfl rfl rfl rfl rfl ?_))
  refine ybw (α:=Nat × RunD) (fun a=>[(40,i64 a.1),(39,i64 n),(1,ycj a.2.c),(11,yav a.2.e),(3,.fn f _),(4,.lp 4 0),(10,.lp 10 0),(12,.lp 12 0),(8,.lp 8 0)]) (fun a=>exH a.2++[(8,some (.cells (yhw zhi.zero))),(4,some (.cells [ygw p g,yyu g,i64 kind,yav (xio g.ports.length),AV.fn 40 []]))]) (fun a=>n - a.1) (fun a=>a.1<=n/\CfgOk p g a.2.c/\a.2.e=ydc p g a.2.c/\CntOk a.2.k/\a.2.k.steps=a.1/\a.2.ch.length=a.1/\a.2.en.length=a.1+1/\yuf p g kind ch n 0 (zhe p g c)=yuf p g kind ch (n - a.1) a.1 a.2) (0,zhe p g c) ⟨om,h,rfl,zvv,rfl,rfl,rfl,rfl⟩ zs (yah (yab rfl (yab rfl (yab rfl (yab rfl (yab rfl (yab rfl yag))))))) ?_;rintro⟨i,⟨c1,e1,k1,ch1,en1⟩⟩ ⟨hi,hS,hSe,hk,hks,hc1,he1,hex⟩;simp only at hi hS hSe hk hks hc1 he1 hex ⊢;subst hSe;refine zW ?_;refine zj ?_ ?_ <;> intro h1
  .simp at h1;have hc9:=hch i ⟨c1,ydc p g c1,k1,ch1,en1⟩ h1 hS rfl;obtain⟨m,hm⟩:∃ m,n - i=m+1:=⟨n - i - 1,om⟩;rw[hm]at hex;simp only[yuf]at hex;generalize hset:(ch i (ydc p g c1))=set at hc9 hex;obtain⟨set,goes⟩:=set;simp only at hc9 hex;refine zWZ ?_;refine zj ?_ ?_ <;> intro h2
   .have hfin:yuf p g kind ch n 0 (zhe p g c)=some ⟨c1,ydc p g c1,k1,ch1,en1⟩:=by rw[hex,if_neg (by simpa using h2)]
    refine zW ?_;refine yzn [(10,.lp 10 0),(8,.lp 8 0)] [(10,some (.cells ([.ls 100 1 ch1.length,.ls 101 1 en1.length,ycj c1]++yfi k1))),(100,some (.vec (ch1.map yav))),(101,some (.vec (en1.map yav))),(8,some (.cells (yhw zhi.zero)))] ?_ ?_
    .refine ybg (lf:=lf0) ymj rfl ?_;refine yeq [0,2] 4 (yaa rfl (yaa rfl yal)) rfl kf ?_;refine zO ?_;refine yax [1,3] 3 rfl kf sm ⟨⟨_,rfl,?_⟩,⟨_,rfl,?_⟩,trivial⟩
     .refine zO ?_;refine yaz [3,4,5] (yaa rfl (yaa rfl (yaa rfl yal))) rfl kf ?_;refine zO ?_;refine mid zs zh
     refine zO ?_;refine yaz [1,4,5] (yaa rfl (yaa rfl (yaa rfl yal))) rfl kf ?_;refine zO ?_;refine mid zs zh
    refine zt ?_;refine yey 10 0 (ch1.map fun B=>[yav B]) rfl rfl rfl sm (fun row hr=>by obtain⟨y,_,rfl⟩:=qag.1 hr;rfl) (ydq _) rfl rfl rfl rfl ?_;refine yey 10 1 (en1.map fun B=>[yav B]) rfl rfl rfl sm (fun row hr=>by obtain⟨y,_,rfl⟩:=qag.1 hr;rfl) (ydq _) rfl rfl rfl rfl ?_;refine zk ?_;rw[hfin];exact Frz.pure
   have h2:goes=true:=by simpa using h2
   rw[if_pos h2]at hex
   (repeat (first|refine zw ?_|refine zc (hper c1 set hS) ?_))
   refine zj ?_ ?_ <;> intro h3
   .have hfin:yuf p g kind ch n 0 (zhe p g c)=none:=by rw[hex,if_neg (by simpa using h3)]
    refine zk ?_;rw[hfin];exact frz_none
   have h3:zce g kind (ydc p g c1) set=true:=by simpa using h3
   rw[if_pos h3]at hex;have hp0:set≠0#32/\set &&& ~~~(ydc p g c1)=0#32:=by
    unfold zce at h3;simp only[qad,qbn,beq_eq_false_iff_ne,beq_iff_eq]at h3;exact h3.1
   have hcl:=hS.len;have hst:=hS.step set;have hcl2:=hst.len;have hsm:=mstep_con hS set fun v hv hb=>by
    have:=zus hp0.2 hb;rw[yud om]at this;simp only[qad]at this;exact this.2
   have hin1:InM set:=yvs fun v hv=>by
    cases hb:set.getLsbD v with
    | false=>rfl
    | true=>
     have:=zus hp0.2 hb;rw[yud om]at this;simp at this;omega
   have hin2:InM (ydc p g (yut p g c1 set)):=yvs fun v hv=>by
    rw[yud om];have:decide (v < (yut p g c1 set).length)=false:=by simp;omega
    rw[this];rfl
   (repeat (first|refine znv rfl rfl rfl rfl (yno 72 (y:=yav (ydc p g (yut p g c1 set))) rfl (by rw[hand _ hst]) ?_)|refine z1 ?_|refine zc hsm ?_|refine zc (zaf hst) ?_|refine zc (add_con k1 hk om hp0.1 hin1 hin2) ?_|refine zc (ziu _ _ _) ?_|refine ydy tok rfl rfl rfl sm rfl (by simp[yas]) so rfl rfl rfl rfl rfl ?_))
   refine yhi (i+1,yxq p g ⟨c1,ydc p g c1,k1,ch1,en1⟩ set) ⟨by simp only;omega,hst,rfl,xgo hk om hp0.1 hin1 hin2,by simp only[yxq,zhn,hks];omega,by simp[yxq,hc1],by simp[yxq,he1],by simp only;rw[hex,show n - (i+1)=m by omega]⟩ (by simp only;omega) zs (yah (yab rfl (yab ?_ (yab ?_ (yab ?_ (yab rfl (yab rfl yag)))))))
   .show some _=some _;simp[yxq]
   .show some _=some _;simp[yxq,yav]
   show some _=some _;simp[yxq,yav]
  simp at h1;obtain rfl:i=n:=by omega
  have hfin:yuf p g kind ch i 0 (zhe p g c)=some ⟨c1,ydc p g c1,k1,ch1,en1⟩:=by rw[hex,qbm];rfl
  refine zW ?_;refine yzn [(10,.lp 10 0),(8,.lp 8 0)] [(10,some (.cells ([.ls 100 1 ch1.length,.ls 101 1 en1.length,ycj c1]++yfi k1))),(100,some (.vec (ch1.map yav))),(101,some (.vec (en1.map yav))),(8,some (.cells (yhw zhi.zero)))] ?_ ?_
  .refine ybg (lf:=lf0) ymj rfl ?_;refine yeq [0,2] 4 (yaa rfl (yaa rfl yal)) rfl kf ?_;refine zO ?_;refine yax [1,3] 3 rfl kf sm ⟨⟨_,rfl,?_⟩,⟨_,rfl,?_⟩,trivial⟩
   .refine zO ?_;refine yaz [3,4,5] (yaa rfl (yaa rfl (yaa rfl yal))) rfl kf ?_;refine zO ?_;refine mid zs zh
   refine zO ?_;refine yaz [1,4,5] (yaa rfl (yaa rfl (yaa rfl yal))) rfl kf ?_;refine zO ?_;refine mid zs zh
  refine zt ?_;refine yey 10 0 (ch1.map fun B=>[yav B]) rfl rfl rfl sm (fun row hr=>by obtain⟨y,_,rfl⟩:=qag.1 hr;rfl) (ydq _) rfl rfl rfl rfl ?_;refine yey 10 1 (en1.map fun B=>[yav B]) rfl rfl rfl sm (fun row hr=>by obtain⟨y,_,rfl⟩:=qag.1 hr;rfl) (ydq _) rfl rfl rfl rfl ?_;refine zk ?_;rw[hfin];exact Frz.pure
end
section
open Go.RowKit
def zrs(p:ProgD)(g:GraphD)(kind:Int):List AV:=[ygw p g,yyu g,i64 kind,yav (xio g.ports.length),.fn 40 []]
def chF(g:GraphD)(kind:Int)(ws:List (BitVec 32))(i:Nat)(e:BitVec 32):BitVec 32 × Bool:=(xkw g kind e (ws.getD i 0#32),e != 0#32)
def chP(ws:List (BitVec 32))(i:Nat)(e:BitVec 32):BitVec 32 × Bool:=(ws.getD i 0#32,true)
def xcl(p:ProgD)(g:GraphD)(kind:Int)(c:List (List Int))(ws:List (BitVec 32)):Option RunD:=yuf p g kind (chF g kind ws) ws.length 0 (zhe p g c)
def xdw(p:ProgD)(g:GraphD)(kind:Int)(c:List (List Int))(ws:List (BitVec 32)):Option RunD:=yuf p g kind (chP ws) ws.length 0 (zhe p g c)
structure DmnOk (p:ProgD) (g:GraphD) (kind:Int):Prop where
 kd:1<=kind/\kind<=4
 res:∀ (d:List (List Int)) (w:BitVec 32),CfgOk p g d->Con prog 101 [yyu g,i64 kind,yav (ydc p g d),yav w] (yav (xkw g kind (ydc p g d) w))
 per:∀ (d:List (List Int)) (s:BitVec 32),CfgOk p g d->Con prog 153 [yyu g,i64 kind,yav (ydc p g d),yav s] (yau (zce g kind (ydc p g d) s))
theorem zpb(p:ProgD)(g:GraphD)(kind:Int)(hk:kind=1\/kind=3\/kind=4):DmnOk p g kind:=
 ⟨om,fun d w _=>resolve_con g kind hk _ w,fun d s _=>yuq g kind om _ s (fun e _=>by omega)⟩
theorem follow1_con(D:DmnOk p g kind){ws:List (BitVec 32)}(hi:i < ws.length)(hn:ws.length<=4096){d:List (List Int)}(hd:CfgOk p g d):Con prog 100 [i64 i,yav (ydc p g d),.dp (zrs p g kind) 0,.dp [ydh ws] 0] (.tup [yav (chF g kind ws i (ydc p g d)).1,yau (chF g kind ws i (ydc p g d)).2]):=by
 obtain⟨w,hw⟩:=ybk hi;have hg:ws.getD i 0#32=w:=by rw[qac,hw];rfl
 refine ze Tryz.func100 ntmps100 Tryz.results100 ?_
 (repeat (first|refine zy ?_|refine zc (D.res d w hd) ?_))
 refine zr ?_;rw[ydd];simp only[chF,hg];exact Frz.pure
theorem play1_con{ws:List (BitVec 32)}(hi:i < ws.length)(hn:ws.length<=4096)(e:BitVec 32):Con prog 89 [i64 i,yav e,.dp [ydh ws] 0] (.tup [yav (chP ws i e).1,yau (chP ws i e).2]):=by
 obtain⟨w,hw⟩:=ybk hi;have hg:ws.getD i 0#32=w:=by rw[qac,hw];rfl
 refine ze Tryz.func89 ntmps89 Tryz.results89 ?_;refine zk ?_;simp only[chP,hg];exact Frz.pure
theorem follow_con(h:CfgOk p g c)(D:DmnOk p g kind)(ws:List (BitVec 32))(hn:ws.length<=4096):Con prog 54 [zmw p g kind (.fn 40 []),ycj c,ydh ws] (zas (xcl p g kind c ws)):=by
 have he:=zwn h kind ws.length hn (f:=100) (caps:=[.dp (zrs p g kind) 0,.dp [ydh ws] 0]) (.inr ⟨_,_,rfl⟩) (chF g kind ws) (fun i S hi hS hSe=>by rw[hSe];exact follow1_con D hi hn hS) (fun d s hd=>D.per d s hd);unfold xcl;generalize yuf p g kind (chF g kind ws) ws.length 0 (zhe p g c)=R at he;refine ycx tok Tryz.func54 rfl rfl ntmps54 Tryz.results54 rfl (ymf _) ?_
 (repeat (first|with_reducible refine yeo ?_|with_reducible refine ycy ?_|refine ydu ?_));refine ysv ?_;refine ydb (lf:=lfT) rfl ?_
 refine zO ?_;refine zt ?_;refine yhn 3 rfl rfl rfl rfl rfl ?_;refine yhn 5 rfl rfl rfl rfl rfl ?_;cases R with
 | none=>
  refine zZ ?_;exact zp
 | some R=>
  refine zZ ?_;exact zp
theorem play_con(h:CfgOk p g c)(D:DmnOk p g kind)(ws:List (BitVec 32))(hn:ws.length<=4096):Con prog 41 [zmw p g kind (.fn 40 []),ycj c,ydh ws] (zas (xdw p g kind c ws)):=by
 have he:=zwn h kind ws.length hn (f:=89) (caps:=[.dp [ydh ws] 0]) (.inl ⟨_,rfl⟩) (chP ws) (fun i S hi hS hSe=>play1_con hi hn _) (fun d s hd=>D.per d s hd);unfold xdw;generalize yuf p g kind (chP ws) ws.length 0 (zhe p g c)=R at he;refine ycx tok Tryz.func41 rfl rfl ntmps41 Tryz.results41 rfl (ymf _) ?_
 (repeat (first|with_reducible refine yeo ?_|with_reducible refine ycy ?_|refine ydu ?_));refine ysv ?_;refine ydb (lf:=lfT) rfl ?_
 refine zO ?_;refine zt ?_;refine yhn 5 rfl rfl rfl rfl rfl ?_;cases R with
 | none=>
  refine zZ ?_;exact zp
 | some R=>
  refine zZ ?_;exact zp
theorem rFollow_con(h:CfgOk p g c)(D:DmnOk p g kind)(ws:List (BitVec 32))(hn:ws.length<=4096):Con prog 30 [ygg p,yev g,i64 kind,ycj c,ydh ws] (zas (xcl p g kind c ws)):=by
 have he:=follow_con h D ws hn;generalize xcl p g kind c ws=R at he;refine ycx tok Tryz.func30 rfl rfl ntmps30 Tryz.results30 rfl (ymf _) ?_;cases R with
 | none=>
  (repeat (first|refine zz ?_|refine zc (ynb h kind D.kd ws.length hn) ?_|refine zc (ykv p g h.fair h.fit kind _) ?_))
  exact zp
 | some R=>
  (repeat (first|refine zz ?_|refine zc (ynb h kind D.kd ws.length hn) ?_|refine zc (ykv p g h.fair h.fit kind _) ?_))
  exact zp
theorem rPlay_con(h:CfgOk p g c)(D:DmnOk p g kind)(ws:List (BitVec 32))(hn:ws.length<=4096):Con prog 13 [ygg p,yev g,i64 kind,ycj c,ydh ws] (zas (xdw p g kind c ws)):=by
 have he:=play_con h D ws hn;generalize xdw p g kind c ws=R at he;refine ycx tok Tryz.func13 rfl rfl ntmps13 Tryz.results13 rfl (ymf _) ?_;cases R with
 | none=>
  (repeat (first|refine zz ?_|refine zc (ynb h kind D.kd ws.length hn) ?_|refine zc (ykv p g h.fair h.fit kind _) ?_))
  exact zp
 | some R=>
  (repeat (first|refine zz ?_|refine zc (ynb h kind D.kd ws.length hn) ?_|refine zc (ykv p g h.fair h.fit kind _) ?_))
  exact zp
end
section
open Go.RowKit
theorem zfb(hu:u < 32):(1#32 <<< k).getLsbD u=decide (u=k):=by
 rw[qfb];by_cases e:u=k
 .subst e;simp[hu]
 simp[e];omega
theorem zcc(hu:u < 32):∀ (ls:List Lk) (B:BitVec 32),(ls.foldl (fun B l=>B ||| (1#32 <<< l.1.toNat)) B).getLsbD u=(B.getLsbD u || ls.any fun l=>decide (u=l.1.toNat))
 | [],B=>by simp
 | l::ls,B=>by
  rw[qcr,zcc hu ls,qgs,zfb hu,List.any_cons,Bool.or_assoc]
theorem zec:yvt g s=true<->∀ v,v < 24->s.getLsbD v=true->(ywh g).getD v 0#32 &&& s=0#32:=by
 unfold yvt;rw[List.all_eq_true];constructor
 .intro h v hv hs;have:=h v (qbt.2 hv);rw[hs]at this;simpa using this
 intro h v hv;have:=h v (qbt.1 hv);cases hs:s.getLsbD v with
 | false=>rfl
 | true=>rw[this hs];rfl
section
variable{g:GraphD}{f i:Nat->Nat}
end
theorem ena_in(h:c.length<=32):InN c.length (ydc p g c):=fun u hu=>by
 rcases qbh u 32 with h1|h1
 .unfold ydc;rw[yhm _ _ _ h1,show decide (u < c.length)=false by simpa using hu];rfl
 exact qcg _ _ h1
section
variable{p:ProgD}{g:GraphD}{f i:Nat->Nat}(hp:yet p=0)(hr:xkz p=false)(hg:ycf g=true)(R:Ren g.ports.length f i)
include hp hr hg R
end
end
section
open Go.RowKit
def xmk:List (Nat × Option LObj):=[(0,some (.vec [.lp 0 0]))]
theorem zbf{P:Program}{N:Nat}{c:Code}{s:SS}(h:s.h 0=some (.vec [.lp 0 0])):A P N c Q s:=by
 intro B ok0 lv a w hs;obtain⟨b,n,h1,h2⟩:=hs.inv.obj 0 _ h;cases b with
 | none=>simp[yge]at h2
 | some b=>exact absurd (h2.2.2.2 (.lp 0 0) sm) (by simp[yas])
theorem ywm(B:BitVec 32):ytb prog 126 [yav B] (yac []) (.fn 180 [.lp 1 0]) (yac [(1,some (.vec [yav B]))]):=by
 refine zdh tok Tryz.func126 rfl rfl ntmps126 Tryz.results126 rfl (fun id o h h2=>?_) ?_
 .simp only[yac]at h;split at h
  .cases h;cases h2
  cases h
 (repeat (first|with_reducible refine yeo ?_|with_reducible refine ycy ?_|refine ydu ?_));refine ysv ?_;refine ydb (lf:=lfT) rfl ?_
 refine zO ?_;refine zt ?_;refine zsw 1 [yav B] rfl rfl (by intro y hy;cases qau.1 hy;rfl) ?_;refine zY ?_;refine yqa ⟨_,rfl,yhx _,?_⟩;exact yah (yab rfl yag)
theorem ywl(B:BitVec 32)(p:Nat):∀ el∈ytn B,el.length=[p].length/\yas.pureL el=true:=by
 intro el h;obtain⟨v,_,rfl⟩:=qag.1 h;exact⟨rfl,rfl⟩
theorem ysf{el:List AV}(h:(ytn B)[k]?=some el):∃ v:Nat,(ycb B)[k]?=some v/\el=[i64 v]:=by
 unfold ytn at h;rw[qak]at h;cases hv:(ycb B)[k]? with
 | none=>rw[hv]at h;cases h
 | some v=>rw[hv]at h;cases h;exact⟨v,rfl,rfl⟩
theorem ysg(B:BitVec 32):(ytn B).length=(ycb B).length:=by simp[ytn]
def xfw(g:GraphD)(s:BitVec 32)(k:Nat):Bool:=((ycb s).take k).all fun v=>(ywh g).getD v 0#32 &&& s == 0#32
theorem indK_all(h24:g.ports.length<=24)(hs:InN g.ports.length s):xfw g s (ycb s).length=yvt g s:=by
 unfold xfw;rw[qaw,qbw,zec,List.all_eq_true];constructor
 .intro h v hv hb;simpa using h v (yfo.2 ⟨om,hb⟩)
 intro h v hv;obtain⟨h1,h2⟩:=yfo.1 hv;have:v < g.ports.length:=qfr fun hge=>by rw[hs v hge]at h2;cases h2
 simpa using h v om h2
theorem indK_next(h:(ycb s)[k]?=some v):xfw g s (k+1)=(xfw g s k && ((ywh g).getD v 0#32 &&& s == 0#32)):=by
 unfold xfw;rw[yao h,qfa];simp
theorem zpz(g:GraphD)(h24:g.ports.length<=24)(s:BitVec 32)(hs:InN g.ports.length s):Con prog 206 [yyu g,yav s] (yau (yvt g s)):=by
 rw[<- indK_all h24 hs];refine ycx tok Tryz.func206 rfl rfl ntmps206 Tryz.results206 rfl rfl ?_
 (repeat (first|refine zy ?_|refine yxu [(1,901)] (ywm s) rfl rfl rfl rfl rfl rfl rfl yag rfl rfl rfl rfl rfl rfl ?_))
 refine zbh 901 rfl (ysh s) (fun _=>rfl) rfl (ywl s 8) rfl [(2,.lp 2 0),(3,.lp 3 0),(4,.lp 4 0)] zs rfl (fun k=>if xfw g s k then [(2,some (.cells [yyu g])),(3,some (.cells [yav s])),(4,some (.cells [yau false]))]else xmk) rfl ?_ ?_ ?_ ?_
 .rw [if_pos (by rfl)];exact yah zh
 .split <;> rfl
 .intro k el hel;obtain⟨v,hv,rfl⟩:=ysf hel;have hin:=yfo.1 (qab hv);have hvn:v < g.ports.length:=qfr fun hge=>by rw[hs v hge]at hin;cases hin.2
  obtain⟨B,hB⟩:=ybk (show v < (ywh g).length by rw[ywi];exact hvn);have hnx:=indK_next (g:=g) hv;rw[show (ywh g).getD v 0#32=B by simp[hB]]at hnx;cases hi:xfw g s k with
  | false=>exact zbf rfl
  | true=>
   simp only[if_true];refine zY ?_;refine⟨rfl,?_⟩
   (try refine zb ?_)
   refine zj ?_ ?_ <;> intro h1
   .refine zY ?_;refine yqa ?_;rw[ydd]at h1;refine rndN_ret (hk:=fun _=>[]) (k:=0) [(4,some (.cells [yau false]))] zs zh rfl ⟨_,rfl,?_⟩;refine yae ?_;have h2:(B &&& s == 0#32)=false:=by simpa[bne]using h1
    rw[h2,qci]at hnx;cases hq:xfw g s (ycb s).length with
    | false=>rfl
    | true=>
     have hk:(ycb s)[k]?=some v:=hv;have:=List.all_eq_true.1 hq v (by rw[qaw];exact qab hv);rw[show (ywh g).getD v 0#32=B by simp[hB],h2]at this;exact this
   refine zY ?_;rw[ydd]at h1;have h2:(B &&& s == 0#32)=true:=by simpa[bne]using h1
   refine xhi zs ?_;rw[hnx,h2,hi,if_pos (by rfl)];exact yah zh
 rw[ysg];cases hi:xfw g s (ycb s).length with
 | false=>exact zbf rfl
 | true=>
  simp only[if_true];refine zk ?_;exact yae rfl
theorem in24(hn:n<=24)(h:InN n B):ycb B=(List.range 24).filter B.getLsbD:=by
 unfold ycb;show (List.range (24+8)).filter B.getLsbD=_;rw[List.range_add,qcn];have e:((List.range 8).map fun x=>24+x).filter B.getLsbD=[]:=List.filter_eq_nil_iff.2 fun u hu=>by
  obtain⟨x,_,rfl⟩:=qag.1 hu;rw[h _ om];simp
 rw[e,qba]
def xgy(g:GraphD)(w:BitVec 32)(k:Nat):BitVec 32:=((ycb w).take k).foldl (fun B v=>if (ywh g).getD v 0#32 &&& B == 0#32 then B ||| (1#32 <<< v)else B) 0#32
theorem grdK_next{w:BitVec 32}(h:(ycb w)[k]?=some v):xgy g w (k+1)=if (ywh g).getD v 0#32 &&& xgy g w k == 0#32 then xgy g w k ||| (1#32 <<< v)else xgy g w k:=by
 unfold xgy;rw[yao h,qcx];rfl
theorem grdK_all{w:BitVec 32}(h24:g.ports.length<=24)(h:InN g.ports.length w):xgy g w (ycb w).length=zll g w:=by
 unfold xgy zll;rw[qaw,in24 h24 h,List.foldl_filter];congr 1;funext B v;cases w.getLsbD v <;> simp
theorem resolve2_con(g:GraphD)(h24:g.ports.length<=24)(e w:BitVec 32)(he:InN g.ports.length e):Con prog 101 [yyu g,i64 2,yav e,yav w] (yav (xkw g 2 e w)):=by
 have hres:xkw g 2 e w=zll g (yxk e w):=rfl;have hsub:InN g.ports.length (yxk e w):=fun u hu=>by
  unfold yxk;split
  .rw [qbi,he u hu];rfl
  rw[qbi,he u hu,qci]
 rw[hres,<- grdK_all h24 hsub];refine ze Tryz.func101 ntmps101 Tryz.results101 ?_
 (try refine zq ?_)
 refine yzn [(3,yav (yxk e w)),(2,yav e),(1,i64 2),(4,.lp 4 0)] [(4,some (.cells [yyu g]))] ?_ ?_
 .refine zj ?_ ?_ <;> intro h1
  .rw [yct]at h1;have h1:w &&& e=0#32:=by simpa using h1
   (try refine zq ?_)
   refine mid (yan (yes rfl ?_) zs) zh;rw[yxk,if_pos h1]
  rw[yct]at h1;have h1:¬ w &&& e=0#32:=by simpa using h1
  refine zY ?_;refine mid (yan (yes rfl ?_) zs) zh;rw[yxk,if_neg h1]
 generalize yxk e w=W at hsub
 (repeat (first|refine zy ?_|refine yxu [(1,901)] (ywm W) rfl rfl rfl rfl rfl rfl rfl yag rfl rfl rfl rfl rfl rfl ?_))
 refine zbh 901 rfl (ysh W) (fun _=>rfl) rfl (ywl W 31) rfl [(9,.lp 9 0),(4,.lp 4 0)] zs rfl (fun k=>[(9,some (.cells [yav (xgy g W k)])),(4,some (.cells [yyu g]))]) rfl (yah zh) rfl ?_ ?_
 .intro k el hel;obtain⟨v,hv,rfl⟩:=ysf hel;have hin:=yfo.1 (qab hv);have hvn:v < g.ports.length:=qfr fun hge=>by rw[hsub v hge]at hin;cases hin.2
  obtain⟨B,hB⟩:=ybk (show v < (ywh g).length by rw[ywi];exact hvn);have hnx:=grdK_next (g:=g) hv;rw[show (ywh g).getD v 0#32=B by simp[hB]]at hnx;refine zY ?_;refine⟨rfl,?_⟩
  (try refine zb ?_)
  refine zj ?_ ?_ <;> intro h1
  .rw [yct]at h1
   (try refine zb ?_)
   refine xhi zs ?_;rw[hnx,if_pos h1];exact yah zh
  rw[yct]at h1;refine zY ?_;refine xhi zs ?_;rw[hnx,if_neg (by rw[h1];simp)];exact yah zh
 rw[ysg];exact zkp
theorem dmn_local(hg:ycf g=true):DmnOk p g 2:=by
 have h24:=(ybe hg).2.1;have hin:∀ d:List (List Int),CfgOk p g d->InN g.ports.length (ydc p g d):=fun d hd=>by
  rw[<- hd.len];exact ena_in (by rw[hd.len];omega)
 exact⟨om,fun d w hd=>resolve2_con g h24 _ w (hin d hd),fun d s hd=>yuq g 2 om _ s fun _ hs=>zpz g h24 s (xha hs (hin d hd))⟩
theorem dmn_any(hg:ycf g=true)(hk:1<=kind/\kind<=4):DmnOk p g kind:=by
 by_cases h:kind=2
 .subst h;exact dmn_local hg
 exact zpb p g kind om
end
end Go.Proofs.YtgpodcjhgdionaaGreatDoor
