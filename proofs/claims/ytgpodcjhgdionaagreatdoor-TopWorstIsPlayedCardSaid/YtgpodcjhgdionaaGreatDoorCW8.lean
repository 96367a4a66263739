/- Part 8 of the texts under TopWorstIsPlayed. -/
import Derived.Deep.RegionHeld3
import Derived.Deep.QuietTactic
import Derived.BigQuiet
import Derived.Below
import Derived.Test.YtgpodcjhgdionaaGreatDoorRows
import Derived.WalkKit
import Derived.WalkSpells
import Derived.WalkLawsBesides
import Derived.Lib.Hide
import Derived.Maps.OwnOps
import Derived.Maps.OwnSet
import Derived.Maps.Views
import Derived.StringKeys
import Derived.Laws.AppendOwn
import Derived.Laws.AppendOwnNone
import Derived.Laws.OwnMore
import Derived.OwnWalk
import Derived.Test.YtgpodcjhgdionaaGreatDoorCW4
import Derived.Test.YtgpodcjhgdionaaGreatDoorCW6
import Derived.Test.YtgpodcjhgdionaaGreatDoorCW7
namespace Go.Proofs.YtgpodcjhgdionaaGreatDoor
open Go.Proofs.Tryz
variable{w:World}{h:Nat->Option LObj}{l:List Tm}{xs:List AV}{kinds:List Int}{Q:Exit->SS->Prop}{t:List (Nat × AV)}{v:Value}{lv:Live}{p:ProgD}{α:Type}{ok:Nat->Prop}{size n off id i N k B e:Nat}{P:Program}{f:Nat->Int}{op:Int}{x:VarD}{c:Code}{X:Ex}{g:α->List Value}
section
open Go.RowKit
def yhe(xs:List Bool):List Value:=xs.map Value.bool
theorem boolCells_get(xs:List Bool)(i:Nat)(x:Bool)(h:xs[i]?=some x):(yhe xs)[i]?=some (.bool x):=by unfold yhe;rw[qak,h];rfl
theorem ypj(xs ys:List Bool):yhe (xs++ys)=yhe xs++yhe ys:=by simp[yhe]
theorem boolCells_length(xs:List Bool):(yhe xs).length=xs.length:=by simp[yhe]
theorem xdu{B' e' s s' n':Nat}{v':Value}{xs xs':List Value}(h:w.ownsRow B e s v n xs)(h':w.ownsRow B' e' s' v' n' xs')(hne:e≠e'):v.ownBlock=none\/v.ownBlock≠v'.ownBlock:=by
 rcases h.2 with⟨rfl,_⟩|⟨g,cap,cur,rfl,_,hh,_⟩
 .exact .inl rfl
 rcases h'.2 with⟨rfl,_⟩|⟨g',cap',cur',rfl,_,hh',_⟩
 .right;simp[Value.ownBlock]
 right;intro heq;simp only[Value.ownBlock,Option.some.injEq]at heq;rw[heq,hh']at hh;simp only[Option.some.injEq,Obj.cells.injEq]at hh;exact hne hh.2.1.symm
def zlq(S:Open):List Nat:=(S.map (·.1)).reverse
def ypt(S:Open):List Bool:=(S.map (·.2)).reverse
theorem yld(k:Nat)(b:Bool)(S:Open):zlq ((k,b)::S)=zlq S++[k]:=by simp[zlq]
theorem ysi(k:Nat)(b:Bool)(S:Open):ypt ((k,b)::S)=ypt S++[b]:=by simp[ypt]
theorem ykb(S:Open):(zlq S).length=S.length:=by simp[zlq]
theorem yqv(S:Open):(ypt S).length=S.length:=by simp[ypt]
def xfr(bs:List Bool):Nat:=(bs.filter _root_.id).length
theorem zia(S:Open):xfr (ypt S)=cnt S:=by
 unfold xfr ypt cnt;rw[List.filter_reverse,qgi,List.filter_map,qai];rfl
theorem cntB_take_succ(bs:List Bool)(q:Nat)(x:Bool)(h:bs[q]?=some x):xfr (bs.take (q+1))=xfr (bs.take q)+(if x then 1 else 0):=by
 obtain⟨h1,h2⟩:=qaa.1 h;unfold xfr;rw[qcp h1,qcn,qan,h2];cases x <;> simp
theorem xbz(bs:List Bool):xfr bs<=bs.length:=qcu _ _
def yns:Open->Open
 | []=>[]
 | (x,b)::S=>yhz x b S
def Pos(S:Open):Prop:=∀ e∈S,1<=e.1/\e.1<=3
theorem closeS_stop(x:Nat)(b:Bool)(S:Open)(h:x≠0):yns ((x,b)::S)=(x,b)::S:=ynr x b S h
theorem closeS_last(b:Bool):yns [(0,b)]=[]:=by simp[yns,yhz]
theorem closeS_pop(b c:Bool)(x:Nat)(S:Open):yns ((0,b)::(x,c)::S)=yns ((x - 1,c)::S):=by simp[yns,yhz]
theorem closeK_Pos(S:Open):∀ (k:Nat) (b:Bool),k<=3->Pos S->Pos (yhz k b S):=by
 induction S with
 | nil=>
  intro k b hk _;simp only[yhz];split
  .intro e he;cases he
  intro e he;simp at he;subst he;exact⟨om,hk⟩
 | cons x S ih=>
  obtain⟨x,c⟩:=x;intro k b hk hS;simp only[yhz];split
  .exact ih _ _ (by have:=hS (x,c) (qbe ..);omega) (fun e he=>hS e (qap _ he))
  intro e he;cases he with
  | head=>exact⟨om,hk⟩
  | tail _ he=>exact hS e he
theorem closeK_len(S:Open):∀ (k:Nat) (b:Bool),(yhz k b S).length<=S.length+1:=by
 induction S with
 | nil=>intro k b;simp only[yhz];split <;> simp
 | cons x S ih=>
  obtain⟨x,c⟩:=x;intro k b;simp only[yhz];split
  .have:=ih (x - 1) c;simp;omega
  simp
def zlr(l:List Tm)(k:Nat):Lev:=xfy ⟨[],0,0⟩ (l.take k)
theorem zqf(l:List Tm)(k:Nat)(h:k < l.length):zlr l (k+1)=ylt (zlr l k) l[k]:=by
 unfold zlr;rw[qcp h,yum];rfl
theorem lev0_facts(l:List Tm)(k:Nat)(h:k<=l.length):(zlr l k).S.length<=k/\Pos (zlr l k).S/\(zlr l k).d<=k/\(zlr l k).n<=k:=by
 induction k with
 | zero=>unfold zlr;simp[xfy];intro e he;cases he
 | succ k ih=>
  obtain⟨h1,h2,h3,h4⟩:=ih om;rw[zqf l k om];have hb:=ztd l[k].1;have h5:=closeK_len (zlr l k).S (ar l[k].1).toNat (yja l[k].1);have h6:=closeK_Pos (zlr l k).S (ar l[k].1).toNat (yja l[k].1) om h2;have h7:cnt (((ar l[k].1).toNat,yja l[k].1)::(zlr l k).S)<=k+1:=by
   rw[<- zia];have:=xbz (ypt (((ar l[k].1).toNat,yja l[k].1)::(zlr l k).S));rw[yqv]at this;simp at this;omega
  unfold ylt;refine⟨by show (yhz _ _ _).length<=_;omega,h6,by show max _ _<=_;omega,by show max _ _<=_;omega⟩
theorem lev0_all(l:List Tm)(E:Ex)(h:yfy l=some E):(zlr l l.length).d=E.dp/\(zlr l l.length).n=E.ns:=by
 obtain⟨h1,h2⟩:=yji h;unfold zlr;rw[qaw,<- h2,levR_fl E h1];simp[cnt]
theorem xdt{xs:List Value}(h:w.ownsRow B e size v n xs){x:Nat}(hx:x < B):some x≠v.ownBlock:=
 fun h1=>by have:=(h.lt x h1.symm).1;omega
theorem yoq{wr w':World}{g o:Nat}{u:Value}(hg:g < w.heap.size)(hb:Below w.heap.size w wr)(hc:wr.cell? ⟨g,o,none⟩=some u)(h:Below wr.heap.size wr w'):w'.cell? ⟨g,o,none⟩=some u:=
 (h.cell (p:=⟨g,o,none⟩) (qbg hg hb.size)).trans hc
theorem own_frozen{s cap g:Nat}{xs:List Value}(h:w.ownsRow B e s (.slice (some ⟨g,0,none⟩) n cap) n xs)(j:Nat):w.frozen? ⟨g,j,none⟩=false:=by
 rcases h.2 with⟨h0,_⟩|⟨g',cap',cur,hv,_,hh,_⟩
 .cases h0
 cases hv;unfold World.frozen?;simp only[hh];simp
theorem lefts_dec(y:Nat)(c:Bool)(T:Open)(hy:1<=y):(yea (zlq ((y,c)::T))).set T.length (.int .i64 ((y:Int) - 1))=yea (zlq ((y - 1,c)::T)):=by
 rw[yld,yld,yfa,yfa,qbo _ _ (by rw[yik,ykb];exact qbf _),yik,ykb,qbm];simp only[yea,List.map_singleton,qer];rw[show ((y - 1:Nat):Int)=(y:Int) - 1 by omega]
theorem infoBool:(prog.info? 4).map (fun i=>(i.zero,i.size,i.bytes))=some (some (.bool false),1,1):=by kernel_rfl
theorem sizeBool(w:World):(sizeOf (prog.elem 30)).run prog w=.ok 1 w:=by kernel_rfl
theorem underBools:prog.underlying 30=some (.slice (prog.elem 30)):=by kernel_rfl
def zog(w0 w:World)(vl vo:Value)(S:Open):Prop:=
 w.ownsRow w0.heap.size 3 1 vl S.length (yea (zlq S))/\w.ownsRow w0.heap.size 4 1 vo S.length (yhe (ypt S))/\Below w0.heap.size w0 w
set_option maxHeartbeats 4000000 in
set_option maxRecDepth 100000 in
theorem zfo(v:Value)(l:List Tm)(E:Ex)(w:World)(hl:l.length<=1000)(hv:Hid (yit w v l))(hp:Hid (yfy l=some E)) :
  Calls prog 294 #[v] w fun e w'=>e=.returned (.tuple #[.int .i64 E.dp,.int .i64 E.ns])/\Below w.heap.size w w':=by
 obtain⟨i0,hi,hz0,hz1,hz2⟩:=info_parts xcx;obtain⟨j0,hj,hy0,hy1,hy2⟩:=info_parts infoBool;have Hi:=Lib.hid hi;have Hz0:=Lib.hid hz0;have Hz1:=Lib.hid hz1;have Hz2:=Lib.hid hz2;have Hj:=Lib.hid hj;have Hy0:=Lib.hid hy0;have Hy1:=Lib.hid hy1;have Hy2:=Lib.hid hy2;clear hi hz0 hz1 hz2 hj hy0 hy1 hy2;obtain⟨hok,hfl⟩:=yji hp.out;have HF:Hid (yfd l=some [E]):=by rw[<- hfl];have:=zdr E hok [] [] rfl;rw[qba]at this;exact this
 have hpos:0 < l.length:=by rw[<- hfl];exact E.fl_pos
 clear hok hfl;obtain⟨a0,cap0,rfl,h1,h2,h3⟩:=hv.out.open;obtain⟨g0,o0,rfl,hg0,hc⟩:=h3 hpos;have HC:=Lib.hid hc;clear h3 hc;go_enter Tryz.func294,ntmps294;go_wp2_with fail;go_loopw [4,5,6,7,8,9,10] (fun d n vl vo i _ _ wr=>∃ k:Nat,k<=l.length/\i=.int .i64 k/\d=.int .i64 (zlr l k).d/\n=.int .i64 (zlr l k).n/\Hid (zog w wr vl vo (zlr l k).S)) (fun _ _ _ _ i _ _ _=>l.length - (intOf i).toNat);case atStart=>exact⟨0,om,rfl,rfl,rfl,World.ownsRow_nil _ _ _ _,World.ownsRow_nil _ _ _ _,Below.refl _ _⟩
 case round=>
  obtain⟨k,hk,rfl,rfl,rfl,hst⟩:=hrel
  obtain⟨q1,q2,q3,q4⟩:=lev0_facts l k hk
  by_cases hlt:k < l.length
  .obtain ⟨ha0,_⟩:=zqg ytj l E HF.out k hlt
   have ha1:=(ztd l[k].1).2
   obtain⟨c0,c1⟩:=HC.out k _ (qae hlt)
   have HS:=Lib.hid (zqf l k hlt)
   have HQ2:=Lib.hid q2
   clear q2
   generalize hL:zlr l k=L at *
   have HL:=Lib.hid hL
   clear hL
   obtain⟨hownL,hownO,hbel⟩:=hst.out
   rw[<- hbel.cell (p:=⟨g0,_,none⟩) hg0]at c0 c1
   have hbs:=hbel.size
   go_wp2_with fail
   go_region_held3 (fun w'=>w'.cell? ⟨g0,o0+k * 2,none⟩=some (.int .i64 l[k].1)) (first|exact cB|exact cA|(refine yoq hg0 hbelA cA ?_;repeat (first|exact Below.refl _ _|apply Below.drew|refine Below.alloc ?_ sm _))|exact c0|(refine yoq hg0 hbel c0 ?_;repeat (first|exact Below.refl _ _|apply Below.drew|refine Below.alloc ?_ sm _)))
    (first|(go_at_call 223;refine(ysl _ _).mono ?_;rintro e w' ⟨rfl,rfl⟩)|(go_at_call 225;refine(raggregate_any _ _).mono ?_;rintro e w' ⟨rfl,rfl⟩)|(refine step_append_lies _ rfl (.tmp 26) (.tmp 33) 30 rfl w.heap.size 4 j0 (.bool false) 1 1 underlying30 Hj.out Hy0.out Hy1.out Hy2.out rfl dc _ _ _ rfl (by exact yin hownO2 (by repeat (first|exact Below.refl _ _|apply Below.drew|refine Below.alloc ?_ sm _))) ⟨wA.heap.size,0,none⟩ 1 1 [.bool (yja l[k].1)] rfl rfl (by exact zeu _ _ _ _ sm) (by simp[Value.oneCell']) dc (by unfold maxLen;omega) om so _ rfl ?_;intro gB capB wB hownB hgrowB _ _;have cB:wB.cell? ⟨g0,o0+k * 2,none⟩=some (.int .i64 l[k].1):=hgrowB.cell (yoq hg0 hbelA cA (by repeat (first|exact Below.refl _ _|apply Below.drew|refine Below.alloc ?_ (by first|exact qbf _|exact hbsA|(simp;omega)|simp) _))) (xdt hownO2 hg0))|(refine step_append_lies _ rfl (.tmp 17) (.tmp 24) 26 rfl w.heap.size 3 i0 (.int .i64 0) 1 8 underlying26 Hi.out Hz0.out Hz1.out Hz2.out rfl dc _ _ _ rfl (by exact yin hownL (by repeat (first|exact Below.refl _ _|apply Below.drew|refine Below.alloc ?_ sm _))) ⟨wr.heap.size,0,none⟩ 1 1 [.int .i64 (ar l[k].1)] rfl rfl (by exact zeu _ _ _ _ sm) (by simp[Value.oneCell']) dc (by unfold maxLen;omega) om so _ rfl ?_;intro gA capA wA hownA hgrowA _ _;have hownO2:=(yin hownO (by repeat (first|exact Below.refl _ _|apply Below.drew|refine Below.alloc ?_ sm _))).kept hgrowA (xdu hownO hownL dc);have cA:wA.cell? ⟨g0,o0+k * 2,none⟩=some (.int .i64 l[k].1):=hgrowA.cell (yoq hg0 hbel c0 (by repeat (first|exact Below.refl _ _|apply Below.drew|refine Below.alloc ?_ (by first|exact qbf _|exact hbs|(simp;omega)|simp) _))) (xdt hownL hg0);have hbelA:Below w.heap.size w wA:=Below.grown (by repeat (first|exact hbel|apply Below.drew|refine Below.alloc ?_ (by first|exact qbf _|exact hbs|(simp;omega)|simp) _)) hgrowA so (zye hownL);have hbsA:=hbelA.size))
   have harn:((ar l[k].1).toNat:Int)=ar l[k].1:=by omega
   have HST:Hid (zog w wB (.slice (some ⟨gA,0,none⟩) (L.S.length+1) capA) (.slice (some ⟨gB,0,none⟩) (L.S.length+1) capB) (((ar l[k].1).toNat,yja l[k].1)::L.S)):=by
    refine⟨?_,?_,Below.grown (by repeat (first|exact hbelA|apply Below.drew|refine Below.alloc ?_ (by first|exact hbsA|(simp;omega)) _)) hgrowB so (zye hownO2)⟩
    .rw [yld,yfa,yea,yea,List.map_singleton,harn];exact(yin hownA (by repeat (first|exact Below.refl _ _|apply Below.drew|refine Below.alloc ?_ sm _))).kept hgrowB (xdu hownA hownO2 dc)
    rw[ysi,ypj];exact hownB
   clear hownA hownB hgrowA hgrowB hownO2 cA cB hbelA hbsA hownL hownO harn c0 c1 hbs
   obtain⟨S1,hS1⟩:∃ S1,S1=((ar l[k].1).toNat,yja l[k].1)::L.S:=⟨_,rfl⟩
   have hlen1:L.S.length+1=S1.length:=by rw[hS1];rfl
   have hP1:Hid (Pos S1.tail):=by rw[hS1];exact HQ2
   have hclose:Hid (yhz (ar l[k].1).toNat (yja l[k].1) L.S=yns S1):=by rw[hS1];rfl
   have hcnt:Hid (cnt (((ar l[k].1).toNat,yja l[k].1)::L.S)=xfr (ypt S1)):=by rw[hS1,zia];rfl
   have hol:Hid ((ypt S1).length=S1.length):=yqv S1
   rw[<- hS1]at HST
   rw[hlen1]at HST ⊢
   have hn1:S1.length<=1000:=by omega
   have HL1:=Lib.hid hlen1
   clear hS1 hlen1
   obtain⟨hoL,hoO,hbB⟩:=HST.out
   obtain⟨o1,o2,o3⟩:=yod hoO
   obtain⟨p1,p2,p3⟩:=yod hoL
   go_wp2_with fail
   go_loop [9,10] (fun c q=>∃ j:Nat,j<=S1.length/\q=.int .i64 j/\c=.int .i64 (xfr ((ypt S1).take j):Nat)) (fun _ q=>S1.length - (intOf q).toNat)
   case atStart=>exact⟨0,om,rfl,rfl⟩
   case round=>
    obtain⟨j,hj,rfl,rfl⟩:=hrel
    by_cases hq:j < S1.length
    .obtain ⟨g,hge,hcs⟩:=o3 om
     simp only[Option.some.injEq,Addr.mk.injEq]at hge
     obtain⟨rfl,_⟩:=hge
     obtain⟨x,hx⟩:∃ x,(ypt S1)[j]?=some x:=⟨(ypt S1)[j]'(by rw[hol.out];exact hq),qae _⟩
     have hcell:=hcs j _ (boolCells_get _ j x hx)
     have HM:=Lib.hid (cntB_take_succ (ypt S1) j x hx)
     have hcb:=xbz ((ypt S1).take j)
     rw[qcj,hol.out]at hcb
     clear hcs hx
     generalize xfr ((ypt S1).take j)=cj at *
     cases x
     all_goals
      go_wp2_with fail
      refine⟨⟨j+1,om,by go_num,?_⟩,by simp[intOf];omega⟩
      rw[HM.out];simp
    obtain rfl:j=S1.length:=by omega
    rw[qal (by rw[hol.out];exact qbf _),<- hcnt.out]
    generalize hc1:cnt (((ar l[k].1).toNat,yja l[k].1)::L.S)=c1 at *
    obtain⟨d1,hd1⟩:∃ d1:Nat,d1=max L.d S1.length:=⟨_,rfl⟩
    obtain⟨n1,hn1e⟩:∃ n1:Nat,n1=max L.n c1:=⟨_,rfl⟩
    have hm1:(if L.d < S1.length then(S1.length:Int)else(L.d:Int))=(d1:Int):=by rw[hd1];split <;> omega
    have hm2:(if L.n < c1 then(c1:Int)else(L.n:Int))=(n1:Int):=by rw[hn1e];split <;> omega
    have HN:Hid (ylt L l[k]=⟨yns S1,d1,n1⟩):=by
     unfold ylt;rw[hc1,hclose.out,hd1,hn1e,<- HL1.out];rfl
    clear hd1 hn1e hc1 hcnt hclose
    go_wp2_with fail
    clear hm1 hm2 o3 p3 hoL hoO
    go_loopg [6,7] S1.length (fun m vl vo wy=>∃ S:Open,Hid (S.length=m)/\m<=S1.length/\Hid (yns S1=yns S)/\Hid (zog w wy vl vo S)/\Hid (Pos S.tail))
    case atStart=>exact⟨S1,rfl,qbf _,rfl,HST,hP1⟩
    case round=>
     obtain⟨S,hSl,hSm,hSc,hSt,hSp⟩:=hrel
     obtain⟨wy,rfl⟩:∃ wy:World,wy=wr:=⟨_,rfl⟩
     obtain⟨hoL,hoO,hbY⟩:=hSt.out
     rcases S with _|⟨⟨x,b⟩,T⟩
     .obtain ⟨la,lcap,rfl⟩:=yqw (n:=0) hoL
      obtain⟨oa,ocap,rfl⟩:=yqw (n:=0) hoO
      go_wp2_with fail
      exact⟨⟨k+1,om,by go_num,by rw[HS.out,HN.out],by rw[HS.out,HN.out],by rw[HS.out,HN.out];show zog w _ _ _ (yns S1);rw[hSc.out,show yns []=[] from rfl];exact hSt⟩,by simp[intOf];omega⟩
     obtain⟨la,lcap,rfl⟩:=yqw (n:=T.length+1) hoL
     obtain⟨oa,ocap,rfl⟩:=yqw (n:=T.length+1) hoO
     have hTl:T.length+1<=1000:=by have:=hSl.out;simp only[qaj]at this;omega
     obtain⟨o1',o2',o3⟩:=yod (n:=T.length+1) hoO
     obtain⟨p1',p2',p3⟩:=yod (n:=T.length+1) hoL
     obtain⟨g,rfl,hcs⟩:=p3 om
     have hcx:=hcs T.length _ (yqs _ T.length x (by rw[yld,<- ykb T,qah (qbf _),qbm];rfl))
     have eT:(((T.length+1:Nat):Int) - 1)=(T.length:Int):=by omega
     by_cases hx:x=0
     .subst hx
      have hsl1:=yzf zgj zuo (some ⟨g,0,none⟩) (T.length+1) lcap T.length (((T.length+1:Nat):Int) - 1) om om
      have hsl2:=yzf underBools sizeBool oa (T.length+1) ocap T.length (((T.length+1:Nat):Int) - 1) om om
      have hsl1':∀ w,(Instr.slice 26 (.slice (some ⟨g,0,none⟩) (T.length+1) lcap) none (some (.int .i64 (T.length:Int))) none).run prog w=.ok (.slice (some ⟨g,0,none⟩) T.length lcap) w:=by intro w;have:=hsl1 w;rw[eT]at this;exact this
      have hsl2':∀ w,(Instr.slice 30 (.slice oa (T.length+1) ocap) none (some (.int .i64 (T.length:Int))) none).run prog w=.ok (.slice oa T.length ocap) w:=by intro w;have:=hsl2 w;rw[eT]at this;exact this
      have HoL:wy.ownsRow w.heap.size 3 1 (.slice (some ⟨g,0,none⟩) T.length lcap) T.length (yea (zlq T)):=zmk (by rw[yik,ykb]) (by rw[yld,yfa]at hoL;exact hoL)
      have HoO:wy.ownsRow w.heap.size 4 1 (.slice oa T.length ocap) T.length (yhe (ypt T)):=zmk (by rw[boolCells_length,yqv]) (by rw[ysi,ypj]at hoO;exact hoO)
      have hx0:((0:Int) == 0)=true:=by simp
      have hT:(T.length=0/\Hid (T=[]))\/∃ y c T',Hid (T=(y,c)::T')/\0 < T.length/\1<=y/\y<=3/\wy.cell? ⟨g,T.length - 1,none⟩=some (.int .i64 (y:Nat)):=by
       rcases T with _|⟨⟨y,c⟩,T'⟩
       .exact .inl ⟨rfl,rfl⟩
       have hy:=hSp.out (y,c) (qbe ..);refine .inr ⟨y,c,T',rfl,sm,hy.1,hy.2,?_⟩;obtain⟨_,_,q3⟩:=yod HoL;obtain⟨g',hg',hq⟩:=q3 sm;cases hg';exact hq _ _ (yqs _ _ y (by rw[yld,qaj,Nat.add_sub_cancel,<- ykb T',qah (qbf _),qbm];rfl))
      have hfz:=own_frozen HoL (T.length - 1)
      have hSl2:Hid (T.length+1=gk):=hSl.out
      have hSp2:Hid (Pos T):=hSp.out
      clear hsl1 hsl2 hcs p3 o3 hoL hoO
      generalize htn:T.length=tn at *
      have HTN:=Lib.hid htn
      clear htn
      rcases hT with⟨ht0,hTe⟩|⟨y,c,T',hTe,ht0,hy1,hy2,hcy⟩
      .have HT0:=Lib.hid ht0
       have ht1:tn < 1:=by omega
       clear ht0
       go_wp2_with fail
       go_quiet (fail)
       go_wp2_with fail
       go_roundg tn
       case measure=>have:=hSl2.out;omega
       case rel=>
        refine⟨T,HTN,by have:=hSl2.out;omega,?_,⟨?_,?_,below_drewN hbY _⟩,?_⟩
        .rw [hSc.out,hTe.out];exact closeS_last b
        .rw [HTN.out];exact yin HoL (xbt (Below.refl _ _) _)
        .rw [HTN.out];exact yin HoO (xbt (Below.refl _ _) _)
        rw[hTe.out];intro e he;cases he
      have i1:(1:Int)<=(tn:Int):=by omega
      go_wp2_with fail
      go_quiet (fail)
      go_wp2_with fail
      have hs:=HoL.stored (tn - 1) (.int .i64 ((y:Int) - 1))
      have hk:=HoO.kept hs.2 (xdu HoO HoL dc)
      have hTl':T'.length=tn - 1:=by have h1:=HTN.out;rw[hTe.out,qaj]at h1;omega
      go_roundg tn
      case measure=>have:=hSl2.out;omega
      case rel=>
       refine⟨(y - 1,c)::T',by show T'.length+1=tn;omega,by have:=hSl2.out;omega,?_,⟨?_,?_,below_drewN (hbY.setCell (zye HoL g rfl) _) _⟩,?_⟩
       .rw [hSc.out,hTe.out];exact closeS_pop b c y T'
       .show World.ownsRow _ _ _ _ _ (T'.length+1) _
        rw[show T'.length+1=tn by omega,<- lefts_dec y c T' hy1,hTl',<- hTe.out]
        exact yin hs.1 (xbt (Below.refl _ _) _)
       .show World.ownsRow _ _ _ _ _ (T'.length+1) _
        rw[show T'.length+1=tn by omega,ysi,<- ysi y c T',<- hTe.out]
        exact yin hk (xbt (Below.refl _ _) _)
       intro e he;exact hSp2.out e (by rw[hTe.out];exact qap _ he)
     have hxb:((x:Int) == 0)=false:=by simp;omega
     go_wp2_with fail
     exact⟨⟨k+1,om,by go_num,by rw[HS.out,HN.out],by rw[HS.out,HN.out],by rw[HS.out,HN.out];show zog w _ _ _ (yns S1);rw[hSc.out,closeS_stop x b T hx];exact hSt⟩,by simp[intOf];omega⟩
  obtain rfl:k=l.length:=by omega
  have HA:=Lib.hid (lev0_all l E hp.out)
  go_wp2_with fail
  go_ret2
  exact⟨by rw[HA.out.1,HA.out.2];rfl,hst.out.2.2⟩
end
set_option maxRecDepth 100000
section
open Go.RowKit
def xai(l:List Tm):Bool:=(yfy l).isSome
theorem xkg(l:List Tm)(E:Ex)(h:yfy l=some E):(ysx 1 0 l != (l.length:Int))=false/\(ysx 1 0 l == (l.length:Int))=true:=by
 rw[(zlb l).2 ⟨E,h⟩];simp
theorem xke(l:List Tm)(h:yfy l=none):(ysx 1 0 l != (l.length:Int))=true/\(ysx 1 0 l == (l.length:Int))=false:=by
 have:ysx 1 0 l≠(l.length:Int):=fun hq=>by
  obtain⟨E,hE⟩:=(zlb l).1 hq;rw[h]at hE;cases hE
 simp[this]
theorem yyv(v:Value)(l:List Tm)(w:World)(hl:l.length<=1000)(hv:Hid (yit w v l)) :
  Calls prog 282 #[v] w fun e w'=>e=.returned (.bool (xai l))/\w=w':=by
 obtain⟨a0,cap0,rfl,h1,h2,h3⟩:=hv.out.open;clear h3;cases hp:yfy l with
 | none=>
  have H:Hid (xai l=false):=by unfold xai;rw[hp];rfl
  obtain⟨_,he⟩:=xke l hp;clear hp;by_cases h0:0 < l.length
  all_goals
   go_enter Tryz.func282,ntmps282;go_wp2_with (go_at_call 257;refine(xee _ l 0 _ hl hv om).mono ?_;rintro e w' ⟨rfl,rfl⟩);go_ret;exact⟨yen H.out.symm,rfl⟩
 | some E=>
  have H:Hid (xai l=true):=by unfold xai;rw[hp];rfl
  have h0:0 < l.length:=by rw[<- (yji hp).2];exact E.fl_pos
  obtain⟨_,he⟩:=xkg l E hp;clear hp;go_enter Tryz.func282,ntmps282;go_wp2_with (go_at_call 257;refine(xee _ l 0 _ hl hv om).mono ?_;rintro e w' ⟨rfl,rfl⟩);go_ret;exact⟨yen H.out.symm,rfl⟩
theorem yzb(v:Value)(l:List Tm)(E:Ex)(w:World)(hl:l.length<=1000)(hv:Hid (yit w v l))(hp:Hid (yfy l=some E)) :
  Calls prog 283 #[v] w fun e w'=>e=.returned (.int .i64 E.dp)/\Below w.heap.size w w':=by
 have H:xai l=true:=by unfold xai;rw[hp.out];rfl
 go_enter Tryz.func283,ntmps283;go_wp2_with (first|(go_at_call 282;refine(yyv _ l _ hl hv).mono ?_;rintro e w' ⟨rfl,rfl⟩)|(go_at_call 294;refine(zfo _ l E _ hl hv hp).mono ?_;rintro e w' ⟨rfl,hb⟩));go_ret;exact⟨rfl,hb⟩
theorem zrr(v:Value)(l:List Tm)(E:Ex)(w:World)(hl:l.length<=1000)(hv:Hid (yit w v l))(hp:Hid (yfy l=some E)) :
  Calls prog 284 #[v] w fun e w'=>e=.returned (.int .i64 E.ns)/\Below w.heap.size w w':=by
 have H:xai l=true:=by unfold xai;rw[hp.out];rfl
 go_enter Tryz.func284,ntmps284;go_wp2_with (first|(go_at_call 282;refine(yyv _ l _ hl hv).mono ?_;rintro e w' ⟨rfl,rfl⟩)|(go_at_call 294;refine(zfo _ l E _ hl hv hp).mono ?_;rintro e w' ⟨rfl,hb⟩));go_ret;exact⟨rfl,hb⟩
theorem zkf(vars:Int)(h:yfy l=none):ycu l vars=false:=by unfold ycu;rw[h]
theorem zke(vars:Int)(h:200 < l.length):ycu l vars=false:=by
 unfold ycu;cases yfy l with
 | none=>rfl
 | some E=>simp;omega
theorem zsn(vars:Int)(k:Nat)(hk:k < l.length)(h:yvb vars l[k]=false):ycu l vars=false:=by
 unfold ycu;cases yfy l with
 | none=>rfl
 | some E=>
  have:l.all (yvb vars)=false:=by rw[qcm];exact⟨l[k],qfs hk,by simp[h]⟩
  simp only[this,qdy,qci]
theorem zkg(vars:Int)(E:Ex)(hp:yfy l=some E)(h:l.length<=200)(ha:(l.take l.length).all (yvb vars)=true):ycu l vars=(decide (E.dp<=24) && decide (E.ns<=2)):=by
 rw[qaw]at ha;unfold ycu;rw[hp];simp[ha,h]
theorem zkd(vars:Int)(E:Ex)(hp:yfy l=some E)(h:24 < E.dp\/2 < E.ns):ycu l vars=false:=by
 unfold ycu;rw[hp];rcases h with h|h <;> simp <;> omega
theorem zop(l:List Tm)(vars:Int)(k:Nat)(h:k < l.length)(ha:(l.take k).all (yvb vars)=true)(hw:yvb vars l[k]=true):(l.take (k+1)).all (yvb vars)=true:=by
 rw[qcp h,qfa,ha];simp[hw]
set_option maxHeartbeats 2000000 in
theorem valid_any(v:Value)(l:List Tm)(vars:Int)(w:World)(hl:l.length<=1000)(hv:Hid (yit w v l)) :
  Calls prog 105 #[v,.int .i64 vars] w fun e w'=>e=.returned (.bool (ycu l vars))/\Below w.heap.size w w':=by
 obtain⟨a0,cap0,rfl,h1,h2,h3⟩:=hv.out.open;have HC:=Lib.hid h3;clear h3;by_cases h200:200 < l.length
 .have H:=Lib.hid (zke vars h200);go_enter Tryz.func105,ntmps105;go_wp2_with fail;go_ret;exact⟨yen H.out.symm,Below.refl _ _⟩
 cases hp:yfy l with
 | none=>
  have H:=Lib.hid (zkf vars hp);obtain⟨he,_⟩:=xke l hp;clear hp;go_enter Tryz.func105,ntmps105;go_wp2_with (go_at_call 163;refine(zpf _ l 0 _ hl hv om).mono ?_;rintro e w' ⟨rfl,rfl⟩);go_ret;exact⟨yen H.out.symm,Below.refl _ _⟩
 | some E=>
  have HP:=Lib.hid hp;obtain⟨he,_⟩:=xkg l E hp;clear hp;go_enter Tryz.func105,ntmps105;go_wp2_with (go_at_call 163;refine(zpf _ l 0 _ hl hv om).mono ?_;rintro e w' ⟨rfl,rfl⟩);go_loopw [6,19] (fun _ i wr=>∃ k:Nat,k<=l.length/\i=.int .i64 k/\Hid ((l.take k).all (yvb vars)=true)/\Below w.heap.size w wr) (fun _ i _=>l.length - (intOf i).toNat);case atStart=>exact⟨0,om,rfl,rfl,Below.refl _ _⟩
  case round=>
   obtain⟨k,hk,rfl,ha,hbel⟩:=hrel
   by_cases hlt:k < l.length
   .obtain ⟨g,o,rfl,hg,hc⟩:=HC.out om
    obtain⟨c0,c1⟩:=hc k _ (qae hlt)
    rw[<- hbel.cell (p:=⟨g,_,none⟩) hg]at c0 c1
    clear hc
    have hbs:=hbel.size
    rcases Bool.eq_false_or_eq_true (yvb vars l[k])with hw|hw
    .have H:=Lib.hid (zop l vars k hlt ha.out hw)
     go_wp2_with (go_at_call 164;refine(yzt l[k] vars _).mono ?_;rintro e w1 ⟨rfl,hb1⟩)
     exact⟨⟨k+1,om,by go_num,H,(hbel.alloc hbs _).trans (hb1.mono so)⟩,by simp[intOf];omega⟩
    have H:=Lib.hid (zsn vars k hlt hw)
    go_wp2_with (go_at_call 164;refine(yzt l[k] vars _).mono ?_;rintro e w1 ⟨rfl,hb1⟩)
    go_ret
    exact⟨yen H.out.symm,(hbel.alloc hbs _).trans (hb1.mono so)⟩
   obtain rfl:k=l.length:=by omega
   have H:=Lib.hid (zkg vars E HP.out om ha.out)
   have HD:Hid (yzy l=E.dp):=by unfold yzy;rw[HP.out];rfl
   have HN:Hid (ztz l=E.ns):=by unfold ztz;rw[HP.out];rfl
   by_cases hd:yzy l<=24
   all_goals
    go_wp2_with (first|(go_at_call 165;refine(depth_any _ l _ hl (hv.out.below hbel)).mono ?_;rintro e w1 ⟨rfl,hb1⟩)|(go_at_call 166;refine(nest_any _ l _ hl (hv.out.below (zor hbel hb1))).mono ?_;rintro e w2 ⟨rfl,hb2⟩))
    go_ret
   .refine ⟨yen ?_,zor (zor hbel hb1) hb2⟩
    rw[H.out,<- HD.out,<- HN.out];simp[hd];omega
   refine⟨yen ?_,zor hbel hb1⟩
   rw[H.out,<- HD.out];simp;omega
set_option maxHeartbeats 2000000 in
theorem rvalid_any(v:Value)(l:List Tm)(vars:Int)(w:World)(hl:l.length<=1000)(hv:Hid (yit w v l)) :
  Calls prog 267 #[v,.int .i64 vars] w fun e w'=>e=.returned (.bool (ycu l vars))/\Below w.heap.size w w':=by
 obtain⟨a0,cap0,rfl,h1,h2,h3⟩:=hv.out.open;have HC:=Lib.hid h3;clear h3;by_cases h200:200 < l.length
 .have H:=Lib.hid (zke vars h200);go_enter Tryz.func267,ntmps267;go_wp2_with fail;go_ret;exact⟨yen H.out.symm,Below.refl _ _⟩
 cases hp:yfy l with
 | none=>
  have H:=Lib.hid (zkf vars hp);have h1:xai l=false:=by unfold xai;rw[hp];rfl
  clear hp;go_enter Tryz.func267,ntmps267;go_wp2_with (go_at_call 282;refine(yyv _ l _ hl hv).mono ?_;rintro e w' ⟨rfl,rfl⟩);go_ret;exact⟨yen H.out.symm,Below.refl _ _⟩
 | some E=>
  have HP:=Lib.hid hp;have h1:xai l=true:=by unfold xai;rw[hp];rfl
  clear hp;by_cases hd:24 < E.dp
  .have H:=Lib.hid (zkd vars E HP.out (.inl hd));go_enter Tryz.func267,ntmps267;go_wp2_with (first|(go_at_call 282;refine(yyv _ l _ hl hv).mono ?_;rintro e w' ⟨rfl,rfl⟩)|(go_at_call 283;refine(yzb _ l E _ hl hv HP).mono ?_;rintro e w1 ⟨rfl,hb1⟩));go_ret;exact⟨yen H.out.symm,hb1⟩
  by_cases hn:2 < E.ns
  .have H:=Lib.hid (zkd vars E HP.out (.inr hn));go_enter Tryz.func267,ntmps267;go_wp2_with (first|(go_at_call 282;refine(yyv _ l _ hl hv).mono ?_;rintro e w' ⟨rfl,rfl⟩)|(go_at_call 283;refine(yzb _ l E _ hl hv HP).mono ?_;rintro e w1 ⟨rfl,hb1⟩)|(go_at_call 284;refine(zrr _ l E _ hl (hv.out.below hb1) HP).mono ?_;rintro e w2 ⟨rfl,hb2⟩));go_ret;exact⟨yen H.out.symm,zor hb1 hb2⟩
  have b1:decide (24 < E.dp)=false:=by simp;omega
  have b2:decide (2 < E.ns)=false:=by simp;omega
  have b3:decide (24 < (E.dp:Int))=false:=by simp;omega
  have b4:decide (2 < (E.ns:Int))=false:=by simp;omega
  have b5:decide (200 < (l.length:Int))=false:=by simp;omega
  go_enter Tryz.func267,ntmps267;go_wp2_with (first|(go_at_call 282;refine(yyv _ l _ hl hv).mono ?_;rintro e w' ⟨rfl,rfl⟩)|(go_at_call 283;refine(yzb _ l E _ hl hv HP).mono ?_;rintro e w1 ⟨rfl,hb1⟩)|(go_at_call 284;refine(zrr _ l E _ hl (hv.out.below hb1) HP).mono ?_;rintro e w2 ⟨rfl,hb2⟩));have hb:=zor hb1 hb2;go_loopw [5] (fun i wr=>∃ k:Nat,k<=l.length/\i=.int .i64 k/\Hid ((l.take k).all (yvb vars)=true)/\Below w.heap.size w wr) (fun i _=>l.length - (intOf i).toNat);case atStart=>exact⟨0,om,rfl,rfl,hb⟩
  case round=>
   obtain⟨k,hk,rfl,ha,hbel⟩:=hrel
   by_cases hlt:k < l.length
   .obtain ⟨g,o,rfl,hg,hc⟩:=HC.out om
    obtain⟨c0,c1⟩:=hc k _ (qae hlt)
    rw[<- hbel.cell (p:=⟨g,_,none⟩) hg]at c0 c1
    clear hc
    have hbs:=hbel.size
    rcases Bool.eq_false_or_eq_true (yvb vars l[k])with hw|hw
    .have H:=Lib.hid (zop l vars k hlt ha.out hw)
     go_wp2_with (go_at_call 285;refine(yws l[k] vars _).mono ?_;rintro e w3 ⟨rfl,hb3⟩)
     exact⟨⟨k+1,om,by go_num,H,zor hbel hb3⟩,by simp[intOf];omega⟩
    have H:=Lib.hid (zsn vars k hlt hw)
    go_wp2_with (go_at_call 285;refine(yws l[k] vars _).mono ?_;rintro e w3 ⟨rfl,hb3⟩)
    go_ret
    exact⟨yen H.out.symm,zor hbel hb3⟩
   obtain rfl:k=l.length:=by omega
   have H:=Lib.hid (zkg vars E HP.out om ha.out)
   go_wp2_with fail
   go_ret
   refine⟨yen ?_,hbel⟩
   rw[H.out];simp;omega
end
section
open Go.RowKit
def zed(k:Int):Bool:=decide (k=1) || (decide (k=2) || decide (k=3))
def xan(op a b c:Int):Int:=if ar op=1 then ty1 op a else if ar op=2 then ty2 op a b else ty3 a b c
end
section
open Go.RowKit
theorem xbr(h:ar op=0):1<=op/\op<=17:=by
 unfold ar at h;(repeat' split at h) <;> omega
theorem zvq(h:ar op=1):18<=op/\op<=29:=by
 unfold ar at h;(repeat' split at h) <;> omega
theorem zvs(h:ar op=2):30<=op/\op<=42:=by
 unfold ar at h;(repeat' split at h) <;> omega
theorem zvr(h:ar op=3):op=43:=by
 unfold ar at h;(repeat' split at h) <;> omega
theorem zvt{t:Tm}(h:yvb kinds.length t=true):t.1=5\/t.1=12->0<=t.2/\t.2 < kinds.length:=by
 intro h5;unfold yvb at h;rw[if_neg om,if_pos h5]at h;simpa using h
theorem yrx{p:Nat}{t:Tm}{r:List Tm}(h:l.drop p=t::r):p < l.length/\l[p]?=some t/\l.drop (p+1)=r:=by
 have h1:p < l.length:=by
  rcases qbh p l.length with h1|h1
  .exact h1
  rw[qgu h1]at h;cases h
 rw[qbl h1]at h;simp only[List.cons.injEq]at h;exact⟨h1,by rw[qae h1,h.1],h.2⟩
end
section
open Go.RowKit
theorem zdj{q:Nat}{r:List Tm}(h:l.drop q=X.fl++r):l.drop (q+X.fl.length)=r:=by
 rw[<- qgq,h,List.drop_append_of_le_length (qbf _),qcb,qcw]
end
section
open Go.RowKit
theorem ziv(k:Nat)(hk:k < kinds.length)(h:zed kinds[k]=false):ygv kinds=false:=by
 unfold ygv;rw[qcm];exact⟨kinds[k],qfs hk,by unfold zed at h;simp[h]⟩
theorem kindsB_step(k:Nat)(hk:k < kinds.length)(h:ygv (kinds.take k)=true)(hw:zed kinds[k]=true):ygv (kinds.take (k+1))=true:=by
 rw[qcp hk];unfold ygv at *;rw[qfa,h];unfold zed at hw;simpa using hw
end
set_option linter.unusedVariables false
section
open Go.RowKit
def ydt(n lo hi:Int):Bool:=decide (lo<=n) && decide (n<=hi)
def yxp(x:VarD):Bool:=
 zed x.kind && (if (x.kind != 1)=true then(x.lo == 0) && ((x.hi == 0) && ((x.perNode == 0) && (x.perID == 0)))else
  ydt x.lo 0 4096 && (ydt x.perNode 0 255 && (ydt x.perID 0 255 && (if ((x.perNode == 0) && (x.perID == 0))=true then ydt x.hi 0 4096 else((x.perNode == 0) || (x.perID == 0)) && ydt x.hi (-4096) 4096))))
theorem kind_one(k:Int)(h:(k != 1)=false):zed k=true:=by
 simp at h;subst h;rfl
end
section
open Go.RowKit
def ypw:Bool->List UInt8->Nat
 | _,[]=>0
 | true,c::r=>if c=10 then 1+ypw false r else 1+ypw true r
 | false,c::r=>if c=32\/c=9\/c=10\/c=13 then 1+ypw false r else if c=35 then 1+ypw true r else 0
def ybf(s:ByteArray)(k:Nat):List UInt8:=s.data.toList.drop k
def zjt(s:ByteArray)(b:Bool)(a:Nat):Nat:=a+ypw b (ybf s a)
theorem ymo(s:ByteArray)(k:Nat)(h:k < s.size):ybf s k=s[k]::ybf s (k+1):=by
 unfold ybf;rw[qbl (by simpa using h)];rfl
theorem bytesFrom_ge(s:ByteArray)(k:Nat)(h:s.size<=k):ybf s k=[]:=by
 unfold ybf;exact qgu (by simpa using h)
theorem bytesFrom_drop(s:ByteArray)(k n:Nat):(ybf s k).drop n=ybf s (k+n):=by
 unfold ybf;rw[qgq]
theorem ykj(s:ByteArray)(k:Nat):(ybf s k).length=s.size - k:=by
 unfold ybf;simp
theorem skipL_le(b:Bool)(r:List UInt8):ypw b r<=r.length:=by
 induction r generalizing b with
 | nil=>cases b <;> simp[ypw]
 | cons c r ih=>
  have h1:=ih true;have h2:=ih false;cases b <;> simp only[ypw,qaj] <;> repeat' split
  all_goals omega
theorem skipTo_bd(s:ByteArray)(b:Bool)(k:Nat)(h:k<=s.size):k<=zjt s b k/\zjt s b k<=s.size:=by
 have:=skipL_le b (ybf s k);rw[ykj]at this;unfold zjt;omega
def ykk(c:UInt8):Bool:=(97<=c && c<=122) || (65<=c && c<=90)
def yzz(c:UInt8):Bool:=48<=c && c<=57
def ypx(c:UInt8):Bool:=ykk c || yzz c || c == 95
def xla(p:UInt8->Bool):List UInt8->Nat
 | []=>0
 | c::r=>if p c then 1+xla p r else 0
def dig(v:Nat)(c:UInt8):Nat:=10 * v+(c.toNat - 48)
def xnn(v:Nat)(ds:List UInt8):Nat:=ds.foldl dig v
def numRes(ds:List UInt8):Option Nat:=if (1 < ds.length/\ds.head?=some 48)\/1073741824 < xnn 0 ds then none else some (xnn 0 ds)
theorem take_snoc(s:ByteArray)(k:Nat)(h:k < s.size):(ybf s 0).take (k+1)=(ybf s 0).take k++[s[k]]:=by
 unfold ybf;rw[qfi,qcp (by simpa using h)];rfl
theorem take_all(s:ByteArray)(k:Nat)(h:s.size<=k):(ybf s 0).take k=ybf s 0:=by
 rw[qal];rw[ykj];omega
theorem mem_bytes(s:ByteArray)(k:Nat)(h:k < s.size):s[k]∈ybf s 0:=by
 unfold ybf;rw[qfi,Array.mem_toList_iff];exact Array.getElem_mem (xs:=s.data) h
def sign2B(a b:UInt8):Bool:=
 (a == 46 && b == 46) || (a == 45 && b == 62) || (a == 58 && b == 61) || (a == 38 && b == 38) || (a == 124 && b == 124) || (a == 61 && b == 61) || (a == 33 && b == 61) || (a == 60 && b == 61) || (a == 62 && b == 61)
def xhl(a:UInt8):Bool:=[59,58,44,40,41,46,63,60,62,43,45,42,47,37,33].contains a
def xlc:List UInt8->Nat
 | a::b::_=>if sign2B a b then 2 else if xhl a then 1 else 0
 | [a]=>if xhl a then 1 else 0
 | []=>0
structure Tok where
 kind:Nat
 from_:Nat
 to:Nat
 num:Nat
def xmz(r:List UInt8):Except Nat (Nat × Nat × Nat):=
 match r with
 | []=>.error 4
 | c::_=>
  if ykk c then(if 24 < xla ypx r then .error 5 else .ok (1,xla ypx r,0))
  else if yzz c then(match numRes (r.take (xla yzz r))with|none=>.error 2|some v=>.ok (2,xla yzz r,v))
  else if xlc r=0 then .error 4 else .ok (3,xlc r,0)
theorem zpd(s:ByteArray)(p:Nat):(ybf s p).drop (ypw false (ybf s p))=ybf s (zjt s false p):=by
 rw[bytesFrom_drop];rfl
theorem bytesFrom_nil_iff(s:ByteArray)(k:Nat):ybf s k=[]<->s.size<=k:=by
 rw[<- List.length_eq_zero_iff,ykj];omega
end
set_option maxHeartbeats 8000000
section
open Go.RowKit
def xkx:List (List UInt8):=[[112,114,111,103,114,97,109],[118,97,114],[114,117,108,101],[98,111,111,108],[112,111,114,116],[116,114,117,101],[102,97,108,115,101],[110,111,110,101],[110],[105,100,115],[105,100],[100,101,103],[114,111,111,116],[113],[119,101,105,103,104,116],[98,97,99,107],[97,108,108],[115,111,109,101],[99,111,117,110,116],[102,105,114,115,116],[109,105,110],[109,97,120],[115,117,109],[109,101,120],[115,101,99,111,110,100],[104,101,97,100]]
def xgc(s:ByteArray):Bool:=xkx.any (fun x=>s.toList == x)
theorem resB_yes(s:ByteArray)(x:List UInt8)(hx:xkx.contains x=true)(h:(s.toList == x)=true):xgc s=true:=by
 unfold xgc;rw[List.any_eq_true];exact⟨x,qhc.1 hx,h⟩
set_option maxHeartbeats 4000000 in
def yku(s:ByteArray):Bool:=
 match ybf s 0 with
 | []=>false
 | c::r=>decide (s.size<=24) && (ykk c && ((c::r).all ypx && !xgc s))
theorem zes(s:ByteArray)(h:s.size=0):yku s=false:=by
 unfold yku;rw[bytesFrom_ge s 0 om]
theorem zjf(s:ByteArray)(h:24 < s.size):yku s=false:=by
 unfold yku;rw[ymo s 0 om];simp;omega
theorem zah(s:ByteArray)(h:0 < s.size)(hl:ykk s[0]=false):yku s=false:=by
 unfold yku;rw[ymo s 0 h];simp[hl]
theorem zjh(s:ByteArray)(k:Nat)(h:k < s.size)(hw:ypx s[k]=false):yku s=false:=by
 have hm:=mem_bytes s k h;unfold yku;cases hb:ybf s 0 with
 | nil=>rfl
 | cons c r=>
  rw[hb]at hm;have:(c::r).all ypx=false:=by
   rw[qcm];exact⟨s[k],hm,by simp[hw]⟩
  simp only[this,qdy,qci]
theorem zjg(s:ByteArray)(h:0 < s.size)(h24:s.size<=24)(hl:ykk s[0]=true)(ha:((ybf s 0).take s.size).all ypx=true):yku s=!xgc s:=by
 rw[take_all s _ (qbf _)]at ha;unfold yku;rw[ymo s 0 h]at *;simp only[ha,hl,h24,decide_true,qfe]
theorem zvk(s:ByteArray)(k:Nat)(h:k < s.size)(ha:((ybf s 0).take k).all ypx=true)(hw:ypx s[k]=true):((ybf s 0).take (k+1)).all ypx=true:=by
 rw[take_snoc s k h,qfa,ha];simp[hw]
end
section
open Go.RowKit
def xah(s:ByteArray):List UInt8:=s.data.toList
theorem zxu(a b:ByteArray):(a.toList == b.toList)=decide (xah a=xah b):=by
 rw[ByteArray.toList_eq,ByteArray.toList_eq,qbw];simp[xah]
theorem zmg{a b:ByteArray}(h:xah a=xah b):a=b:=by
 cases a;cases b;simp only[xah]at h;congr;exact Array.toList_inj.1 h
def ygl(l:List ByteArray):Bool:=l.all yku && decide ((l.map xah).Nodup)
theorem names_bad{l:List ByteArray}(k:Nat)(hk:k < l.length)(h:yku l[k]=false):ygl l=false:=by
 unfold ygl;have:l.all yku=false:=by rw[qcm];exact⟨l[k],qfs hk,by simp[h]⟩
 rw[this];rfl
theorem names_twice{l:List ByteArray}(j k:Nat)(hjk:j < k)(hk:k < l.length)(h:xah (l[j]'om)=xah l[k]):ygl l=false:=by
 unfold ygl;have:¬ (l.map xah).Nodup:=by
  intro hn;have hn':=qdo.1 hn j k so (by simpa using hk) hjk;apply hn';simp[h]
 simp[this]
theorem names_step{l:List ByteArray}(k:Nat)(hk:k < l.length)(h:ygl (l.take k)=true)(h1:yku l[k]=true)(h2:xah l[k] ∉ (l.take k).map xah):ygl (l.take (k+1))=true:=by
 unfold ygl at *;rw[qad,decide_eq_true_eq]at *;rw[qcp hk,qfa,h.1,qbz];refine⟨by simpa using h1,?_⟩;rw[qdl];refine⟨h.2,sm,?_⟩;intro a ha b hb;simp only[List.map_singleton,qau]at hb;subst hb;intro hab;exact h2 (hab ▸ ha)
def ygx(p:ProgD):Bool:=yku p.name && (ygl (p.vars.map (·.name)) && ygl (p.rules.map (·.name)))
def yfx(r:RuleD)(n:Int):Bool:=
 decide (1<=r.sets.length) && (decide (r.sets.length<=6) && (ycu r.guard n && (r.sets.all (fun s=>ydt s.var 0 (n - 1) && ycu s.val n) && decide ((r.sets.map (·.var)).Nodup))))
def ykq(r:RuleD)(kinds:List Int):Bool:=((ofF r.guard kinds false).1 == 2) && r.sets.all (fun s=>(ofF s.val kinds false).1 == kinds.getD s.var.toNat 0)
def ybq(p:ProgD):List Int:=p.vars.map (·.kind)
def yet(p:ProgD):Int:=
 if p.vars.length=0\/6 < p.vars.length\/12 < p.rules.length then 3 else if ygx p=false then 5 else if p.vars.all yxp=false then 2 else
 if p.rules.all (yfx · p.vars.length)=false then 7 else if p.rules.all (ykq · (ybq p))=false then 6 else 0
end
section
open Go.RowKit Go.Maps
def zoe(P:Program)(k e:TypeId)(w:World)(b n:Nat)(S:List Lit):Prop:=
 ∃ D:DataW Unit,w.ownsMap P k (plainElem P e) b n D/\∀ kl,(kl∈S->D.atKey kl (.lit (.bool false))=.lit (.bool true))/\(kl ∉ S->D.atKey kl (.lit (.bool false))=.lit (.bool false))
section
variable{P:Program}{k e t:TypeId}{w w':World}{b n:Nat}{S:List Lit}
theorem zoe.lt(h:zoe P k e w b n S):b < w.heap.size:=by obtain⟨D,h,_⟩:=h;exact h.lt
theorem zoe.below(h:zoe P k e w b n S)(hb:Below w.heap.size w w'):zoe P k e w' b n S:=by
 have hl:=h.lt;obtain⟨D,⟨es,clock,h1,h2⟩,h3⟩:=h;exact⟨D,⟨es,clock,(hb.block b hl).trans h1,h2⟩,h3⟩
end
end
section
open Go.RowKit Go.Maps
theorem yox:Keyed prog 9:=string_keyed underlying9
theorem zno(w:World):(zeroValue 4).run prog w=.ok (.bool false) w:=by kernel_rfl
theorem yny(s:ByteArray)(h:s.size<=9223372036854775807):keyOf prog 9 (.string s)=some (.string (xah s)):=WideMaps.keyOf_string_mk underlying9 (by unfold maxLen;omega)
end
section
open Go.RowKit Go.Maps
def zsu(n:Int)(s:SetD):Bool:=ydt s.var 0 (n - 1) && ycu s.val n
def ywy(l:List SetD)(n:Int):Bool:=l.all (zsu n) && decide ((l.map (·.var)).Nodup)
theorem ylc(r:RuleD)(n:Int):yfx r n=(decide (1<=r.sets.length) && (decide (r.sets.length<=6) && (ycu r.guard n && ywy r.sets n))):=rfl
theorem sets_bad{l:List SetD}{n:Int}(k:Nat)(hk:k < l.length)(h:zsu n l[k]=false):ywy l n=false:=by
 unfold ywy;have:l.all (zsu n)=false:=by rw[qcm];exact⟨l[k],qfs hk,by simp[h]⟩
 rw[this];rfl
theorem zjs{l:List SetD}{n:Int}(j k:Nat)(hjk:j < k)(hk:k < l.length)(h:(l[j]'om).var=l[k].var):ywy l n=false:=by
 unfold ywy;have:¬ (l.map (·.var)).Nodup:=by
  intro hn;have hn':=qdo.1 hn j k so (by simpa using hk) hjk;apply hn';simp[h]
 simp[this]
theorem zxg:Keyed prog 3:=int_keyed underlying3
theorem wf_of_in{x:Int}(h:yxn x):(Lit.int .i64 x).wf=true:=by
 obtain⟨h1,h2⟩:=h;have e1:IntKind.i64.min=-9223372036854775808:=by decide
 have e2:IntKind.i64.max=9223372036854775807:=by decide
 simp only[Lit.wf,qad,decide_eq_true_eq];omega
theorem xcz(x:Int)(h:yxn x):keyOf prog 3 (.int .i64 x)=some (.int .i64 x):=keyOf_int_mk underlying3 (wf_of_in h)
def zob(r:RuleD):Prop:=r.guard.length<=1000/\r.sets.length<=1000/\∀ s∈r.sets,s.val.length<=1000
end
section
open Go.RowKit Go.Maps
theorem xhe{bound:Bool}(h6:¬ 6 < kinds.length)(hk:ygv kinds=true)(hv:ycu l kinds.length=true):∃ E,yfy l=some E/\E.ok/\E.fl=l/\(∀ t∈l,yvb kinds.length t=true)/\(ofF l kinds bound).1=ty kinds bound E:=by
 obtain⟨E,hp,ho,hf,_,ha,_,_⟩:=yuv hv;refine⟨E,hp,ho,hf,List.all_eq_true.1 ha,?_⟩;rw[xdr l kinds bound E h6 hk hv hp];split
 .rename_i h;rw[h]
 rfl
end
section
open Go.RowKit Go.Maps
def zhk(p:ProgD):Prop:=p.vars.length<=1000/\p.rules.length<=1000/\∀ r∈p.rules,zob r
theorem yuc(h:p.vars.length=0\/6 < p.vars.length\/12 < p.rules.length):yet p=3:=by unfold yet;rw[if_pos h]
theorem yyg(h:¬ (p.vars.length=0\/6 < p.vars.length\/12 < p.rules.length))(h1:ygx p=false):yet p=5:=by unfold yet;rw[if_neg h,if_pos h1]
theorem zdd(h:¬ (p.vars.length=0\/6 < p.vars.length\/12 < p.rules.length))(h1:ygx p=true)(h2:p.vars.all yxp=false):yet p=2:=by unfold yet;rw[if_neg h,if_neg (by simp[h1]),if_pos h2]
theorem zhv(h:¬ (p.vars.length=0\/6 < p.vars.length\/12 < p.rules.length))(h1:ygx p=true)(h2:p.vars.all yxp=true)(h3:p.rules.all (yfx · p.vars.length)=false):yet p=7:=by unfold yet;rw[if_neg h,if_neg (by simp[h1]),if_neg (by simp[h2]),if_pos h3]
theorem zhw(h:¬ (p.vars.length=0\/6 < p.vars.length\/12 < p.rules.length))(h1:ygx p=true)(h2:p.vars.all yxp=true)(h3:p.rules.all (yfx · p.vars.length)=true)(h4:p.rules.all (ykq · (ybq p))=false):yet p=6:=by unfold yet;rw[if_neg h,if_neg (by simp[h1]),if_neg (by simp[h2]),if_neg (by simp[h3]),if_pos h4]
theorem zkv(h:¬ (p.vars.length=0\/6 < p.vars.length\/12 < p.rules.length))(h1:ygx p=true)(h2:p.vars.all yxp=true)(h3:p.rules.all (yfx · p.vars.length)=true)(h4:p.rules.all (ykq · (ybq p))=true):yet p=0:=by unfold yet;rw[if_neg h,if_neg (by simp[h1]),if_neg (by simp[h2]),if_neg (by simp[h3]),if_neg (by simp[h4])]
theorem zdt{r:RuleD}(h:yfx r n=true):∀ s∈r.sets,0<=s.var/\s.var < n:=by
 rw[ylc]at h;simp only[qad,ywy,List.all_eq_true,zsu,ydt,decide_eq_true_eq]at h;intro s hs;have:=(h.2.2.2.1 s hs).1;omega
theorem kinds_of_num(h:p.vars.all yxp=true):ygv (ybq p)=true:=by
 unfold ygv ybq;rw[List.all_map,List.all_eq_true];intro x hx;have:=List.all_eq_true.1 h x hx;unfold yxp at this;rw[qad]at this;exact this.1
end
section
def yca(l:List Int):Int:=l.foldl max 0
theorem yjq(l:List Int)(k:Nat)(x:Int)(h:l[k]?=some x):yca (l.take (k+1))=if x > yca (l.take k)then x else yca (l.take k):=by
 unfold yca;rw[qfn,h];simp only[Option.toList_some,qcx,qcr,qhp];omega
theorem zab{l:List Int}(h:∀ x∈l,x<=255):0<=yca l/\yca l<=255:=by
 unfold yca;have:∀ (l:List Int) (a:Int),(∀ x∈l,x<=255)->0<=a->a<=255->0<=l.foldl max a/\l.foldl max a<=255:=by
  intro l;induction l with
  | nil=>intro a _ h1 h2;exact⟨h1,h2⟩
  | cons y l ih=>
   intro a hl h1 h2;have:=hl y sm;exact ih (max a y) (fun x hx=>hl x (by simp[hx])) om om
 exact this l 0 h om om
instance:Inhabited VarD:=⟨⟨ByteArray.empty,0,0,0,0,0⟩⟩
theorem yil(h:yxp x=true):(x.kind=1\/x.kind=2\/x.kind=3)/\0<=x.lo/\x.lo<=4096/\-4096<=x.hi/\x.hi<=4096/\0<=x.perNode/\x.perNode<=255/\0<=x.perID/\x.perID<=255:=by
 unfold yxp at h;rw[qad]at h;obtain⟨h1,h2⟩:=h;have hk:x.kind=1\/x.kind=2\/x.kind=3:=by simp[zed]at h1;omega
 refine⟨hk,?_⟩;split at h2
 .simp at h2;omega
 simp only[ydt,qad,decide_eq_true_eq]at h2;obtain⟨g1,g2,g3,g4⟩:=h2;split at g4 <;> simp at g4 <;> omega
theorem ycn(h:yet p=0):1<=p.vars.length/\p.vars.length<=6/\p.rules.length<=12/\∀ x∈p.vars,yxp x=true:=by
 by_cases h1:p.vars.length=0\/6 < p.vars.length\/12 < p.rules.length
 .rw [yuc h1]at h;omega
 by_cases h2:ygx p=true
 .by_cases h3:p.vars.all yxp=true
  .exact ⟨om,om,om,fun x hx=>List.all_eq_true.1 h3 x hx⟩
  rw[zdd h1 h2 (by simpa using h3)]at h;omega
 rw[yyg h1 (by simpa using h2)]at h;omega
def yar(x:VarD)(g:GraphD)(deg:Int):Int × Int:=
 if x.kind=2 then(0,1)else if x.kind=3 then(-1,deg - 1)else(x.lo,x.hi+x.perNode * g.ports.length+x.perID * yca g.ids)
def xfs(g:GraphD)(v:Int):Int:=(g.ports.getD v.toNat []).length
def xjj(p:ProgD)(g:GraphD)(v x:Int):Bool:=decide (0<=v) && decide (v < g.ports.length) && (decide (0<=x) && decide (x < p.vars.length))
theorem yxh(p:ProgD)(g:GraphD)(v x:Int):xjj p g v x=true<->0<=v/\v < g.ports.length/\0<=x/\x < p.vars.length:=by unfold xjj;simp[and_assoc]
def zgr(g:GraphD)(x:VarD):Bool:=!(x.kind == 1) || (decide ((yar x g 0).1<=(yar x g 0).2) && decide ((yar x g 0).2 - (yar x g 0).1+1<=4096))
def ycv(p:ProgD)(g:GraphD):Int:=if yet p=0 then if ycf g=true then if p.vars.all (zgr g)=true then 0 else 9 else 1 else 8
def yiy(kind lo hi value:Int):Int:=if lo<=value/\value<=hi then value else if kind=3 then -1 else if value < lo then lo else hi
def ygt(g:GraphD)(deg:Int)(n:Int)(x:VarD):Int:=if (1073741824:Int) < n * ((yar x g deg).2 - (yar x g deg).1+1)then 1073741824 else n * ((yar x g deg).2 - (yar x g deg).1+1)
def xaq(p:ProgD)(g:GraphD)(v:Int):Int:=if ycv p g=0 then if 0<=v/\v < g.ports.length then p.vars.foldl (ygt g (xfs g v)) 1 else 0 else 0
theorem ydk{g:GraphD}:ycv p g=0<->yet p=0/\ycf g=true/\∀ x∈p.vars,zgr g x=true:=by
 unfold ycv;constructor
 .intro h;split at h
  .split at h
   .split at h
    .rename_i h1 h2 h3;exact⟨h1,h2,List.all_eq_true.1 h3⟩
    omega
   omega
  omega
 rintro⟨h1,h2,h3⟩;rw[if_pos h1,if_pos h2,if_pos (List.all_eq_true.2 h3)]
theorem valid_greatest{g:GraphD}(h:ycf g=true):0<=yca g.ids/\yca g.ids<=255:=zab fun x hx=>((ybe h).2.2.2.1 x hx).2
theorem xdm{a b A B:Int}(h0:0<=a)(h1:a<=A)(h2:0<=b)(h3:b<=B):0<=a * b/\a * b<=A * B:=⟨qgr h0 h2,qfz h1 h3 h2 om⟩
theorem zni{g:GraphD}(hx:yxp x=true)(hg:ycf g=true):0<=x.perNode * (g.ports.length:Int)/\x.perNode * (g.ports.length:Int)<=255 * 24/\0<=x.perID * yca g.ids/\x.perID * yca g.ids<=255 * 255:=by
 have h1:=yil hx;have h2:=ybe hg;have h3:=valid_greatest hg;have m1:=xdm (a:=x.perNode) (b:=(g.ports.length:Int)) (A:=255) (B:=24) om om om om;have m2:=xdm (a:=x.perID) (b:=yca g.ids) (A:=255) (B:=255) om om om om;omega
theorem yvh{g:GraphD}{deg:Int}(hx:yxp x=true)(hg:ycf g=true)(hd:0<=deg/\deg<=30):-1<=(yar x g deg).1/\(yar x g deg).1<=4096/\-4096<=(yar x g deg).2/\(yar x g deg).2<=100000:=by
 have h1:=yil hx;have h2:=zni hx hg;unfold yar;split
 .simp
 split
 .simp only;omega
 simp only;omega
theorem zwr{g:GraphD}{deg:Int}(hf:zgr g x=true)(hx:yxp x=true)(hd:0<=deg/\deg<=30):(yar x g deg).1<=(yar x g deg).2+(if x.kind=3 then 1 else 0)/\(yar x g deg).2 - (yar x g deg).1+1<=4096:=by
 have h1:=yil hx;unfold zgr at hf;unfold yar at hf ⊢;rcases h1.1 with hk|hk|hk
 .simp [hk]at hf ⊢;omega
 .simp [hk]
 simp[hk];omega
theorem xen{g:GraphD}{deg:Int}(hd:0<=deg/\deg<=30):∀ (l:List VarD) (n:Int),(∀ x∈l,yxp x=true)->(∀ x∈l,zgr g x=true)->0<=n->n<=1073741824->0<=l.foldl (ygt g deg) n/\l.foldl (ygt g deg) n<=1073741824
 | [],n,_,_,h1,h2=>⟨h1,h2⟩
 | x::l,n,hx,hf,h1,h2=>by
  have hb:=zwr (deg:=deg) (hf x sm) (hx x sm) hd;have hw:0<=(yar x g deg).2 - (yar x g deg).1+1:=by split at hb <;> omega
  have hm:0<=n * ((yar x g deg).2 - (yar x g deg).1+1):=qgr h1 hw;refine xen hd l _ (fun y hy=>hx y (by simp[hy])) (fun y hy=>hf y (by simp[hy])) ?_ ?_
  .unfold ygt;split <;> omega
  unfold ygt;split <;> omega
end
section
open Go.RowKit
theorem yso{f:α->List AV}{R:List Value->α->Prop}{l:List α}(h:Seq R size w v l)(hf:∀ x,(f x).length=size)(hfc:∀ x,∀ c∈f x,yeb c=true)(hR:∀ x∈l,∀ cs,R cs x->ybn (okW w) w (fun _=>none) (f x) cs):Rel (okW w) w lv (.sl size (l.map f)) v:=by
 obtain⟨xs,⟨a,cap,rfl,h1,h2,h3,h4,h5⟩,h6⟩:=h;have hget:∀ (i j:Nat) (row:List AV) (c:AV),(l.map f)[i]?=some row->row[j]?=some c->∃ x,l[i]?=some x/\row=f x/\∃ u,xs[i * size+j]?=some u/\Rel (okW w) w (fun _=>none) c u:=by
  intro i j row c hrow hc;rw[qak]at hrow;cases hx:l[i]? with
  | none=>simp[hx]at hrow
  | some x=>
   simp only[hx,qav,Option.some.injEq]at hrow;subst hrow;have hj:j < size:=by have:=(qaa.1 hc).1;rw[hf]at this;exact this
   have hi:=(qaa.1 hx).1;have hlt:i * size+j < xs.length:=by
    have:i * size+size<=l.length * size:=by rw[<- qdi];exact qel _ hi
    omega
   refine⟨x,rfl,rfl,xs[i * size+j],qae hlt,?_⟩;refine(hR x (qab hx) _ (h6 i x hx)).2 j c _ hc ?_;rw[qbc,if_pos hj,qby,qae hlt]
 have hgo:∃ g o,l≠[]->a=some ⟨g,o,none⟩/\g < w.heap.size/\∀ (j:Nat) (u:Value),xs[j]?=some u->w.cell? ⟨g,o+j,none⟩=some u:=by
  rcases h5 with h5|⟨g,o,q1,q2,q3⟩
  .exact ⟨0,0,fun h=>absurd (qax h5) h⟩
  exact⟨g,o,fun _=>⟨q1,q2,q3⟩⟩
 obtain⟨g,o,hgo⟩:=hgo;have:=Rel.sl (ok:=okW w) (w:=w) (lv:=lv) (size:=size) (rows:=l.map f) a cap (fun i j=>xs.getD (i * size+j) undef) g o (by simpa using h1) h2 h4 (fun row hr=>by obtain⟨x,_,rfl⟩:=qag.1 hr;exact hf x)
  (fun hne=>by have:=hgo (by intro h;simp[h]at hne);exact⟨this.1,this.2.1⟩) (fun i j row c hrow hc=>by
   obtain⟨x,hx,rfl,u,hu,hr⟩:=hget i j row c hrow hc
   have hne:l≠[]:=by intro h;simp[h]at hx
   refine⟨?_,hfc x c (qab hc)⟩
   rw[qdf,(hgo hne).2.2 _ u hu]
   simp[hu]) (fun i j row c hrow hc=>by
   obtain⟨x,hx,rfl,u,hu,hr⟩:=hget i j row c hrow hc
   have:xs.getD (i * size+j) undef=u:=by simp[hu]
   rw[this];exact hr)
 simpa using this
theorem flat_slice(hg:∀ x,(g x).length=size){l:List α}{x:α}(hx:l[i]?=some x):((l.flatMap g).drop (i * size)).take size=g x:=by
 apply qdt;intro j;rw[qbc];by_cases hj:j < size
 .rw [if_pos hj,qby];have hu:(g x)[j]?=some ((g x)[j]'(by rw[hg];exact hj)):=qae _;rw[hu];exact yks g size hg l i j x _ hx hu
 rw[if_neg hj,qch (by rw[hg];omega)]
theorem seq_of_row(hg:∀ x,(g x).length=size){l:List α}(h:Row w v size l.length (l.flatMap g)):Seq (fun cs x=>cs=g x) size w v l:=
 ⟨_,h,fun i x hx=>flat_slice hg hx⟩
theorem relAll_v(vs:List Value):ybn ok w lv (vs.map AV.v) vs:=by
 refine⟨sm,fun i x u hx hu=>?_⟩;rw[qak,hu]at hx;cases hx;exact .v u
theorem yie:ybn ok w lv [] []:=⟨rfl,fun i x u hx hu=>by simp at hx⟩
theorem ybt{a:AV}{vs:List Value}(h:Rel ok w lv a v)(t:ybn ok w lv xs vs):ybn ok w lv (a::xs) (v::vs):=by
 refine⟨by simp[t.1],fun i x u hx hu=>?_⟩;cases i with
 | zero=>simp at hx hu;subst hx hu;exact h
 | succ i=>simp at hx hu;exact t.2 i x u hx hu
theorem yrd(hg:∀ x,(g x).length=size)(h1:∀ x,∀ u∈g x,u.oneCell'=true){l:List α}(h:Row w v size l.length (l.flatMap g)):Rel (okW w) w lv (.sl size (l.map fun x=>(g x).map AV.v)) v:=
 yso (seq_of_row hg h) (fun x=>by simp[hg]) (fun x c hc=>by
  obtain⟨u,hu,rfl⟩:=qag.1 hc
  exact h1 x u hu) (fun x _ cs hc=>by subst hc;exact relAll_v _)
theorem ints_rel{l:List Int}(h:xfi .i64 w v l):Rel (okW w) w lv (yai l) v:=by
 refine yrd (g:=fun t:Int=>[.int .i64 t]) (fun _=>rfl) (fun x u hu=>by simp at hu;subst hu;rfl) ?_;unfold xfi at h
 rwa [zwu l]
theorem okW_lt(w:World):∀ g,okW w g->g < w.heap.size:=fun _ h=>h
end
section
open Go.RowKit
def yii(t:Tm):List AV:=[i64 t.1,i64 t.2]
def ybr(l:List Tm):AV:=.sl 2 (l.map yii)
def zid(s:SetD):List AV:=[i64 s.var,ybr s.val]
def ybc(r:RuleD):List AV:=[ykp r.name,ybr r.guard,.sl 2 (r.sets.map zid)]
def ybl(x:VarD):List AV:=[ykp x.name,i64 x.kind,i64 x.lo,i64 x.hi,i64 x.perNode,i64 x.perID]
def ygg(p:ProgD):AV:=.agg [ykp p.name,.sl 6 (p.vars.map ybl),.sl 3 (p.rules.map ybc)]
structure FaultD where
 node:Int
 var:Int
 value:Int
theorem seq_of_rel{f:α->List AV}{R:List Value->α->Prop}{l:List α}(h:Rel ok w lv (.sl size (l.map f)) v)(hok:∀ g,ok g->g < w.heap.size)(hR:∀ x∈l,∀ cs,ybn ok w (fun _=>none) (f x) cs->R cs x):Seq R size w v l:=by
 cases h with
 | sl a cap u g o hn hc ha hsz hg hcell hrel=>
  simp only[qai]at hn ⊢;have hfl:∀ x∈l,(f x).length=size:=fun x hx=>hsz _ (qde hx);refine⟨(List.range (l.length * size)).map fun j=>u (j / size) (j % size),⟨a,cap,rfl,hn,hc,sm,ha,?_⟩,fun i x hx=>?_⟩
  .rcases qfv l.length with h0|h0
   .exact .inl h0
   obtain⟨rfl,hok'⟩:=hg (by intro h;simp at h;simp[h]at h0);refine .inr ⟨g,o,rfl,hok g hok',fun j v hj=>?_⟩;have hlt:=(qaa.1 hj).1;simp only[qai,qds]at hlt;rw[qak,qcf hlt]at hj;simp only[qav,Option.some.injEq]at hj;have hs0:0 < size:=by
    rcases qfv size with h|h
    .simp [h]at hlt
    exact h
   have hi:j / size < l.length:=by rw[qhe hs0];exact hlt
   have hx:=qae hi;have hm:j % size < (f l[j / size]).length:=by rw[hfl _ (qfs hi)];exact Nat.mod_lt _ hs0
   have:=(hcell (j / size) (j % size) (f l[j / size]) _ (by simp[hx]) (qae hm)).1;rw[<- hj,<- this];congr 2;rw[qdf,Nat.mul_comm,Nat.div_add_mod]
  refine hR x (qab hx) _ ⟨?_,fun j c v hc hv=>?_⟩
  .have hi:=(qaa.1 hx).1;rw[hfl x (qab hx),qcj,qdj,qai,qds];have:i * size+size<=l.length * size:=by rw[<- qdi];exact qel _ hi
   omega
  have hj:j < size:=by have:=(qaa.1 hc).1;rw[hfl x (qab hx)]at this;exact this
  have hi:=(qaa.1 hx).1;have hlt:i * size+j < l.length * size:=by
   have:i * size+size<=l.length * size:=by rw[<- qdi];exact qel _ hi
   omega
  rw[qbc,if_pos hj,qby,qak,qcf hlt]at hv;simp only[qav,Option.some.injEq]at hv;have e1:(i * size+j) / size=i:=by rw[qda,qhd _ _ om,qgy hj,qay]
  have e2:(i * size+j) % size=j:=by rw[qda,qgf,qeq hj]
  rw[e1,e2]at hv;subst hv;exact hrel i j (f x) c (by simp[hx]) hc
theorem rowFlat{l:List α}(hg:∀ x,(g x).length=size)(h0:0 < size)(h:Seq (fun cs x=>cs=g x) size w v l):Row w v size l.length (l.flatMap g):=ysr g hg h0 h fun cs x h=>h
theorem yrk(h:Rel ok w lv (ybr l) v)(hok:∀ g,ok g->g < w.heap.size):yit w v l:=
 rowFlat (g:=fun t:Tm=>[.int .i64 t.1,.int .i64 t.2]) (fun _=>rfl) om (seq_of_rel h hok fun x _ cs hr=>by
  obtain⟨u,v,rfl,h1,h2⟩:=zfn hr
  rw[ykw h1,ykw h2])
end
section
open Go.RowKit
theorem zg{ops:Array Oper}{lf:Oper->Bool}{Q:SS->Prop}{h:List (Nat × Option LObj)}{rest:List Oper}{op:Op}{ty:TypeId}{pos:String}{af:Array Edge}{dst:Option Tmp}{j d:Nat}{want b:Bool}(k1:b=true->Lex prog N ops lf Q (⟨dst,op,ty,pos,af,some (j,want)⟩::rest) (S ((d,.v (.bool true))::t) h))(k2:b=false->Lex prog N ops lf Q (⟨dst,op,ty,pos,af,some (j,want)⟩::rest) (S ((d,.v (.bool false))::t) h))(hd:(ops[j]?).bind (·.dst)=some d:=by rfl)(hb:yak t d=some (.v (.bool b)):=by rfl):Lex prog N ops lf Q (⟨dst,op,ty,pos,af,some (j,want)⟩::rest) (S t h):=yaj d hb k1 k2
theorem zu{d:Nat}{h:List (Nat × Option LObj)}{x y:Code}{b:Bool}(k1:b=true->A prog N x Q (S ((d,.v (.bool true))::t) h))(k2:b=false->A prog N y Q (S ((d,.v (.bool false))::t) h))(hb:yak t d=some (.v (.bool b)):=by rfl)(hc:evF (yak t) (.tmp d)=some (.v (.bool b)):=by rfl):A prog N (.cond (.tmp d) x y) Q (S t h):=by
 have e:S ((d,.v (.bool b))::t) h=S t h:=by unfold S;rw[<- ydm,ykh hb]
 refine yux hc (fun q=>?_) (fun q=>?_)
 .rw [q]at e;rw[<- e];exact k1 q
 rw[q]at e;rw[<- e];exact k2 q
theorem yjm(n lo hi:Int):Con prog 199 [i64 n,i64 lo,i64 hi] (yau (ydt n lo hi)):=by
 refine ze Tryz.func199 ntmps199 Tryz.results199 ?_
 repeat' (first|refine zz ?_|refine zg (fun _=>?_) fun _=>?_|refine zu (fun _=>?_) fun _=>?_|refine zj (fun _=>?_) fun _=>?_|(refine zr ?_;exact yae (by simp_all[ydt] <;> omega))|(exfalso;simp_all;done))
theorem zrf(k:Int):Con prog 167 [i64 k] (yau (zed k)):=by
 refine ze Tryz.func167 ntmps167 Tryz.results167 ?_
 repeat' (first|refine zz ?_|refine zg (fun _=>?_) fun _=>?_|refine zu (fun _=>?_) fun _=>?_|refine zj (fun _=>?_) fun _=>?_|(refine zr ?_;exact yae (by simp_all[zed] <;> rfl))|(exfalso;simp_all;done))
theorem yqq(n lo hi:Int):Con prog 238 [i64 n,i64 lo,i64 hi] (yau (ydt n lo hi)):=by
 refine ze Tryz.func238 ntmps238 Tryz.results238 ?_
 repeat' (first|refine zz ?_|refine zg (fun _=>?_) fun _=>?_|refine zu (fun _=>?_) fun _=>?_|refine zj (fun _=>?_) fun _=>?_|(refine zr ?_;exact yae (by simp_all[ydt] <;> omega))|(exfalso;simp_all;done))
theorem known_con(k:Int):Con prog 266 [i64 k] (yau (zed k)):=by
 refine ze Tryz.func266 ntmps266 Tryz.results266 ?_
 repeat' (first|refine zz ?_|refine zg (fun _=>?_) fun _=>?_|refine zu (fun _=>?_) fun _=>?_|refine zj (fun _=>?_) fun _=>?_|(refine zr ?_;exact yae (by simp_all[zed] <;> rfl))|(exfalso;simp_all;done))
theorem numbers_con(x:VarD):Con prog 141 [.agg (ybl x)] (yau (yxp x)):=by
 have h0:=zrf x.kind;have h1:=yjm x.lo 0 4096;have h2:=yjm x.perNode 0 255;have h3:=yjm x.perID 0 255;have h4:=yjm x.hi 0 4096;have h5:=yjm x.hi (-4096) 4096;refine ze Tryz.func141 ntmps141 Tryz.results141 ?_
 repeat' (first|refine zz ?_|refine zg (fun _=>?_) fun _=>?_|refine zu (fun _=>?_) fun _=>?_|refine zj (fun _=>?_) fun _=>?_|(refine zr ?_;exact yae (by simp_all[yxp]))|(exfalso;simp_all;done))
theorem rnumbers_con(x:VarD):Con prog 240 [.agg (ybl x)] (yau (yxp x)):=by
 have h0:=known_con x.kind;have h1:=yqq x.lo 0 4096;have h2:=yqq x.perNode 0 255;have h3:=yqq x.perID 0 255;have h4:=yqq x.hi 0 4096;have h5:=yqq x.hi (-4096) 4096;have h6:=kind_one x.kind;refine ze Tryz.func240 ntmps240 Tryz.results240 ?_
 repeat' (first|refine zz ?_|refine zg (fun _=>?_) fun _=>?_|refine zu (fun _=>?_) fun _=>?_|refine zj (fun _=>?_) fun _=>?_|(refine zr ?_;exact yae (by simp_all[yxp]))|(exfalso;simp_all;done))
end
section
open Go.RowKit
def u8K(c:UInt8):AV:=.v (.int .u8 (c.toNat:Int))
theorem zxm(c:UInt8):Con prog 185 [u8K c] (yau (ykk c)):=by
 refine ze Tryz.func185 ntmps185 Tryz.results185 ?_
 repeat' (first|refine zz ?_|refine zg (fun _=>?_) fun _=>?_|refine zu (fun _=>?_) fun _=>?_|refine zj (fun _=>?_) fun _=>?_|(refine zr ?_;exact yae (by rw[qbw];simp_all[ykk,qga] <;> omega))|(exfalso;simp_all;done))
theorem digK_con(c:UInt8):Con prog 187 [u8K c] (yau (yzz c)):=by
 refine ze Tryz.func187 ntmps187 Tryz.results187 ?_
 repeat' (first|refine zz ?_|refine zg (fun _=>?_) fun _=>?_|refine zu (fun _=>?_) fun _=>?_|refine zj (fun _=>?_) fun _=>?_|(refine zr ?_;exact yae (by rw[qbw];simp_all[yzz,qga] <;> omega))|(exfalso;simp_all;done))
theorem wordK_con(c:UInt8):Con prog 186 [u8K c] (yau (ypx c)):=by
 have h1:=zxm c;have h2:=digK_con c;refine ze Tryz.func186 ntmps186 Tryz.results186 ?_
 repeat' (first|refine zz ?_|refine zg (fun _=>?_) fun _=>?_|refine zu (fun _=>?_) fun _=>?_|refine zj (fun _=>?_) fun _=>?_|(refine zr ?_;exact yae (by rw[qbw];simp_all[ypx,<- UInt8.toNat_inj] <;> omega))|(exfalso;simp_all;done))
theorem zrp(c:UInt8):Con prog 279 [u8K c] (yau (ykk c)):=by
 refine ze Tryz.func279 ntmps279 Tryz.results279 ?_
 repeat' (first|refine zz ?_|refine zg (fun _=>?_) fun _=>?_|refine zu (fun _=>?_) fun _=>?_|refine zj (fun _=>?_) fun _=>?_|(refine zr ?_;exact yae (by rw[qbw];simp_all[ykk,qga] <;> omega))|(exfalso;simp_all;done))
theorem rdigK_con(c:UInt8):Con prog 293 [u8K c] (yau (yzz c)):=by
 refine ze Tryz.func293 ntmps293 Tryz.results293 ?_
 repeat' (first|refine zz ?_|refine zg (fun _=>?_) fun _=>?_|refine zu (fun _=>?_) fun _=>?_|refine zj (fun _=>?_) fun _=>?_|(refine zr ?_;exact yae (by rw[qbw];simp_all[yzz,qga] <;> omega))|(exfalso;simp_all;done))
theorem rwordK_con(c:UInt8):Con prog 280 [u8K c] (yau (ypx c)):=by
 have h1:=zrp c;have h2:=rdigK_con c;refine ze Tryz.func280 ntmps280 Tryz.results280 ?_
 repeat' (first|refine zz ?_|refine zg (fun _=>?_) fun _=>?_|refine zu (fun _=>?_) fun _=>?_|refine zj (fun _=>?_) fun _=>?_|(refine zr ?_;exact yae (by rw[qbw];simp_all[ypx,<- UInt8.toNat_inj] <;> omega))|(exfalso;simp_all;done))
theorem xns{s:ByteArray}{x:List UInt8}(h:(s.toList == x)=true)(hx:xkx.contains x=true:=by decide +kernel):true=xgc s:=(resB_yes s x hx h).symm
theorem resK_con(s:ByteArray):Con prog 232 [ykp s] (yau (xgc s)):=by
 refine ze Tryz.func232 ntmps232 Tryz.results232 ?_
 repeat' (first|refine zz ?_|refine zu (fun _=>?_) fun _=>?_|(refine zr ?_;first|exact yae (xns (by assumption))|exact yae (by simp_all[xgc,xkx])))
theorem rresK_con(s:ByteArray):Con prog 281 [ykp s] (yau (xgc s)):=by
 refine ze Tryz.func281 ntmps281 Tryz.results281 ?_
 repeat' (first|refine zz ?_|refine zu (fun _=>?_) fun _=>?_|(refine zr ?_;first|exact yae (xns (by assumption))|exact yae (by simp_all[xgc,xkx])))
theorem zet(s:ByteArray):Con prog 193 [ykp s] (yau (yku s)):=by
 have hr:=resK_con s;by_cases h0:s.size < 1
 .have:=zes s om;refine ze Tryz.func193 ntmps193 Tryz.results193 ?_;refine zY ?_;refine yaj 7 rfl (fun _=>?_) (fun q=>by have:=of_decide_eq_false q;omega);refine zk ?_;exact yae this.symm
 by_cases h2:24 < s.size
 .have:=zjf s h2;refine ze Tryz.func193 ntmps193 Tryz.results193 ?_;refine zY ?_;refine yaj 7 rfl (fun q=>by have:=of_decide_eq_true q;omega) (fun _=>?_);refine zY ?_;refine yaj 12 rfl (fun _=>?_) (fun q=>by have:=of_decide_eq_false q;omega);refine zk ?_;exact yae this.symm
 have h1:0 < s.size:=by omega
 have hb:s[(0:Int).toNat]?=some s[0]:=getElem?_pos s 0 h1;have hl:=zxm s[0];refine ze Tryz.func193 ntmps193 Tryz.results193 ?_;refine zY ?_;refine yaj 7 rfl (fun q=>by have:=of_decide_eq_true q;omega) (fun _=>?_);refine zY ?_;refine yaj 12 rfl (fun q=>by have:=of_decide_eq_true q;omega) (fun _=>?_)
 (repeat (first|refine zz ?_|refine yml tok rfl rfl rfl om hb rfl rfl ?_))
 refine zj ?_ ?_ <;> intro h3
 .refine zk ?_;exact yae (zah s h1 (by simpa using h3)).symm
 have h3:ykk s[0]=true:=by simpa using h3
 refine zY ?_;refine ybj (α:=Nat) (fun k=>[(20,i64 k),(19,i64 s.size),(0,ykp s)]) (fun _=>[]) (fun k=>s.size - k) (fun k=>k<=s.size/\((ybf s 0).take k).all ypx=true) 0 ⟨om,rfl⟩ zs yag ?_;rintro k ⟨hk,ha⟩;refine zY ?_;refine zj ?_ ?_ <;> intro q
 .have q:k < s.size:=by have:=of_decide_eq_true q;omega
  have hk2:s[(k:Int).toNat]?=some s[k]:=getElem?_pos s k q;have hw:=wordK_con s[k]
  (repeat (first|refine zz ?_|refine yml tok rfl rfl rfl om hk2 rfl rfl ?_))
  refine zj ?_ ?_ <;> intro h4
  .refine zk ?_;exact yae (zjh s k q (by simpa using h4)).symm
  refine zY ?_;exact rnd (k+1) ⟨om,zvk s k q ha (by simpa using h4)⟩ om zs yag
 have:=zjg s h1 om h3 (by rw[show s.size=k by have:=of_decide_eq_false q;omega];exact ha);refine zZ ?_;refine zr ?_;exact yae this.symm
theorem yzc(s:ByteArray):Con prog 265 [ykp s] (yau (yku s)):=by
 have hr:=rresK_con s;by_cases h0:s.size < 1
 .have:=zes s om;refine ze Tryz.func265 ntmps265 Tryz.results265 ?_;refine zY ?_;refine yaj 7 rfl (fun _=>?_) (fun q=>by have:=of_decide_eq_false q;omega);refine zk ?_;exact yae this.symm
 by_cases h2:24 < s.size
 .have:=zjf s h2;refine ze Tryz.func265 ntmps265 Tryz.results265 ?_;refine zY ?_;refine yaj 7 rfl (fun q=>by have:=of_decide_eq_true q;omega) (fun _=>?_);refine zY ?_;refine yaj 12 rfl (fun _=>?_) (fun q=>by have:=of_decide_eq_false q;omega);refine zk ?_;exact yae this.symm
 have h1:0 < s.size:=by omega
 have hb:s[(0:Int).toNat]?=some s[0]:=getElem?_pos s 0 h1;have hl:=zrp s[0];refine ze Tryz.func265 ntmps265 Tryz.results265 ?_;refine zY ?_;refine yaj 7 rfl (fun q=>by have:=of_decide_eq_true q;omega) (fun _=>?_);refine zY ?_;refine yaj 12 rfl (fun q=>by have:=of_decide_eq_true q;omega) (fun _=>?_)
 (repeat (first|refine zz ?_|refine yml tok rfl rfl rfl om hb rfl rfl ?_))
 refine zj ?_ ?_ <;> intro h3
 .refine zk ?_;exact yae (zah s h1 (by simpa using h3)).symm
 have h3:ykk s[0]=true:=by simpa using h3
 refine zY ?_;refine ybj (α:=Nat) (fun k=>[(3,i64 k),(0,ykp s)]) (fun _=>[]) (fun k=>s.size - k) (fun k=>k<=s.size/\((ybf s 0).take k).all ypx=true) 1 ⟨om,by rw[ymo s 0 h1];show (List.take 1 _).all ypx=true;simp[ypx,h3]⟩ zs yag ?_;rintro k ⟨hk,ha⟩;refine zY ?_;refine zj ?_ ?_ <;> intro q
 .have q:k < s.size:=by have:=of_decide_eq_true q;omega
  have hk2:s[(k:Int).toNat]?=some s[k]:=getElem?_pos s k q;have hw:=rwordK_con s[k]
  (repeat (first|refine zz ?_|refine yml tok rfl rfl rfl om hk2 rfl rfl ?_))
  refine zj ?_ ?_ <;> intro h4
  .refine zk ?_;exact yae (zjh s k q (by simpa using h4)).symm
  refine zY ?_;exact rnd (k+1) ⟨om,zvk s k q ha (by simpa using h4)⟩ om zs yag
 have:=zjg s h1 om h3 (by rw[show s.size=k by have:=of_decide_eq_false q;omega];exact ha);refine zZ ?_;refine zr ?_;exact yae this.symm
end
section
open Go.RowKit
theorem ydq{f:α->AV}:∀ l:List α,(l.map fun x=>[f x]).flatten=l.map f
 | []=>rfl
 | a::l=>by simp[ydq l]
theorem zns{t':List (Nat × AV)}{h0 h':List (Nat × Option LObj)}{f:α->AV}{l:List α}(d:Nat)(hd:yak t d=some (.ls id 1 n))(hn:n=l.length)(ht:yvo id t=some t')(hh:yql id h0=some h')(k:A P N c Q (S ((d,.sl 1 (l.map fun x=>[f x]))::t') ((id,none)::h'))):A P N c Q (S t ((id,some (.vec (l.map f)))::h0)):=by
 subst hn;refine zbg (h':=(id,some (.vec (l.map f)))::h') d (l.map fun x=>[f x]) hd ybb sm (by intro r hr;obtain⟨z,_,rfl⟩:=qag.1 hr;rfl) (ydq l) ht ?_ ?_
 .simp only[yql,hh];rfl
 rw[show S ((d,AV.sl 1 (l.map fun x=>[f x]))::t') ((id,none)::(id,some (LObj.vec (l.map f)))::h')=S ((d,AV.sl 1 (l.map fun x=>[f x]))::t') ((id,none)::h') by unfold S;rw[yhg]];exact k
theorem Frz.aggL{ys:List AV}(hl:xs.length=ys.length)(hc:ys.all yeb=true)(hf:∀ (i:Nat) (x y:AV),xs[i]?=some x->ys[i]?=some y->Frz h x y):Frz h (.agg xs) (.agg ys):=by
 intro B ok0 lv w u hi hr;cases hr with
 | agg vs hvl _ hrr=>
  refine .agg vs (hvl.trans hl) (fun c hcm=>List.all_eq_true.1 hc c hcm) fun i c v hcc hv=>?_;obtain⟨x,hx⟩:∃ x,xs[i]?=some x:=⟨_,qae (by have:=(qaa.1 hcc).1;omega)⟩;exact hf i x c hx hcc B ok0 lv w v hi (hrr i x v hx hv)
end
section
open Go.RowKit
theorem zrh(op:Int):Con prog 225 [i64 op] (yau (yja op)):=by
 refine ze Tryz.func225 ntmps225 Tryz.results225 ?_
 repeat' (first|refine zz ?_|refine zg (fun _=>?_) fun _=>?_|refine zu (fun _=>?_) fun _=>?_|refine zj (fun _=>?_) fun _=>?_|(refine zr ?_;exact yae (by simp_all[yja] <;> omega))|(exfalso;simp_all;done))
theorem yfu(op:Int):Con prog 223 [i64 op] (i64 (ar op)):=by
 refine ze Tryz.func223 ntmps223 Tryz.results223 ?_
 repeat' (first|refine zz ?_|refine zg (fun _=>?_) fun _=>?_|refine zu (fun _=>?_) fun _=>?_|refine zj (fun _=>?_) fun _=>?_|(refine zr ?_;exact yad (by simp_all[ar] <;> omega))|(exfalso;simp_all;done))
theorem getT{l:List α}(h:k < l.length):∃ x,l[k]?=some x:=⟨_,qae h⟩
theorem rendR_con(l:List Tm)(k:Nat)(hl:l.length<=1000):Con prog 257 [ybr l,i64 k] (i64 (ysx 1 k l)):=by
 by_cases h:k < l.length
 .refine ze Tryz.func257 ntmps257 Tryz.results257 ?_;refine zY ?_;refine zj ?_ ?_ <;> intro h1
  .simp at h1;omega
  refine zY ?_;refine ybj (α:=Nat × Nat) (fun a=>[(6,i64 a.1),(5,i64 a.2),(0,ybr l)]) (fun _=>[]) (fun a=>l.length - a.1) (fun a=>a.1<=l.length/\1<=a.2/\a.2<=2 * a.1+1/\ysx 1 k l=ysx a.2 a.1 l) (k,1) ⟨om,om,om,rfl⟩ zs yag ?_;rintro⟨i,m⟩ ⟨hi,hm1,hm2,he⟩;simp only at hi hm1 hm2 he ⊢;refine zY ?_;refine zj ?_ ?_ <;> intro h2
  .have h2:i < l.length:=by simpa using h2
   have hit:=qae h2;have hac:=yfu l[i].1;have hb:=ztd l[i].1;refine zZ ?_;refine zj ?_ ?_ <;> intro h3
   .refine zk ?_;exact yad (by rw[he,zla m i l hm1 h2 (by simpa using h3)])
   have h3:¬ ar l[i].1 < 0:=by simpa using h3
   refine zY ?_;refine zj ?_ ?_ <;> intro h4
   .refine zk ?_;exact yad (by rw[he,zdk m i l hm1 h2 h3 (by simp at h4;omega)])
   simp at h4;refine zY ?_;refine rnd (i+1,m+(ar l[i].1).toNat - 1) ⟨om,om,om,he.trans (yvj m i l hm1 h2 h3)⟩ (by simp only;omega) ?_ yag;refine yan rfl (yan (yes rfl (yka (by simp only;omega))) zs)
  refine zk ?_;exact yad (by rw[he,ynv m i l hm1 (by simp at h2;omega)])
 refine ze Tryz.func257 ntmps257 Tryz.results257 ?_
 repeat' (first|refine zz ?_|refine zg (fun _=>?_) fun _=>?_|refine zu (fun _=>?_) fun _=>?_|refine zj (fun _=>?_) fun _=>?_|(refine zr ?_;exact yad (by rw[ynv 1 k l om om]))|(exfalso;simp_all;done))
end
section
open Go.RowKit
theorem zyl(l:List Tm)(k:Nat)(E:Ex)(r:List Tm)(hl:l.length<=1000)(hk:k<=1000)(hE:l.drop k=E.fl++r)(ho:E.ok):Con prog 257 [ybr l,i64 k] (i64 ((k+E.fl.length:Nat):Int)):=by
 have e:ysx 1 k l=((k+E.fl.length:Nat):Int):=by
  unfold ysx;rw[hE,ztk E ho 0 r,yqj];simp
 rw[<- e];exact rendR_con l k hl
def flX(Xs:List Ex):List Tm:=Xs.flatMap Ex.fl
theorem zws{Xs:List Ex}(h:Xs[i]?=some X):flX (Xs.take (i+1))=flX (Xs.take i)++X.fl:=by
 unfold flX;rw[yhj h];simp
theorem zpj{Xs:List Ex}(h:Xs[i]?=some X):flX Xs=flX (Xs.take i)++(X.fl++flX (Xs.drop (i+1))):=by
 have hi:=(qaa.1 h).1;have e:Xs=Xs.take i++X::Xs.drop (i+1):=by
  rw[<- (qaa.1 h).2,List.getElem_cons_drop,qcd]
 unfold flX
 conv=>lhs;rw[e]
 simp
theorem yif(l:List Tm)(p:Nat)(E:Ex)(Xs:List Ex)(t:Tm)(r r1:List Tm)(hl:l.length<=1000)(hE:l.drop p=E.fl++r)(ho:E.ok)(hA:l.drop p=t::(flX Xs++r1))(hX:∀ X∈Xs,X.ok)(har:Xs.length < ar t.1):Con prog 229 [ybr l,i64 p,i64 (Xs.length:Nat)] (i64 ((p+1+(flX Xs).length:Nat):Int)):=by
 have hlen:=congrArg List.length hA;rw[qdj]at hlen;simp only[qaj,qan]at hlen;have hpt:l[p]?=some t:=by
  have:=congrArg (fun l=>l[0]?) hA;simpa using this
 have hd:l.drop (p+1)=flX Xs++r1:=by rw[<- qhq,hA];rfl
 have h1:=zyl l p E r hl om hE ho;have hxl:Xs.length<=3:=by have:=ztd t.1;omega
 refine ze Tryz.func229 ntmps229 Tryz.results229 ?_;refine zZ ?_;refine yaj 13 rfl (fun h9=>absurd h9 so) (fun _=>?_);refine zY ?_;refine yaj 17 rfl (fun h9=>absurd h9 sm) (fun _=>?_)
 (repeat (first|refine zy ?_|refine yng tok rfl rfl rfl om (xej hpt) rfl rfl ?_|refine zc (yfu t.1) ?_))
 refine yux rfl (fun h9=>absurd h9 so) (fun _=>?_);refine zY ?_;refine ybj (α:=Nat) (fun i=>[(8,i64 i),(7,i64 ((p+1+(flX (Xs.take i)).length:Nat):Int)),(2,i64 (Xs.length:Nat)),(0,ybr l)]) (fun i=>[]) (fun i=>Xs.length - i) (fun i=>i<=Xs.length) 0 om zs yag ?_;intro i hi;refine zY ?_;refine zj ?_ ?_ <;> intro h2
 .have h2:i < Xs.length:=by simpa using h2
  obtain⟨X,hXi⟩:=ybk h2;have hs:=zpj hXi;have hlx:=congrArg List.length hs;simp only[qan]at hlx;have hq:l.drop (p+1+(flX (Xs.take i)).length)=X.fl++(flX (Xs.drop (i+1))++r1):=by
   rw[<- qgq,hd,hs];simp
  have h3:=zyl l _ X _ hl om hq (hX X (qab hXi));refine zZ ?_;refine rnd (i+1) om om ?_ yag;refine yan rfl (yan (yes rfl (yka ?_)) zs);rw[zws hXi,qan];omega
 have h2:Xs.length<=i:=by simpa using h2
 refine zk ?_;exact yad (by rw[qal h2])
end
section
open Go.RowKit
theorem rsingleK_con(op a:Int)(h1:18<=op)(h2:op<=29):Con prog 287 [i64 op,i64 a] (i64 (ty1 op a)):=by
 refine ze Tryz.func287 ntmps287 Tryz.results287 ?_
 repeat' (first|refine zz ?_|refine zg (fun _=>?_) fun _=>?_|refine zu (fun _=>?_) fun _=>?_|refine zj (fun _=>?_) fun _=>?_|(refine zr ?_;exact yad (by simp_all[ty1]))|(exfalso;simp_all;done))
theorem rdoubleK_con(op a b:Int)(h1:30<=op)(h2:op<=42):Con prog 288 [i64 op,i64 a,i64 b] (i64 (ty2 op a b)):=by
 refine ze Tryz.func288 ntmps288 Tryz.results288 ?_
 repeat' (first|refine zz ?_|refine zg (fun _=>?_) fun _=>?_|refine zu (fun _=>?_) fun _=>?_|refine zj (fun _=>?_) fun _=>?_|(refine zr ?_;exact yad (by simp_all[ty2] <;> omega))|(exfalso;simp_all;done))
theorem xcq{kd:Int}(h:kinds[i]?=some kd):kinds.getD i 0=kd:=by rw[qac,h];rfl
theorem rleafK_con(kinds:List Int)(t:Tm)(bound:Bool)(h1:ar t.1=0)(hx:yvb kinds.length t=true):Con prog 286 [.agg (yii t),yai kinds,yau bound] (i64 (if zqs t.1 && !bound then 0 else ytl kinds t)):=by
 obtain⟨h1,h2⟩:=xbr h1;have hl:=zvt hx;by_cases hop:t.1=5\/t.1=12
 .obtain ⟨g1,g2⟩:=hl hop;obtain⟨kd,hkd⟩:=ybk (show t.2.toNat < kinds.length by omega);have hgd:=xcq hkd;refine ze Tryz.func286 ntmps286 Tryz.results286 ?_
  repeat' (first|refine zz ?_|refine zg (fun _=>?_) fun _=>?_|refine zu (fun _=>?_) fun _=>?_|refine zj (fun _=>?_) fun _=>?_|(refine zr ?_;exact yad (by simp_all[zqs,ytl] <;> omega))|(exfalso;simp_all;done))
 refine ze Tryz.func286 ntmps286 Tryz.results286 ?_
 repeat' (first|refine zz ?_|refine zg (fun _=>?_) fun _=>?_|refine zu (fun _=>?_) fun _=>?_|refine zj (fun _=>?_) fun _=>?_|(refine zr ?_;exact yad (by simp_all[zqs,ytl] <;> omega))|(exfalso;simp_all;done))
theorem rkindC_con(l:List Tm)(kinds:List Int)(hl:l.length<=1000)(E:Ex):E.ok->(∀ t∈E.fl,yvb kinds.length t=true)->∀ (p:Nat) (r:List Tm) (bound:Bool),l.drop p=E.fl++r->Con prog 268 [ybr l,i64 p,yai kinds,yau bound] (i64 (ty kinds bound E)):=by
 induction E with
 | lf t=>
  intro h ha p r bound hd;obtain⟨hp,hpt,_⟩:=yrx hd;have har:=yfu t.1;rw[show ar t.1=0 from h]at har;have hlf:=rleafK_con kinds t bound h (ha t (by simp[Ex.fl]));refine ze Tryz.func268 ntmps268 Tryz.results268 ?_
  repeat' (first|refine zz ?_|refine zg (fun _=>?_) fun _=>?_|refine zu (fun _=>?_) fun _=>?_|refine zj (fun _=>?_) fun _=>?_|(refine zr ?_;exact yad rfl)|(exfalso;simp_all;done))
 | un t a iha=>
  intro h ha p r bound hd;obtain⟨hp,hpt,hd1⟩:=yrx hd;have har:=yfu t.1;rw[h.1]at har;have hag:=zrh t.1;have ih:=iha h.2 (fun t ht=>ha t (by simp[Ex.fl,ht])) (p+1) r (bound || yja t.1) hd1;have hs:=rsingleK_con t.1 (ty kinds (bound || yja t.1) a) (zvq h.1).1 (zvq h.1).2;cases bound
  all_goals
   refine ze Tryz.func268 ntmps268 Tryz.results268 ?_
   repeat' (first|refine zz ?_|refine zg (fun _=>?_) fun _=>?_|refine zu (fun _=>?_) fun _=>?_|refine zj (fun _=>?_) fun _=>?_|(refine zr ?_;exact yad rfl)|(exfalso;simp_all;done))
 | bi t a b iha ihb=>
  intro h ha p r bound hd;have hE:=hd;obtain⟨hp,hpt,hd1⟩:=yrx hd;have hd1:l.drop (p+1)=a.fl++(b.fl++r):=by rw[<- qbd];exact hd1
  have har:=yfu t.1;rw[h.1]at har;have ih1:=iha h.2.1 (fun t ht=>ha t (by simp[Ex.fl,ht])) (p+1) _ bound hd1;have ho:=yif l p (.bi t a b) [a] t r (b.fl++r) hl hE h (by rw[hE];simp[Ex.fl,flX]) (by simp[h.2.1]) (by rw[h.1];simp);have ih2:=ihb h.2.2 (fun t ht=>ha t (by simp[Ex.fl,ht])) (p+1+(flX [a]).length) r bound (by simp only[flX,qdh,qgz,qba];exact zdj hd1);have hs:=rdoubleK_con t.1 (ty kinds bound a) (ty kinds bound b) (zvs h.1).1 (zvs h.1).2;refine ze Tryz.func268 ntmps268 Tryz.results268 ?_
  repeat' (first|refine zz ?_|refine zg (fun _=>?_) fun _=>?_|refine zu (fun _=>?_) fun _=>?_|refine zj (fun _=>?_) fun _=>?_|(refine zr ?_;exact yad rfl)|(exfalso;simp_all;done))
 | tr t a b c iha ihb ihc=>
  intro h ha p r bound hd;have hE:=hd;obtain⟨hp,hpt,hd1⟩:=yrx hd;have hd1:l.drop (p+1)=a.fl++(b.fl++(c.fl++r)):=by rw[show a.fl++(b.fl++(c.fl++r))=(a.fl++(b.fl++c.fl))++r by simp];exact hd1
  have har:=yfu t.1;rw[h.1]at har;have hd2:=zdj hd1;have ih1:=iha h.2.1 (fun t ht=>ha t (by simp[Ex.fl,ht])) (p+1) _ bound hd1;have ho1:=yif l p (.tr t a b c) [a] t r (b.fl++(c.fl++r)) hl hE h (by rw[hE];simp[Ex.fl,flX]) (by simp[h.2.1]) (by rw[h.1];simp);have ih2:=ihb h.2.2.1 (fun t ht=>ha t (by simp[Ex.fl,ht])) (p+1+(flX [a]).length) _ bound (by simp only[flX,qdh,qgz,qba];exact hd2);have ho2:=yif l p (.tr t a b c) [a,b] t r (c.fl++r) hl hE h (by rw[hE];simp[Ex.fl,flX]) (by simp[h.2.1,h.2.2.1]) (by rw[h.1];simp);have ih3:=ihc h.2.2.2 (fun t ht=>ha t (by simp[Ex.fl,ht])) (p+1+(flX [a,b]).length) r bound (by simp only[flX,qdh,qgz,qba,qan,<- qdf];exact zdj hd2);refine ze Tryz.func268 ntmps268 Tryz.results268 ?_
  repeat' (first|refine zz ?_|refine zg (fun _=>?_) fun _=>?_|refine zu (fun _=>?_) fun _=>?_|refine zj (fun _=>?_) fun _=>?_|(refine zr ?_;exact yad (by simp_all[ty,ty3]))|(exfalso;simp_all;done))
end
section
open Go.RowKit
theorem zea(c:Bool)(k:Int):Con prog 244 [yau c,i64 k] (i64 (if c=true then k else 0)):=by
 refine ze Tryz.func244 ntmps244 Tryz.results244 ?_
 repeat' (first|refine zz ?_|refine zg (fun _=>?_) fun _=>?_|refine zu (fun _=>?_) fun _=>?_|refine zj (fun _=>?_) fun _=>?_|(refine zr ?_;exact yad (by simp_all))|(exfalso;simp_all;done))
theorem nearK_con(op:Int):Con prog 216 [i64 op] (yau (zqs op)):=by
 refine ze Tryz.func216 ntmps216 Tryz.results216 ?_
 repeat' (first|refine zz ?_|refine zg (fun _=>?_) fun _=>?_|refine zu (fun _=>?_) fun _=>?_|refine zj (fun _=>?_) fun _=>?_|(refine zr ?_;exact yae (by simp_all[zqs] <;> omega))|(exfalso;simp_all;done))
theorem aggK_con(op:Int):Con prog 215 [i64 op] (yau (yja op)):=by
 refine ze Tryz.func215 ntmps215 Tryz.results215 ?_
 repeat' (first|refine zz ?_|refine zg (fun _=>?_) fun _=>?_|refine zu (fun _=>?_) fun _=>?_|refine zj (fun _=>?_) fun _=>?_|(refine zr ?_;exact yae (by simp_all[yja] <;> omega))|(exfalso;simp_all;done))
theorem xbq(op:Int):Con prog 211 [i64 op] (i64 (ar op)):=by
 refine ze Tryz.func211 ntmps211 Tryz.results211 ?_
 repeat' (first|refine zz ?_|refine zg (fun _=>?_) fun _=>?_|refine zu (fun _=>?_) fun _=>?_|refine zj (fun _=>?_) fun _=>?_|(refine zr ?_;exact yad (by simp_all[ar] <;> omega))|(exfalso;simp_all;done))
theorem resultK_con(op a b c:Int)(h1:18<=op)(h2:op<=43):Con prog 218 [i64 op,.agg [i64 a,i64 b,i64 c]] (i64 (xan op a b c)):=by
 have hi:=zea;have hop:op=18\/op=19\/op=20\/op=21\/op=22\/op=23\/op=24\/op=25\/op=26\/op=27\/op=28\/op=29\/op=30\/op=31\/op=32\/op=33\/op=34\/op=35\/op=36\/op=37\/op=38\/op=39\/op=40\/op=41\/op=42\/op=43:=by omega
 rcases hop with rfl|rfl|rfl|rfl|rfl|rfl|rfl|rfl|rfl|rfl|rfl|rfl|rfl|rfl|rfl|rfl|rfl|rfl|rfl|rfl|rfl|rfl|rfl|rfl|rfl|rfl
 all_goals
  clear h1 h2;refine ze Tryz.func218 ntmps218 Tryz.results218 ?_
  repeat' (first|refine zy ?_|refine zc (zea _ _) ?_|refine zg (fun _=>?_) fun _=>?_|(refine zr ?_;exact yad (by simp_all[xan,ar,ty1,ty2,ty3])))
theorem leafK_con(l:List Tm)(kinds:List Int)(t:Tm)(h1:ar t.1=0)(hx:yvb kinds.length t=true):Con prog 217 [.agg [ybr l,yai kinds],.agg (yii t)] (i64 (ytl kinds t)):=by
 obtain⟨h1,h2⟩:=xbr h1;have hl:=zvt hx;by_cases hop:t.1=5\/t.1=12
 .obtain ⟨g1,g2⟩:=hl hop;obtain⟨kd,hkd⟩:=ybk (show t.2.toNat < kinds.length by omega);have hgd:=xcq hkd;refine ze Tryz.func217 ntmps217 Tryz.results217 ?_
  repeat' (first|refine zz ?_|refine zg (fun _=>?_) fun _=>?_|refine zu (fun _=>?_) fun _=>?_|refine zj (fun _=>?_) fun _=>?_|(refine zr ?_;exact yad (by simp_all[ytl] <;> omega))|(exfalso;simp_all;done))
 refine ze Tryz.func217 ntmps217 Tryz.results217 ?_
 repeat' (first|refine zz ?_|refine zg (fun _=>?_) fun _=>?_|refine zu (fun _=>?_) fun _=>?_|refine zj (fun _=>?_) fun _=>?_|(refine zr ?_;exact yad (by simp_all[ytl] <;> omega))|(exfalso;simp_all;done))
end
set_option maxHeartbeats 4000000
section
open Go.RowKit
theorem zoq{B:Bse}{ok0:Nat->Prop}{u:Value}(hi:Inv B ok0 h lv w)(hx:h id=some (.cells xs))(hr:Rel (yba B ok0 lv w) w lv (.lp id off) u)(hp:yas.pureL xs=true)(ok':Nat->Prop)(hk1:∀ g,yba B ok0 lv w g->ok' g)(hk2:∀ b n,lv id=some (some b,n)->ok' b):Rel ok' w (fun _=>none) (.dp xs off) u:=by
 obtain⟨b,n,h1,rfl,h2⟩:=yhr hi (by rw[hx];rfl) (.inr hx) hr;have:=Rel.dp (ok:=ok') (w:=w) (lv:=fun _=>none) (row:=xs) (off:=off) b 0 (fun j=>(w.cell? ⟨b,0+j,none⟩).getD undef) (hk2 b n h1) (fun j c hc=>?_) (fun j c hc=>?_)
 .rwa [qay]at this
 .obtain ⟨q1,v,q2,_⟩:=h2 j c hc;exact⟨by rw[q2];rfl,q1⟩
 obtain⟨_,v,q2,q3⟩:=h2 j c hc;rw[q2];exact(q3.relive fun id b n hb _=>by cases hb).keep fun g hg=>⟨hk1 g hg,rfl⟩
theorem Frz.box(hx:h id=some (.cells xs))(hp:yas.pureL xs=true):Frz h (.lp id off) (.dp xs off):=
 fun B ok0 lv w u hi hr=>zoq hi hx hr hp _ (fun g hg=>⟨hg.1,hg.2.1⟩) fun b n hb=>by obtain⟨_,_,h1,h2,_⟩:=hi.lvat hb;exact⟨.inr h1,h2⟩
theorem Frz.fn{h:Nat->Option LObj}{f:Nat}{xs ys:List AV}(hl:xs.length=ys.length)(hf:∀ (i:Nat) (x y:AV),xs[i]?=some x->ys[i]?=some y->Frz h x y):Frz h (.fn f xs) (.fn f ys):=by
 intro B ok0 lv w u hi hr;cases hr with
 | fn vs hvl hrr=>
  refine .fn vs (hvl.trans hl) fun i c v hc hv=>?_;obtain⟨x,hx⟩:∃ x,xs[i]?=some x:=⟨_,qae (by have:=(qaa.1 hc).1;omega)⟩;exact hf i x c hx hc B ok0 lv w v hi (hrr i x v hx hv)
theorem Frz.fn1{f:Nat}{x y:AV}(hf:Frz h x y):Frz h (.fn f [x]) (.fn f [y]):=
 Frz.fn rfl fun i a b ha hb=>by
  match i with
  | 0=>simp only[qas,Option.some.injEq]at ha hb;subst ha hb;exact hf
  | i+1=>simp at ha
variable{P:Program}{N:Nat}{t:List (Nat × AV)}{h:List (Nat × Option LObj)}
theorem Sim.freezeBox{B:Bse}{ok0:Nat->Prop}{s:SS}{a:Act}(hs:Sim B ok0 N s lv a w){d id off:Nat}{xs:List AV}(hd:s.t d=some (.lp id off))(hx:s.h id=some (.cells xs))(hp:yas.pureL xs=true){s':SS}(ht:∀ x y,s'.t x=some y->y=.any\/s.t x=some y)(hlt:∀ x y,s'.t x=some y->∃ z,s.t x=some z)(hid:s'.h id=none)(hh:∀ j ob',s'.h j=some ob'->∃ ob,s.h j=some ob/\ymh ob ob'):∃ lv',Sim B ok0 N ⟨yee s'.t (some d) (.dp xs off),s'.h⟩ lv' a w:=by
 obtain⟨lv',h1,h2,h3,h4⟩:=hs.forg ht hlt hh;refine⟨lv',?_⟩;have hdN:=(hs.frame d _ hd).1;have hr:=zoq hs.inv hx (hs.frame d _ hd).2 hp (yba B ok0 lv' w) h4 (fun b n hb=>?_)
 .have hrl:Rel (yba B ok0 lv' w) w lv' (.dp xs off) (ydx B a d):=hr.relive fun i b n _ hm=>by simp[ment]at hm
  refine⟨h1.inv,h1.size,fun x y hy=>?_,h1.defers,h1.big,h1.pin⟩;simp only[yee]at hy;split at hy
  .rename_i e;subst e;simp only[Option.some.injEq]at hy;subst hy;exact⟨hdN,hrl⟩
  exact h1.frame x y hy
 obtain⟨_,_,g1,g2,_⟩:=hs.inv.lvat hb;refine⟨.inr g1,g2,fun j b' m hj he=>?_⟩;subst he;have:=hs.inv.inj j id b' m n (h2 j _ m hj) hb;subst this;rw[h1.inv.dom j hid]at hj;cases hj
theorem yhn{t':List (Nat × AV)}{h':List (Nat × Option LObj)}(d:Nat){id off:Nat}{xs:List AV}(hd:yak t d=some (.lp id off))(hx:yac h id=some (.cells xs))(hp:yas.pureL xs=true)(ht:yvo id t=some t')(hh:yql id h=some h')(k:A P N c Q (S ((d,.dp xs off)::t') ((id,none)::h'))):A P N c Q (S t h):=by
 intro B ok0 lv a w hs;obtain⟨g1,g2⟩:=yib ht;obtain⟨lv',hs'⟩:=hs.freezeBox (s':=S t' ((id,none)::h')) hd hx hp (fun x y hy=>(g1 x y hy).imp (fun h=>h) And.left) g2 (by simp[S,yac]) (fun j ob' hj=>by
  simp only[S,yac]at hj
  split at hj
  .cases hj
  exact(yfs hh j ob' hj).2)
 rw[show (⟨yee (S t' ((id,none)::h')).t (some d) (.dp xs off),(S t' ((id,none)::h')).h⟩:SS)=S ((d,.dp xs off)::t') ((id,none)::h') by unfold S;rw[ydm]]at hs';exact k B ok0 lv' a w hs'
end
section
open Go.RowKit
section
variable{P:Program}{T:Nat->Option Ty}{N:Nat}{ops:Array Oper}{lf:Oper->Bool}{Q:SS->Prop}{t:List (Nat × AV)}{h:List (Nat × Option LObj)}{rest:List Oper}{d:Nat}{op:Op}{ty:TypeId}{pos:String}{af:Array Edge}{gd:Option (Nat × Bool)}{r:AV}
theorem yield_arrslice{ρ:Operand->Option AV}{hp:Nat->Option LObj}{ti n:Nat}{ea:Bool}{x y:Operand}{k:IntKind}{i:Int}{row:List AV}(hk:ygb P ti (.arr n 1 ea))(hx:ρ x=some (.dp row 0))(hy:ρ y=some (.v (.int k i)))(hn:row.length=n)(hm:n<=maxLen)(h0:0<=i)(h1:i<=n):ybu P hp ρ (.slice ti x none (some y) none) ty (.sl 1 ((row.take i.toNat).map fun c=>[c])):=
 yay fun B ok0 lv w a o ho hty hi' hops=>by
  have hr:=hops x _ (by simp[Op.operands]) hx;have hiv:=ykw (hops y _ (by simp[Op.operands]) hy);generalize hv:a.eval x=v at hr;cases hr with
  | dp g q u hg hc hr=>
   obtain⟨e,he,hs⟩:=hk;have hrun:(Instr.sliceAt ti (.pointer (some ⟨g,q,none⟩)) none (some (a.eval y)) none).run P w=.ok (.slice (some ⟨g,q,none⟩) i.toNat n) w:=by
    rw[hiv];have h7:=(hs.run (w:=w)).1;by_cases hz:n=0
    .subst hz;have:i=0:=by omega
     subst this;simp[Instr.sliceAt,run_underlying he,Instr.sureAddr,Instr.sliceBounds,Instr.sliceBound,asIntOf,h7]
    simp[Instr.sliceAt,run_underlying he,Instr.sureAddr,Instr.sliceBounds,Instr.sliceBound,asIntOf,h7,h0,h1,Addr.add]
   refine⟨.slice (some ⟨g,q,none⟩) i.toNat n,by have hv':a.eval x=.pointer (some ⟨g,q,none⟩):=hv;simp[execOp,ho,hv',hrun],?_⟩;have hlen:((row.take i.toNat).map fun c=>[c]).length=i.toNat:=by simp;omega
   have hget:∀ (k j:Nat) (r:List AV) (c:AV),((row.take i.toNat).map fun c=>[c])[k]?=some r->r[j]?=some c->j=0/\row[k]?=some c:=by
    intro k j r c h2 h3;rw[qak,qbc]at h2;split at h2
    .cases hk:row[k]? with
     | none=>rw[hk]at h2;cases h2
     | some z=>
      rw[hk]at h2;cases h2;cases j with
      | zero=>cases h3;exact⟨rfl,rfl⟩
      | succ j=>cases h3
    cases h2
   have:=Rel.sl (ok:=yba B ok0 lv w) (w:=w) (lv:=lv) (size:=1) (rows:=(row.take i.toNat).map fun c=>[c]) (some ⟨g,q,none⟩) n (fun k j=>u k) g q (by rw[hlen];omega) hm (fun h=>by cases h) (fun r hr=>by obtain⟨c,_,rfl⟩:=qag.1 hr;rfl) (fun _=>⟨rfl,hg⟩) (fun k j r c h2 h3=>by
    obtain⟨rfl,h4⟩:=hget k j r c h2 h3
    have:=hc k c h4
    rwa [show q+k * 1+0=q+k by omega]) (fun k j r c h2 h3=>by
    obtain⟨rfl,h4⟩:=hget k j r c h2 h3
    exact hr k c h4)
   rwa [hlen]at this
theorem L_arrslice(hT:TOK P T){ti n z:Nat}{ag ea:Bool}{zs:List Value}{x y:Operand}{k:IntKind}{i:Int}{row:List AV}(ht:T ti=some ⟨.arr n 1 ea,z,ag,zs⟩)(hx:evF (yak t) x=some (.dp row 0))(hy:evF (yak t) y=some (.v (.int k i)))(hn:row.length=n)(hm:n<=maxLen)(h0:0<=i)(h1:i<=n)
  (hw:yam ops (yak t) ⟨some d,.slice ti x none (some y) none,ty,pos,af,gd⟩=some true) (hd:Nat.blt d N=true) (k:Lex P N ops lf Q rest (S ((d,.sl 1 ((row.take i.toNat).map fun c=>[c]))::t) h)):Lex P N ops lf Q (⟨some d,.slice ti x none (some y) none,ty,pos,af,gd⟩::rest) (S t h):=
 ycm (yield_arrslice (hT _ _ ht).2.2 hx hy hn hm h0 h1) hw hd k
theorem zkq(hT:TOK P T){ti:Nat}{y:Ty}{x v:Operand}{id off:Nat}{xs:List AV}{u:AV}(hy:T ti=some y)(hx:evF (yak t) x=some (.lp id off))(hv:evF (yak t) v=some u)(hcs:yec u=some [u])(hcl:Nat.beq 1 y.size=true)(hh:yac h id=some (.cells xs))(hlt:off < xs.length)
  (hl:lf ⟨none,.store ti x v,ty,pos,af,gd⟩=true) (hw:yam ops (yak t) ⟨none,.store ti x v,ty,pos,af,gd⟩=some true) (k:Lex P N ops lf Q rest (S t ((id,some (.cells (xs.set off u)))::h))):Lex P N ops lf Q (⟨none,.store ti x v,ty,pos,af,gd⟩::rest) (S t h):=by
 have he:xs.set off u=xs.take off++[u]++xs.drop (off+[u].length):=by
  rw[qem,if_pos hlt];simp
 refine yef hl hw (by rw[<- S_h,he];exact yig rfl rfl (hT _ _ hy).1 hx hv hcs (by simpa using hcl) hh (.cells so)) k
end
theorem A_freezeBoxS{t':List (Nat × AV)}{h0 h':List (Nat × Option LObj)}(d:Nat)(hd:yak t d=some (.lp id off))(hp:yas.pureL xs=true)(ht:yvo id t=some t')(hh:yql id h0=some h')(k:A P N c Q (S ((d,.dp xs off)::t') ((id,none)::h'))):A P N c Q (S t ((id,some (.cells xs))::h0)):=by
 intro B ok0 lv a w hs;obtain⟨g1,g2⟩:=yib ht;obtain⟨lv',hs'⟩:=hs.freezeBox (s':=S t' ((id,none)::h')) hd ybb hp (fun x y hy=>(g1 x y hy).imp (fun h=>h) And.left) g2 (by simp[S,yac]) (fun j ob' hj=>by
  by_cases e:j=id
  .subst e;simp[S,yac]at hj
  have hj:yac ((id,none)::h') j=some ob':=hj
  rw[yap e]at hj
  obtain⟨_,ob,q1,q2⟩:=yfs hh j ob' hj
  exact⟨ob,by show yac _ _=_;rw[yap e];exact q1,q2⟩)
 rw[show (⟨yee (S t' ((id,none)::h')).t (some d) (.dp xs off),(S t' ((id,none)::h')).h⟩:SS)=S ((d,.dp xs off)::t') ((id,none)::h') by unfold S;rw[ydm]]at hs';exact k B ok0 lv' a w hs'
theorem yzn{x y:Code}{s:SS}(t0:List (Nat × AV))(h0:List (Nat × Option LObj))(k1:A P N x (Mid t0 h0) s)(k2:A P N y Q (S t0 h0)):A P N x (xme P N y Q) s:=
 k1.mono fun e s' he=>by obtain⟨rfl,hs⟩:=he;exact ypf k2 hs
theorem zjm:∀ l:List Int,yas.pureL (l.map i64)=true
 | []=>rfl
 | a::l=>by simp[yas.pureL,yas,i64,zjm l]
def yvd(f:Nat->Int)(n k:Nat):List Int:=(List.range k).map f++List.replicate (n - k) 0
theorem yya(h:k<=n):(yvd f n k).length=n:=by simp[yvd];omega
theorem xbs(h:k < n):((yvd f n k).map i64).set k (i64 (f k))=(yvd f n (k+1)).map i64:=by
 rw[show i64 (f k)=i64 (f k) from rfl,<- qdx];congr 1;unfold yvd;rw[qbo _ _ sm,qdd];obtain⟨m,hm⟩:∃ m,n - k=m+1:=⟨n - k - 1,om⟩;rw[show n - (k+1)=m by omega,hm];simp[qbq]
theorem arr_take:(((yvd f n k).map i64).take k).map (fun c=>[c])=((List.range k).map f).map fun x=>[i64 x]:=by
 unfold yvd;rw[qbz,qei sm,qal sm];simp
end
set_option maxHeartbeats 8000000
section
open Go.RowKit
theorem xmt{a b a' b':Int}(e1:a=a')(e2:b=b'):Frz h (.tup [.v (.int .i64 a),.v (.int .i64 b)]) (.tup [i64 a',i64 b']):=by subst e1 e2;exact Frz.pure
def xjz(l:List Tm)(kinds:List Int)(X:Ex):Prop:=∀ (q:Nat) (s:List Tm) (b:Bool),l.drop q=X.fl++s->Con prog 168 [.agg [ybr l,yai kinds],i64 q,yau b] (.tup [i64 (ty kinds b X),i64 ((q+X.fl.length:Nat):Int)])
theorem set_fill3{xs:List Int}(v:Int)(hk:k < 3)(hx:xs.length=k):((xs++List.replicate (3 - k) 0).map i64).set (0+(k:Int).toNat * 1) (i64 v)=((xs++[v])++List.replicate (3 - (k+1)) 0).map i64:=by
 have e:List.replicate (3 - k) (0:Int)=0::List.replicate (3 - (k+1)) 0:=by rw[<- qbq];congr 1;omega
 rw[e];simp[<- hx]
theorem takeT{l:List α}{x:α}(h:l[i]?=some x):l.take (i+1)=l.take i++[x]:=by
 rw[qfn,h];rfl
theorem fill3{vs:List Int}(h1:1<=vs.length)(h3:vs.length<=3):(vs++List.replicate (3 - vs.length) 0).map i64=[i64 (vs.getD 0 0),i64 (vs.getD 1 0),i64 (vs.getD 2 0)]:=by
 match vs,h1,h3 with
 | [a],_,_=>rfl
 | [a,b],_,_=>rfl
 | [a,b,c],_,_=>rfl
theorem zfm(l:List Tm)(kinds:List Int)(t:Tm)(Xs:List Ex)(p:Nat)(r:List Tm)(bound:Bool)(hl:l.length<=1000)(hd:l.drop p=t::(flX Xs++r))(har:ar t.1=Xs.length)(h1:1<=Xs.length)(h3:Xs.length<=3)(ho1:18<=t.1)(ho2:t.1<=43)(ih:∀ X∈Xs,xjz l kinds X) :
  Con prog 168 [.agg [ybr l,yai kinds],i64 p,yau bound] (.tup [i64 (xan t.1 ((Xs.map (ty kinds (bound || yja t.1))).getD 0 0) ((Xs.map (ty kinds (bound || yja t.1))).getD 1 0) ((Xs.map (ty kinds (bound || yja t.1))).getD 2 0)),i64 ((p+1+(flX Xs).length:Nat):Int)]):=by
 obtain⟨hp,hpt,hd1⟩:=yrx hd;have hlen:=congrArg List.length hd1;rw[qdj,qan]at hlen;have hac:=xbq t.1;rw[har]at hac;have hag:=aggK_con t.1;have hag2:Con prog 215 [i64 t.1] (yau (false || yja t.1)):=hag;generalize hb:(bound || yja t.1)=b';have hvl:(Xs.map (ty kinds b')).length=Xs.length:=qai _;have hre:=resultK_con t.1 ((Xs.map (ty kinds b')).getD 0 0) ((Xs.map (ty kinds b')).getD 1 0) ((Xs.map (ty kinds b')).getD 2 0) ho1 ho2;have hb2:bound=false->yja t.1=b':=fun h=>by rw[<- hb,h];rfl
 have hb1:bound=true->true=b':=fun h=>by rw[<- hb,h];rfl
 clear hb;refine ze Tryz.func168 ntmps168 Tryz.results168 ?_;refine zZ ?_;refine zj ?_ ?_ <;> intro q0
 .simp only[beq_iff_eq]at q0;omega
 refine zY ?_;refine zg (fun q=>?_) (fun q=>?_)
 all_goals
  refine zZ ?_;refine ybj (α:=Nat) (fun k=>[(44,i64 k),(43,i64 Xs.length),(10,.lp 10 0),(9,yau b'),(8,.lp 8 0),(7,i64 ((p+1+(flX (Xs.take k)).length:Nat):Int)),(3,.lp 3 0)]) (fun k=>[(10,some (.cells (((Xs.map (ty kinds b')).take k++List.replicate (3 - k) 0).map i64))),(8,some (.cells (yii t))),(3,some (.cells [ybr l,yai kinds]))]) (fun k=>Xs.length - k) (fun k=>k<=Xs.length) 0 om (yan rfl (yan rfl (yan rfl (yan (yes rfl (congrArg yau (by first|exact hb1 q|exact hb2 q))) (yan rfl (yan (yes rfl (yka (by simp[flX]))) zs)))))) zh ?_;intro k hk;refine zY ?_;refine zj ?_ ?_ <;> intro h2
  .have h2:k < Xs.length:=by simpa using h2
   obtain⟨X,hX⟩:=getT h2;have hsp:=zpj hX;have hih:=ih X (qab hX) (p+1+(flX (Xs.take k)).length) (flX (Xs.drop (k+1))++r) b' (by rw[<- qgq,hd1,hsp];simp);have hlx:=congrArg List.length hsp;simp only[qan]at hlx
   (repeat (first|refine zz ?_|refine yiz tok rfl rfl rfl so rfl om om rfl rfl ?_|refine zkq tok rfl rfl rfl rfl rfl rfl so rfl rfl ?_))
   refine rnd (k+1) om om (yan rfl (yan rfl (yan rfl (yan rfl (yan rfl (yan (yes rfl (yka (by rw[zws hX,qan];omega))) zs)))))) (yab ?_ zh);rw[takeT (l:=Xs.map (ty kinds b')) (by rw[qak,hX];rfl)];exact congrArg (fun x=>some (LObj.cells x)) (set_fill3 _ om so)
  have e:k=Xs.length:=by simp at h2;omega
  have hfl:(((Xs.map (ty kinds b')).take k++List.replicate (3 - k) 0).map i64)=[i64 ((Xs.map (ty kinds b')).getD 0 0),i64 ((Xs.map (ty kinds b')).getD 1 0),i64 ((Xs.map (ty kinds b')).getD 2 0)]:=by
   rw[e,qal sm,<- hvl];exact fill3 om om
  rw[hfl];refine zZ ?_;refine zr ?_;exact xmt rfl (by rw[e,qaw])
theorem read_con(l:List Tm)(kinds:List Int)(hl:l.length<=1000)(E:Ex):E.ok->(∀ t∈E.fl,yvb kinds.length t=true)->xjz l kinds E:=by
 induction E with
 | lf t=>
  intro h ha q s b hd;obtain⟨hp,hpt,_⟩:=yrx hd;have har:=xbq t.1;rw[show ar t.1=0 from h]at har;have hnr:=nearK_con t.1;have hlf:=leafK_con l kinds t h (ha t (by simp[Ex.fl]));refine ze Tryz.func168 ntmps168 Tryz.results168 ?_
  repeat' (first|refine zz ?_|refine zg (fun _=>?_) fun _=>?_|refine zu (fun _=>?_) fun _=>?_|refine zj (fun _=>?_) fun _=>?_|(refine zr ?_;exact xmt (by simp_all[ty]) (by simp[Ex.fl]))|(exfalso;simp_all;done))
 | un t a iha=>
  intro h ha q s b hd;have:=zfm l kinds t [a] q s b hl (by rw[hd];simp[Ex.fl,flX]) h.1 sm sm (zvq h.1).1 (by have:=(zvq h.1).2;omega) (by simpa using iha h.2 fun t ht=>ha t (by simp[Ex.fl,ht]));rw[xan,if_pos h.1]at this;rw[ty,show q+(Ex.un t a).fl.length=q+1+(flX [a]).length by simp[Ex.fl,flX];omega];exact this
 | bi t a b iha ihb=>
  intro h ha q s bd hd;have:=zfm l kinds t [a,b] q s bd hl (by rw[hd];simp[Ex.fl,flX]) h.1 sm sm (by have:=(zvs h.1).1;omega) (by have:=(zvs h.1).2;omega) (by
   intro X hX;simp at hX
   rcases hX with rfl|rfl
   .exact iha h.2.1 fun t ht=>ha t (by simp[Ex.fl,ht])
   exact ihb h.2.2 fun t ht=>ha t (by simp[Ex.fl,ht]))
  rw[xan,if_neg (by rw[h.1];decide),if_pos h.1,ytg (by rw[h.1];decide),qdm]at this;rw[ty,show q+(Ex.bi t a b).fl.length=q+1+(flX [a,b]).length by simp[Ex.fl,flX];omega];exact this
 | tr t a b c iha ihb ihc=>
  intro h ha q s bd hd;have:=zfm l kinds t [a,b,c] q s bd hl (by rw[hd];simp[Ex.fl,flX]) h.1 sm sm (by have:=zvr h.1;omega) (by have:=zvr h.1;omega) (by
   intro X hX;simp at hX
   rcases hX with rfl|rfl|rfl
   .exact iha h.2.1 fun t ht=>ha t (by simp[Ex.fl,ht])
   .exact ihb h.2.2.1 fun t ht=>ha t (by simp[Ex.fl,ht])
   exact ihc h.2.2.2 fun t ht=>ha t (by simp[Ex.fl,ht]))
  rw[xan,if_neg (by rw[h.1];decide),if_neg (by rw[h.1];decide),ytg (by rw[h.1];decide),qdm]at this;rw[ty,show q+(Ex.tr t a b c).fl.length=q+1+(flX [a,b,c]).length by simp[Ex.fl,flX];omega];exact this
theorem znm(l:List Tm)(n:Int)(hl:l.length<=1000):Con prog 105 [ybr l,i64 n] (yau (ycu l n)):=
 ymp ⟨_,Tryz.func105,rfl,rfl⟩ fun w us ok hok hr=>by
  obtain⟨u,v,rfl,h1,h2⟩:=zfn hr;cases h2;exact valid_any u l n w hl (Lib.hid (yrk h1 hok))
theorem xhf(l:List Tm)(kinds:List Int)(bound:Bool)(hl:l.length<=1000):Con prog 106 [ybr l,yai kinds,yau bound] (.tup [i64 (ofF l kinds bound).1,i64 (ofF l kinds bound).2]):=by
 have hv:=znm l kinds.length hl;by_cases h6:6 < kinds.length
 .rw [zya _ _ _ h6];refine ze Tryz.func106 ntmps106 Tryz.results106 ?_;refine zY ?_;refine zj ?_ ?_ <;> intro q
  .exact zkp
  simp at q;omega
 refine ze Tryz.func106 ntmps106 Tryz.results106 ?_;refine zY ?_;refine zj ?_ ?_ <;> intro q
 .simp at q;omega
 refine zY ?_;refine ybj (α:=Nat) (fun k=>[(18,i64 k),(17,i64 kinds.length),(16,yai kinds),(0,ybr l),(1,yai kinds),(2,yau bound)]) (fun _=>[]) (fun k=>kinds.length - k) (fun k=>k<=kinds.length/\ygv (kinds.take k)=true) 0 ⟨om,rfl⟩ zs yag ?_;rintro k ⟨hk,ha⟩;refine zY ?_;refine zj ?_ ?_ <;> intro h1
 .have h1:k < kinds.length:=by simpa using h1
  have hit:=qae h1;have hpk:=zrf kinds[k];refine zZ ?_;refine zj ?_ ?_ <;> intro h4
  .refine zk ?_;exact xmt (by rw[zez _ _ _ (ziv k h1 (by simpa using h4))]) (by rw[zez _ _ _ (ziv k h1 (by simpa using h4))])
  refine zY ?_;exact rnd (k+1) ⟨om,kindsB_step k h1 ha (by simpa using h4)⟩ om zs yag
 rw[show k=kinds.length by simp at h1;omega,qaw]at ha;cases h5:ycu l kinds.length
 all_goals
  rw[h5]at hv;refine zZ ?_
 .rw [zey _ _ _ h5];exact zp
 obtain⟨E,hp,ho,hf,harg,_⟩:=xhe (bound:=bound) h6 ha h5;rw[xdr _ _ _ E h6 ha h5 hp];have hre:=read_con l kinds hl E ho (by rw[hf];exact harg) 0 [] bound (by simp[hf]);refine zZ ?_;refine zj ?_ ?_ <;> intro h7
 .have h7:ty kinds bound E=0:=by simpa using h7
  rw[if_pos h7];exact zkp
 have h7:¬ ty kinds bound E=0:=by simpa using h7
 rw[if_neg h7];exact zkp
end
end Go.Proofs.YtgpodcjhgdionaaGreatDoor
