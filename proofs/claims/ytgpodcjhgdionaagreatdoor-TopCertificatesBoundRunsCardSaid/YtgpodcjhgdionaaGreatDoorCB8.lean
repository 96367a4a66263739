/- Part 8 of the texts under TopCertificatesBoundRuns. -/
import Derived.Deep.RegionHeld3
import Derived.Deep.QuietTactic
import Derived.BigQuiet
import Derived.Below
import Derived.Test.YtgpodcjhgdionaaGreatDoorRows
import Derived.WalkKit
import Derived.WalkSpells
import Derived.WalkLawsBesides
import Derived.Lib.Hide
import Derived.Maps.OwnOps
import Derived.Maps.OwnSet
import Derived.Maps.Views
import Derived.StringKeys
import Derived.Laws.AppendOwn
import Derived.Laws.AppendOwnNone
import Derived.Laws.OwnMore
import Derived.OwnWalk
import Derived.Test.YtgpodcjhgdionaaGreatDoorCB4
import Derived.Test.YtgpodcjhgdionaaGreatDoorCB6
import Derived.Test.YtgpodcjhgdionaaGreatDoorCB7
namespace Go.Proofs.YtgpodcjhgdionaaGreatDoor
open Go.Proofs.Tryz
variable {w:World} {l:List Tm} {v:Value} {kinds:List Int} {ok:Nat->Prop} {p:ProgD} {lv:Live} {size n B e:Nat} {xs:List Value} {α:Type} {op:Int} {x:VarD} {g:α->List Value}
section
open Go.RowKit
def yhe (xs:List Bool):List Value:=xs.map Value.bool
theorem boolCells_get (xs:List Bool) (i:Nat) (x:Bool) (h:xs[i]?=some x):(yhe xs)[i]?=some (.bool x):=by unfold yhe;rw [qah,h];rfl
theorem ypo (xs ys:List Bool):yhe (xs++ys)=yhe xs++yhe ys:=by simp [yhe]
theorem boolCells_length (xs:List Bool):(yhe xs).length=xs.length:=by simp [yhe]
theorem xcw {B' e' s s' n':Nat} {v':Value} {xs':List Value} (h:w.ownsRow B e s v n xs) (h':w.ownsRow B' e' s' v' n' xs') (hne:e≠e'):v.ownBlock=none\/v.ownBlock≠v'.ownBlock:=by
 rcases h.2 with ⟨rfl,_⟩|⟨g,cap,cur,rfl,_,hh,_⟩
 .exact .inl rfl
 rcases h'.2 with ⟨rfl,_⟩|⟨g',cap',cur',rfl,_,hh',_⟩
 .right;simp [Value.ownBlock]
 right;intro heq;simp only [Value.ownBlock,Option.some.injEq] at heq;rw [heq,hh'] at hh;simp only [Option.some.injEq,Obj.cells.injEq] at hh;exact hne hh.2.1.symm
def zkz (S:Open):List Nat:=(S.map (·.1)).reverse
def ypz (S:Open):List Bool:=(S.map (·.2)).reverse
theorem yky (k:Nat) (b:Bool) (S:Open):zkz ((k,b)::S)=zkz S++[k]:=by simp [zkz]
theorem ysm (k:Nat) (b:Bool) (S:Open):ypz ((k,b)::S)=ypz S++[b]:=by simp [ypz]
theorem yjv (S:Open):(zkz S).length=S.length:=by simp [zkz]
theorem yqz (S:Open):(ypz S).length=S.length:=by simp [ypz]
def xex (bs:List Bool):Nat:=(bs.filter id).length
theorem zhq (S:Open):xex (ypz S)=cnt S:=by
 unfold xex ypz cnt;rw [List.filter_reverse,qgl,List.filter_map,qal];rfl
theorem cntB_take_succ (bs:List Bool) (q:Nat) (x:Bool) (h:bs[q]?=some x):xex (bs.take (q+1))=xex (bs.take q)+(if x then 1 else 0):=by
 obtain ⟨h1,h2⟩:=qaa.1 h;unfold xex;rw [qcq h1,qck,qao,h2];cases x <;> simp
theorem xaw (bs:List Bool):xex bs<=bs.length:=qdl _ _
def yny:Open->Open
 | []=>[]
 | (x,b)::S=>yhw x b S
def Pos (S:Open):Prop:=∀ e∈S,1<=e.1/\e.1<=3
theorem closeS_stop (x:Nat) (b:Bool) (S:Open) (h:x≠0):yny ((x,b)::S)=(x,b)::S:=ynx x b S h
theorem closeS_last (b:Bool):yny [(0,b)]=[]:=by simp [yny,yhw]
theorem closeS_pop (b c:Bool) (x:Nat) (S:Open):yny ((0,b)::(x,c)::S)=yny ((x - 1,c)::S):=by simp [yny,yhw]
theorem closeK_Pos (S:Open):∀ (k:Nat) (b:Bool),k<=3->Pos S->Pos (yhw k b S):=by
 induction S with
 | nil=>
  intro k b hk _;simp only [yhw];split
  .intro e he;cases he
  intro e he;simp at he;subst he;exact ⟨om,hk⟩
 | cons x S ih=>
  obtain ⟨x,c⟩:=x;intro k b hk hS;simp only [yhw];split
  .exact ih _ _ (by have:=hS (x,c) (qbk ..);omega) (fun e he=>hS e (qap _ he))
  intro e he;cases he with
  | head=>exact ⟨om,hk⟩
  | tail _ he=>exact hS e he
theorem closeK_len (S:Open):∀ (k:Nat) (b:Bool),(yhw k b S).length<=S.length+1:=by
 induction S with
 | nil=>intro k b;simp only [yhw];split <;> simp
 | cons x S ih=>
  obtain ⟨x,c⟩:=x;intro k b;simp only [yhw];split
  .have:=ih (x - 1) c;simp;omega
  simp
def zla (l:List Tm) (k:Nat):Lev:=xff ⟨[],0,0⟩ (l.take k)
theorem zpe (l:List Tm) (k:Nat) (h:k < l.length):zla l (k+1)=yls (zla l k) l[k]:=by
 unfold zla;rw [qcq h,yuq];rfl
theorem lev0_facts (l:List Tm) (k:Nat) (h:k<=l.length):(zla l k).S.length<=k/\Pos (zla l k).S/\(zla l k).d<=k/\(zla l k).n<=k:=by
 induction k with
 | zero=>unfold zla;simp [xff];intro e he;cases he
 | succ k ih=>
  obtain ⟨h1,h2,h3,h4⟩:=ih om;rw [zpe l k om];have hb:=zyt l[k].1;have h5:=closeK_len (zla l k).S (ar l[k].1).toNat (ykg l[k].1);have h6:=closeK_Pos (zla l k).S (ar l[k].1).toNat (ykg l[k].1) om h2;have h7:cnt (((ar l[k].1).toNat,ykg l[k].1)::(zla l k).S)<=k+1:=by
   rw [<- zhq];have:=xaw (ypz (((ar l[k].1).toNat,ykg l[k].1)::(zla l k).S));rw [yqz] at this;simp at this;omega
  unfold yls;refine ⟨by show (yhw _ _ _).length<=_;omega,h6,by show max _ _<=_;omega,by show max _ _<=_;omega⟩
theorem lev0_all (l:List Tm) (E:Ex) (h:yfw l=some E):(zla l l.length).d=E.dp/\(zla l l.length).n=E.ns:=by
 obtain ⟨h1,h2⟩:=yjb h;unfold zla;rw [qay,<- h2,levR_fl E h1];simp [cnt]
theorem xcv (h:w.ownsRow B e size v n xs) {x:Nat} (hx:x < B):some x≠v.ownBlock:=
 fun h1=>by have:=(h.lt x h1.symm).1;omega
theorem yoy {wr w':World} {g o:Nat} {u:Value} (hg:g < w.heap.size) (hb:Below w.heap.size w wr) (hc:wr.cell? ⟨g,o,none⟩=some u) (h:Below wr.heap.size wr w'):w'.cell? ⟨g,o,none⟩=some u:=
 (h.cell (p:=⟨g,o,none⟩) (qbg hg hb.size)).trans hc
theorem own_frozen {s cap g:Nat} (h:w.ownsRow B e s (.slice (some ⟨g,0,none⟩) n cap) n xs) (j:Nat):w.frozen? ⟨g,j,none⟩=false:=by
 rcases h.2 with ⟨h0,_⟩|⟨g',cap',cur,hv,_,hh,_⟩
 .cases h0
 cases hv;unfold World.frozen?;simp only [hh];simp
theorem lefts_dec (y:Nat) (c:Bool) (T:Open) (hy:1<=y):(ydz (zkz ((y,c)::T))).set T.length (.int .i64 ((y:Int) - 1))=ydz (zkz ((y - 1,c)::T)):=by
 rw [yky,yky,yey,yey,qbm _ _ (by rw [yie,yjv];exact qbh _),yie,yjv,qbn];simp only [ydz,List.map_singleton,qer];rw [show ((y - 1:Nat):Int)=(y:Int) - 1 by omega]
theorem infoBool:(prog.info? 4).map (fun i=>(i.zero,i.size,i.bytes))=some (some (.bool false),1,1):=by kernel_rfl
theorem sizeBool (w:World):(sizeOf (prog.elem 30)).run prog w=.ok 1 w:=by kernel_rfl
theorem underBools:prog.underlying 30=some (.slice (prog.elem 30)):=by kernel_rfl
def znf (w0 w:World) (vl vo:Value) (S:Open):Prop:=
 w.ownsRow w0.heap.size 3 1 vl S.length (ydz (zkz S))/\w.ownsRow w0.heap.size 4 1 vo S.length (yhe (ypz S))/\Below w0.heap.size w0 w
set_option maxHeartbeats 4000000 in
set_option maxRecDepth 100000 in
theorem zfl (v:Value) (l:List Tm) (E:Ex) (w:World) (hl:l.length<=1000) (hv:Hid (yfl w v l)) (hp:Hid (yfw l=some E)) :
  Calls prog 294 #[v] w fun e w'=>e=.returned (.tuple #[.int .i64 E.dp,.int .i64 E.ns])/\Below w.heap.size w w':=by
 obtain ⟨i0,hi,hz0,hz1,hz2⟩:=info_parts xbu;obtain ⟨j0,hj,hy0,hy1,hy2⟩:=info_parts infoBool;have Hi:=Lib.hid hi;have Hz0:=Lib.hid hz0;have Hz1:=Lib.hid hz1;have Hz2:=Lib.hid hz2;have Hj:=Lib.hid hj;have Hy0:=Lib.hid hy0;have Hy1:=Lib.hid hy1;have Hy2:=Lib.hid hy2;clear hi hz0 hz1 hz2 hj hy0 hy1 hy2;obtain ⟨hok,hfl⟩:=yjb hp.out;have HF:Hid (yfc l=some [E]):=by rw [<- hfl];have:=zdv E hok [] [] rfl;rw [qbe] at this;exact this
 have hpos:0 < l.length:=by rw [<- hfl];exact E.fl_pos
 clear hok hfl;obtain ⟨a0,cap0,rfl,h1,h2,h3⟩:=hv.out.open;obtain ⟨g0,o0,rfl,hg0,hc⟩:=h3 hpos;have HC:=Lib.hid hc;clear h3 hc;go_enter Tryz.func294,ntmps294;go_wp2_with fail;go_loopw [4,5,6,7,8,9,10] (fun d n vl vo i _ _ wr=>∃ k:Nat,k<=l.length/\i=.int .i64 k/\d=.int .i64 (zla l k).d/\n=.int .i64 (zla l k).n/\Hid (znf w wr vl vo (zla l k).S)) (fun _ _ _ _ i _ _ _=>l.length - (intOf i).toNat);case atStart=>exact ⟨0,om,rfl,rfl,rfl,World.ownsRow_nil _ _ _ _,World.ownsRow_nil _ _ _ _,Below.refl _ _⟩
 case round=>
  obtain ⟨k,hk,rfl,rfl,rfl,hst⟩:=hrel
  obtain ⟨q1,q2,q3,q4⟩:=lev0_facts l k hk
  by_cases hlt:k < l.length
  .obtain ⟨ha0,_⟩:=zpf ytj l E HF.out k hlt
   have ha1:=(zyt l[k].1).2
   obtain ⟨c0,c1⟩:=HC.out k _ (qae hlt)
   have HS:=Lib.hid (zpe l k hlt)
   have HQ2:=Lib.hid q2
   clear q2
   generalize hL:zla l k=L at *
   have HL:=Lib.hid hL
   clear hL
   obtain ⟨hownL,hownO,hbel⟩:=hst.out
   rw [<- hbel.cell (p:=⟨g0,_,none⟩) hg0] at c0 c1
   have hbs:=hbel.size
   go_wp2_with fail
   go_region_held3 (fun w'=>w'.cell? ⟨g0,o0+k * 2,none⟩=some (.int .i64 l[k].1)) (first|exact cB|exact cA|(refine yoy hg0 hbelA cA ?_;repeat (first|exact Below.refl _ _|apply Below.drew|refine Below.alloc ?_ sm _))|exact c0|(refine yoy hg0 hbel c0 ?_;repeat (first|exact Below.refl _ _|apply Below.drew|refine Below.alloc ?_ sm _)))
    (first|(go_at_call 223;refine (yom _ _).mono ?_;rintro e w' ⟨rfl,rfl⟩)|(go_at_call 225;refine (ytp _ _).mono ?_;rintro e w' ⟨rfl,rfl⟩)|(refine step_append_lies _ rfl (.tmp 26) (.tmp 33) 30 rfl w.heap.size 4 j0 (.bool false) 1 1 underlying30 Hj.out Hy0.out Hy1.out Hy2.out rfl dc _ _ _ rfl (by exact yih hownO2 (by repeat (first|exact Below.refl _ _|apply Below.drew|refine Below.alloc ?_ sm _))) ⟨wA.heap.size,0,none⟩ 1 1 [.bool (ykg l[k].1)] rfl rfl (by exact zew _ _ _ _ sm) (by simp [Value.oneCell']) dc (by unfold maxLen;omega) om so _ rfl ?_;intro gB capB wB hownB hgrowB _ _;have cB:wB.cell? ⟨g0,o0+k * 2,none⟩=some (.int .i64 l[k].1):=hgrowB.cell (yoy hg0 hbelA cA (by repeat (first|exact Below.refl _ _|apply Below.drew|refine Below.alloc ?_ (by first|exact qbh _|exact hbsA|(simp;omega)|simp) _))) (xcv hownO2 hg0))|(refine step_append_lies _ rfl (.tmp 17) (.tmp 24) 26 rfl w.heap.size 3 i0 (.int .i64 0) 1 8 underlying26 Hi.out Hz0.out Hz1.out Hz2.out rfl dc _ _ _ rfl (by exact yih hownL (by repeat (first|exact Below.refl _ _|apply Below.drew|refine Below.alloc ?_ sm _))) ⟨wr.heap.size,0,none⟩ 1 1 [.int .i64 (ar l[k].1)] rfl rfl (by exact zew _ _ _ _ sm) (by simp [Value.oneCell']) dc (by unfold maxLen;omega) om so _ rfl ?_;intro gA capA wA hownA hgrowA _ _;have hownO2:=(yih hownO (by repeat (first|exact Below.refl _ _|apply Below.drew|refine Below.alloc ?_ sm _))).kept hgrowA (xcw hownO hownL dc);have cA:wA.cell? ⟨g0,o0+k * 2,none⟩=some (.int .i64 l[k].1):=hgrowA.cell (yoy hg0 hbel c0 (by repeat (first|exact Below.refl _ _|apply Below.drew|refine Below.alloc ?_ (by first|exact qbh _|exact hbs|(simp;omega)|simp) _))) (xcv hownL hg0);have hbelA:Below w.heap.size w wA:=Below.grown (by repeat (first|exact hbel|apply Below.drew|refine Below.alloc ?_ (by first|exact qbh _|exact hbs|(simp;omega)|simp) _)) hgrowA so (zxa hownL);have hbsA:=hbelA.size))
   have harn:((ar l[k].1).toNat:Int)=ar l[k].1:=by omega
   have HST:Hid (znf w wB (.slice (some ⟨gA,0,none⟩) (L.S.length+1) capA) (.slice (some ⟨gB,0,none⟩) (L.S.length+1) capB) (((ar l[k].1).toNat,ykg l[k].1)::L.S)):=by
    refine ⟨?_,?_,Below.grown (by repeat (first|exact hbelA|apply Below.drew|refine Below.alloc ?_ (by first|exact hbsA|(simp;omega)) _)) hgrowB so (zxa hownO2)⟩
    .rw [yky,yey,ydz,ydz,List.map_singleton,harn];exact (yih hownA (by repeat (first|exact Below.refl _ _|apply Below.drew|refine Below.alloc ?_ sm _))).kept hgrowB (xcw hownA hownO2 dc)
    rw [ysm,ypo];exact hownB
   clear hownA hownB hgrowA hgrowB hownO2 cA cB hbelA hbsA hownL hownO harn c0 c1 hbs
   obtain ⟨S1,hS1⟩:∃ S1,S1=((ar l[k].1).toNat,ykg l[k].1)::L.S:=⟨_,rfl⟩
   have hlen1:L.S.length+1=S1.length:=by rw [hS1];rfl
   have hP1:Hid (Pos S1.tail):=by rw [hS1];exact HQ2
   have hclose:Hid (yhw (ar l[k].1).toNat (ykg l[k].1) L.S=yny S1):=by rw [hS1];rfl
   have hcnt:Hid (cnt (((ar l[k].1).toNat,ykg l[k].1)::L.S)=xex (ypz S1)):=by rw [hS1,zhq];rfl
   have hol:Hid ((ypz S1).length=S1.length):=yqz S1
   rw [<- hS1] at HST
   rw [hlen1] at HST ⊢
   have hn1:S1.length<=1000:=by omega
   have HL1:=Lib.hid hlen1
   clear hS1 hlen1
   obtain ⟨hoL,hoO,hbB⟩:=HST.out
   obtain ⟨o1,o2,o3⟩:=yol hoO
   obtain ⟨p1,p2,p3⟩:=yol hoL
   go_wp2_with fail
   go_loop [9,10] (fun c q=>∃ j:Nat,j<=S1.length/\q=.int .i64 j/\c=.int .i64 (xex ((ypz S1).take j):Nat)) (fun _ q=>S1.length - (intOf q).toNat)
   case atStart=>exact ⟨0,om,rfl,rfl⟩
   case round=>
    obtain ⟨j,hj,rfl,rfl⟩:=hrel
    by_cases hq:j < S1.length
    .obtain ⟨g,hge,hcs⟩:=o3 om
     simp only [Option.some.injEq,Addr.mk.injEq] at hge
     obtain ⟨rfl,_⟩:=hge
     obtain ⟨x,hx⟩:∃ x,(ypz S1)[j]?=some x:=⟨(ypz S1)[j]'(by rw [hol.out];exact hq),qae _⟩
     have hcell:=hcs j _ (boolCells_get _ j x hx)
     have HM:=Lib.hid (cntB_take_succ (ypz S1) j x hx)
     have hcb:=xaw ((ypz S1).take j)
     rw [qcf,hol.out] at hcb
     clear hcs hx
     generalize xex ((ypz S1).take j)=cj at *
     cases x
     all_goals
      go_wp2_with fail
      refine ⟨⟨j+1,om,by go_num,?_⟩,by simp [intOf];omega⟩
      rw [HM.out];simp
    obtain rfl:j=S1.length:=by omega
    rw [qak (by rw [hol.out];exact qbh _),<- hcnt.out]
    generalize hc1:cnt (((ar l[k].1).toNat,ykg l[k].1)::L.S)=c1 at *
    obtain ⟨d1,hd1⟩:∃ d1:Nat,d1=max L.d S1.length:=⟨_,rfl⟩
    obtain ⟨n1,hn1e⟩:∃ n1:Nat,n1=max L.n c1:=⟨_,rfl⟩
    have hm1:(if L.d < S1.length then (S1.length:Int) else (L.d:Int))=(d1:Int):=by rw [hd1];split <;> omega
    have hm2:(if L.n < c1 then (c1:Int) else (L.n:Int))=(n1:Int):=by rw [hn1e];split <;> omega
    have HN:Hid (yls L l[k]=⟨yny S1,d1,n1⟩):=by
     unfold yls;rw [hc1,hclose.out,hd1,hn1e,<- HL1.out];rfl
    clear hd1 hn1e hc1 hcnt hclose
    go_wp2_with fail
    clear hm1 hm2 o3 p3 hoL hoO
    go_loopg [6,7] S1.length (fun m vl vo wy=>∃ S:Open,Hid (S.length=m)/\m<=S1.length/\Hid (yny S1=yny S)/\Hid (znf w wy vl vo S)/\Hid (Pos S.tail))
    case atStart=>exact ⟨S1,rfl,qbh _,rfl,HST,hP1⟩
    case round=>
     obtain ⟨S,hSl,hSm,hSc,hSt,hSp⟩:=hrel
     obtain ⟨wy,rfl⟩:∃ wy:World,wy=wr:=⟨_,rfl⟩
     obtain ⟨hoL,hoO,hbY⟩:=hSt.out
     rcases S with _|⟨⟨x,b⟩,T⟩
     .obtain ⟨la,lcap,rfl⟩:=yra (n:=0) hoL
      obtain ⟨oa,ocap,rfl⟩:=yra (n:=0) hoO
      go_wp2_with fail
      exact ⟨⟨k+1,om,by go_num,by rw [HS.out,HN.out],by rw [HS.out,HN.out],by rw [HS.out,HN.out];show znf w _ _ _ (yny S1);rw [hSc.out,show yny []=[] from rfl];exact hSt⟩,by simp [intOf];omega⟩
     obtain ⟨la,lcap,rfl⟩:=yra (n:=T.length+1) hoL
     obtain ⟨oa,ocap,rfl⟩:=yra (n:=T.length+1) hoO
     have hTl:T.length+1<=1000:=by have:=hSl.out;simp only [qaj] at this;omega
     obtain ⟨o1',o2',o3⟩:=yol (n:=T.length+1) hoO
     obtain ⟨p1',p2',p3⟩:=yol (n:=T.length+1) hoL
     obtain ⟨g,rfl,hcs⟩:=p3 om
     have hcx:=hcs T.length _ (yqv _ T.length x (by rw [yky,<- yjv T,qai (qbh _),qbn];rfl))
     have eT:(((T.length+1:Nat):Int) - 1)=(T.length:Int):=by omega
     by_cases hx:x=0
     .subst hx
      have hsl1:=yzn zgh ztm (some ⟨g,0,none⟩) (T.length+1) lcap T.length (((T.length+1:Nat):Int) - 1) om om
      have hsl2:=yzn underBools sizeBool oa (T.length+1) ocap T.length (((T.length+1:Nat):Int) - 1) om om
      have hsl1':∀ w,(Instr.slice 26 (.slice (some ⟨g,0,none⟩) (T.length+1) lcap) none (some (.int .i64 (T.length:Int))) none).run prog w=.ok (.slice (some ⟨g,0,none⟩) T.length lcap) w:=by intro w;have:=hsl1 w;rw [eT] at this;exact this
      have hsl2':∀ w,(Instr.slice 30 (.slice oa (T.length+1) ocap) none (some (.int .i64 (T.length:Int))) none).run prog w=.ok (.slice oa T.length ocap) w:=by intro w;have:=hsl2 w;rw [eT] at this;exact this
      have HoL:wy.ownsRow w.heap.size 3 1 (.slice (some ⟨g,0,none⟩) T.length lcap) T.length (ydz (zkz T)):=zlt (by rw [yie,yjv]) (by rw [yky,yey] at hoL;exact hoL)
      have HoO:wy.ownsRow w.heap.size 4 1 (.slice oa T.length ocap) T.length (yhe (ypz T)):=zlt (by rw [boolCells_length,yqz]) (by rw [ysm,ypo] at hoO;exact hoO)
      have hx0:((0:Int) == 0)=true:=by simp
      have hT:(T.length=0/\Hid (T=[]))\/∃ y c T',Hid (T=(y,c)::T')/\0 < T.length/\1<=y/\y<=3/\wy.cell? ⟨g,T.length - 1,none⟩=some (.int .i64 (y:Nat)):=by
       rcases T with _|⟨⟨y,c⟩,T'⟩
       .exact .inl ⟨rfl,rfl⟩
       have hy:=hSp.out (y,c) (qbk ..);refine .inr ⟨y,c,T',rfl,sm,hy.1,hy.2,?_⟩;obtain ⟨_,_,q3⟩:=yol HoL;obtain ⟨g',hg',hq⟩:=q3 sm;cases hg';exact hq _ _ (yqv _ _ y (by rw [yky,qaj,Nat.add_sub_cancel,<- yjv T',qai (qbh _),qbn];rfl))
      have hfz:=own_frozen HoL (T.length - 1)
      have hSl2:Hid (T.length+1=gk):=hSl.out
      have hSp2:Hid (Pos T):=hSp.out
      clear hsl1 hsl2 hcs p3 o3 hoL hoO
      generalize htn:T.length=tn at *
      have HTN:=Lib.hid htn
      clear htn
      rcases hT with ⟨ht0,hTe⟩|⟨y,c,T',hTe,ht0,hy1,hy2,hcy⟩
      .have HT0:=Lib.hid ht0
       have ht1:tn < 1:=by omega
       clear ht0
       go_wp2_with fail
       go_quiet (fail)
       go_wp2_with fail
       go_roundg tn
       case measure=>have:=hSl2.out;omega
       case rel=>
        refine ⟨T,HTN,by have:=hSl2.out;omega,?_,⟨?_,?_,below_drewN hbY _⟩,?_⟩
        .rw [hSc.out,hTe.out];exact closeS_last b
        .rw [HTN.out];exact yih HoL (xap (Below.refl _ _) _)
        .rw [HTN.out];exact yih HoO (xap (Below.refl _ _) _)
        rw [hTe.out];intro e he;cases he
      have i1:(1:Int)<=(tn:Int):=by omega
      go_wp2_with fail
      go_quiet (fail)
      go_wp2_with fail
      have hs:=HoL.stored (tn - 1) (.int .i64 ((y:Int) - 1))
      have hk:=HoO.kept hs.2 (xcw HoO HoL dc)
      have hTl':T'.length=tn - 1:=by have h1:=HTN.out;rw [hTe.out,qaj] at h1;omega
      go_roundg tn
      case measure=>have:=hSl2.out;omega
      case rel=>
       refine ⟨(y - 1,c)::T',by show T'.length+1=tn;omega,by have:=hSl2.out;omega,?_,⟨?_,?_,below_drewN (hbY.setCell (zxa HoL g rfl) _) _⟩,?_⟩
       .rw [hSc.out,hTe.out];exact closeS_pop b c y T'
       .show World.ownsRow _ _ _ _ _ (T'.length+1) _
        rw [show T'.length+1=tn by omega,<- lefts_dec y c T' hy1,hTl',<- hTe.out]
        exact yih hs.1 (xap (Below.refl _ _) _)
       .show World.ownsRow _ _ _ _ _ (T'.length+1) _
        rw [show T'.length+1=tn by omega,ysm,<- ysm y c T',<- hTe.out]
        exact yih hk (xap (Below.refl _ _) _)
       intro e he;exact hSp2.out e (by rw [hTe.out];exact qap _ he)
     have hxb:((x:Int) == 0)=false:=by simp;omega
     go_wp2_with fail
     exact ⟨⟨k+1,om,by go_num,by rw [HS.out,HN.out],by rw [HS.out,HN.out],by rw [HS.out,HN.out];show znf w _ _ _ (yny S1);rw [hSc.out,closeS_stop x b T hx];exact hSt⟩,by simp [intOf];omega⟩
  obtain rfl:k=l.length:=by omega
  have HA:=Lib.hid (lev0_all l E hp.out)
  go_wp2_with fail
  go_ret2
  exact ⟨by rw [HA.out.1,HA.out.2];rfl,hst.out.2.2⟩
end
set_option maxRecDepth 100000
section
open Go.RowKit
def zzg (l:List Tm):Bool:=(yfw l).isSome
theorem xjm (l:List Tm) (E:Ex) (h:yfw l=some E):(yva 1 0 l != (l.length:Int))=false/\(yva 1 0 l == (l.length:Int))=true:=by
 rw [(zkm l).2 ⟨E,h⟩];simp
theorem xjl (l:List Tm) (h:yfw l=none):(yva 1 0 l != (l.length:Int))=true/\(yva 1 0 l == (l.length:Int))=false:=by
 have:yva 1 0 l≠(l.length:Int):=fun hq=>by
  obtain ⟨E,hE⟩:=(zkm l).1 hq;rw [h] at hE;cases hE
 simp [this]
theorem yza (v:Value) (l:List Tm) (w:World) (hl:l.length<=1000) (hv:Hid (yfl w v l)) :
  Calls prog 282 #[v] w fun e w'=>e=.returned (.bool (zzg l))/\w=w':=by
 obtain ⟨a0,cap0,rfl,h1,h2,h3⟩:=hv.out.open;clear h3;cases hp:yfw l with
 | none=>
  have H:Hid (zzg l=false):=by unfold zzg;rw [hp];rfl
  obtain ⟨_,he⟩:=xjl l hp;clear hp;by_cases h0:0 < l.length
  all_goals
   go_enter Tryz.func282,ntmps282;go_wp2_with (go_at_call 257;refine (zte _ l 0 _ hl hv om).mono ?_;rintro e w' ⟨rfl,rfl⟩);go_ret;exact ⟨ydp H.out.symm,rfl⟩
 | some E=>
  have H:Hid (zzg l=true):=by unfold zzg;rw [hp];rfl
  have h0:0 < l.length:=by rw [<- (yjb hp).2];exact E.fl_pos
  obtain ⟨_,he⟩:=xjm l E hp;clear hp;go_enter Tryz.func282,ntmps282;go_wp2_with (go_at_call 257;refine (zte _ l 0 _ hl hv om).mono ?_;rintro e w' ⟨rfl,rfl⟩);go_ret;exact ⟨ydp H.out.symm,rfl⟩
theorem yzg (v:Value) (l:List Tm) (E:Ex) (w:World) (hl:l.length<=1000) (hv:Hid (yfl w v l)) (hp:Hid (yfw l=some E)) :
  Calls prog 283 #[v] w fun e w'=>e=.returned (.int .i64 E.dp)/\Below w.heap.size w w':=by
 have H:zzg l=true:=by unfold zzg;rw [hp.out];rfl
 go_enter Tryz.func283,ntmps283;go_wp2_with (first|(go_at_call 282;refine (yza _ l _ hl hv).mono ?_;rintro e w' ⟨rfl,rfl⟩)|(go_at_call 294;refine (zfl _ l E _ hl hv hp).mono ?_;rintro e w' ⟨rfl,hb⟩));go_ret;exact ⟨rfl,hb⟩
theorem zqi (v:Value) (l:List Tm) (E:Ex) (w:World) (hl:l.length<=1000) (hv:Hid (yfl w v l)) (hp:Hid (yfw l=some E)) :
  Calls prog 284 #[v] w fun e w'=>e=.returned (.int .i64 E.ns)/\Below w.heap.size w w':=by
 have H:zzg l=true:=by unfold zzg;rw [hp.out];rfl
 go_enter Tryz.func284,ntmps284;go_wp2_with (first|(go_at_call 282;refine (yza _ l _ hl hv).mono ?_;rintro e w' ⟨rfl,rfl⟩)|(go_at_call 294;refine (zfl _ l E _ hl hv hp).mono ?_;rintro e w' ⟨rfl,hb⟩));go_ret;exact ⟨rfl,hb⟩
theorem zju (vars:Int) (h:yfw l=none):ycm l vars=false:=by unfold ycm;rw [h]
theorem zjt (vars:Int) (h:200 < l.length):ycm l vars=false:=by
 unfold ycm;cases yfw l with
 | none=>rfl
 | some E=>simp;omega
theorem zrh (vars:Int) (k:Nat) (hk:k < l.length) (h:yuz vars l[k]=false):ycm l vars=false:=by
 unfold ycm;cases yfw l with
 | none=>rfl
 | some E=>
  have:l.all (yuz vars)=false:=by rw [qcd];exact ⟨l[k],qfs hk,by simp [h]⟩
  simp only [this,qdx,qch]
theorem zjv (vars:Int) (E:Ex) (hp:yfw l=some E) (h:l.length<=200) (ha:(l.take l.length).all (yuz vars)=true):ycm l vars=(decide (E.dp<=24) && decide (E.ns<=2)):=by
 rw [qay] at ha;unfold ycm;rw [hp];simp [ha,h]
theorem zjs (vars:Int) (E:Ex) (hp:yfw l=some E) (h:24 < E.dp\/2 < E.ns):ycm l vars=false:=by
 unfold ycm;rw [hp];rcases h with h|h <;> simp <;> omega
theorem znm (l:List Tm) (vars:Int) (k:Nat) (h:k < l.length) (ha:(l.take k).all (yuz vars)=true) (hw:yuz vars l[k]=true):(l.take (k+1)).all (yuz vars)=true:=by
 rw [qcq h,qel,ha];simp [hw]
set_option maxHeartbeats 2000000 in
theorem yxm (v:Value) (l:List Tm) (vars:Int) (w:World) (hl:l.length<=1000) (hv:Hid (yfl w v l)) :
  Calls prog 105 #[v,.int .i64 vars] w fun e w'=>e=.returned (.bool (ycm l vars))/\Below w.heap.size w w':=by
 obtain ⟨a0,cap0,rfl,h1,h2,h3⟩:=hv.out.open;have HC:=Lib.hid h3;clear h3;by_cases h200:200 < l.length
 .have H:=Lib.hid (zjt vars h200);go_enter Tryz.func105,ntmps105;go_wp2_with fail;go_ret;exact ⟨ydp H.out.symm,Below.refl _ _⟩
 cases hp:yfw l with
 | none=>
  have H:=Lib.hid (zju vars hp);obtain ⟨he,_⟩:=xjl l hp;clear hp;go_enter Tryz.func105,ntmps105;go_wp2_with (go_at_call 163;refine (zoe _ l 0 _ hl hv om).mono ?_;rintro e w' ⟨rfl,rfl⟩);go_ret;exact ⟨ydp H.out.symm,Below.refl _ _⟩
 | some E=>
  have HP:=Lib.hid hp;obtain ⟨he,_⟩:=xjm l E hp;clear hp;go_enter Tryz.func105,ntmps105;go_wp2_with (go_at_call 163;refine (zoe _ l 0 _ hl hv om).mono ?_;rintro e w' ⟨rfl,rfl⟩);go_loopw [6,19] (fun _ i wr=>∃ k:Nat,k<=l.length/\i=.int .i64 k/\Hid ((l.take k).all (yuz vars)=true)/\Below w.heap.size w wr) (fun _ i _=>l.length - (intOf i).toNat);case atStart=>exact ⟨0,om,rfl,rfl,Below.refl _ _⟩
  case round=>
   obtain ⟨k,hk,rfl,ha,hbel⟩:=hrel
   by_cases hlt:k < l.length
   .obtain ⟨g,o,rfl,hg,hc⟩:=HC.out om
    obtain ⟨c0,c1⟩:=hc k _ (qae hlt)
    rw [<- hbel.cell (p:=⟨g,_,none⟩) hg] at c0 c1
    clear hc
    have hbs:=hbel.size
    rcases qeh (yuz vars l[k]) with hw|hw
    .have H:=Lib.hid (znm l vars k hlt ha.out hw)
     go_wp2_with (go_at_call 164;refine (zac l[k] vars _).mono ?_;rintro e w1 ⟨rfl,hb1⟩)
     exact ⟨⟨k+1,om,by go_num,H,(hbel.alloc hbs _).trans (hb1.mono so)⟩,by simp [intOf];omega⟩
    have H:=Lib.hid (zrh vars k hlt hw)
    go_wp2_with (go_at_call 164;refine (zac l[k] vars _).mono ?_;rintro e w1 ⟨rfl,hb1⟩)
    go_ret
    exact ⟨ydp H.out.symm,(hbel.alloc hbs _).trans (hb1.mono so)⟩
   obtain rfl:k=l.length:=by omega
   have H:=Lib.hid (zjv vars E HP.out om ha.out)
   have HD:Hid (zag l=E.dp):=by unfold zag;rw [HP.out];rfl
   have HN:Hid (zst l=E.ns):=by unfold zst;rw [HP.out];rfl
   by_cases hd:zag l<=24
   all_goals
    go_wp2_with (first|(go_at_call 165;refine (depth_any _ l _ hl (hv.out.below hbel)).mono ?_;rintro e w1 ⟨rfl,hb1⟩)|(go_at_call 166;refine (nest_any _ l _ hl (hv.out.below (znq hbel hb1))).mono ?_;rintro e w2 ⟨rfl,hb2⟩))
    go_ret
   .refine ⟨ydp ?_,znq (znq hbel hb1) hb2⟩
    rw [H.out,<- HD.out,<- HN.out];simp [hd];omega
   refine ⟨ydp ?_,znq hbel hb1⟩
   rw [H.out,<- HD.out];simp;omega
set_option maxHeartbeats 2000000 in
theorem rvalid_any (v:Value) (l:List Tm) (vars:Int) (w:World) (hl:l.length<=1000) (hv:Hid (yfl w v l)) :
  Calls prog 267 #[v,.int .i64 vars] w fun e w'=>e=.returned (.bool (ycm l vars))/\Below w.heap.size w w':=by
 obtain ⟨a0,cap0,rfl,h1,h2,h3⟩:=hv.out.open;have HC:=Lib.hid h3;clear h3;by_cases h200:200 < l.length
 .have H:=Lib.hid (zjt vars h200);go_enter Tryz.func267,ntmps267;go_wp2_with fail;go_ret;exact ⟨ydp H.out.symm,Below.refl _ _⟩
 cases hp:yfw l with
 | none=>
  have H:=Lib.hid (zju vars hp);have h1:zzg l=false:=by unfold zzg;rw [hp];rfl
  clear hp;go_enter Tryz.func267,ntmps267;go_wp2_with (go_at_call 282;refine (yza _ l _ hl hv).mono ?_;rintro e w' ⟨rfl,rfl⟩);go_ret;exact ⟨ydp H.out.symm,Below.refl _ _⟩
 | some E=>
  have HP:=Lib.hid hp;have h1:zzg l=true:=by unfold zzg;rw [hp];rfl
  clear hp;by_cases hd:24 < E.dp
  .have H:=Lib.hid (zjs vars E HP.out (.inl hd));go_enter Tryz.func267,ntmps267;go_wp2_with (first|(go_at_call 282;refine (yza _ l _ hl hv).mono ?_;rintro e w' ⟨rfl,rfl⟩)|(go_at_call 283;refine (yzg _ l E _ hl hv HP).mono ?_;rintro e w1 ⟨rfl,hb1⟩));go_ret;exact ⟨ydp H.out.symm,hb1⟩
  by_cases hn:2 < E.ns
  .have H:=Lib.hid (zjs vars E HP.out (.inr hn));go_enter Tryz.func267,ntmps267;go_wp2_with (first|(go_at_call 282;refine (yza _ l _ hl hv).mono ?_;rintro e w' ⟨rfl,rfl⟩)|(go_at_call 283;refine (yzg _ l E _ hl hv HP).mono ?_;rintro e w1 ⟨rfl,hb1⟩)|(go_at_call 284;refine (zqi _ l E _ hl (hv.out.below hb1) HP).mono ?_;rintro e w2 ⟨rfl,hb2⟩));go_ret;exact ⟨ydp H.out.symm,znq hb1 hb2⟩
  have b1:decide (24 < E.dp)=false:=by simp;omega
  have b2:decide (2 < E.ns)=false:=by simp;omega
  have b3:decide (24 < (E.dp:Int))=false:=by simp;omega
  have b4:decide (2 < (E.ns:Int))=false:=by simp;omega
  have b5:decide (200 < (l.length:Int))=false:=by simp;omega
  go_enter Tryz.func267,ntmps267;go_wp2_with (first|(go_at_call 282;refine (yza _ l _ hl hv).mono ?_;rintro e w' ⟨rfl,rfl⟩)|(go_at_call 283;refine (yzg _ l E _ hl hv HP).mono ?_;rintro e w1 ⟨rfl,hb1⟩)|(go_at_call 284;refine (zqi _ l E _ hl (hv.out.below hb1) HP).mono ?_;rintro e w2 ⟨rfl,hb2⟩));have hb:=znq hb1 hb2;go_loopw [5] (fun i wr=>∃ k:Nat,k<=l.length/\i=.int .i64 k/\Hid ((l.take k).all (yuz vars)=true)/\Below w.heap.size w wr) (fun i _=>l.length - (intOf i).toNat);case atStart=>exact ⟨0,om,rfl,rfl,hb⟩
  case round=>
   obtain ⟨k,hk,rfl,ha,hbel⟩:=hrel
   by_cases hlt:k < l.length
   .obtain ⟨g,o,rfl,hg,hc⟩:=HC.out om
    obtain ⟨c0,c1⟩:=hc k _ (qae hlt)
    rw [<- hbel.cell (p:=⟨g,_,none⟩) hg] at c0 c1
    clear hc
    have hbs:=hbel.size
    rcases qeh (yuz vars l[k]) with hw|hw
    .have H:=Lib.hid (znm l vars k hlt ha.out hw)
     go_wp2_with (go_at_call 285;refine (ywv l[k] vars _).mono ?_;rintro e w3 ⟨rfl,hb3⟩)
     exact ⟨⟨k+1,om,by go_num,H,znq hbel hb3⟩,by simp [intOf];omega⟩
    have H:=Lib.hid (zrh vars k hlt hw)
    go_wp2_with (go_at_call 285;refine (ywv l[k] vars _).mono ?_;rintro e w3 ⟨rfl,hb3⟩)
    go_ret
    exact ⟨ydp H.out.symm,znq hbel hb3⟩
   obtain rfl:k=l.length:=by omega
   have H:=Lib.hid (zjv vars E HP.out om ha.out)
   go_wp2_with fail
   go_ret
   refine ⟨ydp ?_,hbel⟩
   rw [H.out];simp;omega
end
section
open Go.RowKit
def yup (k:Int):Bool:=decide (k=1) || (decide (k=2) || decide (k=3))
theorem ymu (k:Int) (w:World):Calls prog 167 #[.int .i64 k] w fun e w'=>e=.returned (.bool (yup k))/\w=w':=by
 go_enter Tryz.func167,ntmps167;go_wp2
 all_goals go_ret
 all_goals refine ⟨ydp ?_,rfl⟩
 all_goals (rw [qbq];simp [yup];try omega)
theorem ifTrue_any (c:Bool) (k:Int) (w:World):Calls prog 244 #[.bool c,.int .i64 k] w fun e w'=>e=.returned (.int .i64 (if c=true then k else 0))/\w=w':=by
 cases c
 all_goals
  go_enter Tryz.func244,ntmps244;go_wp2;go_ret;exact ⟨yes sm,rfl⟩
def zqe (op a b c:Int):Int:=if ar op=1 then ty1 op a else if ar op=2 then ty2 op a b else ty3 a b c
set_option maxHeartbeats 4000000 in
theorem yzi (op a b c:Int) (w:World) (h1:18<=op) (h2:op<=43) :
  Calls prog 218 #[.int .i64 op,.agg #[.int .i64 a,.int .i64 b,.int .i64 c]] w fun e w'=>e=.returned (.int .i64 (zqe op a b c))/\Below w.heap.size w w':=by
 have hop:op=18\/op=19\/op=20\/op=21\/op=22\/op=23\/op=24\/op=25\/op=26\/op=27\/op=28\/op=29\/op=30\/op=31\/op=32\/op=33\/op=34\/op=35\/op=36\/op=37\/op=38\/op=39\/op=40\/op=41\/op=42\/op=43:=by omega
 rcases hop with rfl|rfl|rfl|rfl|rfl|rfl|rfl|rfl|rfl|rfl|rfl|rfl|rfl|rfl|rfl|rfl|rfl|rfl|rfl|rfl|rfl|rfl|rfl|rfl|rfl|rfl
 all_goals
  clear h1 h2;go_enter Tryz.func218,ntmps218;go_wp2_with fail;go_quiet (fail);go_wp2_with (go_at_call 244;refine (ifTrue_any _ _ _).mono ?_;rintro e w' ⟨rfl,rfl⟩)
  all_goals go_ret
  all_goals refine ⟨yes ?_,below_drewN ((Below.refl _ _).alloc (qbh _) _) _⟩
  all_goals try simp only [beq_iff_eq,beq_eq_false_iff_ne,bne_iff_ne,bne_eq_false_iff_eq,ne_eq] at *
  all_goals (simp [zqe,ar,ty1,ty2,ty3, *];try omega)
theorem xbs (kinds:List Int) (i:Nat) (h:i < kinds.length):kinds[i]?=some (kinds.getD i 0):=by
 rw [qad,qae h];rfl
set_option maxHeartbeats 4000000 in
theorem leaf_any (ev kv:Value) (kinds:List Int) (op x:Int) (w:World) (hk:Hid (zcr .i64 w kv kinds)) (h1:1<=op) (h2:op<=17) (hx:op=5\/op=12->0<=x/\x < kinds.length) :
  Calls prog 217 #[.agg #[ev,kv],.agg #[.int .i64 op,.int .i64 x]] w fun e w'=>e=.returned (.int .i64 (ymp kinds (op,x)))/\Below w.heap.size w w':=by
 obtain ⟨a,cap,rfl,i1,i2,i3,i4⟩:=hk.out.open;have HC:=Lib.hid i4;have HX:=Lib.hid hx;clear i4 hx i3;have hop:op=1\/op=2\/op=3\/op=4\/op=5\/op=6\/op=7\/op=8\/op=9\/op=10\/op=11\/op=12\/op=13\/op=14\/op=15\/op=16\/op=17:=by omega
 rcases hop with rfl|rfl|rfl|rfl|rfl|rfl|rfl|rfl|rfl|rfl|rfl|rfl|rfl|rfl|rfl|rfl|rfl
 all_goals clear h1 h2
 case inr.inr.inr.inr.inl=>
  obtain ⟨x0,x1⟩:=HX.out om
  obtain ⟨x,rfl⟩:=Int.eq_ofNat_of_zero_le x0
  obtain ⟨g,o,rfl,hg,hc⟩:=HC.out om
  have c0:=hc x _ (xbs kinds x om)
  have hxl:x < kinds.length:=by omega
  have HL:=Lib.hid (show ymp kinds (5,(x:Int))=kinds.getD x 0 by simp [ymp])
  clear hc x0 x1
  generalize kinds.getD x 0=kx at *
  go_enter Tryz.func217,ntmps217
  go_wp2_with fail
  go_ret
  refine ⟨yes HL.out.symm,?_⟩
  repeat (first|exact Below.refl _ _|refine Below.alloc ?_ sm _)
 case inr.inr.inr.inr.inr.inr.inr.inr.inr.inr.inr.inl=>
  obtain ⟨x0,x1⟩:=HX.out om
  obtain ⟨x,rfl⟩:=Int.eq_ofNat_of_zero_le x0
  obtain ⟨g,o,rfl,hg,hc⟩:=HC.out om
  have c0:=hc x _ (xbs kinds x om)
  have hxl:x < kinds.length:=by omega
  have HL:=Lib.hid (show ymp kinds (12,(x:Int))=kinds.getD x 0 by simp [ymp])
  clear hc x0 x1
  generalize kinds.getD x 0=kx at *
  go_enter Tryz.func217,ntmps217
  go_wp2_with fail
  go_ret
  refine ⟨yes HL.out.symm,?_⟩
  repeat (first|exact Below.refl _ _|refine Below.alloc ?_ sm _)
 all_goals
  go_enter Tryz.func217,ntmps217;go_wp2_with fail;go_ret;refine ⟨yes (by simp [ymp]),?_⟩
  repeat (first|exact Below.refl _ _|refine Below.alloc ?_ sm _)
end
section
open Go.RowKit
theorem xan (h:ar op=0):1<=op/\op<=17:=by
 unfold ar at h;(repeat' split at h) <;> omega
theorem xal (h:ar op=1):18<=op/\op<=29:=by
 unfold ar at h;(repeat' split at h) <;> omega
theorem xam (h:ar op=2):30<=op/\op<=42:=by
 unfold ar at h;(repeat' split at h) <;> omega
theorem ar_three (h:ar op=3):op=43:=by
 unfold ar at h;(repeat' split at h) <;> omega
theorem zuq {t:Tm} (h:yuz kinds.length t=true):t.1=5\/t.1=12->0<=t.2/\t.2 < kinds.length:=by
 intro h5;unfold yuz at h;rw [if_neg om,if_pos h5] at h;simpa using h
theorem ymn {p:Nat} {t:Tm} {r:List Tm} (h:l.drop p=t::r):p < l.length/\l[p]?=some t/\l.drop (p+1)=r:=by
 have h1:p < l.length:=by
  rcases qbi p l.length with h1|h1
  .exact h1
  rw [qgx h1] at h;cases h
 rw [qby h1] at h;simp only [List.cons.injEq] at h;exact ⟨h1,by rw [qae h1,h.1],h.2⟩
def ReadRet (kinds:List Int) (bound:Bool) (E:Ex) (p:Nat) (w:World) (e:Ending) (w':World):Prop:=
 e=.returned (.tuple #[.int .i64 (ty kinds bound E),.int .i64 ((p+E.fl.length:Nat):Int)])/\Below w.heap.size w w'
def ylj (ev kv:Value) (l:List Tm) (kinds:List Int) (E:Ex):Prop:=
 ∀ (p:Nat) (r:List Tm) (bound:Bool) (w:World),l.drop p=E.fl++r->yfl w ev l->zcr .i64 w kv kinds ->
  Calls prog 168 #[.agg #[ev,kv],.int .i64 p,.bool bound] w (ReadRet kinds bound E p w)
set_option maxHeartbeats 1000000 in
theorem read_leaf (ev kv:Value) (l:List Tm) (kinds:List Int) (t:Tm) (hl:l.length<=1000) (h0:ar t.1=0) (ha:Hid (yuz kinds.length t=true)):ylj ev kv l kinds (.lf t):=by
 intro p r bound w hd ht hk;obtain ⟨a0,cap0,rfl,h1,h2,h3⟩:=ht.open;obtain ⟨hp,hpt,_⟩:=ymn hd;obtain ⟨g,o,rfl,hg,hc⟩:=h3 om;obtain ⟨c0,c1⟩:=hc p t hpt;obtain ⟨h11,h17⟩:=xan h0;have HT:=Lib.hid ht;have HK:=Lib.hid hk;have HR:Hid (ty kinds bound (.lf t)=if zgw t.1 && !bound then 0 else ymp kinds t):=rfl;have hz:(ar t.1 == 0)=true:=by rw [h0];rfl
 have hlen:Hid ((Ex.lf t).fl.length=1):=rfl;clear hc h3 hpt hd ht hk h0;obtain ⟨op,x⟩:=t;simp only at *;rcases qeh (zgw op) with hn|hn <;> cases bound
 all_goals
  go_enter Tryz.func168,ntmps168;go_wp2_with (first|(go_at_call 211;refine (yjp _ _).mono ?_;rintro e w' ⟨rfl,rfl⟩)|(go_at_call 216;refine (near_any _ _).mono ?_;rintro e w' ⟨rfl,rfl⟩)|(go_at_call 217;refine (leaf_any _ _ kinds op x _ (by exact zcr.below HK.out (by repeat (first|exact Below.refl _ _|refine Below.alloc ?_ sm _))) h11 h17 (zuq ha.out)).mono ?_;rintro e w1 ⟨rfl,hb1⟩));go_ret2;refine ⟨by rw [HR.out,hlen.out];simp [hn],?_⟩
  first|exact Below.trans (by repeat (first|exact Below.refl _ _|refine Below.alloc ?_ sm _)) (hb1.mono so)|(repeat (first|exact Below.refl _ _|refine Below.alloc ?_ sm _))
set_option maxHeartbeats 2000000 in
theorem read_un (ev kv:Value) (l:List Tm) (kinds:List Int) (t:Tm) (A:Ex) (hl:l.length<=1000) (h0:ar t.1=1) (ihA:ylj ev kv l kinds A):ylj ev kv l kinds (.un t A):=by
 intro p r bound w hd ht hk;obtain ⟨a0,cap0,rfl,h1,h2,h3⟩:=ht.open;simp only [Ex.fl,qax] at hd;obtain ⟨hp,hpt,hd1⟩:=ymn hd;obtain ⟨g,o,rfl,hg,hc⟩:=h3 om;obtain ⟨c0,c1⟩:=hc p t hpt;obtain ⟨h18,h29⟩:=xal h0;have HT:=Lib.hid ht;have HK:=Lib.hid hk;have HD1:=Lib.hid hd1;have HIA:=Lib.hid ihA;have HR:Hid (ty kinds bound (.un t A)=zqe t.1 (ty kinds (bound || ykg t.1) A) 0 0):=by unfold zqe;rw [if_pos h0];rfl
 have hz:(ar t.1 == 0)=false:=by rw [h0];rfl
 have hlen:=Lib.hid (show (Ex.un t A).fl.length=1+A.fl.length by simp [Ex.fl];omega);have hpl:p+1<=1000:=by omega
 clear hc h3 hpt hd ht hk hd1 ihA;obtain ⟨op,x⟩:=t;simp only at *;rcases qeh (ykg op) with hn|hn <;> cases bound
 all_goals
  simp only [hn,Bool.or_true,qdv] at HR;go_enter Tryz.func168,ntmps168;go_wp2_with (first|(go_at_call 211;refine (yjp _ _).mono ?_;rintro e w' ⟨rfl,rfl⟩)|(go_at_call 215;refine (ykl _ _).mono ?_;rintro e w' ⟨rfl,rfl⟩));refine wp_loop_rounds 2 ?_;rw [rounds_succ];go_wp2_with fail;rw [show ((p:Int)+1)=((p+1:Nat):Int) by omega];refine (HIA.out (p+1) r _ _ HD1.out (by exact yfl.below HT.out (by repeat (first|exact Below.refl _ _|refine Below.alloc ?_ (by first|(simp;done)|(simp;omega)) _))) (by exact zcr.below HK.out (by repeat (first|exact Below.refl _ _|refine Below.alloc ?_ (by first|(simp;done)|(simp;omega)) _)))).mono ?_;rintro e w1 ⟨rfl,hb1⟩;obtain ⟨hcl,hfz⟩:=zyv hb1;have hsz:=hb1.size;simp at hsz;generalize ty kinds _ A=ta at *;go_wp2_with fail;rw [rounds_succ];go_wp2_with (first|(go_at_call 218;refine (yzi _ _ _ _ _ om om).mono ?_;rintro e w2 ⟨rfl,hb2⟩));have B1:Below w.heap.size w w1:=Below.trans (by repeat (first|exact Below.refl _ _|refine Below.alloc ?_ (by first|(simp;done)|(simp;omega)) _)) (hb1.mono so);have B2:=B1.size;go_ret2;refine ⟨by rw [HR.out,hlen.out];simp;omega,Below.trans (B1.setCell ?_ _) (hb2.mono ?_)⟩
  .simp;omega
  simp;omega
set_option maxHeartbeats 4000000 in
theorem read_bi (ev kv:Value) (l:List Tm) (kinds:List Int) (t:Tm) (A B:Ex) (hl:l.length<=1000) (h0:ar t.1=2) (ihA:ylj ev kv l kinds A) (ihB:ylj ev kv l kinds B):ylj ev kv l kinds (.bi t A B):=by
 intro p r bound w hd ht hk;obtain ⟨a0,cap0,rfl,h1,h2,h3⟩:=ht.open;simp only [Ex.fl,qax,qbb] at hd;obtain ⟨hp,hpt,hd1⟩:=ymn hd;obtain ⟨g,o,rfl,hg,hc⟩:=h3 om;obtain ⟨c0,c1⟩:=hc p t hpt;have h18:18<=t.1/\t.1<=43:=by have:=xam h0;omega
 have h18a:=h18.1;have h18b:=h18.2;have HT:=Lib.hid ht;have HK:=Lib.hid hk;have HDA:=Lib.hid hd1;have hdB:l.drop (p+1+A.fl.length)=B.fl++r:=by rw [<- qfq,hd1,qfb (qbh _),qcb,qcn]
 have HDB:=Lib.hid hdB;have HIA:=Lib.hid ihA;have HIB:=Lib.hid ihB;have HR:Hid (ty kinds bound (.bi t A B)=zqe t.1 (ty kinds bound A) (ty kinds bound B) 0):=by unfold zqe;rw [if_neg om,if_pos h0];rfl
 have hz:(ar t.1 == 0)=false:=by rw [h0];rfl
 have hn:ykg t.1=false:=ytg om;have hlen:=Lib.hid (show (Ex.bi t A B).fl.length=1+A.fl.length+B.fl.length by simp [Ex.fl];omega);have hll:Hid (l.length - p=1+A.fl.length+B.fl.length+r.length):=by
  have:=congrArg List.length hd;rw [qcw] at this;simp at this;unfold Hid;omega
 clear hc h3 hpt hd ht hk hd1 ihA ihB hdB h18;obtain ⟨op,x⟩:=t;simp only at *;cases bound
 all_goals
  go_enter Tryz.func168,ntmps168;go_wp2_with (first|(go_at_call 211;refine (yjp _ _).mono ?_;rintro e w' ⟨rfl,rfl⟩)|(go_at_call 215;refine (ykl _ _).mono ?_;rintro e w' ⟨rfl,rfl⟩));refine wp_loop_rounds 3 ?_;rw [rounds_succ];go_wp2_with fail;rw [show ((p:Int)+1)=((p+1:Nat):Int) by omega];refine (HIA.out (p+1) _ _ _ HDA.out (by exact yfl.below HT.out (by repeat (first|exact Below.refl _ _|refine Below.alloc ?_ (by first|(simp;done)|(simp;omega)) _))) (by exact zcr.below HK.out (by repeat (first|exact Below.refl _ _|refine Below.alloc ?_ (by first|(simp;done)|(simp;omega)) _)))).mono ?_;rintro e w1 ⟨rfl,hb1⟩;obtain ⟨hcl1,hfz1⟩:=zyv hb1;have hsz1:=hb1.size;simp at hsz1;have B1:Below w.heap.size w w1:=Below.trans (by repeat (first|exact Below.refl _ _|refine Below.alloc ?_ (by first|(simp;done)|(simp;omega)) _)) (hb1.mono so);have B1s:=B1.size;have z1a:w.heap.size < w1.heap.size:=by omega
  have z1b:w.heap.size+1 < w1.heap.size:=by omega
  have z1c:w.heap.size+1+1 < w1.heap.size:=by omega
  generalize ty kinds _ A=ta at *;generalize hq1:p+1+A.fl.length=q1 at *;have HQ1:=Lib.hid hq1;clear hq1;have hqb2:q1<=1000:=by have e1:=HQ1.out;have e2:=hll.out;omega
  go_wp2_with fail;rw [rounds_succ];go_wp2_with fail;refine (HIB.out q1 _ _ _ HDB.out (by exact yfl.below HT.out (B1.setCell (by first|(simp;done)|(simp;omega)) _)) (by exact zcr.below HK.out (B1.setCell (by first|(simp;done)|(simp;omega)) _))).mono ?_;rintro e w2 ⟨rfl,hb2⟩;obtain ⟨hcl2,hfz2⟩:=zyv hb2;have hsz2:=hb2.size;simp at hsz2;have B2:Below w.heap.size w w2:=Below.trans (B1.setCell (by first|(simp;done)|(simp;omega)) _) (hb2.mono so);have B2s:=B2.size;have z2a:w.heap.size < w2.heap.size:=by omega
  have z2b:w.heap.size+1 < w2.heap.size:=by omega
  have z2c:w.heap.size+1+1 < w2.heap.size:=by omega
  generalize ty kinds _ B=tb at *;generalize hq2:q1+B.fl.length=q2 at *;have HQ2:=Lib.hid hq2;clear hq2;have hqe:q2<=1000:=by have e1:=HQ1.out;have e2:=hll.out;have e3:=HQ2.out;omega
  go_wp2_with fail;rw [rounds_succ];go_wp2_with (first|(go_at_call 218;refine (yzi _ _ _ _ _ om om).mono ?_;rintro e wz ⟨rfl,hbz⟩));go_ret2;refine ⟨?_,Below.trans (B2.setCell ?_ _) (hbz.mono ?_)⟩
  .rw [HR.out,hlen.out,show p+(1+A.fl.length+B.fl.length)=q2 by have e1:=HQ1.out;have e3:=HQ2.out;omega];rfl
  .first|(simp;done)|(simp;omega)
  simp;omega
set_option maxHeartbeats 4000000 in
theorem read_tr (ev kv:Value) (l:List Tm) (kinds:List Int) (t:Tm) (A B C:Ex) (hl:l.length<=1000) (h0:ar t.1=3) (ihA:ylj ev kv l kinds A) (ihB:ylj ev kv l kinds B) (ihC:ylj ev kv l kinds C):ylj ev kv l kinds (.tr t A B C):=by
 intro p r bound w hd ht hk;obtain ⟨a0,cap0,rfl,h1,h2,h3⟩:=ht.open;simp only [Ex.fl,qax,qbb] at hd;obtain ⟨hp,hpt,hd1⟩:=ymn hd;obtain ⟨g,o,rfl,hg,hc⟩:=h3 om;obtain ⟨c0,c1⟩:=hc p t hpt;have h18:18<=t.1/\t.1<=43:=by have:=ar_three h0;omega
 have h18a:=h18.1;have h18b:=h18.2;have HT:=Lib.hid ht;have HK:=Lib.hid hk;have HDA:=Lib.hid hd1;have hdB:l.drop (p+1+A.fl.length)=B.fl++(C.fl++r):=by rw [<- qfq,hd1,qfb (qbh _),qcb,qcn]
 have HDB:=Lib.hid hdB;have hdC:l.drop (p+1+A.fl.length+B.fl.length)=C.fl++r:=by rw [<- qfq,hdB,qfb (qbh _),qcb,qcn]
 have HDC:=Lib.hid hdC;have HIA:=Lib.hid ihA;have HIB:=Lib.hid ihB;have HIC:=Lib.hid ihC;have HR:Hid (ty kinds bound (.tr t A B C)=zqe t.1 (ty kinds bound A) (ty kinds bound B) (ty kinds bound C)):=by unfold zqe;rw [if_neg om,if_neg om];rfl
 have hz:(ar t.1 == 0)=false:=by rw [h0];rfl
 have hn:ykg t.1=false:=ytg om;have hlen:=Lib.hid (show (Ex.tr t A B C).fl.length=1+A.fl.length+B.fl.length+C.fl.length by simp [Ex.fl];omega);have hll:Hid (l.length - p=1+A.fl.length+B.fl.length+C.fl.length+r.length):=by
  have:=congrArg List.length hd;rw [qcw] at this;simp at this;unfold Hid;omega
 clear hc h3 hpt hd ht hk hd1 ihA ihB ihC hdB hdC h18;obtain ⟨op,x⟩:=t;simp only at *;cases bound
 all_goals
  go_enter Tryz.func168,ntmps168;go_wp2_with (first|(go_at_call 211;refine (yjp _ _).mono ?_;rintro e w' ⟨rfl,rfl⟩)|(go_at_call 215;refine (ykl _ _).mono ?_;rintro e w' ⟨rfl,rfl⟩));refine wp_loop_rounds 4 ?_;rw [rounds_succ];go_wp2_with fail;rw [show ((p:Int)+1)=((p+1:Nat):Int) by omega];refine (HIA.out (p+1) _ _ _ HDA.out (by exact yfl.below HT.out (by repeat (first|exact Below.refl _ _|refine Below.alloc ?_ (by first|(simp;done)|(simp;omega)) _))) (by exact zcr.below HK.out (by repeat (first|exact Below.refl _ _|refine Below.alloc ?_ (by first|(simp;done)|(simp;omega)) _)))).mono ?_;rintro e w1 ⟨rfl,hb1⟩;obtain ⟨hcl1,hfz1⟩:=zyv hb1;have hsz1:=hb1.size;simp at hsz1;have B1:Below w.heap.size w w1:=Below.trans (by repeat (first|exact Below.refl _ _|refine Below.alloc ?_ (by first|(simp;done)|(simp;omega)) _)) (hb1.mono so);have B1s:=B1.size;have z1a:w.heap.size < w1.heap.size:=by omega
  have z1b:w.heap.size+1 < w1.heap.size:=by omega
  have z1c:w.heap.size+1+1 < w1.heap.size:=by omega
  generalize ty kinds _ A=ta at *;generalize hq1:p+1+A.fl.length=q1 at *;have HQ1:=Lib.hid hq1;clear hq1;have hqb2:q1<=1000:=by have e1:=HQ1.out;have e2:=hll.out;omega
  go_wp2_with fail;rw [rounds_succ];go_wp2_with fail;refine (HIB.out q1 _ _ _ HDB.out (by exact yfl.below HT.out (B1.setCell (by first|(simp;done)|(simp;omega)) _)) (by exact zcr.below HK.out (B1.setCell (by first|(simp;done)|(simp;omega)) _))).mono ?_;rintro e w2 ⟨rfl,hb2⟩;obtain ⟨hcl2,hfz2⟩:=zyv hb2;have hsz2:=hb2.size;simp at hsz2;have B2:Below w.heap.size w w2:=Below.trans (B1.setCell (by first|(simp;done)|(simp;omega)) _) (hb2.mono so);have B2s:=B2.size;have z2a:w.heap.size < w2.heap.size:=by omega
  have z2b:w.heap.size+1 < w2.heap.size:=by omega
  have z2c:w.heap.size+1+1 < w2.heap.size:=by omega
  generalize ty kinds _ B=tb at *;generalize hq2:q1+B.fl.length=q2 at *;have HQ2:=Lib.hid hq2;clear hq2;have hqb3:q2<=1000:=by have e1:=HQ1.out;have e2:=hll.out;have e3:=HQ2.out;omega
  go_wp2_with fail;rw [rounds_succ];go_wp2_with fail;refine (HIC.out q2 _ _ _ HDC.out (by exact yfl.below HT.out (B2.setCell (by first|(simp;done)|(simp;omega)) _)) (by exact zcr.below HK.out (B2.setCell (by first|(simp;done)|(simp;omega)) _))).mono ?_;rintro e w3 ⟨rfl,hb3⟩;obtain ⟨hcl3,hfz3⟩:=zyv hb3;have hsz3:=hb3.size;simp at hsz3;have B3:Below w.heap.size w w3:=Below.trans (B2.setCell (by first|(simp;done)|(simp;omega)) _) (hb3.mono so);have B3s:=B3.size;have z3a:w.heap.size < w3.heap.size:=by omega
  have z3b:w.heap.size+1 < w3.heap.size:=by omega
  have z3c:w.heap.size+1+1 < w3.heap.size:=by omega
  generalize ty kinds _ C=tc at *;generalize hq3:q2+C.fl.length=q3 at *;have HQ3:=Lib.hid hq3;clear hq3;have hqe:q3<=1000:=by have e1:=HQ1.out;have e2:=hll.out;have e3:=HQ2.out;have e4:=HQ3.out;omega
  go_wp2_with fail;rw [rounds_succ];go_wp2_with (first|(go_at_call 218;refine (yzi _ _ _ _ _ om om).mono ?_;rintro e wz ⟨rfl,hbz⟩));go_ret2;refine ⟨?_,Below.trans (B3.setCell ?_ _) (hbz.mono ?_)⟩
  .rw [HR.out,hlen.out,show p+(1+A.fl.length+B.fl.length+C.fl.length)=q3 by have e1:=HQ1.out;have e3:=HQ2.out;have e4:=HQ3.out;omega];rfl
  .first|(simp;done)|(simp;omega)
  simp;omega
theorem read_any (ev kv:Value) (l:List Tm) (kinds:List Int) (hl:l.length<=1000) (E:Ex):E.ok->(∀ t∈E.fl,yuz kinds.length t=true)->ylj ev kv l kinds E:=by
 induction E with
 | lf t=>intro h ha;exact read_leaf ev kv l kinds t hl h (ha t (by simp [Ex.fl]))
 | un t a iha=>intro h ha;exact read_un ev kv l kinds t a hl h.1 (iha h.2 fun t ht=>ha t (by simp [Ex.fl,ht]))
 | bi t a b iha ihb=>intro h ha;exact read_bi ev kv l kinds t a b hl h.1 (iha h.2.1 fun t ht=>ha t (by simp [Ex.fl,ht])) (ihb h.2.2 fun t ht=>ha t (by simp [Ex.fl,ht]))
 | tr t a b c iha ihb ihc=>intro h ha;exact read_tr ev kv l kinds t a b c hl h.1 (iha h.2.1 fun t ht=>ha t (by simp [Ex.fl,ht])) (ihb h.2.2.1 fun t ht=>ha t (by simp [Ex.fl,ht])) (ihc h.2.2.2 fun t ht=>ha t (by simp [Ex.fl,ht]))
end
section
open Go.RowKit
theorem zdm {q:Nat} {X:Ex} {r:List Tm} (h:l.drop q=X.fl++r):l.drop (q+X.fl.length)=r:=by
 rw [<- qfq,h,qfb (qbh _),qcb,qcn]
end
section
open Go.RowKit
theorem xjz (ev kv:Value) (l:List Tm) (kinds:List Int) (bound:Bool) (E:Ex) (w:World) (hl:l.length<=1000) (ho:Hid E.ok) (ha:Hid (∀ t∈l,yuz kinds.length t=true)) (hf:Hid (E.fl=l)) (ht:yfl w ev l) (hk:zcr .i64 w kv kinds) :
  Calls prog 168 #[.agg #[ev,kv],.int .i64 0,.bool bound] w fun e w'=>e=.returned (.tuple #[.int .i64 (ty kinds bound E),.int .i64 l.length])/\Below w.heap.size w w':=
 (read_any ev kv l kinds hl E ho.out (by rw [hf.out];exact ha.out) 0 [] bound w (by simp [hf.out]) ht hk).mono fun e w' ⟨he,hb⟩=>⟨by rw [he,qba,hf.out],hb⟩
theorem kindsB_bad (k:Nat) (hk:k < kinds.length) (h:yup kinds[k]=false):ygx kinds=false:=by
 unfold ygx;rw [qcd];exact ⟨kinds[k],qfs hk,by unfold yup at h;simp [h]⟩
theorem kindsB_step (k:Nat) (hk:k < kinds.length) (h:ygx (kinds.take k)=true) (hw:yup kinds[k]=true):ygx (kinds.take (k+1))=true:=by
 rw [qcq hk];unfold ygx at *;rw [qel,h];unfold yup at hw;simpa using hw
def xhv (l:List Tm) (kinds:List Int) (bound:Bool) (w:World) (e:Ending) (w':World):Prop:=
 e=.returned (.tuple #[.int .i64 (ofF l kinds bound).1,.int .i64 (ofF l kinds bound).2])/\Below w.heap.size w w'
theorem zjc {bound:Bool} {w':World} {a b:Int} (h:ofF l kinds bound=(a,b)) (hb:Below w.heap.size w w'):xhv l kinds bound w (.returned (.tuple #[.int .i64 a,.int .i64 b])) w':=by
 unfold xhv;rw [h];exact ⟨rfl,hb⟩
set_option maxHeartbeats 4000000 in
theorem of_any (ev kv:Value) (l:List Tm) (kinds:List Int) (bound:Bool) (w:World) (hl:l.length<=1000) (hv:Hid (yfl w ev l)) (hk:Hid (zcr .i64 w kv kinds)) :
  Calls prog 106 #[ev,kv,.bool bound] w (xhv l kinds bound w):=by
 obtain ⟨a0,cap0,rfl,i1,i2,i3,i4⟩:=hk.out.open;have HC:=Lib.hid i4;obtain ⟨a1,cap1,rfl,_,_,j3⟩:=hv.out.open;clear i3 i4 j3;by_cases h6:6 < kinds.length
 .have H:=Lib.hid (zwu l kinds bound h6);go_enter Tryz.func106,ntmps106;go_wp2_with fail;go_ret2;exact zjc H.out (Below.refl _ _)
 have b6:decide (6 < kinds.length)=false:=by simp;omega
 have b6':decide (6 < (kinds.length:Int))=false:=by simp;omega
 cases hval:ycm l kinds.length with
 | false=>
  have H:=Lib.hid (zfa l kinds bound hval);go_enter Tryz.func106,ntmps106;go_wp2_with fail;go_loop [9,18] (fun _ i=>∃ k:Nat,k<=kinds.length/\i=.int .i64 k) (fun _ i=>kinds.length - (intOf i).toNat);case atStart=>exact ⟨0,om,rfl⟩
  case round=>
   obtain ⟨k,hkl,rfl⟩:=hrel
   by_cases hlt:k < kinds.length
   .obtain ⟨g,o,rfl,hg,hc⟩:=HC.out om
    have c0:=hc k _ (qae hlt)
    clear hc
    rcases qeh (yup kinds[k]) with hw|hw
    .go_wp2_with (go_at_call 167;refine (ymu _ _).mono ?_;rintro e w1 ⟨rfl,rfl⟩)
     exact ⟨⟨k+1,om,by go_num⟩,by simp [intOf];omega⟩
    go_wp2_with (go_at_call 167;refine (ymu _ _).mono ?_;rintro e w1 ⟨rfl,rfl⟩)
    go_ret2
    exact zjc H.out (Below.refl _ _)
   go_wp2_with (go_at_call 105;refine (yxm _ l _ _ hl hv).mono ?_;rintro e w1 ⟨rfl,hb1⟩)
   go_ret2
   exact zjc H.out hb1
 | true=>
  obtain ⟨E,hp,ho,hf,hlen,harg,_,_⟩:=ypl hval;have HO:=Lib.hid ho;have HF:=Lib.hid hf;have HA:=Lib.hid (List.all_eq_true.1 harg);have HP:=Lib.hid hp;have HV:=Lib.hid hval;clear ho hf harg hp;go_enter Tryz.func106,ntmps106;go_wp2_with fail;go_loop [9,18] (fun _ i=>∃ k:Nat,k<=kinds.length/\i=.int .i64 k/\Hid (ygx (kinds.take k)=true)) (fun _ i=>kinds.length - (intOf i).toNat);case atStart=>exact ⟨0,om,rfl,rfl⟩
  case round=>
   obtain ⟨k,hkl,rfl,hall⟩:=hrel
   by_cases hlt:k < kinds.length
   .obtain ⟨g,o,rfl,hg,hc⟩:=HC.out om
    have c0:=hc k _ (qae hlt)
    clear hc
    rcases qeh (yup kinds[k]) with hw|hw
    .have HN:=Lib.hid (kindsB_step k hlt hall.out hw)
     go_wp2_with (go_at_call 167;refine (ymu _ _).mono ?_;rintro e w1 ⟨rfl,rfl⟩)
     exact ⟨⟨k+1,om,by go_num,HN⟩,by simp [intOf];omega⟩
    have HN:=Lib.hid (zpt l kinds bound (kindsB_bad k hlt hw))
    go_wp2_with (go_at_call 167;refine (ymu _ _).mono ?_;rintro e w1 ⟨rfl,rfl⟩)
    go_ret2
    exact zjc HN.out (Below.refl _ _)
   have hkk:=hall.out
   rw [qak om] at hkk
   have HN:=Lib.hid (xcr l kinds bound E h6 hkk HV.out HP.out)
   clear hkk
   by_cases hz:ty kinds bound E=0
   .have hz':(ty kinds bound E == 0)=true:=by simp [hz]
    have HZ:=Lib.hid hz
    clear hz
    go_wp2_with (go_at_call 105;refine (yxm _ l _ _ hl hv).mono ?_;rintro e w1 ⟨rfl,hb1⟩)
    refine (xjz _ _ l kinds bound E _ hl HO HA HF (by exact hv.out.below (hb1.alloc (by have:=hb1.size;omega) _)) (by exact hk.out.below (hb1.alloc (by have:=hb1.size;omega) _))).mono ?_
    rintro e w2 ⟨rfl,hb2⟩
    have hs1:=hb1.size
    go_wp2_with fail
    go_ret2
    exact zjc (by rw [HN.out,if_pos HZ.out]) ((hb1.alloc hs1 _).trans (hb2.mono so))
   have hz':(ty kinds bound E == 0)=false:=by simp [hz]
   go_wp2_with (go_at_call 105;refine (yxm _ l _ _ hl hv).mono ?_;rintro e w1 ⟨rfl,hb1⟩)
   refine (xjz _ _ l kinds bound E _ hl HO HA HF (by exact hv.out.below (hb1.alloc (by have:=hb1.size;omega) _)) (by exact hk.out.below (hb1.alloc (by have:=hb1.size;omega) _))).mono ?_
   rintro e w2 ⟨rfl,hb2⟩
   have hs1:=hb1.size
   go_wp2_with fail
   go_ret2
   exact zjc (by rw [HN.out,if_neg hz]) ((hb1.alloc hs1 _).trans (hb2.mono so))
end
set_option linter.unusedVariables false
section
open Go.RowKit
def ydr (n lo hi:Int):Bool:=decide (lo<=n) && decide (n<=hi)
def yxs (x:VarD):Bool:=
 yup x.kind && (if (x.kind != 1)=true then (x.lo == 0) && ((x.hi == 0) && ((x.perNode == 0) && (x.perID == 0))) else
  ydr x.lo 0 4096 && (ydr x.perNode 0 255 && (ydr x.perID 0 255 && (if ((x.perNode == 0) && (x.perID == 0))=true then ydr x.hi 0 4096 else ((x.perNode == 0) || (x.perID == 0)) && ydr x.hi (-4096) 4096))))
theorem kind_one (k:Int) (h:(k != 1)=false):yup k=true:=by
 simp at h;subst h;rfl
end
section
open Go.RowKit
def yqc:Bool->List UInt8->Nat
 | _,[]=>0
 | true,c::r=>if c=10 then 1+yqc false r else 1+yqc true r
 | false,c::r=>if c=32\/c=9\/c=10\/c=13 then 1+yqc false r else if c=35 then 1+yqc true r else 0
def ybc (s:ByteArray) (k:Nat):List UInt8:=s.data.toList.drop k
def zjl (s:ByteArray) (b:Bool) (a:Nat):Nat:=a+yqc b (ybc s a)
theorem ymm (s:ByteArray) (k:Nat) (h:k < s.size):ybc s k=s[k]::ybc s (k+1):=by
 unfold ybc;rw [qby (by simpa using h)];rfl
theorem bytesFrom_ge (s:ByteArray) (k:Nat) (h:s.size<=k):ybc s k=[]:=by
 unfold ybc;exact qgx (by simpa using h)
theorem bytesFrom_drop (s:ByteArray) (k n:Nat):(ybc s k).drop n=ybc s (k+n):=by
 unfold ybc;rw [qfq]
theorem ykc (s:ByteArray) (k:Nat):(ybc s k).length=s.size - k:=by
 unfold ybc;simp
theorem skipL_le (b:Bool) (r:List UInt8):yqc b r<=r.length:=by
 induction r generalizing b with
 | nil=>cases b <;> simp [yqc]
 | cons c r ih=>
  have h1:=ih true;have h2:=ih false;cases b <;> simp only [yqc,qaj] <;> repeat' split
  all_goals omega
theorem skipTo_bd (s:ByteArray) (b:Bool) (k:Nat) (h:k<=s.size):k<=zjl s b k/\zjl s b k<=s.size:=by
 have:=skipL_le b (ybc s k);rw [ykc] at this;unfold zjl;omega
def yke (c:UInt8):Bool:=(97<=c && c<=122) || (65<=c && c<=90)
def zah (c:UInt8):Bool:=48<=c && c<=57
def yqd (c:UInt8):Bool:=yke c || zah c || c == 95
def xkf (p:UInt8->Bool):List UInt8->Nat
 | []=>0
 | c::r=>if p c then 1+xkf p r else 0
def dig (v:Nat) (c:UInt8):Nat:=10 * v+(c.toNat - 48)
def xmq (v:Nat) (ds:List UInt8):Nat:=ds.foldl dig v
def numRes (ds:List UInt8):Option Nat:=if (1 < ds.length/\ds.head?=some 48)\/1073741824 < xmq 0 ds then none else some (xmq 0 ds)
theorem take_snoc (s:ByteArray) (k:Nat) (h:k < s.size):(ybc s 0).take (k+1)=(ybc s 0).take k++[s[k]]:=by
 unfold ybc;rw [qfh,qcq (by simpa using h)];rfl
theorem take_all (s:ByteArray) (k:Nat) (h:s.size<=k):(ybc s 0).take k=ybc s 0:=by
 rw [qak];rw [ykc];omega
theorem mem_bytes (s:ByteArray) (k:Nat) (h:k < s.size):s[k]∈ybc s 0:=by
 unfold ybc;rw [qfh,Array.mem_toList_iff];exact Array.getElem_mem (xs:=s.data) h
def sign2B (a b:UInt8):Bool:=
 (a == 46 && b == 46) || (a == 45 && b == 62) || (a == 58 && b == 61) || (a == 38 && b == 38) || (a == 124 && b == 124) || (a == 61 && b == 61) || (a == 33 && b == 61) || (a == 60 && b == 61) || (a == 62 && b == 61)
def xgu (a:UInt8):Bool:=[59,58,44,40,41,46,63,60,62,43,45,42,47,37,33].contains a
def xkh:List UInt8->Nat
 | a::b::_=>if sign2B a b then 2 else if xgu a then 1 else 0
 | [a]=>if xgu a then 1 else 0
 | []=>0
structure Tok where
 kind:Nat
 from_:Nat
 to:Nat
 num:Nat
def xmd (r:List UInt8):Except Nat (Nat × Nat × Nat):=
 match r with
 | []=>.error 4
 | c::_=>
  if yke c then (if 24 < xkf yqd r then .error 5 else .ok (1,xkf yqd r,0))
  else if zah c then (match numRes (r.take (xkf zah r)) with|none=>.error 2|some v=>.ok (2,xkf zah r,v))
  else if xkh r=0 then .error 4 else .ok (3,xkh r,0)
theorem zob (s:ByteArray) (p:Nat):(ybc s p).drop (yqc false (ybc s p))=ybc s (zjl s false p):=by
 rw [bytesFrom_drop];rfl
theorem bytesFrom_nil_iff (s:ByteArray) (k:Nat):ybc s k=[]<->s.size<=k:=by
 rw [<- List.length_eq_zero_iff,ykc];omega
end
set_option maxHeartbeats 8000000
section
open Go.RowKit
def xkb:List (List UInt8):=[[112,114,111,103,114,97,109],[118,97,114],[114,117,108,101],[98,111,111,108],[112,111,114,116],[116,114,117,101],[102,97,108,115,101],[110,111,110,101],[110],[105,100,115],[105,100],[100,101,103],[114,111,111,116],[113],[119,101,105,103,104,116],[98,97,99,107],[97,108,108],[115,111,109,101],[99,111,117,110,116],[102,105,114,115,116],[109,105,110],[109,97,120],[115,117,109],[109,101,120],[115,101,99,111,110,100],[104,101,97,100]]
def xfk (s:ByteArray):Bool:=xkb.any (fun x=>s.toList == x)
theorem resB_yes (s:ByteArray) (x:List UInt8) (hx:xkb.contains x=true) (h:(s.toList == x)=true):xfk s=true:=by
 unfold xfk;rw [List.any_eq_true];exact ⟨x,qhg.1 hx,h⟩
set_option maxHeartbeats 4000000 in
def ykp (s:ByteArray):Bool:=
 match ybc s 0 with
 | []=>false
 | c::r=>decide (s.size<=24) && (yke c && ((c::r).all yqd && !xfk s))
theorem zeu (s:ByteArray) (h:s.size=0):ykp s=false:=by
 unfold ykp;rw [bytesFrom_ge s 0 om]
theorem ziw (s:ByteArray) (h:24 < s.size):ykp s=false:=by
 unfold ykp;rw [ymm s 0 om];simp;omega
theorem zap (s:ByteArray) (h:0 < s.size) (hl:yke s[0]=false):ykp s=false:=by
 unfold ykp;rw [ymm s 0 h];simp [hl]
theorem ziy (s:ByteArray) (k:Nat) (h:k < s.size) (hw:yqd s[k]=false):ykp s=false:=by
 have hm:=mem_bytes s k h;unfold ykp;cases hb:ybc s 0 with
 | nil=>rfl
 | cons c r=>
  rw [hb] at hm;have:(c::r).all yqd=false:=by
   rw [qcd];exact ⟨s[k],hm,by simp [hw]⟩
  simp only [this,qdx,qch]
theorem zix (s:ByteArray) (h:0 < s.size) (h24:s.size<=24) (hl:yke s[0]=true) (ha:((ybc s 0).take s.size).all yqd=true):ykp s=!xfk s:=by
 rw [take_all s _ (qbh _)] at ha;unfold ykp;rw [ymm s 0 h] at *;simp only [ha,hl,h24,decide_true,qfv]
theorem zuk (s:ByteArray) (k:Nat) (h:k < s.size) (ha:((ybc s 0).take k).all yqd=true) (hw:yqd s[k]=true):((ybc s 0).take (k+1)).all yqd=true:=by
 rw [take_snoc s k h,qel,ha];simp [hw]
end
section
open Go.RowKit
def zzf (s:ByteArray):List UInt8:=s.data.toList
theorem zwo (a b:ByteArray):(a.toList == b.toList)=decide (zzf a=zzf b):=by
 rw [ByteArray.toList_eq,ByteArray.toList_eq,qbq];simp [zzf]
theorem zln {a b:ByteArray} (h:zzf a=zzf b):a=b:=by
 cases a;cases b;simp only [zzf] at h;congr;exact Array.toList_inj.1 h
def ygj (l:List ByteArray):Bool:=l.all ykp && decide ((l.map zzf).Nodup)
theorem names_bad {l:List ByteArray} (k:Nat) (hk:k < l.length) (h:ykp l[k]=false):ygj l=false:=by
 unfold ygj;have:l.all ykp=false:=by rw [qcd];exact ⟨l[k],qfs hk,by simp [h]⟩
 rw [this];rfl
theorem names_twice {l:List ByteArray} (j k:Nat) (hjk:j < k) (hk:k < l.length) (h:zzf (l[j]'om)=zzf l[k]):ygj l=false:=by
 unfold ygj;have:¬ (l.map zzf).Nodup:=by
  intro hn;have hn':=qdc.1 hn j k so (by simpa using hk) hjk;apply hn';simp [h]
 simp [this]
theorem names_step {l:List ByteArray} (k:Nat) (hk:k < l.length) (h:ygj (l.take k)=true) (h1:ykp l[k]=true) (h2:zzf l[k] ∉ (l.take k).map zzf):ygj (l.take (k+1))=true:=by
 unfold ygj at *;rw [qac,decide_eq_true_eq] at *;rw [qcq hk,qel,h.1,qbu];refine ⟨by simpa using h1,?_⟩;rw [qfm];refine ⟨h.2,sm,?_⟩;intro a ha b hb;simp only [List.map_singleton,qaq] at hb;subst hb;intro hab;exact h2 (hab ▸ ha)
def ygz (p:ProgD):Bool:=ykp p.name && (ygj (p.vars.map (·.name)) && ygj (p.rules.map (·.name)))
def yfv (r:RuleD) (n:Int):Bool:=
 decide (1<=r.sets.length) && (decide (r.sets.length<=6) && (ycm r.guard n && (r.sets.all (fun s=>ydr s.var 0 (n - 1) && ycm s.val n) && decide ((r.sets.map (·.var)).Nodup))))
def yki (r:RuleD) (kinds:List Int):Bool:=((ofF r.guard kinds false).1 == 2) && r.sets.all (fun s=>(ofF s.val kinds false).1 == kinds.getD s.var.toNat 0)
def ybe (p:ProgD):List Int:=p.vars.map (·.kind)
def yed (p:ProgD):Int:=
 if p.vars.length=0\/6 < p.vars.length\/12 < p.rules.length then 3 else if ygz p=false then 5 else if p.vars.all yxs=false then 2 else
 if p.rules.all (yfv · p.vars.length)=false then 7 else if p.rules.all (yki · (ybe p))=false then 6 else 0
end
section
open Go.RowKit Go.Maps
def znd (P:Program) (k e:TypeId) (w:World) (b n:Nat) (S:List Lit):Prop:=
 ∃ D:DataW Unit,w.ownsMap P k (plainElem P e) b n D/\∀ kl,(kl∈S->D.atKey kl (.lit (.bool false))=.lit (.bool true))/\(kl ∉ S->D.atKey kl (.lit (.bool false))=.lit (.bool false))
section
variable {P:Program} {k e t:TypeId} {w w':World} {b n:Nat} {S:List Lit}
theorem znd.lt (h:znd P k e w b n S):b < w.heap.size:=by obtain ⟨D,h,_⟩:=h;exact h.lt
theorem znd.below (h:znd P k e w b n S) (hb:Below w.heap.size w w'):znd P k e w' b n S:=by
 have hl:=h.lt;obtain ⟨D,⟨es,clock,h1,h2⟩,h3⟩:=h;exact ⟨D,⟨es,clock,(hb.block b hl).trans h1,h2⟩,h3⟩
end
end
section
open Go.RowKit Go.Maps
theorem ypf:Keyed prog 9:=string_keyed underlying9
theorem zmq (w:World):(zeroValue 4).run prog w=.ok (.bool false) w:=by kernel_rfl
theorem yog (s:ByteArray) (h:s.size<=9223372036854775807):keyOf prog 9 (.string s)=some (.string (zzf s)):=WideMaps.keyOf_string_mk underlying9 (by unfold maxLen;omega)
end
section
open Go.RowKit Go.Maps
def zrp (n:Int) (s:SetD):Bool:=ydr s.var 0 (n - 1) && ycm s.val n
def yxb (l:List SetD) (n:Int):Bool:=l.all (zrp n) && decide ((l.map (·.var)).Nodup)
theorem ykx (r:RuleD) (n:Int):yfv r n=(decide (1<=r.sets.length) && (decide (r.sets.length<=6) && (ycm r.guard n && yxb r.sets n))):=rfl
theorem sets_bad {l:List SetD} {n:Int} (k:Nat) (hk:k < l.length) (h:zrp n l[k]=false):yxb l n=false:=by
 unfold yxb;have:l.all (zrp n)=false:=by rw [qcd];exact ⟨l[k],qfs hk,by simp [h]⟩
 rw [this];rfl
theorem zjk {l:List SetD} {n:Int} (j k:Nat) (hjk:j < k) (hk:k < l.length) (h:(l[j]'om).var=l[k].var):yxb l n=false:=by
 unfold yxb;have:¬ (l.map (·.var)).Nodup:=by
  intro hn;have hn':=qdc.1 hn j k so (by simpa using hk) hjk;apply hn';simp [h]
 simp [this]
theorem zwb:Keyed prog 3:=int_keyed underlying3
theorem wf_of_in {x:Int} (h:yxp x):(Lit.int .i64 x).wf=true:=by
 obtain ⟨h1,h2⟩:=h;have e1:IntKind.i64.min=-9223372036854775808:=by decide
 have e2:IntKind.i64.max=9223372036854775807:=by decide
 simp only [Lit.wf,qac,decide_eq_true_eq];omega
theorem xbv (x:Int) (h:yxp x):keyOf prog 3 (.int .i64 x)=some (.int .i64 x):=keyOf_int_mk underlying3 (wf_of_in h)
def zna (r:RuleD):Prop:=r.guard.length<=1000/\r.sets.length<=1000/\∀ s∈r.sets,s.val.length<=1000
end
section
open Go.RowKit Go.Maps
theorem ofF_ty {bound:Bool} (h6:¬ 6 < kinds.length) (hk:ygx kinds=true) (hv:ycm l kinds.length=true):∃ E,yfw l=some E/\E.ok/\E.fl=l/\(∀ t∈l,yuz kinds.length t=true)/\(ofF l kinds bound).1=ty kinds bound E:=by
 obtain ⟨E,hp,ho,hf,_,ha,_,_⟩:=ypl hv;refine ⟨E,hp,ho,hf,List.all_eq_true.1 ha,?_⟩;rw [xcr l kinds bound E h6 hk hv hp];split
 .rename_i h;rw [h]
 rfl
end
section
open Go.RowKit Go.Maps
def zcy (p:ProgD):Prop:=p.vars.length<=1000/\p.rules.length<=1000/\∀ r∈p.rules,zna r
theorem yue (h:p.vars.length=0\/6 < p.vars.length\/12 < p.rules.length):yed p=3:=by unfold yed;rw [if_pos h]
theorem yyk (h:¬ (p.vars.length=0\/6 < p.vars.length\/12 < p.rules.length)) (h1:ygz p=false):yed p=5:=by unfold yed;rw [if_neg h,if_pos h1]
theorem zdh (h:¬ (p.vars.length=0\/6 < p.vars.length\/12 < p.rules.length)) (h1:ygz p=true) (h2:p.vars.all yxs=false):yed p=2:=by unfold yed;rw [if_neg h,if_neg (by simp [h1]),if_pos h2]
theorem zhm (h:¬ (p.vars.length=0\/6 < p.vars.length\/12 < p.rules.length)) (h1:ygz p=true) (h2:p.vars.all yxs=true) (h3:p.rules.all (yfv · p.vars.length)=false):yed p=7:=by unfold yed;rw [if_neg h,if_neg (by simp [h1]),if_neg (by simp [h2]),if_pos h3]
theorem zhn (h:¬ (p.vars.length=0\/6 < p.vars.length\/12 < p.rules.length)) (h1:ygz p=true) (h2:p.vars.all yxs=true) (h3:p.rules.all (yfv · p.vars.length)=true) (h4:p.rules.all (yki · (ybe p))=false):yed p=6:=by unfold yed;rw [if_neg h,if_neg (by simp [h1]),if_neg (by simp [h2]),if_neg (by simp [h3]),if_pos h4]
theorem zkg (h:¬ (p.vars.length=0\/6 < p.vars.length\/12 < p.rules.length)) (h1:ygz p=true) (h2:p.vars.all yxs=true) (h3:p.rules.all (yfv · p.vars.length)=true) (h4:p.rules.all (yki · (ybe p))=true):yed p=0:=by unfold yed;rw [if_neg h,if_neg (by simp [h1]),if_neg (by simp [h2]),if_neg (by simp [h3]),if_neg (by simp [h4])]
theorem zdz {r:RuleD} (h:yfv r n=true):∀ s∈r.sets,0<=s.var/\s.var < n:=by
 rw [ykx] at h;simp only [qac,yxb,List.all_eq_true,zrp,ydr,decide_eq_true_eq] at h;intro s hs;have:=(h.2.2.2.1 s hs).1;omega
theorem kinds_of_num (h:p.vars.all yxs=true):ygx (ybe p)=true:=by
 unfold ygx ybe;rw [List.all_map,List.all_eq_true];intro x hx;have:=List.all_eq_true.1 h x hx;unfold yxs at this;rw [qac] at this;exact this.1
end
section
def ybz (l:List Int):Int:=l.foldl max 0
theorem yjk (l:List Int) (k:Nat) (x:Int) (h:l[k]?=some x):ybz (l.take (k+1))=if x > ybz (l.take k) then x else ybz (l.take k):=by
 unfold ybz;rw [qga,h];simp only [Option.toList_some,qcu,qdf,qhu];omega
theorem zaj {l:List Int} (h:∀ x∈l,x<=255):0<=ybz l/\ybz l<=255:=by
 unfold ybz;have:∀ (l:List Int) (a:Int),(∀ x∈l,x<=255)->0<=a->a<=255->0<=l.foldl max a/\l.foldl max a<=255:=by
  intro l;induction l with
  | nil=>intro a _ h1 h2;exact ⟨h1,h2⟩
  | cons y l ih=>
   intro a hl h1 h2;have:=hl y sm;exact ih (max a y) (fun x hx=>hl x (by simp [hx])) om om
 exact this l 0 h om om
instance:Inhabited VarD:=⟨⟨ByteArray.empty,0,0,0,0,0⟩⟩
theorem yif (h:yxs x=true):(x.kind=1\/x.kind=2\/x.kind=3)/\0<=x.lo/\x.lo<=4096/\-4096<=x.hi/\x.hi<=4096/\0<=x.perNode/\x.perNode<=255/\0<=x.perID/\x.perID<=255:=by
 unfold yxs at h;rw [qac] at h;obtain ⟨h1,h2⟩:=h;have hk:x.kind=1\/x.kind=2\/x.kind=3:=by simp [yup] at h1;omega
 refine ⟨hk,?_⟩;split at h2
 .simp at h2;omega
 simp only [ydr,qac,decide_eq_true_eq] at h2;obtain ⟨g1,g2,g3,g4⟩:=h2;split at g4 <;> simp at g4 <;> omega
theorem ycp (h:yed p=0):1<=p.vars.length/\p.vars.length<=6/\p.rules.length<=12/\∀ x∈p.vars,yxs x=true:=by
 by_cases h1:p.vars.length=0\/6 < p.vars.length\/12 < p.rules.length
 .rw [yue h1] at h;omega
 by_cases h2:ygz p=true
 .by_cases h3:p.vars.all yxs=true
  .exact ⟨om,om,om,fun x hx=>List.all_eq_true.1 h3 x hx⟩
  rw [zdh h1 h2 (by simpa using h3)] at h;omega
 rw [yyk h1 (by simpa using h2)] at h;omega
def yap (x:VarD) (g:GraphD) (deg:Int):Int × Int:=
 if x.kind=2 then (0,1) else if x.kind=3 then (-1,deg - 1) else (x.lo,x.hi+x.perNode * g.ports.length+x.perID * ybz g.ids)
def xez (g:GraphD) (v:Int):Int:=(g.ports.getD v.toNat []).length
def xiq (p:ProgD) (g:GraphD) (v x:Int):Bool:=decide (0<=v) && decide (v < g.ports.length) && (decide (0<=x) && decide (x < p.vars.length))
theorem yxj (p:ProgD) (g:GraphD) (v x:Int):xiq p g v x=true<->0<=v/\v < g.ports.length/\0<=x/\x < p.vars.length:=by unfold xiq;simp [and_assoc]
def zgq (g:GraphD) (x:VarD):Bool:=!(x.kind == 1) || (decide ((yap x g 0).1<=(yap x g 0).2) && decide ((yap x g 0).2 - (yap x g 0).1+1<=4096))
def ycn (p:ProgD) (g:GraphD):Int:=if yed p=0 then if ych g=true then if p.vars.all (zgq g)=true then 0 else 9 else 1 else 8
def yiq (kind lo hi value:Int):Int:=if lo<=value/\value<=hi then value else if kind=3 then -1 else if value < lo then lo else hi
def ygv (g:GraphD) (deg:Int) (n:Int) (x:VarD):Int:=if (1073741824:Int) < n * ((yap x g deg).2 - (yap x g deg).1+1) then 1073741824 else n * ((yap x g deg).2 - (yap x g deg).1+1)
def zzl (p:ProgD) (g:GraphD) (v:Int):Int:=if ycn p g=0 then if 0<=v/\v < g.ports.length then p.vars.foldl (ygv g (xez g v)) 1 else 0 else 0
theorem ycv {g:GraphD}:ycn p g=0<->yed p=0/\ych g=true/\∀ x∈p.vars,zgq g x=true:=by
 unfold ycn;constructor
 .intro h;split at h
  .split at h
   .split at h
    .rename_i h1 h2 h3;exact ⟨h1,h2,List.all_eq_true.1 h3⟩
    omega
   omega
  omega
 rintro ⟨h1,h2,h3⟩;rw [if_pos h1,if_pos h2,if_pos (List.all_eq_true.2 h3)]
theorem valid_greatest {g:GraphD} (h:ych g=true):0<=ybz g.ids/\ybz g.ids<=255:=zaj fun x hx=>((yba h).2.2.2.1 x hx).2
theorem xci {a b A B:Int} (h0:0<=a) (h1:a<=A) (h2:0<=b) (h3:b<=B):0<=a * b/\a * b<=A * B:=⟨qgs h0 h2,qge h1 h3 h2 om⟩
theorem zml {g:GraphD} (hx:yxs x=true) (hg:ych g=true):0<=x.perNode * (g.ports.length:Int)/\x.perNode * (g.ports.length:Int)<=255 * 24/\0<=x.perID * ybz g.ids/\x.perID * ybz g.ids<=255 * 255:=by
 have h1:=yif hx;have h2:=yba hg;have h3:=valid_greatest hg;have m1:=xci (a:=x.perNode) (b:=(g.ports.length:Int)) (A:=255) (B:=24) om om om om;have m2:=xci (a:=x.perID) (b:=ybz g.ids) (A:=255) (B:=255) om om om om;omega
theorem yvl {g:GraphD} {deg:Int} (hx:yxs x=true) (hg:ych g=true) (hd:0<=deg/\deg<=30):-1<=(yap x g deg).1/\(yap x g deg).1<=4096/\-4096<=(yap x g deg).2/\(yap x g deg).2<=100000:=by
 have h1:=yif hx;have h2:=zml hx hg;unfold yap;split
 .simp
 split
 .simp only;omega
 simp only;omega
theorem zvn {g:GraphD} {deg:Int} (hf:zgq g x=true) (hx:yxs x=true) (hd:0<=deg/\deg<=30):(yap x g deg).1<=(yap x g deg).2+(if x.kind=3 then 1 else 0)/\(yap x g deg).2 - (yap x g deg).1+1<=4096:=by
 have h1:=yif hx;unfold zgq at hf;unfold yap at hf ⊢;rcases h1.1 with hk|hk|hk
 .simp [hk] at hf ⊢;omega
 .simp [hk]
 simp [hk];omega
theorem xds {g:GraphD} {deg:Int} (hd:0<=deg/\deg<=30):∀ (l:List VarD) (n:Int),(∀ x∈l,yxs x=true)->(∀ x∈l,zgq g x=true)->0<=n->n<=1073741824->0<=l.foldl (ygv g deg) n/\l.foldl (ygv g deg) n<=1073741824
 | [],n,_,_,h1,h2=>⟨h1,h2⟩
 | x::l,n,hx,hf,h1,h2=>by
  have hb:=zvn (deg:=deg) (hf x sm) (hx x sm) hd;have hw:0<=(yap x g deg).2 - (yap x g deg).1+1:=by split at hb <;> omega
  have hm:0<=n * ((yap x g deg).2 - (yap x g deg).1+1):=qgs h1 hw;refine xds hd l _ (fun y hy=>hx y (by simp [hy])) (fun y hy=>hf y (by simp [hy])) ?_ ?_
  .unfold ygv;split <;> omega
  unfold ygv;split <;> omega
end
section
open Go.RowKit
theorem yon {f:α->List AV} {R:List Value->α->Prop} {l:List α} (h:Seq R size w v l) (hf:∀ x,(f x).length=size) (hfc:∀ x,∀ c∈f x,yea c=true) (hR:∀ x∈l,∀ cs,R cs x->ybm (okW w) w (fun _=>none) (f x) cs):Rel (okW w) w lv (.sl size (l.map f)) v:=by
 obtain ⟨xs,⟨a,cap,rfl,h1,h2,h3,h4,h5⟩,h6⟩:=h;have hget:∀ (i j:Nat) (row:List AV) (c:AV),(l.map f)[i]?=some row->row[j]?=some c->∃ x,l[i]?=some x/\row=f x/\∃ u,xs[i * size+j]?=some u/\Rel (okW w) w (fun _=>none) c u:=by
  intro i j row c hrow hc;rw [qah] at hrow;cases hx:l[i]? with
  | none=>simp [hx] at hrow
  | some x=>
   simp only [hx,qar,Option.some.injEq] at hrow;subst hrow;have hj:j < size:=by have:=(qaa.1 hc).1;rw [hf] at this;exact this
   have hi:=(qaa.1 hx).1;have hlt:i * size+j < xs.length:=by
    have:i * size+size<=l.length * size:=by rw [<- qdh];exact qej _ hi
    omega
   refine ⟨x,rfl,rfl,xs[i * size+j],qae hlt,?_⟩;refine (hR x (qab hx) _ (h6 i x hx)).2 j c _ hc ?_;rw [qbc,if_pos hj,qbx,qae hlt]
 have hgo:∃ g o,l≠[]->a=some ⟨g,o,none⟩/\g < w.heap.size/\∀ (j:Nat) (u:Value),xs[j]?=some u->w.cell? ⟨g,o+j,none⟩=some u:=by
  rcases h5 with h5|⟨g,o,q1,q2,q3⟩
  .exact ⟨0,0,fun h=>absurd (qaz h5) h⟩
  exact ⟨g,o,fun _=>⟨q1,q2,q3⟩⟩
 obtain ⟨g,o,hgo⟩:=hgo;have:=Rel.sl (ok:=okW w) (w:=w) (lv:=lv) (size:=size) (rows:=l.map f) a cap (fun i j=>xs.getD (i * size+j) undef) g o (by simpa using h1) h2 h4 (fun row hr=>by obtain ⟨x,_,rfl⟩:=qag.1 hr;exact hf x)
  (fun hne=>by have:=hgo (by intro h;simp [h] at hne);exact ⟨this.1,this.2.1⟩) (fun i j row c hrow hc=>by
   obtain ⟨x,hx,rfl,u,hu,hr⟩:=hget i j row c hrow hc
   have hne:l≠[]:=by intro h;simp [h] at hx
   refine ⟨?_,hfc x c (qab hc)⟩
   rw [qdd,(hgo hne).2.2 _ u hu]
   simp [hu]) (fun i j row c hrow hc=>by
   obtain ⟨x,hx,rfl,u,hu,hr⟩:=hget i j row c hrow hc
   have:xs.getD (i * size+j) undef=u:=by simp [hu]
   rw [this];exact hr)
 simpa using this
theorem flat_slice (hg:∀ x,(g x).length=size) {l:List α} {i:Nat} {x:α} (hx:l[i]?=some x):((l.flatMap g).drop (i * size)).take size=g x:=by
 apply qdm;intro j;rw [qbc];by_cases hj:j < size
 .rw [if_pos hj,qbx];have hu:(g x)[j]?=some ((g x)[j]'(by rw [hg];exact hj)):=qae _;rw [hu];exact ykn g size hg l i j x _ hx hu
 rw [if_neg hj,qcj (by rw [hg];omega)]
theorem seq_of_row (hg:∀ x,(g x).length=size) {l:List α} (h:Row w v size l.length (l.flatMap g)):Seq (fun cs x=>cs=g x) size w v l:=
 ⟨_,h,fun i x hx=>flat_slice hg hx⟩
theorem relAll_v (vs:List Value):ybm ok w lv (vs.map AV.v) vs:=by
 refine ⟨sm,fun i x u hx hu=>?_⟩;rw [qah,hu] at hx;cases hx;exact .v u
theorem ygu:ybm ok w lv [] []:=⟨rfl,fun i x u hx hu=>by simp at hx⟩
theorem ybj {a:AV} {xs:List AV} {vs:List Value} (h:Rel ok w lv a v) (t:ybm ok w lv xs vs):ybm ok w lv (a::xs) (v::vs):=by
 refine ⟨by simp [t.1],fun i x u hx hu=>?_⟩;cases i with
 | zero=>simp at hx hu;subst hx hu;exact h
 | succ i=>simp at hx hu;exact t.2 i x u hx hu
theorem yoo (hg:∀ x,(g x).length=size) (h1:∀ x,∀ u∈g x,u.oneCell'=true) {l:List α} (h:Row w v size l.length (l.flatMap g)):Rel (okW w) w lv (.sl size (l.map fun x=>(g x).map AV.v)) v:=
 yon (seq_of_row hg h) (fun x=>by simp [hg]) (fun x c hc=>by
  obtain ⟨u,hu,rfl⟩:=qag.1 hc
  exact h1 x u hu) (fun x _ cs hc=>by subst hc;exact relAll_v _)
theorem ints_rel {l:List Int} (h:zcr .i64 w v l):Rel (okW w) w lv (yah l) v:=by
 refine yoo (g:=fun t:Int=>[.int .i64 t]) (fun _=>rfl) (fun x u hu=>by simp at hu;subst hu;rfl) ?_;unfold zcr at h
 rwa [zkt l]
theorem okW_lt (w:World):∀ g,okW w g->g < w.heap.size:=fun _ h=>h
end
section
open Go.RowKit
def ykd (t:Tm):List AV:=[i64 t.1,i64 t.2]
def ybk (l:List Tm):AV:=.sl 2 (l.map ykd)
def zht (s:SetD):List AV:=[i64 s.var,ybk s.val]
def ybg (r:RuleD):List AV:=[ynt r.name,ybk r.guard,.sl 2 (r.sets.map zht)]
def ybq (x:VarD):List AV:=[ynt x.name,i64 x.kind,i64 x.lo,i64 x.hi,i64 x.perNode,i64 x.perID]
def yhb (p:ProgD):AV:=.agg [ynt p.name,.sl 6 (p.vars.map ybq),.sl 3 (p.rules.map ybg)]
structure FaultD where
 node:Int
 var:Int
 value:Int
theorem zji {f:α->List AV} {R:List Value->α->Prop} {l:List α} (h:Rel ok w lv (.sl size (l.map f)) v) (hok:∀ g,ok g->g < w.heap.size) (hR:∀ x∈l,∀ cs,ybm ok w (fun _=>none) (f x) cs->R cs x):Seq R size w v l:=by
 cases h with
 | sl a cap u g o hn hc ha hsz hg hcell hrel=>
  simp only [qal] at hn ⊢;have hfl:∀ x∈l,(f x).length=size:=fun x hx=>hsz _ (qcz hx);refine ⟨(List.range (l.length * size)).map fun j=>u (j / size) (j % size),⟨a,cap,rfl,hn,hc,sm,ha,?_⟩,fun i x hx=>?_⟩
  .rcases qeq l.length with h0|h0
   .exact .inl h0
   obtain ⟨rfl,hok'⟩:=hg (by intro h;simp at h;simp [h] at h0);refine .inr ⟨g,o,rfl,hok g hok',fun j v hj=>?_⟩;have hlt:=(qaa.1 hj).1;simp only [qal,qdz] at hlt;rw [qah,qbw hlt] at hj;simp only [qar,Option.some.injEq] at hj;have hs0:0 < size:=by
    rcases qeq size with h|h
    .simp [h] at hlt
    exact h
   have hi:j / size < l.length:=by rw [qhi hs0];exact hlt
   have hx:=qae hi;have hm:j % size < (f l[j / size]).length:=by rw [hfl _ (qfs hi)];exact Nat.mod_lt _ hs0
   have:=(hcell (j / size) (j % size) (f l[j / size]) _ (by simp [hx]) (qae hm)).1;rw [<- hj,<- this];congr 2;rw [qdd,Nat.mul_comm,Nat.div_add_mod]
  refine hR x (qab hx) _ ⟨?_,fun j c v hc hv=>?_⟩
  .have hi:=(qaa.1 hx).1;rw [hfl x (qab hx),qcf,qcw,qal,qdz];have:i * size+size<=l.length * size:=by rw [<- qdh];exact qej _ hi
   omega
  have hj:j < size:=by have:=(qaa.1 hc).1;rw [hfl x (qab hx)] at this;exact this
  have hi:=(qaa.1 hx).1;have hlt:i * size+j < l.length * size:=by
   have:i * size+size<=l.length * size:=by rw [<- qdh];exact qej _ hi
   omega
  rw [qbc,if_pos hj,qbx,qah,qbw hlt] at hv;simp only [qar,Option.some.injEq] at hv;have e1:(i * size+j) / size=i:=by rw [qcv,qhh _ _ om,qhb hj,qba]
  have e2:(i * size+j) % size=j:=by rw [qcv,qgj,qef hj]
  rw [e1,e2] at hv;subst hv;exact hrel i j (f x) c (by simp [hx]) hc
theorem xdi {l:List α} (hg:∀ x,(g x).length=size) (h0:0 < size) (h:Seq (fun cs x=>cs=g x) size w v l):Row w v size l.length (l.flatMap g):=ypj g hg h0 h fun cs x h=>h
theorem yka (h:Rel ok w lv (ybk l) v) (hok:∀ g,ok g->g < w.heap.size):yfl w v l:=
 xdi (g:=fun t:Tm=>[.int .i64 t.1,.int .i64 t.2]) (fun _=>rfl) om (zji h hok fun x _ cs hr=>by
  obtain ⟨u,v,rfl,h1,h2⟩:=yzh hr
  rw [ykf h1,ykf h2])
theorem ints_of_rel {l:List Int} (h:Rel ok w lv (yah l) v) (hok:∀ g,ok g->g < w.heap.size):zcr .i64 w v l:=by
 have:=xdi (g:=fun t:Int=>[.int .i64 t]) (size:=1) (fun _=>rfl) om (zji h hok fun x _ cs hr=>by
  obtain ⟨u,rfl,h1⟩:=ztc hr
  rw [ykf h1])
 unfold zcr
 rwa [zkt l] at this
end
section
open Go.RowKit
theorem zg {N:Nat} {ops:Array Oper} {lf:Oper->Bool} {Q:SS->Prop} {t:List (Nat × AV)} {h:List (Nat × Option LObj)} {rest:List Oper} {op:Op} {ty:TypeId} {pos:String} {af:Array Edge} {dst:Option Tmp} {j d:Nat} {want b:Bool}
  (k1:b=true->Lex prog N ops lf Q (⟨dst,op,ty,pos,af,some (j,want)⟩::rest) (S ((d,.v (.bool true))::t) h)) (k2:b=false->Lex prog N ops lf Q (⟨dst,op,ty,pos,af,some (j,want)⟩::rest) (S ((d,.v (.bool false))::t) h))
  (hd:(ops[j]?).bind (·.dst)=some d:=by rfl) (hb:yaj t d=some (.v (.bool b)):=by rfl):Lex prog N ops lf Q (⟨dst,op,ty,pos,af,some (j,want)⟩::rest) (S t h):=yam d hb k1 k2
theorem zu {N d:Nat} {Q:Exit->SS->Prop} {t:List (Nat × AV)} {h:List (Nat × Option LObj)} {x y:Code} {b:Bool} (k1:b=true->A prog N x Q (S ((d,.v (.bool true))::t) h)) (k2:b=false->A prog N y Q (S ((d,.v (.bool false))::t) h)) (hb:yaj t d=some (.v (.bool b)):=by rfl) (hc:evF (yaj t) (.tmp d)=some (.v (.bool b)):=by rfl):A prog N (.cond (.tmp d) x y) Q (S t h):=by
 have e:S ((d,.v (.bool b))::t) h=S t h:=by unfold S;rw [<- ydh,ykb hb]
 refine yvb hc (fun q=>?_) (fun q=>?_)
 .rw [q] at e;rw [<- e];exact k1 q
 rw [q] at e;rw [<- e];exact k2 q
theorem yjg (n lo hi:Int):Con prog 199 [i64 n,i64 lo,i64 hi] (yay (ydr n lo hi)):=by
 refine ze Tryz.func199 ntmps199 Tryz.results199 ?_
 repeat' (first|refine zz ?_|refine zg (fun _=>?_) fun _=>?_|refine zu (fun _=>?_) fun _=>?_|refine zj (fun _=>?_) fun _=>?_|(refine zr ?_;exact yae (by simp_all [ydr] <;> omega))|(exfalso;simp_all;done))
theorem possK_con (k:Int):Con prog 167 [i64 k] (yay (yup k)):=by
 refine ze Tryz.func167 ntmps167 Tryz.results167 ?_
 repeat' (first|refine zz ?_|refine zg (fun _=>?_) fun _=>?_|refine zu (fun _=>?_) fun _=>?_|refine zj (fun _=>?_) fun _=>?_|(refine zr ?_;exact yae (by simp_all [yup] <;> rfl))|(exfalso;simp_all;done))
theorem yqr (n lo hi:Int):Con prog 238 [i64 n,i64 lo,i64 hi] (yay (ydr n lo hi)):=by
 refine ze Tryz.func238 ntmps238 Tryz.results238 ?_
 repeat' (first|refine zz ?_|refine zg (fun _=>?_) fun _=>?_|refine zu (fun _=>?_) fun _=>?_|refine zj (fun _=>?_) fun _=>?_|(refine zr ?_;exact yae (by simp_all [ydr] <;> omega))|(exfalso;simp_all;done))
theorem known_con (k:Int):Con prog 266 [i64 k] (yay (yup k)):=by
 refine ze Tryz.func266 ntmps266 Tryz.results266 ?_
 repeat' (first|refine zz ?_|refine zg (fun _=>?_) fun _=>?_|refine zu (fun _=>?_) fun _=>?_|refine zj (fun _=>?_) fun _=>?_|(refine zr ?_;exact yae (by simp_all [yup] <;> rfl))|(exfalso;simp_all;done))
theorem numbers_con (x:VarD):Con prog 141 [.agg (ybq x)] (yay (yxs x)):=by
 have h0:=possK_con x.kind;have h1:=yjg x.lo 0 4096;have h2:=yjg x.perNode 0 255;have h3:=yjg x.perID 0 255;have h4:=yjg x.hi 0 4096;have h5:=yjg x.hi (-4096) 4096;refine ze Tryz.func141 ntmps141 Tryz.results141 ?_
 repeat' (first|refine zz ?_|refine zg (fun _=>?_) fun _=>?_|refine zu (fun _=>?_) fun _=>?_|refine zj (fun _=>?_) fun _=>?_|(refine zr ?_;exact yae (by simp_all [yxs]))|(exfalso;simp_all;done))
theorem rnumbers_con (x:VarD):Con prog 240 [.agg (ybq x)] (yay (yxs x)):=by
 have h0:=known_con x.kind;have h1:=yqr x.lo 0 4096;have h2:=yqr x.perNode 0 255;have h3:=yqr x.perID 0 255;have h4:=yqr x.hi 0 4096;have h5:=yqr x.hi (-4096) 4096;have h6:=kind_one x.kind;refine ze Tryz.func240 ntmps240 Tryz.results240 ?_
 repeat' (first|refine zz ?_|refine zg (fun _=>?_) fun _=>?_|refine zu (fun _=>?_) fun _=>?_|refine zj (fun _=>?_) fun _=>?_|(refine zr ?_;exact yae (by simp_all [yxs]))|(exfalso;simp_all;done))
end
section
open Go.RowKit
def u8K (c:UInt8):AV:=.v (.int .u8 (c.toNat:Int))
theorem zwg (c:UInt8):Con prog 185 [u8K c] (yay (yke c)):=by
 refine ze Tryz.func185 ntmps185 Tryz.results185 ?_
 repeat' (first|refine zz ?_|refine zg (fun _=>?_) fun _=>?_|refine zu (fun _=>?_) fun _=>?_|refine zj (fun _=>?_) fun _=>?_|(refine zr ?_;exact yae (by rw [qbq];simp_all [yke,qgf] <;> omega))|(exfalso;simp_all;done))
theorem digK_con (c:UInt8):Con prog 187 [u8K c] (yay (zah c)):=by
 refine ze Tryz.func187 ntmps187 Tryz.results187 ?_
 repeat' (first|refine zz ?_|refine zg (fun _=>?_) fun _=>?_|refine zu (fun _=>?_) fun _=>?_|refine zj (fun _=>?_) fun _=>?_|(refine zr ?_;exact yae (by rw [qbq];simp_all [zah,qgf] <;> omega))|(exfalso;simp_all;done))
theorem wordK_con (c:UInt8):Con prog 186 [u8K c] (yay (yqd c)):=by
 have h1:=zwg c;have h2:=digK_con c;refine ze Tryz.func186 ntmps186 Tryz.results186 ?_
 repeat' (first|refine zz ?_|refine zg (fun _=>?_) fun _=>?_|refine zu (fun _=>?_) fun _=>?_|refine zj (fun _=>?_) fun _=>?_|(refine zr ?_;exact yae (by rw [qbq];simp_all [yqd,<- UInt8.toNat_inj] <;> omega))|(exfalso;simp_all;done))
theorem zqg (c:UInt8):Con prog 279 [u8K c] (yay (yke c)):=by
 refine ze Tryz.func279 ntmps279 Tryz.results279 ?_
 repeat' (first|refine zz ?_|refine zg (fun _=>?_) fun _=>?_|refine zu (fun _=>?_) fun _=>?_|refine zj (fun _=>?_) fun _=>?_|(refine zr ?_;exact yae (by rw [qbq];simp_all [yke,qgf] <;> omega))|(exfalso;simp_all;done))
theorem rdigK_con (c:UInt8):Con prog 293 [u8K c] (yay (zah c)):=by
 refine ze Tryz.func293 ntmps293 Tryz.results293 ?_
 repeat' (first|refine zz ?_|refine zg (fun _=>?_) fun _=>?_|refine zu (fun _=>?_) fun _=>?_|refine zj (fun _=>?_) fun _=>?_|(refine zr ?_;exact yae (by rw [qbq];simp_all [zah,qgf] <;> omega))|(exfalso;simp_all;done))
theorem rwordK_con (c:UInt8):Con prog 280 [u8K c] (yay (yqd c)):=by
 have h1:=zqg c;have h2:=rdigK_con c;refine ze Tryz.func280 ntmps280 Tryz.results280 ?_
 repeat' (first|refine zz ?_|refine zg (fun _=>?_) fun _=>?_|refine zu (fun _=>?_) fun _=>?_|refine zj (fun _=>?_) fun _=>?_|(refine zr ?_;exact yae (by rw [qbq];simp_all [yqd,<- UInt8.toNat_inj] <;> omega))|(exfalso;simp_all;done))
theorem xms {s:ByteArray} {x:List UInt8} (h:(s.toList == x)=true) (hx:xkb.contains x=true:=by decide +kernel):true=xfk s:=(resB_yes s x hx h).symm
theorem resK_con (s:ByteArray):Con prog 232 [ynt s] (yay (xfk s)):=by
 refine ze Tryz.func232 ntmps232 Tryz.results232 ?_
 repeat' (first|refine zz ?_|refine zu (fun _=>?_) fun _=>?_|(refine zr ?_;first|exact yae (xms (by assumption))|exact yae (by simp_all [xfk,xkb])))
theorem rresK_con (s:ByteArray):Con prog 281 [ynt s] (yay (xfk s)):=by
 refine ze Tryz.func281 ntmps281 Tryz.results281 ?_
 repeat' (first|refine zz ?_|refine zu (fun _=>?_) fun _=>?_|(refine zr ?_;first|exact yae (xms (by assumption))|exact yae (by simp_all [xfk,xkb])))
theorem zev (s:ByteArray):Con prog 193 [ynt s] (yay (ykp s)):=by
 have hr:=resK_con s;by_cases h0:s.size < 1
 .have:=zeu s om;refine ze Tryz.func193 ntmps193 Tryz.results193 ?_;refine zY ?_;refine yam 7 rfl (fun _=>?_) (fun q=>by have:=of_decide_eq_false q;omega);refine zk ?_;exact yae this.symm
 by_cases h2:24 < s.size
 .have:=ziw s h2;refine ze Tryz.func193 ntmps193 Tryz.results193 ?_;refine zY ?_;refine yam 7 rfl (fun q=>by have:=of_decide_eq_true q;omega) (fun _=>?_);refine zY ?_;refine yam 12 rfl (fun _=>?_) (fun q=>by have:=of_decide_eq_false q;omega);refine zk ?_;exact yae this.symm
 have h1:0 < s.size:=by omega
 have hb:s[(0:Int).toNat]?=some s[0]:=getElem?_pos s 0 h1;have hl:=zwg s[0];refine ze Tryz.func193 ntmps193 Tryz.results193 ?_;refine zY ?_;refine yam 7 rfl (fun q=>by have:=of_decide_eq_true q;omega) (fun _=>?_);refine zY ?_;refine yam 12 rfl (fun q=>by have:=of_decide_eq_true q;omega) (fun _=>?_)
 (repeat (first|refine zz ?_|refine ymk tok rfl rfl rfl om hb rfl rfl ?_))
 refine zj ?_ ?_ <;> intro h3
 .refine zk ?_;exact yae (zap s h1 (by simpa using h3)).symm
 have h3:yke s[0]=true:=by simpa using h3
 refine zY ?_;refine ybl (α:=Nat) (fun k=>[(20,i64 k),(19,i64 s.size),(0,ynt s)]) (fun _=>[]) (fun k=>s.size - k) (fun k=>k<=s.size/\((ybc s 0).take k).all yqd=true) 0 ⟨om,rfl⟩ zs yag ?_;rintro k ⟨hk,ha⟩;refine zY ?_;refine zj ?_ ?_ <;> intro q
 .have q:k < s.size:=by have:=of_decide_eq_true q;omega
  have hk2:s[(k:Int).toNat]?=some s[k]:=getElem?_pos s k q;have hw:=wordK_con s[k]
  (repeat (first|refine zz ?_|refine ymk tok rfl rfl rfl om hk2 rfl rfl ?_))
  refine zj ?_ ?_ <;> intro h4
  .refine zk ?_;exact yae (ziy s k q (by simpa using h4)).symm
  refine zY ?_;exact rnd (k+1) ⟨om,zuk s k q ha (by simpa using h4)⟩ om zs yag
 have:=zix s h1 om h3 (by rw [show s.size=k by have:=of_decide_eq_false q;omega];exact ha);refine zZ ?_;refine zr ?_;exact yae this.symm
theorem yzj (s:ByteArray):Con prog 265 [ynt s] (yay (ykp s)):=by
 have hr:=rresK_con s;by_cases h0:s.size < 1
 .have:=zeu s om;refine ze Tryz.func265 ntmps265 Tryz.results265 ?_;refine zY ?_;refine yam 7 rfl (fun _=>?_) (fun q=>by have:=of_decide_eq_false q;omega);refine zk ?_;exact yae this.symm
 by_cases h2:24 < s.size
 .have:=ziw s h2;refine ze Tryz.func265 ntmps265 Tryz.results265 ?_;refine zY ?_;refine yam 7 rfl (fun q=>by have:=of_decide_eq_true q;omega) (fun _=>?_);refine zY ?_;refine yam 12 rfl (fun _=>?_) (fun q=>by have:=of_decide_eq_false q;omega);refine zk ?_;exact yae this.symm
 have h1:0 < s.size:=by omega
 have hb:s[(0:Int).toNat]?=some s[0]:=getElem?_pos s 0 h1;have hl:=zqg s[0];refine ze Tryz.func265 ntmps265 Tryz.results265 ?_;refine zY ?_;refine yam 7 rfl (fun q=>by have:=of_decide_eq_true q;omega) (fun _=>?_);refine zY ?_;refine yam 12 rfl (fun q=>by have:=of_decide_eq_true q;omega) (fun _=>?_)
 (repeat (first|refine zz ?_|refine ymk tok rfl rfl rfl om hb rfl rfl ?_))
 refine zj ?_ ?_ <;> intro h3
 .refine zk ?_;exact yae (zap s h1 (by simpa using h3)).symm
 have h3:yke s[0]=true:=by simpa using h3
 refine zY ?_;refine ybl (α:=Nat) (fun k=>[(3,i64 k),(0,ynt s)]) (fun _=>[]) (fun k=>s.size - k) (fun k=>k<=s.size/\((ybc s 0).take k).all yqd=true) 1 ⟨om,by rw [ymm s 0 h1];show (List.take 1 _).all yqd=true;simp [yqd,h3]⟩ zs yag ?_;rintro k ⟨hk,ha⟩;refine zY ?_;refine zj ?_ ?_ <;> intro q
 .have q:k < s.size:=by have:=of_decide_eq_true q;omega
  have hk2:s[(k:Int).toNat]?=some s[k]:=getElem?_pos s k q;have hw:=rwordK_con s[k]
  (repeat (first|refine zz ?_|refine ymk tok rfl rfl rfl om hk2 rfl rfl ?_))
  refine zj ?_ ?_ <;> intro h4
  .refine zk ?_;exact yae (ziy s k q (by simpa using h4)).symm
  refine zY ?_;exact rnd (k+1) ⟨om,zuk s k q ha (by simpa using h4)⟩ om zs yag
 have:=zix s h1 om h3 (by rw [show s.size=k by have:=of_decide_eq_false q;omega];exact ha);refine zZ ?_;refine zr ?_;exact yae this.symm
end
end Go.Proofs.YtgpodcjhgdionaaGreatDoor
