/- Part 2 of the texts under TopRenumberingCommutes: joined, with what it needs alone. -/
import Derived.Deep.RegionHeld3
import Derived.Deep.QuietTactic
import Derived.BigQuiet
import Derived.Below
import Derived.Test.YtgpbgfpjlhoicaaGreatDoorRows
import Derived.WalkKit
import Derived.WalkSpells
import Derived.WalkLawsBesides
import Derived.Lib.Hide
import Derived.Maps.OwnOps
import Derived.Maps.OwnSet
import Derived.Maps.Views
import Derived.Test.YtgpbgfpjlhoicaaGreatDoorRN1
namespace Go.Proofs.YtgpbgfpjlhoicaaGreatDoor
section
open Go.RowKit
def yfp (xs:List Bool):List Value:=xs.map Value.bool
theorem boolCells_get (xs:List Bool) (i:Nat) (x:Bool) (h:xs[i]?=some x):(yfp xs)[i]?=some (.bool x):=by unfold yfp;rw [List.getElem?_map,h];rfl
theorem ynk (xs ys:List Bool):yfp (xs++ys)=yfp xs++yfp ys:=by simp [yfp]
theorem boolCells_length (xs:List Bool):(yfp xs).length=xs.length:=by simp [yfp]
theorem zsq {w:World} {B B' e e' s s' n n':Nat} {v v':Value} {xs xs':List Value} (h:w.ownsRow B e s v n xs) (h':w.ownsRow B' e' s' v' n' xs') (hne:e≠e'):v.ownBlock=none∨v.ownBlock≠v'.ownBlock:=by
 rcases h.2 with ⟨rfl,_⟩|⟨g,cap,cur,rfl,_,hh,_⟩
 ·exact .inl rfl
 ·rcases h'.2 with ⟨rfl,_⟩|⟨g',cap',cur',rfl,_,hh',_⟩
  ·right;simp [Value.ownBlock]
  ·right
   intro heq
   simp only [Value.ownBlock,Option.some.injEq] at heq
   rw [heq,hh'] at hh
   simp only [Option.some.injEq,Obj.cells.injEq] at hh
   exact hne hh.2.1.symm
def zfc (S:Open):List Nat:=(S.map (·.1)).reverse
def ynr (S:Open):List Bool:=(S.map (·.2)).reverse
theorem yjc (k:Nat) (b:Bool) (S:Open):zfc ((k,b)::S)=zfc S++[k]:=by simp [zfc]
theorem ypq (k:Nat) (b:Bool) (S:Open):ynr ((k,b)::S)=ynr S++[b]:=by simp [ynr]
theorem yii (S:Open):(zfc S).length=S.length:=by simp [zfc]
theorem yoo (S:Open):(ynr S).length=S.length:=by simp [ynr]
def zud (bs:List Bool):Nat:=(bs.filter id).length
theorem zby (S:Open):zud (ynr S)=cnt S:=by
 unfold zud ynr cnt
 rw [List.filter_reverse,List.length_reverse,List.filter_map,List.length_map]
 rfl
theorem cntB_take_succ (bs:List Bool) (q:Nat) (x:Bool) (h:bs[q]?=some x):zud (bs.take (q+1))=zud (bs.take q)+(if x then 1 else 0):=by
 obtain ⟨h1,h2⟩:=List.getElem?_eq_some_iff.1 h
 unfold zud
 rw [List.take_succ_eq_append_getElem h1,List.filter_append,List.length_append,h2]
 cases x <;> simp
theorem zra (bs:List Bool):zud bs≤bs.length:=List.length_filter_le _ _
def ylk:Open→Open
 | []=>[]
 | (x,b)::S=>ygc x b S
def Pos (S:Open):Prop:=∀ e∈S,1≤e.1∧e.1≤3
theorem closeS_stop (x:Nat) (b:Bool) (S:Open) (h:x≠0):ylk ((x,b)::S)=(x,b)::S:=ylj x b S h
theorem closeS_last (b:Bool):ylk [(0,b)]=[]:=by simp [ylk,ygc]
theorem closeS_pop (b c:Bool) (x:Nat) (S:Open):ylk ((0,b)::(x,c)::S)=ylk ((x - 1,c)::S):=by simp [ylk,ygc]
theorem closeK_Pos (S:Open):∀ (k:Nat) (b:Bool),k≤3→Pos S→Pos (ygc k b S):=by
 induction S with
 | nil=>
  intro k b hk _
  simp only [ygc]
  split
  ·intro e he;cases he
  ·intro e he;simp at he;subst he;exact ⟨by omega,hk⟩
 | cons x S ih=>
  obtain ⟨x,c⟩:=x
  intro k b hk hS
  simp only [ygc]
  split
  ·exact ih _ _ (by have:=hS (x,c) (List.mem_cons_self ..);omega) (fun e he=>hS e (List.mem_cons_of_mem _ he))
  ·intro e he
   cases he with
   | head=>exact ⟨by omega,hk⟩
   | tail _ he=>exact hS e he
theorem closeK_len (S:Open):∀ (k:Nat) (b:Bool),(ygc k b S).length≤S.length+1:=by
 induction S with
 | nil=>intro k b;simp only [ygc];split <;> simp
 | cons x S ih=>
  obtain ⟨x,c⟩:=x;intro k b;simp only [ygc];split
  ·have:=ih (x - 1) c;simp;omega
  ·simp
def zfd (l:List Tm) (k:Nat):Lev:=zuk ⟨[],0,0⟩ (l.take k)
theorem zid (l:List Tm) (k:Nat) (h:k < l.length):zfd l (k+1)=yjs (zfd l k) l[k]:=by
 unfold zfd
 rw [List.take_succ_eq_append_getElem h,yrk];rfl
theorem lev0_facts (l:List Tm) (k:Nat) (h:k≤l.length):(zfd l k).S.length≤k∧Pos (zfd l k).S∧(zfd l k).d≤k∧(zfd l k).n≤k:=by
 induction k with
 | zero=>unfold zfd;simp [zuk];intro e he;cases he
 | succ k ih=>
  obtain ⟨h1,h2,h3,h4⟩:=ih (by omega)
  rw [zid l k (by omega)]
  have hb:=zkm l[k].1
  have h5:=closeK_len (zfd l k).S (ar l[k].1).toNat (yjk l[k].1)
  have h6:=closeK_Pos (zfd l k).S (ar l[k].1).toNat (yjk l[k].1) (by omega) h2
  have h7:cnt (((ar l[k].1).toNat,yjk l[k].1)::(zfd l k).S)≤k+1:=by
   rw [← zby];have:=zra (ynr (((ar l[k].1).toNat,yjk l[k].1)::(zfd l k).S));rw [yoo] at this;simp at this;omega
  unfold yjs
  refine ⟨by show (ygc _ _ _).length≤_;omega,h6,by show max _ _≤_;omega,by show max _ _≤_;omega⟩
theorem lev0_all (l:List Tm) (E:Ex) (h:yet l=some E):(zfd l l.length).d=E.dp∧(zfd l l.length).n=E.ns:=by
 obtain ⟨h1,h2⟩:=ygj h
 unfold zfd
 rw [List.take_length,← h2,levR_fl E h1]
 simp [cnt]
theorem zsp {w:World} {B e size n:Nat} {v:Value} {xs:List Value} (h:w.ownsRow B e size v n xs) {x:Nat} (hx:x < B):some x≠v.ownBlock:=
 fun h1=>by have:=(h.lt x h1.symm).1;omega
theorem ymo {w wr w':World} {g o:Nat} {u:Value} (hg:g < w.heap.size) (hb:Below w.heap.size w wr) (hc:wr.cell? ⟨g,o,none⟩=some u) (h:Below wr.heap.size wr w'):w'.cell? ⟨g,o,none⟩=some u:=
 (h.cell (p:=⟨g,o,none⟩) (Nat.lt_of_lt_of_le hg hb.size)).trans hc
theorem own_frozen {w:World} {B e s n cap g:Nat} {xs:List Value} (h:w.ownsRow B e s (.slice (some ⟨g,0,none⟩) n cap) n xs) (j:Nat):w.frozen? ⟨g,j,none⟩=false:=by
 rcases h.2 with ⟨h0,_⟩|⟨g',cap',cur,hv,_,hh,_⟩
 ·cases h0
 ·cases hv
  unfold World.frozen?
  simp only [hh]
  simp
theorem lefts_dec (y:Nat) (c:Bool) (T:Open) (hy:1≤y):(ycm (zfc ((y,c)::T))).set T.length (.int .i64 ((y:Int) - 1))=ycm (zfc ((y - 1,c)::T)):=by
 rw [yjc,yjc,ycn,ycn,List.set_append_right _ _ (by rw [yex,yii];exact Nat.le_refl _),yex,yii,Nat.sub_self]
 simp only [ycm,List.map_singleton,List.set_cons_zero]
 rw [show ((y - 1:Nat):Int)=(y:Int) - 1 by omega]
theorem infoBool:(Tryz.prog.info? 4).map (fun i=>(i.zero,i.size,i.bytes))=some (some (.bool false),1,1):=by kernel_rfl
theorem sizeBool (w:World):(sizeOf (Tryz.prog.elem 57)).run Tryz.prog w=.ok 1 w:=by kernel_rfl
theorem underBools:Tryz.prog.underlying 57=some (.slice (Tryz.prog.elem 57)):=by kernel_rfl
def zgp (w0 w:World) (vl vo:Value) (S:Open):Prop:=
 w.ownsRow w0.heap.size 3 1 vl S.length (ycm (zfc S))∧w.ownsRow w0.heap.size 4 1 vo S.length (yfp (ynr S))∧Below w0.heap.size w0 w
set_option maxHeartbeats 4000000 in
set_option maxRecDepth 100000 in
theorem zad (v:Value) (l:List Tm) (E:Ex) (w:World) (hl:l.length≤1000) (hv:Hid (ycy w v l)) (hp:Hid (yet l=some E)) :
  Calls Tryz.prog 320 #[v] w fun e w'=>e=.returned (.tuple #[.int .i64 E.dp,.int .i64 E.ns])∧Below w.heap.size w w':=by
 obtain ⟨i0,hi,hz0,hz1,hz2⟩:=info_parts yyv
 obtain ⟨j0,hj,hy0,hy1,hy2⟩:=info_parts infoBool
 have Hi:=Lib.hid hi
 have Hz0:=Lib.hid hz0
 have Hz1:=Lib.hid hz1
 have Hz2:=Lib.hid hz2
 have Hj:=Lib.hid hj
 have Hy0:=Lib.hid hy0
 have Hy1:=Lib.hid hy1
 have Hy2:=Lib.hid hy2
 clear hi hz0 hz1 hz2 hj hy0 hy1 hy2
 obtain ⟨hok,hfl⟩:=ygj hp.out
 have HF:Hid (ydy l=some [E]):=by rw [← hfl];have:=ysh E hok [] [] rfl;rw [List.append_nil] at this;exact this
 have hpos:0 < l.length:=by rw [← hfl];exact E.fl_pos
 clear hok hfl
 obtain ⟨a0,cap0,rfl,h1,h2,h3⟩:=hv.out.open
 obtain ⟨g0,o0,rfl,hg0,hc⟩:=h3 hpos
 have HC:=Lib.hid hc
 clear h3 hc
 go_enter Tryz.func320,Tryz.ntmps320
 go_wp2_with fail
 go_loopw [4,5,6,7,8,9,10] (fun d n vl vo i _ _ wr=>∃ k:Nat,k≤l.length∧i=.int .i64 k∧d=.int .i64 (zfd l k).d∧n=.int .i64 (zfd l k).n∧Hid (zgp w wr vl vo (zfd l k).S)) (fun _ _ _ _ i _ _ _=>l.length - (intOf i).toNat)
 case atStart=>exact ⟨0,by omega,rfl,rfl,rfl,World.ownsRow_nil _ _ _ _,World.ownsRow_nil _ _ _ _,Below.refl _ _⟩
 case round=>
  obtain ⟨k,hk,rfl,rfl,rfl,hst⟩:=hrel
  obtain ⟨q1,q2,q3,q4⟩:=lev0_facts l k hk
  by_cases hlt:k < l.length
  ·obtain ⟨ha0,_⟩:=yyz ygd l E HF.out k hlt
   have ha1:=(zkm l[k].1).2
   obtain ⟨c0,c1⟩:=HC.out k _ (List.getElem?_eq_getElem hlt)
   have HS:=Lib.hid (zid l k hlt)
   have HQ2:=Lib.hid q2
   clear q2
   generalize hL:zfd l k=L at *
   have HL:=Lib.hid hL
   clear hL
   obtain ⟨hownL,hownO,hbel⟩:=hst.out
   rw [← hbel.cell (p:=⟨g0,_,none⟩) hg0] at c0 c1
   have hbs:=hbel.size
   go_wp2_with fail
   go_region_held3 (fun w'=>w'.cell? ⟨g0,o0+k * 2,none⟩=some (.int .i64 l[k].1)) (first|exact cB|exact cA|(refine ymo hg0 hbelA cA ?_;repeat (first|exact Below.refl _ _|apply Below.drew|refine Below.alloc ?_ (by simp) _))|exact c0|(refine ymo hg0 hbel c0 ?_;repeat (first|exact Below.refl _ _|apply Below.drew|refine Below.alloc ?_ (by simp) _)))
    (first|(go_at_call 262;refine (yen _ _).mono ?_;rintro e w' ⟨rfl,rfl⟩)|(go_at_call 264;refine (yqt _ _).mono ?_;rintro e w' ⟨rfl,rfl⟩)|(refine step_append_lies _ rfl (.tmp 26) (.tmp 33) 57 rfl w.heap.size 4 j0 (.bool false) 1 1 Tryz.underlying57 Hj.out Hy0.out Hy1.out Hy2.out rfl (by decide) _ _ _ rfl (by exact yfs hownO2 (by repeat (first|exact Below.refl _ _|apply Below.drew|refine Below.alloc ?_ (by simp) _))) ⟨wA.heap.size,0,none⟩ 1 1 [.bool (yjk l[k].1)] rfl rfl (by exact ysw _ _ _ _ (by simp)) (by simp [Value.oneCell']) (by decide) (by unfold maxLen;omega) (by omega) (by simp;omega) _ rfl ?_;intro gB capB wB hownB hgrowB _ _;have cB:wB.cell? ⟨g0,o0+k * 2,none⟩=some (.int .i64 l[k].1):=hgrowB.cell (ymo hg0 hbelA cA (by repeat (first|exact Below.refl _ _|apply Below.drew|refine Below.alloc ?_ (by first|exact Nat.le_refl _|exact hbsA|(simp;omega)|simp) _))) (zsp hownO2 hg0))|(refine step_append_lies _ rfl (.tmp 17) (.tmp 24) 26 rfl w.heap.size 3 i0 (.int .i64 0) 1 8 Tryz.underlying26 Hi.out Hz0.out Hz1.out Hz2.out rfl (by decide) _ _ _ rfl (by exact yfs hownL (by repeat (first|exact Below.refl _ _|apply Below.drew|refine Below.alloc ?_ (by simp) _))) ⟨wr.heap.size,0,none⟩ 1 1 [.int .i64 (ar l[k].1)] rfl rfl (by exact ysw _ _ _ _ (by simp)) (by simp [Value.oneCell']) (by decide) (by unfold maxLen;omega) (by omega) (by simp;omega) _ rfl ?_;intro gA capA wA hownA hgrowA _ _;have hownO2:=(yfs hownO (by repeat (first|exact Below.refl _ _|apply Below.drew|refine Below.alloc ?_ (by simp) _))).kept hgrowA (zsq hownO hownL (by decide));have cA:wA.cell? ⟨g0,o0+k * 2,none⟩=some (.int .i64 l[k].1):=hgrowA.cell (ymo hg0 hbel c0 (by repeat (first|exact Below.refl _ _|apply Below.drew|refine Below.alloc ?_ (by first|exact Nat.le_refl _|exact hbs|(simp;omega)|simp) _))) (zsp hownL hg0);have hbelA:Below w.heap.size w wA:=Below.grown (by repeat (first|exact hbel|apply Below.drew|refine Below.alloc ?_ (by first|exact Nat.le_refl _|exact hbs|(simp;omega)|simp) _)) hgrowA (by simp;omega) (zdb hownL);have hbsA:=hbelA.size))
   have harn:((ar l[k].1).toNat:Int)=ar l[k].1:=by omega
   have HST:Hid (zgp w wB (.slice (some ⟨gA,0,none⟩) (L.S.length+1) capA) (.slice (some ⟨gB,0,none⟩) (L.S.length+1) capB) (((ar l[k].1).toNat,yjk l[k].1)::L.S)):=by
    refine ⟨?_,?_,Below.grown (by repeat (first|exact hbelA|apply Below.drew|refine Below.alloc ?_ (by first|exact hbsA|(simp;omega)) _)) hgrowB (by simp;omega) (zdb hownO2)⟩
    ·rw [yjc,ycn,ycm,ycm,List.map_singleton,harn]
     exact (yfs hownA (by repeat (first|exact Below.refl _ _|apply Below.drew|refine Below.alloc ?_ (by simp) _))).kept hgrowB (zsq hownA hownO2 (by decide))
    ·rw [ypq,ynk];exact hownB
   clear hownA hownB hgrowA hgrowB hownO2 cA cB hbelA hbsA hownL hownO harn c0 c1 hbs
   obtain ⟨S1,hS1⟩:∃ S1,S1=((ar l[k].1).toNat,yjk l[k].1)::L.S:=⟨_,rfl⟩
   have hlen1:L.S.length+1=S1.length:=by rw [hS1];rfl
   have hP1:Hid (Pos S1.tail):=by rw [hS1];exact HQ2
   have hclose:Hid (ygc (ar l[k].1).toNat (yjk l[k].1) L.S=ylk S1):=by rw [hS1];rfl
   have hcnt:Hid (cnt (((ar l[k].1).toNat,yjk l[k].1)::L.S)=zud (ynr S1)):=by rw [hS1,zby];rfl
   have hol:Hid ((ynr S1).length=S1.length):=yoo S1
   rw [← hS1] at HST
   rw [hlen1] at HST ⊢
   have hn1:S1.length≤1000:=by omega
   have HL1:=Lib.hid hlen1
   clear hS1 hlen1
   obtain ⟨hoL,hoO,hbB⟩:=HST.out
   obtain ⟨o1,o2,o3⟩:=yjx hoO
   obtain ⟨p1,p2,p3⟩:=yjx hoL
   go_wp2_with fail
   go_loop [9,10] (fun c q=>∃ j:Nat,j≤S1.length∧q=.int .i64 j∧c=.int .i64 (zud ((ynr S1).take j):Nat)) (fun _ q=>S1.length - (intOf q).toNat)
   case atStart=>exact ⟨0,by omega,rfl,rfl⟩
   case round=>
    obtain ⟨j,hj,rfl,rfl⟩:=hrel
    by_cases hq:j < S1.length
    ·obtain ⟨g,hge,hcs⟩:=o3 (by omega)
     simp only [Option.some.injEq,Addr.mk.injEq] at hge
     obtain ⟨rfl,_⟩:=hge
     obtain ⟨x,hx⟩:∃ x,(ynr S1)[j]?=some x:=⟨(ynr S1)[j]'(by rw [hol.out];exact hq),List.getElem?_eq_getElem _⟩
     have hcell:=hcs j _ (boolCells_get _ j x hx)
     have HM:=Lib.hid (cntB_take_succ (ynr S1) j x hx)
     have hcb:=zra ((ynr S1).take j)
     rw [List.length_take,hol.out] at hcb
     clear hcs hx
     generalize zud ((ynr S1).take j)=cj at *
     cases x
     all_goals
      go_wp2_with fail
      refine ⟨⟨j+1,by omega,by go_num,?_⟩,by simp [intOf];omega⟩
      rw [HM.out];simp
    ·obtain rfl:j=S1.length:=by omega
     rw [List.take_of_length_le (by rw [hol.out];exact Nat.le_refl _),← hcnt.out]
     generalize hc1:cnt (((ar l[k].1).toNat,yjk l[k].1)::L.S)=c1 at *
     obtain ⟨d1,hd1⟩:∃ d1:Nat,d1=max L.d S1.length:=⟨_,rfl⟩
     obtain ⟨n1,hn1e⟩:∃ n1:Nat,n1=max L.n c1:=⟨_,rfl⟩
     have hm1:(if L.d < S1.length then (S1.length:Int) else (L.d:Int))=(d1:Int):=by rw [hd1];split <;> omega
     have hm2:(if L.n < c1 then (c1:Int) else (L.n:Int))=(n1:Int):=by rw [hn1e];split <;> omega
     have HN:Hid (yjs L l[k]=⟨ylk S1,d1,n1⟩):=by
      unfold yjs;rw [hc1,hclose.out,hd1,hn1e,← HL1.out];rfl
     clear hd1 hn1e hc1 hcnt hclose
     go_wp2_with fail
     clear hm1 hm2 o3 p3 hoL hoO
     go_loopg [6,7] S1.length (fun m vl vo wy=>∃ S:Open,Hid (S.length=m)∧m≤S1.length∧Hid (ylk S1=ylk S)∧Hid (zgp w wy vl vo S)∧Hid (Pos S.tail))
     case atStart=>exact ⟨S1,rfl,Nat.le_refl _,rfl,HST,hP1⟩
     case round=>
      obtain ⟨S,hSl,hSm,hSc,hSt,hSp⟩:=hrel
      obtain ⟨wy,rfl⟩:∃ wy:World,wy=wr:=⟨_,rfl⟩
      obtain ⟨hoL,hoO,hbY⟩:=hSt.out
      rcases S with _|⟨⟨x,b⟩,T⟩
      ·obtain ⟨la,lcap,rfl⟩:=ylw (n:=0) hoL
       obtain ⟨oa,ocap,rfl⟩:=ylw (n:=0) hoO
       go_wp2_with fail
       exact ⟨⟨k+1,by omega,by go_num,by rw [HS.out,HN.out],by rw [HS.out,HN.out],by rw [HS.out,HN.out];show zgp w _ _ _ (ylk S1);rw [hSc.out,show ylk []=[] from rfl];exact hSt⟩,by simp [intOf];omega⟩
      ·obtain ⟨la,lcap,rfl⟩:=ylw (n:=T.length+1) hoL
       obtain ⟨oa,ocap,rfl⟩:=ylw (n:=T.length+1) hoO
       have hTl:T.length+1≤1000:=by have:=hSl.out;simp only [List.length_cons] at this;omega
       obtain ⟨o1',o2',o3⟩:=yjx (n:=T.length+1) hoO
       obtain ⟨p1',p2',p3⟩:=yjx (n:=T.length+1) hoL
       obtain ⟨g,rfl,hcs⟩:=p3 (by omega)
       have hcx:=hcs T.length _ (ykm _ T.length x (by rw [yjc,← yii T,List.getElem?_append_right (Nat.le_refl _),Nat.sub_self];rfl))
       have eT:(((T.length+1:Nat):Int) - 1)=(T.length:Int):=by omega
       by_cases hx:x=0
       ·subst hx
        have hsl1:=ypx yow zal (some ⟨g,0,none⟩) (T.length+1) lcap T.length (((T.length+1:Nat):Int) - 1) (by omega) (by omega)
        have hsl2:=ypx underBools sizeBool oa (T.length+1) ocap T.length (((T.length+1:Nat):Int) - 1) (by omega) (by omega)
        have hsl1':∀ w,(Instr.slice 26 (.slice (some ⟨g,0,none⟩) (T.length+1) lcap) none (some (.int .i64 (T.length:Int))) none).run Tryz.prog w=.ok (.slice (some ⟨g,0,none⟩) T.length lcap) w:=by intro w;have:=hsl1 w;rw [eT] at this;exact this
        have hsl2':∀ w,(Instr.slice 57 (.slice oa (T.length+1) ocap) none (some (.int .i64 (T.length:Int))) none).run Tryz.prog w=.ok (.slice oa T.length ocap) w:=by intro w;have:=hsl2 w;rw [eT] at this;exact this
        have HoL:wy.ownsRow w.heap.size 3 1 (.slice (some ⟨g,0,none⟩) T.length lcap) T.length (ycm (zfc T)):=ywy (by rw [yex,yii]) (by rw [yjc,ycn] at hoL;exact hoL)
        have HoO:wy.ownsRow w.heap.size 4 1 (.slice oa T.length ocap) T.length (yfp (ynr T)):=ywy (by rw [boolCells_length,yoo]) (by rw [ypq,ynk] at hoO;exact hoO)
        have hx0:((0:Int) == 0)=true:=by simp
        have hT:(T.length=0∧Hid (T=[]))∨∃ y c T',Hid (T=(y,c)::T')∧0 < T.length∧1≤y∧y≤3∧wy.cell? ⟨g,T.length - 1,none⟩=some (.int .i64 (y:Nat)):=by
         rcases T with _|⟨⟨y,c⟩,T'⟩
         ·exact .inl ⟨rfl,rfl⟩
         ·have hy:=hSp.out (y,c) (List.mem_cons_self ..)
          refine .inr ⟨y,c,T',rfl,by simp,hy.1,hy.2,?_⟩
          obtain ⟨_,_,q3⟩:=yjx HoL
          obtain ⟨g',hg',hq⟩:=q3 (by simp)
          cases hg'
          exact hq _ _ (ykm _ _ y (by rw [yjc,List.length_cons,Nat.add_sub_cancel,← yii T',List.getElem?_append_right (Nat.le_refl _),Nat.sub_self];rfl))
        have hfz:=own_frozen HoL (T.length - 1)
        have hSl2:Hid (T.length+1=gk):=hSl.out
        have hSp2:Hid (Pos T):=hSp.out
        clear hsl1 hsl2 hcs p3 o3 hoL hoO
        generalize htn:T.length=tn at *
        have HTN:=Lib.hid htn
        clear htn
        rcases hT with ⟨ht0,hTe⟩|⟨y,c,T',hTe,ht0,hy1,hy2,hcy⟩
        ·have HT0:=Lib.hid ht0
         have ht1:tn < 1:=by omega
         clear ht0
         go_wp2_with fail
         go_quiet (fail)
         go_wp2_with fail
         go_roundg tn
         case measure=>have:=hSl2.out;omega
         case rel=>
          refine ⟨T,HTN,by have:=hSl2.out;omega,?_,⟨?_,?_,below_drewN hbY _⟩,?_⟩
          ·rw [hSc.out,hTe.out];exact closeS_last b
          ·rw [HTN.out];exact yfs HoL (zuc (Below.refl _ _) _)
          ·rw [HTN.out];exact yfs HoO (zuc (Below.refl _ _) _)
          ·rw [hTe.out];intro e he;cases he
        ·have i1:(1:Int)≤(tn:Int):=by omega
         go_wp2_with fail
         go_quiet (fail)
         go_wp2_with fail
         have hs:=HoL.stored (tn - 1) (.int .i64 ((y:Int) - 1))
         have hk:=HoO.kept hs.2 (zsq HoO HoL (by decide))
         have hTl':T'.length=tn - 1:=by have h1:=HTN.out;rw [hTe.out,List.length_cons] at h1;omega
         go_roundg tn
         case measure=>have:=hSl2.out;omega
         case rel=>
          refine ⟨(y - 1,c)::T',by show T'.length+1=tn;omega,by have:=hSl2.out;omega,?_,⟨?_,?_,below_drewN (hbY.setCell (zdb HoL g rfl) _) _⟩,?_⟩
          ·rw [hSc.out,hTe.out];exact closeS_pop b c y T'
          ·show World.ownsRow _ _ _ _ _ (T'.length+1) _
           rw [show T'.length+1=tn by omega,← lefts_dec y c T' hy1,hTl',← hTe.out]
           exact yfs hs.1 (zuc (Below.refl _ _) _)
          ·show World.ownsRow _ _ _ _ _ (T'.length+1) _
           rw [show T'.length+1=tn by omega,ypq,← ypq y c T',← hTe.out]
           exact yfs hk (zuc (Below.refl _ _) _)
          ·intro e he;exact hSp2.out e (by rw [hTe.out];exact List.mem_cons_of_mem _ he)
       ·have hxb:((x:Int) == 0)=false:=by simp;omega
        go_wp2_with fail
        exact ⟨⟨k+1,by omega,by go_num,by rw [HS.out,HN.out],by rw [HS.out,HN.out],by rw [HS.out,HN.out];show zgp w _ _ _ (ylk S1);rw [hSc.out,closeS_stop x b T hx];exact hSt⟩,by simp [intOf];omega⟩
  ·obtain rfl:k=l.length:=by omega
   have HA:=Lib.hid (lev0_all l E hp.out)
   go_wp2_with fail
   go_ret2
   exact ⟨by rw [HA.out.1,HA.out.2];rfl,hst.out.2.2⟩
end
set_option maxRecDepth 100000
section
open Go.RowKit
def zpn (l:List Tm):Bool:=(yet l).isSome
theorem zyc (l:List Tm) (E:Ex) (h:yet l=some E):(yre 1 0 l != (l.length:Int))=false∧(yre 1 0 l == (l.length:Int))=true:=by
 rw [(yyg l).2 ⟨E,h⟩];simp
theorem zyb (l:List Tm) (h:yet l=none):(yre 1 0 l != (l.length:Int))=true∧(yre 1 0 l == (l.length:Int))=false:=by
 have:yre 1 0 l≠(l.length:Int):=fun hq=>by
  obtain ⟨E,hE⟩:=(yyg l).1 hq
  rw [h] at hE;cases hE
 simp [this]
theorem yuo (v:Value) (l:List Tm) (w:World) (hl:l.length≤1000) (hv:Hid (ycy w v l)) :
  Calls Tryz.prog 307 #[v] w fun e w'=>e=.returned (.bool (zpn l))∧w=w':=by
 obtain ⟨a0,cap0,rfl,h1,h2,h3⟩:=hv.out.open
 clear h3
 cases hp:yet l with
 | none=>
  have H:Hid (zpn l=false):=by unfold zpn;rw [hp];rfl
  obtain ⟨_,he⟩:=zyb l hp
  clear hp
  by_cases h0:0 < l.length
  all_goals
   go_enter Tryz.func307,Tryz.ntmps307
   go_wp2_with (go_at_call 294;refine (yrr _ l 0 _ hl hv (by omega)).mono ?_;rintro e w' ⟨rfl,rfl⟩)
   go_ret
   exact ⟨yab H.out.symm,rfl⟩
 | some E=>
  have H:Hid (zpn l=true):=by unfold zpn;rw [hp];rfl
  have h0:0 < l.length:=by rw [← (ygj hp).2];exact E.fl_pos
  obtain ⟨_,he⟩:=zyc l E hp
  clear hp
  go_enter Tryz.func307,Tryz.ntmps307
  go_wp2_with (go_at_call 294;refine (yrr _ l 0 _ hl hv (by omega)).mono ?_;rintro e w' ⟨rfl,rfl⟩)
  go_ret
  exact ⟨yab H.out.symm,rfl⟩
theorem yuq (v:Value) (l:List Tm) (E:Ex) (w:World) (hl:l.length≤1000) (hv:Hid (ycy w v l)) (hp:Hid (yet l=some E)) :
  Calls Tryz.prog 308 #[v] w fun e w'=>e=.returned (.int .i64 E.dp)∧Below w.heap.size w w':=by
 have H:zpn l=true:=by unfold zpn;rw [hp.out];rfl
 go_enter Tryz.func308,Tryz.ntmps308
 go_wp2_with (first|(go_at_call 307;refine (yuo _ l _ hl hv).mono ?_;rintro e w' ⟨rfl,rfl⟩)|(go_at_call 320;refine (zad _ l E _ hl hv hp).mono ?_;rintro e w' ⟨rfl,hb⟩))
 go_ret
 exact ⟨rfl,hb⟩
theorem zje (v:Value) (l:List Tm) (E:Ex) (w:World) (hl:l.length≤1000) (hv:Hid (ycy w v l)) (hp:Hid (yet l=some E)) :
  Calls Tryz.prog 309 #[v] w fun e w'=>e=.returned (.int .i64 E.ns)∧Below w.heap.size w w':=by
 have H:zpn l=true:=by unfold zpn;rw [hp.out];rfl
 go_enter Tryz.func309,Tryz.ntmps309
 go_wp2_with (first|(go_at_call 307;refine (yuo _ l _ hl hv).mono ?_;rintro e w' ⟨rfl,rfl⟩)|(go_at_call 320;refine (zad _ l E _ hl hv hp).mono ?_;rintro e w' ⟨rfl,hb⟩))
 go_ret
 exact ⟨rfl,hb⟩
theorem zdv {l:List Tm} (vars:Int) (h:yet l=none):ycr l vars=false:=by unfold ycr;rw [h]
theorem zdu {l:List Tm} (vars:Int) (h:200 < l.length):ycr l vars=false:=by
 unfold ycr
 cases yet l with
 | none=>rfl
 | some E=>simp;omega
theorem zjw {l:List Tm} (vars:Int) (k:Nat) (hk:k < l.length) (h:yrc vars l[k]=false):ycr l vars=false:=by
 unfold ycr
 cases yet l with
 | none=>rfl
 | some E=>
  have:l.all (yrc vars)=false:=by rw [List.all_eq_false];exact ⟨l[k],List.getElem_mem hk,by simp [h]⟩
  simp only [this,Bool.false_and,Bool.and_false]
theorem zdw {l:List Tm} (vars:Int) (E:Ex) (hp:yet l=some E) (h:l.length≤200) (ha:(l.take l.length).all (yrc vars)=true):ycr l vars=(decide (E.dp≤24) && decide (E.ns≤2)):=by
 rw [List.take_length] at ha
 unfold ycr;rw [hp];simp [ha,h]
theorem zdt {l:List Tm} (vars:Int) (E:Ex) (hp:yet l=some E) (h:24 < E.dp∨2 < E.ns):ycr l vars=false:=by
 unfold ycr;rw [hp]
 rcases h with h|h <;> simp <;> omega
theorem zgt (l:List Tm) (vars:Int) (k:Nat) (h:k < l.length) (ha:(l.take k).all (yrc vars)=true) (hw:yrc vars l[k]=true):(l.take (k+1)).all (yrc vars)=true:=by
 rw [List.take_succ_eq_append_getElem h,List.all_append,ha];simp [hw]
set_option maxHeartbeats 2000000 in
theorem yim (v:Value) (l:List Tm) (vars:Int) (w:World) (hl:l.length≤1000) (hv:Hid (ycy w v l)) :
  Calls Tryz.prog 143 #[v,.int .i64 vars] w fun e w'=>e=.returned (.bool (ycr l vars))∧Below w.heap.size w w':=by
 obtain ⟨a0,cap0,rfl,h1,h2,h3⟩:=hv.out.open
 have HC:=Lib.hid h3
 clear h3
 by_cases h200:200 < l.length
 ·have H:=Lib.hid (zdu vars h200)
  go_enter Tryz.func143,Tryz.ntmps143
  go_wp2_with fail
  go_ret
  exact ⟨yab H.out.symm,Below.refl _ _⟩
 cases hp:yet l with
 | none=>
  have H:=Lib.hid (zdv vars hp)
  obtain ⟨he,_⟩:=zyb l hp
  clear hp
  go_enter Tryz.func143,Tryz.ntmps143
  go_wp2_with (go_at_call 197;refine (zbz _ l 0 _ hl hv (by omega)).mono ?_;rintro e w' ⟨rfl,rfl⟩)
  go_ret
  exact ⟨yab H.out.symm,Below.refl _ _⟩
 | some E=>
  have HP:=Lib.hid hp
  obtain ⟨he,_⟩:=zyc l E hp
  clear hp
  go_enter Tryz.func143,Tryz.ntmps143
  go_wp2_with (go_at_call 197;refine (zbz _ l 0 _ hl hv (by omega)).mono ?_;rintro e w' ⟨rfl,rfl⟩)
  go_loopw [6,19] (fun _ i wr=>∃ k:Nat,k≤l.length∧i=.int .i64 k∧Hid ((l.take k).all (yrc vars)=true)∧Below w.heap.size w wr) (fun _ i _=>l.length - (intOf i).toNat)
  case atStart=>exact ⟨0,by omega,rfl,rfl,Below.refl _ _⟩
  case round=>
   obtain ⟨k,hk,rfl,ha,hbel⟩:=hrel
   by_cases hlt:k < l.length
   ·obtain ⟨g,o,rfl,hg,hc⟩:=HC.out (by omega)
    obtain ⟨c0,c1⟩:=hc k _ (List.getElem?_eq_getElem hlt)
    rw [← hbel.cell (p:=⟨g,_,none⟩) hg] at c0 c1
    clear hc
    have hbs:=hbel.size
    rcases Bool.eq_false_or_eq_true (yrc vars l[k]) with hw|hw
    ·have H:=Lib.hid (zgt l vars k hlt ha.out hw)
     go_wp2_with (go_at_call 198;refine (yvh l[k] vars _).mono ?_;rintro e w1 ⟨rfl,hb1⟩)
     exact ⟨⟨k+1,by omega,by go_num,H,(hbel.alloc hbs _).trans (hb1.mono (by simp;omega))⟩,by simp [intOf];omega⟩
    ·have H:=Lib.hid (zjw vars k hlt hw)
     go_wp2_with (go_at_call 198;refine (yvh l[k] vars _).mono ?_;rintro e w1 ⟨rfl,hb1⟩)
     go_ret
     exact ⟨yab H.out.symm,(hbel.alloc hbs _).trans (hb1.mono (by simp;omega))⟩
   ·obtain rfl:k=l.length:=by omega
    have H:=Lib.hid (zdw vars E HP.out (by omega) ha.out)
    have HD:Hid (yvl l=E.dp):=by unfold yvl;rw [HP.out];rfl
    have HN:Hid (zld l=E.ns):=by unfold zld;rw [HP.out];rfl
    by_cases hd:yvl l≤24
    all_goals
     go_wp2_with (first|(go_at_call 199;refine (depth_any _ l _ hl (hv.out.below hbel)).mono ?_;rintro e w1 ⟨rfl,hb1⟩)|(go_at_call 200;refine (nest_any _ l _ hl (hv.out.below (yeh hbel hb1))).mono ?_;rintro e w2 ⟨rfl,hb2⟩))
     go_ret
    ·refine ⟨yab ?_,yeh (yeh hbel hb1) hb2⟩
     rw [H.out,← HD.out,← HN.out];simp [hd];omega
    ·refine ⟨yab ?_,yeh hbel hb1⟩
     rw [H.out,← HD.out];simp;omega
set_option maxHeartbeats 2000000 in
theorem ypv (v:Value) (l:List Tm) (vars:Int) (w:World) (hl:l.length≤1000) (hv:Hid (ycy w v l)) :
  Calls Tryz.prog 286 #[v,.int .i64 vars] w fun e w'=>e=.returned (.bool (ycr l vars))∧Below w.heap.size w w':=by
 obtain ⟨a0,cap0,rfl,h1,h2,h3⟩:=hv.out.open
 have HC:=Lib.hid h3
 clear h3
 by_cases h200:200 < l.length
 ·have H:=Lib.hid (zdu vars h200)
  go_enter Tryz.func286,Tryz.ntmps286
  go_wp2_with fail
  go_ret
  exact ⟨yab H.out.symm,Below.refl _ _⟩
 cases hp:yet l with
 | none=>
  have H:=Lib.hid (zdv vars hp)
  have h1:zpn l=false:=by unfold zpn;rw [hp];rfl
  clear hp
  go_enter Tryz.func286,Tryz.ntmps286
  go_wp2_with (go_at_call 307;refine (yuo _ l _ hl hv).mono ?_;rintro e w' ⟨rfl,rfl⟩)
  go_ret
  exact ⟨yab H.out.symm,Below.refl _ _⟩
 | some E=>
  have HP:=Lib.hid hp
  have h1:zpn l=true:=by unfold zpn;rw [hp];rfl
  clear hp
  by_cases hd:24 < E.dp
  ·have H:=Lib.hid (zdt vars E HP.out (.inl hd))
   go_enter Tryz.func286,Tryz.ntmps286
   go_wp2_with (first|(go_at_call 307;refine (yuo _ l _ hl hv).mono ?_;rintro e w' ⟨rfl,rfl⟩)|(go_at_call 308;refine (yuq _ l E _ hl hv HP).mono ?_;rintro e w1 ⟨rfl,hb1⟩))
   go_ret
   exact ⟨yab H.out.symm,hb1⟩
  by_cases hn:2 < E.ns
  ·have H:=Lib.hid (zdt vars E HP.out (.inr hn))
   go_enter Tryz.func286,Tryz.ntmps286
   go_wp2_with (first|(go_at_call 307;refine (yuo _ l _ hl hv).mono ?_;rintro e w' ⟨rfl,rfl⟩)|(go_at_call 308;refine (yuq _ l E _ hl hv HP).mono ?_;rintro e w1 ⟨rfl,hb1⟩)|(go_at_call 309;refine (zje _ l E _ hl (hv.out.below hb1) HP).mono ?_;rintro e w2 ⟨rfl,hb2⟩))
   go_ret
   exact ⟨yab H.out.symm,yeh hb1 hb2⟩
  have b1:decide (24 < E.dp)=false:=by simp;omega
  have b2:decide (2 < E.ns)=false:=by simp;omega
  have b3:decide (24 < (E.dp:Int))=false:=by simp;omega
  have b4:decide (2 < (E.ns:Int))=false:=by simp;omega
  have b5:decide (200 < (l.length:Int))=false:=by simp;omega
  go_enter Tryz.func286,Tryz.ntmps286
  go_wp2_with (first|(go_at_call 307;refine (yuo _ l _ hl hv).mono ?_;rintro e w' ⟨rfl,rfl⟩)|(go_at_call 308;refine (yuq _ l E _ hl hv HP).mono ?_;rintro e w1 ⟨rfl,hb1⟩)|(go_at_call 309;refine (zje _ l E _ hl (hv.out.below hb1) HP).mono ?_;rintro e w2 ⟨rfl,hb2⟩))
  have hb:=yeh hb1 hb2
  go_loopw [5] (fun i wr=>∃ k:Nat,k≤l.length∧i=.int .i64 k∧Hid ((l.take k).all (yrc vars)=true)∧Below w.heap.size w wr) (fun i _=>l.length - (intOf i).toNat)
  case atStart=>exact ⟨0,by omega,rfl,rfl,hb⟩
  case round=>
   obtain ⟨k,hk,rfl,ha,hbel⟩:=hrel
   by_cases hlt:k < l.length
   ·obtain ⟨g,o,rfl,hg,hc⟩:=HC.out (by omega)
    obtain ⟨c0,c1⟩:=hc k _ (List.getElem?_eq_getElem hlt)
    rw [← hbel.cell (p:=⟨g,_,none⟩) hg] at c0 c1
    clear hc
    have hbs:=hbel.size
    rcases Bool.eq_false_or_eq_true (yrc vars l[k]) with hw|hw
    ·have H:=Lib.hid (zgt l vars k hlt ha.out hw)
     go_wp2_with (go_at_call 310;refine (yta l[k] vars _).mono ?_;rintro e w3 ⟨rfl,hb3⟩)
     exact ⟨⟨k+1,by omega,by go_num,H,yeh hbel hb3⟩,by simp [intOf];omega⟩
    ·have H:=Lib.hid (zjw vars k hlt hw)
     go_wp2_with (go_at_call 310;refine (yta l[k] vars _).mono ?_;rintro e w3 ⟨rfl,hb3⟩)
     go_ret
     exact ⟨yab H.out.symm,yeh hbel hb3⟩
   ·obtain rfl:k=l.length:=by omega
    have H:=Lib.hid (zdw vars E HP.out (by omega) ha.out)
    go_wp2_with fail
    go_ret
    refine ⟨yab ?_,hbel⟩
    rw [H.out];simp;omega
end
section
open Go.RowKit
def yrj (k:Int):Bool:=decide (k=1) || (decide (k=2) || decide (k=3))
theorem ycx (k:Int) (w:World):Calls Tryz.prog 201 #[.int .i64 k] w fun e w'=>e=.returned (.bool (yrj k))∧w=w':=by
 go_enter Tryz.func201,Tryz.ntmps201
 go_wp2
 all_goals go_ret
 all_goals refine ⟨yab ?_,rfl⟩
 all_goals (rw [Bool.eq_iff_iff];simp [yrj];try omega)
theorem ylt (k:Int) (w:World):Calls Tryz.prog 285 #[.int .i64 k] w fun e w'=>e=.returned (.bool (yrj k))∧w=w':=by
 go_enter Tryz.func285,Tryz.ntmps285
 go_wp2
 all_goals go_ret
 all_goals refine ⟨yab ?_,rfl⟩
 all_goals (rw [Bool.eq_iff_iff];simp [yrj];try omega)
theorem ifTrue_any (c:Bool) (k:Int) (w:World):Calls Tryz.prog 270 #[.bool c,.int .i64 k] w fun e w'=>e=.returned (.int .i64 (if c=true then k else 0))∧w=w':=by
 cases c
 all_goals
  go_enter Tryz.func270,Tryz.ntmps270
  go_wp2
  go_ret
  exact ⟨ybd (by simp),rfl⟩
def zjd (op a b c:Int):Int:=if ar op=1 then ty1 op a else if ar op=2 then ty2 op a b else ty3 a b c
set_option maxHeartbeats 4000000 in
theorem yuu (op a b c:Int) (w:World) (h1:18≤op) (h2:op≤43) :
  Calls Tryz.prog 244 #[.int .i64 op,.agg #[.int .i64 a,.int .i64 b,.int .i64 c]] w fun e w'=>e=.returned (.int .i64 (zjd op a b c))∧Below w.heap.size w w':=by
 have hop:op=18∨op=19∨op=20∨op=21∨op=22∨op=23∨op=24∨op=25∨op=26∨op=27∨op=28∨op=29∨op=30∨op=31∨op=32∨op=33∨op=34∨op=35∨op=36∨op=37∨op=38∨op=39∨op=40∨op=41∨op=42∨op=43:=by omega
 rcases hop with rfl|rfl|rfl|rfl|rfl|rfl|rfl|rfl|rfl|rfl|rfl|rfl|rfl|rfl|rfl|rfl|rfl|rfl|rfl|rfl|rfl|rfl|rfl|rfl|rfl|rfl
 all_goals
  clear h1 h2
  go_enter Tryz.func244,Tryz.ntmps244
  go_wp2_with fail
  go_quiet (fail)
  go_wp2_with (go_at_call 270;refine (ifTrue_any _ _ _).mono ?_;rintro e w' ⟨rfl,rfl⟩)
  all_goals go_ret
  all_goals refine ⟨ybd ?_,below_drewN ((Below.refl _ _).alloc (Nat.le_refl _) _) _⟩
  all_goals try simp only [beq_iff_eq,beq_eq_false_iff_ne,bne_iff_ne,bne_eq_false_iff_eq,ne_eq] at *
  all_goals (simp [zjd,ar,ty1,ty2,ty3, *];try omega)
theorem yue (kinds:List Int) (i:Nat) (h:i < kinds.length):kinds[i]?=some (kinds.getD i 0):=by
 rw [List.getD_eq_getElem?_getD,List.getElem?_eq_getElem h];rfl
set_option maxHeartbeats 4000000 in
theorem leaf_any (ev kv:Value) (kinds:List Int) (op x:Int) (w:World) (hk:Hid (ymc .i64 w kv kinds)) (h1:1≤op) (h2:op≤17) (hx:op=5∨op=12→0≤x∧x < kinds.length) :
  Calls Tryz.prog 243 #[.agg #[ev,kv],.agg #[.int .i64 op,.int .i64 x]] w fun e w'=>e=.returned (.int .i64 (yih kinds (op,x)))∧Below w.heap.size w w':=by
 obtain ⟨a,cap,rfl,i1,i2,i3,i4⟩:=hk.out.open
 have HC:=Lib.hid i4
 have HX:=Lib.hid hx
 clear i4 hx i3
 have hop:op=1∨op=2∨op=3∨op=4∨op=5∨op=6∨op=7∨op=8∨op=9∨op=10∨op=11∨op=12∨op=13∨op=14∨op=15∨op=16∨op=17:=by omega
 rcases hop with rfl|rfl|rfl|rfl|rfl|rfl|rfl|rfl|rfl|rfl|rfl|rfl|rfl|rfl|rfl|rfl|rfl
 all_goals clear h1 h2
 case inr.inr.inr.inr.inl=>
  obtain ⟨x0,x1⟩:=HX.out (by omega)
  obtain ⟨x,rfl⟩:=Int.eq_ofNat_of_zero_le x0
  obtain ⟨g,o,rfl,hg,hc⟩:=HC.out (by omega)
  have c0:=hc x _ (yue kinds x (by omega))
  have hxl:x < kinds.length:=by omega
  have HL:=Lib.hid (show yih kinds (5,(x:Int))=kinds.getD x 0 by simp [yih])
  clear hc x0 x1
  generalize kinds.getD x 0=kx at *
  go_enter Tryz.func243,Tryz.ntmps243
  go_wp2_with fail
  go_ret
  refine ⟨ybd HL.out.symm,?_⟩
  repeat (first|exact Below.refl _ _|refine Below.alloc ?_ (by simp) _)
 case inr.inr.inr.inr.inr.inr.inr.inr.inr.inr.inr.inl=>
  obtain ⟨x0,x1⟩:=HX.out (by omega)
  obtain ⟨x,rfl⟩:=Int.eq_ofNat_of_zero_le x0
  obtain ⟨g,o,rfl,hg,hc⟩:=HC.out (by omega)
  have c0:=hc x _ (yue kinds x (by omega))
  have hxl:x < kinds.length:=by omega
  have HL:=Lib.hid (show yih kinds (12,(x:Int))=kinds.getD x 0 by simp [yih])
  clear hc x0 x1
  generalize kinds.getD x 0=kx at *
  go_enter Tryz.func243,Tryz.ntmps243
  go_wp2_with fail
  go_ret
  refine ⟨ybd HL.out.symm,?_⟩
  repeat (first|exact Below.refl _ _|refine Below.alloc ?_ (by simp) _)
 all_goals
  go_enter Tryz.func243,Tryz.ntmps243
  go_wp2_with fail
  go_ret
  refine ⟨ybd (by simp [yih]),?_⟩
  repeat (first|exact Below.refl _ _|refine Below.alloc ?_ (by simp) _)
set_option maxHeartbeats 4000000 in
theorem rsingle_any (op a:Int) (w:World) (h1:18≤op) (h2:op≤29) :
  Calls Tryz.prog 312 #[.int .i64 op,.int .i64 a] w fun e w'=>e=.returned (.int .i64 (ty1 op a))∧w=w':=by
 have hop:op=18∨op=19∨op=20∨op=21∨op=22∨op=23∨op=24∨op=25∨op=26∨op=27∨op=28∨op=29:=by omega
 rcases hop with rfl|rfl|rfl|rfl|rfl|rfl|rfl|rfl|rfl|rfl|rfl|rfl
 all_goals
  clear h1 h2
  go_enter Tryz.func312,Tryz.ntmps312
  go_wp2
  all_goals go_ret
  all_goals refine ⟨ybd ?_,rfl⟩
  all_goals try simp only [bne_iff_ne,bne_eq_false_iff_eq,ne_eq] at *
  all_goals (simp [ty1, *];try omega)
set_option maxHeartbeats 4000000 in
theorem rdouble_any (op a b:Int) (w:World) (h1:30≤op) (h2:op≤42) :
  Calls Tryz.prog 313 #[.int .i64 op,.int .i64 a,.int .i64 b] w fun e w'=>e=.returned (.int .i64 (ty2 op a b))∧w=w':=by
 have hop:op=30∨op=31∨op=32∨op=33∨op=34∨op=35∨op=36∨op=37∨op=38∨op=39∨op=40∨op=41∨op=42:=by omega
 rcases hop with rfl|rfl|rfl|rfl|rfl|rfl|rfl|rfl|rfl|rfl|rfl|rfl|rfl
 all_goals
  clear h1 h2
  go_enter Tryz.func313,Tryz.ntmps313
  go_wp2
  all_goals go_ret
  all_goals refine ⟨ybd ?_,rfl⟩
  all_goals try simp only [beq_iff_eq,beq_eq_false_iff_ne,bne_iff_ne,bne_eq_false_iff_eq,ne_eq] at *
  all_goals (simp [ty2, *];try omega)
set_option maxHeartbeats 4000000 in
theorem rleaf_any (kv:Value) (kinds:List Int) (op x:Int) (bound:Bool) (w:World) (hk:Hid (ymc .i64 w kv kinds)) (h1:1≤op) (h2:op≤17) (hx:op=5∨op=12→0≤x∧x < kinds.length) :
  Calls Tryz.prog 311 #[.agg #[.int .i64 op,.int .i64 x],kv,.bool bound] w fun e w'=>e=.returned (.int .i64 (if zbg op && !bound then 0 else yih kinds (op,x)))∧Below w.heap.size w w':=by
 obtain ⟨a,cap,rfl,i1,i2,i3,i4⟩:=hk.out.open
 have HC:=Lib.hid i4
 have HX:=Lib.hid hx
 clear i4 hx i3
 have hop:op=1∨op=2∨op=3∨op=4∨op=5∨op=6∨op=7∨op=8∨op=9∨op=10∨op=11∨op=12∨op=13∨op=14∨op=15∨op=16∨op=17:=by omega
 rcases hop with rfl|rfl|rfl|rfl|rfl|rfl|rfl|rfl|rfl|rfl|rfl|rfl|rfl|rfl|rfl|rfl|rfl
 all_goals clear h1 h2
 case inr.inr.inr.inr.inl=>
  obtain ⟨x0,x1⟩:=HX.out (by omega)
  obtain ⟨x,rfl⟩:=Int.eq_ofNat_of_zero_le x0
  obtain ⟨g,o,rfl,hg,hc⟩:=HC.out (by omega)
  have c0:=hc x _ (yue kinds x (by omega))
  have hxl:x < kinds.length:=by omega
  have HL:=Lib.hid (show yih kinds (5,(x:Int))=kinds.getD x 0 by simp [yih])
  clear hc x0 x1
  generalize kinds.getD x 0=kx at *
  cases bound
  all_goals
   go_enter Tryz.func311,Tryz.ntmps311
   go_wp2_with fail
   go_ret
   refine ⟨ybd (by simp [HL.out]),?_⟩
   repeat (first|exact Below.refl _ _|refine Below.alloc ?_ (by simp) _)
 case inr.inr.inr.inr.inr.inr.inr.inr.inr.inr.inr.inl=>
  obtain ⟨x0,x1⟩:=HX.out (by omega)
  obtain ⟨x,rfl⟩:=Int.eq_ofNat_of_zero_le x0
  obtain ⟨g,o,rfl,hg,hc⟩:=HC.out (by omega)
  have c0:=hc x _ (yue kinds x (by omega))
  have hxl:x < kinds.length:=by omega
  have HL:=Lib.hid (show yih kinds (12,(x:Int))=kinds.getD x 0 by simp [yih])
  clear hc x0 x1
  generalize kinds.getD x 0=kx at *
  cases bound
  all_goals
   go_enter Tryz.func311,Tryz.ntmps311
   go_wp2_with fail
   go_ret
   refine ⟨ybd (by simp [HL.out]),?_⟩
   repeat (first|exact Below.refl _ _|refine Below.alloc ?_ (by simp) _)
 all_goals
  cases bound
  all_goals
   go_enter Tryz.func311,Tryz.ntmps311
   go_wp2_with fail
   go_ret
   refine ⟨ybd (by simp [yih]),?_⟩
   repeat (first|exact Below.refl _ _|refine Below.alloc ?_ (by simp) _)
end
section
open Go.RowKit
theorem zqv {op:Int} (h:ar op=0):1≤op∧op≤17:=by
 unfold ar at h;(repeat' split at h) <;> omega
theorem zuy {op:Int} (h:ar op=1):18≤op∧op≤29:=by
 unfold ar at h;(repeat' split at h) <;> omega
theorem zuz {op:Int} (h:ar op=2):30≤op∧op≤42:=by
 unfold ar at h;(repeat' split at h) <;> omega
theorem ar_three {op:Int} (h:ar op=3):op=43:=by
 unfold ar at h;(repeat' split at h) <;> omega
theorem zmc {kinds:List Int} {t:Tm} (h:yrc kinds.length t=true):t.1=5∨t.1=12→0≤t.2∧t.2 < kinds.length:=by
 intro h5
 unfold yrc at h
 rw [if_neg (by omega),if_pos h5] at h
 simpa using h
theorem yia {l:List Tm} {p:Nat} {t:Tm} {r:List Tm} (h:l.drop p=t::r):p < l.length∧l[p]?=some t∧l.drop (p+1)=r:=by
 have h1:p < l.length:=by
  rcases Nat.lt_or_ge p l.length with h1|h1
  ·exact h1
  ·rw [List.drop_eq_nil_of_le h1] at h;cases h
 rw [List.drop_eq_getElem_cons h1] at h
 simp only [List.cons.injEq] at h
 exact ⟨h1,by rw [List.getElem?_eq_getElem h1,h.1],h.2⟩
def ReadRet (kinds:List Int) (bound:Bool) (E:Ex) (p:Nat) (w:World) (e:Ending) (w':World):Prop:=
 e=.returned (.tuple #[.int .i64 (ty kinds bound E),.int .i64 ((p+E.fl.length:Nat):Int)])∧Below w.heap.size w w'
def yjj (ev kv:Value) (l:List Tm) (kinds:List Int) (E:Ex):Prop:=
 ∀ (p:Nat) (r:List Tm) (bound:Bool) (w:World),l.drop p=E.fl++r→ycy w ev l→ymc .i64 w kv kinds →
  Calls Tryz.prog 202 #[.agg #[ev,kv],.int .i64 p,.bool bound] w (ReadRet kinds bound E p w)
set_option maxHeartbeats 1000000 in
theorem read_leaf (ev kv:Value) (l:List Tm) (kinds:List Int) (t:Tm) (hl:l.length≤1000) (h0:ar t.1=0) (ha:Hid (yrc kinds.length t=true)):yjj ev kv l kinds (.lf t):=by
 intro p r bound w hd ht hk
 obtain ⟨a0,cap0,rfl,h1,h2,h3⟩:=ht.open
 obtain ⟨hp,hpt,_⟩:=yia hd
 obtain ⟨g,o,rfl,hg,hc⟩:=h3 (by omega)
 obtain ⟨c0,c1⟩:=hc p t hpt
 obtain ⟨h11,h17⟩:=zqv h0
 have HT:=Lib.hid ht
 have HK:=Lib.hid hk
 have HR:Hid (ty kinds bound (.lf t)=if zbg t.1 && !bound then 0 else yih kinds t):=rfl
 have hz:(ar t.1 == 0)=true:=by rw [h0];rfl
 have hlen:Hid ((Ex.lf t).fl.length=1):=rfl
 clear hc h3 hpt hd ht hk h0
 obtain ⟨op,x⟩:=t
 simp only at *
 rcases Bool.eq_false_or_eq_true (zbg op) with hn|hn <;> cases bound
 all_goals
  go_enter Tryz.func202,Tryz.ntmps202
  go_wp2_with (first|(go_at_call 237;refine (ygw _ _).mono ?_;rintro e w' ⟨rfl,rfl⟩)|(go_at_call 242;refine (near_any _ _).mono ?_;rintro e w' ⟨rfl,rfl⟩)|(go_at_call 243;refine (leaf_any _ _ kinds op x _ (by exact ymc.below HK.out (by repeat (first|exact Below.refl _ _|refine Below.alloc ?_ (by simp) _))) h11 h17 (zmc ha.out)).mono ?_;rintro e w1 ⟨rfl,hb1⟩))
  go_ret2
  refine ⟨by rw [HR.out,hlen.out];simp [hn],?_⟩
  first|exact Below.trans (by repeat (first|exact Below.refl _ _|refine Below.alloc ?_ (by simp) _)) (hb1.mono (by simp;omega))|(repeat (first|exact Below.refl _ _|refine Below.alloc ?_ (by simp) _))
set_option maxHeartbeats 2000000 in
theorem read_un (ev kv:Value) (l:List Tm) (kinds:List Int) (t:Tm) (A:Ex) (hl:l.length≤1000) (h0:ar t.1=1) (ihA:yjj ev kv l kinds A):yjj ev kv l kinds (.un t A):=by
 intro p r bound w hd ht hk
 obtain ⟨a0,cap0,rfl,h1,h2,h3⟩:=ht.open
 simp only [Ex.fl,List.cons_append] at hd
 obtain ⟨hp,hpt,hd1⟩:=yia hd
 obtain ⟨g,o,rfl,hg,hc⟩:=h3 (by omega)
 obtain ⟨c0,c1⟩:=hc p t hpt
 obtain ⟨h18,h29⟩:=zuy h0
 have HT:=Lib.hid ht
 have HK:=Lib.hid hk
 have HD1:=Lib.hid hd1
 have HIA:=Lib.hid ihA
 have HR:Hid (ty kinds bound (.un t A)=zjd t.1 (ty kinds (bound || yjk t.1) A) 0 0):=by unfold zjd;rw [if_pos h0];rfl
 have hz:(ar t.1 == 0)=false:=by rw [h0];rfl
 have hlen:=Lib.hid (show (Ex.un t A).fl.length=1+A.fl.length by simp [Ex.fl];omega)
 have hpl:p+1≤1000:=by omega
 clear hc h3 hpt hd ht hk hd1 ihA
 obtain ⟨op,x⟩:=t
 simp only at *
 rcases Bool.eq_false_or_eq_true (yjk op) with hn|hn <;> cases bound
 all_goals
  simp only [hn,Bool.or_true,Bool.or_false] at HR
  go_enter Tryz.func202,Tryz.ntmps202
  go_wp2_with (first|(go_at_call 237;refine (ygw _ _).mono ?_;rintro e w' ⟨rfl,rfl⟩)|(go_at_call 241;refine (yiq _ _).mono ?_;rintro e w' ⟨rfl,rfl⟩))
  refine wp_loop_rounds 2 ?_
  rw [rounds_succ]
  go_wp2_with fail
  rw [show ((p:Int)+1)=((p+1:Nat):Int) by omega]
  refine (HIA.out (p+1) r _ _ HD1.out (by exact ycy.below HT.out (by repeat (first|exact Below.refl _ _|refine Below.alloc ?_ (by first|(simp;done)|(simp;omega)) _))) (by exact ymc.below HK.out (by repeat (first|exact Below.refl _ _|refine Below.alloc ?_ (by first|(simp;done)|(simp;omega)) _)))).mono ?_
  rintro e w1 ⟨rfl,hb1⟩
  obtain ⟨hcl,hfz⟩:=zpd hb1
  have hsz:=hb1.size
  simp at hsz
  generalize ty kinds _ A=ta at *
  go_wp2_with fail
  rw [rounds_succ]
  go_wp2_with (first|(go_at_call 244;refine (yuu _ _ _ _ _ (by omega) (by omega)).mono ?_;rintro e w2 ⟨rfl,hb2⟩))
  have B1:Below w.heap.size w w1:=Below.trans (by repeat (first|exact Below.refl _ _|refine Below.alloc ?_ (by first|(simp;done)|(simp;omega)) _)) (hb1.mono (by simp;omega))
  have B2:=B1.size
  go_ret2
  refine ⟨by rw [HR.out,hlen.out];simp;omega,Below.trans (B1.setCell ?_ _) (hb2.mono ?_)⟩
  ·simp;omega
  ·simp;omega
set_option maxHeartbeats 4000000 in
theorem read_bi (ev kv:Value) (l:List Tm) (kinds:List Int) (t:Tm) (A B:Ex) (hl:l.length≤1000) (h0:ar t.1=2) (ihA:yjj ev kv l kinds A) (ihB:yjj ev kv l kinds B):yjj ev kv l kinds (.bi t A B):=by
 intro p r bound w hd ht hk
 obtain ⟨a0,cap0,rfl,h1,h2,h3⟩:=ht.open
 simp only [Ex.fl,List.cons_append,List.append_assoc] at hd
 obtain ⟨hp,hpt,hd1⟩:=yia hd
 obtain ⟨g,o,rfl,hg,hc⟩:=h3 (by omega)
 obtain ⟨c0,c1⟩:=hc p t hpt
 have h18:18≤t.1∧t.1≤43:=by have:=zuz h0;omega
 have h18a:=h18.1
 have h18b:=h18.2
 have HT:=Lib.hid ht
 have HK:=Lib.hid hk
 have HDA:=Lib.hid hd1
 have hdB:l.drop (p+1+A.fl.length)=B.fl++r:=by rw [← List.drop_drop,hd1,List.drop_append_of_le_length (Nat.le_refl _),List.drop_length,List.nil_append]
 have HDB:=Lib.hid hdB
 have HIA:=Lib.hid ihA
 have HIB:=Lib.hid ihB
 have HR:Hid (ty kinds bound (.bi t A B)=zjd t.1 (ty kinds bound A) (ty kinds bound B) 0):=by unfold zjd;rw [if_neg (by omega),if_pos h0];rfl
 have hz:(ar t.1 == 0)=false:=by rw [h0];rfl
 have hn:yjk t.1=false:=yni (by omega)
 have hlen:=Lib.hid (show (Ex.bi t A B).fl.length=1+A.fl.length+B.fl.length by simp [Ex.fl];omega)
 have hll:Hid (l.length - p=1+A.fl.length+B.fl.length+r.length):=by
  have:=congrArg List.length hd
  rw [List.length_drop] at this
  simp at this
  unfold Hid;omega
 clear hc h3 hpt hd ht hk hd1 ihA ihB hdB h18
 obtain ⟨op,x⟩:=t
 simp only at *
 cases bound
 all_goals
  go_enter Tryz.func202,Tryz.ntmps202
  go_wp2_with (first|(go_at_call 237;refine (ygw _ _).mono ?_;rintro e w' ⟨rfl,rfl⟩)|(go_at_call 241;refine (yiq _ _).mono ?_;rintro e w' ⟨rfl,rfl⟩))
  refine wp_loop_rounds 3 ?_
  rw [rounds_succ]
  go_wp2_with fail
  rw [show ((p:Int)+1)=((p+1:Nat):Int) by omega]
  refine (HIA.out (p+1) _ _ _ HDA.out (by exact ycy.below HT.out (by repeat (first|exact Below.refl _ _|refine Below.alloc ?_ (by first|(simp;done)|(simp;omega)) _))) (by exact ymc.below HK.out (by repeat (first|exact Below.refl _ _|refine Below.alloc ?_ (by first|(simp;done)|(simp;omega)) _)))).mono ?_
  rintro e w1 ⟨rfl,hb1⟩
  obtain ⟨hcl1,hfz1⟩:=zpd hb1
  have hsz1:=hb1.size
  simp at hsz1
  have B1:Below w.heap.size w w1:=Below.trans (by repeat (first|exact Below.refl _ _|refine Below.alloc ?_ (by first|(simp;done)|(simp;omega)) _)) (hb1.mono (by simp;omega))
  have B1s:=B1.size
  have z1a:w.heap.size < w1.heap.size:=by omega
  have z1b:w.heap.size+1 < w1.heap.size:=by omega
  have z1c:w.heap.size+1+1 < w1.heap.size:=by omega
  generalize ty kinds _ A=ta at *
  generalize hq1:p+1+A.fl.length=q1 at *
  have HQ1:=Lib.hid hq1
  clear hq1
  have hqb2:q1≤1000:=by have e1:=HQ1.out;have e2:=hll.out;omega
  go_wp2_with fail
  rw [rounds_succ]
  go_wp2_with fail
  refine (HIB.out q1 _ _ _ HDB.out (by exact ycy.below HT.out (B1.setCell (by first|(simp;done)|(simp;omega)) _)) (by exact ymc.below HK.out (B1.setCell (by first|(simp;done)|(simp;omega)) _))).mono ?_
  rintro e w2 ⟨rfl,hb2⟩
  obtain ⟨hcl2,hfz2⟩:=zpd hb2
  have hsz2:=hb2.size
  simp at hsz2
  have B2:Below w.heap.size w w2:=Below.trans (B1.setCell (by first|(simp;done)|(simp;omega)) _) (hb2.mono (by simp;omega))
  have B2s:=B2.size
  have z2a:w.heap.size < w2.heap.size:=by omega
  have z2b:w.heap.size+1 < w2.heap.size:=by omega
  have z2c:w.heap.size+1+1 < w2.heap.size:=by omega
  generalize ty kinds _ B=tb at *
  generalize hq2:q1+B.fl.length=q2 at *
  have HQ2:=Lib.hid hq2
  clear hq2
  have hqe:q2≤1000:=by have e1:=HQ1.out;have e2:=hll.out;have e3:=HQ2.out;omega
  go_wp2_with fail
  rw [rounds_succ]
  go_wp2_with (first|(go_at_call 244;refine (yuu _ _ _ _ _ (by omega) (by omega)).mono ?_;rintro e wz ⟨rfl,hbz⟩))
  go_ret2
  refine ⟨?_,Below.trans (B2.setCell ?_ _) (hbz.mono ?_)⟩
  ·rw [HR.out,hlen.out,show p+(1+A.fl.length+B.fl.length)=q2 by have e1:=HQ1.out;have e3:=HQ2.out;omega];rfl
  ·first|(simp;done)|(simp;omega)
  ·simp;omega
set_option maxHeartbeats 4000000 in
theorem read_tr (ev kv:Value) (l:List Tm) (kinds:List Int) (t:Tm) (A B C:Ex) (hl:l.length≤1000) (h0:ar t.1=3) (ihA:yjj ev kv l kinds A) (ihB:yjj ev kv l kinds B) (ihC:yjj ev kv l kinds C):yjj ev kv l kinds (.tr t A B C):=by
 intro p r bound w hd ht hk
 obtain ⟨a0,cap0,rfl,h1,h2,h3⟩:=ht.open
 simp only [Ex.fl,List.cons_append,List.append_assoc] at hd
 obtain ⟨hp,hpt,hd1⟩:=yia hd
 obtain ⟨g,o,rfl,hg,hc⟩:=h3 (by omega)
 obtain ⟨c0,c1⟩:=hc p t hpt
 have h18:18≤t.1∧t.1≤43:=by have:=ar_three h0;omega
 have h18a:=h18.1
 have h18b:=h18.2
 have HT:=Lib.hid ht
 have HK:=Lib.hid hk
 have HDA:=Lib.hid hd1
 have hdB:l.drop (p+1+A.fl.length)=B.fl++(C.fl++r):=by rw [← List.drop_drop,hd1,List.drop_append_of_le_length (Nat.le_refl _),List.drop_length,List.nil_append]
 have HDB:=Lib.hid hdB
 have hdC:l.drop (p+1+A.fl.length+B.fl.length)=C.fl++r:=by rw [← List.drop_drop,hdB,List.drop_append_of_le_length (Nat.le_refl _),List.drop_length,List.nil_append]
 have HDC:=Lib.hid hdC
 have HIA:=Lib.hid ihA
 have HIB:=Lib.hid ihB
 have HIC:=Lib.hid ihC
 have HR:Hid (ty kinds bound (.tr t A B C)=zjd t.1 (ty kinds bound A) (ty kinds bound B) (ty kinds bound C)):=by unfold zjd;rw [if_neg (by omega),if_neg (by omega)];rfl
 have hz:(ar t.1 == 0)=false:=by rw [h0];rfl
 have hn:yjk t.1=false:=yni (by omega)
 have hlen:=Lib.hid (show (Ex.tr t A B C).fl.length=1+A.fl.length+B.fl.length+C.fl.length by simp [Ex.fl];omega)
 have hll:Hid (l.length - p=1+A.fl.length+B.fl.length+C.fl.length+r.length):=by
  have:=congrArg List.length hd
  rw [List.length_drop] at this
  simp at this
  unfold Hid;omega
 clear hc h3 hpt hd ht hk hd1 ihA ihB ihC hdB hdC h18
 obtain ⟨op,x⟩:=t
 simp only at *
 cases bound
 all_goals
  go_enter Tryz.func202,Tryz.ntmps202
  go_wp2_with (first|(go_at_call 237;refine (ygw _ _).mono ?_;rintro e w' ⟨rfl,rfl⟩)|(go_at_call 241;refine (yiq _ _).mono ?_;rintro e w' ⟨rfl,rfl⟩))
  refine wp_loop_rounds 4 ?_
  rw [rounds_succ]
  go_wp2_with fail
  rw [show ((p:Int)+1)=((p+1:Nat):Int) by omega]
  refine (HIA.out (p+1) _ _ _ HDA.out (by exact ycy.below HT.out (by repeat (first|exact Below.refl _ _|refine Below.alloc ?_ (by first|(simp;done)|(simp;omega)) _))) (by exact ymc.below HK.out (by repeat (first|exact Below.refl _ _|refine Below.alloc ?_ (by first|(simp;done)|(simp;omega)) _)))).mono ?_
  rintro e w1 ⟨rfl,hb1⟩
  obtain ⟨hcl1,hfz1⟩:=zpd hb1
  have hsz1:=hb1.size
  simp at hsz1
  have B1:Below w.heap.size w w1:=Below.trans (by repeat (first|exact Below.refl _ _|refine Below.alloc ?_ (by first|(simp;done)|(simp;omega)) _)) (hb1.mono (by simp;omega))
  have B1s:=B1.size
  have z1a:w.heap.size < w1.heap.size:=by omega
  have z1b:w.heap.size+1 < w1.heap.size:=by omega
  have z1c:w.heap.size+1+1 < w1.heap.size:=by omega
  generalize ty kinds _ A=ta at *
  generalize hq1:p+1+A.fl.length=q1 at *
  have HQ1:=Lib.hid hq1
  clear hq1
  have hqb2:q1≤1000:=by have e1:=HQ1.out;have e2:=hll.out;omega
  go_wp2_with fail
  rw [rounds_succ]
  go_wp2_with fail
  refine (HIB.out q1 _ _ _ HDB.out (by exact ycy.below HT.out (B1.setCell (by first|(simp;done)|(simp;omega)) _)) (by exact ymc.below HK.out (B1.setCell (by first|(simp;done)|(simp;omega)) _))).mono ?_
  rintro e w2 ⟨rfl,hb2⟩
  obtain ⟨hcl2,hfz2⟩:=zpd hb2
  have hsz2:=hb2.size
  simp at hsz2
  have B2:Below w.heap.size w w2:=Below.trans (B1.setCell (by first|(simp;done)|(simp;omega)) _) (hb2.mono (by simp;omega))
  have B2s:=B2.size
  have z2a:w.heap.size < w2.heap.size:=by omega
  have z2b:w.heap.size+1 < w2.heap.size:=by omega
  have z2c:w.heap.size+1+1 < w2.heap.size:=by omega
  generalize ty kinds _ B=tb at *
  generalize hq2:q1+B.fl.length=q2 at *
  have HQ2:=Lib.hid hq2
  clear hq2
  have hqb3:q2≤1000:=by have e1:=HQ1.out;have e2:=hll.out;have e3:=HQ2.out;omega
  go_wp2_with fail
  rw [rounds_succ]
  go_wp2_with fail
  refine (HIC.out q2 _ _ _ HDC.out (by exact ycy.below HT.out (B2.setCell (by first|(simp;done)|(simp;omega)) _)) (by exact ymc.below HK.out (B2.setCell (by first|(simp;done)|(simp;omega)) _))).mono ?_
  rintro e w3 ⟨rfl,hb3⟩
  obtain ⟨hcl3,hfz3⟩:=zpd hb3
  have hsz3:=hb3.size
  simp at hsz3
  have B3:Below w.heap.size w w3:=Below.trans (B2.setCell (by first|(simp;done)|(simp;omega)) _) (hb3.mono (by simp;omega))
  have B3s:=B3.size
  have z3a:w.heap.size < w3.heap.size:=by omega
  have z3b:w.heap.size+1 < w3.heap.size:=by omega
  have z3c:w.heap.size+1+1 < w3.heap.size:=by omega
  generalize ty kinds _ C=tc at *
  generalize hq3:q2+C.fl.length=q3 at *
  have HQ3:=Lib.hid hq3
  clear hq3
  have hqe:q3≤1000:=by have e1:=HQ1.out;have e2:=hll.out;have e3:=HQ2.out;have e4:=HQ3.out;omega
  go_wp2_with fail
  rw [rounds_succ]
  go_wp2_with (first|(go_at_call 244;refine (yuu _ _ _ _ _ (by omega) (by omega)).mono ?_;rintro e wz ⟨rfl,hbz⟩))
  go_ret2
  refine ⟨?_,Below.trans (B3.setCell ?_ _) (hbz.mono ?_)⟩
  ·rw [HR.out,hlen.out,show p+(1+A.fl.length+B.fl.length+C.fl.length)=q3 by have e1:=HQ1.out;have e3:=HQ2.out;have e4:=HQ3.out;omega];rfl
  ·first|(simp;done)|(simp;omega)
  ·simp;omega
theorem read_any (ev kv:Value) (l:List Tm) (kinds:List Int) (hl:l.length≤1000) (E:Ex):E.ok→(∀ t∈E.fl,yrc kinds.length t=true)→yjj ev kv l kinds E:=by
 induction E with
 | lf t=>intro h ha;exact read_leaf ev kv l kinds t hl h (ha t (by simp [Ex.fl]))
 | un t a iha=>intro h ha;exact read_un ev kv l kinds t a hl h.1 (iha h.2 fun t ht=>ha t (by simp [Ex.fl,ht]))
 | bi t a b iha ihb=>intro h ha;exact read_bi ev kv l kinds t a b hl h.1 (iha h.2.1 fun t ht=>ha t (by simp [Ex.fl,ht])) (ihb h.2.2 fun t ht=>ha t (by simp [Ex.fl,ht]))
 | tr t a b c iha ihb ihc=>intro h ha;exact read_tr ev kv l kinds t a b c hl h.1 (iha h.2.1 fun t ht=>ha t (by simp [Ex.fl,ht])) (ihb h.2.2.1 fun t ht=>ha t (by simp [Ex.fl,ht])) (ihc h.2.2.2 fun t ht=>ha t (by simp [Ex.fl,ht]))
end
section
open Go.RowKit
theorem zhi {l:List Tm} {q:Nat} {X:Ex} {r:List Tm} (h:l.drop q=X.fl++r) (ho:X.ok):yre 1 q l=((q+X.fl.length:Nat):Int):=by
 unfold yre
 rw [h,zks X ho 0 r,yog]
 simp
theorem yof {l:List Tm} {q:Nat} {X:Ex} {r:List Tm} (h:l.drop q=X.fl++r):l.drop (q+X.fl.length)=r:=by
 rw [← List.drop_drop,h,List.drop_append_of_le_length (Nat.le_refl _),List.drop_length,List.nil_append]
set_option maxHeartbeats 2000000 in
theorem zjf (v:Value) (l:List Tm) (p:Nat) (E A:Ex) (t:Tm) (r r1:List Tm) (w:World) (hl:l.length≤1000) (hv:Hid (ycy w v l)) (hE:Hid (l.drop p=E.fl++r)) (ho:Hid E.ok) (hA:Hid (l.drop p=t::(A.fl++r1))) (hoA:Hid A.ok) (har:2≤ar t.1) :
  Calls Tryz.prog 268 #[v,.int .i64 p,.int .i64 1] w fun e w'=>e=.returned (.int .i64 ((p+1+A.fl.length:Nat):Int))∧w=w':=by
 obtain ⟨hp,hpt,hd1⟩:=yia hA.out
 obtain ⟨a0,cap0,rfl,h1,h2,h3⟩:=hv.out.open
 obtain ⟨g,o,rfl,hg,hc⟩:=h3 (by omega)
 obtain ⟨c0,c1⟩:=hc p t hpt
 have HE1:=Lib.hid (zhi hE.out ho.out)
 have HE2:=Lib.hid (zhi hd1 hoA.out)
 have hb:=zkm t.1
 have hb2:=hb.2
 clear hc h3 hpt hd1 hb
 go_enter Tryz.func268,Tryz.ntmps268
 go_wp2_with fail
 refine (yrr _ l p _ hl hv (by omega)).mono ?_
 rintro e w' ⟨rfl,rfl⟩
 rw [HE1.out]
 go_wp2_with (go_at_call 262;refine (yen _ _).mono ?_;rintro e w' ⟨rfl,rfl⟩)
 refine wp_loop_rounds 2 ?_
 rw [rounds_succ]
 go_wp2_with fail
 rw [show ((p:Int)+1)=((p+1:Nat):Int) by omega]
 refine (yrr _ l (p+1) _ hl hv (by omega)).mono ?_
 rintro e w' ⟨rfl,rfl⟩
 rw [HE2.out]
 go_wp2_with fail
 rw [rounds_succ]
 go_wp2_with fail
 go_ret
 exact ⟨rfl,rfl⟩
set_option maxHeartbeats 2000000 in
theorem roperand2 (v:Value) (l:List Tm) (p:Nat) (E A B:Ex) (t:Tm) (r r1:List Tm) (w:World) (hl:l.length≤1000) (hv:Hid (ycy w v l)) (hE:Hid (l.drop p=E.fl++r)) (ho:Hid E.ok) (hA:Hid (l.drop p=t::(A.fl++(B.fl++r1)))) (hoA:Hid A.ok) (hoB:Hid B.ok) (har:3≤ar t.1) :
  Calls Tryz.prog 268 #[v,.int .i64 p,.int .i64 2] w fun e w'=>e=.returned (.int .i64 ((p+1+A.fl.length+B.fl.length:Nat):Int))∧w=w':=by
 obtain ⟨hp,hpt,hd1⟩:=yia hA.out
 obtain ⟨a0,cap0,rfl,h1,h2,h3⟩:=hv.out.open
 obtain ⟨g,o,rfl,hg,hc⟩:=h3 (by omega)
 obtain ⟨c0,c1⟩:=hc p t hpt
 have HE1:=Lib.hid (zhi hE.out ho.out)
 have HE2:=Lib.hid (zhi hd1 hoA.out)
 have hd2:=yof hd1
 have HE3:=Lib.hid (zhi hd2 hoB.out)
 have hq:p+1+A.fl.length≤l.length:=by
  have h5:=congrArg List.length hA.out
  rw [List.length_drop] at h5
  simp at h5
  omega
 have hb:=zkm t.1
 have hb2:=hb.2
 clear hc h3 hpt hd1 hd2 hb
 go_enter Tryz.func268,Tryz.ntmps268
 go_wp2_with fail
 refine (yrr _ l p _ hl hv (by omega)).mono ?_
 rintro e w' ⟨rfl,rfl⟩
 rw [HE1.out]
 go_wp2_with (go_at_call 262;refine (yen _ _).mono ?_;rintro e w' ⟨rfl,rfl⟩)
 refine wp_loop_rounds 3 ?_
 rw [rounds_succ]
 go_wp2_with fail
 rw [show ((p:Int)+1)=((p+1:Nat):Int) by omega]
 refine (yrr _ l (p+1) _ hl hv (by omega)).mono ?_
 rintro e w' ⟨rfl,rfl⟩
 rw [HE2.out]
 generalize hqe:p+1+A.fl.length=q at *
 have HQ:=Lib.hid hqe
 clear hqe
 go_wp2_with fail
 rw [rounds_succ]
 go_wp2_with fail
 refine (yrr _ l q _ hl hv (by omega)).mono ?_
 rintro e w' ⟨rfl,rfl⟩
 rw [HE3.out]
 go_wp2_with fail
 rw [rounds_succ]
 go_wp2_with fail
 go_ret
 exact ⟨ybd (by have:=HQ.out;simp;omega),rfl⟩
end
section
open Go.RowKit
def KindRet (kinds:List Int) (bound:Bool) (E:Ex) (w:World) (e:Ending) (w':World):Prop:=
 e=.returned (.int .i64 (ty kinds bound E))∧Below w.heap.size w w'
def yji (ev kv:Value) (l:List Tm) (kinds:List Int) (E:Ex):Prop:=
 ∀ (p:Nat) (r:List Tm) (bound:Bool) (w:World),l.drop p=E.fl++r→ycy w ev l→ymc .i64 w kv kinds →
  Calls Tryz.prog 287 #[ev,.int .i64 p,kv,.bool bound] w (KindRet kinds bound E w)
theorem rleaf_ty (kv:Value) (kinds:List Int) (op x:Int) (bound:Bool) (w:World) (hk:Hid (ymc .i64 w kv kinds)) (h1:1≤op) (h2:op≤17) (hx:op=5∨op=12→0≤x∧x < kinds.length) :
  Calls Tryz.prog 311 #[.agg #[.int .i64 op,.int .i64 x],kv,.bool bound] w fun e w'=>e=.returned (.int .i64 (ty kinds bound (.lf (op,x))))∧Below w.heap.size w w':=
 (rleaf_any kv kinds op x bound w hk h1 h2 hx).mono fun e w' ⟨he,hb⟩=>⟨by rw [he];rfl,hb⟩
set_option maxHeartbeats 1000000 in
theorem kind_leaf (ev kv:Value) (l:List Tm) (kinds:List Int) (t:Tm) (hl:l.length≤1000) (h0:ar t.1=0) (ha:Hid (yrc kinds.length t=true)):yji ev kv l kinds (.lf t):=by
 intro p r bound w hd ht hk
 obtain ⟨a0,cap0,rfl,h1,h2,h3⟩:=ht.open
 obtain ⟨hp,hpt,_⟩:=yia hd
 obtain ⟨g,o,rfl,hg,hc⟩:=h3 (by omega)
 obtain ⟨c0,c1⟩:=hc p t hpt
 obtain ⟨h11,h17⟩:=zqv h0
 have HK:=Lib.hid hk
 have hz:(ar t.1 == 0)=true:=by rw [h0];rfl
 clear hc h3 hpt hd ht hk h0
 obtain ⟨op,x⟩:=t
 simp only at *
 go_enter Tryz.func287,Tryz.ntmps287
 go_wp2_with (first|(go_at_call 262;refine (yen _ _).mono ?_;rintro e w' ⟨rfl,rfl⟩)|(go_at_call 311;refine (rleaf_ty _ kinds op x bound _ HK h11 h17 (zmc ha.out)).mono ?_;rintro e w1 ⟨rfl,hb1⟩))
 go_ret
 exact ⟨rfl,hb1⟩
set_option maxHeartbeats 2000000 in
theorem kind_un (ev kv:Value) (l:List Tm) (kinds:List Int) (t:Tm) (A:Ex) (hl:l.length≤1000) (h0:ar t.1=1) (ihA:yji ev kv l kinds A):yji ev kv l kinds (.un t A):=by
 intro p r bound w hd ht hk
 obtain ⟨a0,cap0,rfl,h1,h2,h3⟩:=ht.open
 simp only [Ex.fl,List.cons_append] at hd
 obtain ⟨hp,hpt,hd1⟩:=yia hd
 obtain ⟨g,o,rfl,hg,hc⟩:=h3 (by omega)
 obtain ⟨c0,c1⟩:=hc p t hpt
 obtain ⟨h18,h29⟩:=zuy h0
 have HT:=Lib.hid ht
 have HK:=Lib.hid hk
 have HD1:=Lib.hid hd1
 have HIA:=Lib.hid ihA
 have HR:Hid (ty kinds bound (.un t A)=ty1 t.1 (ty kinds (bound || yjk t.1) A)):=rfl
 have hz:(ar t.1 == 0)=false:=by rw [h0];rfl
 have hz1:(ar t.1 == 1)=true:=by rw [h0];rfl
 have hpl:p+1≤1000:=by omega
 clear hc h3 hpt hd ht hk hd1 ihA h0
 obtain ⟨op,x⟩:=t
 simp only at *
 rcases Bool.eq_false_or_eq_true (yjk op) with hn|hn <;> cases bound
 all_goals
  simp only [hn,Bool.or_true,Bool.or_false] at HR
  go_enter Tryz.func287,Tryz.ntmps287
  go_wp2_with (first|(go_at_call 262;refine (yen _ _).mono ?_;rintro e w' ⟨rfl,rfl⟩)|(go_at_call 264;refine (yqt _ _).mono ?_;rintro e w' ⟨rfl,rfl⟩))
  rw [show ((p:Int)+1)=((p+1:Nat):Int) by omega]
  refine (HIA.out (p+1) r _ _ HD1.out HT.out HK.out).mono ?_
  rintro e w1 ⟨rfl,hb1⟩
  generalize ty kinds _ A=ta at *
  go_wp2_with (first|(go_at_call 312;refine (rsingle_any _ _ _ (by omega) (by omega)).mono ?_;rintro e w2 ⟨rfl,rfl⟩))
  go_ret
  exact ⟨ybd HR.out.symm,hb1⟩
set_option maxHeartbeats 4000000 in
theorem kind_bi (ev kv:Value) (l:List Tm) (kinds:List Int) (t:Tm) (A B:Ex) (hl:l.length≤1000) (h0:ar t.1=2) (hoA:A.ok) (hoB:B.ok) (ihA:yji ev kv l kinds A) (ihB:yji ev kv l kinds B):yji ev kv l kinds (.bi t A B):=by
 intro p r bound w hd ht hk
 obtain ⟨a0,cap0,rfl,h1,h2,h3⟩:=ht.open
 have HE:=Lib.hid hd
 have HO:Hid (Ex.bi t A B).ok:=⟨h0,hoA,hoB⟩
 have HOA:=Lib.hid hoA
 simp only [Ex.fl,List.cons_append,List.append_assoc] at hd
 have HA:=Lib.hid hd
 obtain ⟨hp,hpt,hd1⟩:=yia hd
 obtain ⟨g,o,rfl,hg,hc⟩:=h3 (by omega)
 obtain ⟨c0,c1⟩:=hc p t hpt
 obtain ⟨h30,h42⟩:=zuz h0
 have HT:=Lib.hid ht
 have HK:=Lib.hid hk
 have HDA:=Lib.hid hd1
 have HDB:=Lib.hid (yof hd1)
 have HIA:=Lib.hid ihA
 have HIB:=Lib.hid ihB
 have HR:Hid (ty kinds bound (.bi t A B)=ty2 t.1 (ty kinds bound A) (ty kinds bound B)):=rfl
 have hz:(ar t.1 == 0)=false:=by rw [h0];rfl
 have hz1:(ar t.1 == 1)=false:=by rw [h0];rfl
 have hz2:(ar t.1 == 2)=true:=by rw [h0];rfl
 have hge:2≤ar t.1:=by omega
 clear hc h3 hpt hd ht hk hd1 ihA ihB h0 hoA hoB
 go_enter Tryz.func287,Tryz.ntmps287
 go_wp2_with (go_at_call 262;refine (yen _ _).mono ?_;rintro e w' ⟨rfl,rfl⟩)
 rw [show ((p:Int)+1)=((p+1:Nat):Int) by omega]
 refine (HIA.out (p+1) _ _ _ HDA.out HT.out HK.out).mono ?_
 rintro e w1 ⟨rfl,hb1⟩
 generalize ty kinds bound A=ta at *
 go_wp2_with fail
 refine (zjf _ l p (.bi t A B) A t r _ _ hl (by exact HT.out.below hb1) HE HO HA HOA hge).mono ?_
 rintro e w2 ⟨rfl,rfl⟩
 generalize p+1+A.fl.length=q1 at *
 go_wp2_with fail
 refine (HIB.out q1 _ _ _ HDB.out (HT.out.below hb1) (HK.out.below hb1)).mono ?_
 rintro e w3 ⟨rfl,hb3⟩
 generalize ty kinds bound B=tb at *
 go_wp2_with (first|(go_at_call 313;refine (rdouble_any _ _ _ _ (by omega) (by omega)).mono ?_;rintro e w2 ⟨rfl,rfl⟩))
 go_ret
 exact ⟨ybd HR.out.symm,yeh hb1 hb3⟩
set_option maxHeartbeats 4000000 in
theorem kind_tr (ev kv:Value) (l:List Tm) (kinds:List Int) (t:Tm) (A B C:Ex) (hl:l.length≤1000) (h0:ar t.1=3) (hoA:A.ok) (hoB:B.ok) (hoC:C.ok) (ihA:yji ev kv l kinds A) (ihB:yji ev kv l kinds B) (ihC:yji ev kv l kinds C):yji ev kv l kinds (.tr t A B C):=by
 intro p r bound w hd ht hk
 obtain ⟨a0,cap0,rfl,h1,h2,h3⟩:=ht.open
 have HE:=Lib.hid hd
 have HO:Hid (Ex.tr t A B C).ok:=⟨h0,hoA,hoB,hoC⟩
 have HOA:=Lib.hid hoA
 have HOB:=Lib.hid hoB
 simp only [Ex.fl,List.cons_append,List.append_assoc] at hd
 have HA:=Lib.hid hd
 obtain ⟨hp,hpt,hd1⟩:=yia hd
 obtain ⟨g,o,rfl,hg,hc⟩:=h3 (by omega)
 obtain ⟨c0,c1⟩:=hc p t hpt
 have HT:=Lib.hid ht
 have HK:=Lib.hid hk
 have HDA:=Lib.hid hd1
 have HDB:=Lib.hid (yof hd1)
 have HDC:=Lib.hid (yof (yof hd1))
 have HIA:=Lib.hid ihA
 have HIB:=Lib.hid ihB
 have HIC:=Lib.hid ihC
 have HR:Hid (ty kinds bound (.tr t A B C)=ty3 (ty kinds bound A) (ty kinds bound B) (ty kinds bound C)):=rfl
 have hz:(ar t.1 == 0)=false:=by rw [h0];rfl
 have hz1:(ar t.1 == 1)=false:=by rw [h0];rfl
 have hz2:(ar t.1 == 2)=false:=by rw [h0];rfl
 have hge:2≤ar t.1:=by omega
 have hge3:3≤ar t.1:=by omega
 clear hc h3 hpt hd ht hk hd1 ihA ihB h0 hoA hoB hoC ihC
 go_enter Tryz.func287,Tryz.ntmps287
 go_wp2_with (go_at_call 262;refine (yen _ _).mono ?_;rintro e w' ⟨rfl,rfl⟩)
 rw [show ((p:Int)+1)=((p+1:Nat):Int) by omega]
 refine (HIA.out (p+1) _ _ _ HDA.out HT.out HK.out).mono ?_
 rintro e w1 ⟨rfl,hb1⟩
 generalize ty kinds bound A=ta at *
 go_wp2_with fail
 refine (zjf _ l p (.tr t A B C) A t r _ _ hl (by exact HT.out.below hb1) HE HO HA HOA hge).mono ?_
 rintro e w2 ⟨rfl,rfl⟩
 go_wp2_with fail
 refine (HIB.out (p+1+A.fl.length) _ _ _ HDB.out (HT.out.below hb1) (HK.out.below hb1)).mono ?_
 rintro e w3 ⟨rfl,hb3⟩
 have hb13:=yeh hb1 hb3
 generalize ty kinds bound B=tb at *
 go_wp2_with fail
 refine (roperand2 _ l p (.tr t A B C) A B t r _ _ hl (by exact HT.out.below hb13) HE HO HA HOA HOB hge3).mono ?_
 rintro e w4 ⟨rfl,rfl⟩
 generalize p+1+A.fl.length+B.fl.length=q2 at *
 go_wp2_with fail
 refine (HIC.out q2 _ _ _ HDC.out (HT.out.below hb13) (HK.out.below hb13)).mono ?_
 rintro e w5 ⟨rfl,hb5⟩
 generalize ty kinds bound C=tc at *
 by_cases q:ta=2
 ·have q':(ta != 2)=false:=by simp [q]
  have Q:=Lib.hid q
  clear q
  go_wp2_with fail
  all_goals go_ret
  all_goals refine ⟨ybd ?_,yeh hb13 hb5⟩
  all_goals (rw [HR.out];simp [ty3,Q.out];first|done|(simp at *;omega))
 ·have q':(ta != 2)=true:=by simp [q]
  go_wp2_with fail
  go_ret
  refine ⟨ybd ?_,yeh hb13 hb5⟩
  rw [HR.out];simp [ty3,q]
theorem kind_any (ev kv:Value) (l:List Tm) (kinds:List Int) (hl:l.length≤1000) (E:Ex):E.ok→(∀ t∈E.fl,yrc kinds.length t=true)→yji ev kv l kinds E:=by
 induction E with
 | lf t=>intro h ha;exact kind_leaf ev kv l kinds t hl h (ha t (by simp [Ex.fl]))
 | un t a iha=>intro h ha;exact kind_un ev kv l kinds t a hl h.1 (iha h.2 fun t ht=>ha t (by simp [Ex.fl,ht]))
 | bi t a b iha ihb=>intro h ha;exact kind_bi ev kv l kinds t a b hl h.1 h.2.1 h.2.2 (iha h.2.1 fun t ht=>ha t (by simp [Ex.fl,ht])) (ihb h.2.2 fun t ht=>ha t (by simp [Ex.fl,ht]))
 | tr t a b c iha ihb ihc=>intro h ha;exact kind_tr ev kv l kinds t a b c hl h.1 h.2.1 h.2.2.1 h.2.2.2 (iha h.2.1 fun t ht=>ha t (by simp [Ex.fl,ht])) (ihb h.2.2.1 fun t ht=>ha t (by simp [Ex.fl,ht])) (ihc h.2.2.2 fun t ht=>ha t (by simp [Ex.fl,ht]))
end
section
open Go.RowKit
theorem zym (ev kv:Value) (l:List Tm) (kinds:List Int) (bound:Bool) (E:Ex) (w:World) (hl:l.length≤1000) (ho:Hid E.ok) (ha:Hid (∀ t∈l,yrc kinds.length t=true)) (hf:Hid (E.fl=l)) (ht:ycy w ev l) (hk:ymc .i64 w kv kinds) :
  Calls Tryz.prog 202 #[.agg #[ev,kv],.int .i64 0,.bool bound] w fun e w'=>e=.returned (.tuple #[.int .i64 (ty kinds bound E),.int .i64 l.length])∧Below w.heap.size w w':=
 (read_any ev kv l kinds hl E ho.out (by rw [hf.out];exact ha.out) 0 [] bound w (by simp [hf.out]) ht hk).mono fun e w' ⟨he,hb⟩=>⟨by rw [he,Nat.zero_add,hf.out],hb⟩
theorem kind0 (ev kv:Value) (l:List Tm) (kinds:List Int) (bound:Bool) (E:Ex) (w:World) (hl:l.length≤1000) (ho:Hid E.ok) (ha:Hid (∀ t∈l,yrc kinds.length t=true)) (hf:Hid (E.fl=l)) (ht:ycy w ev l) (hk:ymc .i64 w kv kinds) :
  Calls Tryz.prog 287 #[ev,.int .i64 0,kv,.bool bound] w fun e w'=>e=.returned (.int .i64 (ty kinds bound E))∧Below w.heap.size w w':=
 (kind_any ev kv l kinds hl E ho.out (by rw [hf.out];exact ha.out) 0 [] bound w (by simp [hf.out]) ht hk)
theorem kindsB_bad {kinds:List Int} (k:Nat) (hk:k < kinds.length) (h:yrj kinds[k]=false):yfh kinds=false:=by
 unfold yfh
 rw [List.all_eq_false]
 exact ⟨kinds[k],List.getElem_mem hk,by unfold yrj at h;simp [h]⟩
theorem kindsB_step {kinds:List Int} (k:Nat) (hk:k < kinds.length) (h:yfh (kinds.take k)=true) (hw:yrj kinds[k]=true):yfh (kinds.take (k+1))=true:=by
 rw [List.take_succ_eq_append_getElem hk]
 unfold yfh at *
 rw [List.all_append,h]
 unfold yrj at hw
 simpa using hw
def zwl (l:List Tm) (kinds:List Int) (bound:Bool) (w:World) (e:Ending) (w':World):Prop:=
 e=.returned (.tuple #[.int .i64 (ofF l kinds bound).1,.int .i64 (ofF l kinds bound).2])∧Below w.heap.size w w'
theorem zcz {l:List Tm} {kinds:List Int} {bound:Bool} {w w':World} {a b:Int} (h:ofF l kinds bound=(a,b)) (hb:Below w.heap.size w w'):zwl l kinds bound w (.returned (.tuple #[.int .i64 a,.int .i64 b])) w':=by
 unfold zwl;rw [h];exact ⟨rfl,hb⟩
set_option maxHeartbeats 4000000 in
theorem of_any (ev kv:Value) (l:List Tm) (kinds:List Int) (bound:Bool) (w:World) (hl:l.length≤1000) (hv:Hid (ycy w ev l)) (hk:Hid (ymc .i64 w kv kinds)) :
  Calls Tryz.prog 144 #[ev,kv,.bool bound] w (zwl l kinds bound w):=by
 obtain ⟨a0,cap0,rfl,i1,i2,i3,i4⟩:=hk.out.open
 have HC:=Lib.hid i4
 obtain ⟨a1,cap1,rfl,_,_,j3⟩:=hv.out.open
 clear i3 i4 j3
 by_cases h6:6 < kinds.length
 ·have H:=Lib.hid (znu l kinds bound h6)
  go_enter Tryz.func144,Tryz.ntmps144
  go_wp2_with fail
  go_ret2
  exact zcz H.out (Below.refl _ _)
 have b6:decide (6 < kinds.length)=false:=by simp;omega
 have b6':decide (6 < (kinds.length:Int))=false:=by simp;omega
 cases hval:ycr l kinds.length with
 | false=>
  have H:=Lib.hid (yzn l kinds bound hval)
  go_enter Tryz.func144,Tryz.ntmps144
  go_wp2_with fail
  go_loop [9,18] (fun _ i=>∃ k:Nat,k≤kinds.length∧i=.int .i64 k) (fun _ i=>kinds.length - (intOf i).toNat)
  case atStart=>exact ⟨0,by omega,rfl⟩
  case round=>
   obtain ⟨k,hkl,rfl⟩:=hrel
   by_cases hlt:k < kinds.length
   ·obtain ⟨g,o,rfl,hg,hc⟩:=HC.out (by omega)
    have c0:=hc k _ (List.getElem?_eq_getElem hlt)
    clear hc
    rcases Bool.eq_false_or_eq_true (yrj kinds[k]) with hw|hw
    ·go_wp2_with (go_at_call 201;refine (ycx _ _).mono ?_;rintro e w1 ⟨rfl,rfl⟩)
     exact ⟨⟨k+1,by omega,by go_num⟩,by simp [intOf];omega⟩
    ·go_wp2_with (go_at_call 201;refine (ycx _ _).mono ?_;rintro e w1 ⟨rfl,rfl⟩)
     go_ret2
     exact zcz H.out (Below.refl _ _)
   ·go_wp2_with (go_at_call 143;refine (yim _ l _ _ hl hv).mono ?_;rintro e w1 ⟨rfl,hb1⟩)
    go_ret2
    exact zcz H.out hb1
 | true=>
  obtain ⟨E,hp,ho,hf,hlen,harg,_,_⟩:=ynf hval
  have HO:=Lib.hid ho
  have HF:=Lib.hid hf
  have HA:=Lib.hid (List.all_eq_true.1 harg)
  have HP:=Lib.hid hp
  have HV:=Lib.hid hval
  clear ho hf harg hp
  go_enter Tryz.func144,Tryz.ntmps144
  go_wp2_with fail
  go_loop [9,18] (fun _ i=>∃ k:Nat,k≤kinds.length∧i=.int .i64 k∧Hid (yfh (kinds.take k)=true)) (fun _ i=>kinds.length - (intOf i).toNat)
  case atStart=>exact ⟨0,by omega,rfl,rfl⟩
  case round=>
   obtain ⟨k,hkl,rfl,hall⟩:=hrel
   by_cases hlt:k < kinds.length
   ·obtain ⟨g,o,rfl,hg,hc⟩:=HC.out (by omega)
    have c0:=hc k _ (List.getElem?_eq_getElem hlt)
    clear hc
    rcases Bool.eq_false_or_eq_true (yrj kinds[k]) with hw|hw
    ·have HN:=Lib.hid (kindsB_step k hlt hall.out hw)
     go_wp2_with (go_at_call 201;refine (ycx _ _).mono ?_;rintro e w1 ⟨rfl,rfl⟩)
     exact ⟨⟨k+1,by omega,by go_num,HN⟩,by simp [intOf];omega⟩
    ·have HN:=Lib.hid (zit l kinds bound (kindsB_bad k hlt hw))
     go_wp2_with (go_at_call 201;refine (ycx _ _).mono ?_;rintro e w1 ⟨rfl,rfl⟩)
     go_ret2
     exact zcz HN.out (Below.refl _ _)
   ·have hkk:=hall.out
    rw [List.take_of_length_le (by omega)] at hkk
    have HN:=Lib.hid (zso l kinds bound E h6 hkk HV.out HP.out)
    clear hkk
    by_cases hz:ty kinds bound E=0
    ·have hz':(ty kinds bound E == 0)=true:=by simp [hz]
     have HZ:=Lib.hid hz
     clear hz
     go_wp2_with (go_at_call 143;refine (yim _ l _ _ hl hv).mono ?_;rintro e w1 ⟨rfl,hb1⟩)
     refine (zym _ _ l kinds bound E _ hl HO HA HF (by exact hv.out.below (hb1.alloc (by have:=hb1.size;omega) _)) (by exact hk.out.below (hb1.alloc (by have:=hb1.size;omega) _))).mono ?_
     rintro e w2 ⟨rfl,hb2⟩
     have hs1:=hb1.size
     go_wp2_with fail
     go_ret2
     exact zcz (by rw [HN.out,if_pos HZ.out]) ((hb1.alloc hs1 _).trans (hb2.mono (by simp;omega)))
    ·have hz':(ty kinds bound E == 0)=false:=by simp [hz]
     go_wp2_with (go_at_call 143;refine (yim _ l _ _ hl hv).mono ?_;rintro e w1 ⟨rfl,hb1⟩)
     refine (zym _ _ l kinds bound E _ hl HO HA HF (by exact hv.out.below (hb1.alloc (by have:=hb1.size;omega) _)) (by exact hk.out.below (hb1.alloc (by have:=hb1.size;omega) _))).mono ?_
     rintro e w2 ⟨rfl,hb2⟩
     have hs1:=hb1.size
     go_wp2_with fail
     go_ret2
     exact zcz (by rw [HN.out,if_neg hz]) ((hb1.alloc hs1 _).trans (hb2.mono (by simp;omega)))
end
section
open Go.RowKit
theorem zun (ev kv:Value) (l:List Tm) (kinds:List Int) (bound:Bool) (a b:Int) (w:World) (hl:l.length≤1000) (hv:ycy w ev l) (hk:ymc .i64 w kv kinds) (h:ofF l kinds bound=(a,b)) :
  Calls Tryz.prog 144 #[ev,kv,.bool bound] w fun e w'=>e=.returned (.tuple #[.int .i64 a,.int .i64 b])∧Below w.heap.size w w':=
 (of_any ev kv l kinds bound w hl hv hk).mono fun e w' ⟨he,hb⟩=>⟨by rw [he,h],hb⟩
theorem ysn (v:Value) (l:List Tm) (w:World) (hv:Hid (ycy w v l)):Calls Tryz.prog 167 #[v] w fun e w'=>e=.returned (.bool (decide (l.length≤250)))∧w=w':=by
 obtain ⟨a0,cap0,rfl,h1,h2,h3⟩:=hv.out.open
 clear h3
 go_enter Tryz.func167,Tryz.ntmps167
 go_wp2
 go_ret
 exact ⟨yab (by simp;omega),rfl⟩
end
set_option linter.unusedVariables false
section
open Go.RowKit
def yca (n lo hi:Int):Bool:=decide (lo≤n) && decide (n≤hi)
theorem yeo (n lo hi:Int) (w:World):Calls Tryz.prog 220 #[.int .i64 n,.int .i64 lo,.int .i64 hi] w fun e w'=>e=.returned (.bool (yca n lo hi))∧w=w':=by
 go_enter Tryz.func220,Tryz.ntmps220
 go_wp2
 all_goals go_ret
 all_goals exact ⟨yab (by rw [Bool.eq_iff_iff];simp [yca];try omega),rfl⟩
theorem yfm (n lo hi:Int) (w:World):Calls Tryz.prog 256 #[.int .i64 n,.int .i64 lo,.int .i64 hi] w fun e w'=>e=.returned (.bool (yca n lo hi))∧w=w':=by
 go_enter Tryz.func256,Tryz.ntmps256
 go_wp2
 all_goals go_ret
 all_goals exact ⟨yab (by rw [Bool.eq_iff_iff];simp [yca];try omega),rfl⟩
def ymd (x:VarD):Bool:=
 yrj x.kind && (if (x.kind != 1)=true then (x.lo == 0) && ((x.hi == 0) && ((x.perNode == 0) && (x.perID == 0))) else
  yca x.lo 0 4096 && (yca x.perNode 0 255 && (yca x.perID 0 255 && (if ((x.perNode == 0) && (x.perID == 0))=true then yca x.hi 0 4096 else ((x.perNode == 0) || (x.perID == 0)) && yca x.hi (-4096) 4096))))
theorem zni (k:Int) (h:(k != 1)=false):yrj k=true:=by
 simp at h;subst h;rfl
set_option maxHeartbeats 4000000 in
theorem yzm (x:VarD) (w:World):Calls Tryz.prog 160 #[.agg #[.string x.name,.int .i64 x.kind,.int .i64 x.lo,.int .i64 x.hi,.int .i64 x.perNode,.int .i64 x.perID]] w fun e w'=>e=.returned (.bool (ymd x))∧Below w.heap.size w w':=by
 obtain ⟨name,kind,lo,hi,pn,pi⟩:=x
 rcases Bool.eq_false_or_eq_true (kind != 1) with q1|q1
 ·rcases Bool.eq_false_or_eq_true (yrj kind) with q0|q0
  ·rcases Bool.eq_false_or_eq_true (lo == 0) with q2|q2 <;> rcases Bool.eq_false_or_eq_true (hi == 0) with q3|q3 <;> rcases Bool.eq_false_or_eq_true (pn == 0) with q4|q4
   all_goals
    go_enter Tryz.func160,Tryz.ntmps160
    go_wp2_with (first|(go_at_call 201;refine (ycx _ _).mono ?_;rintro e w1 ⟨rfl,rfl⟩)|(go_at_call 220;refine (yeo _ _ _ _).mono ?_;rintro e w1 ⟨rfl,rfl⟩))
    go_ret
    exact ⟨yab (by simp [ymd, *]),(Below.refl _ _).alloc (Nat.le_refl _) _⟩
  ·
   go_enter Tryz.func160,Tryz.ntmps160
   go_wp2_with (first|(go_at_call 201;refine (ycx _ _).mono ?_;rintro e w1 ⟨rfl,rfl⟩)|(go_at_call 220;refine (yeo _ _ _ _).mono ?_;rintro e w1 ⟨rfl,rfl⟩))
   go_ret
   exact ⟨yab (by simp [ymd, *]),(Below.refl _ _).alloc (Nat.le_refl _) _⟩
 ·have q0:=zni kind q1
  rcases Bool.eq_false_or_eq_true (yca lo 0 4096) with q2|q2
  ·rcases Bool.eq_false_or_eq_true (yca pn 0 255) with q3|q3
   ·rcases Bool.eq_false_or_eq_true (yca pi 0 255) with q4|q4
    ·rcases Bool.eq_false_or_eq_true (pn == 0) with q5|q5 <;> rcases Bool.eq_false_or_eq_true (pi == 0) with q6|q6
     all_goals have q7:(pn != 0)=!(pn == 0):=rfl
     all_goals have q8:(pi != 0)=!(pi == 0):=rfl
     all_goals simp only [q5,q6,Bool.not_true,Bool.not_false] at q7 q8
     all_goals
      go_enter Tryz.func160,Tryz.ntmps160
      go_wp2_with (first|(go_at_call 201;refine (ycx _ _).mono ?_;rintro e w1 ⟨rfl,rfl⟩)|(go_at_call 220;refine (yeo _ _ _ _).mono ?_;rintro e w1 ⟨rfl,rfl⟩))
      go_ret
      exact ⟨yab (by simp [ymd, *]),(Below.refl _ _).alloc (Nat.le_refl _) _⟩
    ·
     go_enter Tryz.func160,Tryz.ntmps160
     go_wp2_with (first|(go_at_call 201;refine (ycx _ _).mono ?_;rintro e w1 ⟨rfl,rfl⟩)|(go_at_call 220;refine (yeo _ _ _ _).mono ?_;rintro e w1 ⟨rfl,rfl⟩))
     go_ret
     exact ⟨yab (by simp [ymd, *]),(Below.refl _ _).alloc (Nat.le_refl _) _⟩
   ·
    go_enter Tryz.func160,Tryz.ntmps160
    go_wp2_with (first|(go_at_call 201;refine (ycx _ _).mono ?_;rintro e w1 ⟨rfl,rfl⟩)|(go_at_call 220;refine (yeo _ _ _ _).mono ?_;rintro e w1 ⟨rfl,rfl⟩))
    go_ret
    exact ⟨yab (by simp [ymd, *]),(Below.refl _ _).alloc (Nat.le_refl _) _⟩
  ·
   go_enter Tryz.func160,Tryz.ntmps160
   go_wp2_with (first|(go_at_call 201;refine (ycx _ _).mono ?_;rintro e w1 ⟨rfl,rfl⟩)|(go_at_call 220;refine (yeo _ _ _ _).mono ?_;rintro e w1 ⟨rfl,rfl⟩))
   go_ret
   exact ⟨yab (by simp [ymd, *]),(Below.refl _ _).alloc (Nat.le_refl _) _⟩
set_option maxHeartbeats 4000000 in
theorem yvx (x:VarD) (w:World):Calls Tryz.prog 258 #[.agg #[.string x.name,.int .i64 x.kind,.int .i64 x.lo,.int .i64 x.hi,.int .i64 x.perNode,.int .i64 x.perID]] w fun e w'=>e=.returned (.bool (ymd x))∧Below w.heap.size w w':=by
 obtain ⟨name,kind,lo,hi,pn,pi⟩:=x
 rcases Bool.eq_false_or_eq_true (kind != 1) with q1|q1
 ·rcases Bool.eq_false_or_eq_true (yrj kind) with q0|q0
  ·rcases Bool.eq_false_or_eq_true (lo == 0) with q2|q2 <;> rcases Bool.eq_false_or_eq_true (hi == 0) with q3|q3 <;> rcases Bool.eq_false_or_eq_true (pn == 0) with q4|q4
   all_goals
    go_enter Tryz.func258,Tryz.ntmps258
    go_wp2_with (first|(go_at_call 285;refine (ylt _ _).mono ?_;rintro e w1 ⟨rfl,rfl⟩)|(go_at_call 256;refine (yfm _ _ _ _).mono ?_;rintro e w1 ⟨rfl,rfl⟩))
    go_ret
    exact ⟨yab (by simp [ymd, *]),(Below.refl _ _).alloc (Nat.le_refl _) _⟩
  ·
   go_enter Tryz.func258,Tryz.ntmps258
   go_wp2_with (first|(go_at_call 285;refine (ylt _ _).mono ?_;rintro e w1 ⟨rfl,rfl⟩)|(go_at_call 256;refine (yfm _ _ _ _).mono ?_;rintro e w1 ⟨rfl,rfl⟩))
   go_ret
   exact ⟨yab (by simp [ymd, *]),(Below.refl _ _).alloc (Nat.le_refl _) _⟩
 ·have q0:=zni kind q1
  rcases Bool.eq_false_or_eq_true (yca lo 0 4096) with q2|q2
  ·rcases Bool.eq_false_or_eq_true (yca pn 0 255) with q3|q3
   ·rcases Bool.eq_false_or_eq_true (yca pi 0 255) with q4|q4
    ·rcases Bool.eq_false_or_eq_true (pn == 0) with q5|q5 <;> rcases Bool.eq_false_or_eq_true (pi == 0) with q6|q6
     all_goals have q7:(pn != 0)=!(pn == 0):=rfl
     all_goals have q8:(pi != 0)=!(pi == 0):=rfl
     all_goals simp only [q5,q6,Bool.not_true,Bool.not_false] at q7 q8
     all_goals
      go_enter Tryz.func258,Tryz.ntmps258
      go_wp2_with (first|(go_at_call 285;refine (ylt _ _).mono ?_;rintro e w1 ⟨rfl,rfl⟩)|(go_at_call 256;refine (yfm _ _ _ _).mono ?_;rintro e w1 ⟨rfl,rfl⟩))
      go_ret
      exact ⟨yab (by simp [ymd, *]),(Below.refl _ _).alloc (Nat.le_refl _) _⟩
    ·
     go_enter Tryz.func258,Tryz.ntmps258
     go_wp2_with (first|(go_at_call 285;refine (ylt _ _).mono ?_;rintro e w1 ⟨rfl,rfl⟩)|(go_at_call 256;refine (yfm _ _ _ _).mono ?_;rintro e w1 ⟨rfl,rfl⟩))
     go_ret
     exact ⟨yab (by simp [ymd, *]),(Below.refl _ _).alloc (Nat.le_refl _) _⟩
   ·
    go_enter Tryz.func258,Tryz.ntmps258
    go_wp2_with (first|(go_at_call 285;refine (ylt _ _).mono ?_;rintro e w1 ⟨rfl,rfl⟩)|(go_at_call 256;refine (yfm _ _ _ _).mono ?_;rintro e w1 ⟨rfl,rfl⟩))
    go_ret
    exact ⟨yab (by simp [ymd, *]),(Below.refl _ _).alloc (Nat.le_refl _) _⟩
  ·
   go_enter Tryz.func258,Tryz.ntmps258
   go_wp2_with (first|(go_at_call 285;refine (ylt _ _).mono ?_;rintro e w1 ⟨rfl,rfl⟩)|(go_at_call 256;refine (yfm _ _ _ _).mono ?_;rintro e w1 ⟨rfl,rfl⟩))
   go_ret
   exact ⟨yab (by simp [ymd, *]),(Below.refl _ _).alloc (Nat.le_refl _) _⟩
end
section
open Go.RowKit
def ynu:Bool→List UInt8→Nat
 | _,[]=>0
 | true,c::r=>if c=10 then 1+ynu false r else 1+ynu true r
 | false,c::r=>if c=32∨c=9∨c=10∨c=13 then 1+ynu false r else if c=35 then 1+ynu true r else 0
def yaz (s:ByteArray) (k:Nat):List UInt8:=s.data.toList.drop k
def zdn (s:ByteArray) (b:Bool) (a:Nat):Nat:=a+ynu b (yaz s a)
theorem ykf (s:ByteArray) (k:Nat) (h:k < s.size):yaz s k=s[k]::yaz s (k+1):=by
 unfold yaz
 rw [List.drop_eq_getElem_cons (by simpa using h)];rfl
theorem bytesFrom_ge (s:ByteArray) (k:Nat) (h:s.size≤k):yaz s k=[]:=by
 unfold yaz
 exact List.drop_eq_nil_of_le (by simpa using h)
theorem bytesFrom_drop (s:ByteArray) (k n:Nat):(yaz s k).drop n=yaz s (k+n):=by
 unfold yaz;rw [List.drop_drop]
theorem yio (s:ByteArray) (k:Nat):(yaz s k).length=s.size - k:=by
 unfold yaz;simp
theorem skipL_le (b:Bool) (r:List UInt8):ynu b r≤r.length:=by
 induction r generalizing b with
 | nil=>cases b <;> simp [ynu]
 | cons c r ih=>
  have h1:=ih true
  have h2:=ih false
  cases b <;> simp only [ynu,List.length_cons] <;> repeat' split
  all_goals omega
theorem skipTo_bd (s:ByteArray) (b:Bool) (k:Nat) (h:k≤s.size):k≤zdn s b k∧zdn s b k≤s.size:=by
 have:=skipL_le b (yaz s k)
 rw [yio] at this
 unfold zdn;omega
def yha (c:UInt8):Bool:=(97≤c && c≤122) || (65≤c && c≤90)
def yqk (c:UInt8):Bool:=48≤c && c≤57
def yma (c:UInt8):Bool:=yha c || yqk c || c == 95
def zyo (p:UInt8→Bool):List UInt8→Nat
 | []=>0
 | c::r=>if p c then 1+zyo p r else 0
def dig (v:Nat) (c:UInt8):Nat:=10 * v+(c.toNat - 48)
def xad (v:Nat) (ds:List UInt8):Nat:=ds.foldl dig v
def numRes (ds:List UInt8):Option Nat:=if (1 < ds.length∧ds.head?=some 48)∨1073741824 < xad 0 ds then none else some (xad 0 ds)
theorem take_snoc (s:ByteArray) (k:Nat) (h:k < s.size):(yaz s 0).take (k+1)=(yaz s 0).take k++[s[k]]:=by
 unfold yaz
 rw [List.drop_zero,List.take_succ_eq_append_getElem (by simpa using h)];rfl
theorem take_all (s:ByteArray) (k:Nat) (h:s.size≤k):(yaz s 0).take k=yaz s 0:=by
 rw [List.take_of_length_le];rw [yio];omega
theorem mem_bytes (s:ByteArray) (k:Nat) (h:k < s.size):s[k]∈yaz s 0:=by
 unfold yaz
 rw [List.drop_zero,Array.mem_toList_iff]
 exact Array.getElem_mem (xs:=s.data) h
def sign2B (a b:UInt8):Bool:=
 (a == 46 && b == 46) || (a == 45 && b == 62) || (a == 58 && b == 61) || (a == 38 && b == 38) || (a == 124 && b == 124) || (a == 61 && b == 61) || (a == 33 && b == 61) || (a == 60 && b == 61) || (a == 62 && b == 61)
def zvy (a:UInt8):Bool:=[59,58,44,40,41,46,63,60,62,43,45,42,47,37,33].contains a
def zyq:List UInt8→Nat
 | a::b::_=>if sign2B a b then 2 else if zvy a then 1 else 0
 | [a]=>if zvy a then 1 else 0
 | []=>0
structure Tok where
 kind:Nat
 from_:Nat
 to:Nat
 num:Nat
def zzx (r:List UInt8):Except Nat (Nat × Nat × Nat):=
 match r with
 | []=>.error 4
 | c::_=>
  if yha c then (if 24 < zyo yma r then .error 5 else .ok (1,zyo yma r,0))
  else if yqk c then (match numRes (r.take (zyo yqk r)) with|none=>.error 2|some v=>.ok (2,zyo yqk r,v))
  else if zyq r=0 then .error 4 else .ok (3,zyq r,0)
theorem zhe (s:ByteArray) (p:Nat):(yaz s p).drop (ynu false (yaz s p))=yaz s (zdn s false p):=by
 rw [bytesFrom_drop];rfl
theorem bytesFrom_nil_iff (s:ByteArray) (k:Nat):yaz s k=[]↔s.size≤k:=by
 rw [← List.length_eq_zero_iff,yio];omega
end
section
open Go.RowKit
set_option maxHeartbeats 400000 in
theorem yuh (c:UInt8) (w:World) :
  Calls Tryz.prog 206 #[.int .u8 (c.toNat:Int)] w fun e w'=>e=.returned (.bool (yha c))∧w=w':=by
 go_enter Tryz.func206,Tryz.ntmps206
 go_wp2
 all_goals go_ret
 all_goals exact ⟨yab (by rw [Bool.eq_iff_iff];simp [yha,UInt8.le_iff_toNat_le];omega),rfl⟩
set_option maxHeartbeats 400000 in
theorem digit_any (c:UInt8) (w:World) :
  Calls Tryz.prog 208 #[.int .u8 (c.toNat:Int)] w fun e w'=>e=.returned (.bool (yqk c))∧w=w':=by
 go_enter Tryz.func208,Tryz.ntmps208
 go_wp2
 all_goals go_ret
 all_goals exact ⟨yab (by rw [Bool.eq_iff_iff];simp [yqk,UInt8.le_iff_toNat_le];omega),rfl⟩
set_option maxHeartbeats 400000 in
theorem zcm (c:UInt8) (w:World) :
  Calls Tryz.prog 207 #[.int .u8 (c.toNat:Int)] w fun e w'=>e=.returned (.bool (yma c))∧w=w':=by
 go_enter Tryz.func207,Tryz.ntmps207
 cases h1:yha c <;> cases h2:yqk c
 all_goals
  go_wp2_with (first|(go_at_call 206;refine (yuh _ _).mono ?_;rintro e w' ⟨rfl,rfl⟩)|(go_at_call 208;refine (digit_any _ _).mono ?_;rintro e w' ⟨rfl,rfl⟩))
  go_ret
  exact ⟨yab (by rw [Bool.eq_iff_iff];simp [yma,h1,h2,← UInt8.toNat_inj];try omega),rfl⟩
set_option maxHeartbeats 400000 in
theorem yrs (c:UInt8) (w:World) :
  Calls Tryz.prog 304 #[.int .u8 (c.toNat:Int)] w fun e w'=>e=.returned (.bool (yha c))∧w=w':=by
 go_enter Tryz.func304,Tryz.ntmps304
 go_wp2
 all_goals go_ret
 all_goals exact ⟨yab (by rw [Bool.eq_iff_iff];simp [yha,UInt8.le_iff_toNat_le];omega),rfl⟩
set_option maxHeartbeats 400000 in
theorem rdigit_any (c:UInt8) (w:World) :
  Calls Tryz.prog 319 #[.int .u8 (c.toNat:Int)] w fun e w'=>e=.returned (.bool (yqk c))∧w=w':=by
 go_enter Tryz.func319,Tryz.ntmps319
 go_wp2
 all_goals go_ret
 all_goals exact ⟨yab (by rw [Bool.eq_iff_iff];simp [yqk,UInt8.le_iff_toNat_le];omega),rfl⟩
set_option maxHeartbeats 400000 in
theorem zdg (c:UInt8) (w:World) :
  Calls Tryz.prog 305 #[.int .u8 (c.toNat:Int)] w fun e w'=>e=.returned (.bool (yma c))∧w=w':=by
 go_enter Tryz.func305,Tryz.ntmps305
 cases h1:yha c <;> cases h2:yqk c
 all_goals
  go_wp2_with (first|(go_at_call 304;refine (yrs _ _).mono ?_;rintro e w' ⟨rfl,rfl⟩)|(go_at_call 319;refine (rdigit_any _ _).mono ?_;rintro e w' ⟨rfl,rfl⟩))
  go_ret
  exact ⟨yab (by rw [Bool.eq_iff_iff];simp [yma,h1,h2,← UInt8.toNat_inj];try omega),rfl⟩
end
set_option maxHeartbeats 8000000
section
open Go.RowKit
def zzu:List (List UInt8):=[[112,114,111,103,114,97,109],[118,97,114],[114,117,108,101],[98,111,111,108],[112,111,114,116],[116,114,117,101],[102,97,108,115,101],[110,111,110,101],[110],[105,100,115],[105,100],[100,101,103],[114,111,111,116],[113],[119,101,105,103,104,116],[98,97,99,107],[97,108,108],[115,111,109,101],[99,111,117,110,116],[102,105,114,115,116],[109,105,110],[109,97,120],[115,117,109],[109,101,120],[115,101,99,111,110,100],[104,101,97,100]]
def zvv (s:ByteArray):Bool:=zzu.any (fun x=>s.toList == x)
theorem ztc (s:ByteArray) (q0:(s.toList == [112,114,111,103,114,97,109])=false) (q1:(s.toList == [118,97,114])=false) (q2:(s.toList == [114,117,108,101])=false) (q3:(s.toList == [98,111,111,108])=false) (q4:(s.toList == [112,111,114,116])=false) (q5:(s.toList == [116,114,117,101])=false) (q6:(s.toList == [102,97,108,115,101])=false) (q7:(s.toList == [110,111,110,101])=false) (q8:(s.toList == [110])=false) (q9:(s.toList == [105,100,115])=false) (q10:(s.toList == [105,100])=false) (q11:(s.toList == [100,101,103])=false) (q12:(s.toList == [114,111,111,116])=false) (q13:(s.toList == [113])=false) (q14:(s.toList == [119,101,105,103,104,116])=false) (q15:(s.toList == [98,97,99,107])=false) (q16:(s.toList == [97,108,108])=false) (q17:(s.toList == [115,111,109,101])=false) (q18:(s.toList == [99,111,117,110,116])=false) (q19:(s.toList == [102,105,114,115,116])=false) (q20:(s.toList == [109,105,110])=false) (q21:(s.toList == [109,97,120])=false) (q22:(s.toList == [115,117,109])=false) (q23:(s.toList == [109,101,120])=false) (q24:(s.toList == [115,101,99,111,110,100])=false) (q25:(s.toList == [104,101,97,100])=false):zvv s=false:=by
 simp only [zvv,zzu,List.any_cons,List.any_nil,q0,q1,q2,q3,q4,q5,q6,q7,q8,q9,q10,q11,q12,q13,q14,q15,q16,q17,q18,q19,q20,q21,q22,q23,q24,q25,Bool.or_false]
theorem yan (s:ByteArray) (x:List UInt8) (hx:zzu.contains x=true) (h:(s.toList == x)=true):zvv s=true:=by
 unfold zvv
 rw [List.any_eq_true]
 exact ⟨x,List.contains_iff_mem.1 hx,h⟩
set_option maxHeartbeats 4000000 in
def yit (s:ByteArray):Bool:=
 match yaz s 0 with
 | []=>false
 | c::r=>decide (s.size≤24) && (yha c && ((c::r).all yma && !zvv s))
theorem yzj (s:ByteArray) (h:s.size=0):yit s=false:=by
 unfold yit;rw [bytesFrom_ge s 0 (by omega)]
theorem zcs (s:ByteArray) (h:24 < s.size):yit s=false:=by
 unfold yit;rw [ykf s 0 (by omega)];simp;omega
theorem yvv (s:ByteArray) (h:0 < s.size) (hl:yha s[0]=false):yit s=false:=by
 unfold yit;rw [ykf s 0 h];simp [hl]
theorem zcu (s:ByteArray) (k:Nat) (h:k < s.size) (hw:yma s[k]=false):yit s=false:=by
 have hm:=mem_bytes s k h
 unfold yit
 cases hb:yaz s 0 with
 | nil=>rfl
 | cons c r=>
  rw [hb] at hm
  have:(c::r).all yma=false:=by
   rw [List.all_eq_false];exact ⟨s[k],hm,by simp [hw]⟩
  simp only [this,Bool.false_and,Bool.and_false]
theorem zct (s:ByteArray) (h:0 < s.size) (h24:s.size≤24) (hl:yha s[0]=true) (ha:((yaz s 0).take s.size).all yma=true):yit s=!zvv s:=by
 rw [take_all s _ (Nat.le_refl _)] at ha
 unfold yit
 rw [ykf s 0 h] at *
 simp only [ha,hl,h24,decide_true,Bool.true_and]
theorem zly (s:ByteArray) (k:Nat) (h:k < s.size) (ha:((yaz s 0).take k).all yma=true) (hw:yma s[k]=true):((yaz s 0).take (k+1)).all yma=true:=by
 rw [take_snoc s k h,List.all_append,ha];simp [hw]
end
section
open Go.RowKit
theorem reserved_any (s:ByteArray) (w:World) :
  Calls Tryz.prog 251 #[.string s] w fun e w'=>e=.returned (.bool (zvv s))∧w=w':=by
 rcases Bool.eq_false_or_eq_true (s.toList == [112,114,111,103,114,97,109]) with q0|q0
 ·have H:=Lib.hid (yan s _ (by decide) q0)
  go_enter Tryz.func251,Tryz.ntmps251
  go_wp2
  go_ret
  exact ⟨yab H.out.symm,rfl⟩
 rcases Bool.eq_false_or_eq_true (s.toList == [118,97,114]) with q1|q1
 ·have H:=Lib.hid (yan s _ (by decide) q1)
  go_enter Tryz.func251,Tryz.ntmps251
  go_wp2
  go_ret
  exact ⟨yab H.out.symm,rfl⟩
 rcases Bool.eq_false_or_eq_true (s.toList == [114,117,108,101]) with q2|q2
 ·have H:=Lib.hid (yan s _ (by decide) q2)
  go_enter Tryz.func251,Tryz.ntmps251
  go_wp2
  go_ret
  exact ⟨yab H.out.symm,rfl⟩
 rcases Bool.eq_false_or_eq_true (s.toList == [98,111,111,108]) with q3|q3
 ·have H:=Lib.hid (yan s _ (by decide) q3)
  go_enter Tryz.func251,Tryz.ntmps251
  go_wp2
  go_ret
  exact ⟨yab H.out.symm,rfl⟩
 rcases Bool.eq_false_or_eq_true (s.toList == [112,111,114,116]) with q4|q4
 ·have H:=Lib.hid (yan s _ (by decide) q4)
  go_enter Tryz.func251,Tryz.ntmps251
  go_wp2
  go_ret
  exact ⟨yab H.out.symm,rfl⟩
 rcases Bool.eq_false_or_eq_true (s.toList == [116,114,117,101]) with q5|q5
 ·have H:=Lib.hid (yan s _ (by decide) q5)
  go_enter Tryz.func251,Tryz.ntmps251
  go_wp2
  go_ret
  exact ⟨yab H.out.symm,rfl⟩
 rcases Bool.eq_false_or_eq_true (s.toList == [102,97,108,115,101]) with q6|q6
 ·have H:=Lib.hid (yan s _ (by decide) q6)
  go_enter Tryz.func251,Tryz.ntmps251
  go_wp2
  go_ret
  exact ⟨yab H.out.symm,rfl⟩
 rcases Bool.eq_false_or_eq_true (s.toList == [110,111,110,101]) with q7|q7
 ·have H:=Lib.hid (yan s _ (by decide) q7)
  go_enter Tryz.func251,Tryz.ntmps251
  go_wp2
  go_ret
  exact ⟨yab H.out.symm,rfl⟩
 rcases Bool.eq_false_or_eq_true (s.toList == [110]) with q8|q8
 ·have H:=Lib.hid (yan s _ (by decide) q8)
  go_enter Tryz.func251,Tryz.ntmps251
  go_wp2
  go_ret
  exact ⟨yab H.out.symm,rfl⟩
 rcases Bool.eq_false_or_eq_true (s.toList == [105,100,115]) with q9|q9
 ·have H:=Lib.hid (yan s _ (by decide) q9)
  go_enter Tryz.func251,Tryz.ntmps251
  go_wp2
  go_ret
  exact ⟨yab H.out.symm,rfl⟩
 rcases Bool.eq_false_or_eq_true (s.toList == [105,100]) with q10|q10
 ·have H:=Lib.hid (yan s _ (by decide) q10)
  go_enter Tryz.func251,Tryz.ntmps251
  go_wp2
  go_ret
  exact ⟨yab H.out.symm,rfl⟩
 rcases Bool.eq_false_or_eq_true (s.toList == [100,101,103]) with q11|q11
 ·have H:=Lib.hid (yan s _ (by decide) q11)
  go_enter Tryz.func251,Tryz.ntmps251
  go_wp2
  go_ret
  exact ⟨yab H.out.symm,rfl⟩
 rcases Bool.eq_false_or_eq_true (s.toList == [114,111,111,116]) with q12|q12
 ·have H:=Lib.hid (yan s _ (by decide) q12)
  go_enter Tryz.func251,Tryz.ntmps251
  go_wp2
  go_ret
  exact ⟨yab H.out.symm,rfl⟩
 rcases Bool.eq_false_or_eq_true (s.toList == [113]) with q13|q13
 ·have H:=Lib.hid (yan s _ (by decide) q13)
  go_enter Tryz.func251,Tryz.ntmps251
  go_wp2
  go_ret
  exact ⟨yab H.out.symm,rfl⟩
 rcases Bool.eq_false_or_eq_true (s.toList == [119,101,105,103,104,116]) with q14|q14
 ·have H:=Lib.hid (yan s _ (by decide) q14)
  go_enter Tryz.func251,Tryz.ntmps251
  go_wp2
  go_ret
  exact ⟨yab H.out.symm,rfl⟩
 rcases Bool.eq_false_or_eq_true (s.toList == [98,97,99,107]) with q15|q15
 ·have H:=Lib.hid (yan s _ (by decide) q15)
  go_enter Tryz.func251,Tryz.ntmps251
  go_wp2
  go_ret
  exact ⟨yab H.out.symm,rfl⟩
 rcases Bool.eq_false_or_eq_true (s.toList == [97,108,108]) with q16|q16
 ·have H:=Lib.hid (yan s _ (by decide) q16)
  go_enter Tryz.func251,Tryz.ntmps251
  go_wp2
  go_ret
  exact ⟨yab H.out.symm,rfl⟩
 rcases Bool.eq_false_or_eq_true (s.toList == [115,111,109,101]) with q17|q17
 ·have H:=Lib.hid (yan s _ (by decide) q17)
  go_enter Tryz.func251,Tryz.ntmps251
  go_wp2
  go_ret
  exact ⟨yab H.out.symm,rfl⟩
 rcases Bool.eq_false_or_eq_true (s.toList == [99,111,117,110,116]) with q18|q18
 ·have H:=Lib.hid (yan s _ (by decide) q18)
  go_enter Tryz.func251,Tryz.ntmps251
  go_wp2
  go_ret
  exact ⟨yab H.out.symm,rfl⟩
 rcases Bool.eq_false_or_eq_true (s.toList == [102,105,114,115,116]) with q19|q19
 ·have H:=Lib.hid (yan s _ (by decide) q19)
  go_enter Tryz.func251,Tryz.ntmps251
  go_wp2
  go_ret
  exact ⟨yab H.out.symm,rfl⟩
 rcases Bool.eq_false_or_eq_true (s.toList == [109,105,110]) with q20|q20
 ·have H:=Lib.hid (yan s _ (by decide) q20)
  go_enter Tryz.func251,Tryz.ntmps251
  go_wp2
  go_ret
  exact ⟨yab H.out.symm,rfl⟩
 rcases Bool.eq_false_or_eq_true (s.toList == [109,97,120]) with q21|q21
 ·have H:=Lib.hid (yan s _ (by decide) q21)
  go_enter Tryz.func251,Tryz.ntmps251
  go_wp2
  go_ret
  exact ⟨yab H.out.symm,rfl⟩
 rcases Bool.eq_false_or_eq_true (s.toList == [115,117,109]) with q22|q22
 ·have H:=Lib.hid (yan s _ (by decide) q22)
  go_enter Tryz.func251,Tryz.ntmps251
  go_wp2
  go_ret
  exact ⟨yab H.out.symm,rfl⟩
 rcases Bool.eq_false_or_eq_true (s.toList == [109,101,120]) with q23|q23
 ·have H:=Lib.hid (yan s _ (by decide) q23)
  go_enter Tryz.func251,Tryz.ntmps251
  go_wp2
  go_ret
  exact ⟨yab H.out.symm,rfl⟩
 rcases Bool.eq_false_or_eq_true (s.toList == [115,101,99,111,110,100]) with q24|q24
 ·have H:=Lib.hid (yan s _ (by decide) q24)
  go_enter Tryz.func251,Tryz.ntmps251
  go_wp2
  go_ret
  exact ⟨yab H.out.symm,rfl⟩
 rcases Bool.eq_false_or_eq_true (s.toList == [104,101,97,100]) with q25|q25
 ·have H:=Lib.hid (yan s _ (by decide) q25)
  go_enter Tryz.func251,Tryz.ntmps251
  go_wp2
  go_ret
  exact ⟨yab H.out.symm,rfl⟩
 have H:=Lib.hid (ztc s q0 q1 q2 q3 q4 q5 q6 q7 q8 q9 q10 q11 q12 q13 q14 q15 q16 q17 q18 q19 q20 q21 q22 q23 q24 q25)
 go_enter Tryz.func251,Tryz.ntmps251
 go_wp2
 go_ret
 exact ⟨yab H.out.symm,rfl⟩
set_option maxHeartbeats 4000000 in
theorem rreserved_any (s:ByteArray) (w:World) :
  Calls Tryz.prog 306 #[.string s] w fun e w'=>e=.returned (.bool (zvv s))∧w=w':=by
 rcases Bool.eq_false_or_eq_true (s.toList == [112,114,111,103,114,97,109]) with q0|q0
 ·have H:=Lib.hid (yan s _ (by decide) q0)
  go_enter Tryz.func306,Tryz.ntmps306
  go_wp2
  go_ret
  exact ⟨yab H.out.symm,rfl⟩
 rcases Bool.eq_false_or_eq_true (s.toList == [118,97,114]) with q1|q1
 ·have H:=Lib.hid (yan s _ (by decide) q1)
  go_enter Tryz.func306,Tryz.ntmps306
  go_wp2
  go_ret
  exact ⟨yab H.out.symm,rfl⟩
 rcases Bool.eq_false_or_eq_true (s.toList == [114,117,108,101]) with q2|q2
 ·have H:=Lib.hid (yan s _ (by decide) q2)
  go_enter Tryz.func306,Tryz.ntmps306
  go_wp2
  go_ret
  exact ⟨yab H.out.symm,rfl⟩
 rcases Bool.eq_false_or_eq_true (s.toList == [98,111,111,108]) with q3|q3
 ·have H:=Lib.hid (yan s _ (by decide) q3)
  go_enter Tryz.func306,Tryz.ntmps306
  go_wp2
  go_ret
  exact ⟨yab H.out.symm,rfl⟩
 rcases Bool.eq_false_or_eq_true (s.toList == [112,111,114,116]) with q4|q4
 ·have H:=Lib.hid (yan s _ (by decide) q4)
  go_enter Tryz.func306,Tryz.ntmps306
  go_wp2
  go_ret
  exact ⟨yab H.out.symm,rfl⟩
 rcases Bool.eq_false_or_eq_true (s.toList == [116,114,117,101]) with q5|q5
 ·have H:=Lib.hid (yan s _ (by decide) q5)
  go_enter Tryz.func306,Tryz.ntmps306
  go_wp2
  go_ret
  exact ⟨yab H.out.symm,rfl⟩
 rcases Bool.eq_false_or_eq_true (s.toList == [102,97,108,115,101]) with q6|q6
 ·have H:=Lib.hid (yan s _ (by decide) q6)
  go_enter Tryz.func306,Tryz.ntmps306
  go_wp2
  go_ret
  exact ⟨yab H.out.symm,rfl⟩
 rcases Bool.eq_false_or_eq_true (s.toList == [110,111,110,101]) with q7|q7
 ·have H:=Lib.hid (yan s _ (by decide) q7)
  go_enter Tryz.func306,Tryz.ntmps306
  go_wp2
  go_ret
  exact ⟨yab H.out.symm,rfl⟩
 rcases Bool.eq_false_or_eq_true (s.toList == [110]) with q8|q8
 ·have H:=Lib.hid (yan s _ (by decide) q8)
  go_enter Tryz.func306,Tryz.ntmps306
  go_wp2
  go_ret
  exact ⟨yab H.out.symm,rfl⟩
 rcases Bool.eq_false_or_eq_true (s.toList == [105,100,115]) with q9|q9
 ·have H:=Lib.hid (yan s _ (by decide) q9)
  go_enter Tryz.func306,Tryz.ntmps306
  go_wp2
  go_ret
  exact ⟨yab H.out.symm,rfl⟩
 rcases Bool.eq_false_or_eq_true (s.toList == [105,100]) with q10|q10
 ·have H:=Lib.hid (yan s _ (by decide) q10)
  go_enter Tryz.func306,Tryz.ntmps306
  go_wp2
  go_ret
  exact ⟨yab H.out.symm,rfl⟩
 rcases Bool.eq_false_or_eq_true (s.toList == [100,101,103]) with q11|q11
 ·have H:=Lib.hid (yan s _ (by decide) q11)
  go_enter Tryz.func306,Tryz.ntmps306
  go_wp2
  go_ret
  exact ⟨yab H.out.symm,rfl⟩
 rcases Bool.eq_false_or_eq_true (s.toList == [114,111,111,116]) with q12|q12
 ·have H:=Lib.hid (yan s _ (by decide) q12)
  go_enter Tryz.func306,Tryz.ntmps306
  go_wp2
  go_ret
  exact ⟨yab H.out.symm,rfl⟩
 rcases Bool.eq_false_or_eq_true (s.toList == [113]) with q13|q13
 ·have H:=Lib.hid (yan s _ (by decide) q13)
  go_enter Tryz.func306,Tryz.ntmps306
  go_wp2
  go_ret
  exact ⟨yab H.out.symm,rfl⟩
 rcases Bool.eq_false_or_eq_true (s.toList == [119,101,105,103,104,116]) with q14|q14
 ·have H:=Lib.hid (yan s _ (by decide) q14)
  go_enter Tryz.func306,Tryz.ntmps306
  go_wp2
  go_ret
  exact ⟨yab H.out.symm,rfl⟩
 rcases Bool.eq_false_or_eq_true (s.toList == [98,97,99,107]) with q15|q15
 ·have H:=Lib.hid (yan s _ (by decide) q15)
  go_enter Tryz.func306,Tryz.ntmps306
  go_wp2
  go_ret
  exact ⟨yab H.out.symm,rfl⟩
 rcases Bool.eq_false_or_eq_true (s.toList == [97,108,108]) with q16|q16
 ·have H:=Lib.hid (yan s _ (by decide) q16)
  go_enter Tryz.func306,Tryz.ntmps306
  go_wp2
  go_ret
  exact ⟨yab H.out.symm,rfl⟩
 rcases Bool.eq_false_or_eq_true (s.toList == [115,111,109,101]) with q17|q17
 ·have H:=Lib.hid (yan s _ (by decide) q17)
  go_enter Tryz.func306,Tryz.ntmps306
  go_wp2
  go_ret
  exact ⟨yab H.out.symm,rfl⟩
 rcases Bool.eq_false_or_eq_true (s.toList == [99,111,117,110,116]) with q18|q18
 ·have H:=Lib.hid (yan s _ (by decide) q18)
  go_enter Tryz.func306,Tryz.ntmps306
  go_wp2
  go_ret
  exact ⟨yab H.out.symm,rfl⟩
 rcases Bool.eq_false_or_eq_true (s.toList == [102,105,114,115,116]) with q19|q19
 ·have H:=Lib.hid (yan s _ (by decide) q19)
  go_enter Tryz.func306,Tryz.ntmps306
  go_wp2
  go_ret
  exact ⟨yab H.out.symm,rfl⟩
 rcases Bool.eq_false_or_eq_true (s.toList == [109,105,110]) with q20|q20
 ·have H:=Lib.hid (yan s _ (by decide) q20)
  go_enter Tryz.func306,Tryz.ntmps306
  go_wp2
  go_ret
  exact ⟨yab H.out.symm,rfl⟩
 rcases Bool.eq_false_or_eq_true (s.toList == [109,97,120]) with q21|q21
 ·have H:=Lib.hid (yan s _ (by decide) q21)
  go_enter Tryz.func306,Tryz.ntmps306
  go_wp2
  go_ret
  exact ⟨yab H.out.symm,rfl⟩
 rcases Bool.eq_false_or_eq_true (s.toList == [115,117,109]) with q22|q22
 ·have H:=Lib.hid (yan s _ (by decide) q22)
  go_enter Tryz.func306,Tryz.ntmps306
  go_wp2
  go_ret
  exact ⟨yab H.out.symm,rfl⟩
 rcases Bool.eq_false_or_eq_true (s.toList == [109,101,120]) with q23|q23
 ·have H:=Lib.hid (yan s _ (by decide) q23)
  go_enter Tryz.func306,Tryz.ntmps306
  go_wp2
  go_ret
  exact ⟨yab H.out.symm,rfl⟩
 rcases Bool.eq_false_or_eq_true (s.toList == [115,101,99,111,110,100]) with q24|q24
 ·have H:=Lib.hid (yan s _ (by decide) q24)
  go_enter Tryz.func306,Tryz.ntmps306
  go_wp2
  go_ret
  exact ⟨yab H.out.symm,rfl⟩
 rcases Bool.eq_false_or_eq_true (s.toList == [104,101,97,100]) with q25|q25
 ·have H:=Lib.hid (yan s _ (by decide) q25)
  go_enter Tryz.func306,Tryz.ntmps306
  go_wp2
  go_ret
  exact ⟨yab H.out.symm,rfl⟩
 have H:=Lib.hid (ztc s q0 q1 q2 q3 q4 q5 q6 q7 q8 q9 q10 q11 q12 q13 q14 q15 q16 q17 q18 q19 q20 q21 q22 q23 q24 q25)
 go_enter Tryz.func306,Tryz.ntmps306
 go_wp2
 go_ret
 exact ⟨yab H.out.symm,rfl⟩
theorem ykl (s:ByteArray) (w:World) (hs:s.size≤9223372036854775807) :
  Calls Tryz.prog 214 #[.string s] w fun e w'=>e=.returned (.bool (yit s))∧w=w':=by
 by_cases h0:s.size=0
 ·have H:=Lib.hid (yzj s h0)
  have h0':s.size < 1:=by omega
  clear h0
  go_enter Tryz.func214,Tryz.ntmps214
  go_wp2
  go_ret
  exact ⟨yab H.out.symm,rfl⟩
 have h0':0 < s.size:=by omega
 clear h0
 by_cases h24:24 < s.size
 ·have H:=Lib.hid (zcs s h24)
  go_enter Tryz.func214,Tryz.ntmps214
  go_wp2
  go_ret
  exact ⟨yab H.out.symm,rfl⟩
 cases hl:yha s[0]
 ·have H:=Lib.hid (yvv s h0' hl)
  go_enter Tryz.func214,Tryz.ntmps214
  go_wp2_with (go_at_call 206;refine (yuh _ _).mono ?_;rintro e w' ⟨rfl,rfl⟩)
  go_ret
  exact ⟨yab H.out.symm,rfl⟩
 go_enter Tryz.func214,Tryz.ntmps214
 go_wp2_with (go_at_call 206;refine (yuh _ _).mono ?_;rintro e w' ⟨rfl,rfl⟩)
 go_loop [3,20] (fun _ i=>∃ k:Nat,k≤s.size∧i=.int .i64 k∧Hid (((yaz s 0).take k).all yma=true)) (fun _ i=>s.size - (intOf i).toNat)
 case atStart=>exact ⟨0,by omega,rfl,rfl⟩
 case round=>
  obtain ⟨k,hk,rfl,ha⟩:=hrel
  by_cases hlt:k < s.size
  ·cases hw:yma s[k]
   ·have H:=Lib.hid (zcu s k hlt hw)
    go_wp2_with (go_at_call 207;refine (zcm _ _).mono ?_;rintro e w' ⟨rfl,rfl⟩)
    go_ret
    exact ⟨yab H.out.symm,rfl⟩
   ·have H:=Lib.hid (zly s k hlt ha.out hw)
    go_wp2_with (go_at_call 207;refine (zcm _ _).mono ?_;rintro e w' ⟨rfl,rfl⟩)
    exact ⟨⟨k+1,by omega,by go_num,H⟩,by simp [intOf];omega⟩
  ·obtain rfl:k=s.size:=by omega
   have H:=Lib.hid (zct s h0' (by omega) hl ha.out)
   go_wp2_with (go_at_call 251;refine (reserved_any _ _).mono ?_;rintro e w' ⟨rfl,rfl⟩)
   go_ret
   exact ⟨yab H.out.symm,rfl⟩
set_option maxHeartbeats 1000000 in
theorem yly (s:ByteArray) (w:World) (hs:s.size≤9223372036854775807) :
  Calls Tryz.prog 284 #[.string s] w fun e w'=>e=.returned (.bool (yit s))∧w=w':=by
 by_cases h0:s.size=0
 ·have H:=Lib.hid (yzj s h0)
  have h0':s.size < 1:=by omega
  clear h0
  go_enter Tryz.func284,Tryz.ntmps284
  go_wp2
  go_ret
  exact ⟨yab H.out.symm,rfl⟩
 have h0':0 < s.size:=by omega
 clear h0
 by_cases h24:24 < s.size
 ·have H:=Lib.hid (zcs s h24)
  go_enter Tryz.func284,Tryz.ntmps284
  go_wp2
  go_ret
  exact ⟨yab H.out.symm,rfl⟩
 cases hl:yha s[0]
 ·have H:=Lib.hid (yvv s h0' hl)
  go_enter Tryz.func284,Tryz.ntmps284
  go_wp2_with (go_at_call 304;refine (yrs _ _).mono ?_;rintro e w' ⟨rfl,rfl⟩)
  go_ret
  exact ⟨yab H.out.symm,rfl⟩
 go_enter Tryz.func284,Tryz.ntmps284
 go_wp2_with (go_at_call 304;refine (yrs _ _).mono ?_;rintro e w' ⟨rfl,rfl⟩)
 go_loop [3] (fun i=>∃ k:Nat,k≤s.size∧i=.int .i64 k∧Hid (((yaz s 0).take k).all yma=true)) (fun i=>s.size - (intOf i).toNat)
 case atStart=>exact ⟨1,by omega,rfl,by rw [ykf s 0 h0'];show (List.take 1 _).all yma=true;simp [yma,hl]⟩
 case round=>
  obtain ⟨k,hk,rfl,ha⟩:=hrel
  by_cases hlt:k < s.size
  ·cases hw:yma s[k]
   ·have H:=Lib.hid (zcu s k hlt hw)
    go_wp2_with (go_at_call 305;refine (zdg _ _).mono ?_;rintro e w' ⟨rfl,rfl⟩)
    go_ret
    exact ⟨yab H.out.symm,rfl⟩
   ·have H:=Lib.hid (zly s k hlt ha.out hw)
    go_wp2_with (go_at_call 305;refine (zdg _ _).mono ?_;rintro e w' ⟨rfl,rfl⟩)
    exact ⟨⟨k+1,by omega,by go_num,H⟩,by simp [intOf];omega⟩
  ·obtain rfl:k=s.size:=by omega
   have H:=Lib.hid (zct s h0' (by omega) hl ha.out)
   go_wp2_with (go_at_call 306;refine (rreserved_any _ _).mono ?_;rintro e w' ⟨rfl,rfl⟩)
   go_ret
   exact ⟨yab H.out.symm,rfl⟩
end
section
open Go.RowKit
def ynq (s:ByteArray):List UInt8:=s.data.toList
theorem ywx (a b:ByteArray):(a.toList == b.toList)=decide (ynq a=ynq b):=by
 rw [ByteArray.toList_eq,ByteArray.toList_eq,Bool.eq_iff_iff];simp [ynq]
def yfi (l:List ByteArray):Bool:=l.all yit && decide ((l.map ynq).Nodup)
theorem ysu {l:List ByteArray} (k:Nat) (hk:k < l.length) (h:yit l[k]=false):yfi l=false:=by
 unfold yfi
 have:l.all yit=false:=by rw [List.all_eq_false];exact ⟨l[k],List.getElem_mem hk,by simp [h]⟩
 rw [this];rfl
theorem yrl {l:List ByteArray} (j k:Nat) (hjk:j < k) (hk:k < l.length) (h:ynq (l[j]'(by omega))=ynq l[k]):yfi l=false:=by
 unfold yfi
 have:¬ (l.map ynq).Nodup:=by
  intro hn
  have hn':=List.pairwise_iff_getElem.1 hn j k (by simp;omega) (by simpa using hk) hjk
  apply hn'
  simp [h]
 simp [this]
theorem ypp {l:List ByteArray} (k:Nat) (hk:k < l.length) (h:yfi (l.take k)=true) (h1:yit l[k]=true) (h2:ynq l[k] ∉ (l.take k).map ynq):yfi (l.take (k+1))=true:=by
 unfold yfi at *
 rw [Bool.and_eq_true,decide_eq_true_eq] at *
 rw [List.take_succ_eq_append_getElem hk,List.all_append,h.1,List.map_append]
 refine ⟨by simpa using h1,?_⟩
 rw [List.nodup_append]
 refine ⟨h.2,by simp,?_⟩
 intro a ha b hb
 simp only [List.map_singleton,List.mem_singleton] at hb
 subst hb
 intro hab
 exact h2 (hab ▸ ha)
theorem mem_names {l:List ByteArray} {k:Nat} {x:List UInt8} (h:x∈(l.take k).map ynq):∃ j,∃ h:j < l.length,j < k∧ynq l[j]=x:=by
 rw [List.mem_map] at h
 obtain ⟨s,hs,rfl⟩:=h
 obtain ⟨j,hj⟩:=List.getElem?_of_mem hs
 have hjk:j < k:=by
  have:=(List.getElem?_eq_some_iff.1 hj).1
  rw [List.length_take] at this;omega
 rw [List.getElem?_take,if_pos hjk] at hj
 obtain ⟨h1,h2⟩:=List.getElem?_eq_some_iff.1 hj
 exact ⟨j,h1,hjk,by rw [h2]⟩
theorem yzl {l:List ByteArray} {k:Nat} (hk:k < l.length) (h:ynq l[k]∈(l.take k).map ynq):yfi l=false:=by
 obtain ⟨j,hj,hjk,he⟩:=mem_names h
 exact yrl j k hjk hk he
def yck (p:ProgD):Bool:=yit p.name && (yfi (p.vars.map (·.name)) && yfi (p.rules.map (·.name)))
def ybl (r:RuleD) (n:Int):Bool:=
 decide (1≤r.sets.length) && (decide (r.sets.length≤6) && (ycr r.guard n && (r.sets.all (fun s=>yca s.var 0 (n - 1) && ycr s.val n) && decide ((r.sets.map (·.var)).Nodup))))
def yer (r:RuleD) (kinds:List Int):Bool:=((ofF r.guard kinds false).1 == 2) && r.sets.all (fun s=>(ofF s.val kinds false).1 == kinds.getD s.var.toNat 0)
def ybc (p:ProgD):List Int:=p.vars.map (·.kind)
def ydf (p:ProgD):Int:=
 if p.vars.length=0∨6 < p.vars.length∨12 < p.rules.length then 3 else if yck p=false then 5 else if p.vars.all ymd=false then 2 else
 if p.rules.all (ybl · p.vars.length)=false then 7 else if p.rules.all (yer · (ybc p))=false then 6 else 0
theorem ygu {α:Type} {f:α→Bool} {l:List α} (k:Nat) (hk:k < l.length) (h:f l[k]=false):l.all f=false:=by
 rw [List.all_eq_false];exact ⟨l[k],List.getElem_mem hk,by simp [h]⟩
theorem ygv {α:Type} {f:α→Bool} {l:List α} (k:Nat) (hk:k < l.length) (h:(l.take k).all f=true) (hw:f l[k]=true):(l.take (k+1)).all f=true:=by
 rw [List.take_succ_eq_append_getElem hk,List.all_append,h];simp [hw]
theorem yjl {α:Type} {f:α→Bool} {l:List α} (h:(l.take l.length).all f=true):l.all f=true:=by rw [List.take_length] at h;exact h
end
section
open Go.RowKit Go.Maps
def ynh (P:Program) (k e:TypeId) (w:World) (b n:Nat) (S:List Lit):Prop:=
 ∃ D:DataW Unit,w.ownsMap P k (plainElem P e) b n D∧∀ kl,(kl∈S→D.atKey kl (.lit (.bool false))=.lit (.bool true))∧(kl ∉ S→D.atKey kl (.lit (.bool false))=.lit (.bool false))
section
variable {P:Program} {k e t:TypeId} {w w':World} {b n:Nat} {S:List Lit}
theorem yru (P:Program) (k e:TypeId) (w:World):ynh P k e (w.alloc (.map #[] 0)) w.heap.size 0 []:=
 ⟨.map [],World.ownsMap_made w P k _,fun kl=>⟨fun h=>by simp at h,fun _=>by simp [DataW.atKey]⟩⟩
theorem ynh.lt (h:ynh P k e w b n S):b < w.heap.size:=by obtain ⟨D,h,_⟩:=h;exact h.lt
theorem ynh.below (h:ynh P k e w b n S) (hb:Below w.heap.size w w'):ynh P k e w' b n S:=by
 have hl:=h.lt
 obtain ⟨D,⟨es,clock,h1,h2⟩,h3⟩:=h
 exact ⟨D,⟨es,clock,(hb.block b hl).trans h1,h2⟩,h3⟩
theorem plainElem_bool_inv (he:P.underlying e=some .bool) {v:Value} {z:DataW Unit × List MemPlace} (h:plainElem P e v=some z):∃ x,v=.bool x∧z=(.lit (.bool x),[]):=by
 unfold plainElem at h
 rw [he] at h
 cases v <;> simp at h
 exact ⟨_,rfl,h.symm⟩
theorem ynh.look (h:ynh P k e w b n S) (K:Keyed P k) (ht:P.underlying t=some (.map k e)) (he:P.underlying e=some .bool) (hz:(zeroValue e).run P w=.ok (.bool false) w) {key:Value} {kl:Lit} (hkey:keyOf P k key=some kl) (x:Bool) (hx:(kl∈S∧x=true)∨(kl ∉ S∧x=false)) :
  (Instr.lookup t (.map (some b)) key false).run P w=.ok (.bool x) w:=by
 obtain ⟨D,h1,h2⟩:=h
 obtain ⟨v,ps,hrun,hv⟩:=h1.lookup K ht hz (plainElem_bool he false) hkey
 obtain ⟨y,rfl,hy⟩:=plainElem_bool_inv he hv
 rcases hx with ⟨h3,rfl⟩|⟨h3,rfl⟩
 ·rw [(h2 kl).1 h3] at hy
  simp only [Prod.mk.injEq,DataW.lit.injEq,Lit.bool.injEq] at hy
  obtain ⟨rfl,_⟩:=hy
  exact hrun
 ·rw [(h2 kl).2 h3] at hy
  simp only [Prod.mk.injEq,DataW.lit.injEq,Lit.bool.injEq] at hy
  obtain ⟨rfl,_⟩:=hy
  exact hrun
theorem yhy {ops:Array Oper} {rest:List Oper} {o:Oper} {a:Act} {Q:Exit→Act→World→Prop}
  (hg:o.guard=none) (m x v:Operand) (t:TypeId) (hop:o.op=Op.mapUpdate t m x v)
  (k e:TypeId) (K:Keyed P k) (ht:P.underlying t=some (.map k e)) (he:P.underlying e=some .bool) (b n:Nat) (S:List Lit)
  (hm:a.eval m=.map (some b)) (hown:ynh P k e w b n S) (hn:n < maxLen) (key:Value) (kl:Lit) (hx:a.eval x=key) (hv:a.eval v=.bool true) (hkey:keyOf P k key=some kl)
  (hK:∀ w',ynh P k e w' b (n+1) (S++[kl])→w.grownBy w' (some b)→wpList P ops Q rest (a.put o.dst undef) w') :
  wpList P ops Q (o::rest) a w:=by
 obtain ⟨D,h1,h2⟩:=hown
 refine wpList_mapUpdate_own w hg m x v t hop k e K ht (plainElem P e) b n D hm h1 hn key (.bool true) kl hx hv hkey (.lit (.bool true)) [] (plainElem_bool he true) (fun w' h3 h4=>hK w' ⟨_,h3,fun kl'=>?_⟩ h4)
 by_cases hkl:kl'=kl
 ·subst hkl
  refine ⟨fun _=>atKey_put_same h1.isMap (K.key hkey) _ _,fun h=>absurd (by simp) h⟩
 ·rw [atKey_put_other hkl]
  exact ⟨fun h=>(h2 kl').1 (by simpa [hkl] using h),fun h=>(h2 kl').2 (by simpa [hkl] using h)⟩
end
end
end Go.Proofs.YtgpbgfpjlhoicaaGreatDoor
