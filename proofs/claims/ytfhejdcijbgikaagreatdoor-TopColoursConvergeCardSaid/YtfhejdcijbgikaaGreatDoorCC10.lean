/- Part 10 of the texts under TopColoursConverge: joined, with what it needs alone. -/
import Derived.WalkKit
import Derived.Laws.Bits64b
import Derived.Test.YtfhejdcijbgikaaGreatDoorCC5
import Derived.Test.YtfhejdcijbgikaaGreatDoorCC7
import Derived.Test.YtfhejdcijbgikaaGreatDoorCC8
import Derived.Test.YtfhejdcijbgikaaGreatDoorCC9
set_option linter.unusedVariables false
set_option maxRecDepth 100000
set_option maxHeartbeats 8000000
namespace Go.Proofs.YtfhejdcijbgikaaGreatDoor
section
open Go.RowKit
def zvd (ls:List Lk):BitVec 32:=ls.foldl (fun B l=>B ||| (1#32 <<< l.1.toNat)) 0#32
def zcl (g:GraphD):List (BitVec 32):=g.ports.map zvd
def yxd (g:GraphD):AV:=yrk (zcl g)
def zqh (g:GraphD) (k:Nat) (B:BitVec 32):List (BitVec 32):=(zcl g).take k++B::List.replicate (g.ports.length - k - 1) 0#32
def zvp (g:GraphD) (k:Nat):List (BitVec 32):=(zcl g).take k++List.replicate (g.ports.length - k) 0#32
theorem zeu {g:GraphD}:(zcl g).length=g.ports.length:=by simp [zcl]
theorem netK_zero {g:GraphD} {k:Nat} (h:k < g.ports.length):zvp g k=zqh g k 0#32:=by
 unfold zvp zqh
 rw [show g.ports.length - k=(g.ports.length - k - 1)+1 by omega,List.replicate_succ]
 simp
theorem ysx {g:GraphD} {k:Nat} (h:k < g.ports.length):((zcl g).take k).length=k:=by simp [zcl];omega
theorem netK_at {g:GraphD} {k:Nat} {B:BitVec 32} (h:k < g.ports.length):(zqh g k B)[k]?=some B:=by
 unfold zqh
 rw [List.getElem?_append_right (by rw [ysx h];omega),ysx h,Nat.sub_self];rfl
theorem netK_len {g:GraphD} {k:Nat} {B:BitVec 32} (h:k < g.ports.length):(zqh g k B).length=g.ports.length:=by
 unfold zqh
 rw [List.length_append,ysx h,List.length_cons,List.length_replicate];omega
theorem netK_set {g:GraphD} {k:Nat} {B C:BitVec 32} (h:k < g.ports.length):(zqh g k B).set k C=zqh g k C:=by
 unfold zqh
 rw [List.set_append_right _ _ (by rw [ysx h];omega),ysx h,Nat.sub_self,List.set_cons_zero]
theorem netK_end {g:GraphD} {k:Nat} {ls:List Lk} (hls:g.ports[k]?=some ls):zqh g k (zvd ls)=zvp g (k+1):=by
 unfold zqh zvp
 have e:(zcl g)[k]?=some (zvd ls):=by simp [zcl,hls]
 rw [ybc e]
 simp [Nat.sub_sub]
theorem netV_snoc {ls:List Lk} {j:Nat} {l:Lk} (h:ls[j]?=some l):zvd (ls.take (j+1))=zvd (ls.take j) ||| (1#32 <<< l.1.toNat):=by
 unfold zvd;rw [ybc h,List.foldl_append];rfl
theorem zcm (g:GraphD) (hg:ycy g=true):Con Tryz.prog 93 [ypu g] (yxd g):=by
 have hv:=yca hg
 refine yao Tryz.func93 rfl rfl Tryz.ntmps93 Tryz.results93 rfl rfl ?_
 (repeat (first|refine zy ?_|refine ylm tok rfl rfl rfl rfl (by constructor <;> omega) rfl rfl rfl rfl rfl ?_))
 refine ycn (α:=Nat) (fun k=>[(15,i64 k),(14,i64 g.ports.length),(13,ybj g.ports),(3,.ls 11 1 g.ports.length)]) (fun k=>[(11,some (.vec ((zvp g k).map ybi)))]) (fun k=>g.ports.length - k) (fun k=>k≤g.ports.length) 0 (by omega) (by exact zs) ?_ ?_
 ·refine yag (yab ?_ yae)
  show some _=some _
  congr 2
  rw [show ygr [Value.int .u32 0]=[ybi 0#32] from rfl,zlg]
  simp [zvp]
 intro k hk
 (try refine zy ?_)
 refine yac rfl (fun h1=>?_) (fun h1=>?_)
 ·simp at h1
  obtain ⟨ls,hls⟩:=ycd h1
  have hlb:=hv.2.2.2.2.2.1 k ls hls
  have hll:=yeg h1 hlb
  (try refine zy ?_)
  refine ycn (α:=Nat) (fun j=>[(22,i64 j),(21,i64 ls.length),(20,yin ls),(4,i64 k),(15,i64 k),(14,i64 g.ports.length),(13,ybj g.ports),(3,.ls 11 1 g.ports.length)]) (fun j=>[(11,some (.vec ((zqh g k (zvd (ls.take j))).map ybi)))]) (fun j=>ls.length - j) (fun j=>j≤ls.length) 0 (by omega) (by exact zs) (hsE (by rw [netK_zero h1];rfl)) ?_
  intro j hj
  (try refine zy ?_)
  refine yac rfl (fun h2=>?_) (fun h2=>?_)
  ·simp at h2
   obtain ⟨l,hl⟩:=ycd h2
   have hl1:=(ybs _ _ _).1 (((ybo _ _ _).1 hlb).1 l (List.mem_of_getElem? hl))
   have hat:=netK_at (B:=zvd (ls.take j)) h1
   (try refine zy ?_)
   refine yas tok rfl rfl rfl rfl (by omega) (by omega) rfl rfl ?_
   refine yda (r:=ybi (zvd (ls.take j))) tok rfl rfl rfl rfl (by rw [List.getElem?_map,show ((k:Int).toNat * 1)=k by simp,hat];rfl) rfl rfl ?_
   (repeat (first|refine yfr tok rfl (by constructor <;> omega) rfl rfl ?_|refine ycv rfl rfl (by omega) rfl rfl ?_|refine ydj rfl rfl (by omega) rfl rfl ?_|refine yfq rfl rfl rfl rfl ?_|refine ycw rfl rfl rfl rfl ?_|refine ydp rfl rfl rfl rfl ?_|refine yaz rfl rfl rfl rfl ?_|refine zI ?_|refine zL ?_|refine zC ?_|refine ycu ?_|refine yco ?_|refine zR ?_|refine zD ?_|refine zK ?_|refine zB ?_|refine zA ?_|refine zS ?_|refine zU ?_|refine zV ?_|refine zF ?_|refine zN ?_|with_reducible refine yat ?_|with_reducible refine ybg ?_|refine ybh ?_|refine ybf ?_|refine ybp ?_|refine zT ?_|refine zE ?_|refine zX ?_|refine yas tok rfl rfl rfl rfl (by omega) (by omega) rfl rfl ?_))
   refine yhu tok rfl rfl rfl rfl rfl rfl (by rw [List.length_map,netK_len h1];omega) rfl (congrArg (fun z=>hlook ((11,some (LObj.vec z))::_)) (show _=(zqh g k (zvd (ls.take (j+1)))).map ybi by rw [netV_snoc hl,← List.map_set,show ((k:Int).toNat * 1)=k by simp,netK_set h1])) rfl rfl ?_
   (try refine zy ?_)
   exact yir (j+1) (by omega) (by omega) (by exact zs) (yag (yab rfl yae))
  ·simp at h2
   obtain rfl:j=ls.length:=by omega
   (try refine zy ?_)
   exact yir (k+1) (by omega) (by omega) (by exact zs) (hsE (by rw [List.take_length,netK_end hls]))
 ·simp at h1
  obtain rfl:k=g.ports.length:=by omega
  (try refine zy ?_)
  refine yaf ?_;refine ⟨_,rfl,?_⟩
  have e:zvp g g.ports.length=zcl g:=by unfold zvp;rw [Nat.sub_self,List.take_of_length_le (by rw [zeu];omega)];simp
  refine Frz.ls (rows:=(zcl g).map fun B=>[ybi B]) (xs:=(zcl g).map ybi) ?_ (by rw [List.length_map,zeu]) (by intro r hr;obtain ⟨z,_,rfl⟩:=List.mem_map.1 hr;rfl) (yen _) (by intro x hx i;obtain ⟨z,_,rfl⟩:=List.mem_map.1 hx;rfl)
  show some ((zvp g g.ports.length).map ybi)=_
  rw [e]
theorem alld_con (g:GraphD) (hg:ycy g=true):Con Tryz.prog 94 [ypu g] (ybi (zxx g.ports.length)):=by
 have hv:=yca hg
 refine yao Tryz.func94 rfl rfl Tryz.ntmps94 Tryz.results94 rfl rfl ?_
 (repeat (first|refine ynq tok rfl rfl rfl rfl rfl ?_|refine ynp tok rfl rfl rfl rfl rfl ?_|refine yno tok rfl rfl rfl rfl ?_|refine yfr tok rfl (by constructor <;> omega) rfl rfl ?_|refine ycv rfl rfl (by omega) rfl rfl ?_|refine ydj rfl rfl (by omega) rfl rfl ?_|refine yfq rfl rfl rfl rfl ?_|refine ycw rfl rfl rfl rfl ?_|refine ydp rfl rfl rfl rfl ?_|refine yaz rfl rfl rfl rfl ?_|refine zI ?_|refine zL ?_|refine zC ?_|refine ycu ?_|refine yco ?_|refine zR ?_|refine zD ?_|refine zK ?_|refine zB ?_|refine zA ?_|refine zS ?_|refine zU ?_|refine zV ?_|refine zF ?_|refine zN ?_|with_reducible refine yat ?_|with_reducible refine ybg ?_|refine ybh ?_|refine ybf ?_|refine ybp ?_|refine zT ?_|refine zE ?_|refine zX ?_))
 refine yaf ?_;refine ⟨_,rfl,?_⟩
 rw [show zxx g.ports.length=(1#32 <<< ((g.ids.length:Int)).toNat) - 1#32 by rw [hv.2.2.1,Int.toNat_natCast];rfl]
 exact Frz.pure
theorem zbm (kind:Int) (hk:1≤kind∧kind≤4):Con Tryz.prog 78 [i64 kind] (ybq true):=by
 refine yao Tryz.func78 rfl rfl Tryz.ntmps78 Tryz.results78 rfl rfl ?_
 (try refine zy ?_)
 refine yax 5 rfl (fun h1=>?_) (fun h1=>?_)
 ·(try refine zy ?_)
  refine yaf ?_;refine ⟨_,rfl,?_⟩
  exact yan (by simp;omega)
 ·simp at h1;omega
def yyq (g:GraphD) (s:BitVec 32):Bool:=(List.range 24).all fun v=>!(s.getLsbD v) || (zcl g).getD v 0#32 &&& s == 0#32
def zla (g:GraphD) (kind:Int) (e s:BitVec 32):Bool:=!(s == 0#32) && (s &&& ~~~e == 0#32) && (if kind=1 then s &&& (s - 1#32) == 0#32 else if kind=2 then yyq g s else if kind=4 then s == e else true)
theorem yzn (g:GraphD) (kind:Int) (hk:1≤kind∧kind≤4) (e s:BitVec 32) (hi:kind=2→s &&& ~~~e=0#32→Con Tryz.prog 212 [yxd g,ybi s] (ybq (yyq g s))):Con Tryz.prog 160 [yxd g,i64 kind,ybi e,ybi s] (ybq (zla g kind e s)):=by
 refine yao Tryz.func160 rfl rfl Tryz.ntmps160 Tryz.results160 rfl rfl ?_
 (try refine zy ?_)
 refine yax 11 rfl (fun h1=>?_) (fun h1=>?_)
 ·rw [yfo] at h1
  (try refine zy ?_)
  refine yaf ?_;refine ⟨_,rfl,?_⟩
  exact yan (by simp only [zla,h1];rfl)
 rw [yfo] at h1
 (repeat (first|refine yfr tok rfl (by constructor <;> omega) rfl rfl ?_|refine ycv rfl rfl (by omega) rfl rfl ?_|refine ydj rfl rfl (by omega) rfl rfl ?_|refine yfq rfl rfl rfl rfl ?_|refine ycw rfl rfl rfl rfl ?_|refine ydp rfl rfl rfl rfl ?_|refine yaz rfl rfl rfl rfl ?_|refine zI ?_|refine zL ?_|refine zC ?_|refine ycu ?_|refine yco ?_|refine zR ?_|refine zD ?_|refine zK ?_|refine zB ?_|refine zA ?_|refine zS ?_|refine zU ?_|refine zV ?_|refine zF ?_|refine zN ?_|with_reducible refine yat ?_|with_reducible refine ybg ?_|refine ybh ?_|refine ybf ?_|refine ybp ?_|refine zT ?_|refine zE ?_|refine zX ?_))
 refine yac rfl (fun h2=>?_) (fun h2=>?_)
 ·rw [yex] at h2
  (try refine zy ?_)
  refine yaf ?_;refine ⟨_,rfl,?_⟩
  exact yan (by unfold zla;rw [show (s &&& ~~~e == 0#32)=false by simpa [bne] using h2];simp)
 rw [yex] at h2
 have h2:(s &&& ~~~e == 0#32)=true:=by simpa [bne] using h2
 have hbase:zla g kind e s=(if kind=1 then s &&& (s - 1#32) == 0#32 else if kind=2 then yyq g s else if kind=4 then s == e else true):=by
  unfold zla;rw [h1,h2];simp
 rw [hbase]
 have:kind=1∨kind=2∨kind=3∨kind=4:=by omega
 rcases this with rfl|rfl|rfl|rfl
 ·(repeat (first|refine ynq tok rfl rfl rfl rfl rfl ?_|refine ynp tok rfl rfl rfl rfl rfl ?_|refine yno tok rfl rfl rfl rfl ?_|refine yfr tok rfl (by constructor <;> omega) rfl rfl ?_|refine ycv rfl rfl (by omega) rfl rfl ?_|refine ydj rfl rfl (by omega) rfl rfl ?_|refine yfq rfl rfl rfl rfl ?_|refine ycw rfl rfl rfl rfl ?_|refine ydp rfl rfl rfl rfl ?_|refine yaz rfl rfl rfl rfl ?_|refine zI ?_|refine zL ?_|refine zC ?_|refine ycu ?_|refine yco ?_|refine zR ?_|refine zD ?_|refine zK ?_|refine zB ?_|refine zA ?_|refine zS ?_|refine zU ?_|refine zV ?_|refine zF ?_|refine zN ?_|with_reducible refine yat ?_|with_reducible refine ybg ?_|refine ybh ?_|refine ybf ?_|refine ybp ?_|refine zT ?_|refine zE ?_|refine zX ?_))
  refine yaf ?_;refine ⟨_,rfl,?_⟩
  rw [yfo]
  exact yan rfl
 ·(repeat (first|refine zy ?_|refine yad rfl rfl (hi rfl (by simpa using h2)) rfl rfl ?_))
  refine yaf ?_;refine ⟨_,rfl,?_⟩
  exact yan rfl
 ·(try refine zy ?_)
  refine yaf ?_;refine ⟨_,rfl,?_⟩
  exact yan rfl
 ·(try refine zy ?_)
  refine yaf ?_;refine ⟨_,rfl,?_⟩
  rw [zls]
  exact yan rfl
end
section
open Go.RowKit
section
variable {P:Program} {N:Nat} {t:List (Nat × AV)} {h:List (Nat × Option LObj)}
theorem Sim.freezeM {B:Bse} {ok0:Nat→Prop} {s:SS} {lv:Live} {a:Act} {w:World} (hs:Sim B ok0 N s lv a w) {jb k id size len:Nat} {xs ys:List AV} {rows:List (List AV)} (hj:s.h jb=some (.mcells ys)) (hk:ys[k]?=some (.ls id size len)) (hx:s.h id=some (.vec xs)) (hlen:rows.length=len)
  (hsize:∀ row∈rows,row.length=size) (hfl:rows.flatten=xs) {s':SS} (ht:∀ x y,s'.t x=some y→s.t x=some y) (hid:s'.h id=none) (hj':s'.h jb=some (.mcells (ys.set k (.sl size rows)))) (hh:∀ j ob,j≠jb→s'.h j=some ob→s.h j=some ob):∃ lv',Sim B ok0 N s' lv' a w:=by
 obtain ⟨lv',h1,h2,h3,h4⟩:=hs.forg (s':=⟨s'.t,fun j=>if j=jb then some (.mcells ys) else s'.h j⟩) (fun x y hy=>.inr (ht x y hy)) (fun x y hy=>⟨y,ht x y hy⟩) (fun j ob hb=>by
  simp only at hb
  split at hb
  ·rename_i e;subst e;cases hb;exact ⟨_,hj,.inl rfl⟩
  ·rename_i e;exact ⟨ob,hh j ob e hb,.inl rfl⟩)
 refine ⟨lv',?_⟩
 have hne:id≠jb:=by intro e;subst e;rw [hj'] at hid;cases hid
 have hpure:∀ x∈xs,∀ i,ment i x=false:=by
  intro x hxm i
  obtain ⟨b,n,g1,g2⟩:=hs.inv.obj id _ hx
  cases b with
  | none=>simp only [yfb,reduceCtorEq,exists_const,or_false] at g2;cases g2;cases hxm
  | some b=>exact yap.ment (g2.2.2.2 x hxm)
 obtain ⟨bo,n,g1,g2⟩:=hs.inv.obj jb _ hj
 obtain ⟨bo',n',k1,k2⟩:=h1.inv.obj jb (.mcells ys) (by simp)
 have hsame:=h2 jb bo' n' k1
 rw [g1] at hsame
 cases hsame
 cases bo with
 | none=>simp [yfb] at g2
 | some b=>
  obtain ⟨q1,q2,c,e,q3,q4,q5,q6,q7⟩:=g2
  obtain ⟨r1,r2,c',e',r3,r4,r5,r6,r7⟩:=k2
  rw [q3] at r3
  cases r3
  have hkl:=(List.getElem?_eq_some_iff.1 hk).1
  have hkc:k < c.size:=by omega
  have hold:Rel (yaw B ok0 lv w) w lv (.ls id size len) c[k]:=q7 k _ _ hk (by simp [hkc])
  have hnew:Rel (yaw B ok0 lv' w) w lv' (.sl size rows) c[k]:=by
   have hr:=yph hs.inv hold (by rw [hx];rfl) hlen hsize hfl hpure (yaw B ok0 lv' w) h4 (fun b n hb=>?_)
   ·exact hr.relive fun i b n _ hm=>by simp [ment] at hm
   ·obtain ⟨_,_,g1,g2,_⟩:=hs.inv.lvat hb
    refine ⟨.inr g1,g2,fun j b' m hj he=>?_⟩
    subst he
    have:=hs.inv.inj j id b' m n (h2 j _ m hj) hb
    subst this
    rw [h1.inv.dom j (by simp [hne,hid])] at hj
    cases hj
  refine ⟨⟨h1.inv.base,h1.inv.ok0lt,fun j hjn=>?_,h1.inv.inj,fun j x hxj=>?_⟩,h1.size,h1.frame,h1.defers,h1.big,fun j b o hN hjx hc hb=>?_⟩
  ·by_cases hjj:j=jb
   ·subst hjj;rw [hj'] at hjn;cases hjn
   ·exact h1.inv.dom j (by simp [hjj,hjn])
  ·by_cases hjj:j=jb
   ·subst hjj
    rw [hj'] at hxj
    cases hxj
    refine ⟨some b,n,k1,r1,r2,c,e,q3,q4,by simpa using r5,fun x hxm=>?_,fun i x u hi hu=>?_⟩
    ·rcases List.mem_or_eq_of_mem_set hxm with hm|hm
     ·exact r6 x hm
     ·subst hm;rfl
    ·rw [List.getElem?_set] at hi
     split at hi
     ·rename_i e1
      subst e1
      cases hi
      simp only [hkc,Array.getElem?_eq_getElem,Option.some.injEq] at hu
      subst hu
      exact hnew
     ·exact r7 i x u hi hu
   ·exact h1.inv.obj j x (by simp [hjj,hxj])
  ·by_cases hjj:j=jb
   ·subst hjj
    rw [hj'] at hjx
    cases hjx
    cases hc
   ·exact h1.pin j b o hN (by simp [hjj,hjx]) hc hb
theorem A_freezeM {c:Code} {Q:Exit→SS→Prop} {t':List (Nat × AV)} {h':List (Nat × Option LObj)} (jb k:Nat) {id size len:Nat} {xs ys:List AV} (rows:List (List AV)) (hj:hlook h jb=some (yhc ys)) (hk:ys[k]?=some (.ls id size len)) (hx:hlook h id=some (.vec xs)) (hlen:rows.length=len)
  (hsize:∀ row∈rows,row.length=size) (hfl:rows.flatten=xs) (ht:ywl t t') (hh:yrf h h') (hid:hlook h' id=none) (hne:id≠jb) (k:A P N c Q (S t' ((jb,some (yhc (ys.set k (.sl size rows))))::h'))):A P N c Q (S t h):=by
 have hy:ys≠[]:=by intro e;subst e;simp at hk
 rw [yhy hy] at hj
 rw [yhy (by intro e;have:=congrArg List.length e;simp at this;exact hy this)] at k
 intro B ok0 lv a w hs
 obtain ⟨lv',hs'⟩:=hs.freezeM (s':=S t' ((jb,some (.mcells (ys.set _ (.sl size rows))))::h')) hj hk hx hlen hsize hfl (ybv ht) (by rw [S];simp only;rw [yaq hne];exact hid) ybb (fun j ob hj hb=>by
  rw [S] at hb
  simp only at hb
  rw [yaq hj] at hb
  exact yag hh j ob hb)
 exact k B ok0 lv' a w hs'
theorem A_asPlain {c:Code} {Q:Exit→SS→Prop} (id:Nat) {xs:List AV} (hx:hlook h id=some (yhc xs)) (hp:yap.pureL xs=true) (k:A P N c Q (S t ((id,some (.vec xs))::h))):A P N c Q (S t h):=by
 intro B ok0 lv a w hs
 refine k B ok0 lv a w ⟨⟨hs.inv.base,hs.inv.ok0lt,fun j hj=>?_,hs.inv.inj,fun j x hj=>?_⟩,hs.size,hs.frame,hs.defers,hs.big,fun j b ws hN hj hc hb=>?_⟩
 ·refine hs.inv.dom j ?_
  simp only [S,hlook] at hj ⊢
  split at hj
  ·cases hj
  ·exact hj
 ·simp only [S,hlook] at hj
  split at hj
  ·rename_i hb
   cases hj
   have e:=Nat.eq_of_beq_eq_true hb
   subst e
   obtain ⟨b,n,h1,h2⟩:=hs.inv.obj j _ hx
   refine ⟨b,n,h1,?_⟩
   cases xs with
   | nil=>exact h2
   | cons x xs=>
    cases b with
    | none=>simp [yfb,yhc] at h2
    | some b=>exact ⟨h2.1,h2.2.1,h2.2.2,yjw hp⟩
  ·exact hs.inv.obj j x hj
 ·simp only [S,hlook] at hj
  split at hj
  ·cases hj;cases hc
  ·exact hs.pin j b ws hN hj hc hb
end
section
variable {P:Program} {T:Nat→Option Ty} {N:Nat} {ops:Array Oper} {lf:Oper→Bool} {Q:SS→Prop} {t:List (Nat × AV)} {h:List (Nat × Option LObj)} {rest:List Oper} {d:Nat} {ty:TypeId} {pos:String} {af:Array Edge} {gd:Option (Nat × Bool)}
theorem L_fieldLp (hT:TOK P T) {ti i o s sz:Nat} {ag a2:Bool} {fs:List (Nat × Nat × Bool)} {z:List Value} {x:Operand} {id off:Nat} {xs:List AV} (hk:T ti=some ⟨.strct fs,sz,a2,z⟩) (hf:fs[i]?=some (o,s,ag)) (hx:evF (look t) x=some (.lp id off)) (hh:ycl (hlook h id)=some xs) (hne:xs≠[])
  (hw:yah ops (look t) ⟨some d,.fieldAddr ti x i,ty,pos,af,gd⟩=some true) (hd:Nat.blt d N=true) (k:Lex P N ops lf Q rest (S ((d,.lp id (off+o))::t) h)):Lex P N ops lf Q (⟨some d,.fieldAddr ti x i,ty,pos,af,gd⟩::rest) (S t h):=
 yby (yqo (hT _ _ hk).2.2 hf hx hh (.inl hne)) hw hd k
end
theorem pureL_map {α:Type} {f:α→AV} (l:List α) (hf:∀ x,yap (f x)=true):yap.pureL (l.map f)=true:=by
 induction l with
 | nil=>rfl
 | cons x l ih=>simp [yap.pureL,hf,ih]
end
section
open Go.RowKit
def zax:List (Int × Int)→Int→List Int × Int
 | [],P=>([],P)
 | r::rs,P=>((zax rs P).2::(zax rs P).1,(zax rs P).2 * (r.2 - r.1+1))
def zay:List (List (Int × Int))→Int→List (List Int) × Int
 | [],P=>([],P)
 | r::rs,P=>((zax r (zay rs P).2).1::(zay rs P).1,(zax r (zay rs P).2).2)
def ykg:List (Int × Int)→Int
 | []=>1
 | r::rs=>(r.2 - r.1+1) * ykg rs
theorem zuc:∀ (l:List (Int × Int)) (P:Int),(zax l P).2=P * ykg l
 | [],P=>by simp [zax,ykg]
 | r::rs,P=>by
  simp only [zax,ykg]
  rw [zuc rs P,Int.mul_assoc,Int.mul_comm (ykg rs)]
theorem ytf:∀ (a b:List (Int × Int)),ykg (a++b)=ykg a * ykg b
 | [],b=>by simp [ykg]
 | r::rs,b=>by
  simp only [List.cons_append,ykg]
  rw [ytf rs b,Int.mul_assoc]
theorem zxj:∀ (t:List (List (Int × Int))) (P:Int),(zay t P).2=P * ykg t.flatten
 | [],P=>by simp [zay,ykg]
 | r::rs,P=>by
  simp only [zay,List.flatten_cons]
  rw [zuc,zxj rs P,ytf,Int.mul_assoc,Int.mul_comm (ykg rs.flatten)]
theorem yti:∀ (l:List (Int × Int)) (P:Int),(zax l P).1.length=l.length
 | [],P=>rfl
 | r::rs,P=>by simp [zax,yti rs P]
theorem yxn:∀ (t:List (List (Int × Int))) (P:Int),(zay t P).1.length=t.length
 | [],P=>rfl
 | r::rs,P=>by simp [zay,yxn rs P]
theorem ytg:∀ {l:List (Int × Int)},(∀ q∈l,zwb q)→1≤ykg l
 | [],_=>by simp [ykg]
 | r::rs,h=>by
  have ih:=ytg (l:=rs) fun q hq=>h q (List.mem_cons_of_mem _ hq)
  have hr:=h r (List.mem_cons_self ..)
  have:=Int.mul_le_mul (show (1:Int)≤r.2 - r.1+1 by have:=hr.2.1;omega) ih (by omega) (by have:=hr.2.1;omega)
  simpa [ykg] using this
theorem prodL_le {a b:List (Int × Int)} (h:∀ q∈a++b,zwb q):ykg b≤ykg (a++b):=by
 have ha:=ytg (l:=a) fun q hq=>h q (List.mem_append_left _ hq)
 have hb:=ytg (l:=b) fun q hq=>h q (List.mem_append_right _ hq)
 rw [ytf]
 have:=Int.mul_le_mul ha (Int.le_refl (ykg b)) (by omega) (by omega)
 simpa using this
theorem zgo:∀ {l:List (Int × Int)} {n m:Int},n≤32768→zas n l=some m→m=n * ykg l∧m≤32768
 | [],n,m,hn,h=>by simp only [zas,Option.some.injEq] at h;subst h;simp [ykg,hn]
 | r::rs,n,m,hn,h=>by
  simp only [zas] at h
  split at h
  ·cases h
  ·rename_i h1
   obtain ⟨e,h2⟩:=zgo (by omega) h
   exact ⟨by rw [e,ykg,Int.mul_assoc],h2⟩
theorem tab_split {tbl:List (List (Int × Int))} {k:Nat} {r:List (Int × Int)} (hk:tbl[k]?=some r) (j:Nat):tbl.flatten=((tbl.take k).flatten++r.take j)++(r.drop j++(tbl.drop (k+1)).flatten):=by
 conv=>lhs;rw [← List.take_append_drop (k+1) tbl,ybc hk]
 rw [List.flatten_append,List.flatten_append,List.append_assoc,List.append_assoc]
 congr 1
 rw [← List.append_assoc,List.take_append_drop]
 simp
theorem zez {tbl:List (List (Int × Int))} (ht:zrk tbl) {n:Int} (hn:ykk tbl=(n,0)) {k:Nat} {r:List (Int × Int)} (hk:tbl[k]?=some r) (j:Nat):1≤(zax (r.drop j) (zay (tbl.drop (k+1)) 1).2).2∧(zax (r.drop j) (zay (tbl.drop (k+1)) 1).2).2≤32768:=by
 have hall:∀ q∈tbl.flatten,zwb q:=fun q hq=>by
  obtain ⟨r,hr,hq⟩:=List.mem_flatten.1 hq
  exact (ht.2 r hr).2 q hq
 have hc:zas 1 tbl.flatten=some n:=by
  unfold ykk at hn
  split at hn
  ·rename_i e;cases hn;exact e
  ·cases hn
 obtain ⟨e,hn2⟩:=zgo (by omega) hc
 rw [Int.one_mul] at e
 have hs:=tab_split hk j
 rw [zuc,zxj,Int.one_mul,Int.mul_comm,← ytf]
 rw [hs] at hall e
 have h1:=ytg (l:=r.drop j++(tbl.drop (k+1)).flatten) fun q hq=>hall q (List.mem_append_right _ hq)
 have h2:=prodL_le hall
 omega
theorem zsc {α:Type} {l:List α} {k:Nat} {x:α} (h:l[k]?=some x):l.drop k=x::l.drop (k+1):=by
 obtain ⟨h1,h2⟩:=List.getElem?_eq_some_iff.1 h
 rw [List.drop_eq_getElem_cons h1,h2]
def yjv (p:ProgD) (g:GraphD):List (List Int):=(zay (yaj p g) 1).1
def zua (p:ProgD) (g:GraphD) (kind:Int) (pl:AV):List AV:=[yfp p g,yxd g,i64 kind,ydv (yaj p g),pl]
def yfj (p:ProgD) (g:GraphD) (kind:Int):AV:=.dp (zua p g kind (.sl 1 ((yjv p g).map fun r=>[yam r]))) 0
def plX (k:Nat) (R:List (List Int)):List AV:=List.replicate k yga++R.map yam
theorem plX_len (k:Nat) (R:List (List Int)):(plX k R).length=k+R.length:=by simp [plX]
theorem plX_ment (d k:Nat) (R:List (List Int)):ment.mentL d (plX k R)=false:=by
 unfold plX
 rw [yzb,zer d yga rfl,Bool.false_or]
 refine ykr fun x hx=>?_
 obtain ⟨y,_,rfl⟩:=List.mem_map.1 hx
 rfl
theorem plX_set (k:Nat) (R:List (List Int)) (x:AV):(plX (k+1) R).set k x=List.replicate k yga++x::R.map yam:=by
 unfold plX
 rw [List.replicate_succ',List.append_assoc,List.set_append_right _ _ (by simp)]
 simp
theorem ztg (k:Nat) (x:AV) (l:List AV):(List.replicate k yga++x::l)[k]?=some x:=by
 rw [List.getElem?_append_right (by simp)];simp
theorem mid_set (k:Nat) (x y:AV) (l:List AV):(List.replicate k yga++x::l).set k y=List.replicate k yga++y::l:=by
 rw [List.set_append_right _ _ (by simp)];simp
def rwX (j:Nat) (Q:List Int):List AV:=(List.replicate j 0++Q).map i64
theorem rwX_len (j:Nat) (Q:List Int):(rwX j Q).length=j+Q.length:=by simp [rwX]
theorem rwX_set (j:Nat) (Q:List Int) (z:Int):(rwX (j+1) Q).set j (i64 z)=rwX j (z::Q):=by
 unfold rwX
 rw [← List.map_set,List.replicate_succ',List.append_assoc,List.set_append_right _ _ (by simp)]
 simp
theorem newbuilder_con (p:ProgD) (g:GraphD) (hf:Fair p g) (h0:ygf p g=0) (kind:Int) (n:Int) (hn:ykk (yaj p g)=(n,0)):Con Tryz.prog 79 [zau p,ypu g,i64 kind] (yfj p g kind):=by
 have hg:=(ygx.1 h0).2.1
 have ht:=yis hf h0
 obtain ⟨tbl,htb⟩:∃ tbl,yaj p g=tbl:=⟨_,rfl⟩
 have hT:=yom p g hf h0
 have htl:=ht.1
 unfold yfj yjv zua
 rw [htb] at hn ht hT htl ⊢
 refine yao Tryz.func79 rfl rfl Tryz.ntmps79 Tryz.results79 rfl rfl ?_
 (repeat (first|refine zy ?_|refine yad rfl rfl (yvw p g hf h0) rfl rfl ?_|refine yad rfl rfl (zcm g hg) rfl rfl ?_|refine yad rfl rfl hT rfl rfl ?_|refine ylm tok rfl rfl rfl rfl (by constructor <;> omega) rfl rfl rfl rfl rfl ?_))
 refine ynl 28 (List.replicate tbl.length yga) rfl (zlg _ _) ?_
 refine ycn (α:=Int × Int × List (List Int)) (fun q=>[(9,i64 q.1),(8,i64 q.2.1),(7,.lp 21 0)]) (fun q=>[(28,some (yhc (plX (q.1+1).toNat q.2.2))),(21,some (.cells [yfp p g,yxd g,i64 kind,ydv tbl,.ls 28 1 tbl.length]))]) (fun q=>(q.1+1).toNat) (fun q=>-1≤q.1∧q.1 < tbl.length∧zay (tbl.drop (q.1+1).toNat) 1=(q.2.2,q.2.1)) (tbl.length - 1,1,[]) ⟨by simp only;omega,by simp only;omega,?_⟩ (by exact zs) ?_ ?_
 ·simp only
  rw [show ((tbl.length:Int) - 1+1).toNat=tbl.length by omega,List.drop_length];rfl
 ·refine yag (yab ?_ (yab rfl yae))
  simp only
  rw [show ((tbl.length:Int) - 1+1).toNat=tbl.length by omega]
  simp [plX,hlook]
 rintro ⟨z,P0,R⟩ ⟨hz1,hz2,hR⟩
 simp only at hz1 hz2 hR ⊢
 (try refine zy ?_)
 refine yac rfl (fun h1=>?_) (fun h1=>?_)
 ·simp at h1
  obtain ⟨k,rfl⟩:∃ k:Nat,z=k:=⟨z.toNat,by omega⟩
  obtain ⟨r,hr⟩:=ycd (show k < tbl.length by omega)
  obtain ⟨hrl,hrq⟩:=ht.2 r (List.mem_of_getElem? hr)
  rw [show ((k:Int)+1).toNat=k+1 by omega] at hR ⊢
  have hP:(zay (tbl.drop (k+1)) 1).2=P0:=by rw [hR]
  have hRl:R.length=tbl.length - (k+1):=by
   have:=yxn (tbl.drop (k+1)) 1
   rw [hR] at this
   simpa using this
  (try refine zw ?_)
  refine ycb (lf:=lf0) ysu rfl ?_
  refine yjh [5,6,7,8,9,10,11,12] 8 (yaa rfl (yaa rfl (yaa rfl (yaa rfl (yaa rfl (yaa rfl (yaa rfl (yaa rfl yal)))))))) rfl (by decide +kernel) ?_
  (try refine zo ?_)
  refine you tok (fun y=>!ment 54 y) [(0,41,.lp 21 0),(1,42,.lp 21 0),(2,43,.lp 21 (0+4)),(3,44,.ls 28 1 tbl.length),(4,45,i64 k)] 13 54 [] (.ls 54 1 r.length) (req:=[(7,.lp 21 0),(9,i64 k)]) 2 rfl (by kernel_rfl) rfl rfl rfl (by kernel_rfl) (by kernel_rfl) rfl ⟨⟨rfl,rfl,rfl⟩,⟨rfl,rfl,rfl⟩,trivial⟩ rfl
   ⟨⟨_,[(7,.lp 21 0),(9,i64 k)],rfl,rfl,rfl,by kernel_rfl,by kernel_rfl,by kernel_rfl,by kernel_rfl,rfl,rfl,rfl⟩,⟨_,[(41,.lp 21 0),(7,.lp 21 0),(9,i64 k)],rfl,rfl,rfl,by kernel_rfl,by kernel_rfl,by kernel_rfl,by kernel_rfl,rfl,rfl,rfl⟩,⟨_,[(41,.lp 21 0),(42,.lp 21 0),(7,.lp 21 0),(9,i64 k)],rfl,rfl,rfl,by kernel_rfl,by kernel_rfl,by kernel_rfl,by kernel_rfl,rfl,rfl,rfl⟩,⟨_,[(41,.lp 21 0),(42,.lp 21 0),(43,.lp 21 (0+4)),(7,.lp 21 0),(9,i64 k)],rfl,rfl,rfl,by kernel_rfl,by kernel_rfl,by kernel_rfl,by kernel_rfl,rfl,rfl,rfl⟩,⟨_,[(7,.lp 21 0),(9,i64 k)],rfl,rfl,rfl,by kernel_rfl,by kernel_rfl,by kernel_rfl,by kernel_rfl,rfl,rfl,rfl⟩,trivial⟩ rfl rfl rfl
   (fun t ht hl=>zhu tok 54 hl rfl rfl rfl rfl rfl (ht 53 _ rfl) (ht 53 _ rfl) (by constructor <;> omega) (freshH_cons (by decide) (by rw [yiz];exact plX_ment _ _ _) rfl)) ?_
  refine yay [14,15] (yaa rfl (yaa rfl yal)) rfl (by kernel_rfl) ?_
  (repeat (first|refine zo ?_|refine yas tok rfl rfl rfl rfl (by omega) (by omega) rfl rfl ?_))
  refine yki tok rfl rfl rfl rfl rfl rfl (by rw [plX_len];simp;omega) rfl rfl ?_
  (try refine zy ?_)
  refine ycn (α:=Int × Int × List Int) (fun q=>[(10,i64 q.1),(8,i64 q.2.1),(9,i64 k),(7,.lp 21 0)]) (fun q=>[(54,some (.vec (rwX (q.1+1).toNat q.2.2))),(28,some (yhc (List.replicate k yga++.ls 54 1 r.length::R.map yam))),(21,some (.cells [yfp p g,yxd g,i64 kind,ydv tbl,.ls 28 1 tbl.length]))]) (fun q=>(q.1+1).toNat) (fun q=>-1≤q.1∧q.1 < r.length∧zax (r.drop (q.1+1).toNat) P0=(q.2.2,q.2.1)) (r.length - 1,P0,[]) ⟨by simp only;omega,by simp only;omega,?_⟩ (by exact zs) ?_ ?_
  ·simp only
   rw [show ((r.length:Int) - 1+1).toNat=r.length by omega,List.drop_length];rfl
  ·refine yag (yab ?_ (yab ?_ (yab rfl yae)))
   ·simp only
    rw [show ((r.length:Int) - 1+1).toNat=r.length by omega,show ygr [Value.int .i64 0]=[i64 0] from rfl,zlg]
    simp [rwX,hlook]
   ·rw [show ((k:Int).toNat * 1)=k by simp,plX_set];rfl
  rintro ⟨y,P,Q⟩ ⟨hy1,hy2,hQ⟩
  simp only at hy1 hy2 hQ ⊢
  (try refine zy ?_)
  refine yac rfl (fun h2=>?_) (fun h2=>?_)
  ·simp at h2
   obtain ⟨j,rfl⟩:∃ j:Nat,y=j:=⟨y.toNat,by omega⟩
   obtain ⟨q,hq⟩:=ycd (show j < r.length by omega)
   rw [show ((j:Int)+1).toNat=j+1 by omega] at hQ ⊢
   have hQl:Q.length=r.length - (j+1):=by
    have:=yti (r.drop (j+1)) P0
    rw [hQ] at this
    simpa using this
   have b1:=zez ht hn hr (j+1)
   have b2:=zez ht hn hr j
   have hnew:zax (r.drop j) P0=(P::Q,P * (q.2 - q.1+1)):=by rw [zsc hq];simp only [zax,hQ]
   rw [hP,hQ] at b1
   rw [hP,hnew] at b2
   simp only at b1 b2
   obtain ⟨q1,q2,q3⟩:=hrq q (List.mem_of_getElem? hq)
   (repeat (first|refine zy ?_|refine yas tok rfl rfl rfl rfl (by omega) (by omega) rfl rfl ?_|refine yda (r:=.ls 54 1 r.length) tok rfl rfl rfl (yfd _) (by rw [show ((k:Int).toNat * 1)=k by simp];exact ztg _ _ _) rfl rfl ?_|refine yop tok rfl rfl rfl rfl rfl rfl (by rw [rwX_len];simp;omega) rfl rfl rfl ?_))
   refine yir ((j:Int) - 1,P * (q.2 - q.1+1),P::Q) ⟨by simp only;omega,by simp only;omega,?_⟩ (by simp only;omega) (by exact zs) (yag (yab ?_ (yab rfl (yab rfl yae))))
   ·simp only
    rw [show ((j:Int) - 1+1).toNat=j by omega];exact hnew
   ·simp only
    rw [show ((j:Int) - 1+1).toNat=j by omega,show ((j:Int).toNat * 1)=j by simp,rwX_set];rfl
  ·simp at h2
   obtain rfl:y=-1:=by omega
   have hQ':zax r P0=(Q,P):=hQ
   have hQl:Q.length=r.length:=by
    have:=yti r P0
    rw [hQ'] at this
    simpa using this
   have hnew:zay (tbl.drop k) 1=(Q::R,P):=by rw [zsc hr];simp only [zay,hR,hQ']
   (repeat (first|with_reducible refine ybg ?_|with_reducible refine yat ?_|refine ybf ?_))
   refine A_freezeM (t':=[(8,i64 P),(9,i64 k),(7,.lp 21 0)]) (h':=[(21,some (.cells [yfp p g,yxd g,i64 kind,ydv tbl,.ls 28 1 tbl.length]))]) 28 k (Q.map fun z=>[i64 z]) rfl (ztg _ _ _) rfl (by simpa using hQl) (fun row hrow=>by obtain ⟨z,_,rfl⟩:=List.mem_map.1 hrow;rfl) ?_ (by exact zs) (yab rfl yae) rfl (by decide) ?_
   ·rw [yfm];simp [rwX]
   rw [mid_set]
   (try refine zy ?_)
   refine yir ((k:Int) - 1,P,Q::R) ⟨by simp only;omega,by simp only;omega,?_⟩ (by simp only;omega) (by exact zs) (yag (yab ?_ (yab rfl yae)))
   ·simp only
    rw [show ((k:Int) - 1+1).toNat=k by omega];exact hnew
   ·simp only
    rw [show ((k:Int) - 1+1).toNat=k by omega];rfl
 ·simp at h1
  obtain rfl:z=-1:=by omega
  have hR':zay tbl 1=(R,P0):=hR
  have hRl:R.length=tbl.length:=by
   have:=yxn tbl 1
   rw [hR'] at this
   simpa using this
  rw [hR']
  (repeat (first|with_reducible refine ybg ?_|with_reducible refine yat ?_|refine ybf ?_))
  refine A_asPlain 28 (xs:=R.map yam) rfl (pureL_map _ fun _=>rfl) ?_
  refine ypz (t':=[(7,.lp 21 0)]) (h':=[(28,some (.vec (R.map yam))),(21,some (.cells [yfp p g,yxd g,i64 kind,ydv tbl,.ls 28 1 tbl.length]))]) ?_ (by exact zs) (yag (yab rfl (yab rfl yae)))
  refine ygs 21 4 (R.map fun r=>[yam r]) rfl rfl rfl (by simpa using hRl) (fun row hrow=>by obtain ⟨z,_,rfl⟩:=List.mem_map.1 hrow;rfl) (yen _) rfl rfl rfl rfl ?_
  (try refine zy ?_)
  refine yaf ?_;refine ⟨_,rfl,?_⟩
  exact Frz.box rfl rfl
end
section
open Go.RowKit
def tzV (B:BitVec 32):Nat:=B.ctz.toNat
theorem yva {B:BitVec 32} (h:B≠0#32):tzV B < 32∧B.getLsbD (tzV B)=true∧∀ u,u < tzV B→B.getLsbD u=false:=by
 refine ⟨?_,BitVec.getLsbD_true_ctz_of_ne_zero h,fun u hu=>BitVec.getLsbD_false_of_lt_ctz hu⟩
 have:=BitVec.ctz_lt_iff_ne_zero.2 h
 simpa [BitVec.lt_def,tzV] using this
theorem zeo {B:BitVec 32} (h:B≠0#32) (u:Nat):(∃ j,j < u∧B.getLsbD j=true)↔tzV B < u:=by
 obtain ⟨_,h2,h3⟩:=yva h
 constructor
 ·rintro ⟨j,hj,hb⟩
  rcases Nat.lt_or_ge j (tzV B) with h4|h4
  ·rw [h3 j h4] at hb;cases hb
  ·omega
 ·intro hu;exact ⟨_,hu,h2⟩
theorem low_off {B:BitVec 32} (h:B≠0#32) (u:Nat):(B &&& (B - 1#32)).getLsbD u=(B.getLsbD u && decide (u≠tzV B)):=by
 rcases Nat.lt_or_ge u 32 with hu|hu
 ·obtain ⟨_,h2,h3⟩:=yva h
  have e:B - 1#32 = ~~~(-B):=(BitVec.not_neg B).symm
  rw [BitVec.getLsbD_and,e,BitVec.getLsbD_not,BitVec.getLsbD_neg]
  have hl:=zeo h u
  by_cases h4:tzV B < u
  ·simp [hu,hl.2 h4,show u≠tzV B by omega]
  ·by_cases h5:u=tzV B
   ·subst h5
    rw [decide_eq_false (show ¬ ∃ j,j < tzV B∧B.getLsbD j=true from fun q=>h4 (hl.1 q)),h2]
    simp
   ·simp [h3 u (by omega)]
 ·rw [BitVec.getLsbD_of_ge _ _ hu,BitVec.getLsbD_of_ge _ _ hu];rfl
theorem low_one {B:BitVec 32} (h:B≠0#32):B &&& -B=1#32 <<< tzV B:=by
 obtain ⟨h1,h2,h3⟩:=yva h
 apply BitVec.eq_of_getLsbD_eq
 intro u hu
 rw [BitVec.getLsbD_and,BitVec.getLsbD_neg,BitVec.getLsbD_shiftLeft]
 have hl:=zeo h u
 by_cases h4:tzV B < u
 ·have:¬ u - tzV B=0:=by omega
  simp [hu,hl.2 h4,BitVec.getLsbD_one,this]
 ·by_cases h5:u=tzV B
  ·subst h5
   rw [decide_eq_false (show ¬ ∃ j,j < tzV B∧B.getLsbD j=true from fun q=>h4 (hl.1 q)),h2]
   simp [h1]
  ·simp [h3 u (by omega),show u < tzV B by omega]
def ycg (B:BitVec 32):List Nat:=(List.range 32).filter B.getLsbD
theorem zbr (p:Nat→Bool) (k:Nat) (hk:p k=true) (hl:∀ u,u < k→p u=false):∀ n,k < n→(List.range n).filter p=k::(List.range n).filter fun u=>p u && decide (u≠k)
 | 0,h=>by omega
 | n+1,h=>by
  rw [List.range_succ,List.filter_append,List.filter_append]
  by_cases e:k=n
  ·subst e
   have e1:(List.range k).filter p=[]:=List.filter_eq_nil_iff.2 fun u hu=>by simp [hl u (List.mem_range.1 hu)]
   have e2:((List.range k).filter fun u=>p u && decide (u≠k))=[]:=List.filter_eq_nil_iff.2 fun u hu=>by simp [hl u (List.mem_range.1 hu)]
   rw [e1,e2]
   simp [hk]
  ·rw [zbr p k hk hl n (by omega)]
   have:decide (n≠k)=true:=by simp;omega
   simp only [List.filter_cons,List.filter_nil,this,Bool.and_true,List.cons_append]
theorem zcn {B:BitVec 32} (h:B≠0#32):ycg B=tzV B::ycg (B &&& (B - 1#32)):=by
 obtain ⟨h1,h2,h3⟩:=yva h
 unfold ycg
 rw [zbr B.getLsbD (tzV B) h2 h3 32 h1]
 congr 1
 exact List.filter_congr fun u _=>(low_off h u).symm
theorem zic {B:BitVec 32}:ycg B=[]↔B=0#32:=by
 constructor
 ·intro h
  refine BitVec.eq_of_getLsbD_eq fun u hu=>?_
  rw [BitVec.getLsbD_zero]
  simpa using List.filter_eq_nil_iff.1 h u (List.mem_range.2 hu)
 ·rintro rfl
  exact List.filter_eq_nil_iff.2 fun u _=>by simp
def ypm (B:BitVec 32):Nat→BitVec 32
 | 0=>B
 | k+1=>ypm B k &&& (ypm B k - 1#32)
theorem yxg (B:BitVec 32):∀ k,ycg (ypm B k)=(ycg B).drop k
 | 0=>rfl
 | k+1=>by
  have ih:=yxg B k
  rw [← List.tail_drop,← ih]
  show ycg (ypm B k &&& (ypm B k - 1#32))=_
  by_cases h:ypm B k=0#32
  ·rw [h];simp [zic.2]
  ·rw [zcn h];rfl
theorem zok {B:BitVec 32} {k:Nat}:ypm B k=0#32↔(ycg B).length≤k:=by
 rw [← zic,yxg,List.drop_eq_nil_iff]
theorem rem_at {B:BitVec 32} {k:Nat} (h:ypm B k≠0#32):(ycg B)[k]?=some (tzV (ypm B k)):=by
 have e:=yxg B k
 rw [zcn h] at e
 have:=congrArg List.head? e
 rw [List.head?_drop] at this
 exact this.symm
theorem ymb {B:BitVec 32} {v:Nat}:v∈ycg B↔v < 32∧B.getLsbD v=true:=by
 unfold ycg
 rw [List.mem_filter,List.mem_range]
theorem yzi (B:BitVec 32):(ycg B).length≤32:=by
 unfold ycg
 have:=List.length_filter_le B.getLsbD (List.range 32)
 simpa using this
end
section
open Go.RowKit
def yob (e x:BitVec 32):BitVec 32:=(x - e) &&& e
def zpu (x e:BitVec 32):Prop:=x &&& ~~~e=0#32
theorem zpu.bit {x e:BitVec 32} (h:zpu x e) {u:Nat} (hu:x.getLsbD u=true):e.getLsbD u=true:=by
 have:=congrArg (fun X=>BitVec.getLsbD X u) h
 simp only [BitVec.getLsbD_and,BitVec.getLsbD_not,BitVec.getLsbD_zero,hu] at this
 rcases Nat.lt_or_ge u 32 with h1|h1
 ·simpa [h1] using this
 ·rw [BitVec.getLsbD_of_ge _ _ h1] at hu;cases hu
theorem ysz (e x:BitVec 32):zpu (yob e x) e:=by
 apply BitVec.eq_of_getLsbD_eq
 intro u hu
 simp only [yob,BitVec.getLsbD_and,BitVec.getLsbD_not,BitVec.getLsbD_zero]
 cases e.getLsbD u <;> simp
theorem next_neg {x e:BitVec 32} (h:zpu x e):yob e x=-(e &&& ~~~x) &&& e:=by
 unfold yob
 congr 1
 have h1:x+~~~e=x ||| ~~~e:=BitVec.add_eq_or_of_and_eq_zero _ _ h
 have h2 : ~~~(e &&& ~~~x)=x ||| ~~~e:=by
  apply BitVec.eq_of_getLsbD_eq
  intro u hu
  simp only [BitVec.getLsbD_not,BitVec.getLsbD_and,BitVec.getLsbD_or,hu,decide_true,Bool.true_and]
  cases e.getLsbD u <;> cases x.getLsbD u <;> rfl
 rw [BitVec.neg_eq_not_add,h2,← h1,BitVec.sub_eq_add_neg,BitVec.neg_eq_not_add,BitVec.add_assoc]
theorem yzf {e:BitVec 32}:yob e e=0#32:=by
 unfold yob;simp
theorem bit_lt {n m:Nat} (k:Nat) (h1:n.testBit k=false) (h2:m.testBit k=true) (h3:∀ j,k < j→n.testBit j=m.testBit j):n < m:=by
 have e:n / 2 ^ k / 2=m / 2 ^ k / 2:=Nat.eq_of_testBit_eq fun j=>by
  rw [Nat.testBit_div_two,Nat.testBit_div_two,Nat.testBit_div_two_pow,Nat.testBit_div_two_pow]
  exact h3 _ (by omega)
 have a1:n / 2 ^ k % 2=0:=by
  have:=Nat.testBit_div_two_pow (n:=k) n 0
  rw [Nat.zero_add,h1,Nat.testBit_zero] at this
  simpa using this
 have a2:m / 2 ^ k % 2=1:=by
  have:=Nat.testBit_div_two_pow (n:=k) m 0
  rw [Nat.zero_add,h2,Nat.testBit_zero] at this
  simpa using this
 have hlt:n / 2 ^ k < m / 2 ^ k:=by omega
 exact Nat.lt_of_not_le fun hge=>by
  have:=Nat.div_le_div_right (c:=2 ^ k) hge
  omega
theorem zkx {x e:BitVec 32} (h:zpu x e) (hne:x≠e):x.toNat < (yob e x).toNat:=by
 have hr:e &&& ~~~x≠0#32:=fun q=>hne (by
  apply BitVec.eq_of_getLsbD_eq
  intro u hu
  have:=congrArg (fun X=>BitVec.getLsbD X u) q
  simp only [BitVec.getLsbD_and,BitVec.getLsbD_not,BitVec.getLsbD_zero,hu,decide_true,Bool.true_and] at this
  cases hx:x.getLsbD u with
  | true=>exact (h.bit hx).symm
  | false=>rw [hx] at this;simpa using this.symm)
 obtain ⟨k1,k2,k3⟩:=yva hr
 have hlow:=zeo hr
 rw [next_neg h]
 generalize hR:e &&& ~~~x=r at *
 have rb:∀ u,u < 32→r.getLsbD u=(e.getLsbD u && !x.getLsbD u):=fun u hu=>by
  rw [← hR];simp [hu]
 have hk:=k2
 rw [rb _ k1] at hk
 simp only [Bool.and_eq_true,Bool.not_eq_true'] at hk
 refine bit_lt (tzV r) hk.2 ?_ fun u hu=>?_
 ·show (-r &&& e).getLsbD (tzV r)=true
  rw [BitVec.getLsbD_and,BitVec.getLsbD_neg,k2,hk.1,decide_eq_false (show ¬ ∃ j,j < tzV r∧r.getLsbD j=true from fun q=>by have:=(hlow _).1 q;omega)]
  simp
 ·show x.getLsbD u=(-r &&& e).getLsbD u
  rcases Nat.lt_or_ge u 32 with h1|h1
  ·rw [BitVec.getLsbD_and,BitVec.getLsbD_neg,decide_eq_true ((hlow u).2 hu),rb u h1]
   cases hx:x.getLsbD u with
   | true=>rw [h.bit hx];simp [h1]
   | false=>cases e.getLsbD u <;> simp [h1]
  ·rw [BitVec.getLsbD_of_ge _ _ h1,BitVec.getLsbD_of_ge _ _ h1]
def ytl (e:BitVec 32):Nat→BitVec 32→List (BitVec 32)
 | 0,_=>[]
 | n+1,x=>if x=0#32 then [] else x::ytl e n (yob e x)
def zlq (e x:BitVec 32):List (BitVec 32):=ytl e (4294967296 - x.toNat) x
theorem yme {e:BitVec 32}:∀ n,ytl e n 0#32=[]
 | 0=>rfl
 | n+1=>by simp [ytl]
theorem ywb {e:BitVec 32}:∀ (n m:Nat) (x:BitVec 32),zpu x e→4294967296≤n+x.toNat→4294967296≤m+x.toNat→ytl e n x=ytl e m x
 | 0,m,x,hs,hn,hm=>by have:=x.isLt;omega
 | n+1,0,x,hs,hn,hm=>by have:=x.isLt;omega
 | n+1,m+1,x,hs,hn,hm=>by
  unfold ytl
  by_cases h0:x=0#32
  ·rw [if_pos h0,if_pos h0]
  rw [if_neg h0,if_neg h0]
  by_cases he:x=e
  ·subst he;rw [yzf,yme,yme]
  ·have:=zkx hs he
   rw [ywb n m (yob e x) (ysz e x) (by omega) (by omega)]
theorem subsX_zero {e:BitVec 32}:zlq e 0#32=[]:=yme _
theorem subsX_cons {e x:BitVec 32} (hs:zpu x e) (h0:x≠0#32):zlq e x=x::zlq e (yob e x):=by
 have hx:=x.isLt
 unfold zlq
 obtain ⟨n,hn⟩:∃ n,4294967296 - x.toNat=n+1:=⟨4294967296 - x.toNat - 1,by omega⟩
 rw [hn]
 conv=>lhs;unfold ytl
 rw [if_neg h0]
 congr 1
 by_cases he:x=e
 ·subst he;rw [yzf,yme,yme]
 ·have:=zkx hs he
  have:=(yob e x).isLt
  exact ywb _ _ _ (ysz e x) (by omega) (by omega)
def xba (x:BitVec 32):Nat:=if x=0#32 then 0 else 4294967296 - x.toNat
theorem far_next {e x:BitVec 32} (hs:zpu x e) (h0:x≠0#32):xba (yob e x) < xba x:=by
 have hx:=x.isLt
 unfold xba
 rw [if_neg h0]
 by_cases h1:yob e x=0#32
 ·rw [if_pos h1];omega
 ·rw [if_neg h1]
  have:x≠e:=fun q=>h1 (by rw [q];exact yzf)
  have:=zkx hs this
  omega
def xat (e:BitVec 32):List (BitVec 32):=zlq e (-e &&& e)
theorem zgv (e:BitVec 32):zpu (-e &&& e) e:=by
 apply BitVec.eq_of_getLsbD_eq
 intro u hu
 simp only [BitVec.getLsbD_and,BitVec.getLsbD_not,BitVec.getLsbD_zero]
 cases e.getLsbD u <;> simp
end
section
open Go.RowKit
set_option maxHeartbeats 1000000 in
theorem tz32_core (x k idx:Nat) (w:World) (hx0:((x:Int) == 0)=false) (key:bits BinOp.and IntKind.u32 (x:Int) (-(x:Int) % 4294967296) * 125613361 % 4294967296 / 134217728=(idx:Int))
  (hi:idx < 32) (hk:k < 32) (hcell:w.cell? ⟨0,idx,none⟩=some (.int .u8 k)) :
  Calls Tryz.prog 203 #[.int .u32 x] w fun e w'=>e=.returned (.int .i64 k)∧w'=w:=by
 go_enter Tryz.func203,Tryz.ntmps203
 go_wp2_with (simp only [key])
 go_ret
 exact ⟨rfl,rfl⟩
theorem tab32_at:∀ k:Fin 32,2 ^ k.val * 125613361 % 4294967296 / 134217728 < 32∧zvu[2 ^ k.val * 125613361 % 4294967296 / 134217728]?=some (k.val:Int):=by decide +kernel
theorem glob32 {w:World} (h:ywf w) {j:Nat} {z:Int} (hz:zvu[j]?=some z):w.cell? ⟨0,j,none⟩=some (.int .u8 z):=by
 unfold ywf Lib.TabIs World.var? at h
 rw [zni] at h
 simp only [Option.bind_some] at h
 split at h
 ·rename_i cs a b hc
  cases h
  simp [World.cell?,hc,hz]
 ·cases h
theorem tz_con (B:BitVec 32) (h:B≠0#32):Con Tryz.prog 203 [ybi B] (i64 (tzV B)):=by
 refine ⟨⟨_,Tryz.func203,rfl,rfl⟩,rfl,fun ok0 w us hG hok hr=>?_⟩
 obtain ⟨u,rfl,hu⟩:=zfd hr
 cases hu
 have hlt:=(yva h).1
 have hB:=B.isLt
 have hne:B.toNat≠0:=fun e=>h (BitVec.eq_of_toNat_eq (by simpa using e))
 obtain ⟨t1,t2⟩:=tab32_at ⟨tzV B,hlt⟩
 have hlow:=congrArg BitVec.toNat (low_one h)
 rw [BitVec.toNat_shiftLeft,BitVec.toNat_and,BitVec.toNat_neg,Nat.mod_eq_of_lt (show 2 ^ 32 - B.toNat < 2 ^ 32 by omega)] at hlow
 simp only [BitVec.toNat_ofNat,Nat.shiftLeft_eq] at hlow
 have hp:2 ^ tzV B < 2 ^ 32:=Nat.pow_lt_pow_right (by omega) hlt
 rw [show (1 % 2 ^ 32) * 2 ^ tzV B=2 ^ tzV B by omega,Nat.mod_eq_of_lt hp] at hlow
 have e1:-(B.toNat:Int) % 4294967296=((-B).toNat:Int):=by
  rw [BitVec.toNat_neg];omega
 have e2:bits .and .u32 (B.toNat:Int) ((-B).toNat:Int)=((B &&& -B).toNat:Int):=by
  have h1:BitVec.ofInt IntKind.u32.bits (B.toNat:Int)=B:=ygz B
  have h2:BitVec.ofInt IntKind.u32.bits ((-B).toNat:Int)=-B:=ygz (-B)
  unfold bits
  simp only [h1,h2]
  exact yxo (B &&& -B)
 have e3:(B &&& -B).toNat=2 ^ tzV B:=by
  rw [BitVec.toNat_and,BitVec.toNat_neg,Nat.mod_eq_of_lt (show 2 ^ 32 - B.toNat < 2 ^ 32 by omega)];exact hlow
 refine (tz32_core B.toNat (tzV B) _ w (by simp;omega) ?_ t1 hlt (glob32 hG t2)).mono ?_
 ·rw [e1,e2,e3]
  generalize 2 ^ tzV B=m
  omega
 ·rintro e w' ⟨rfl,rfl⟩
  exact ⟨_,rfl,.v _,Below.refl _ _⟩
end
set_option maxHeartbeats 4000000
section
open Go.RowKit
def zql (c:Array Value) (v:Value):Array Value:=(c.toList.take 0++[v]++c.toList.drop 1).toArray
def zpr (W:World) (b:Nat) (v:Value):Prop:=∃ c e,W.heap[b]?=some (.cells c e (0,0))∧c[0]?=some v
def zdk (P:Program) (f:FuncId) (els:List (List AV)) (st:Nat→Value):Prop:=
 yjf P f∧∀ (l:Nat) (ok:Nat→Prop) (W:World) (b:Nat) (J J':Nat→World→Prop) (X:World→Prop),
  (∀ k W',J k W'→zpr W' b (st k)∧ywf W')→(∀ k W',J' k W'→zpr W' b (st k)) →
  (∀ k W1 W2,J k W1→Below W1.heap.size W1 W2→J k W2)→(∀ k W1 W2,J' k W1→Below W1.heap.size W1 W2→J' k W2)→(∀ W1 W2,X W1→Below W1.heap.size W1 W2→X W2) →
  (∀ k c e W1,J' k W1→W1.heap[b]?=some (.cells c e (0,0))→J (k+1) (W1.setRow b (zql c (st (k+1))))) →
  (∀ k el vs W1,els[k]?=some el→J k W1→ybk ok W1 (fun _=>none) el vs→YieldAt Fence.wide 0 P l vs.toArray W1 fun e W'=>(e=.returned (.bool true)∧J' k W')∨(e=.returned (.bool false)∧X W')) →
  J 0 W→CallsIn Fence.wide 0 P f (#[.func (.yield l) #[] #[]]++[Value.pointer (some ⟨b,0,none⟩)].toArray) W fun e W'=>(∃ v,e=.returned v)∧(J els.length W'∨X W')
def yli (id:Nat) (v:Value) (h:Nat→Option LObj):Nat→Option LObj:=fun i=>match Nat.beq i id with
 | true=>some (.cells [.v v])
 | false=>h i
theorem ykz {id:Nat} {v:Value} {h:Nat→Option LObj}:yli id v h id=some (.cells [.v v]):=by simp [yli]
theorem withB_upd {id:Nat} {v v':Value} {h:Nat→Option LObj}:yei (yli id v h) id (some (.cells [.v v']))=yli id v' h:=by
 funext i
 unfold yei yli
 by_cases e:i=id
 ·subst e;simp
 ·simp [e,yck e]
section
variable {P:Program} {N:Nat} {g:Operand} {ps:List Nat} {assign body:Code} {Q:Exit→SS→Prop} {s:SS} {gf:Nat} {els:List (List AV)} {st:Nat→Value}
variable {B Bx:Bse} {okx:Nat→Prop} {l:Nat} {rec:LoopState→Option Code→Loop} {t0:Nat→Option AV} {vt:Nat→Value} {o:Loop} {h:Nat→Option LObj} {W:World} {id b:Nat} {v v':Value}
theorem yhe.cellB (hK:yhe B Bx okx N l rec t0 vt o (yli id v h) W) (hl:¬ Bx.mine l) (hN:N≤id) (hp:B.pin id=some b):zpr W b v:=by
 obtain ⟨hWl,lv',i1,f1,p1⟩:=hK
 obtain ⟨n,hlv⟩:=p1 id b _ hN ykz rfl hp
 obtain ⟨b',n',g1,g2⟩:=i1.obj id _ ykz
 rw [hlv] at g1
 cases g1
 have hbl:b≠l:=yum i1 hl ⟨id,n,hlv⟩
 obtain ⟨g3,g4,c,e,q1,q2,q3,q4,q5⟩:=g2
 rw [World.putObj_heap_other hbl] at q1
 simp only [List.length_cons,List.length_nil] at q3
 obtain ⟨u,hu⟩:∃ u,c[0]?=some u:=⟨_,Array.getElem?_eq_getElem (by omega)⟩
 have:=q5 0 _ u rfl hu
 cases this
 exact ⟨c,e,q1,hu⟩
theorem yhe.glob (hK:yhe B Bx okx N l rec t0 vt o h W) (hl:GN≤l):ywf W:=by
 obtain ⟨hWl,lv',i1,_,_⟩:=hK
 have:=ywy (o:=.loop o) i1.base.glob hl
 rwa [yod,ymw hWl] at this
theorem yhe.write (hK:yhe B Bx okx N l rec t0 vt o (yli id v h) W) (hl:¬ Bx.mine l) (hpx:∀ x,Bx.pin x=none) (hN:N≤id) (hp:B.pin id=some b) {c:Array Value} {e:TypeId} (hc:W.heap[b]?=some (.cells c e (0,0))) (hv':v'.oneCell'=true):yhe B Bx okx N l rec t0 vt o (yli id v' h) (W.setRow b (zql c v')):=by
 obtain ⟨hWl,lv',i1,f1,p1⟩:=hK
 obtain ⟨n,hlv⟩:=p1 id b _ hN ykz rfl hp
 obtain ⟨b',n',g1,g2⟩:=i1.obj id _ ykz
 rw [hlv] at g1
 cases g1
 have hbl:b≠l:=yum i1 hl ⟨id,n,hlv⟩
 obtain ⟨g3,g4,c',e',q1,q2,q3,q4,q5⟩:=g2
 have q1':=q1
 rw [World.putObj_heap_other hbl,hc] at q1'
 cases q1'
 have hlt:=(Array.getElem?_eq_some_iff.1 hWl).1
 have hos:((W.setRow b (zql c v')).putObj l (.loop (rec .ready none))).os=(W.putObj l (.loop (rec .ready none))).os∧((W.setRow b (zql c v')).putObj l (.loop (rec .ready none))).tape=(W.putObj l (.loop (rec .ready none))).tape∧((W.setRow b (zql c v')).putObj l (.loop (rec .ready none))).output=(W.putObj l (.loop (rec .ready none))).output∧((W.setRow b (zql c v')).putObj l (.loop (rec .ready none))).heap.size=(W.putObj l (.loop (rec .ready none))).heap.size:=⟨rfl,rfl,rfl,by simp⟩
 have hsz:(W.setRow b (zql c v')).heap.size=W.heap.size:=by simp
 have hoth:∀ g,g≠b→((W.setRow b (zql c v')).putObj l (.loop (rec .ready none))).heap[g]?=(W.putObj l (.loop (rec .ready none))).heap[g]?:=by
  intro g hg
  by_cases hgl:g=l
  ·subst hgl
   rw [World.putObj_heap_same (by rw [hsz];exact hlt),World.putObj_heap_same hlt]
  ·rw [World.putObj_heap_other hgl,World.putObj_heap_other hgl,setRow_other W b g _ hg]
 have hwb:((W.setRow b (zql c v')).putObj l (.loop (rec .ready none))).heap[b]?=some (.cells (zql c v') e (0,0)):=by
  rw [World.putObj_heap_other hbl];exact setRow_heap W b c _ e _ hc
 generalize hw':(W.setRow b (zql c v')).putObj l (.loop (rec .ready none))=w' at hos hoth hwb
 have hsim:Sim Bx okx 0 ⟨fun _=>none,yli id v h⟩ lv' { tmps:=#[],defers:=Bx.dl } (W.putObj l (.loop (rec .ready none))):=
  ⟨i1,rfl,fun x y hx=>(by cases hx),⟨[],rfl,List.nodup_nil,fun d hd=>(by cases hd)⟩,by omega,fun id b o hN hx hc hb=>by rw [hpx] at hb;cases hb⟩
 have hw:=(hsim.write hlv hos.1 hos.2.1 hos.2.2.1 hos.2.2.2 hoth (ob:=.cells [.v v']) (fun _=>⟨_,ykz,rfl⟩) fun ok' hk=>
  zjd (w:=W.putObj l (.loop (rec .ready none))) (xs:=[.v v]) (cs:=[.v v']) (vs:=[v']) (off:=0) q1 q2 q3 q4 q5 ⟨rfl,fun j x u hx hu=>by
   cases j with
   | zero=>cases hx;cases hu;exact .v _
   | succ j=>simp at hx⟩ (fun x hx=>by cases List.mem_singleton.1 hx;exact hv') (by simp) hwb ok' hk).inv
 rw [withB_upd] at hw
 refine ⟨(setRow_other W b l _ hbl.symm).trans hWl,lv',?_,fun x y hx=>?_,fun id' b' o' hN' hx hc' hb'=>?_⟩
 ·rw [hw'];exact hw
 ·rw [hw']
  exact (f1 x y hx).keep fun g hg=>⟨⟨hg.1,by rw [hos.2.2.2];exact hg.2.1,hg.2.2⟩,hoth g fun e=>hg.2.2 id b n hlv e.symm⟩
 ·by_cases e:id'=id
  ·subst e;exact p1 id' b' _ hN' ykz rfl hb'
  ·exact p1 id' b' o' hN' (by simpa [yli,yck e] using hx) hc' hb'
def zwa (id:Nat) (Q:Exit→SS→Prop) (e:Exit) (s:SS):Prop:=∃ h',(∀ i o,h' i=some o→s.h i=some o∧i ∉ [id])∧Q e ⟨s.t,h'⟩
theorem A_rangeB (hgv:evF s.t g=some (.fn gf [.lp id 0])) (hit:zdk P gf els st) (hst:∀ k,(st k).oneCell'=true) (hN:N≤id) (hpe:∀ el∈els,el.length=ps.length∧yap.pureL el=true) (hps:∀ p∈ps,p < N) (hpn:ps.Nodup) (ht0:∀ x y,t0 x=some y→s.t x=some y∧(x < N∨1000000≤x))
  (hk:Nat→Nat→Option LObj) (hv:s.h id=some (.vec [.v (st 0)])) (h0:∀ i o,hk 0 i=some o→s.h i=some o) (round:∀ k el,els[k]?=some el→A P N assign (fun e s1=>e=.normal∧A P N body (zvf t0 (fun j=>yli id (st k) (hk j)) k (zwa id Q)) s1) ⟨yvz t0 ps el,yli id (st k) (hk k)⟩)
  (done:zwa id Q .normal ⟨t0,yli id (st els.length) (hk els.length)⟩):A P N (.rangeFunc g ps.toArray assign body) Q s:=by
 refine zlz [id] hgv hit.1 hps hpn t0 ht0 (yli id (st 0) (hk 0)) (yli id (st els.length) (hk els.length)) (fun i o ho=>?_) (fun i hi=>?_) (zwa id Q) (fun e h hq=>hq) (fun B Bx okx l rec vt lv lb W1 hL hK0=>?_) done
 ·by_cases e:i=id
  ·subst e
   rw [ykz] at ho
   cases ho
   exact .inr ⟨by simp,_,_,rfl,hv⟩
  ·exact .inl (h0 i o (by simpa [yli,yck e] using ho))
 ·cases List.mem_singleton.1 hi;exact ⟨hN,_,ykz⟩
 obtain ⟨b,n,hlv,hp⟩:=hL.pin id (List.mem_singleton_self _)
 have hlb:lb=[Value.pointer (some ⟨b,0,none⟩)]:=by
  have h1:=hL.len
  match lb,h1,hL.caps with
  | [u],_,hc=>
   have:=hc 0 _ u rfl rfl
   cases this with
   | lp _ _ h=>rw [h b n hlv]
 subst hlb
 exact hit.2 l okx W1 b (fun k W=>yhe B Bx okx N l rec t0 vt (rec .ready none) (yli id (st k) (hk k)) W) (fun k W=>yhe B Bx okx N l rec t0 vt (rec .ready none) (yli id (st k) (hk (k+1))) W)
  (fun W=>∃ (c:Code) (h:Nat→Option LObj),((c=.ret∧zwa id Q .ret ⟨t0,h⟩)∨∃ i,c=.exit i∧zwa id Q (.exit i) ⟨t0,h⟩)∧yhe B Bx okx N l rec t0 vt (rec .done (some c)) h W)
  (fun k W' hK=>⟨hK.cellB hL.mx hN hp,hK.glob hL.gl⟩) (fun k W' hK=>hK.cellB hL.mx hN hp) (fun k W2 W3 hK hb=>hK.grow hb) (fun k W2 W3 hK hb=>hK.grow hb) (fun W2 W3 ⟨c,h,hc,hK⟩ hb=>⟨c,h,hc,hK.grow hb⟩) (fun k c e W2 hK hc=>hK.write hL.mx hL.pinx hN hp hc (hst _))
  (fun k el vs W2 hel hK hvs=>hL.yield (fun j=>yli id (st k) (hk j)) k el vs W2 (hpe el (List.mem_of_getElem? hel)) (round k el hel) hK hvs) hK0
def xbe (id:Nat) (l:List (Nat × Option LObj)):Bool:=l.all fun x=>!Nat.beq x.1 id
theorem yzl {id:Nat}:∀ {l:List (Nat × Option LObj)},xbe id l=true→∀ i o,hlook l i=some o→i ∉ [id]
 | [],_,i,o,h=>by simp [hlook] at h
 | (k,x)::l,hl,i,o,h=>by
  simp only [xbe,List.all_cons,Bool.and_eq_true,Bool.not_eq_true'] at hl
  simp only [hlook] at h
  cases hb:Nat.beq i k with
  | true=>
   rw [Nat.eq_of_beq_eq_true hb]
   intro hm
   rw [List.mem_singleton.1 hm] at hl
   simp at hl
  | false=>rw [hb] at h;exact yzl (l:=l) hl.2 i o h
theorem zdi {t:List (Nat × AV)} {h:List (Nat × Option LObj)} (id:Nat) (hgv:evF (look t) g=some (.fn gf [.lp id 0])) (hit:zdk P gf els st) (hst:∀ k,(st k).oneCell'=true) (hN:Nat.ble N id=true)
  (hpe:∀ el∈els,el.length=ps.length∧yap.pureL el=true) (hps:(zht N ps && (ycq ps && zht 1000000 ps))=true) (t0:List (Nat × AV)) (ht0:ywl t t0) (hlt:zhk N t0=true) (hk:Nat→List (Nat × Option LObj)) (hv:hlook h id=some (.vec [.v (st 0)])) (h0:∀ i o,hlook (hk 0) i=some o→hlook h i=some o) (hoff:xbe id (hk els.length)=true)
  (round:∀ k el,els[k]?=some el→A P N assign (fun e s1=>e=.normal∧A P N body (zvf (look t0) (fun j=>hlook ((id,some (.cells [.v (st k)]))::hk j)) k (zwa id Q)) s1) (S (zot ps el t0) ((id,some (.cells [.v (st k)]))::hk k))) (done:Q .normal (S t0 (hk els.length))):A P N (.rangeFunc g ps.toArray assign body) Q (S t h):=by
 simp only [Bool.and_eq_true] at hps
 have hd:zwa id Q .normal ⟨look t0,yli id (st els.length) (hlook (hk els.length))⟩:=⟨hlook (hk els.length),fun i o ho=>by
  have hn:=yzl hoff i o ho
  refine ⟨?_,hn⟩
  have:i≠id:=fun e=>hn (by simp [e])
  simpa [yli,yck this] using ho,done⟩
 refine A_rangeB hgv hit hst (by simpa using hN) hpe (ypi hps.1) (yjt hps.2.1) (t0:=look t0) (fun x y hx=>⟨ybv ht0 x y hx,yqy hlt x y hx⟩) (fun k=>hlook (hk k)) hv h0 (fun k el hel=>?_) hd
 refine ynm (round k el hel) ⟨fun x y hx=>yzu hps.2.2 hx,fun id o ho=>ho⟩
theorem rndN_ret {t0' t1:List (Nat × AV)} {hk:Nat→List (Nat × Option LObj)} {h1:List (Nat × Option LObj)} {k:Nat} (hx:List (Nat × Option LObj)) (g1:ywl t1 (zar t0')) (g2:yrf h1 hx) (ho:xbe id hx=true) (hq:Q .ret (S t0' hx)):zvf (look t0') (fun k=>hlook (hk k)) k (zwa id Q) .ret (S t1 h1):=
 ⟨hlook hx,fun x y hx=>ybv g1 _ y (by rw [ylx];exact hx),yag g2,hlook hx,fun i o h=>⟨h,yzl ho i o h⟩,hq⟩
end
end
set_option maxHeartbeats 8000000
section
open Go.RowKit
section
variable {P:Program} {n:Nat} {ops:Array Oper} {Q:Exit→Act→World→Prop} {a:Act} {w:World}
theorem opI_call {i d:Nat} {rest:List Nat} {o:Oper} {f:FuncId} {args:Array Value} {R:Ending→World→Prop} (hlt:d < a.tmps.size) (ho:ops[i]?=some o) (hdst:o.dst=some d) (hg:o.guard=none) (hd:ymr o.op=false) (hr:(execOp a.eval o).run P w=.ok (.enter f args) w) (hc:Calls P f args w R)
  (k:∀ e w',R e w'→∃ u,e=.returned u∧∀ a':Act,a'.tmps.size=a.tmps.size→a'.defers=a.defers→a'.eval (.tmp d)=u→(∀ x,x≠d→a'.eval (.tmp x)=a.eval (.tmp x))→wpOpsIn Fence.wide n P ops Q rest a' w'):wpOpsIn Fence.wide n P ops Q (i::rest) a w:=by
 have hw:Region.wanted o (yielded ops a.tmps)=true:=by simp [Region.wanted,hg]
 simp only [wpOpsIn,ho,hw,if_true]
 refine ymu (rd:=none) hd ?_
 unfold Oper.wp
 rw [hr]
 refine hc.mono fun e w' hR=>?_
 obtain ⟨u,rfl,hk⟩:=k e w' hR
 show wpOpsIn _ _ _ _ _ _ (a.put o.dst u) w'
 rw [hdst]
 exact hk _ ykw ygn (ydn hlt) fun x hx=>yjx hx
theorem opI_skip {i:Nat} {rest:List Nat} {o:Oper} {w':World} (ho:ops[i]?=some o) (hdst:o.dst=none) (hg:o.guard=none) (hd:ymr o.op=false) (hr:(execOp a.eval o).run P w=.ok .skip w') (k:wpOpsIn Fence.wide n P ops Q rest a w'):wpOpsIn Fence.wide n P ops Q (i::rest) a w:=by
 have hw:Region.wanted o (yielded ops a.tmps)=true:=by simp [Region.wanted,hg]
 simp only [wpOpsIn,ho,hw,if_true]
 refine ymu (rd:=none) hd ?_
 unfold Oper.wp
 rw [hr]
 show wpOpsIn _ _ _ _ _ _ (a.put o.dst undef) w'
 rw [hdst]
 exact k
end
theorem ev_func {a:Act} {f:FuncId}:a.eval (.func f)=.func (.func f) #[] #[]:=rfl
def zfs (B:BitVec 32):Value:=.int .u32 (B.toNat:Int)
def yql (B:BitVec 32):List (List AV):=(ycg B).map fun v:Nat=>[i64 v]
def leftOf (w:World) (b:Nat):Nat:=match w.cell? ⟨b,0,none⟩ with
 | some (.int _ z)=>(ycg (BitVec.ofInt 32 z)).length
 | _=>0
theorem zpr.cell {W:World} {b:Nat} {v:Value} (h:zpr W b v):W.cell? ⟨b,0,none⟩=some v:=by
 obtain ⟨c,e,h1,h2⟩:=h
 simp [World.cell?,h1,h2]
theorem zwo {W:World} {b:Nat} {v:Value} (hv:v.oneCell'=true) (h:W.cell? ⟨b,0,none⟩=some v):(loadVar 50 ⟨b,0,none⟩).run Tryz.prog W=.ok v W:=by
 obtain ⟨u,h1,h2⟩:=ykq (P:=Tryz.prog) (ok:=fun _=>True) (w:=W) (lv:=fun _=>none) (g:=b) (o:=0) (xs:=[.v v]) (t:=50) (s:=1) (ag:=false) (r:=.v v) (tok _ _ (show TT 50=some _ from rfl)).1 (fun j x hx=>by
  match j with
  | 0=>simp only [List.getElem?_cons_zero,Option.some.injEq] at hx;subst hx;exact ⟨hv,_,h,.v _⟩
  | j+1=>simp at hx) rfl
 cases h2
 exact h1
theorem yuq (B:BitVec 32):zdk Tryz.prog 202 (yql B) (fun k=>zfs (ypm B k)):=by
 refine ⟨⟨_,Tryz.func202,rfl,rfl⟩,fun l ok W b J J' X hJ hJ' hJg hJg' hXg hput hround h0=>?_⟩
 refine callsIn_of_wp Tryz.func202 rfl trivial ?_
 rw [Tryz.ntmps202]
 rw [show (#[Value.func (.yield l) #[] #[]]++[Value.pointer (some ⟨b,0,none⟩)].toArray:Array Value)=[Value.func (.yield l) #[] #[],Value.pointer (some ⟨b,0,none⟩)].toArray by simp]
 generalize ha:({ tmps:=[Value.func (.yield l) #[] #[],Value.pointer (some ⟨b,0,none⟩)].toArray++Array.replicate (14 - [Value.func (.yield l) #[] #[],Value.pointer (some ⟨b,0,none⟩)].toArray.size) undef,defers:=[] }:Act)=a0
 have hs0:a0.tmps.size=14:=by rw [← ha];simp only [Array.size_append,Array.size_replicate,List.size_toArray,List.length_cons,List.length_nil]
 have e0:a0.eval (.tmp 0)=.func (.yield l) #[] #[]:=by rw [← ha];simp only [Act.eval];exact yeo [Value.func (.yield l) #[] #[],Value.pointer (some ⟨b,0,none⟩)] _ 0 _ rfl
 have e1:a0.eval (.tmp 1)=.pointer (some ⟨b,0,none⟩):=by rw [← ha];simp only [Act.eval];exact yeo [Value.func (.yield l) #[] #[],Value.pointer (some ⟨b,0,none⟩)] _ 1 _ rfl
 have hd0:a0.defers=[]:=by rw [← ha]
 clear ha
 have hrem:∀ k,(zfs (ypm B k)).oneCell'=true:=fun k=>rfl
 have hleft:∀ k w,zpr w b (zfs (ypm B k))→leftOf w b=(ycg B).length - k:=fun k w h=>by
  unfold leftOf
  rw [h.cell]
  show (ycg (BitVec.ofInt 32 ((ypm B k).toNat:Int))).length=_
  rw [ygz,yxg,List.length_drop]
 refine wpIn_block (wpIn_loop (fun a w=>∃ k,k≤(ycg B).length∧J k w∧a.tmps.size=14∧a.defers=[]∧a.eval (.tmp 0)=.func (.yield l) #[] #[]∧a.eval (.tmp 1)=.pointer (some ⟨b,0,none⟩)) (fun a w=>leftOf w b) ⟨0,by omega,h0,hs0,hd0,e0,e1⟩ ?_)
 clear e0 e1 hs0 hd0 h0 a0
 rintro a0 w ⟨k,hk,hj,hs0,hd0,e0,e1⟩
 obtain ⟨hc,hG⟩:=hJ k w hj
 have hl:=zwo (hrem k) hc.cell
 refine wpIn_seq (wpIn_seq (wpIn_region ?_))
 refine ykv (d:=3) (zfs (ypm B k)) (by omega) rfl rfl rfl rfl (by simp [execOp,e1,Instr.loadAt,Instr.sureAddr,hl]) fun a1 s1 d1 q1 n1=>?_
 refine ykv (d:=4) (.bool (ypm B k != 0#32)) (by omega) rfl rfl rfl rfl (by
  rw [← yex]
  simp [execOp,q1,zfs,ykm,eqGuard,binOp,Op.intCmp]) fun a2 s2 d2 q2 n2=>?_
 refine wpIn_cond_split q2 (fun hb=>?_) (fun hb=>?_)
 ·have hne:ypm B k≠0#32:=by simpa using hb
  refine wpIn_skip ?_
  refine wpIn_seq (wpIn_block (wpIn_seq (wpIn_region ?_)))
  refine ykv (d:=9) (.func (.yield l) #[] #[]) (by omega) rfl rfl rfl rfl (by simp [execOp,n2,n1,e0]) fun a3 s3 d3 q3 n3=>?_
  refine ykv (d:=10) (zfs (ypm B k)) (by omega) rfl rfl rfl rfl (by simp [execOp,n3,n2,n1,e1,Instr.loadAt,Instr.sureAddr,hl]) fun a4 s4 d4 q4 n4=>?_
  refine opI_call (d:=11) (by omega) rfl rfl rfl rfl (f:=203) (args:=#[zfs (ypm B k)]) (by simp [execOp,resolve,invoke,q4,ev_func,Deferred.ofValue,yfh (P:=Tryz.prog) ⟨_,Tryz.func203,rfl,rfl⟩]) (yvi (tz_con _ hne) (us:=[zfs (ypm B k)]) hG (ok:=fun _=>False) (fun _ h=>h.elim) (ygh (.v _) ymc)) fun e w' hR=>?_
  obtain ⟨rfl,hbel⟩:=hR
  refine ⟨_,rfl,fun a5 s5 d5 q5 n5=>?_⟩
  have hj':=hJg k w w' hj hbel
  have hkl:k < (ycg B).length:=Nat.lt_of_not_le fun h=>hne (zok.2 h)
  have hel:(yql B)[k]?=some [i64 (tzV (ypm B k):Nat)]:=by
   unfold yql;rw [List.getElem?_map,rem_at hne];rfl
  have hy:=hround k _ [.int .i64 (tzV (ypm B k):Nat)] w' hel hj' (ygh (.v _) ymc)
  refine yzm (g:=.tmp 9) (args:=#[.tmp 11]) rfl rfl rfl (by rw [n5 9 (by simp),n4 9 (by simp),q3]) (R:=fun e W'=>(e=.returned (.bool true)∧J' k W')∨(e=.returned (.bool false)∧X W')) (by simpa [q5] using hy) fun e w2 hR2=>?_
  have e0':a5.eval (.tmp 0)=.func (.yield l) #[] #[]:=by rw [n5 0 (by simp),n4 0 (by simp),n3 0 (by simp),n2 0 (by simp),n1 0 (by simp),e0]
  have e1':a5.eval (.tmp 1)=.pointer (some ⟨b,0,none⟩):=by rw [n5 1 (by simp),n4 1 (by simp),n3 1 (by simp),n2 1 (by simp),n1 1 (by simp),e1]
  have hd5:a5.defers=[]:=by rw [d5,d4,d3,d2,d1,hd0]
  have hs5:a5.tmps.size=14:=by omega
  rcases hR2 with ⟨rfl,hj1⟩|⟨rfl,hx⟩
  ·refine ⟨_,rfl,?_⟩
   show wpOpsIn _ _ _ _ _ _ (a5.put (some 12) (.bool true)) w2
   have s6:(a5.put (some 12) (.bool true)).tmps.size=14:=by rw [ykw,hs5]
   have d6:(a5.put (some 12) (.bool true)).defers=[]:=by rw [ygn,hd5]
   have q6:(a5.put (some 12) (.bool true)).eval (.tmp 12)=.bool true:=ydn (by omega)
   have n6:∀ x,x≠12→(a5.put (some 12) (.bool true)).eval (.tmp x)=a5.eval (.tmp x):=fun x hx=>yjx hx
   generalize a5.put (some 12) (.bool true)=a6 at s6 d6 q6 n6 ⊢
   refine ykv (d:=13) (.bool false) (by omega) rfl rfl rfl rfl (by simp [execOp,q6,Op.unary]) fun a7 s7 d7 q7 n7=>?_
   refine wpIn_cond_false q7 (wpIn_skip ?_)
   have hc2:=hJ' k w2 hj1
   have hl2:=zwo (hrem k) hc2.cell
   obtain ⟨c,e,hb2,hc0⟩:=hc2
   have hsz:0 < c.size:=(Array.getElem?_eq_some_iff.1 hc0).1
   have f1:a7.eval (.tmp 1)=.pointer (some ⟨b,0,none⟩):=by rw [n7 1 (by simp),n6 1 (by simp),e1']
   refine wpIn_region ?_
   refine ykv (d:=5) (zfs (ypm B k)) (by omega) rfl rfl rfl rfl (by simp [execOp,f1,Instr.loadAt,Instr.sureAddr,hl2]) fun a8 s8 d8 q8 n8=>?_
   refine ykv (d:=6) (zfs (ypm B k)) (by omega) rfl rfl rfl rfl (by simp [execOp,n8,f1,Instr.loadAt,Instr.sureAddr,hl2]) fun a9 s9 d9 q9 n9=>?_
   refine ykv (d:=7) (zfs (ypm B k - 1#32)) (by omega) rfl rfl rfl rfl (by
    have:=zfk (ypm B k) 1#32
    simp only [BitVec.toNat_ofNat,Nat.reducePow,Nat.reduceMod,Int.cast_ofNat_Int] at this
    simp [execOp,q9,zfs,ykm,eqGuard,binOp,Op.intArith,this]) fun a10 s10 d10 q10 n10=>?_
   obtain ⟨X,hX⟩:∃ X,X=ypm B k - 1#32:=⟨_,rfl⟩
   obtain ⟨Z,hZ⟩:∃ Z,Z=ypm B (k+1):=⟨_,rfl⟩
   rw [← hX] at q10
   refine ykv (d:=8) (zfs Z) (by omega) rfl rfl rfl rfl (by
    have:=zmh (ypm B k) X
    rw [show ypm B k &&& X=Z by rw [hZ,hX];rfl] at this
    simp [execOp,q10,n10,n9,q8,zfs,eqGuard,binOp,this]) fun a11 s11 d11 q11 n11=>?_
   rw [hZ] at q11
   have f2:a11.eval (.tmp 1)=.pointer (some ⟨b,0,none⟩):=by rw [n11 1 (by simp),n10 1 (by simp),n9 1 (by simp),n8 1 (by simp),f1]
   have hst:=run_storeCells_at Tryz.prog b 0 e [zfs (ypm B (k+1))] 0 c w2 hb2 (by simp;omega) (fun v hv=>by cases List.mem_singleton.1 hv;rfl)
   simp only [Nat.add_zero] at hst
   have hszr:yhf Tryz.prog 50 1 false:=(tok _ _ (show TT 50=some _ from rfl)).1
   have hcl:(zfs (ypm B (k+1))).cells=#[zfs (ypm B (k+1))]:=rfl
   refine opI_skip (w':=w2.setRow b (zql c (zfs (ypm B (k+1))))) rfl rfl rfl rfl (by
    simp [execOp,f2,q11,Instr.storeAt,Instr.sureAddr,storeVar,(hszr.run (w:=w2)).1,hcl,hst,zql]) ?_
   have hj2:=hput k c e w2 hj1 hb2
   refine ⟨⟨k+1,by omega,hj2,by omega,by rw [d11,d10,d9,d8,d7,d6],by rw [n11 0 (by simp),n10 0 (by simp),n9 0 (by simp),n8 0 (by simp),n7 0 (by simp),n6 0 (by simp),e0'],f2⟩,?_⟩
   rw [hleft _ _ (hJ _ _ hj2).1,hleft _ _ hc]
   omega
  ·refine ⟨_,rfl,?_⟩
   show wpOpsIn _ _ _ _ _ _ (a5.put (some 12) (.bool false)) w2
   have s6:(a5.put (some 12) (.bool false)).tmps.size=14:=by rw [ykw,hs5]
   have d6:(a5.put (some 12) (.bool false)).defers=[]:=by rw [ygn,hd5]
   have q6:(a5.put (some 12) (.bool false)).eval (.tmp 12)=.bool false:=ydn (by omega)
   generalize a5.put (some 12) (.bool false)=a6 at s6 d6 q6 ⊢
   refine ykv (d:=13) (.bool true) (by omega) rfl rfl rfl rfl (by simp [execOp,q6,Op.unary]) fun a7 s7 d7 q7 n7=>?_
   refine wpIn_cond_true q7 (wpIn_ret ?_)
   refine ⟨?_,.tuple #[],?_,⟨_,rfl⟩,.inr hx⟩
   ·show a7.defers=[]
    rw [d7,d6]
   ·simp [results,Tryz.results202]
 ·have h0:ypm B k=0#32:=by simpa using hb
  have hk2:=zok.1 h0
  obtain rfl:k=(ycg B).length:=by omega
  refine wpIn_exit ?_
  refine ⟨?_,.tuple #[],?_,⟨_,rfl⟩,.inl ?_⟩
  ·show a2.defers=[]
   rw [d2,d1,hd0]
  ·simp [results,Tryz.results202]
  ·rw [show (yql B).length=(ycg B).length by simp [yql]]
   exact hj
end
section
open Go.RowKit
structure Ren (n:Nat) (f i:Nat→Nat):Prop where
 lt:∀ v,v < n→f v < n
 ilt:∀ v,v < n→i v < n
 back:∀ v,v < n→i (f v)=v
 forth:∀ v,v < n→f (i v)=v
theorem Ren.inj {n:Nat} {f i:Nat→Nat} (h:Ren n f i) {u v:Nat} (hu:u < n) (hv:v < n) (e:f u=f v):u=v:=by
 rw [← h.back u hu,← h.back v hv,e]
def renL {α:Type} (i:Nat→Nat) (l:List α) (d:α):List α:=(List.range l.length).map fun u=>l.getD (i u) d
section
variable {g:GraphD} {f i:Nat→Nat}
def rootB (op:Int):Bool:=op == 10 || op == 15
end
end
section
open Go.RowKit
def xan (l:List Tm):Bool:=l.any fun t=>rootB t.1
def xao (p:ProgD):Bool:=p.rules.any fun r=>xan r.guard || r.sets.any fun x=>xan x.val
section
variable {g:GraphD} {f i:Nat→Nat}
section
variable {p:ProgD} (hp:ydu p=0) (hr:xao p=false) (hg:ycy g=true) {c:List (List Int)} (hl:c.length=g.ports.length) (R:Ren g.ports.length f i)
include hp hr hg hl R
end
def InN (n:Nat) (B:BitVec 32):Prop:=∀ u,n≤u→B.getLsbD u=false
theorem in_sub {n:Nat} {A B:BitVec 32} (h:A &&& ~~~B=0#32) (hB:InN n B):InN n A:=fun u hu=>by
 rcases Nat.lt_or_ge u 32 with h1|h1
 ·have:=congrArg (fun X=>BitVec.getLsbD X u) h
  simp only [BitVec.getLsbD_and,BitVec.getLsbD_not,BitVec.getLsbD_zero,hB u hu] at this
  simpa [h1] using this
 ·exact BitVec.getLsbD_of_ge _ _ h1
end
end
set_option maxHeartbeats 4000000
section
open Go.RowKit
variable {P:Program} {N:Nat} {Q:Exit→SS→Prop} {t:List (Nat × AV)}
theorem A_freezeRows {c:Code} {t':List (Nat × AV)} {h f f':List (Nat × Option LObj)} {M:Nat} {els:List (List (List AV))} {sz:Nat} (hh:hlook h=hlook (f++yce M sz (els.map List.flatten) [])) (ht':ywl t t') (ht:zvn t'=true) (hf:zjr f=true) (hf':yrf f f') (hl':zjr f'=true) (hM:Nat.blt M 1000000=true) (hkey:(f.all fun x=>!Nat.beq x.1 M)=true) (hkey':(f'.all fun x=>!Nat.beq x.1 M)=true) (hs:0 < sz) (hsz:∀ r∈els,∀ e∈r,e.length=sz)
  (k:A P N c Q (S t' ((M,some (.vec (els.map fun r=>.sl sz r)))::f'))):A P N c Q (S t h):=by
 have hS:S t h=S t (f++yce M sz (els.map List.flatten) []):=by unfold S;rw [hh]
 rw [hS]
 intro B ok0 lv a w hs0
 have hM':M < 1000000:=by simpa using hM
 have hfl:=ypg hf
 have hkn:=yjp hkey
 have hkn':=yjp hkey'
 let lv':Live:=fun j=>match hlook ((M,some (LObj.vec (els.map fun r=>.sl sz r)))::f') j with|some _=>lv j|none=>none
 have hlv:∀ j b n,lv' j=some (b,n)→lv j=some (b,n)∧j < 1000000:=by
  intro j b n hj
  simp only [lv'] at hj
  split at hj
  ·rename_i o ho
   refine ⟨hj,?_⟩
   by_cases hjM:j=M
   ·omega
   ·rw [yaq hjM] at ho
    exact (yjq hl' j o ho).2
  ·cases hj
 have hok:∀ g,yaw B ok0 lv w g→yaw B ok0 lv' w g:=fun g hg=>⟨hg.1,hg.2.1,fun j b m hj=>hg.2.2 j b m (hlv j _ m hj).1⟩
 have hfree:∀ i b n,lv (fam M i)=some (some b,n)→yaw B ok0 lv' w b:=fun i b n hb=>by
  obtain ⟨_,_,h1,h2,_⟩:=hs0.inv.lvat hb
  refine ⟨.inr h1,h2,fun j b' m hj e=>?_⟩
  subst e
  obtain ⟨g1,g2⟩:=hlv j _ m hj
  have:=hs0.inv.inj _ _ _ _ _ hb g1
  have:=ydw M i
  omega
 have hre:∀ (x:AV) (u:Value),Rel (yaw B ok0 lv w) w lv x u→Rel (yaw B ok0 lv' w) w lv' x u:=fun x u hr=>
  (hr.relive fun j b m hj hm=>(hlv j b m hj).1).keep fun g hg=>⟨hok g hg,rfl⟩
 refine k B ok0 lv' a w ⟨⟨hs0.inv.base,hs0.inv.ok0lt,fun j hj=>?_,fun i j b m q h1 h2=>hs0.inv.inj i j b m q (hlv i _ m h1).1 (hlv j _ q h2).1,fun j x hj=>?_⟩,hs0.size,fun x y hy=>?_,hs0.defers,hs0.big,fun j b o hN hj hc hb=>?_⟩
 ·show lv' j=none
  simp only [lv']
  have hj:hlook ((M,some (LObj.vec (els.map fun r=>.sl sz r)))::f') j=none:=hj
  rw [hj]
 ·have hj:hlook ((M,some (LObj.vec (els.map fun r=>.sl sz r)))::f') j=some x:=hj
  have e1:lv' j=lv j:=by simp only [lv',hj]
  by_cases hjM:j=M
  ·subst hjM
   rw [ybb] at hj
   cases hj
   obtain ⟨b,n,g1,g2⟩:=hs0.inv.obj j _ (ybt (sz:=sz) (rows:=els.map List.flatten) (extra:=[]) hkey)
   refine ⟨b,n,by rw [e1];exact g1,?_⟩
   rw [List.append_nil] at g2
   cases b with
   | none=>
    have:=ymv g2
    have hl:=congrArg List.length this
    rw [ydf,List.length_map] at hl
    have:els=[]:=List.eq_nil_of_length_eq_zero hl
    subst this
    exact .inl rfl
   | some b=>
    obtain ⟨q1,q2,q3⟩:=g2
    obtain ⟨c,e,g1',g2',g3,g4,g5⟩:=yja.1 q3
    refine ⟨q1,q2,⟨c,e,g1',g2',by rw [ydf] at g3;simpa using g3,fun y hy=>?_,fun k y u hy hu=>?_⟩,fun y hy=>?_⟩
    ·obtain ⟨r,_,rfl⟩:=List.mem_map.1 hy;rfl
    ·rw [List.getElem?_map] at hy
     cases hr:els[k]? with
     | none=>rw [hr] at hy;cases hy
     | some r=>
      rw [hr] at hy
      cases hy
      have hcell:(yev j sz 0 (els.map List.flatten))[k]?=some (.ls (fam j k) sz (r.flatten.length / sz)):=by
       rw [yeh,List.getElem?_map,hr];simp
      have hrel:=g5 k _ u hcell hu
      have hrow:=ylh (f:=f) (sz:=sz) (rows:=els.map List.flatten) (extra:=[]) hfl hM' (i:=k) (r:=r.flatten) (by rw [List.getElem?_map,hr];rfl)
      have hr1:∀ e∈r,e.length=sz:=hsz r (List.mem_of_getElem? hr)
      have hfl2:r.flatten.length / sz=r.length:=by
       have:∀ r:List (List AV),(∀ e∈r,e.length=sz)→r.flatten.length=r.length * sz:=by
        intro r
        induction r with
        | nil=>intro _;simp
        | cons e r ih=>
         intro he
         rw [List.flatten_cons,List.length_append,ih fun e h=>he e (by simp [h]),he e (by simp),List.length_cons,Nat.succ_mul,Nat.add_comm]
       rw [this r hr1]
       exact Nat.mul_div_cancel _ hs
      rw [hfl2] at hrel
      refine zct (yph hs0.inv hrel (by show ycl (hlook _ _)=_;rw [hrow];rfl) rfl hr1 rfl (fun x hx i=>?_) _ hok (fun b n hb=>hfree _ b n hb)) rfl
      obtain ⟨b',n',p1,p2⟩:=hs0.inv.obj _ _ hrow
      cases b' with
      | none=>
       rcases p2 with p2|⟨e,p2⟩
       ·simp only [LObj.vec.injEq] at p2
        rw [p2] at hx
        simp at hx
       ·cases p2
      | some b'=>exact yap.ment (p2.2.2.2 x hx)
    ·obtain ⟨r,_,rfl⟩:=List.mem_map.1 hy;rfl
  ·rw [yaq hjM] at hj
   have hj0:=yag hf' j x hj
   obtain ⟨b,n,g1,g2⟩:=hs0.inv.obj j x (ydy hj0)
   refine ⟨b,n,by rw [e1];exact g1,?_⟩
   cases b with
   | none=>exact g2
   | some b=>exact ⟨g2.1,g2.2.1,(g2.2.2.relive fun j' b n hb _=>(hlv j' b n hb).1).keep (fun g hg=>⟨hok g hg,rfl⟩) rfl⟩
 ·have:=ybv ht' x y hy
  exact ⟨(hs0.frame x y this).1,hre y _ (hs0.frame x y this).2⟩
 ·have hj:hlook ((M,some (LObj.vec (els.map fun r=>.sl sz r)))::f') j=some o:=hj
  have e1:lv' j=lv j:=by simp only [lv',hj]
  by_cases hjM:j=M
  ·subst hjM
   rw [ybb] at hj
   cases hj
   cases hc
  ·rw [yaq hjM] at hj
   obtain ⟨n,hn⟩:=hs0.pin j b o hN (ydy (yag hf' j o hj)) hc hb
   exact ⟨n,by rw [e1];exact hn⟩
end
set_option maxHeartbeats 8000000
section
open Go.RowKit
theorem zeb {h:Nat→Option LObj} {id n:Nat} {l:List Int} (hx:h id=some (.vec (l.map i64))) (hn:n=l.length):Frz h (.ls id 1 n) (yam l):=by
 subst hn
 exact Frz.ls (rows:=l.map fun z=>[i64 z]) (by rw [hx];rfl) (by simp) (by intro r hr;obtain ⟨z,_,rfl⟩:=List.mem_map.1 hr;rfl) (yfm l) (by intro x hx i;obtain ⟨z,_,rfl⟩:=List.mem_map.1 hx;rfl)
theorem zoz {p:ProgD} {tbl:List (List (Int × Int))} {s:Scn}:∀ (l:List SetD) (st:List Int),(l.foldl (zzh p tbl s) st).length=st.length
 | [],st=>rfl
 | x::l,st=>by rw [List.foldl_cons,zoz l];simp [zzh]
theorem zhy {p:ProgD} {g:GraphD} {c:List (List Int)} (h:CfgOk p g c) {v:Nat} (hv:v < c.length) {i:Nat} {r:RuleD} (hr:p.rules[i]?=some r):Con Tryz.prog 147 [yfp p g,ykd c,i64 v,i64 i] (yam (zyj p (yaj p g) ⟨g,c,v⟩ i)):=by
 obtain ⟨st,hst⟩:=ycd hv
 obtain ⟨b,hb,hsb⟩:=h.row hst
 have hbl:=ytn hb
 have hsl:=(yol hsb).1
 have h6:=h.vars6
 have hrs:r.sets.length≤1000:=(h.fair.light.2.2 r (List.mem_of_getElem? hr)).2.1
 have hcv:c.getD v []=st:=by rw [List.getD_eq_getElem?_getD,hst];rfl
 let row:Nat→List Int:=fun j=>(r.sets.take j).foldl (zzh p (yaj p g) ⟨g,c,v⟩) st
 have hrl:∀ j,(row j).length=p.vars.length:=fun j=>by simp only [row];rw [zoz];omega
 refine yao Tryz.func147 rfl rfl Tryz.ntmps147 Tryz.results147 rfl rfl ?_
 (repeat (first|refine zy ?_|refine L_appendNil tok rfl rfl rfl (by intro c hc;rw [yfm] at hc;obtain ⟨x,_,rfl⟩:=List.mem_map.1 hc;rfl) (by constructor <;> simp <;> omega) rfl rfl rfl rfl rfl ?_))
 refine ycn (α:=Nat) (fun j=>[(28,i64 j),(27,i64 r.sets.length),(26,.sl 2 (r.sets.map zwj)),(9,.ls 17 1 p.vars.length),(0,yfp p g),(1,ykd c),(2,i64 v)]) (fun j=>[(17,some (.vec ((row j).map i64)))]) (fun j=>r.sets.length - j) (fun j=>j≤r.sets.length) 0 (by omega) ?_ (hsE ?_) ?_
 ·refine ycr rfl (ycr rfl (ycr rfl (ycr (yzy rfl (by rw [List.length_map,hsl,hbl])) (by exact zs))))
 ·rw [yfm];rfl
 intro j hj
 (try refine zy ?_)
 refine yac rfl (fun h1=>?_) (fun h1=>?_)
 ·simp at h1
  obtain ⟨x,hx⟩:=ycd h1
  have hty:=set_ty h.prog (List.mem_of_getElem? hr) (List.mem_of_getElem? hx)
  obtain ⟨y,hy⟩:=ycd (show x.var.toNat < p.vars.length by omega)
  obtain ⟨q,hq⟩:=ycd (show x.var.toNat < b.length by omega)
  (repeat (first|refine zy ?_|refine yad rfl rfl (zpf h hv hty.2.2) rfl rfl ?_|refine yad rfl rfl (bring_con _ _ _ _) rfl rfl ?_))
  have hbr:yow p (yaj p g) v x.var.toNat ((⟨g,c,v⟩:Scn).of x.val)=ylq y.kind q.1 q.2 ((⟨g,c,v⟩:Scn).of x.val):=by
   simp only [yow,List.getD_eq_getElem?_getD,hy,hb,Option.getD_some,hq]
  have hnext:row (j+1)=(row j).set x.var.toNat (ylq y.kind q.1 q.2 ((⟨g,c,v⟩:Scn).of x.val)):=by
   simp only [row]
   rw [ybc hx,List.foldl_append,List.foldl_cons,List.foldl_nil,zzh,hbr]
  refine yas tok rfl rfl rfl rfl hty.1 (by omega) rfl rfl ?_
  refine yhu tok rfl rfl rfl rfl rfl rfl (by rw [List.length_map,hrl];omega) rfl (congrArg (fun z=>hlook ((17,some (LObj.vec z))::_)) (show _=(row (j+1)).map i64 by rw [Nat.mul_one,hnext,List.map_set])) rfl rfl ?_
  (try refine zy ?_)
  exact yir (j+1) (by omega) (by omega) (by exact zs) (yag (yab rfl yae))
 ·simp at h1
  obtain rfl:j=r.sets.length:=by omega
  (try refine zy ?_)
  refine yaf ?_;refine ⟨_,rfl,?_⟩
  have e:zyj p (yaj p g) ⟨g,c,v⟩ i=row r.sets.length:=by simp only [zyj,hr,hcv,row,List.take_length]
  rw [e]
  exact zeb rfl (hrl _).symm
end
section
open Go.RowKit
theorem zue {p:ProgD} {s:Scn} (h:0≤zud p s):∃ (i:Nat) (r:RuleD),zud p s=i∧p.rules[i]?=some r:=by
 unfold zud at *
 rcases zsp (p.rules.map fun r=>s.of r.guard) 0 with e|⟨e1,e2⟩
 ·omega
 ·obtain ⟨r,hr⟩:=ycd (show (znh (p.rules.map fun r=>s.of r.guard) 0).toNat < p.rules.length by simp at e2;omega)
  exact ⟨_,r,by omega,hr⟩
def zlo (p:ProgD) (g:GraphD) (c:List (List Int)) (set:BitVec 32) (k:Nat):List (List Int):=(zft p g c set).take k++c.drop k
theorem stpK_zero {p:ProgD} {g:GraphD} {c:List (List Int)} {set:BitVec 32}:zlo p g c set 0=c:=by simp [zlo]
theorem stpK_all {p:ProgD} {g:GraphD} {c:List (List Int)} {set:BitVec 32}:zlo p g c set c.length=zft p g c set:=by
 unfold zlo
 rw [List.take_of_length_le (by simp [yre]),List.drop_length,List.append_nil]
theorem zpb {p:ProgD} {g:GraphD} {c:List (List Int)} {set:BitVec 32} {k:Nat} (hk:k≤c.length):(zlo p g c set k).length=c.length:=by
 simp [zlo,yre];omega
theorem zje {p:ProgD} {g:GraphD} {c:List (List Int)} {set:BitVec 32} {k:Nat} {r:List Int} (hr:c[k]?=some r):zlo p g c set (k+1)=(zlo p g c set k).set k (if set.getLsbD k then zqm p g c k else r):=by
 have hk:=(List.getElem?_eq_some_iff.1 hr).1
 have hs:=zlp (p:=p) (g:=g) (set:=set) hr
 unfold zlo
 rw [ybc hs,List.set_append_right _ _ (by simp [yre];omega)]
 have e:((zft p g c set).take k).length=k:=by simp [yre];omega
 rw [e,Nat.sub_self,List.append_assoc]
 congr 1
 have hd:c.drop k=r::c.drop (k+1):=by
  rw [← (List.getElem?_eq_some_iff.1 hr).2,List.getElem_cons_drop]
 rw [hd];rfl
theorem stpK_at {p:ProgD} {g:GraphD} {c:List (List Int)} {set:BitVec 32} {k:Nat} (hk:k < c.length):(zlo p g c set k)[k]?=c[k]?:=by
 have e:((zft p g c set).take k).length=k:=by simp [yre];omega
 unfold zlo
 rw [List.getElem?_append_right (by omega),e,Nat.sub_self,List.getElem?_drop,Nat.add_zero]
theorem stpK_same {p:ProgD} {g:GraphD} {c:List (List Int)} {set:BitVec 32} {k:Nat} (hk:k < c.length) (hs:set.getLsbD k=false):zlo p g c set (k+1)=zlo p g c set k:=by
 obtain ⟨r,hr⟩:=ycd hk
 have hat:=stpK_at (p:=p) (g:=g) (set:=set) hk
 rw [zje hr,hs,if_neg (by simp)]
 apply List.ext_getElem?
 intro j
 rw [List.getElem?_set]
 split
 ·rename_i e
  subst e
  rw [if_pos (by rw [zpb (by omega)];exact hk),hat,hr]
 ·rfl
theorem A_freezeCfg {P:Program} {N:Nat} {Q:Exit→SS→Prop} {t:List (Nat × AV)} {code:Code} {t':List (Nat × AV)} {h f f':List (Nat × Option LObj)} {M:Nat} {c:List (List Int)} (hh:hlook h=hlook (f++yce M 1 (ygq c) [])) (ht':ywl t t') (ht:zvn t'=true) (hf:zjr f=true) (hf':yrf f f') (hl':zjr f'=true) (hM:Nat.blt M 1000000=true) (hkey:(f.all fun x=>!Nat.beq x.1 M)=true) (hkey':(f'.all fun x=>!Nat.beq x.1 M)=true)
  (k:A P N code Q (S t' ((M,some (.vec (c.map yam)))::f'))):A P N code Q (S t h):=by
 refine A_freezeRows (els:=c.map fun r=>r.map fun x=>[i64 x]) (sz:=1) (f:=f) (M:=M) ?_ ht' ht hf hf' hl' hM hkey hkey' (by omega) (by intro r hr e he;obtain ⟨r0,_,rfl⟩:=List.mem_map.1 hr;obtain ⟨q,_,rfl⟩:=List.mem_map.1 he;rfl) ?_
 ·have:(c.map fun r=>r.map fun x=>[i64 x]).map List.flatten=ygq c:=by
   simp only [ygq,List.map_map];congr 1;funext r;exact yfm r
  rw [hh,this]
 ·rw [List.map_map]
  exact k
theorem frz_cfgV {h:Nat→Option LObj} {id n:Nat} {c:List (List Int)} (hx:h id=some (.vec (c.map yam))) (hn:n=c.length):Frz h (.ls id 1 n) (ykd c):=by
 subst hn
 refine Frz.ls (rows:=c.map fun r=>[yam r]) (by rw [hx];rfl) (by simp) (by intro r hr;obtain ⟨z,_,rfl⟩:=List.mem_map.1 hr;rfl) ?_ (by intro x hx i;obtain ⟨z,_,rfl⟩:=List.mem_map.1 hx;rfl)
 clear hx
 induction c with
 | nil=>rfl
 | cons r c ih=>simp [ih]
theorem mstep_con {p:ProgD} {g:GraphD} {c:List (List Int)} (h:CfgOk p g c) (set:BitVec 32) (hset:∀ v:Nat,v < c.length→set.getLsbD v=true→zds p g c v=true):Con Tryz.prog 161 [yfp p g,ykd c,ybi set] (ykd (zft p g c set)):=by
 have h24:=h.n24
 have hl:=h.len
 have h6:=h.vars6
 have hrows:∀ r∈c,r.length≤1000:=fun r hr=>by have:=h.rowlen r hr;omega
 refine yao Tryz.func161 rfl rfl Tryz.ntmps161 Tryz.results161 rfl rfl ?_
 (repeat (first|refine zy ?_|refine zjw (zms c (by omega) hrows) rfl rfl rfl rfl rfl rfl rfl rfl rfl rfl rfl rfl rfl ?_))
 refine A_freezeCfg (f:=[]) (f':=[]) (M:=10) (c:=c) (t':=[(13,i64 (0:Nat)),(12,i64 c.length),(7,.ls 10 1 c.length),(0,yfp p g),(1,ykd c),(2,ybi set)]) rfl (by exact zs) rfl rfl yae rfl rfl rfl rfl ?_
 refine ycn (α:=Nat) (fun k=>[(13,i64 k),(12,i64 c.length),(7,.ls 10 1 c.length),(0,yfp p g),(1,ykd c),(2,ybi set)]) (fun k=>[(10,some (.vec ((zlo p g c set k).map yam)))]) (fun k=>c.length - k) (fun k=>k≤c.length) 0 (by omega) (by exact zs) (hsE (by rw [stpK_zero])) ?_
 intro k hk
 (try refine zy ?_)
 refine yac rfl (fun h1=>?_) (fun h1=>?_)
 ·simp at h1
  obtain ⟨st,hst⟩:=ycd h1
  have hkl:=zpb (p:=p) (g:=g) (set:=set) hk
  (repeat (first|refine yfr tok rfl (by constructor <;> omega) rfl rfl ?_|refine ycv rfl rfl (by omega) rfl rfl ?_|refine ydj rfl rfl (by omega) rfl rfl ?_|refine yfq rfl rfl rfl rfl ?_|refine ycw rfl rfl rfl rfl ?_|refine ydp rfl rfl rfl rfl ?_|refine yaz rfl rfl rfl rfl ?_|refine zI ?_|refine zL ?_|refine zC ?_|refine ycu ?_|refine yco ?_|refine zR ?_|refine zD ?_|refine zK ?_|refine zB ?_|refine zA ?_|refine zS ?_|refine zU ?_|refine zV ?_|refine zF ?_|refine zN ?_|with_reducible refine yat ?_|with_reducible refine ybg ?_|refine ybh ?_|refine ybf ?_|refine ybp ?_|refine zT ?_|refine zE ?_|refine zX ?_))
  refine yac rfl (fun h2=>?_) (fun h2=>?_)
  ·rw [zui] at h2
   have h2:set.getLsbD k=true:=by simpa using h2
   have hen:=hset k h1 h2
   obtain ⟨i,r,hi,hr⟩:=zue (p:=p) (s:=⟨g,c,k⟩) (by simpa [zds] using hen)
   (repeat (first|refine zy ?_|refine yad rfl rfl (ysv h h1) rfl rfl (yln 29 (y:=i64 i) rfl (yvo hi) ?_)|refine yad rfl rfl (zhy h h1 hr) rfl rfl ?_))
   have hrow:zyj p (yaj p g) ⟨g,c,k⟩ i=zqm p g c k:=by unfold zqm;rw [hi];rfl
   refine yas tok rfl rfl rfl rfl (by omega) (by omega) rfl rfl ?_
   refine yhu tok rfl rfl rfl rfl rfl rfl (by rw [List.length_map,hkl];omega) rfl (congrArg (fun z=>hlook ((10,some (LObj.vec z))::_)) (show _=(zlo p g c set (k+1)).map yam by rw [zje hst,h2,if_pos rfl,List.map_set,hrow];simp)) rfl rfl ?_
   (try refine zy ?_)
   exact yir (k+1) (by omega) (by omega) (by exact zs) (yag (yab rfl yae))
  ·rw [zui] at h2
   have h2:set.getLsbD k=false:=by simpa using h2
   (try refine zy ?_)
   refine yir (k+1) (by omega) (by omega) (by exact zs) (hsE (by rw [stpK_same h1 h2]))
 ·simp at h1
  obtain rfl:k=c.length:=by omega
  (try refine zy ?_)
  refine yaf ?_;refine ⟨_,rfl,?_⟩
  rw [stpK_all]
  exact frz_cfgV rfl (by rw [yre])
end
section
open Go.RowKit
theorem zdt {p:ProgD} {g:GraphD} {c:List (List Int)} (hc:c.length≤24) (v:Nat):(ykl p g c).getLsbD v=(decide (v < c.length) && zds p g c v):=by
 unfold ykl
 rcases Nat.lt_or_ge v 32 with h|h
 ·exact zfi _ _ _ h
 ·rw [BitVec.getLsbD_of_ge _ _ h,show decide (v < c.length)=false by simp;omega];rfl
theorem zuo {A B:BitVec 32} (h:A &&& ~~~B=0#32) {v:Nat} (hv:A.getLsbD v=true):B.getLsbD v=true:=by
 rcases Nat.lt_or_ge v 32 with h9|h9
 ·have:=congrArg (fun X=>BitVec.getLsbD X v) h
  simp only [BitVec.getLsbD_and,BitVec.getLsbD_not,hv,BitVec.getLsbD_zero,Bool.true_and] at this
  simpa [h9] using this
 ·rw [BitVec.getLsbD_of_ge _ _ h9] at hv;cases hv
theorem CfgOk.step {p:ProgD} {g:GraphD} {c:List (List Int)} (h:CfgOk p g c) (set:BitVec 32):CfgOk p g (zft p g c set):=⟨h.fair,stp_check h.fair h.chk set⟩
end
section
open Go.RowKit
def zlv (e w:BitVec 32):BitVec 32:=if w &&& e=0#32 then e &&& -e else w &&& e
def greedyV (g:GraphD) (w:BitVec 32):BitVec 32:=(List.range 24).foldl (fun B v=>if w.getLsbD v && ((zcl g).getD v 0#32 &&& B == 0#32) then B ||| (1#32 <<< v) else B) 0#32
def xby (g:GraphD) (kind:Int) (e w:BitVec 32):BitVec 32:=if kind=1 then zlv e w &&& -(zlv e w) else if kind=2 then greedyV g (zlv e w) else if kind=4 then e else zlv e w
theorem resolve_con (g:GraphD) (kind:Int) (hk:kind=1∨kind=3∨kind=4) (e w:BitVec 32):Con Tryz.prog 108 [yxd g,i64 kind,ybi e,ybi w] (ybi (xby g kind e w)):=by
 refine yao Tryz.func108 rfl rfl Tryz.ntmps108 Tryz.results108 rfl rfl ?_
 (repeat (first|refine ynq tok rfl rfl rfl rfl rfl ?_|refine ynp tok rfl rfl rfl rfl rfl ?_|refine yno tok rfl rfl rfl rfl ?_|refine yfr tok rfl (by constructor <;> omega) rfl rfl ?_|refine ycv rfl rfl (by omega) rfl rfl ?_|refine ydj rfl rfl (by omega) rfl rfl ?_|refine yfq rfl rfl rfl rfl ?_|refine ycw rfl rfl rfl rfl ?_|refine ydp rfl rfl rfl rfl ?_|refine yaz rfl rfl rfl rfl ?_|refine zI ?_|refine zL ?_|refine zC ?_|refine ycu ?_|refine yco ?_|refine zR ?_|refine zD ?_|refine zK ?_|refine zB ?_|refine zA ?_|refine zS ?_|refine zU ?_|refine zV ?_|refine zF ?_|refine zN ?_|with_reducible refine yat ?_|with_reducible refine ybg ?_|refine ybh ?_|refine ybf ?_|refine ybp ?_|refine zT ?_|refine zE ?_|refine zX ?_))
 refine zba [(3,ybi (zlv e w)),(2,ybi e),(1,i64 kind),(4,.lp 4 0)] [(4,some (.cells [yxd g]))] ?_ ?_
 ·refine yac rfl (fun h1=>?_) (fun h1=>?_)
  ·rw [yfo] at h1
   have h1:w &&& e=0#32:=by simpa using h1
   (repeat (first|refine ynq tok rfl rfl rfl rfl rfl ?_|refine ynp tok rfl rfl rfl rfl rfl ?_|refine yno tok rfl rfl rfl rfl ?_|refine yfr tok rfl (by constructor <;> omega) rfl rfl ?_|refine ycv rfl rfl (by omega) rfl rfl ?_|refine ydj rfl rfl (by omega) rfl rfl ?_|refine yfq rfl rfl rfl rfl ?_|refine ycw rfl rfl rfl rfl ?_|refine ydp rfl rfl rfl rfl ?_|refine yaz rfl rfl rfl rfl ?_|refine zI ?_|refine zL ?_|refine zC ?_|refine ycu ?_|refine yco ?_|refine zR ?_|refine zD ?_|refine zK ?_|refine zB ?_|refine zA ?_|refine zS ?_|refine zU ?_|refine zV ?_|refine zF ?_|refine zN ?_|with_reducible refine yat ?_|with_reducible refine ybg ?_|refine ybh ?_|refine ybf ?_|refine ybp ?_|refine zT ?_|refine zE ?_|refine zX ?_))
   refine mid (ycr (yzy rfl ?_) (by exact zs)) (by exact zh)
   rw [zlv,if_pos h1]
  ·rw [yfo] at h1
   have h1:¬ w &&& e=0#32:=by simpa using h1
   (try refine zy ?_)
   refine mid (ycr (yzy rfl ?_) (by exact zs)) (by exact zh)
   rw [zlv,if_neg h1]
 rcases hk with rfl|rfl|rfl
 ·(repeat (first|refine ynq tok rfl rfl rfl rfl rfl ?_|refine ynp tok rfl rfl rfl rfl rfl ?_|refine yno tok rfl rfl rfl rfl ?_|refine yfr tok rfl (by constructor <;> omega) rfl rfl ?_|refine ycv rfl rfl (by omega) rfl rfl ?_|refine ydj rfl rfl (by omega) rfl rfl ?_|refine yfq rfl rfl rfl rfl ?_|refine ycw rfl rfl rfl rfl ?_|refine ydp rfl rfl rfl rfl ?_|refine yaz rfl rfl rfl rfl ?_|refine zI ?_|refine zL ?_|refine zC ?_|refine ycu ?_|refine yco ?_|refine zR ?_|refine zD ?_|refine zK ?_|refine zB ?_|refine zA ?_|refine zS ?_|refine zU ?_|refine zV ?_|refine zF ?_|refine zN ?_|with_reducible refine yat ?_|with_reducible refine ybg ?_|refine ybh ?_|refine ybf ?_|refine ybp ?_|refine zT ?_|refine zE ?_|refine zX ?_))
  refine yaf ?_;refine ⟨_,rfl,?_⟩
  exact Frz.pure
 ·(try refine zy ?_)
  refine yaf ?_;refine ⟨_,rfl,?_⟩
  exact Frz.pure
 ·(try refine zy ?_)
  refine yaf ?_;refine ⟨_,rfl,?_⟩
  exact Frz.pure
def zlk (p:ProgD) (g:GraphD) (kind:Int) (see:AV):AV:=.agg [yfp p g,yxd g,i64 kind,ybi (zxx g.ports.length),see]
theorem ysy (p:ProgD) (g:GraphD) (hf:Fair p g) (h0:ygf p g=0) (kind:Int) (f:Nat):Con Tryz.prog 43 [zau p,ypu g,i64 kind,.fn f []] (zlk p g kind (.fn f [])):=by
 have hg:=(ygx.1 h0).2.1
 refine yge tok Tryz.func43 rfl rfl Tryz.ntmps43 Tryz.results43 rfl rfl ?_
 (repeat (first|refine zy ?_|refine yad rfl rfl (yvw p g hf h0) rfl rfl ?_|refine yad rfl rfl (zcm g hg) rfl rfl ?_|refine yad rfl rfl (alld_con g hg) rfl rfl ?_))
 refine yaf ?_;refine ⟨_,rfl,?_⟩
 exact Frz.pure
theorem yvy {p:ProgD} {g:GraphD} {c:List (List Int)} (h:CfgOk p g c) (kind:Int) (hk:1≤kind∧kind≤4) (n:Nat) (hn:n≤4096):Con Tryz.prog 42 [zau p,ypu g,i64 kind,ykd c,i64 n] (i64 0):=by
 have hm:=mcheck_con p g c h.fair h.cin
 rw [h.chk] at hm
 refine yao Tryz.func42 rfl rfl Tryz.ntmps42 Tryz.results42 rfl rfl ?_
 (repeat (first|refine zy ?_|refine yad rfl rfl hm rfl rfl ?_|refine yad rfl rfl (zbm kind hk) rfl rfl ?_))
 refine yac rfl (fun h1=>?_) (fun h1=>?_)
 ·simp at h1;omega
 (try refine zy ?_)
 refine yaf ?_;refine ⟨_,rfl,?_⟩
 exact Frz.pure
theorem zca (c:List (List Int)) (e:BitVec 32) (k:CntD):Con Tryz.prog 44 [ykd c,ybi e,.agg (yrw k)] (.tup []):=by
 refine yao Tryz.func44 rfl rfl Tryz.ntmps44 Tryz.results44 rfl rfl ?_
 (try refine zy ?_)
 exact ⟨_,rfl,Frz.pure⟩
structure RunD where
 c:List (List Int)
 e:BitVec 32
 k:CntD
 ch:List (BitVec 32)
 en:List (BitVec 32)
def zxb (p:ProgD) (g:GraphD) (c:List (List Int)):RunD:=⟨c,ykl p g c,ync (ykl p g c),[],[ykl p g c]⟩
def zxc (p:ProgD) (g:GraphD) (S:RunD) (set:BitVec 32):RunD:=
 ⟨zft p g S.c set,ykl p g (zft p g S.c set),zva S.k set (ykl p g (zft p g S.c set)),S.ch++[set],S.en++[ykl p g (zft p g S.c set)]⟩
def zav (p:ProgD) (g:GraphD) (kind:Int) (ch:Nat→BitVec 32→BitVec 32 × Bool):Nat→Nat→RunD→Option RunD
 | 0,i,S=>some S
 | m+1,i,S=>if (ch i S.e).2=true then (if zla g kind S.e (ch i S.e).1=true then zav p g kind ch m (i+1) (zxc p g S (ch i S.e).1) else none) else some S
def traceA (S:RunD):AV:=.agg ([yrk S.ch,yrk S.en,ykd S.c]++yrw S.k)
def zjh:Option RunD→AV
 | some S=>.tup [traceA S,i64 0]
 | none=>.tup [.agg [yrk [],yrk [],ykd [],i64 0,i64 0,i64 0,i64 0,ybi 0#32],i64 11]
end
section
open Go.RowKit
theorem frz_none {h:Nat→Option LObj}:Frz h (.tup [.agg [.v (.slice none 0 0),.v (.slice none 0 0),.v (.slice none 0 0),i64 0,i64 0,i64 0,i64 0,ybi 0#32],i64 11]) (zjh none):=by
 refine Frz.tup2 (Frz.aggL rfl rfl fun i x y hx hy=>?_) Frz.pure
 have hi:=(List.getElem?_eq_some_iff.1 hx).1
 have:i=0∨i=1∨i=2∨i=3∨i=4∨i=5∨i=6∨i=7:=by simp at hi;omega
 rcases this with rfl|rfl|rfl|rfl|rfl|rfl|rfl|rfl <;> simp only [List.getElem?_cons_zero,List.getElem?_cons_succ,Option.some.injEq] at hx hy <;> subst hx hy
 ·exact Frz.nil
 ·exact Frz.nil
 ·exact Frz.nil
 ·exact Frz.pure
 ·exact Frz.pure
 ·exact Frz.pure
 ·exact Frz.pure
 ·exact Frz.pure
theorem addV_steps {k:CntD} {a b:BitVec 32}:(zva k a b).steps=k.steps+1:=by unfold zva;split <;> rfl
theorem yrh:∀ R:Option RunD,yap (zjh R)=true
 | none=>rfl
 | some S=>rfl
def exH (S:RunD):List (Nat × Option LObj):=[(12,some (.cells (yrw S.k))),(10,some (.cells [.ls 100 1 S.ch.length,.ls 101 1 S.en.length,.v (.slice none 0 0),i64 0,i64 0,i64 0,i64 0,ybi 0#32])),(100,some (.vec (S.ch.map ybi))),(101,some (.vec (S.en.map ybi)))]
theorem exec_con {p:ProgD} {g:GraphD} {c:List (List Int)} (h:CfgOk p g c) (kind:Int) (n:Nat) (hn:n≤4096) {f:Nat} {caps:List AV} (hcaps:(∃ r,caps=[.dp r 0])∨∃ r s,caps=[.dp r 0,.dp s 0]) (ch:Nat→BitVec 32→BitVec 32 × Bool)
  (hch:∀ (i:Nat) (S:RunD),i < n→CfgOk p g S.c→S.e=ykl p g S.c→Con Tryz.prog f ([i64 i,ybi S.e]++caps) (.tup [ybi (ch i S.e).1,ybq (ch i S.e).2]))
  (hper:∀ (d:List (List Int)) (s:BitVec 32),CfgOk p g d→Con Tryz.prog 160 [yxd g,i64 kind,ybi (ykl p g d),ybi s] (ybq (zla g kind (ykl p g d) s))) :
  Con Tryz.prog 95 [zlk p g kind (.fn 44 []),ykd c,i64 n,.fn f caps] (zjh (zav p g kind ch n 0 (zxb p g c))):=by
 have h24:=h.n24
 have hlen:=h.len
 have h6:=h.vars6
 have hrows:∀ r∈c,r.length≤1000:=fun r hr=>by have:=h.rowlen r hr;omega
 have hcopy:=con_of_own (zms c (by omega) hrows) (r':=ykd c) rfl (zdz (f:=[]) (M:=8) (n:=c.length) rfl rfl rfl rfl rfl)
 have hand:∀ d,CfgOk p g d→ykl p g d &&& zxx g.ports.length=ykl p g d:=fun d hd=>by
  have hl:=hd.len
  apply BitVec.eq_of_getLsbD_eq
  intro i hi
  rw [BitVec.getLsbD_and,allV_bit _ h24 i hi,zdt (by omega),hl]
  cases decide (i < g.ports.length) <;> simp
 rcases hcaps with ⟨r0,rfl⟩|⟨r0,s0,rfl⟩
 all_goals
  refine yge tok Tryz.func95 rfl rfl Tryz.ntmps95 Tryz.results95 rfl (yrh _) ?_
  (repeat (first|with_reducible refine ybg ?_|with_reducible refine yat ?_|refine ybf ?_));refine yco ?_;refine ycs (lf:=lfT) rfl ?_
  (try refine zo ?_)
  refine zt ?_;refine ycs (lf:=lfT) rfl ?_
  (try refine zo ?_)
  refine zt ?_
  refine zly 10 0 100 1 rfl rfl rfl rfl rfl ?_
  refine zly 10 1 101 1 rfl rfl rfl rfl rfl ?_
  (repeat (first|refine ycw rfl rfl rfl rfl (yln 24 (y:=ybi (ykl p g c)) rfl (by rw [hand c h]) ?_)|refine zI ?_|refine zL ?_|refine zC ?_|refine ycu ?_|refine yco ?_|refine zR ?_|refine zD ?_|refine zK ?_|refine zB ?_|refine zA ?_|refine zS ?_|refine zU ?_|refine zV ?_|refine zF ?_|with_reducible refine yat ?_|with_reducible refine ybg ?_|refine ybh ?_|refine ybf ?_|refine ybp ?_|refine zT ?_|refine zE ?_|refine zX ?_|refine yad rfl rfl hcopy rfl rfl ?_|refine yad rfl rfl (yvt h) rfl rfl ?_|refine yad rfl rfl (begin_con _) rfl rfl ?_|refine yad rfl rfl (zca _ _ _) rfl rfl ?_|refine ykh tok rfl rfl rfl (by simp) rfl (by simp [yap]) (by simp) rfl rfl rfl rfl rfl ?_))
  refine ycn (α:=Nat × RunD) (fun a=>[(40,i64 a.1),(39,i64 n),(1,ykd a.2.c),(11,ybi a.2.e),(3,.fn f _),(4,.lp 4 0),(10,.lp 10 0),(12,.lp 12 0),(8,.lp 8 0)]) (fun a=>exH a.2++[(8,some (.cells (ygr zvv.zero))),(4,some (.cells [yfp p g,yxd g,i64 kind,ybi (zxx g.ports.length),AV.fn 44 []]))]) (fun a=>n - a.1) (fun a=>a.1≤n∧CfgOk p g a.2.c∧a.2.e=ykl p g a.2.c∧CntOk a.2.k∧a.2.k.steps=a.1∧a.2.ch.length=a.1∧a.2.en.length=a.1+1∧zav p g kind ch n 0 (zxb p g c)=zav p g kind ch (n - a.1) a.1 a.2) (0,zxb p g c) ⟨by omega,h,rfl,begin_ok,rfl,rfl,rfl,rfl⟩ (by exact zs) (yag (yab rfl (yab rfl (yab rfl (yab rfl (yab rfl (yab rfl yae))))))) ?_
  rintro ⟨i,⟨c1,e1,k1,ch1,en1⟩⟩ ⟨hi,hS,hSe,hk,hks,hc1,he1,hex⟩
  simp only at hi hS hSe hk hks hc1 he1 hex ⊢
  subst hSe
  (try refine zw ?_)
  refine yac rfl (fun h1=>?_) (fun h1=>?_)
  ·simp at h1
   have hc9:=hch i ⟨c1,ykl p g c1,k1,ch1,en1⟩ h1 hS rfl
   obtain ⟨m,hm⟩:∃ m,n - i=m+1:=⟨n - i - 1,by omega⟩
   rw [hm] at hex
   simp only [zav] at hex
   generalize hset:(ch i (ykl p g c1))=set at hc9 hex
   obtain ⟨set,goes⟩:=set
   simp only at hc9 hex
   (repeat (first|refine zw ?_|refine yad rfl rfl hc9 rfl rfl ?_))
   refine yac rfl (fun h2=>?_) (fun h2=>?_)
   ·have hfin:zav p g kind ch n 0 (zxb p g c)=some ⟨c1,ykl p g c1,k1,ch1,en1⟩:=by rw [hex,if_neg (by simpa using h2)]
    (try refine zw ?_)
    refine zba [(10,.lp 10 0),(8,.lp 8 0)] [(10,some (.cells ([.ls 100 1 ch1.length,.ls 101 1 en1.length,ykd c1]++yrw k1))),(100,some (.vec (ch1.map ybi))),(101,some (.vec (en1.map ybi))),(8,some (.cells (ygr zvv.zero)))] ?_ ?_
    ·refine ycb (lf:=lf0) ysu rfl ?_
     refine yjh [0,2] 4 (yaa rfl (yaa rfl yal)) rfl (by kernel_rfl) ?_
     (try refine zo ?_)
     refine yav [1,3] 3 rfl (by kernel_rfl) (by simp) ⟨⟨_,rfl,?_⟩,⟨_,rfl,?_⟩,trivial⟩
     ·(try refine zo ?_)
      refine yay [3,4,5] (yaa rfl (yaa rfl (yaa rfl yal))) rfl (by kernel_rfl) ?_
      (try refine zo ?_)
      refine mid (by exact zs) (by exact zh)
     ·(try refine zo ?_)
      refine yay [1,4,5] (yaa rfl (yaa rfl (yaa rfl yal))) rfl (by kernel_rfl) ?_
      (try refine zo ?_)
      refine mid (by exact zs) (by exact zh)
    refine zt ?_
    refine ygs 10 0 (ch1.map fun B=>[ybi B]) rfl rfl rfl (by simp) (fun row hr=>by obtain ⟨y,_,rfl⟩:=List.mem_map.1 hr;rfl) (yen _) rfl rfl rfl rfl ?_
    refine ygs 10 1 (en1.map fun B=>[ybi B]) rfl rfl rfl (by simp) (fun row hr=>by obtain ⟨y,_,rfl⟩:=List.mem_map.1 hr;rfl) (yen _) rfl rfl rfl rfl ?_
    (try refine zy ?_)
    refine yaf ?_;refine ⟨_,rfl,?_⟩
    rw [hfin]
    exact Frz.pure
   have h2:goes=true:=by simpa using h2
   rw [if_pos h2] at hex
   (repeat (first|refine zw ?_|refine yad rfl rfl (hper c1 set hS) rfl rfl ?_))
   refine yac rfl (fun h3=>?_) (fun h3=>?_)
   ·have hfin:zav p g kind ch n 0 (zxb p g c)=none:=by rw [hex,if_neg (by simpa using h3)]
    (try refine zy ?_)
    refine yaf ?_;refine ⟨_,rfl,?_⟩
    rw [hfin]
    exact frz_none
   have h3:zla g kind (ykl p g c1) set=true:=by simpa using h3
   rw [if_pos h3] at hex
   have hp0:set≠0#32∧set &&& ~~~(ykl p g c1)=0#32:=by
    unfold zla at h3
    simp only [Bool.and_eq_true,Bool.not_eq_true',beq_eq_false_iff_ne,beq_iff_eq] at h3
    exact h3.1
   have hcl:=hS.len
   have hst:=hS.step set
   have hcl2:=hst.len
   have hsm:=mstep_con hS set fun v hv hb=>by
    have:=zuo hp0.2 hb
    rw [zdt (by omega)] at this
    simp only [Bool.and_eq_true] at this
    exact this.2
   have hin1:InM set:=zhj fun v hv=>by
    cases hb:set.getLsbD v with
    | false=>rfl
    | true=>
     have:=zuo hp0.2 hb
     rw [zdt (by omega)] at this
     simp at this;omega
   have hin2:InM (ykl p g (zft p g c1 set)):=zhj fun v hv=>by
    rw [zdt (by omega)]
    have:decide (v < (zft p g c1 set).length)=false:=by simp;omega
    rw [this];rfl
   (repeat (first|refine ycw rfl rfl rfl rfl (yln 72 (y:=ybi (ykl p g (zft p g c1 set))) rfl (by rw [hand _ hst]) ?_)|refine zI ?_|refine zL ?_|refine zC ?_|refine ycu ?_|refine yco ?_|refine zR ?_|refine zD ?_|refine zK ?_|refine zB ?_|refine zA ?_|refine zS ?_|refine zU ?_|refine zV ?_|refine zF ?_|with_reducible refine yat ?_|with_reducible refine ybg ?_|refine ybh ?_|refine ybf ?_|refine ybp ?_|refine zT ?_|refine zE ?_|refine zX ?_|refine yad rfl rfl hsm rfl rfl ?_|refine yad rfl rfl (yvt hst) rfl rfl ?_|refine yad rfl rfl (add_con k1 hk (by omega) hp0.1 hin1 hin2) rfl rfl ?_|refine yad rfl rfl (zca _ _ _) rfl rfl ?_|refine ykh tok rfl rfl rfl (by simp) rfl (by simp [yap]) (by simp;omega) rfl rfl rfl rfl rfl ?_))
   refine yir (i+1,zxc p g ⟨c1,ykl p g c1,k1,ch1,en1⟩ set) ⟨by simp only;omega,hst,rfl,add_ok hk (by omega) hp0.1 hin1 hin2,by simp only [zxc,addV_steps,hks];omega,by simp [zxc,hc1],by simp [zxc,he1],by simp only;rw [hex,show n - (i+1)=m by omega]⟩ (by simp only;omega) (by exact zs) (yag (yab rfl (yab ?_ (yab ?_ (yab ?_ (yab rfl (yab rfl yae)))))))
   ·show some _=some _
    simp [zxc]
   ·show some _=some _
    simp [zxc,ybi]
   ·show some _=some _
    simp [zxc,ybi]
  ·simp at h1
   obtain rfl:i=n:=by omega
   have hfin:zav p g kind ch i 0 (zxb p g c)=some ⟨c1,ykl p g c1,k1,ch1,en1⟩:=by rw [hex,Nat.sub_self];rfl
   (try refine zw ?_)
   refine zba [(10,.lp 10 0),(8,.lp 8 0)] [(10,some (.cells ([.ls 100 1 ch1.length,.ls 101 1 en1.length,ykd c1]++yrw k1))),(100,some (.vec (ch1.map ybi))),(101,some (.vec (en1.map ybi))),(8,some (.cells (ygr zvv.zero)))] ?_ ?_
   ·refine ycb (lf:=lf0) ysu rfl ?_
    refine yjh [0,2] 4 (yaa rfl (yaa rfl yal)) rfl (by kernel_rfl) ?_
    (try refine zo ?_)
    refine yav [1,3] 3 rfl (by kernel_rfl) (by simp) ⟨⟨_,rfl,?_⟩,⟨_,rfl,?_⟩,trivial⟩
    ·(try refine zo ?_)
     refine yay [3,4,5] (yaa rfl (yaa rfl (yaa rfl yal))) rfl (by kernel_rfl) ?_
     (try refine zo ?_)
     refine mid (by exact zs) (by exact zh)
    ·(try refine zo ?_)
     refine yay [1,4,5] (yaa rfl (yaa rfl (yaa rfl yal))) rfl (by kernel_rfl) ?_
     (try refine zo ?_)
     refine mid (by exact zs) (by exact zh)
   refine zt ?_
   refine ygs 10 0 (ch1.map fun B=>[ybi B]) rfl rfl rfl (by simp) (fun row hr=>by obtain ⟨y,_,rfl⟩:=List.mem_map.1 hr;rfl) (yen _) rfl rfl rfl rfl ?_
   refine ygs 10 1 (en1.map fun B=>[ybi B]) rfl rfl rfl (by simp) (fun row hr=>by obtain ⟨y,_,rfl⟩:=List.mem_map.1 hr;rfl) (yen _) rfl rfl rfl rfl ?_
   (try refine zy ?_)
   refine yaf ?_;refine ⟨_,rfl,?_⟩
   rw [hfin]
   exact Frz.pure
end
section
open Go.RowKit
def ziz (p:ProgD) (g:GraphD) (kind:Int):List AV:=[yfp p g,yxd g,i64 kind,ybi (zxx g.ports.length),.fn 44 []]
def chF (g:GraphD) (kind:Int) (ws:List (BitVec 32)) (i:Nat) (e:BitVec 32):BitVec 32 × Bool:=(xby g kind e (ws.getD i 0#32),e != 0#32)
def zsk (p:ProgD) (g:GraphD) (kind:Int) (c:List (List Int)) (ws:List (BitVec 32)):Option RunD:=zav p g kind (chF g kind ws) ws.length 0 (zxb p g c)
structure DmnOk (p:ProgD) (g:GraphD) (kind:Int):Prop where
 kd:1≤kind∧kind≤4
 res:∀ (d:List (List Int)) (w:BitVec 32),CfgOk p g d→Con Tryz.prog 108 [yxd g,i64 kind,ybi (ykl p g d),ybi w] (ybi (xby g kind (ykl p g d) w))
 per:∀ (d:List (List Int)) (s:BitVec 32),CfgOk p g d→Con Tryz.prog 160 [yxd g,i64 kind,ybi (ykl p g d),ybi s] (ybq (zla g kind (ykl p g d) s))
theorem dmn_plain (p:ProgD) (g:GraphD) (kind:Int) (hk:kind=1∨kind=3∨kind=4):DmnOk p g kind:=
 ⟨by omega,fun d w _=>resolve_con g kind hk _ w,fun d s _=>yzn g kind (by omega) _ s (fun e _=>by omega)⟩
theorem follow1_con {p:ProgD} {g:GraphD} {kind:Int} (D:DmnOk p g kind) {ws:List (BitVec 32)} {i:Nat} (hi:i < ws.length) (hn:ws.length≤4096) {d:List (List Int)} (hd:CfgOk p g d):Con Tryz.prog 107 [i64 i,ybi (ykl p g d),.dp (ziz p g kind) 0,.dp [yrk ws] 0] (.tup [ybi (chF g kind ws i (ykl p g d)).1,ybq (chF g kind ws i (ykl p g d)).2]):=by
 obtain ⟨w,hw⟩:=ycd hi
 have hg:ws.getD i 0#32=w:=by rw [List.getD_eq_getElem?_getD,hw];rfl
 refine yao Tryz.func107 rfl rfl Tryz.ntmps107 Tryz.results107 rfl rfl ?_
 (repeat (first|refine zy ?_|refine yad rfl rfl (D.res d w hd) rfl rfl ?_))
 refine yaf ?_;refine ⟨_,rfl,?_⟩
 rw [yex]
 simp only [chF,hg]
 exact Frz.pure
theorem follow_con {p:ProgD} {g:GraphD} {c:List (List Int)} (h:CfgOk p g c) {kind:Int} (D:DmnOk p g kind) (ws:List (BitVec 32)) (hn:ws.length≤4096):Con Tryz.prog 58 [zlk p g kind (.fn 44 []),ykd c,yrk ws] (zjh (zsk p g kind c ws)):=by
 have he:=exec_con h kind ws.length hn (f:=107) (caps:=[.dp (ziz p g kind) 0,.dp [yrk ws] 0]) (.inr ⟨_,_,rfl⟩) (chF g kind ws) (fun i S hi hS hSe=>by rw [hSe];exact follow1_con D hi hn hS) (fun d s hd=>D.per d s hd)
 unfold zsk
 generalize zav p g kind (chF g kind ws) ws.length 0 (zxb p g c)=R at he
 refine yge tok Tryz.func58 rfl rfl Tryz.ntmps58 Tryz.results58 rfl (yrh _) ?_
 (repeat (first|with_reducible refine ybg ?_|with_reducible refine yat ?_|refine ybf ?_));refine yco ?_;refine ycs (lf:=lfT) rfl ?_
 (try refine zo ?_)
 refine zt ?_
 refine yhg 3 rfl rfl rfl rfl rfl ?_
 refine yhg 5 rfl rfl rfl rfl rfl ?_
 cases R with
 | none=>
  (repeat (first|refine zy ?_|refine yad rfl rfl he rfl rfl ?_))
  refine yaf ?_;refine ⟨_,rfl,?_⟩
  exact Frz.pure
 | some R=>
  (repeat (first|refine zy ?_|refine yad rfl rfl he rfl rfl ?_))
  refine yaf ?_;refine ⟨_,rfl,?_⟩
  exact Frz.pure
theorem rFollow_con {p:ProgD} {g:GraphD} {c:List (List Int)} (h:CfgOk p g c) {kind:Int} (D:DmnOk p g kind) (ws:List (BitVec 32)) (hn:ws.length≤4096):Con Tryz.prog 34 [zau p,ypu g,i64 kind,ykd c,yrk ws] (zjh (zsk p g kind c ws)):=by
 have he:=follow_con h D ws hn
 generalize zsk p g kind c ws=R at he
 refine yge tok Tryz.func34 rfl rfl Tryz.ntmps34 Tryz.results34 rfl (yrh _) ?_
 cases R with
 | none=>
  (repeat (first|refine zy ?_|refine yad rfl rfl (yvy h kind D.kd ws.length hn) rfl rfl ?_|refine yad rfl rfl (ysy p g h.fair h.fit kind _) rfl rfl ?_|refine yad rfl rfl he rfl rfl ?_))
  refine yaf ?_;refine ⟨_,rfl,?_⟩
  exact Frz.pure
 | some R=>
  (repeat (first|refine zy ?_|refine yad rfl rfl (yvy h kind D.kd ws.length hn) rfl rfl ?_|refine yad rfl rfl (ysy p g h.fair h.fit kind _) rfl rfl ?_|refine yad rfl rfl he rfl rfl ?_))
  refine yaf ?_;refine ⟨_,rfl,?_⟩
  exact Frz.pure
end
section
open Go.RowKit
theorem indep_iff {g:GraphD} {s:BitVec 32}:yyq g s=true↔∀ v,v < 24→s.getLsbD v=true→(zcl g).getD v 0#32 &&& s=0#32:=by
 unfold yyq
 rw [List.all_eq_true]
 constructor
 ·intro h v hv hs
  have:=h v (List.mem_range.2 hv)
  rw [hs] at this
  simpa using this
 ·intro h v hv
  have:=h v (List.mem_range.1 hv)
  cases hs:s.getLsbD v with
  | false=>rfl
  | true=>rw [this hs];rfl
section
variable {g:GraphD} {f i:Nat→Nat}
end
section
variable {p:ProgD} {g:GraphD} {f i:Nat→Nat} (hp:ydu p=0) (hr:xao p=false) (hg:ycy g=true) (R:Ren g.ports.length f i)
include hp hr hg R
end
end
section
open Go.RowKit
def xbm:List (Nat × Option LObj):=[(0,some (.vec [.lp 0 0]))]
theorem ywn {P:Program} {N:Nat} {c:Code} {Q:Exit→SS→Prop} {s:SS} (h:s.h 0=some (.vec [.lp 0 0])):A P N c Q s:=by
 intro B ok0 lv a w hs
 obtain ⟨b,n,h1,h2⟩:=hs.inv.obj 0 _ h
 cases b with
 | none=>simp [yfb] at h2
 | some b=>exact absurd (h2.2.2.2 (.lp 0 0) (by simp)) (by simp [yap])
theorem yzh (B:BitVec 32):ypt Tryz.prog 149 [ybi B] (hlook []) (.fn 202 [.lp 1 0]) (hlook [(1,some (.vec [ybi B]))]):=by
 refine yud tok Tryz.func149 rfl rfl Tryz.ntmps149 Tryz.results149 rfl (fun id o h h2=>?_) ?_
 ·simp only [hlook] at h
  split at h
  ·cases h;cases h2
  ·cases h
 (repeat (first|with_reducible refine ybg ?_|with_reducible refine yat ?_|refine ybf ?_));refine yco ?_;refine ycs (lf:=lfT) rfl ?_
 (try refine zo ?_)
 refine zt ?_
 refine zjt 1 [ybi B] rfl rfl (by intro y hy;cases List.mem_singleton.1 hy;rfl) ?_
 (try refine zy ?_)
 refine yaf ⟨_,rfl,yfu _,?_⟩
 exact yag (yab rfl yae)
theorem yzg (B:BitVec 32) (p:Nat):∀ el∈yql B,el.length=[p].length∧yap.pureL el=true:=by
 intro el h
 obtain ⟨v,_,rfl⟩:=List.mem_map.1 h
 exact ⟨rfl,rfl⟩
theorem yuo {B:BitVec 32} {k:Nat} {el:List AV} (h:(yql B)[k]?=some el):∃ v:Nat,(ycg B)[k]?=some v∧el=[i64 v]:=by
 unfold yql at h
 rw [List.getElem?_map] at h
 cases hv:(ycg B)[k]? with
 | none=>rw [hv] at h;cases h
 | some v=>rw [hv] at h;cases h;exact ⟨v,rfl,rfl⟩
theorem yup (B:BitVec 32):(yql B).length=(ycg B).length:=by simp [yql]
def zvk (g:GraphD) (s:BitVec 32) (k:Nat):Bool:=((ycg s).take k).all fun v=>(zcl g).getD v 0#32 &&& s == 0#32
theorem indK_all {g:GraphD} {s:BitVec 32} (h24:g.ports.length≤24) (hs:InN g.ports.length s):zvk g s (ycg s).length=yyq g s:=by
 unfold zvk
 rw [List.take_length,Bool.eq_iff_iff,indep_iff,List.all_eq_true]
 constructor
 ·intro h v hv hb
  simpa using h v (ymb.2 ⟨by omega,hb⟩)
 ·intro h v hv
  obtain ⟨h1,h2⟩:=ymb.1 hv
  have:v < g.ports.length:=Nat.lt_of_not_le fun hge=>by rw [hs v hge] at h2;cases h2
  simpa using h v (by omega) h2
theorem indK_next {g:GraphD} {s:BitVec 32} {k v:Nat} (h:(ycg s)[k]?=some v):zvk g s (k+1)=(zvk g s k && ((zcl g).getD v 0#32 &&& s == 0#32)):=by
 unfold zvk;rw [ybc h,List.all_append];simp
theorem indep_con (g:GraphD) (h24:g.ports.length≤24) (s:BitVec 32) (hs:InN g.ports.length s):Con Tryz.prog 212 [yxd g,ybi s] (ybq (yyq g s)):=by
 rw [← indK_all h24 hs]
 refine yge tok Tryz.func212 rfl rfl Tryz.ntmps212 Tryz.results212 rfl rfl ?_
 (repeat (first|refine zy ?_|refine yxp [(1,901)] (yzh s) rfl rfl rfl rfl rfl rfl rfl yae rfl rfl rfl rfl rfl rfl ?_))
 refine zdi 901 rfl (yuq s) (fun _=>rfl) rfl (yzg s 8) rfl [(2,.lp 2 0),(3,.lp 3 0),(4,.lp 4 0)] (by exact zs) rfl (fun k=>if zvk g s k then [(2,some (.cells [yxd g])),(3,some (.cells [ybi s])),(4,some (.cells [ybq false]))] else xbm) rfl ?_ ?_ ?_ ?_
 ·rw [if_pos (by rfl)];exact yag (by exact zh)
 ·split <;> rfl
 ·intro k el hel
  obtain ⟨v,hv,rfl⟩:=yuo hel
  have hin:=ymb.1 (List.mem_of_getElem? hv)
  have hvn:v < g.ports.length:=Nat.lt_of_not_le fun hge=>by rw [hs v hge] at hin;cases hin.2
  obtain ⟨B,hB⟩:=ycd (show v < (zcl g).length by rw [zeu];exact hvn)
  have hnx:=indK_next (g:=g) hv
  rw [show (zcl g).getD v 0#32=B by simp [List.getD_eq_getElem?_getD,hB]] at hnx
  cases hi:zvk g s k with
  | false=>exact ywn rfl
  | true=>
   simp only [if_true]
   (try refine zy ?_)
   refine ⟨rfl,?_⟩
   (repeat (first|refine yfr tok rfl (by constructor <;> omega) rfl rfl ?_|refine ycv rfl rfl (by omega) rfl rfl ?_|refine ydj rfl rfl (by omega) rfl rfl ?_|refine yfq rfl rfl rfl rfl ?_|refine ycw rfl rfl rfl rfl ?_|refine ydp rfl rfl rfl rfl ?_|refine yaz rfl rfl rfl rfl ?_|refine zI ?_|refine zL ?_|refine zC ?_|refine ycu ?_|refine yco ?_|refine zR ?_|refine zD ?_|refine zK ?_|refine zB ?_|refine zA ?_|refine zS ?_|refine zU ?_|refine zV ?_|refine zF ?_|refine zN ?_|with_reducible refine yat ?_|with_reducible refine ybg ?_|refine ybh ?_|refine ybf ?_|refine ybp ?_|refine zT ?_|refine zE ?_|refine zX ?_))
   refine yac rfl (fun h1=>?_) (fun h1=>?_)
   ·(try refine zy ?_)
    refine yaf ?_
    rw [yex] at h1
    refine rndN_ret (hk:=fun _=>[]) (k:=0) [(4,some (.cells [ybq false]))] (by exact zs) (by exact zh) rfl ⟨_,rfl,?_⟩
    refine yan ?_
    have h2:(B &&& s == 0#32)=false:=by simpa [bne] using h1
    rw [h2,Bool.and_false] at hnx
    cases hq:zvk g s (ycg s).length with
    | false=>rfl
    | true=>
     have hk:(ycg s)[k]?=some v:=hv
     have:=List.all_eq_true.1 hq v (by rw [List.take_length];exact List.mem_of_getElem? hv)
     rw [show (zcl g).getD v 0#32=B by simp [List.getD_eq_getElem?_getD,hB],h2] at this
     exact this
   ·(try refine zy ?_)
    rw [yex] at h1
    have h2:(B &&& s == 0#32)=true:=by simpa [bne] using h1
    refine zzg (by exact zs) ?_
    rw [hnx,h2,hi,if_pos (by rfl)]
    exact yag (by exact zh)
 ·rw [yup]
  cases hi:zvk g s (ycg s).length with
  | false=>exact ywn rfl
  | true=>
   simp only [if_true]
   (try refine zy ?_)
   refine yaf ?_;refine ⟨_,rfl,?_⟩
   exact yan rfl
end
end Go.Proofs.YtfhejdcijbgikaaGreatDoor
