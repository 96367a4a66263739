/- Part 13 of the texts under TopRenumberingCommutes: joined, with what it needs alone. -/
import Derived.Test.YtgpbgfpjlhoicaaGreatDoorRN7
import Derived.Test.YtgpbgfpjlhoicaaGreatDoorRN8
import Derived.Test.YtgpbgfpjlhoicaaGreatDoorRN9
import Derived.Test.YtgpbgfpjlhoicaaGreatDoorRN10
import Derived.Test.YtgpbgfpjlhoicaaGreatDoorRN11
import Derived.Test.YtgpbgfpjlhoicaaGreatDoorRN12
set_option linter.unusedVariables false
set_option maxRecDepth 100000
set_option maxHeartbeats 8000000
namespace Go.Proofs.YtgpbgfpjlhoicaaGreatDoor
section
open Go.RowKit
def zqd (ls:List Lk):BitVec 32:=ls.foldl (fun B l=>B ||| (1#32 <<< l.1.toNat)) 0#32
def yle (g:GraphD):List (BitVec 32):=g.ports.map zqd
def zke (g:GraphD):AV:=ytp (yle g)
def zpm (g:GraphD) (k:Nat) (B:BitVec 32):List (BitVec 32):=(yle g).take k++B::List.replicate (g.ports.length - k - 1) 0#32
def zum (g:GraphD) (k:Nat):List (BitVec 32):=(yle g).take k++List.replicate (g.ports.length - k) 0#32
theorem yww {g:GraphD}:(yle g).length=g.ports.length:=by simp [yle]
theorem netK_zero {g:GraphD} {k:Nat} (h:k < g.ports.length):zum g k=zpm g k 0#32:=by
 unfold zum zpm
 rw [show g.ports.length - k=(g.ports.length - k - 1)+1 by omega,List.replicate_succ]
 simp
theorem ysv {g:GraphD} {k:Nat} (h:k < g.ports.length):((yle g).take k).length=k:=by simp [yle];omega
theorem netK_at {g:GraphD} {k:Nat} {B:BitVec 32} (h:k < g.ports.length):(zpm g k B)[k]?=some B:=by
 unfold zpm
 rw [List.getElem?_append_right (by rw [ysv h];omega),ysv h,Nat.sub_self];rfl
theorem netK_len {g:GraphD} {k:Nat} {B:BitVec 32} (h:k < g.ports.length):(zpm g k B).length=g.ports.length:=by
 unfold zpm
 rw [List.length_append,ysv h,List.length_cons,List.length_replicate];omega
theorem netK_set {g:GraphD} {k:Nat} {B C:BitVec 32} (h:k < g.ports.length):(zpm g k B).set k C=zpm g k C:=by
 unfold zpm
 rw [List.set_append_right _ _ (by rw [ysv h];omega),ysv h,Nat.sub_self,List.set_cons_zero]
theorem netK_end {g:GraphD} {k:Nat} {ls:List Lk} (hls:g.ports[k]?=some ls):zpm g k (zqd ls)=zum g (k+1):=by
 unfold zpm zum
 have e:(yle g)[k]?=some (zqd ls):=by simp [yle,hls]
 rw [ybj e]
 simp [Nat.sub_sub]
theorem netV_snoc {ls:List Lk} {j:Nat} {l:Lk} (h:ls[j]?=some l):zqd (ls.take (j+1))=zqd (ls.take j) ||| (1#32 <<< l.1.toNat):=by
 unfold zqd;rw [ybj h,List.foldl_append];rfl
theorem newnet_con (g:GraphD) (hg:ybs g=true):Con Tryz.prog 105 [ynl g] (zke g):=by
 have hv:=yal hg
 refine yao Tryz.func105 rfl rfl Tryz.ntmps105 Tryz.results105 rfl rfl ?_
 (repeat (first|refine zy ?_|refine zbm tok rfl rfl rfl rfl (by constructor <;> omega) rfl rfl rfl rfl rfl ?_))
 refine ygb (α:=Nat) (fun k=>[(15,i64 k),(14,i64 g.ports.length),(13,yau g.ports),(3,.ls 11 1 g.ports.length)]) (fun k=>[(11,some (.vec ((zum g k).map ycb)))]) (fun k=>g.ports.length - k) (fun k=>k≤g.ports.length) 0 (by omega) (by exact zs) ?_ ?_
 ·refine yaq (yad ?_ yak)
  show some _=some _
  congr 2
  rw [show ykq [Value.int .u32 0]=[ycb 0#32] from rfl,zvu]
  simp [zum]
 intro k hk
 (try refine zy ?_)
 refine yac rfl (fun h1=>?_) (fun h1=>?_)
 ·simp at h1
  obtain ⟨ls,hls⟩:=ycg h1
  have hlb:=hv.2.2.2.2.2.1 k ls hls
  have hll:=ydp h1 hlb
  (try refine zy ?_)
  refine ygb (α:=Nat) (fun j=>[(22,i64 j),(21,i64 ls.length),(20,ygx ls),(4,i64 k),(15,i64 k),(14,i64 g.ports.length),(13,yau g.ports),(3,.ls 11 1 g.ports.length)]) (fun j=>[(11,some (.vec ((zpm g k (zqd (ls.take j))).map ycb)))]) (fun j=>ls.length - j) (fun j=>j≤ls.length) 0 (by omega) (by exact zs) (hsE (by rw [netK_zero h1];rfl)) ?_
  intro j hj
  (try refine zy ?_)
  refine yac rfl (fun h2=>?_) (fun h2=>?_)
  ·simp at h2
   obtain ⟨l,hl⟩:=ycg h2
   have hl1:=(ybk _ _ _).1 (((ych _ _ _).1 hlb).1 l (List.mem_of_getElem? hl))
   have hat:=netK_at (B:=zqd (ls.take j)) h1
   (try refine zy ?_)
   refine ybv tok rfl rfl rfl rfl (by omega) (by omega) rfl rfl ?_
   refine yqy (r:=ycb (zqd (ls.take j))) tok rfl rfl rfl rfl (by rw [List.getElem?_map,show ((k:Int).toNat * 1)=k by simp,hat];rfl) rfl rfl ?_
   (repeat (first|refine ymi tok rfl (by constructor <;> omega) rfl rfl ?_|refine ygr rfl rfl (by omega) rfl rfl ?_|refine ygs rfl rfl (by omega) rfl rfl ?_|refine ymg rfl rfl rfl rfl ?_|refine yfg rfl rfl rfl rfl ?_|refine yhh rfl rfl rfl rfl ?_|refine ybu rfl rfl rfl rfl ?_|refine zI ?_|refine zL ?_|refine zC ?_|refine yes ?_|refine ydt ?_|refine zR ?_|refine zD ?_|refine zK ?_|refine zB ?_|refine zA ?_|refine zS ?_|refine zU ?_|refine zV ?_|refine zF ?_|refine zN ?_|with_reducible refine ybh ?_|with_reducible refine ybw ?_|refine yby ?_|refine ybt ?_|refine yde ?_|refine zT ?_|refine zE ?_|refine zX ?_|refine ybv tok rfl rfl rfl rfl (by omega) (by omega) rfl rfl ?_))
   refine ymh tok rfl rfl rfl rfl rfl rfl (by rw [List.length_map,netK_len h1];omega) rfl (congrArg (fun z=>hlook ((11,some (LObj.vec z))::_)) (show _=(zpm g k (zqd (ls.take (j+1)))).map ycb by rw [netV_snoc hl,← List.map_set,show ((k:Int).toNat * 1)=k by simp,netK_set h1])) rfl rfl ?_
   (try refine zy ?_)
   exact zae (j+1) (by omega) (by omega) (by exact zs) (yaq (yad rfl yak))
  ·simp at h2
   obtain rfl:j=ls.length:=by omega
   (try refine zy ?_)
   exact zae (k+1) (by omega) (by omega) (by exact zs) (hsE (by rw [List.take_length,netK_end hls]))
 ·simp at h1
  obtain rfl:k=g.ports.length:=by omega
  (try refine zy ?_)
  refine yae ?_;refine ⟨_,rfl,?_⟩
  have e:zum g g.ports.length=yle g:=by unfold zum;rw [Nat.sub_self,List.take_of_length_le (by rw [yww];omega)];simp
  refine Frz.ls (rows:=(yle g).map fun B=>[ycb B]) (xs:=(yle g).map ycb) ?_ (by rw [List.length_map,yww]) (by intro r hr;obtain ⟨z,_,rfl⟩:=List.mem_map.1 hr;rfl) (yjq _) (by intro x hx i;obtain ⟨z,_,rfl⟩:=List.mem_map.1 hx;rfl)
  show some ((zum g g.ports.length).map ycb)=_
  rw [e]
theorem alld_con (g:GraphD) (hg:ybs g=true):Con Tryz.prog 106 [ynl g] (ycb (zwn g.ports.length)):=by
 have hv:=yal hg
 refine yao Tryz.func106 rfl rfl Tryz.ntmps106 Tryz.results106 rfl rfl ?_
 (repeat (first|refine yxq tok rfl rfl rfl rfl rfl ?_|refine yxp tok rfl rfl rfl rfl rfl ?_|refine yxo tok rfl rfl rfl rfl ?_|refine ymi tok rfl (by constructor <;> omega) rfl rfl ?_|refine ygr rfl rfl (by omega) rfl rfl ?_|refine ygs rfl rfl (by omega) rfl rfl ?_|refine ymg rfl rfl rfl rfl ?_|refine yfg rfl rfl rfl rfl ?_|refine yhh rfl rfl rfl rfl ?_|refine ybu rfl rfl rfl rfl ?_|refine zI ?_|refine zL ?_|refine zC ?_|refine yes ?_|refine ydt ?_|refine zR ?_|refine zD ?_|refine zK ?_|refine zB ?_|refine zA ?_|refine zS ?_|refine zU ?_|refine zV ?_|refine zF ?_|refine zN ?_|with_reducible refine ybh ?_|with_reducible refine ybw ?_|refine yby ?_|refine ybt ?_|refine yde ?_|refine zT ?_|refine zE ?_|refine zX ?_))
 refine yae ?_;refine ⟨_,rfl,?_⟩
 rw [show zwn g.ports.length=(1#32 <<< ((g.ids.length:Int)).toNat) - 1#32 by rw [hv.2.2.1,Int.toNat_natCast];rfl]
 exact Frz.pure
theorem dvalid_con (kind:Int) (hk:1≤kind∧kind≤4):Con Tryz.prog 103 [i64 kind] (ybq true):=by
 refine yao Tryz.func103 rfl rfl Tryz.ntmps103 Tryz.results103 rfl rfl ?_
 (try refine zy ?_)
 refine yay 5 rfl (fun h1=>?_) (fun h1=>?_)
 ·(try refine zy ?_)
  refine yae ?_;refine ⟨_,rfl,?_⟩
  exact yag (by simp;omega)
 ·simp at h1;omega
def yqo (g:GraphD) (s:BitVec 32):Bool:=(List.range 24).all fun v=>!(s.getLsbD v) || (yle g).getD v 0#32 &&& s == 0#32
def zdc (g:GraphD) (kind:Int) (e s:BitVec 32):Bool:=!(s == 0#32) && (s &&& ~~~e == 0#32) && (if kind=1 then s &&& (s - 1#32) == 0#32 else if kind=2 then yqo g s else if kind=4 then s == e else true)
theorem yzp (g:GraphD) (kind:Int) (hk:1≤kind∧kind≤4) (e s:BitVec 32) (hi:kind=2→s &&& ~~~e=0#32→Con Tryz.prog 222 [zke g,ycb s] (ybq (yqo g s))):Con Tryz.prog 170 [zke g,i64 kind,ycb e,ycb s] (ybq (zdc g kind e s)):=by
 refine yao Tryz.func170 rfl rfl Tryz.ntmps170 Tryz.results170 rfl rfl ?_
 (try refine zy ?_)
 refine yay 11 rfl (fun h1=>?_) (fun h1=>?_)
 ·rw [yfw] at h1
  (try refine zy ?_)
  refine yae ?_;refine ⟨_,rfl,?_⟩
  exact yag (by simp only [zdc,h1];rfl)
 rw [yfw] at h1
 (repeat (first|refine ymi tok rfl (by constructor <;> omega) rfl rfl ?_|refine ygr rfl rfl (by omega) rfl rfl ?_|refine ygs rfl rfl (by omega) rfl rfl ?_|refine ymg rfl rfl rfl rfl ?_|refine yfg rfl rfl rfl rfl ?_|refine yhh rfl rfl rfl rfl ?_|refine ybu rfl rfl rfl rfl ?_|refine zI ?_|refine zL ?_|refine zC ?_|refine yes ?_|refine ydt ?_|refine zR ?_|refine zD ?_|refine zK ?_|refine zB ?_|refine zA ?_|refine zS ?_|refine zU ?_|refine zV ?_|refine zF ?_|refine zN ?_|with_reducible refine ybh ?_|with_reducible refine ybw ?_|refine yby ?_|refine ybt ?_|refine yde ?_|refine zT ?_|refine zE ?_|refine zX ?_))
 refine yac rfl (fun h2=>?_) (fun h2=>?_)
 ·rw [ynd] at h2
  (try refine zy ?_)
  refine yae ?_;refine ⟨_,rfl,?_⟩
  exact yag (by unfold zdc;rw [show (s &&& ~~~e == 0#32)=false by simpa [bne] using h2];simp)
 rw [ynd] at h2
 have h2:(s &&& ~~~e == 0#32)=true:=by simpa [bne] using h2
 have hbase:zdc g kind e s=(if kind=1 then s &&& (s - 1#32) == 0#32 else if kind=2 then yqo g s else if kind=4 then s == e else true):=by
  unfold zdc;rw [h1,h2];simp
 rw [hbase]
 have:kind=1∨kind=2∨kind=3∨kind=4:=by omega
 rcases this with rfl|rfl|rfl|rfl
 ·(repeat (first|refine yxq tok rfl rfl rfl rfl rfl ?_|refine yxp tok rfl rfl rfl rfl rfl ?_|refine yxo tok rfl rfl rfl rfl ?_|refine ymi tok rfl (by constructor <;> omega) rfl rfl ?_|refine ygr rfl rfl (by omega) rfl rfl ?_|refine ygs rfl rfl (by omega) rfl rfl ?_|refine ymg rfl rfl rfl rfl ?_|refine yfg rfl rfl rfl rfl ?_|refine yhh rfl rfl rfl rfl ?_|refine ybu rfl rfl rfl rfl ?_|refine zI ?_|refine zL ?_|refine zC ?_|refine yes ?_|refine ydt ?_|refine zR ?_|refine zD ?_|refine zK ?_|refine zB ?_|refine zA ?_|refine zS ?_|refine zU ?_|refine zV ?_|refine zF ?_|refine zN ?_|with_reducible refine ybh ?_|with_reducible refine ybw ?_|refine yby ?_|refine ybt ?_|refine yde ?_|refine zT ?_|refine zE ?_|refine zX ?_))
  refine yae ?_;refine ⟨_,rfl,?_⟩
  rw [yfw]
  exact yag rfl
 ·(repeat (first|refine zy ?_|refine yaf rfl rfl (hi rfl (by simpa using h2)) rfl rfl ?_))
  refine yae ?_;refine ⟨_,rfl,?_⟩
  exact yag rfl
 ·(try refine zy ?_)
  refine yae ?_;refine ⟨_,rfl,?_⟩
  exact yag rfl
 ·(try refine zy ?_)
  refine yae ?_;refine ⟨_,rfl,?_⟩
  rw [zgg]
  exact yag rfl
end
section
open Go.RowKit
def yiy (e w:BitVec 32):BitVec 32:=if w &&& e=0#32 then e &&& -e else w &&& e
def yyq (g:GraphD) (w:BitVec 32):BitVec 32:=(List.range 24).foldl (fun B v=>if w.getLsbD v && ((yle g).getD v 0#32 &&& B == 0#32) then B ||| (1#32 <<< v) else B) 0#32
def zoi (g:GraphD) (kind:Int) (e w:BitVec 32):BitVec 32:=if kind=1 then yiy e w &&& -(yiy e w) else if kind=2 then yyq g (yiy e w) else if kind=4 then e else yiy e w
theorem resolve_con (g:GraphD) (kind:Int) (hk:kind=1∨kind=3∨kind=4) (e w:BitVec 32):Con Tryz.prog 109 [zke g,i64 kind,ycb e,ycb w] (ycb (zoi g kind e w)):=by
 refine yao Tryz.func109 rfl rfl Tryz.ntmps109 Tryz.results109 rfl rfl ?_
 (repeat (first|refine yxq tok rfl rfl rfl rfl rfl ?_|refine yxp tok rfl rfl rfl rfl rfl ?_|refine yxo tok rfl rfl rfl rfl ?_|refine ymi tok rfl (by constructor <;> omega) rfl rfl ?_|refine ygr rfl rfl (by omega) rfl rfl ?_|refine ygs rfl rfl (by omega) rfl rfl ?_|refine ymg rfl rfl rfl rfl ?_|refine yfg rfl rfl rfl rfl ?_|refine yhh rfl rfl rfl rfl ?_|refine ybu rfl rfl rfl rfl ?_|refine zI ?_|refine zL ?_|refine zC ?_|refine yes ?_|refine ydt ?_|refine zR ?_|refine zD ?_|refine zK ?_|refine zB ?_|refine zA ?_|refine zS ?_|refine zU ?_|refine zV ?_|refine zF ?_|refine zN ?_|with_reducible refine ybh ?_|with_reducible refine ybw ?_|refine yby ?_|refine ybt ?_|refine yde ?_|refine zT ?_|refine zE ?_|refine zX ?_))
 refine zbk [(3,ycb (yiy e w)),(2,ycb e),(1,i64 kind),(4,.lp 4 0)] [(4,some (.cells [zke g]))] ?_ ?_
 ·refine yac rfl (fun h1=>?_) (fun h1=>?_)
  ·rw [yfw] at h1
   have h1:w &&& e=0#32:=by simpa using h1
   (repeat (first|refine yxq tok rfl rfl rfl rfl rfl ?_|refine yxp tok rfl rfl rfl rfl rfl ?_|refine yxo tok rfl rfl rfl rfl ?_|refine ymi tok rfl (by constructor <;> omega) rfl rfl ?_|refine ygr rfl rfl (by omega) rfl rfl ?_|refine ygs rfl rfl (by omega) rfl rfl ?_|refine ymg rfl rfl rfl rfl ?_|refine yfg rfl rfl rfl rfl ?_|refine yhh rfl rfl rfl rfl ?_|refine ybu rfl rfl rfl rfl ?_|refine zI ?_|refine zL ?_|refine zC ?_|refine yes ?_|refine ydt ?_|refine zR ?_|refine zD ?_|refine zK ?_|refine zB ?_|refine zA ?_|refine zS ?_|refine zU ?_|refine zV ?_|refine zF ?_|refine zN ?_|with_reducible refine ybh ?_|with_reducible refine ybw ?_|refine yby ?_|refine ybt ?_|refine yde ?_|refine zT ?_|refine zE ?_|refine zX ?_))
   refine mid (yas (yhe rfl ?_) (by exact zs)) (by exact zh)
   rw [yiy,if_pos h1]
  ·rw [yfw] at h1
   have h1:¬ w &&& e=0#32:=by simpa using h1
   (try refine zy ?_)
   refine mid (yas (yhe rfl ?_) (by exact zs)) (by exact zh)
   rw [yiy,if_neg h1]
 rcases hk with rfl|rfl|rfl
 ·(repeat (first|refine yxq tok rfl rfl rfl rfl rfl ?_|refine yxp tok rfl rfl rfl rfl rfl ?_|refine yxo tok rfl rfl rfl rfl ?_|refine ymi tok rfl (by constructor <;> omega) rfl rfl ?_|refine ygr rfl rfl (by omega) rfl rfl ?_|refine ygs rfl rfl (by omega) rfl rfl ?_|refine ymg rfl rfl rfl rfl ?_|refine yfg rfl rfl rfl rfl ?_|refine yhh rfl rfl rfl rfl ?_|refine ybu rfl rfl rfl rfl ?_|refine zI ?_|refine zL ?_|refine zC ?_|refine yes ?_|refine ydt ?_|refine zR ?_|refine zD ?_|refine zK ?_|refine zB ?_|refine zA ?_|refine zS ?_|refine zU ?_|refine zV ?_|refine zF ?_|refine zN ?_|with_reducible refine ybh ?_|with_reducible refine ybw ?_|refine yby ?_|refine ybt ?_|refine yde ?_|refine zT ?_|refine zE ?_|refine zX ?_))
  refine yae ?_;refine ⟨_,rfl,?_⟩
  exact Frz.pure
 ·(try refine zy ?_)
  refine yae ?_;refine ⟨_,rfl,?_⟩
  exact Frz.pure
 ·(try refine zy ?_)
  refine yae ?_;refine ⟨_,rfl,?_⟩
  exact Frz.pure
def zfw (p:ProgD) (g:GraphD) (kind:Int) (see:AV):AV:=.agg [ykk p g,zke g,i64 kind,ycb (zwn g.ports.length),see]
theorem yiu (p:ProgD) (g:GraphD) (hf:Fair p g) (h0:yhg p g=0) (kind:Int) (f:Nat):Con Tryz.prog 53 [ytn p,ynl g,i64 kind,.fn f []] (zfw p g kind (.fn f [])):=by
 have hg:=(ydx.1 h0).2.1
 refine yfy tok Tryz.func53 rfl rfl Tryz.ntmps53 Tryz.results53 rfl rfl ?_
 (repeat (first|refine zy ?_|refine yaf rfl rfl (newmover_con p g hf h0) rfl rfl ?_|refine yaf rfl rfl (newnet_con g hg) rfl rfl ?_|refine yaf rfl rfl (alld_con g hg) rfl rfl ?_))
 refine yae ?_;refine ⟨_,rfl,?_⟩
 exact Frz.pure
theorem yko {p:ProgD} {g:GraphD} {c:List (List Int)} (h:CfgOk p g c) (kind:Int) (hk:1≤kind∧kind≤4) (n:Nat) (hn:n≤4096):Con Tryz.prog 52 [ytn p,ynl g,i64 kind,yhm c,i64 n] (i64 0):=by
 have hm:=mcheck_con p g c h.fair h.cin
 rw [h.chk] at hm
 refine yao Tryz.func52 rfl rfl Tryz.ntmps52 Tryz.results52 rfl rfl ?_
 (repeat (first|refine zy ?_|refine yaf rfl rfl hm rfl rfl ?_|refine yaf rfl rfl (dvalid_con kind hk) rfl rfl ?_))
 refine yac rfl (fun h1=>?_) (fun h1=>?_)
 ·simp at h1;omega
 (try refine zy ?_)
 refine yae ?_;refine ⟨_,rfl,?_⟩
 exact Frz.pure
theorem zcl (c:List (List Int)) (e:BitVec 32) (k:CntD):Con Tryz.prog 54 [yhm c,ycb e,.agg (ykg k)] (.tup []):=by
 refine yao Tryz.func54 rfl rfl Tryz.ntmps54 Tryz.results54 rfl rfl ?_
 (try refine zy ?_)
 exact ⟨_,rfl,Frz.pure⟩
structure RunD where
 c:List (List Int)
 e:BitVec 32
 k:CntD
 ch:List (BitVec 32)
 en:List (BitVec 32)
def zll (p:ProgD) (g:GraphD) (c:List (List Int)):RunD:=⟨c,yll p g c,yjm (yll p g c),[],[yll p g c]⟩
def zji (p:ProgD) (g:GraphD) (S:RunD) (set:BitVec 32):RunD:=
 ⟨yxh p g S.c set,yll p g (yxh p g S.c set),zkk S.k set (yll p g (yxh p g S.c set)),S.ch++[set],S.en++[yll p g (yxh p g S.c set)]⟩
def yln (p:ProgD) (g:GraphD) (kind:Int) (ch:Nat→BitVec 32→BitVec 32 × Bool):Nat→Nat→RunD→Option RunD
 | 0,i,S=>some S
 | m+1,i,S=>if (ch i S.e).2=true then (if zdc g kind S.e (ch i S.e).1=true then yln p g kind ch m (i+1) (zji p g S (ch i S.e).1) else none) else some S
def traceA (S:RunD):AV:=.agg ([ytp S.ch,ytp S.en,yhm S.c]++ykg S.k)
def zaq:Option RunD→AV
 | some S=>.tup [traceA S,i64 0]
 | none=>.tup [.agg [ytp [],ytp [],yhm [],i64 0,i64 0,i64 0,i64 0,ycb 0#32],i64 11]
end
section
open Go.RowKit
theorem frz_none {h:Nat→Option LObj}:Frz h (.tup [.agg [.v (.slice none 0 0),.v (.slice none 0 0),.v (.slice none 0 0),i64 0,i64 0,i64 0,i64 0,ycb 0#32],i64 11]) (zaq none):=by
 refine Frz.tup2 (Frz.aggL rfl rfl fun i x y hx hy=>?_) Frz.pure
 have hi:=(List.getElem?_eq_some_iff.1 hx).1
 have:i=0∨i=1∨i=2∨i=3∨i=4∨i=5∨i=6∨i=7:=by simp at hi;omega
 rcases this with rfl|rfl|rfl|rfl|rfl|rfl|rfl|rfl <;> simp only [List.getElem?_cons_zero,List.getElem?_cons_succ,Option.some.injEq] at hx hy <;> subst hx hy
 ·exact Frz.nil
 ·exact Frz.nil
 ·exact Frz.nil
 ·exact Frz.pure
 ·exact Frz.pure
 ·exact Frz.pure
 ·exact Frz.pure
 ·exact Frz.pure
theorem addV_steps {k:CntD} {a b:BitVec 32}:(zkk k a b).steps=k.steps+1:=by unfold zkk;split <;> rfl
theorem ykb:∀ R:Option RunD,yav (zaq R)=true
 | none=>rfl
 | some S=>rfl
def exH (S:RunD):List (Nat × Option LObj):=[(12,some (.cells (ykg S.k))),(10,some (.cells [.ls 100 1 S.ch.length,.ls 101 1 S.en.length,.v (.slice none 0 0),i64 0,i64 0,i64 0,i64 0,ycb 0#32])),(100,some (.vec (S.ch.map ycb))),(101,some (.vec (S.en.map ycb)))]
theorem zmt {p:ProgD} {g:GraphD} {c:List (List Int)} (h:CfgOk p g c) (kind:Int) (n:Nat) (hn:n≤4096) {f:Nat} {caps:List AV} (hcaps:(∃ r,caps=[.dp r 0])∨∃ r s,caps=[.dp r 0,.dp s 0]) (ch:Nat→BitVec 32→BitVec 32 × Bool)
  (hch:∀ (i:Nat) (S:RunD),i < n→CfgOk p g S.c→S.e=yll p g S.c→Con Tryz.prog f ([i64 i,ycb S.e]++caps) (.tup [ycb (ch i S.e).1,ybq (ch i S.e).2]))
  (hper:∀ (d:List (List Int)) (s:BitVec 32),CfgOk p g d→Con Tryz.prog 170 [zke g,i64 kind,ycb (yll p g d),ycb s] (ybq (zdc g kind (yll p g d) s))) :
  Con Tryz.prog 107 [zfw p g kind (.fn 54 []),yhm c,i64 n,.fn f caps] (zaq (yln p g kind ch n 0 (zll p g c))):=by
 have h24:=h.n24
 have hlen:=h.len
 have h6:=h.vars6
 have hrows:∀ r∈c,r.length≤1000:=fun r hr=>by have:=h.rowlen r hr;omega
 have hcopy:=con_of_own (zmj c (by omega) hrows) (r':=yhm c) rfl (zrs (f:=[]) (M:=8) (n:=c.length) rfl rfl rfl rfl rfl)
 have hand:∀ d,CfgOk p g d→yll p g d &&& zwn g.ports.length=yll p g d:=fun d hd=>by
  have hl:=hd.len
  apply BitVec.eq_of_getLsbD_eq
  intro i hi
  rw [BitVec.getLsbD_and,allV_bit _ h24 i hi,zeh (by omega),hl]
  cases decide (i < g.ports.length) <;> simp
 rcases hcaps with ⟨r0,rfl⟩|⟨r0,s0,rfl⟩
 all_goals
  refine yfy tok Tryz.func107 rfl rfl Tryz.ntmps107 Tryz.results107 rfl (ykb _) ?_
  (repeat (first|with_reducible refine ybw ?_|with_reducible refine ybh ?_|refine ybt ?_));refine ydt ?_;refine yci (lf:=lfT) rfl ?_
  (try refine zo ?_)
  refine zt ?_;refine yci (lf:=lfT) rfl ?_
  (try refine zo ?_)
  refine zt ?_
  refine zut 10 0 100 1 rfl rfl rfl rfl rfl ?_
  refine zut 10 1 101 1 rfl rfl rfl rfl rfl ?_
  (repeat (first|refine yfg rfl rfl rfl rfl (ynz 24 (y:=ycb (yll p g c)) rfl (by rw [hand c h]) ?_)|refine zI ?_|refine zL ?_|refine zC ?_|refine yes ?_|refine ydt ?_|refine zR ?_|refine zD ?_|refine zK ?_|refine zB ?_|refine zA ?_|refine zS ?_|refine zU ?_|refine zV ?_|refine zF ?_|with_reducible refine ybh ?_|with_reducible refine ybw ?_|refine yby ?_|refine ybt ?_|refine yde ?_|refine zT ?_|refine zE ?_|refine zX ?_|refine yaf rfl rfl hcopy rfl rfl ?_|refine yaf rfl rfl (yvs h) rfl rfl ?_|refine yaf rfl rfl (begin_con _) rfl rfl ?_|refine yaf rfl rfl (zcl _ _ _) rfl rfl ?_|refine zea tok rfl rfl rfl (by simp) rfl (by simp [yav]) (by simp) rfl rfl rfl rfl rfl ?_))
  refine ygb (α:=Nat × RunD) (fun a=>[(40,i64 a.1),(39,i64 n),(1,yhm a.2.c),(11,ycb a.2.e),(3,.fn f _),(4,.lp 4 0),(10,.lp 10 0),(12,.lp 12 0),(8,.lp 8 0)]) (fun a=>exH a.2++[(8,some (.cells (ykq zur.zero))),(4,some (.cells [ykk p g,zke g,i64 kind,ycb (zwn g.ports.length),AV.fn 54 []]))]) (fun a=>n - a.1) (fun a=>a.1≤n∧CfgOk p g a.2.c∧a.2.e=yll p g a.2.c∧CntOk a.2.k∧a.2.k.steps=a.1∧a.2.ch.length=a.1∧a.2.en.length=a.1+1∧yln p g kind ch n 0 (zll p g c)=yln p g kind ch (n - a.1) a.1 a.2) (0,zll p g c) ⟨by omega,h,rfl,begin_ok,rfl,rfl,rfl,rfl⟩ (by exact zs) (yaq (yad rfl (yad rfl (yad rfl (yad rfl (yad rfl (yad rfl yak))))))) ?_
  rintro ⟨i,⟨c1,e1,k1,ch1,en1⟩⟩ ⟨hi,hS,hSe,hk,hks,hc1,he1,hex⟩
  simp only at hi hS hSe hk hks hc1 he1 hex ⊢
  subst hSe
  (try refine zw ?_)
  refine yac rfl (fun h1=>?_) (fun h1=>?_)
  ·simp at h1
   have hc9:=hch i ⟨c1,yll p g c1,k1,ch1,en1⟩ h1 hS rfl
   obtain ⟨m,hm⟩:∃ m,n - i=m+1:=⟨n - i - 1,by omega⟩
   rw [hm] at hex
   simp only [yln] at hex
   generalize hset:(ch i (yll p g c1))=set at hc9 hex
   obtain ⟨set,goes⟩:=set
   simp only at hc9 hex
   (repeat (first|refine zw ?_|refine yaf rfl rfl hc9 rfl rfl ?_))
   refine yac rfl (fun h2=>?_) (fun h2=>?_)
   ·have hfin:yln p g kind ch n 0 (zll p g c)=some ⟨c1,yll p g c1,k1,ch1,en1⟩:=by rw [hex,if_neg (by simpa using h2)]
    (try refine zw ?_)
    refine zbk [(10,.lp 10 0),(8,.lp 8 0)] [(10,some (.cells ([.ls 100 1 ch1.length,.ls 101 1 en1.length,yhm c1]++ykg k1))),(100,some (.vec (ch1.map ycb))),(101,some (.vec (en1.map ycb))),(8,some (.cells (ykq zur.zero)))] ?_ ?_
    ·refine ycv (lf:=lf0) yzi rfl ?_
     refine ymk [0,2] 4 (yaa rfl (yaa rfl ybb)) rfl (by kernel_rfl) ?_
     (try refine zo ?_)
     refine ycl [1,3] 3 rfl (by kernel_rfl) (by simp) ⟨⟨_,rfl,?_⟩,⟨_,rfl,?_⟩,trivial⟩
     ·(try refine zo ?_)
      refine ycj [3,4,5] (yaa rfl (yaa rfl (yaa rfl ybb))) rfl (by kernel_rfl) ?_
      (try refine zo ?_)
      refine mid (by exact zs) (by exact zh)
     ·(try refine zo ?_)
      refine ycj [1,4,5] (yaa rfl (yaa rfl (yaa rfl ybb))) rfl (by kernel_rfl) ?_
      (try refine zo ?_)
      refine mid (by exact zs) (by exact zh)
    refine zt ?_
    refine ylf 10 0 (ch1.map fun B=>[ycb B]) rfl rfl rfl (by simp) (fun row hr=>by obtain ⟨y,_,rfl⟩:=List.mem_map.1 hr;rfl) (yjq _) rfl rfl rfl rfl ?_
    refine ylf 10 1 (en1.map fun B=>[ycb B]) rfl rfl rfl (by simp) (fun row hr=>by obtain ⟨y,_,rfl⟩:=List.mem_map.1 hr;rfl) (yjq _) rfl rfl rfl rfl ?_
    (try refine zy ?_)
    refine yae ?_;refine ⟨_,rfl,?_⟩
    rw [hfin]
    exact Frz.pure
   have h2:goes=true:=by simpa using h2
   rw [if_pos h2] at hex
   (repeat (first|refine zw ?_|refine yaf rfl rfl (hper c1 set hS) rfl rfl ?_))
   refine yac rfl (fun h3=>?_) (fun h3=>?_)
   ·have hfin:yln p g kind ch n 0 (zll p g c)=none:=by rw [hex,if_neg (by simpa using h3)]
    (try refine zy ?_)
    refine yae ?_;refine ⟨_,rfl,?_⟩
    rw [hfin]
    exact frz_none
   have h3:zdc g kind (yll p g c1) set=true:=by simpa using h3
   rw [if_pos h3] at hex
   have hp0:set≠0#32∧set &&& ~~~(yll p g c1)=0#32:=by
    unfold zdc at h3
    simp only [Bool.and_eq_true,Bool.not_eq_true',beq_eq_false_iff_ne,beq_iff_eq] at h3
    exact h3.1
   have hcl:=hS.len
   have hst:=hS.step set
   have hcl2:=hst.len
   have hsm:=mstep_con hS set fun v hv hb=>by
    have:=ztp hp0.2 hb
    rw [zeh (by omega)] at this
    simp only [Bool.and_eq_true] at this
    exact this.2
   have hin1:InM set:=znf fun v hv=>by
    cases hb:set.getLsbD v with
    | false=>rfl
    | true=>
     have:=ztp hp0.2 hb
     rw [zeh (by omega)] at this
     simp at this;omega
   have hin2:InM (yll p g (yxh p g c1 set)):=znf fun v hv=>by
    rw [zeh (by omega)]
    have:decide (v < (yxh p g c1 set).length)=false:=by simp;omega
    rw [this];rfl
   (repeat (first|refine yfg rfl rfl rfl rfl (ynz 72 (y:=ycb (yll p g (yxh p g c1 set))) rfl (by rw [hand _ hst]) ?_)|refine zI ?_|refine zL ?_|refine zC ?_|refine yes ?_|refine ydt ?_|refine zR ?_|refine zD ?_|refine zK ?_|refine zB ?_|refine zA ?_|refine zS ?_|refine zU ?_|refine zV ?_|refine zF ?_|with_reducible refine ybh ?_|with_reducible refine ybw ?_|refine yby ?_|refine ybt ?_|refine yde ?_|refine zT ?_|refine zE ?_|refine zX ?_|refine yaf rfl rfl hsm rfl rfl ?_|refine yaf rfl rfl (yvs hst) rfl rfl ?_|refine yaf rfl rfl (add_con k1 hk (by omega) hp0.1 hin1 hin2) rfl rfl ?_|refine yaf rfl rfl (zcl _ _ _) rfl rfl ?_|refine zea tok rfl rfl rfl (by simp) rfl (by simp [yav]) (by simp;omega) rfl rfl rfl rfl rfl ?_))
   refine zae (i+1,zji p g ⟨c1,yll p g c1,k1,ch1,en1⟩ set) ⟨by simp only;omega,hst,rfl,add_ok hk (by omega) hp0.1 hin1 hin2,by simp only [zji,addV_steps,hks];omega,by simp [zji,hc1],by simp [zji,he1],by simp only;rw [hex,show n - (i+1)=m by omega]⟩ (by simp only;omega) (by exact zs) (yaq (yad rfl (yad ?_ (yad ?_ (yad ?_ (yad rfl (yad rfl yak)))))))
   ·show some _=some _
    simp [zji]
   ·show some _=some _
    simp [zji,ycb]
   ·show some _=some _
    simp [zji,ycb]
  ·simp at h1
   obtain rfl:i=n:=by omega
   have hfin:yln p g kind ch i 0 (zll p g c)=some ⟨c1,yll p g c1,k1,ch1,en1⟩:=by rw [hex,Nat.sub_self];rfl
   (try refine zw ?_)
   refine zbk [(10,.lp 10 0),(8,.lp 8 0)] [(10,some (.cells ([.ls 100 1 ch1.length,.ls 101 1 en1.length,yhm c1]++ykg k1))),(100,some (.vec (ch1.map ycb))),(101,some (.vec (en1.map ycb))),(8,some (.cells (ykq zur.zero)))] ?_ ?_
   ·refine ycv (lf:=lf0) yzi rfl ?_
    refine ymk [0,2] 4 (yaa rfl (yaa rfl ybb)) rfl (by kernel_rfl) ?_
    (try refine zo ?_)
    refine ycl [1,3] 3 rfl (by kernel_rfl) (by simp) ⟨⟨_,rfl,?_⟩,⟨_,rfl,?_⟩,trivial⟩
    ·(try refine zo ?_)
     refine ycj [3,4,5] (yaa rfl (yaa rfl (yaa rfl ybb))) rfl (by kernel_rfl) ?_
     (try refine zo ?_)
     refine mid (by exact zs) (by exact zh)
    ·(try refine zo ?_)
     refine ycj [1,4,5] (yaa rfl (yaa rfl (yaa rfl ybb))) rfl (by kernel_rfl) ?_
     (try refine zo ?_)
     refine mid (by exact zs) (by exact zh)
   refine zt ?_
   refine ylf 10 0 (ch1.map fun B=>[ycb B]) rfl rfl rfl (by simp) (fun row hr=>by obtain ⟨y,_,rfl⟩:=List.mem_map.1 hr;rfl) (yjq _) rfl rfl rfl rfl ?_
   refine ylf 10 1 (en1.map fun B=>[ycb B]) rfl rfl rfl (by simp) (fun row hr=>by obtain ⟨y,_,rfl⟩:=List.mem_map.1 hr;rfl) (yjq _) rfl rfl rfl rfl ?_
   (try refine zy ?_)
   refine yae ?_;refine ⟨_,rfl,?_⟩
   rw [hfin]
   exact Frz.pure
end
section
open Go.RowKit
def zjg (p:ProgD) (g:GraphD) (kind:Int):List AV:=[ykk p g,zke g,i64 kind,ycb (zwn g.ports.length),.fn 54 []]
def chF (g:GraphD) (kind:Int) (ws:List (BitVec 32)) (i:Nat) (e:BitVec 32):BitVec 32 × Bool:=(zoi g kind e (ws.getD i 0#32),e != 0#32)
def chP (ws:List (BitVec 32)) (i:Nat) (e:BitVec 32):BitVec 32 × Bool:=(ws.getD i 0#32,true)
def zpf (p:ProgD) (g:GraphD) (kind:Int) (c:List (List Int)) (ws:List (BitVec 32)):Option RunD:=yln p g kind (chF g kind ws) ws.length 0 (zll p g c)
def zpp (p:ProgD) (g:GraphD) (kind:Int) (c:List (List Int)) (ws:List (BitVec 32)):Option RunD:=yln p g kind (chP ws) ws.length 0 (zll p g c)
structure DmnOk (p:ProgD) (g:GraphD) (kind:Int):Prop where
 kd:1≤kind∧kind≤4
 res:∀ (d:List (List Int)) (w:BitVec 32),CfgOk p g d→Con Tryz.prog 109 [zke g,i64 kind,ycb (yll p g d),ycb w] (ycb (zoi g kind (yll p g d) w))
 per:∀ (d:List (List Int)) (s:BitVec 32),CfgOk p g d→Con Tryz.prog 170 [zke g,i64 kind,ycb (yll p g d),ycb s] (ybq (zdc g kind (yll p g d) s))
theorem zhc (p:ProgD) (g:GraphD) (kind:Int) (hk:kind=1∨kind=3∨kind=4):DmnOk p g kind:=
 ⟨by omega,fun d w _=>resolve_con g kind hk _ w,fun d s _=>yzp g kind (by omega) _ s (fun e _=>by omega)⟩
theorem follow1_con {p:ProgD} {g:GraphD} {kind:Int} (D:DmnOk p g kind) {ws:List (BitVec 32)} {i:Nat} (hi:i < ws.length) (hn:ws.length≤4096) {d:List (List Int)} (hd:CfgOk p g d):Con Tryz.prog 108 [i64 i,ycb (yll p g d),.dp (zjg p g kind) 0,.dp [ytp ws] 0] (.tup [ycb (chF g kind ws i (yll p g d)).1,ybq (chF g kind ws i (yll p g d)).2]):=by
 obtain ⟨w,hw⟩:=ycg hi
 have hg:ws.getD i 0#32=w:=by rw [List.getD_eq_getElem?_getD,hw];rfl
 refine yao Tryz.func108 rfl rfl Tryz.ntmps108 Tryz.results108 rfl rfl ?_
 (repeat (first|refine zy ?_|refine yaf rfl rfl (D.res d w hd) rfl rfl ?_))
 refine yae ?_;refine ⟨_,rfl,?_⟩
 rw [ynd]
 simp only [chF,hg]
 exact Frz.pure
theorem play1_con {ws:List (BitVec 32)} {i:Nat} (hi:i < ws.length) (hn:ws.length≤4096) (e:BitVec 32):Con Tryz.prog 110 [i64 i,ycb e,.dp [ytp ws] 0] (.tup [ycb (chP ws i e).1,ybq (chP ws i e).2]):=by
 obtain ⟨w,hw⟩:=ycg hi
 have hg:ws.getD i 0#32=w:=by rw [List.getD_eq_getElem?_getD,hw];rfl
 refine yao Tryz.func110 rfl rfl Tryz.ntmps110 Tryz.results110 rfl rfl ?_
 (try refine zy ?_)
 refine yae ?_;refine ⟨_,rfl,?_⟩
 simp only [chP,hg]
 exact Frz.pure
theorem follow_con {p:ProgD} {g:GraphD} {c:List (List Int)} (h:CfgOk p g c) {kind:Int} (D:DmnOk p g kind) (ws:List (BitVec 32)) (hn:ws.length≤4096):Con Tryz.prog 55 [zfw p g kind (.fn 54 []),yhm c,ytp ws] (zaq (zpf p g kind c ws)):=by
 have he:=zmt h kind ws.length hn (f:=108) (caps:=[.dp (zjg p g kind) 0,.dp [ytp ws] 0]) (.inr ⟨_,_,rfl⟩) (chF g kind ws) (fun i S hi hS hSe=>by rw [hSe];exact follow1_con D hi hn hS) (fun d s hd=>D.per d s hd)
 unfold zpf
 generalize yln p g kind (chF g kind ws) ws.length 0 (zll p g c)=R at he
 refine yfy tok Tryz.func55 rfl rfl Tryz.ntmps55 Tryz.results55 rfl (ykb _) ?_
 (repeat (first|with_reducible refine ybw ?_|with_reducible refine ybh ?_|refine ybt ?_));refine ydt ?_;refine yci (lf:=lfT) rfl ?_
 (try refine zo ?_)
 refine zt ?_
 refine yhn 3 rfl rfl rfl rfl rfl ?_
 refine yhn 5 rfl rfl rfl rfl rfl ?_
 cases R with
 | none=>
  (repeat (first|refine zy ?_|refine yaf rfl rfl he rfl rfl ?_))
  refine yae ?_;refine ⟨_,rfl,?_⟩
  exact Frz.pure
 | some R=>
  (repeat (first|refine zy ?_|refine yaf rfl rfl he rfl rfl ?_))
  refine yae ?_;refine ⟨_,rfl,?_⟩
  exact Frz.pure
theorem play_con {p:ProgD} {g:GraphD} {c:List (List Int)} (h:CfgOk p g c) {kind:Int} (D:DmnOk p g kind) (ws:List (BitVec 32)) (hn:ws.length≤4096):Con Tryz.prog 57 [zfw p g kind (.fn 54 []),yhm c,ytp ws] (zaq (zpp p g kind c ws)):=by
 have he:=zmt h kind ws.length hn (f:=110) (caps:=[.dp [ytp ws] 0]) (.inl ⟨_,rfl⟩) (chP ws) (fun i S hi hS hSe=>play1_con hi hn _) (fun d s hd=>D.per d s hd)
 unfold zpp
 generalize yln p g kind (chP ws) ws.length 0 (zll p g c)=R at he
 refine yfy tok Tryz.func57 rfl rfl Tryz.ntmps57 Tryz.results57 rfl (ykb _) ?_
 (repeat (first|with_reducible refine ybw ?_|with_reducible refine ybh ?_|refine ybt ?_));refine ydt ?_;refine yci (lf:=lfT) rfl ?_
 (try refine zo ?_)
 refine zt ?_
 refine yhn 5 rfl rfl rfl rfl rfl ?_
 cases R with
 | none=>
  (repeat (first|refine zy ?_|refine yaf rfl rfl he rfl rfl ?_))
  refine yae ?_;refine ⟨_,rfl,?_⟩
  exact Frz.pure
 | some R=>
  (repeat (first|refine zy ?_|refine yaf rfl rfl he rfl rfl ?_))
  refine yae ?_;refine ⟨_,rfl,?_⟩
  exact Frz.pure
theorem yzw {p:ProgD} {g:GraphD} {c:List (List Int)} (h:CfgOk p g c) {kind:Int} (D:DmnOk p g kind) (ws:List (BitVec 32)) (hn:ws.length≤4096):Con Tryz.prog 14 [ytn p,ynl g,i64 kind,yhm c,ytp ws] (zaq (zpf p g kind c ws)):=by
 have he:=follow_con h D ws hn
 generalize zpf p g kind c ws=R at he
 refine yfy tok Tryz.func14 rfl rfl Tryz.ntmps14 Tryz.results14 rfl (ykb _) ?_
 cases R with
 | none=>
  (repeat (first|refine zy ?_|refine yaf rfl rfl (yko h kind D.kd ws.length hn) rfl rfl ?_|refine yaf rfl rfl (yiu p g h.fair h.fit kind _) rfl rfl ?_|refine yaf rfl rfl he rfl rfl ?_))
  refine yae ?_;refine ⟨_,rfl,?_⟩
  exact Frz.pure
 | some R=>
  (repeat (first|refine zy ?_|refine yaf rfl rfl (yko h kind D.kd ws.length hn) rfl rfl ?_|refine yaf rfl rfl (yiu p g h.fair h.fit kind _) rfl rfl ?_|refine yaf rfl rfl he rfl rfl ?_))
  refine yae ?_;refine ⟨_,rfl,?_⟩
  exact Frz.pure
theorem rPlay_con {p:ProgD} {g:GraphD} {c:List (List Int)} (h:CfgOk p g c) {kind:Int} (D:DmnOk p g kind) (ws:List (BitVec 32)) (hn:ws.length≤4096):Con Tryz.prog 16 [ytn p,ynl g,i64 kind,yhm c,ytp ws] (zaq (zpp p g kind c ws)):=by
 have he:=play_con h D ws hn
 generalize zpp p g kind c ws=R at he
 refine yfy tok Tryz.func16 rfl rfl Tryz.ntmps16 Tryz.results16 rfl (ykb _) ?_
 cases R with
 | none=>
  (repeat (first|refine zy ?_|refine yaf rfl rfl (yko h kind D.kd ws.length hn) rfl rfl ?_|refine yaf rfl rfl (yiu p g h.fair h.fit kind _) rfl rfl ?_|refine yaf rfl rfl he rfl rfl ?_))
  refine yae ?_;refine ⟨_,rfl,?_⟩
  exact Frz.pure
 | some R=>
  (repeat (first|refine zy ?_|refine yaf rfl rfl (yko h kind D.kd ws.length hn) rfl rfl ?_|refine yaf rfl rfl (yiu p g h.fair h.fit kind _) rfl rfl ?_|refine yaf rfl rfl he rfl rfl ?_))
  refine yae ?_;refine ⟨_,rfl,?_⟩
  exact Frz.pure
end
section
open Go.RowKit
theorem popF_zero {p:Nat→Bool} {n:Nat} (h:∀ i,i < n→p i=false):yme p n=0:=by
 unfold yme;rw [List.filter_eq_nil_iff.2 fun u hu=>by simp [h u (List.mem_range.1 hu)]];rfl
theorem zvq {n:Nat} (hn:n≤32) {B:BitVec 32} (hB:InN n B):zpq B=yme B.getLsbD n:=by
 have e:=ypr B.getLsbD n (32 - n)
 rw [show n+(32 - n)=32 by omega,popF_zero (p:=fun i=>B.getLsbD (n+i)) fun i _=>hB (n+i) (by omega)] at e
 exact e
theorem yrn {k u:Nat} (hu:u < 32):(1#32 <<< k).getLsbD u=decide (u=k):=by
 rw [BitVec.getLsbD_shiftLeft]
 by_cases e:u=k
 ·subst e;simp [hu]
 ·simp [e,BitVec.getLsbD_one];omega
theorem allM_bit {u:Nat} (h:u < 24):zpx.getLsbD u=true:=by
 have:∀ j:Fin 24,zpx.getLsbD j.val=true:=by decide
 exact this ⟨u,h⟩
theorem zry {n:Nat} (hn:n≤24) {B:BitVec 32} (hB:InN n B):B &&& zpx=B:=ztm (yqn hB) hB fun u hu=>by
 rw [BitVec.getLsbD_and,allM_bit (by omega),Bool.and_true]
theorem znr {u:Nat} (hu:u < 32):∀ (ls:List Lk) (B:BitVec 32),(ls.foldl (fun B l=>B ||| (1#32 <<< l.1.toNat)) B).getLsbD u=(B.getLsbD u || ls.any fun l=>decide (u=l.1.toNat))
 | [],B=>by simp
 | l::ls,B=>by
  rw [List.foldl_cons,znr hu ls,BitVec.getLsbD_or,yrn hu,List.any_cons,Bool.or_assoc]
theorem zfk {g:GraphD} {v u:Nat} {ls:List Lk} (hls:g.ports[v]?=some ls) (hu:u < 32):((yle g).getD v 0#32).getLsbD u=ls.any fun l=>decide (u=l.1.toNat):=by
 have:(yle g)[v]?=some (zqd ls):=by simp [yle,hls]
 rw [List.getD_eq_getElem?_getD,this,Option.getD_some,zqd,znr hu]
 simp
theorem ysk {g:GraphD} {s:BitVec 32}:yqo g s=true↔∀ v,v < 24→s.getLsbD v=true→(yle g).getD v 0#32 &&& s=0#32:=by
 unfold yqo
 rw [List.all_eq_true]
 constructor
 ·intro h v hv hs
  have:=h v (List.mem_range.2 hv)
  rw [hs] at this
  simpa using this
 ·intro h v hv
  have:=h v (List.mem_range.1 hv)
  cases hs:s.getLsbD v with
  | false=>rfl
  | true=>rw [this hs];rfl
theorem zsm {g:GraphD} (hg:ybs g=true) {u v:Nat} (hu:u < g.ports.length) (hv:v < g.ports.length) (h:((yle g).getD v 0#32).getLsbD u=true):((yle g).getD u 0#32).getLsbD v=true∧u≠v:=by
 have hf:=yal hg
 obtain ⟨ls,hls⟩:=ycg hv
 obtain ⟨ls2,hls2⟩:=ycg hu
 rw [zfk hls (by omega),List.any_eq_true] at h
 obtain ⟨l,hl,he⟩:=h
 have he:u=l.1.toNat:=by simpa using he
 have hb:=(ybk _ _ _).1 (((ych _ _ _).1 (hf.2.2.2.2.2.1 v ls hls)).1 l hl)
 have hs:=hf.2.2.2.2.2.2 v ls hls l hl
 rw [← he,List.getD_eq_getElem?_getD,hls2,Option.getD_some] at hs
 refine ⟨?_,by omega⟩
 rw [zfk hls2 (by omega),List.any_eq_true]
 unfold ydd at hs
 cases hfd:ls2.find? (fun x=>x.1 == (v:Int)) with
 | none=>rw [hfd] at hs;simp at hs;omega
 | some x=>
  have hx:=List.find?_some hfd
  refine ⟨x,List.mem_of_find?_eq_some hfd,?_⟩
  have:x.1=(v:Int):=by simpa using hx
  simp [this]
def zxq (i:Nat→Nat) (n:Nat) (k:CntD):CntD:={ k with pend:=yin i n k.pend }
section
variable {g:GraphD} {f i:Nat→Nat}
theorem pop_ren {n:Nat} (hn:n≤32) (R:Ren n f i) {B:BitVec 32} (hB:InN n B):zpq (yin i n B)=zpq B:=by
 rw [zvq hn (zfr hn),zvq hn hB]
 have:yme (yin i n B).getLsbD n=yme (fun u=>B.getLsbD (i u)) n:=yhv fun u hu=>by rw [ydv (by omega)];simp [hu]
 rw [this]
 unfold yme
 have h:=((ren_perm R).filter B.getLsbD).length_eq
 rw [List.filter_map,List.length_map] at h
 exact h
theorem begin_ren {n:Nat} (hn:n≤24) {e:BitVec 32} (he:InN n e):yjm (yin i n e)=zxq i n (yjm e):=by
 unfold yjm zxq
 rw [zry hn he,zry hn (zfr (by omega))]
theorem zfq {n:Nat} (hn:n≤32) (R:Ren n f i) {A:BitVec 32} (hA:InN n A):yin i n A=0#32↔A=0#32:=by
 have:=yxc hn R hA zkw
 rw [yzz,Bool.eq_iff_iff,beq_iff_eq,beq_iff_eq] at this
 exact this
theorem add_ren {n:Nat} (hn:n≤32) (R:Ren n f i) {k:CntD} {ch af:BitVec 32} (hk:InN n k.pend) (hc:InN n ch):zkk (zxq i n k) (yin i n ch) (yin i n af)=zxq i n (zkk k ch af):=by
 unfold zkk
 have e:(zxq i n k).pend &&& ~~~(yin i n ch) &&& yin i n af=yin i n (k.pend &&& ~~~ch &&& af):=by
  rw [zoa,zob hn R];rfl
 rw [e,pop_ren hn R hc]
 by_cases h:k.pend &&& ~~~ch &&& af=0#32
 ·rw [if_pos h,if_pos ((zfq hn R (yqn (yqn hk))).2 h)];rfl
 ·rw [if_neg h,if_neg fun q=>h ((zfq hn R (yqn (yqn hk))).1 q)];rfl
theorem net_ren (hg:ybs g=true) (R:Ren g.ports.length f i) {v:Nat} (hv:v < g.ports.length):(yle (ybz f i g)).getD (f v) 0#32=yin i g.ports.length ((yle g).getD v 0#32):=by
 have hf:=yal hg
 obtain ⟨ls,hls⟩:=ycg hv
 have hin:=ypl (hf.2.2.2.2.2.1 v ls hls)
 apply BitVec.eq_of_getLsbD_eq
 intro u hu
 rw [zfk (yik R hls) hu,ydv hu,List.any_map]
 by_cases h:u < g.ports.length
 ·have hi:=R.ilt u h
  rw [zfk hls (by omega),show decide (u < g.ports.length)=true by simpa using h,Bool.true_and]
  rw [Bool.eq_iff_iff,List.any_eq_true,List.any_eq_true]
  constructor
  ·rintro ⟨l,hl,he⟩
   have:=hin l hl
   have he:u=f l.1.toNat:=by simpa [ykz,Function.comp] using of_decide_eq_true he
   refine ⟨l,hl,?_⟩
   rw [he,R.back _ (by omega)];simp
  ·rintro ⟨l,hl,he⟩
   have he:i u=l.1.toNat:=by simpa using he
   refine ⟨l,hl,?_⟩
   simp only [Function.comp,ykz,Int.toNat_natCast,← he,R.forth u h,decide_true]
 ·rw [show decide (u < g.ports.length)=false by simpa using h,Bool.false_and,List.any_eq_false]
  intro l hl
  have h1:=hin l hl
  have h2:=R.lt l.1.toNat (by omega)
  have h3:¬ u=f l.1.toNat:=by omega
  simp [ykz,h3]
theorem indep_ren (hg:ybs g=true) (R:Ren g.ports.length f i) {s:BitVec 32} (hs:InN g.ports.length s):yqo (ybz f i g) (yin i g.ports.length s)=yqo g s:=by
 have h24:=(yal hg).2.1
 have hn:g.ports.length≤32:=by omega
 have key:∀ v,v < g.ports.length→((yle (ybz f i g)).getD (f v) 0#32 &&& yin i g.ports.length s=0#32↔(yle g).getD v 0#32 &&& s=0#32):=fun v hv=>by
  rw [net_ren hg R hv,← zoa]
  exact zfq hn R (by rw [BitVec.and_comm];exact yqn hs)
 rw [Bool.eq_iff_iff,ysk,ysk]
 constructor
 ·intro h v hv hb
  have hvn:v < g.ports.length:=Nat.lt_of_not_le fun hge=>by rw [hs v hge] at hb;cases hb
  refine (key v hvn).1 (h (f v) (by have:=R.lt v hvn;omega) ?_)
  rw [yzy hn R hvn];exact hb
 ·intro h u hu hb
  rw [ydv (by omega)] at hb
  simp only [Bool.and_eq_true,decide_eq_true_eq] at hb
  have:=(key (i u) (R.ilt u hb.1)).2 (h (i u) (by have:=R.ilt u hb.1;omega) hb.2)
  rwa [R.forth u hb.1] at this
theorem per_ren (hg:ybs g=true) (R:Ren g.ports.length f i) (kind:Int) {e s:BitVec 32} (he:InN g.ports.length e) (hs:InN g.ports.length s):zdc (ybz f i g) kind (yin i g.ports.length e) (yin i g.ports.length s)=zdc g kind e s:=by
 have hn:g.ports.length≤32:=by have:=(yal hg).2.1;omega
 have e1:(yin i g.ports.length s == 0#32)=(s == 0#32):=by
  have:=yxc hn R hs zkw
  rwa [yzz] at this
 have e2:(yin i g.ports.length s &&& ~~~(yin i g.ports.length e) == 0#32)=(s &&& ~~~e == 0#32):=by
  have:=yxc hn R (yqn (B := ~~~e) hs) zkw
  rwa [yzz,zob hn R] at this
 have e3:(yin i g.ports.length s &&& (yin i g.ports.length s - 1#32) == 0#32)=(s &&& (s - 1#32) == 0#32):=by
  rw [Bool.eq_iff_iff,zlg,zlg]
  have inn:∀ {B:BitVec 32} {u:Nat},InN g.ports.length B→B.getLsbD u=true→u < g.ports.length:=fun {B} {u} hB hu=>Nat.lt_of_not_le fun hge=>by rw [hB u hge] at hu;cases hu
  constructor
  ·intro h u v hu hv
   have h1:=inn hs hu
   have h2:=inn hs hv
   exact R.inj h1 h2 (h _ _ (by rw [yzy hn R h1];exact hu) (by rw [yzy hn R h2];exact hv))
  ·intro h u v hu hv
   have h1:=inn (zfr hn) hu
   have h2:=inn (zfr hn) hv
   rw [ydv (by omega)] at hu hv
   simp only [Bool.and_eq_true,decide_eq_true_eq] at hu hv
   have:=h _ _ hu.2 hv.2
   rw [← R.forth u h1,← R.forth v h2,this]
 unfold zdc
 rw [e1,e2,e3,yxc hn R hs he,indep_ren hg R hs]
end
def zof (i:Nat→Nat) (n:Nat) (S:RunD):RunD:=⟨ytb i S.c,yin i n S.e,zxq i n S.k,S.ch.map (yin i n),S.en.map (yin i n)⟩
theorem zmk {p:ProgD} {g:GraphD} {c:List (List Int)} (h:c.length≤32):InN c.length (yll p g c):=fun u hu=>by
 rcases Nat.lt_or_ge u 32 with h1|h1
 ·unfold yll;rw [ypw _ _ _ h1,show decide (u < c.length)=false by simpa using hu];rfl
 ·exact BitVec.getLsbD_of_ge _ _ h1
section
variable {p:ProgD} {g:GraphD} {f i:Nat→Nat} (hp:ydf p=0) (hr:zte p=false) (hg:ybs g=true) (R:Ren g.ports.length f i)
include hp hr hg R
theorem zrg {c:List (List Int)} (hl:c.length=g.ports.length):yll p (ybz f i g) (ytb i c)=yin i g.ports.length (yll p g c):=by
 have hn:=(yal hg).2.1
 apply BitVec.eq_of_getLsbD_eq
 intro u hu
 rw [ydv hu]
 unfold yll
 rw [ypw _ _ _ hu,ypu,hl]
 by_cases h:u < g.ports.length
 ·have h1:=R.ilt u h
  rw [ypw _ _ _ (by omega)]
  have:=ena_renF hp hr hg hl R h1
  rw [R.forth u h] at this
  rw [this]
  simp [h,h1]
 ·simp [h]
theorem stp_ren {c:List (List Int)} (hl:c.length=g.ports.length) (B:BitVec 32):yxh p (ybz f i g) (ytb i c) (yin i g.ports.length B)=ytb i (yxh p g c B):=by
 have hn:=(yal hg).2.1
 have hl':(yxh p g c B).length=g.ports.length:=by rw [yhx,hl]
 apply List.ext_getElem?
 intro u
 rcases Nat.lt_or_ge u g.ports.length with h|h
 ·have h1:=R.ilt u h
  obtain ⟨r,hr1⟩:=ycg (show i u < c.length by omega)
  have e1:=yus hl R hr1
  have e2:=yus hl' R (zfz (p:=p) (g:=g) (set:=B) hr1)
  rw [R.forth u h] at e1 e2
  rw [e2,zfz e1,ydv (by omega)]
  have:=row_ren hp hr hg hl R h1
  rw [R.forth u h] at this
  rw [this,show decide (u < g.ports.length)=true by simpa using h,Bool.true_and]
 ·rw [List.getElem?_eq_none (by rw [yhx,ypu];omega),List.getElem?_eq_none (by rw [ypu,yhx];omega)]
theorem zmu (kind:Int) (ws:List (BitVec 32)) (hper:∀ (e w:BitVec 32),InN g.ports.length e→e≠0#32→InN g.ports.length (zoi g kind e w)∧zdc g kind e (zoi g kind e w)=true):∀ (m j:Nat) (S:RunD),S.c.length=g.ports.length→S.e=yll p g S.c→InN g.ports.length S.k.pend →
  ∃ T l,yln p g kind (chF g kind ws) m j S=some T∧T.ch=S.ch++l∧l.length≤m∧T.c.length=g.ports.length∧∀ (j':Nat) (vs:List (BitVec 32)),vs.drop j'=l.map (yin i g.ports.length)→yln p (ybz f i g) kind (chP vs) l.length j' (zof i g.ports.length S)=some (zof i g.ports.length T)
 | 0,j,S,hl,he,hk=>⟨S,[],rfl,by simp,by simp,hl,fun _ _ _=>rfl⟩
 | m+1,j,S,hl,he,hk=>by
  have h24:=(yal hg).2.1
  have hn:g.ports.length≤32:=by omega
  unfold yln
  by_cases h0:(chF g kind ws j S.e).2=true
  ·rw [if_pos h0]
   have hein:InN g.ports.length S.e:=by rw [he,← hl];exact zmk (by omega)
   have hne:S.e≠0#32:=by simpa [chF] using h0
   obtain ⟨q1,q2⟩:=hper S.e (ws.getD j 0#32) hein hne
   have hset:(chF g kind ws j S.e).1=zoi g kind S.e (ws.getD j 0#32):=rfl
   rw [hset,if_pos q2]
   generalize zoi g kind S.e (ws.getD j 0#32)=set at q1 q2
   have hl2:(zji p g S set).c.length=g.ports.length:=by simp [zji,yhx,hl]
   have hk2:InN g.ports.length (zji p g S set).k.pend:=by
    have haf:InN g.ports.length (yll p g (yxh p g S.c set)):=by
     have:(yxh p g S.c set).length=g.ports.length:=by rw [yhx,hl]
     rw [← this];exact zmk (by omega)
    show InN _ (zkk S.k set _).pend
    unfold zkk
    split
    ·exact haf
    ·exact yqn (yqn hk)
   obtain ⟨T,l,t1,t2,t3,t4,t5⟩:=zmu kind ws hper m (j+1) (zji p g S set) hl2 rfl hk2
   refine ⟨T,set::l,t1,by rw [t2];simp [zji],by simpa using t3,t4,fun j' vs hv=>?_⟩
   have hv0:vs[j']?=some (yin i g.ports.length set):=by
    have:=congrArg List.head? hv
    rw [List.head?_drop] at this
    exact this
   have hv1:vs.drop (j'+1)=l.map (yin i g.ports.length):=by
    rw [← List.tail_drop,hv];rfl
   have ih:=t5 (j'+1) vs hv1
   show yln p (ybz f i g) kind (chP vs) (l.length+1) j' _=_
   unfold yln
   have hc:(chP vs j' (zof i g.ports.length S).e)=(yin i g.ports.length set,true):=by
    simp [chP,List.getD_eq_getElem?_getD,hv0]
   rw [hc,if_pos rfl]
   have hpr:zdc (ybz f i g) kind (zof i g.ports.length S).e (yin i g.ports.length set)=true:=by
    show zdc (ybz f i g) kind (yin i g.ports.length S.e) _=true
    rw [per_ren hg R kind hein q1];exact q2
   rw [if_pos hpr]
   have hS:zji p (ybz f i g) (zof i g.ports.length S) (yin i g.ports.length set)=zof i g.ports.length (zji p g S set):=by
    unfold zji zof
    simp only [stp_ren hp hr hg R hl,zrg hp hr hg R (c:=yxh p g S.c set) (by rw [yhx,hl]),add_ren hn R hk q1,List.map_append,List.map_cons,List.map_nil]
   rw [hS]
   exact ih
  ·rw [if_neg h0]
   exact ⟨S,[],rfl,by simp,by simp,hl,fun _ _ _=>rfl⟩
theorem foll_ren (kind:Int) (ws:List (BitVec 32)) (hper:∀ (e w:BitVec 32),InN g.ports.length e→e≠0#32→InN g.ports.length (zoi g kind e w)∧zdc g kind e (zoi g kind e w)=true) {c:List (List Int)} (hl:c.length=g.ports.length) :
  ∃ T,zpf p g kind c ws=some T∧T.ch.length≤ws.length∧T.c.length=g.ports.length∧zpp p (ybz f i g) kind (ytb i c) (T.ch.map (yin i g.ports.length))=some (zof i g.ports.length T):=by
 have h24:=(yal hg).2.1
 have hein:InN g.ports.length (yll p g c):=by rw [← hl];exact zmk (by omega)
 obtain ⟨T,l,t1,t2,t3,t4,t5⟩:=zmu hp hr hg R kind ws hper ws.length 0 (zll p g c) hl rfl (yqn hein)
 have e:T.ch=l:=by rw [t2];rfl
 refine ⟨T,t1,by rw [e];exact t3,t4,?_⟩
 unfold zpp
 rw [e,List.length_map]
 have h0:zll p (ybz f i g) (ytb i c)=zof i g.ports.length (zll p g c):=by
  unfold zll zof
  simp only [zrg hp hr hg R hl,begin_ren h24 hein,List.map_cons,List.map_nil]
 rw [h0]
 exact t5 0 _ rfl
end
theorem wish_ok {n:Nat} {e w:BitVec 32} (he:InN n e) (h0:e≠0#32):yiy e w≠0#32∧yiy e w &&& ~~~e=0#32:=by
 have sub:∀ A:BitVec 32,(A &&& e) &&& ~~~e=0#32:=fun A=>by
  apply BitVec.eq_of_getLsbD_eq
  intro u hu
  simp only [BitVec.getLsbD_and,BitVec.getLsbD_not,BitVec.getLsbD_zero]
  cases e.getLsbD u <;> simp
 unfold yiy
 split
 ·rw [BitVec.and_comm e (-e)]
  refine ⟨?_,sub _⟩
  rw [BitVec.and_comm,zfh h0]
  intro q
  have:=congrArg (fun X=>BitVec.getLsbD X (tzV e)) q
  simp only [yrn (yla h0).1,BitVec.getLsbD_zero] at this
  simp at this
 ·rename_i h
  exact ⟨h,sub _⟩
def zka (g:GraphD) (w:BitVec 32) (k:Nat):BitVec 32:=(List.range k).foldl (fun B v=>if w.getLsbD v && ((yle g).getD v 0#32 &&& B == 0#32) then B ||| (1#32 <<< v) else B) 0#32
theorem grd_next {g:GraphD} {w:BitVec 32} {k:Nat}:zka g w (k+1)=if w.getLsbD k && ((yle g).getD k 0#32 &&& zka g w k == 0#32) then zka g w k ||| (1#32 <<< k) else zka g w k:=by
 unfold zka
 rw [List.range_succ,List.foldl_append];rfl
theorem zvi {g:GraphD} (hg:ybs g=true) {w:BitVec 32} (hw:InN g.ports.length w):∀ k,k≤24→(∀ u,(zka g w k).getLsbD u=true→u < k∧w.getLsbD u=true)∧(∀ u,(zka g w k).getLsbD u=true→(yle g).getD u 0#32 &&& zka g w k=0#32)∧((∃ u,u < k∧w.getLsbD u=true)→zka g w k≠0#32)
 | 0,_=>⟨fun u hu=>by simp [zka] at hu,fun u hu=>by simp [zka] at hu,fun ⟨u,hu,_⟩=>by omega⟩
 | k+1,hk=>by
  obtain ⟨a1,a2,a3⟩:=zvi hg hw k (by omega)
  have h24:=(yal hg).2.1
  rw [grd_next]
  have inn:∀ {u:Nat},w.getLsbD u=true→u < g.ports.length:=fun {u} hu=>Nat.lt_of_not_le fun hge=>by rw [hw u hge] at hu;cases hu
  by_cases hc:(w.getLsbD k && ((yle g).getD k 0#32 &&& zka g w k == 0#32))=true
  ·rw [if_pos hc]
   simp only [Bool.and_eq_true,beq_iff_eq] at hc
   have hbit:∀ u,(zka g w k ||| (1#32 <<< k)).getLsbD u=true→(zka g w k).getLsbD u=true∨u=k:=fun u hu=>by
    rw [BitVec.getLsbD_or,Bool.or_eq_true] at hu
    refine hu.imp (fun h=>h) fun h=>?_
    rcases Nat.lt_or_ge u 32 with h1|h1
    ·rw [yrn h1] at h;simpa using h
    ·rw [BitVec.getLsbD_of_ge _ _ h1] at h;cases h
   have hkn:=inn hc.1
   have hsplit:∀ u,u < g.ports.length→((yle g).getD u 0#32 &&& zka g w k=0#32)→((yle g).getD u 0#32).getLsbD k=false→(yle g).getD u 0#32 &&& (zka g w k ||| (1#32 <<< k))=0#32:=fun u _ h1 h2=>by
    apply BitVec.eq_of_getLsbD_eq
    intro x hx
    have h3:=congrArg (fun X=>BitVec.getLsbD X x) h1
    simp only [BitVec.getLsbD_and,BitVec.getLsbD_zero] at h3
    rw [BitVec.getLsbD_and,BitVec.getLsbD_or,yrn hx,BitVec.getLsbD_zero]
    by_cases e:x=k
    ·subst e;rw [h2];rfl
    ·simpa [e] using h3
   refine ⟨fun u hu=>?_,fun u hu=>?_,fun _ q=>?_⟩
   ·rcases hbit u hu with h|rfl
    ·have:=a1 u h;exact ⟨by omega,this.2⟩
    ·exact ⟨by omega,hc.1⟩
   ·rcases hbit u hu with h|rfl
    ·have hun:=inn (a1 u h).2
     refine hsplit u hun (a2 u h) ?_
     cases hq:((yle g).getD u 0#32).getLsbD k with
     | false=>rfl
     | true=>
      have:=(zsm hg hkn hun hq).1
      have h3:=congrArg (fun X=>BitVec.getLsbD X u) hc.2
      simp only [BitVec.getLsbD_and,BitVec.getLsbD_zero,this,h] at h3
      cases h3
    ·refine hsplit u hkn hc.2 ?_
     cases hq:((yle g).getD u 0#32).getLsbD u with
     | false=>rfl
     | true=>exact absurd rfl (zsm hg hkn hkn hq).2
   ·have:=congrArg (fun X=>BitVec.getLsbD X k) q
    simp only [BitVec.getLsbD_or,yrn (show k < 32 by omega),BitVec.getLsbD_zero] at this
    simp at this
  ·rw [if_neg hc]
   refine ⟨fun u hu=>⟨by have:=(a1 u hu).1;omega,(a1 u hu).2⟩,a2,fun ⟨u,hu,hb⟩ q=>?_⟩
   by_cases e:u=k
   ·subst e
    rw [hb,q] at hc
    simp at hc
   ·exact a3 ⟨u,by omega,hb⟩ q
theorem res_ok {g:GraphD} (hg:ybs g=true) (kind:Int) (e w:BitVec 32) (he:InN g.ports.length e) (h0:e≠0#32):InN g.ports.length (zoi g kind e w)∧zdc g kind e (zoi g kind e w)=true:=by
 obtain ⟨w1,w2⟩:=wish_ok (w:=w) he h0
 have hw:=zrz w2 he
 have h24:=(yal hg).2.1
 have fin:∀ s:BitVec 32,s≠0#32→s &&& ~~~e=0#32→(if kind=1 then s &&& (s - 1#32) == 0#32 else if kind=2 then yqo g s else if kind=4 then s == e else true)=true→InN g.ports.length s∧zdc g kind e s=true:=fun s h1 h2 h3=>by
  refine ⟨zrz h2 he,?_⟩
  unfold zdc
  rw [h3]
  simp [h1,h2]
 have trans:∀ {s:BitVec 32},(∀ u,s.getLsbD u=true→(yiy e w).getLsbD u=true)→s &&& ~~~e=0#32:=fun {s} h=>by
  apply BitVec.eq_of_getLsbD_eq
  intro u hu
  rw [BitVec.getLsbD_and,BitVec.getLsbD_not,BitVec.getLsbD_zero]
  cases hs:s.getLsbD u with
  | false=>rfl
  | true=>
   have:=congrArg (fun X=>BitVec.getLsbD X u) w2
   simp only [BitVec.getLsbD_and,BitVec.getLsbD_not,BitVec.getLsbD_zero,h u hs] at this
   simpa using this
 unfold zoi
 by_cases k1:kind=1
 ·rw [if_pos k1]
  refine fin _ ?_ (trans fun u hu=>by rw [BitVec.getLsbD_and,Bool.and_eq_true] at hu;exact hu.1) ?_
  ·rw [zfh w1]
   intro q
   have:=congrArg (fun X=>BitVec.getLsbD X (tzV (yiy e w))) q
   simp only [yrn (yla w1).1,BitVec.getLsbD_zero] at this
   simp at this
  ·rw [if_pos k1,zfh w1,zlg]
   have key:∀ u,(1#32 <<< tzV (yiy e w)).getLsbD u=true→u=tzV (yiy e w):=fun u hu=>by
    rcases Nat.lt_or_ge u 32 with h1|h1
    ·rw [yrn h1] at hu;simpa using hu
    ·rw [BitVec.getLsbD_of_ge _ _ h1] at hu;cases hu
   intro u v hu hv
   rw [key u hu,key v hv]
 ·rw [if_neg k1]
  by_cases k2:kind=2
  ·rw [if_pos k2]
   obtain ⟨g1,g2,g3⟩:=zvi hg hw 24 (by omega)
   have hex:∃ u,u < 24∧(yiy e w).getLsbD u=true:=⟨tzV (yiy e w),by
    have:=(yla w1).2.1
    exact Nat.lt_of_not_le fun hge=>by rw [hw _ (by omega)] at this;(cases this),(yla w1).2.1⟩
   refine fin (yyq g (yiy e w)) (g3 hex) (trans fun u hu=>(g1 u hu).2) ?_
   rw [if_neg k1,if_pos k2,ysk]
   exact fun v _ hv=>g2 v hv
  ·rw [if_neg k2]
   by_cases k4:kind=4
   ·rw [if_pos k4]
    have hs:e &&& ~~~e=0#32:=by
     apply BitVec.eq_of_getLsbD_eq
     intro u hu
     simp only [BitVec.getLsbD_and,BitVec.getLsbD_not,BitVec.getLsbD_zero]
     cases e.getLsbD u <;> simp
    exact fin e h0 hs (by rw [if_neg k1,if_neg k2,if_pos k4];simp)
   ·rw [if_neg k4]
    exact fin _ w1 w2 (by rw [if_neg k1,if_neg k2,if_neg k4])
end
section
open Go.RowKit
def badH:List (Nat × Option LObj):=[(0,some (.vec [.lp 0 0]))]
theorem zls {P:Program} {N:Nat} {c:Code} {Q:Exit→SS→Prop} {s:SS} (h:s.h 0=some (.vec [.lp 0 0])):A P N c Q s:=by
 intro B ok0 lv a w hs
 obtain ⟨b,n,h1,h2⟩:=hs.inv.obj 0 _ h
 cases b with
 | none=>simp [ygo] at h2
 | some b=>exact absurd (h2.2.2.2 (.lp 0 0) (by simp)) (by simp [yav])
theorem ziq (B:BitVec 32):ywc Tryz.prog 172 [ycb B] (hlook []) (.fn 225 [.lp 1 0]) (hlook [(1,some (.vec [ycb B]))]):=by
 refine yyc tok Tryz.func172 rfl rfl Tryz.ntmps172 Tryz.results172 rfl (fun id o h h2=>?_) ?_
 ·simp only [hlook] at h
  split at h
  ·cases h;cases h2
  ·cases h
 (repeat (first|with_reducible refine ybw ?_|with_reducible refine ybh ?_|refine ybt ?_));refine ydt ?_;refine yci (lf:=lfT) rfl ?_
 (try refine zo ?_)
 refine zt ?_
 refine zqi 1 [ycb B] rfl rfl (by intro y hy;cases List.mem_singleton.1 hy;rfl) ?_
 (try refine zy ?_)
 refine yae ⟨_,rfl,yng _,?_⟩
 exact yaq (yad rfl yak)
theorem zio (B:BitVec 32) (p:Nat):∀ el∈yqs B,el.length=[p].length∧yav.pureL el=true:=by
 intro el h
 obtain ⟨v,_,rfl⟩:=List.mem_map.1 h
 exact ⟨rfl,rfl⟩
theorem zcv {B:BitVec 32} {k:Nat} {el:List AV} (h:(yqs B)[k]?=some el):∃ v:Nat,(ycu B)[k]?=some v∧el=[i64 v]:=by
 unfold yqs at h
 rw [List.getElem?_map] at h
 cases hv:(ycu B)[k]? with
 | none=>rw [hv] at h;cases h
 | some v=>rw [hv] at h;cases h;exact ⟨v,rfl,rfl⟩
theorem zcw (B:BitVec 32):(yqs B).length=(ycu B).length:=by simp [yqs]
def zui (g:GraphD) (s:BitVec 32) (k:Nat):Bool:=((ycu s).take k).all fun v=>(yle g).getD v 0#32 &&& s == 0#32
theorem indK_all {g:GraphD} {s:BitVec 32} (h24:g.ports.length≤24) (hs:InN g.ports.length s):zui g s (ycu s).length=yqo g s:=by
 unfold zui
 rw [List.take_length,Bool.eq_iff_iff,ysk,List.all_eq_true]
 constructor
 ·intro h v hv hb
  simpa using h v (ysx.2 ⟨by omega,hb⟩)
 ·intro h v hv
  obtain ⟨h1,h2⟩:=ysx.1 hv
  have:v < g.ports.length:=Nat.lt_of_not_le fun hge=>by rw [hs v hge] at h2;cases h2
  simpa using h v (by omega) h2
theorem indK_next {g:GraphD} {s:BitVec 32} {k v:Nat} (h:(ycu s)[k]?=some v):zui g s (k+1)=(zui g s k && ((yle g).getD v 0#32 &&& s == 0#32)):=by
 unfold zui;rw [ybj h,List.all_append];simp
theorem indep_con (g:GraphD) (h24:g.ports.length≤24) (s:BitVec 32) (hs:InN g.ports.length s):Con Tryz.prog 222 [zke g,ycb s] (ybq (yqo g s)):=by
 rw [← indK_all h24 hs]
 refine yfy tok Tryz.func222 rfl rfl Tryz.ntmps222 Tryz.results222 rfl rfl ?_
 (repeat (first|refine zy ?_|refine yxm [(1,901)] (ziq s) rfl rfl rfl rfl rfl rfl rfl yak rfl rfl rfl rfl rfl rfl ?_))
 refine zlu 901 rfl (zcy s) (fun _=>rfl) rfl (zio s 8) rfl [(2,.lp 2 0),(3,.lp 3 0),(4,.lp 4 0)] (by exact zs) rfl (fun k=>if zui g s k then [(2,some (.cells [zke g])),(3,some (.cells [ycb s])),(4,some (.cells [ybq false]))] else badH) rfl ?_ ?_ ?_ ?_
 ·rw [if_pos (by rfl)];exact yaq (by exact zh)
 ·split <;> rfl
 ·intro k el hel
  obtain ⟨v,hv,rfl⟩:=zcv hel
  have hin:=ysx.1 (List.mem_of_getElem? hv)
  have hvn:v < g.ports.length:=Nat.lt_of_not_le fun hge=>by rw [hs v hge] at hin;cases hin.2
  obtain ⟨B,hB⟩:=ycg (show v < (yle g).length by rw [yww];exact hvn)
  have hnx:=indK_next (g:=g) hv
  rw [show (yle g).getD v 0#32=B by simp [List.getD_eq_getElem?_getD,hB]] at hnx
  cases hi:zui g s k with
  | false=>exact zls rfl
  | true=>
   simp only [if_true]
   (try refine zy ?_)
   refine ⟨rfl,?_⟩
   (repeat (first|refine ymi tok rfl (by constructor <;> omega) rfl rfl ?_|refine ygr rfl rfl (by omega) rfl rfl ?_|refine ygs rfl rfl (by omega) rfl rfl ?_|refine ymg rfl rfl rfl rfl ?_|refine yfg rfl rfl rfl rfl ?_|refine yhh rfl rfl rfl rfl ?_|refine ybu rfl rfl rfl rfl ?_|refine zI ?_|refine zL ?_|refine zC ?_|refine yes ?_|refine ydt ?_|refine zR ?_|refine zD ?_|refine zK ?_|refine zB ?_|refine zA ?_|refine zS ?_|refine zU ?_|refine zV ?_|refine zF ?_|refine zN ?_|with_reducible refine ybh ?_|with_reducible refine ybw ?_|refine yby ?_|refine ybt ?_|refine yde ?_|refine zT ?_|refine zE ?_|refine zX ?_))
   refine yac rfl (fun h1=>?_) (fun h1=>?_)
   ·(try refine zy ?_)
    refine yae ?_
    rw [ynd] at h1
    refine rndN_ret (hk:=fun _=>[]) (k:=0) [(4,some (.cells [ybq false]))] (by exact zs) (by exact zh) rfl ⟨_,rfl,?_⟩
    refine yag ?_
    have h2:(B &&& s == 0#32)=false:=by simpa [bne] using h1
    rw [h2,Bool.and_false] at hnx
    cases hq:zui g s (ycu s).length with
    | false=>rfl
    | true=>
     have hk:(ycu s)[k]?=some v:=hv
     have:=List.all_eq_true.1 hq v (by rw [List.take_length];exact List.mem_of_getElem? hv)
     rw [show (yle g).getD v 0#32=B by simp [List.getD_eq_getElem?_getD,hB],h2] at this
     exact this
   ·(try refine zy ?_)
    rw [ynd] at h1
    have h2:(B &&& s == 0#32)=true:=by simpa [bne] using h1
    refine zzv (by exact zs) ?_
    rw [hnx,h2,hi,if_pos (by rfl)]
    exact yaq (by exact zh)
 ·rw [zcw]
  cases hi:zui g s (ycu s).length with
  | false=>exact zls rfl
  | true=>
   simp only [if_true]
   (try refine zy ?_)
   refine yae ?_;refine ⟨_,rfl,?_⟩
   exact yag rfl
theorem in24 {n:Nat} (hn:n≤24) {B:BitVec 32} (h:InN n B):ycu B=(List.range 24).filter B.getLsbD:=by
 unfold ycu
 show (List.range (24+8)).filter B.getLsbD=_
 rw [List.range_add,List.filter_append]
 have e:((List.range 8).map fun x=>24+x).filter B.getLsbD=[]:=List.filter_eq_nil_iff.2 fun u hu=>by
  obtain ⟨x,_,rfl⟩:=List.mem_map.1 hu
  rw [h _ (by omega)];simp
 rw [e,List.append_nil]
def zvh (g:GraphD) (w:BitVec 32) (k:Nat):BitVec 32:=((ycu w).take k).foldl (fun B v=>if (yle g).getD v 0#32 &&& B == 0#32 then B ||| (1#32 <<< v) else B) 0#32
theorem grdK_next {g:GraphD} {w:BitVec 32} {k v:Nat} (h:(ycu w)[k]?=some v):zvh g w (k+1)=if (yle g).getD v 0#32 &&& zvh g w k == 0#32 then zvh g w k ||| (1#32 <<< v) else zvh g w k:=by
 unfold zvh;rw [ybj h,List.foldl_append];rfl
theorem grdK_all {g:GraphD} {w:BitVec 32} (h24:g.ports.length≤24) (h:InN g.ports.length w):zvh g w (ycu w).length=yyq g w:=by
 unfold zvh yyq
 rw [List.take_length,in24 h24 h,List.foldl_filter]
 congr 1
 funext B v
 cases w.getLsbD v <;> simp
theorem resolve2_con (g:GraphD) (h24:g.ports.length≤24) (e w:BitVec 32) (he:InN g.ports.length e):Con Tryz.prog 109 [zke g,i64 2,ycb e,ycb w] (ycb (zoi g 2 e w)):=by
 have hres:zoi g 2 e w=yyq g (yiy e w):=rfl
 have hsub:InN g.ports.length (yiy e w):=fun u hu=>by
  unfold yiy
  split
  ·rw [BitVec.getLsbD_and,he u hu];rfl
  ·rw [BitVec.getLsbD_and,he u hu,Bool.and_false]
 rw [hres,← grdK_all h24 hsub]
 refine yao Tryz.func109 rfl rfl Tryz.ntmps109 Tryz.results109 rfl rfl ?_
 (repeat (first|refine yxq tok rfl rfl rfl rfl rfl ?_|refine yxp tok rfl rfl rfl rfl rfl ?_|refine yxo tok rfl rfl rfl rfl ?_|refine ymi tok rfl (by constructor <;> omega) rfl rfl ?_|refine ygr rfl rfl (by omega) rfl rfl ?_|refine ygs rfl rfl (by omega) rfl rfl ?_|refine ymg rfl rfl rfl rfl ?_|refine yfg rfl rfl rfl rfl ?_|refine yhh rfl rfl rfl rfl ?_|refine ybu rfl rfl rfl rfl ?_|refine zI ?_|refine zL ?_|refine zC ?_|refine yes ?_|refine ydt ?_|refine zR ?_|refine zD ?_|refine zK ?_|refine zB ?_|refine zA ?_|refine zS ?_|refine zU ?_|refine zV ?_|refine zF ?_|refine zN ?_|with_reducible refine ybh ?_|with_reducible refine ybw ?_|refine yby ?_|refine ybt ?_|refine yde ?_|refine zT ?_|refine zE ?_|refine zX ?_))
 refine zbk [(3,ycb (yiy e w)),(2,ycb e),(1,i64 2),(4,.lp 4 0)] [(4,some (.cells [zke g]))] ?_ ?_
 ·refine yac rfl (fun h1=>?_) (fun h1=>?_)
  ·rw [yfw] at h1
   have h1:w &&& e=0#32:=by simpa using h1
   (repeat (first|refine yxq tok rfl rfl rfl rfl rfl ?_|refine yxp tok rfl rfl rfl rfl rfl ?_|refine yxo tok rfl rfl rfl rfl ?_|refine ymi tok rfl (by constructor <;> omega) rfl rfl ?_|refine ygr rfl rfl (by omega) rfl rfl ?_|refine ygs rfl rfl (by omega) rfl rfl ?_|refine ymg rfl rfl rfl rfl ?_|refine yfg rfl rfl rfl rfl ?_|refine yhh rfl rfl rfl rfl ?_|refine ybu rfl rfl rfl rfl ?_|refine zI ?_|refine zL ?_|refine zC ?_|refine yes ?_|refine ydt ?_|refine zR ?_|refine zD ?_|refine zK ?_|refine zB ?_|refine zA ?_|refine zS ?_|refine zU ?_|refine zV ?_|refine zF ?_|refine zN ?_|with_reducible refine ybh ?_|with_reducible refine ybw ?_|refine yby ?_|refine ybt ?_|refine yde ?_|refine zT ?_|refine zE ?_|refine zX ?_))
   refine mid (yas (yhe rfl ?_) (by exact zs)) (by exact zh)
   rw [yiy,if_pos h1]
  ·rw [yfw] at h1
   have h1:¬ w &&& e=0#32:=by simpa using h1
   (try refine zy ?_)
   refine mid (yas (yhe rfl ?_) (by exact zs)) (by exact zh)
   rw [yiy,if_neg h1]
 generalize yiy e w=W at hsub
 (repeat (first|refine zy ?_|refine yxm [(1,901)] (ziq W) rfl rfl rfl rfl rfl rfl rfl yak rfl rfl rfl rfl rfl rfl ?_))
 refine zlu 901 rfl (zcy W) (fun _=>rfl) rfl (zio W 31) rfl [(9,.lp 9 0),(4,.lp 4 0)] (by exact zs) rfl (fun k=>[(9,some (.cells [ycb (zvh g W k)])),(4,some (.cells [zke g]))]) rfl (yaq (by exact zh)) rfl ?_ ?_
 ·intro k el hel
  obtain ⟨v,hv,rfl⟩:=zcv hel
  have hin:=ysx.1 (List.mem_of_getElem? hv)
  have hvn:v < g.ports.length:=Nat.lt_of_not_le fun hge=>by rw [hsub v hge] at hin;cases hin.2
  obtain ⟨B,hB⟩:=ycg (show v < (yle g).length by rw [yww];exact hvn)
  have hnx:=grdK_next (g:=g) hv
  rw [show (yle g).getD v 0#32=B by simp [List.getD_eq_getElem?_getD,hB]] at hnx
  (try refine zy ?_)
  refine ⟨rfl,?_⟩
  (repeat (first|refine ymi tok rfl (by constructor <;> omega) rfl rfl ?_|refine ygr rfl rfl (by omega) rfl rfl ?_|refine ygs rfl rfl (by omega) rfl rfl ?_|refine ymg rfl rfl rfl rfl ?_|refine yfg rfl rfl rfl rfl ?_|refine yhh rfl rfl rfl rfl ?_|refine ybu rfl rfl rfl rfl ?_|refine zI ?_|refine zL ?_|refine zC ?_|refine yes ?_|refine ydt ?_|refine zR ?_|refine zD ?_|refine zK ?_|refine zB ?_|refine zA ?_|refine zS ?_|refine zU ?_|refine zV ?_|refine zF ?_|refine zN ?_|with_reducible refine ybh ?_|with_reducible refine ybw ?_|refine yby ?_|refine ybt ?_|refine yde ?_|refine zT ?_|refine zE ?_|refine zX ?_))
  refine yac rfl (fun h1=>?_) (fun h1=>?_)
  ·rw [yfw] at h1
   (repeat (first|refine ymi tok rfl (by constructor <;> omega) rfl rfl ?_|refine ygr rfl rfl (by omega) rfl rfl ?_|refine ygs rfl rfl (by omega) rfl rfl ?_|refine ymg rfl rfl rfl rfl ?_|refine yfg rfl rfl rfl rfl ?_|refine yhh rfl rfl rfl rfl ?_|refine ybu rfl rfl rfl rfl ?_|refine zI ?_|refine zL ?_|refine zC ?_|refine yes ?_|refine ydt ?_|refine zR ?_|refine zD ?_|refine zK ?_|refine zB ?_|refine zA ?_|refine zS ?_|refine zU ?_|refine zV ?_|refine zF ?_|refine zN ?_|with_reducible refine ybh ?_|with_reducible refine ybw ?_|refine yby ?_|refine ybt ?_|refine yde ?_|refine zT ?_|refine zE ?_|refine zX ?_))
   refine zzv (by exact zs) ?_
   rw [hnx,if_pos h1]
   exact yaq (by exact zh)
  ·rw [yfw] at h1
   (try refine zy ?_)
   refine zzv (by exact zs) ?_
   rw [hnx,if_neg (by rw [h1];simp)]
   exact yaq (by exact zh)
 ·rw [zcw]
  (try refine zy ?_)
  refine yae ?_;refine ⟨_,rfl,?_⟩
  exact Frz.pure
theorem dmn_local {p:ProgD} {g:GraphD} (hg:ybs g=true):DmnOk p g 2:=by
 have h24:=(yal hg).2.1
 have hin:∀ d:List (List Int),CfgOk p g d→InN g.ports.length (yll p g d):=fun d hd=>by
  rw [← hd.len];exact zmk (by rw [hd.len];omega)
 exact ⟨by omega,fun d w hd=>resolve2_con g h24 _ w (hin d hd),fun d s hd=>yzp g 2 (by omega) _ s fun _ hs=>indep_con g h24 s (zrz hs (hin d hd))⟩
theorem zrf {p:ProgD} {g:GraphD} (hg:ybs g=true) {kind:Int} (hk:1≤kind∧kind≤4):DmnOk p g kind:=by
 by_cases h:kind=2
 ·subst h;exact dmn_local hg
 ·exact zhc p g kind (by omega)
end
section
open Go.RowKit
section
variable {P:Program} {T:Nat→Option Ty} {N:Nat} {d:Nat}
theorem ybr.turn {o:Oper} {s s1 s2:SS} (h:ybr P N o s (·=s1)) (f:∀ (B:Bse) (ok0:Nat→Prop) (lv:Live) (a:Act) (w:World),Sim B ok0 N s1 lv a w→∃ lv',Sim B ok0 N s2 lv' a w):ybr P N o s (·=s2):=
 fun B ok0 lv a w hs Q=>Oper.wp_mono (fun a w ⟨s',lv',e,hs'⟩=>by
  subst e
  obtain ⟨lv2,h2⟩:=f _ _ _ _ _ hs'
  exact ⟨_,lv2,rfl,h2⟩) (h B ok0 lv a w hs Q)
theorem appF_late (hT:TOK P T) {o:Oper} (id:Nat) {t:Nat→Option AV} {h:List (Nat × Option LObj)} {ti e es eb sz:Nat} {ea ag:Bool} {ez z:List Value} {x y:Operand} {rows:List (List AV)} (hl:∀ x y,t x=some y→yky x []=false→(!ment id y)=true) (ho:o.op=.call { callee:=.builtin .append,args:=#[x,y],argTypes:=#[ti,ti] }) (hd:o.dst=some d) (hdN:Nat.blt d N=true) (hk:T ti=some ⟨.slc e es ea eb ez,sz,ag,z⟩) (hx:evF t x=some (.v (.slice none 0 0))) (hy:evF t y=some (.sl es rows)) (hsz:∀ row∈rows,row.length=es)
  (hcp:∀ c∈rows.flatten,yav c=true) (hlim:rows.length≤4294967296∧rows.length * eb≤140737488355328) (h2:ybp id h=true):ybr P N o ⟨t,hlook h⟩ (·=⟨ydu (yis [] t) (some d) (.sl es rows),hlook h⟩):=by
 have hf0:=ygy (t:=[]) (id:=id) rfl h2
 have hf:ylg (⟨t,hlook h⟩:SS) id:=⟨hf0.1,fun x y hx=>by simpa using hl x y hx rfl,hf0.2.2⟩
 rw [znb]
 refine (yhz hT id ho hd (by simpa using hdN) hk hx hf hy (fun ok w lv u hr=>yvy hr) hcp hlim).turn fun B ok0 lv a w hs=>?_
 obtain ⟨lv',h'⟩:=hs.freeze (d:=d) (id:=id) (xs:=rows.flatten) (rows:=rows) (s':=⟨ydu t (some d) .any,hlook h⟩) (by simp [ydu]) (by simp [yeg]) rfl hsz rfl (fun x y hy=>by
   simp only [ydu] at hy ⊢
   split at hy
   ·cases hy;exact .inl rfl
   ·rename_i hne;rw [if_neg hne];exact .inr hy) (fun x y hy=>by
   simp only [ydu] at hy ⊢
   split at hy
   ·rename_i e;exact ⟨_,if_pos e⟩
   ·rename_i hne;exact ⟨y,by rw [if_neg hne];exact hy⟩) hf.1 (fun j ob hj=>by
   refine ⟨ob,?_,.inl rfl⟩
   have:j≠id:=fun e=>by
    have hj:hlook h j=some ob:=hj
    rw [e,show hlook h id=none from hf.1] at hj;cases hj
   simp only [yeg,this,if_false];exact hj)
 refine ⟨lv',?_⟩
 have e:(⟨ydu (ydu t (some d) .any) (some d) (.sl es rows),hlook h⟩:SS)=⟨ydu t (some d) (.sl es rows),hlook h⟩:=by
  congr 1
  funext x
  simp only [ydu]
  split <;> rfl
 rw [← e];exact h'
end
end
section
open Go.RowKit
def dK (i:Nat→Nat) (c:List (List Int)) (v:Nat):List AV:=(List.range c.length).map fun u=>if i u < v then yah (c.getD (i u) []) else .v (.slice none 0 0)
section
variable {f i:Nat→Nat} {c:List (List Int)}
theorem zhb {v:Nat}:(dK i c v).length=c.length:=by simp [dK]
theorem zve {v u:Nat} (h:u < c.length):(dK i c v)[u]?=some (if i u < v then yah (c.getD (i u) []) else .v (.slice none 0 0)):=by simp [dK,h]
theorem dK_next (R:Ren c.length f i) {v:Nat} {r:List Int} (hr:c[v]?=some r):(dK i c v).set (f v) (yah r)=dK i c (v+1):=by
 have h:=(List.getElem?_eq_some_iff.1 hr).1
 apply List.ext_getElem?
 intro u
 rw [List.getElem?_set,zhb]
 by_cases hu:u < c.length
 ·rw [zve hu,zve hu]
  by_cases e:f v=u
  ·subst e
   rw [if_pos rfl,if_pos (R.lt v h),R.back v h];simp [List.getD_eq_getElem?_getD,hr]
  ·have hne:i u≠v:=fun q=>e (by rw [← q,R.forth u hu])
   have:(i u < v+1)↔i u < v:=by omega
   rw [if_neg e];simp only [this]
 ·have:=R.lt v h
  rw [if_neg (by omega),List.getElem?_eq_none (by rw [zhb];omega),List.getElem?_eq_none (by rw [zhb];omega)]
theorem dK_zero:dK i c 0=List.replicate c.length (.v (.slice none 0 0)):=by
 rw [List.eq_replicate_iff]
 refine ⟨zhb,fun x hx=>?_⟩
 obtain ⟨u,_,rfl⟩:=List.mem_map.1 hx
 simp
theorem dK_fin (R:Ren c.length f i):dK i c c.length=(ytb i c).map yah:=by
 unfold dK ytb renL
 rw [List.map_map]
 refine List.map_congr_left fun u hu=>?_
 have:=R.ilt u (List.mem_range.1 hu)
 simp [this]
end
theorem light_ren {g:GraphD} {f i:Nat→Nat} (h:yjt g=true) (R:Ren g.ports.length f i):yjt (ybz f i g)=true:=by
 obtain ⟨h1,h2,h3⟩:=(ydh g).1 h
 refine (ydh _).2 ⟨by rw [ytd];exact h1,by rw [yhd];exact h2,fun ls hls=>?_⟩
 obtain ⟨x,hx,rfl⟩:=List.mem_map.1 hls
 rw [List.length_map]
 exact h3 x ((zft R).1 hx)
theorem cfg_ren {p:ProgD} {g:GraphD} {c:List (List Int)} {f i:Nat→Nat} (h:CfgOk p g c) (R:Ren g.ports.length f i):CfgOk p (ybz f i g) (ytb i c):=⟨⟨h.fair.pin,h.fair.light,light_ren h.fair.lg R⟩,ren_check h.chk R⟩
theorem zhl {p:ProgD} {g:GraphD} {kind:Int} {ch:Nat→BitVec 32→BitVec 32 × Bool}:∀ (m j:Nat) (S T:RunD),CfgOk p g S.c→yln p g kind ch m j S=some T→CfgOk p g T.c∧T.en.length≤S.en.length+m
 | 0,j,S,T,hS,h=>by
  simp only [yln,Option.some.injEq] at h
  subst h
  exact ⟨hS,by omega⟩
 | m+1,j,S,T,hS,h=>by
  simp only [yln] at h
  split at h
  ·split at h
   ·obtain ⟨h1,h2⟩:=zhl m (j+1) _ T (hS.step _) h
    refine ⟨h1,?_⟩
    simp [zji] at h2
    omega
   ·cases h
  ·simp only [Option.some.injEq] at h
   subst h
   exact ⟨hS,by omega⟩
theorem renum_con (haw:Con Tryz.prog 11 [] (ybq true)) (p:ProgD) (g:GraphD) (kind:Int) (c:List (List Int)) (l:List Int) (ws:List (BitVec 32)) (hin:yhi p):Con Tryz.prog 3 [ytn p,ynl g,i64 kind,yhm c,yah l,ytp ws] (ybq true):=by
 refine yao Tryz.func3 rfl rfl Tryz.ntmps3 Tryz.results3 rfl rfl ?_
 (repeat (first|refine zy ?_|refine yaf rfl rfl (tfair_con p g c ws.length hin) rfl rfl ?_))
 refine yay 32 rfl (fun h1=>?_) (fun h1=>?_)
 ·(repeat (first|refine zy ?_|refine yaf rfl rfl haw rfl rfl ?_))
  refine yae ?_;refine ⟨_,rfl,?_⟩
  exact Frz.pure
 have h1:yyh p g c ws.length=true:=by simpa using h1
 obtain ⟨hc,hws,_⟩:=fairT_ok hin h1
 (repeat (first|refine zy ?_|refine yaf rfl rfl (rooted_con p (fairT_light h1)) rfl rfl ?_))
 refine yay 36 rfl (fun h2=>?_) (fun h2=>?_)
 ·(repeat (first|refine zy ?_|refine yaf rfl rfl haw rfl rfl ?_))
  refine yae ?_;refine ⟨_,rfl,?_⟩
  exact Frz.pure
 have h2:zte p=false:=by simpa using h2
 have h24:=hc.n24
 (repeat (first|refine zy ?_|refine yaf rfl rfl (rperm_con l g.ports.length (by omega)) rfl rfl ?_))
 refine yac rfl (fun h3=>?_) (fun h3=>?_)
 ·(repeat (first|refine zy ?_|refine yaf rfl rfl haw rfl rfl ?_))
  refine yae ?_;refine ⟨_,rfl,?_⟩
  exact Frz.pure
 have h3:zbh l g.ports.length=true:=by simpa using h3
 have R:=zfm h3
 have hcl:=hc.len
 have hmod:=mod_con kind 4 (by omega)
 have hmb:=modI_bd (a:=kind) (b:=4) (by omega)
 generalize zwx kind 4=m at hmod hmb
 have hD:=zrf (p:=p) hc.graph (kind:=1+m) (by omega)
 have hc':=cfg_ren hc R
 have hD':=zrf (p:=p) hc'.graph (kind:=1+m) (by omega)
 (repeat (first|refine zy ?_|refine yaf rfl rfl hmod rfl rfl ?_|refine yaf rfl rfl (relabel_con g hc.graph hc.fair.lg l h3) rfl rfl ?_|refine zbm tok rfl rfl rfl rfl (by constructor <;> omega) rfl rfl rfl rfl rfl ?_))
 have hz:yna c.length (ykq [Value.slice none 0 0])=dK (ygq l) c 0:=by
  rw [show ykq [Value.slice none 0 0]=[.v (.slice none 0 0)] from rfl,zvu,dK_zero]
 obtain ⟨hlen,hpin,hnd⟩:=of_decide_eq_true h3
 have Rc:Ren c.length (yig l) (ygq l):=by rw [hcl];exact R
 refine ygb (α:=Nat) (fun v=>[(16,i64 v),(15,.ls 56 1 c.length),(14,i64 0),(13,.lp 13 0),(2,i64 (1+m)),(3,yhm c),(4,yah l),(5,ytp ws),(6,.lp 6 0),(7,.lp 7 0)]) (fun v=>(56,some (.vec (dK (ygq l) c v)))::[(13,some (.cells [yah (ybz (yig l) (ygq l) g).ids,yau (ybz (yig l) (ygq l) g).ports])),(6,some (.cells [zdp p.name,.sl 6 (p.vars.map ydj),.sl 3 (p.rules.map ydo)])),(7,some (.cells [yah g.ids,yau g.ports]))]) (fun v=>c.length - v) (fun v=>v≤c.length) 0 (by omega) (by exact zs) (yaq (yad (by rw [← hz];rfl) (yad rfl (yad rfl (yad rfl yak))))) ?_
 intro v hv
 (try refine zy ?_)
 refine yac rfl (fun q1=>?_) (fun q1=>?_)
 ·simp at q1
  obtain ⟨r,hr⟩:=ycg q1
  obtain ⟨x,hx⟩:=ycg (show v < l.length by omega)
  have hx0:=hpin x (List.mem_of_getElem? hx)
  obtain ⟨w,rfl⟩:∃ w:Nat,x=w:=⟨x.toNat,by omega⟩
  have hw:yig l v=w:=by simp [yig,List.getD_eq_getElem?_getD,hx]
  have hrl:=hc.rowlen r (List.mem_of_getElem? hr)
  have h6:=hc.vars6
  have hnx:=dK_next Rc hr
  rw [hw] at hnx
  (try refine zw ?_)
  have hix:((l.map fun z:Int=>[i64 z])[(v:Int).toNat]?)=some [i64 w]:=by rw [Int.toNat_natCast,List.getElem?_map,hx];rfl
  refine ycv (lf:=lf0) yzi rfl ?_
  refine ymk [5,6,7,8] 8 (yaa rfl (yaa rfl (yaa rfl (yaa rfl ybb)))) rfl (by kernel_rfl) ?_
  (try refine zo ?_)
  refine yrz tok (fun y=>!ment 900 y) [(0,63,.ls 56 1 c.length),(1,64,yah l),(2,65,i64 v),(3,66,.dp [i64 w] 0),(4,67,i64 w)] 9 72 [] (yah r) (req:=[(15,.ls 56 1 c.length),(4,yah l),(16,i64 v)]) 2 rfl (by kernel_rfl) rfl rfl rfl (by kernel_rfl) (by kernel_rfl) rfl ⟨⟨rfl,rfl,rfl⟩,⟨rfl,rfl,rfl⟩,⟨rfl,rfl,rfl⟩,trivial⟩ rfl
   ⟨⟨_,[(15,.ls 56 1 c.length),(4,yah l),(16,i64 v)],rfl,rfl,rfl,by kernel_rfl,by kernel_rfl,by kernel_rfl,by kernel_rfl,rfl,rfl,rfl⟩,⟨_,[(15,.ls 56 1 c.length),(4,yah l),(16,i64 v)],rfl,rfl,rfl,by kernel_rfl,by kernel_rfl,by kernel_rfl,by kernel_rfl,rfl,rfl,rfl⟩,⟨_,[(15,.ls 56 1 c.length),(4,yah l),(16,i64 v)],rfl,rfl,rfl,by kernel_rfl,by kernel_rfl,by kernel_rfl,by kernel_rfl,rfl,rfl,rfl⟩,
    ⟨_,[(64,yah l),(65,i64 v),(15,.ls 56 1 c.length),(4,yah l),(16,i64 v)],rfl,rfl,rfl,by kernel_rfl,ync rfl rfl rfl (by omega) hix,ync rfl rfl rfl (by omega) hix,by kernel_rfl,rfl,rfl,rfl⟩,⟨_,[(64,yah l),(65,i64 v),(66,.dp [i64 w] 0),(15,.ls 56 1 c.length),(4,yah l),(16,i64 v)],rfl,rfl,rfl,by kernel_rfl,by kernel_rfl,by kernel_rfl,by kernel_rfl,rfl,rfl,rfl⟩,trivial⟩ rfl rfl rfl
   (fun t ht hl=>appF_late tok 900 hl rfl rfl rfl rfl rfl (ht 71 _ rfl) (by intro row hrow;obtain ⟨z,_,rfl⟩:=List.mem_map.1 hrow;rfl) (by intro z hz;obtain ⟨row,hrow,hz⟩:=List.mem_flatten.1 hz;obtain ⟨y,_,rfl⟩:=List.mem_map.1 hrow;cases List.mem_singleton.1 hz;rfl) (by constructor <;> simp <;> omega) rfl) ?_
  refine ycj [10,11] (yaa rfl (yaa rfl ybb)) rfl (by kernel_rfl) ?_
  (repeat (first|refine zo ?_|refine ybv tok rfl rfl rfl rfl (by omega) (by omega) rfl rfl ?_))
  refine ymh tok rfl rfl rfl rfl rfl rfl (by rw [zhb];have:=Rc.lt v q1;omega) rfl (congrArg (fun z=>hlook ((56,some (LObj.vec z))::_)) (show _=dK (ygq l) c (v+1) by rw [show ((w:Int).toNat * 1)=w by simp];exact hnx)) rfl rfl ?_
  (try refine zy ?_)
  exact zae (v+1) (by omega) (by omega) (by exact zs) (yaq (yad rfl (yad rfl (yad rfl (yad rfl yak)))))
 simp at q1
 obtain rfl:v=c.length:=by omega
 (repeat (first|with_reducible refine ybw ?_|with_reducible refine ybh ?_|refine ybt ?_))
 rw [dK_fin Rc]
 refine zgl (f:=yah) (l:=ytb (ygq l) c) 15 rfl ypu.symm rfl rfl ?_
 obtain ⟨T,hT,hTl,hTc,hU⟩:=foll_ren hc.prog h2 hc.graph R (1+m) ws (fun e w he h0=>res_ok hc.graph (1+m) e w he h0) hcl
 have hfo:=yzw hc hD ws (by omega)
 rw [hT] at hfo
 (repeat (first|refine zy ?_|refine yaf rfl rfl hfo rfl rfl ?_))
 refine A_own 19 901 1 rfl rfl rfl ?_
 have hTn:T.ch.length≤40:=by omega
 obtain ⟨hTok,hTe⟩:=zhl _ _ _ T hc hT
 have hTe:T.en.length≤41:=by simp [zll] at hTe;omega
 refine ygb (α:=Nat) (fun k=>[(20,i64 k),(19,.ls 901 1 k),(18,i64 0),(17,.lp 17 0),(15,yhm (ytb (ygq l) c)),(14,i64 0),(13,.lp 13 0),(2,i64 (1+m)),(3,yhm c),(4,yah l),(6,.lp 6 0),(7,.lp 7 0)]) (fun k=>[(901,some (.vec (((T.ch.take k).map (yin (ygq l) g.ports.length)).map ycb))),(17,some (.cells ([ytp T.ch,ytp T.en,yhm T.c]++ykg T.k))),(13,some (.cells [yah (ybz (yig l) (ygq l) g).ids,yau (ybz (yig l) (ygq l) g).ports])),(6,some (.cells [zdp p.name,.sl 6 (p.vars.map ydj),.sl 3 (p.rules.map ydo)])),(7,some (.cells [yah g.ids,yau g.ports]))]) (fun k=>T.ch.length - k) (fun k=>k≤T.ch.length) 0 (by omega) (by exact zs) (yaq (yad rfl (yad rfl (yad rfl (yad rfl (yad rfl yak)))))) ?_
 intro k hk
 (try refine zy ?_)
 refine yac rfl (fun q2=>?_) (fun q2=>?_)
 ·simp at q2
  obtain ⟨B,hB⟩:=ycg q2
  (repeat (first|refine zy ?_|refine yaf rfl rfl (yum B l g.ports.length h24 h3) rfl rfl ?_|refine zea tok rfl rfl rfl (by simp;omega) rfl (by simp [yav]) (by simp;omega) rfl rfl rfl rfl rfl ?_))
  refine zae (k+1) (by omega) (by omega) (by exact zs) (yaq (yad ?_ (yad rfl (yad rfl (yad rfl (yad rfl yak))))))
  show some _=some _
  rw [ybj hB];simp;rfl
 simp at q2
 obtain rfl:k=T.ch.length:=by omega
 (repeat (first|with_reducible refine ybw ?_|with_reducible refine ybh ?_|refine ybt ?_))
 rw [List.take_length]
 refine zgl (f:=ycb) (l:=T.ch.map (yin (ygq l) g.ports.length)) 19 rfl (by rw [List.length_map]) rfl rfl ?_
 have hpl:=rPlay_con hc' hD' (T.ch.map (yin (ygq l) g.ports.length)) (by rw [List.length_map];omega)
 rw [hU] at hpl
 (repeat (first|refine zy ?_|refine yaf rfl rfl hpl rfl rfl ?_))
 refine yay 128 rfl (fun q3=>?_) (fun q3=>?_)
 ·simp [zof] at q3
 (try refine zy ?_)
 refine yay 136 rfl (fun q4=>?_) (fun q4=>?_)
 ·simp [hTc,hcl] at q4
 (try refine zy ?_)
 refine yac rfl (fun q5=>?_) (fun q5=>?_)
 ·simp [zof,ypu,hTc,hcl] at q5
 (try refine zy ?_)
 obtain ⟨U,hUe⟩:∃ U,U=zof (ygq l) g.ports.length T:=⟨_,rfl⟩
 rw [← hUe]
 refine ygb (α:=Nat) (fun k=>[(23,i64 k),(21,.lp 21 0),(17,.lp 17 0),(3,yhm c),(4,yah l)]) (fun k=>[(21,some (.cells ([ytp U.ch,ytp U.en,yhm U.c]++ykg U.k))),(17,some (.cells ([ytp T.ch,ytp T.en,yhm T.c]++ykg T.k)))]) (fun k=>T.en.length - k) (fun k=>k≤T.en.length) 0 (by omega) (by exact zs) (yaq (by exact zh)) ?_
 intro k hk
 (try refine zy ?_)
 refine yac rfl (fun q6=>?_) (fun q6=>?_)
 ·simp at q6
  obtain ⟨B,hB⟩:=ycg q6
  have hB':U.en[k]?=some (yin (ygq l) g.ports.length B):=by rw [hUe];simp [zof,hB]
  (repeat (first|refine zy ?_|refine yaf rfl rfl (yum B l g.ports.length h24 h3) rfl rfl ?_))
  refine yac rfl (fun q7=>?_) (fun q7=>?_)
  ·rw [ztu] at q7;simp at q7
  (try refine zy ?_)
  exact zae (k+1) (by omega) (by omega) (by exact zs) (yaq (by exact zh))
 (try refine zy ?_)
 refine ygb (α:=Nat) (fun k=>[(24,i64 k),(21,.lp 21 0),(17,.lp 17 0),(3,yhm c),(4,yah l)]) (fun k=>[(21,some (.cells ([ytp U.ch,ytp U.en,yhm U.c]++ykg U.k))),(17,some (.cells ([ytp T.ch,ytp T.en,yhm T.c]++ykg T.k)))]) (fun k=>c.length - k) (fun k=>k≤c.length) 0 (by omega) (by exact zs) (yaq (by exact zh)) ?_
 intro k hk
 (try refine zy ?_)
 refine yac rfl (fun q8=>?_) (fun q8=>?_)
 ·simp at q8
  obtain ⟨r,hr⟩:=ycg (show k < T.c.length by omega)
  obtain ⟨x,hx⟩:=ycg (show k < l.length by omega)
  have hx0:=hpin x (List.mem_of_getElem? hx)
  obtain ⟨w,rfl⟩:∃ w:Nat,x=w:=⟨x.toNat,by omega⟩
  have hw:yig l k=w:=by simp [yig,List.getD_eq_getElem?_getD,hx]
  have hr':U.c[w]?=some r:=by rw [hUe,← hw];exact yus hTc R hr
  (repeat (first|refine zy ?_|refine yaf rfl rfl (sameInts_con r r (by have:=hTok.rowlen r (List.mem_of_getElem? hr);have:=hc.vars6;omega)) rfl rfl ?_))
  refine yac rfl (fun q9=>?_) (fun q9=>?_)
  ·simp at q9
  (try refine zy ?_)
  exact zae (k+1) (by omega) (by omega) (by exact zs) (yaq (by exact zh))
 (repeat (first|refine zy ?_|refine yaf rfl rfl haw rfl rfl ?_))
 have e1:U.k.rounds=T.k.rounds:=by rw [hUe];rfl
 have e2:U.k.moves=T.k.moves:=by rw [hUe];rfl
 have e3:U.k.pend=yin (ygq l) g.ports.length T.k.pend:=by rw [hUe];rfl
 refine yay 195 rfl (fun q10=>?_) (fun q10=>?_)
 ·(try refine zy ?_)
  refine yay 204 rfl (fun q11=>?_) (fun q11=>?_)
  ·(repeat (first|refine zy ?_|refine yaf rfl rfl (yum T.k.pend l g.ports.length h24 h3) rfl rfl ?_))
   refine yae ?_;refine ⟨_,rfl,?_⟩
   rw [e3,zgg]
   exact yag (by simp)
  ·simp [e2] at q11
 ·simp [e1] at q10
end
section
open Go.RowKit
abbrev TL:=List (Nat × AV)
abbrev HL:=List (Nat × Option LObj)
def yli (p:AV→Bool):List Nat→TL→TL
 | _,[]=>[]
 | seen,(s,x)::r=>match yky s seen with
  | true=>yli p seen r
  | false=>match p x with
   | true=>(s,x)::yli p (s::seen) r
   | false=>yli p (s::seen) r
theorem yya {p:AV→Bool}:∀ {t:TL} {seen:List Nat} {s:Nat} {x:AV},(s,x)∈yli p seen t→yky s seen=false∧look t s=some x
 | [],seen,s,x,h=>by simp [yli] at h
 | (k,y)::r,seen,s,x,h=>by
  simp only [yli] at h
  split at h
  ·rename_i hm
   obtain ⟨h1,h2⟩:=yya h
   refine ⟨h1,?_⟩
   simp only [look]
   cases hb:Nat.beq s k with
   | true=>rw [Nat.eq_of_beq_eq_true hb,hm] at h1;cases h1
   | false=>exact h2
  ·rename_i hm
   have key:(s,x)∈yli p (k::seen) r→yky s seen=false∧look ((k,y)::r) s=some x:=fun h=>by
    obtain ⟨h1,h2⟩:=yya h
    simp only [yky] at h1
    cases hb:Nat.beq s k with
    | true=>rw [hb] at h1;cases h1
    | false=>rw [hb] at h1;exact ⟨h1,by simp only [look,hb];exact h2⟩
   split at h
   ·rcases List.mem_cons.1 h with e|h
    ·cases e
     exact ⟨hm,by simp [look]⟩
    ·exact key h
   ·exact key h
theorem zop {t:TL}:∀ {l:TL},(∀ s x,(s,x)∈l→look t s=some x)→zbc t l
 | [],_=>trivial
 | (s,x)::l,h=>⟨h s x List.mem_cons_self,zop fun s' x' hm=>h s' x' (List.mem_cons_of_mem _ hm)⟩
theorem zbx (p:AV→Bool) (t:TL):zbc t (yli p [] t):=zop fun s x h=>(yya h).2
def yjn (p:Nat→LObj→Bool):List Nat→HL→HL
 | _,[]=>[]
 | seen,(s,x)::r=>match yky s seen with
  | true=>yjn p seen r
  | false=>match x with
   | none=>yjn p (s::seen) r
   | some o=>match p s o with
    | true=>(s,some o)::yjn p (s::seen) r
    | false=>yjn p (s::seen) r
theorem yoe {p:Nat→LObj→Bool}:∀ {t:HL} {seen:List Nat} {s:Nat} {x:Option LObj},(s,x)∈yjn p seen t→yky s seen=false∧hlook t s=x
 | [],seen,s,x,h=>by simp [yjn] at h
 | (k,y)::r,seen,s,x,h=>by
  simp only [yjn] at h
  split at h
  ·rename_i hm
   obtain ⟨h1,h2⟩:=yoe h
   refine ⟨h1,?_⟩
   simp only [hlook]
   cases hb:Nat.beq s k with
   | true=>rw [Nat.eq_of_beq_eq_true hb,hm] at h1;cases h1
   | false=>exact h2
  ·rename_i hm
   have key:(s,x)∈yjn p (k::seen) r→yky s seen=false∧hlook ((k,y)::r) s=x:=fun h=>by
    obtain ⟨h1,h2⟩:=yoe h
    simp only [yky] at h1
    cases hb:Nat.beq s k with
    | true=>rw [hb] at h1;cases h1
    | false=>rw [hb] at h1;exact ⟨h1,by simp only [hlook,hb];exact h2⟩
   split at h
   ·exact key h
   ·split at h
    ·rcases List.mem_cons.1 h with e|h
     ·cases e
      exact ⟨hm,by simp [hlook]⟩
     ·exact key h
    ·exact key h
theorem zoo {t:HL}:∀ {l:HL},(∀ s x,(s,x)∈l→hlook t s=x)→yuy t l
 | [],_=>trivial
 | (s,x)::l,h=>⟨fun o ho=>by rw [h s x List.mem_cons_self,ho],zoo fun s' x' hm=>h s' x' (List.mem_cons_of_mem _ hm)⟩
theorem zbw (p:Nat→LObj→Bool) (t:HL):yuy t (yjn p [] t):=zoo fun s x h=>(yoe h).2
def ywe (d:Nat) (t:TL):TL:=yli (fun x=>!ment d x) [] t
def zlf (d:Nat) (h:HL):HL:=yjn (fun i o=>!Nat.beq d i && !yfr d o) [] h
theorem zfl (d:Nat) (t:TL) (h:HL):Sub (S (ywe d t) (zlf d h)) (S t h):=⟨yco (zbx _ t),yaq (zbw _ h)⟩
section
variable {P:Program} {T:Nat→Option Ty} {N:Nat} {ops:Array Oper} {lf:Oper→Bool} {Q:SS→Prop} {t:TL} {h:HL} {rest:List Oper} {op:Op} {ty:TypeId} {pos:String} {af:Array Edge} {gd:Option (Nat × Bool)} {r:AV}
theorem ybr.pre {o:Oper} {s s1:SS} {R:SS→Prop} (h:ybr P N o s1 R) (hs:Sub s1 s):ybr P N o s R:=fun B ok0 lv a w hi Q=>by
 obtain ⟨lv',hi'⟩:=hi.weak hs
 exact h B ok0 lv' a w hi' Q
def zzq (T:Nat→Option Ty) (t:TL) (h:HL) (ti:Nat) (x y:Operand):Option AV:=
 match T ti with
 | some ⟨.slc _ es _ _ _,_,_,_⟩=>match evF (look t) y with
  | some (.v (.int _ (.ofNat m)))=>match evF (look t) x with
   | some (.sl es' rows)=>match Nat.beq es' es with
    | true=>match rows[m]? with
     | some row=>some (.dp row 0)
     | none=>none
    | false=>none
   | some (.ls id es' len)=>match Nat.beq es' es && Nat.blt m len with
    | true=>match hlook h id with
     | some _=>some (.lp id (m * es))
     | none=>none
    | false=>none
   | _=>none
  | _=>none
 | _=>none
theorem idxC_ok (hT:TOK P T) {ti:Nat} {x y:Operand} (hr:zzq T t h ti x y=some r):ybo P (hlook h) (evF (look t)) (.indexAddr ti x y) ty r:=by
 unfold zzq at hr
 split at hr
 ·rename_i e es ea eb ez sz ag z hk
  split at hr
  ·rename_i k m hy
   split at hr
   ·rename_i es' rows hx
    split at hr
    ·rename_i hb
     split at hr
     ·rename_i row hrow
      simp only [Option.some.injEq] at hr
      subst hr
      obtain rfl:=Nat.eq_of_beq_eq_true hb
      exact ylc (hT _ _ hk).2.2 hx hy (by simp) (by simpa using hrow)
     ·cases hr
    ·cases hr
   ·rename_i id es' len hx
    split at hr
    ·rename_i hb
     simp only [Bool.and_eq_true] at hb
     split at hr
     ·rename_i ob hh
      simp only [Option.some.injEq] at hr
      subst hr
      obtain rfl:=Nat.eq_of_beq_eq_true hb.1
      exact yqw (hT _ _ hk).2.2 hx hh hy (by simp) (by simpa [Nat.blt_eq] using hb.2)
     ·cases hr
    ·cases hr
   ·cases hr
  ·cases hr
 ·cases hr
end
end
section
open Go.RowKit
section
variable {P:Program} {T:Nat→Option Ty} {N:Nat} {ops:Array Oper} {lf:Oper→Bool} {Q:SS→Prop} {t:TL} {h:HL} {rest:List Oper} {op:Op} {ty:TypeId} {pos:String} {af:Array Edge} {gd:Option (Nat × Bool)} {r:AV}
def ztn (T:Nat→Option Ty) (t:TL) (ti:Nat) (x:Operand) (lo hi:Option Operand):Option AV:=
 match ysc (evF (look t)) lo,ysc (evF (look t)) hi with
 | some bl,some bh=>match evF (look t) x with
  | some (.v (.string s))=>match T ti with
   | some ⟨.string,_,_,_⟩=>match decide (0≤bl.getD 0) && (decide (bl.getD 0≤bh.getD s.size) && decide (bh.getD s.size≤s.size)) with
    | true=>some (.v (.string (s.extract (bl.getD 0).toNat (bh.getD s.size).toNat)))
    | false=>none
   | _=>none
  | some (.sl es' rows)=>match T ti with
   | some ⟨.slc _ es _ _ _,_,_,_⟩=>match Nat.beq es' es && (decide (0≤bl.getD 0) && (decide (bl.getD 0≤bh.getD rows.length) && decide (bh.getD rows.length≤rows.length))) with
    | true=>some (.sl es ((rows.take (bh.getD rows.length).toNat).drop (bl.getD 0).toNat))
    | false=>none
   | _=>none
  | _=>none
 | _,_=>none
theorem sliceC_ok (hT:TOK P T) {ti:Nat} {x:Operand} {lo hi:Option Operand} (hr:ztn T t ti x lo hi=some r):ybo P (hlook h) (evF (look t)) (.slice ti x lo hi none) ty r:=by
 unfold ztn at hr
 split at hr
 ·rename_i bl bh h1 h2
  split at hr
  ·rename_i s hx
   split at hr
   ·rename_i sz ag z hk
    split at hr
    ·rename_i hb
     simp only [Option.some.injEq] at hr
     subst hr
     simp only [Bool.and_eq_true,decide_eq_true_eq] at hb
     exact yield_sslice (hT _ _ hk).2.2 hx h1 h2 hb.1 hb.2.1 hb.2.2
    ·cases hr
   ·cases hr
  ·rename_i es' rows hx
   split at hr
   ·rename_i e es ea eb ez sz ag z hk
    split at hr
    ·rename_i hb
     simp only [Option.some.injEq] at hr
     subst hr
     simp only [Bool.and_eq_true,decide_eq_true_eq] at hb
     obtain rfl:=Nat.eq_of_beq_eq_true hb.1
     exact yield_slslice (hT _ _ hk).2.2 hx h1 h2 hb.2.1 hb.2.2.1 hb.2.2.2
    ·cases hr
   ·cases hr
  ·cases hr
 ·cases hr
def zxe (T:Nat→Option Ty) (t:TL) (ti:Nat) (x y:Operand):Option AV:=
 match T ti with
 | some ⟨.string,_,_,_⟩=>match evF (look t) x with
  | some (.v (.string s))=>match evF (look t) y with
   | some (.v (.int _ (.ofNat m)))=>match s[m]? with
    | some b=>some (.v (.int .u8 b.toNat))
    | none=>none
   | _=>none
  | _=>none
 | _=>none
theorem sidxC_ok (hT:TOK P T) {ti:Nat} {x y:Operand} (hr:zxe T t ti x y=some r):ybo P (hlook h) (evF (look t)) (.index ti x y) ty r:=by
 unfold zxe at hr
 split at hr
 ·rename_i sz ag z hk
  split at hr
  ·rename_i s hx
   split at hr
   ·rename_i k m hy
    split at hr
    ·rename_i b hb
     simp only [Option.some.injEq] at hr
     subst hr
     exact ywb (hT _ _ hk).2.2 hx hy (by simp) (by simpa using hb)
    ·cases hr
   ·cases hr
  ·cases hr
 ·cases hr
def zqy (T:Nat→Option Ty) (t:TL) (ti:Nat) (parts:List (Nat × Operand)):Option AV:=
 match T ti with
 | some y=>match y.zero.all Value.oneCell' with
  | true=>match evP (evF (look t)) parts with
   | some ps=>zgw T ti ps
   | none=>none
  | false=>none
 | none=>none
theorem buildX_ok (hT:TOK P T) {ti:Nat} {parts:List (Nat × Operand)} (hr:zqy T t ti parts=some r):ybo P (hlook h) (evF (look t)) (.build ti parts.toArray) ty r:=by
 unfold zqy at hr
 split at hr
 ·rename_i y hy
  split at hr
  ·rename_i hone
   split at hr
   ·rename_i ps hps
    exact zay hT hy hone hps hr
   ·cases hr
  ·cases hr
 ·cases hr
def zkp (T:Nat→Option Ty) (t:TL) (ti len:Nat) (parts:List (Nat × Operand)):Option AV:=
 match T ti with
 | some ⟨.slc _ es _ _ ez,_,_,_⟩=>match ez.all Value.oneCell' && Nat.ble (len * es) 16777216 with
  | true=>match evP (evF (look t)) parts with
   | some ps=>match ywd (fun i=>some (i * es,es)) (yna len (ykq ez)) ps with
    | some ys=>match yav.pureL ys with
     | true=>match yod es len ys with
      | some rows=>some (.sl es rows)
      | none=>none
     | false=>none
    | none=>none
   | none=>none
  | false=>none
 | _=>none
theorem buildSX_ok (hT:TOK P T) {ti len:Nat} {parts:List (Nat × Operand)} (hr:zkp T t ti len parts=some r):ybo P (hlook h) (evF (look t)) (.buildSlice ti len parts.toArray) ty r:=by
 unfold zkp at hr
 split at hr
 ·rename_i e es ea eb ez sz ag z hk
  split at hr
  ·rename_i hb
   simp only [Bool.and_eq_true] at hb
   split at hr
   ·rename_i ps hps
    split at hr
    ·rename_i ys hf
     split at hr
     ·rename_i hpu
      split at hr
      ·rename_i rows hch
       simp only [Option.some.injEq] at hr
       subst hr
       exact yno hT hk hb.1 hps hf hpu hch hb.2
      ·cases hr
     ·cases hr
    ·cases hr
   ·cases hr
  ·cases hr
 ·cases hr
def zzt (t:TL) (h:HL) (x:Operand):Option AV:=
 match evF (look t) x with
 | some (.lp id off)=>match yqj (hlook h id) with
  | some _=>some (.lp id off)
  | none=>none
 | some (.dp row off)=>some (.dp row off)
 | _=>none
theorem nilX_ok {x:Operand} (hr:zzt t h x=some r):ybo P (hlook h) (evF (look t)) (.nilCheck x) ty r:=by
 unfold zzt at hr
 split at hr
 ·rename_i id off hx
  split at hr
  ·rename_i xs hh
   simp only [Option.some.injEq] at hr
   subst hr
   exact yld hx hh
  ·cases hr
 ·rename_i row off hx
  simp only [Option.some.injEq] at hr
  subst hr
  exact ykd hx
 ·cases hr
def fnX (t:TL) (f:Nat) (caps:List Operand):Option AV:=
 match evL (evF (look t)) caps with
 | some xs=>some (.fn f xs)
 | none=>none
theorem fnX_ok {f:Nat} {caps:List Operand} (hr:fnX t f caps=some r):ybo P (hlook h) (evF (look t)) (.makeFunc (.func f) #[] caps.toArray) ty r:=by
 unfold fnX at hr
 split at hr
 ·rename_i xs hx
  simp only [Option.some.injEq] at hr
  subst hr
  exact yqx hx
 ·cases hr
def fmX (t:TL) (f:Nat) (first:List Operand):Option AV:=
 match evL (evF (look t)) first with
 | some xs=>some (.fm f xs)
 | none=>none
theorem fmX_ok {f:Nat} {first:List Operand} (hr:fmX t f first=some r):ybo P (hlook h) (evF (look t)) (.makeFunc (.func f) first.toArray #[]) ty r:=by
 unfold fmX at hr
 split at hr
 ·rename_i xs hx
  simp only [Option.some.injEq] at hr
  subst hr
  exact yield_makeMeth hx
 ·cases hr
def zwq (T:Nat→Option Ty) (t:TL) (h:HL) (op:Op) (ty:TypeId):Option AV:=
 match op with
 | .indexAddr ti x y=>match zzq T t h ti x y with
  | some r=>some r
  | none=>yqd T t h (.indexAddr ti x y) ty
 | .slice ti x lo hi none=>ztn T t ti x lo hi
 | .index ti x y=>zxe T t ti x y
 | .build ti ⟨parts⟩=>zqy T t ti parts
 | .buildSlice ti len ⟨parts⟩=>zkp T t ti len parts
 | .nilCheck x=>zzt t h x
 | .makeFunc (.func f) ⟨[]⟩ ⟨caps⟩=>fnX t f caps
 | .makeFunc (.func f) ⟨first⟩ ⟨[]⟩=>fmX t f first
 | op=>yqd T t h op ty
theorem calmX_ok (hT:TOK P T) (hr:zwq T t h op ty=some r):ybo P (hlook h) (evF (look t)) op ty r:=by
 unfold zwq at hr
 split at hr
 ·split at hr
  ·rename_i r' h1
   simp only [Option.some.injEq] at hr
   subst hr
   exact idxC_ok hT h1
  ·exact yka hT hr
 ·exact sliceC_ok hT hr
 ·exact sidxC_ok hT hr
 ·exact buildX_ok hT hr
 ·exact buildSX_ok hT hr
 ·exact nilX_ok hr
 ·exact fnX_ok hr
 ·exact fmX_ok hr
 ·exact yka hT hr
end
end
section
open Go.RowKit
section
variable {P:Program} {T:Nat→Option Ty} {N:Nat} {ops:Array Oper} {lf:Oper→Bool} {Q:SS→Prop} {t t':TL} {h h':HL} {rest:List Oper} {d:Nat} {op:Op} {ty:TypeId} {pos:String} {af:Array Edge} {gd:Option (Nat × Bool)} {r:AV}
theorem zch {d:Nat}:∀ {l:TL},(∀ s x,(s,x)∈l→ment d x=false)→ydg d l=true
 | [],_=>rfl
 | (s,x)::l,h=>by
  simp only [ydg,h s x List.mem_cons_self]
  exact zch fun s' x' hm=>h s' x' (List.mem_cons_of_mem _ hm)
theorem zcf {d:Nat}:∀ {l:HL},(∀ s x,(s,x)∈l→Nat.beq d s=false∧∀ o,x=some o→yfr d o=false)→ybp d l=true
 | [],_=>rfl
 | (s,x)::l,h=>by
  obtain ⟨h1,h2⟩:=h s x List.mem_cons_self
  have h3:=zcf fun s' x' hm=>h s' x' (List.mem_cons_of_mem _ hm)
  simp only [ybp,h1]
  cases x with
  | none=>exact h3
  | some o=>simp only [h2 o rfl];exact h3
theorem ywm {p:AV→Bool}:∀ {t:TL} {seen:List Nat} {s:Nat} {x:AV},(s,x)∈yli p seen t→p x=true
 | [],seen,s,x,h=>by simp [yli] at h
 | (k,y)::r,seen,s,x,h=>by
  simp only [yli] at h
  split at h
  ·exact ywm h
  ·split at h
   ·rename_i hp
    rcases List.mem_cons.1 h with e|h
    ·cases e;exact hp
    ·exact ywm h
   ·exact ywm h
theorem ypg {p:Nat→LObj→Bool}:∀ {t:HL} {seen:List Nat} {s:Nat} {x:Option LObj},(s,x)∈yjn p seen t→∃ o,x=some o∧p s o=true
 | [],seen,s,x,h=>by simp [yjn] at h
 | (k,y)::r,seen,s,x,h=>by
  simp only [yjn] at h
  split at h
  ·exact ypg h
  ·split at h
   ·exact ypg h
   ·split at h
    ·rename_i hp
     rcases List.mem_cons.1 h with e|h
     ·cases e;exact ⟨_,rfl,hp⟩
     ·exact ypg h
    ·exact ypg h
theorem off_freshT (d:Nat) (t:TL):ydg d (ywe d t)=true:=zch fun s x hm=>by simpa using ywm hm
theorem off_freshH (d:Nat) (h:HL):ybp d (zlf d h)=true:=zcf fun s x hm=>by
 obtain ⟨o,rfl,hp⟩:=ypg hm
 simp only [Bool.and_eq_true,Bool.not_eq_true'] at hp
 exact ⟨hp.1,fun o' e=>by cases e;exact hp.2⟩
theorem ysy (d:Nat) (t:TL) (h:HL):ylg (S (ywe d t) (zlf d h)) d:=ygy (off_freshT d t) (off_freshH d h)
def zzm (t:TL) (h:HL) (d:Nat) (x:Operand):Option (TL × HL):=
 match evF (look (ywe d t)) x with
 | some y=>match ydq y with
  | some cs=>match ment.mentL d cs with
   | true=>none
   | false=>some ((d,.lp d 0)::ywe d t,(d,some (.cells cs))::zlf d h)
  | none=>none
 | none=>none
theorem boxX_ok {e:Nat} {x:Operand} (hd:Nat.blt d N=true) (hr:zzm t h d x=some (t',h')):ybr P N ⟨some d,.box e x,ty,pos,af,gd⟩ (S t h) (·=S t' h'):=by
 unfold zzm at hr
 split at hr
 ·rename_i y hx
  split at hr
  ·rename_i cs hcs
   split at hr
   ·cases hr
   ·rename_i hm
    simp only [Option.some.injEq,Prod.mk.injEq] at hr
    obtain ⟨rfl,rfl⟩:=hr
    refine ybr.pre ?_ (zfl d t h)
    rw [← yrb]
    exact zme rfl rfl (by simpa using hd) d hx hcs (ysy d t h) hm (by simpa using hd)
  ·cases hr
 ·cases hr
def zqs (T:Nat→Option Ty) (t:TL) (h:HL) (d e:Nat):Option (TL × HL):=
 match T e with
 | some y=>match y.zero.all Value.oneCell' with
  | true=>some ((d,.lp d 0)::ywe d t,(d,some (.cells (ykq y.zero)))::zlf d h)
  | false=>none
 | none=>none
theorem allocX_ok (hT:TOK P T) {e:Nat} (hd:Nat.blt d N=true) (hr:zqs T t h d e=some (t',h')):ybr P N ⟨some d,.alloc e,ty,pos,af,gd⟩ (S t h) (·=S t' h'):=by
 unfold zqs at hr
 split at hr
 ·rename_i y hy
  split at hr
  ·rename_i hone
   simp only [Option.some.injEq,Prod.mk.injEq] at hr
   obtain ⟨rfl,rfl⟩:=hr
   refine ybr.pre ?_ (zfl d t h)
   rw [← yrb,yne]
   exact zbp hT rfl rfl (by simpa using hd) d hy hone (ysy d t h) (by simpa using hd)
  ·cases hr
 ·cases hr
def yns (d:Nat):Nat:=d+3000000
def zww (T:Nat→Option Ty) (t:TL) (h:HL) (d ti:Nat) (x y:Operand):Option (TL × HL):=
 match T ti with
 | some ⟨.slc _ es _ eb ez,_,_,_⟩=>match evF (look (ywe (yns d) t)) x with
  | some (.v (.int .i64 (.ofNat m)))=>match evF (look (ywe (yns d) t)) y with
   | some (.v (.int .i64 (.ofNat m')))=>match ez.all Value.oneCell' && (Nat.beq m' m && (Nat.ble m 4294967296 && Nat.ble (eb * m) 281474976710656)) with
    | true=>some ((d,.ls (yns d) es m)::ywe (yns d) t,(yns d,some (.vec (yna m (ykq ez))))::zlf (yns d) h)
    | false=>none
   | _=>none
  | _=>none
 | _=>none
theorem makeX_ok (hT:TOK P T) {ti:Nat} {x y:Operand} (hd:Nat.blt d N=true) (hr:zww T t h d ti x y=some (t',h')):ybr P N ⟨some d,.makeSlice ti x y,ty,pos,af,gd⟩ (S t h) (·=S t' h'):=by
 unfold zww at hr
 split at hr
 ·rename_i e es ea eb ez sz ag z hk
  split at hr
  ·rename_i m hx
   split at hr
   ·rename_i m' hy
    split at hr
    ·rename_i hb
     simp only [Bool.and_eq_true,Nat.ble_eq] at hb
     obtain ⟨h1,h2,h3,h4⟩:=hb
     obtain rfl:=Nat.eq_of_beq_eq_true h2
     simp only [Option.some.injEq,Prod.mk.injEq] at hr
     obtain ⟨rfl,rfl⟩:=hr
     refine ybr.pre ?_ (zfl (yns d) t h)
     rw [← yrb]
     exact yss hT rfl rfl (by simpa using hd) (yns d) hk h1 hx hy ⟨h3,h4⟩ (ysy (yns d) t h)
    ·cases hr
   ·cases hr
  ·cases hr
 ·cases hr
def zto (T:Nat→Option Ty) (t:TL) (h:HL) (ti:Nat) (x v:Operand):Option (TL × HL):=
 match T ti with
 | some y=>match evF (look t) x with
  | some (.lp id off)=>match evF (look t) v with
   | some u=>match ydq u with
    | some cs=>match Nat.beq cs.length y.size with
     | true=>match hlook h id with
      | some (.cells xs)=>match yhw off cs xs with
       | some ys=>some (t,(id,some (.cells ys))::h)
       | none=>none
      | some (.vec (z::xs))=>match yav.pureL cs with
       | true=>match yhw off cs (z::xs) with
        | some ys=>some (t,(id,some (.vec ys))::h)
        | none=>none
       | false=>none
      | _=>none
     | false=>none
    | none=>none
   | none=>none
  | _=>none
 | none=>none
theorem storeX_ok (hT:TOK P T) {ti:Nat} {x v:Operand} (hr:zto T t h ti x v=some (t',h')):ybr P N ⟨none,.store ti x v,ty,pos,af,gd⟩ (S t h) (·=S t' h'):=by
 unfold zto at hr
 split at hr
 ·rename_i y hy
  split at hr
  ·rename_i id off hx
   split at hr
   ·rename_i u hv
    split at hr
    ·rename_i cs hcs
     split at hr
     ·rename_i hcl
      split at hr
      ·rename_i xs hh
       split at hr
       ·rename_i ys hsp
        simp only [Option.some.injEq,Prod.mk.injEq] at hr
        obtain ⟨rfl,rfl⟩:=hr
        obtain ⟨h1,h2⟩:=yjf hsp
        rw [← S_h]
        exact yjg rfl rfl (hT _ _ hy).1 hx hv hcs (Nat.eq_of_beq_eq_true hcl) hh (by rw [h2];exact .cells h1)
       ·cases hr
      ·rename_i z xs hh
       split at hr
       ·rename_i hp
        split at hr
        ·rename_i ys hsp
         simp only [Option.some.injEq,Prod.mk.injEq] at hr
         obtain ⟨rfl,rfl⟩:=hr
         obtain ⟨h1,h2⟩:=yjf hsp
         rw [← S_h]
         exact yjg rfl rfl (hT _ _ hy).1 hx hv hcs (Nat.eq_of_beq_eq_true hcl) hh (by rw [h2];exact .vec h1 (yoq hp) (by simp))
        ·cases hr
       ·cases hr
      ·cases hr
     ·cases hr
    ·cases hr
   ·cases hr
  ·cases hr
 ·cases hr
def zzj (T:Nat→Option Ty) (t:TL) (h:HL) (d ti:Nat) (x y:Operand):Option (TL × HL):=
 match T ti with
 | some ⟨.slc _ es _ eb _,_,_,_⟩=>match evF (look t) x with
  | some (.v (.slice none 0 0))=>match evF (look (ywe (yns d) t)) x with
   | some (.v (.slice none 0 0))=>match evF (look (ywe (yns d) t)) y with
    | some (.sl es' rows)=>match yav.pureL rows.flatten && (Nat.beq es' es && (Nat.ble rows.length 4294967296 && Nat.ble (rows.length * eb) 140737488355328)) with
     | true=>some ((d,.ls (yns d) es rows.length)::ywe (yns d) t,(yns d,some (.vec rows.flatten))::zlf (yns d) h)
     | false=>none
    | _=>none
   | _=>none
  | some (.ls id es1 len)=>match hlook h id with
   | some (.vec xs)=>match evF (look t) y with
    | some (.sl es' rows)=>match yav.pureL rows.flatten && (Nat.beq es' es && (Nat.beq es1 es && (Nat.beq xs.length (len * es) && (Nat.ble (len+rows.length) 4294967296 && Nat.ble ((len+rows.length) * eb) 140737488355328)))) with
     | true=>match ysi id t with
      | some t1=>match yqb id h with
       | some h1=>some ((d,.ls id es (len+rows.length))::t1,(id,some (.vec (xs++rows.flatten)))::h1)
       | none=>none
      | none=>none
     | false=>none
    | _=>none
   | _=>none
  | _=>none
 | _=>none
theorem appX_ok (hT:TOK P T) {ti:Nat} {x y:Operand} (hd:Nat.blt d N=true) (hr:zzj T t h d ti x y=some (t',h')):ybr P N ⟨some d,.call { callee:=.builtin .append,args:=#[x,y],argTypes:=#[ti,ti] },ty,pos,af,gd⟩ (S t h) (·=S t' h'):=by
 unfold zzj at hr
 split at hr
 ·rename_i e es ea eb ez sz ag z hk
  split at hr
  ·split at hr
   ·rename_i hx
    split at hr
    ·rename_i es' rows hy
     split at hr
     ·rename_i hb
      simp only [Bool.and_eq_true,Nat.ble_eq] at hb
      obtain ⟨h1,h2,h3,h4⟩:=hb
      obtain rfl:=Nat.eq_of_beq_eq_true h2
      simp only [Option.some.injEq,Prod.mk.injEq] at hr
      obtain ⟨rfl,rfl⟩:=hr
      refine ybr.pre ?_ (zfl (yns d) t h)
      rw [← yrb]
      exact yhz hT (yns d) rfl rfl (by simpa using hd) hk hx (ysy (yns d) t h) hy (fun ok w lv u hr=>yvy hr) (yoq h1) ⟨h3,h4⟩
     ·cases hr
    ·cases hr
   ·cases hr
  ·rename_i id es1 len hx
   split at hr
   ·rename_i xs hid
    split at hr
    ·rename_i es' rows hy
     split at hr
     ·rename_i hb
      simp only [Bool.and_eq_true,Nat.ble_eq] at hb
      obtain ⟨h1,h2,h3,h4,h5,h6⟩:=hb
      rw [Nat.eq_of_beq_eq_true h2] at hy
      rw [Nat.eq_of_beq_eq_true h3] at hx
      have hxl:=Nat.eq_of_beq_eq_true h4
      split at hr
      ·rename_i t1 ht
       split at hr
       ·rename_i h1' hh
        simp only [Option.some.injEq,Prod.mk.injEq] at hr
        obtain ⟨rfl,rfl⟩:=hr
        obtain ⟨g1,g2⟩:=yge ht
        have e:S ((d,.ls id es (len+rows.length))::t1) ((id,some (.vec (xs++rows.flatten)))::h1')=(⟨ydu (S t1 ((id,some (.vec (xs++rows.flatten)))::h1')).t (some d) (.ls id es (len+rows.length)),(S t1 ((id,some (.vec (xs++rows.flatten)))::h1')).h⟩:SS):=by
         unfold S;rw [ydb]
        rw [e]
        refine yml hT rfl rfl (by simpa using hd) hk hx hid hxl hy (fun ok w lv u hr=>yvy hr) (yoq h1) ⟨h5,h6⟩ g1 g2 (fun j ob' hj hob=>?_) ?_
        ·simp only [S,hlook,yct hj] at hob
         exact yfb hh j ob' hob
        ·simp [S,hlook]
       ·cases hr
      ·cases hr
     ·cases hr
    ·cases hr
   ·cases hr
  ·cases hr
 ·cases hr
end
end
section
open Go.RowKit
theorem zfu {ids:List Nat} {σ τ:Nat→Nat} (hσ:∀ i∈ids,σ (τ i)=i):∀ (x:AV),yel ids x=true→yez σ (yez τ x)=x
 | .v _,_=>rfl
 | .any,_=>rfl
 | .one,_=>rfl
 | .sl _ _,_=>rfl
 | .dp _ _,_=>rfl
 | .mv _,_=>rfl
 | .lp i o,h=>by simp only [yez,hσ i (by simpa [yel] using h)]
 | .ls i _ _,h=>by simp only [yez,hσ i (by simpa [yel] using h)]
 | .mp i,h=>by simp only [yez,hσ i (by simpa [yel] using h)]
 | .agg cs,h=>by simp only [yez,rows cs (by simpa [yel] using h)]
 | .tup cs,h=>by simp only [yez,rows cs (by simpa [yel] using h)]
 | .fn _ cs,h=>by simp only [yez,rows cs (by simpa [yel] using h)]
 | .fm _ cs,h=>by simp only [yez,rows cs (by simpa [yel] using h)]
 where rows:∀ (cs:List AV),yel.onlyL ids cs=true→yez.renL σ (yez.renL τ cs)=cs
 | [],_=>rfl
 | c::cs,h=>by
  simp only [yel.onlyL,Bool.and_eq_true] at h
  simp only [yez.renL,zfu hσ c h.1,rows cs h.2]
theorem renO_back {ids:List Nat} {σ τ:Nat→Nat} (hσ:∀ i∈ids,σ (τ i)=i) {o:LObj} (h:yro ids o=true):zbb σ (zbb τ o)=o:=by
 cases o <;> simp only [zbb,yro] at h ⊢ <;> rw [zfu.rows hσ _ h]
def up (i:Nat):Nat:=i+1000
def zyp:List Nat→List (Nat × Nat)
 | []=>[]
 | i::l=>(up i,i)::zyp l
theorem yth {sg:List (Nat × Nat)} {i:Nat}:∀ {ids:List Nat},i∈ids→yep (zyp ids++sg) (up i)=i
 | [],h=>by cases h
 | k::l,h=>by
  simp only [zyp,List.cons_append,yep]
  cases hb:Nat.beq (up i) (up k) with
  | true=>have:=Nat.eq_of_beq_eq_true hb;unfold up at this;simp only;omega
  | false=>
   rcases List.mem_cons.1 h with rfl|h
   ·simp at hb
   ·exact yth h
def zyf (h:HL):List Nat→HL
 | []=>[]
 | i::l=>(up i,match hlook h i with
  | some o=>some (zbb up o)
  | none=>none)::zyf h l
def znt (h:HL) (ids:List Nat):List Nat→Bool
 | []=>true
 | i::l=>(match hlook h i with
  | some o=>yro ids o
  | none=>true) && znt h ids l
theorem znc {h:HL} {ids:List Nat} {sg:List (Nat × Nat)}:∀ {l:List Nat},(∀ i∈l,i∈ids)→znt h ids l=true→yuy h (zpr (zyp ids++sg) (zyf h l))
 | [],_,_=>trivial
 | i::l,hm,ho=>by
  simp only [znt,Bool.and_eq_true] at ho
  have ih:=znc (sg:=sg) (l:=l) (fun j hj=>hm j (List.mem_cons_of_mem _ hj)) ho.2
  have hi:=hm i List.mem_cons_self
  simp only [zyf]
  cases hx:hlook h i with
  | none=>
   unfold zpr
   exact And.intro (fun o e=>by cases e) ih
  | some o=>
   rw [hx] at ho
   unfold zpr
   refine And.intro (fun o' e=>?_) ih
   simp only [Option.some.injEq] at e
   rw [yth hi,hx,← e,renO_back (fun j hj=>yth hj) ho.1]
def zhz:AV→List Nat
 | .lp i _=>[i]
 | .ls i _ _=>[i]
 | .mp i=>[i]
 | .agg cs=>idsL cs
 | .tup cs=>idsL cs
 | .fn _ cs=>idsL cs
 | .fm _ cs=>idsL cs
 | _=>[]
 where idsL:List AV→List Nat
 | []=>[]
 | c::cs=>zhz c++idsL cs
def zza:LObj→List Nat
 | .cells xs=>zhz.idsL xs
 | .tcells _ xs=>zhz.idsL xs
 | .mcells xs=>zhz.idsL xs
 | _=>[]
def zsy (h:HL):Nat→List Nat→List Nat→List Nat
 | 0,_,seen=>seen
 | _+1,[],seen=>seen
 | n+1,i::r,seen=>match yky i seen with
  | true=>zsy h n r seen
  | false=>match hlook h i with
   | some o=>zsy h n (zza o++r) (i::seen)
   | none=>zsy h n r (i::seen)
def zsn (ks:List Nat):HL→Nat→List (Nat × Nat)
 | [],_=>[]
 | (i,_)::l,m=>match yky i ks with
  | true=>zsn ks l m
  | false=>(i,m)::zsn ks l (m+1)
def zys:HL→Nat→Nat
 | [],m=>m
 | (i,_)::l,m=>zys l (match Nat.blt m i with
  | true=>i
  | false=>m)
section
variable {P:Program} {T:Nat→Option Ty} {N:Nat} {ops:Array Oper} {lf:Oper→Bool} {Q:SS→Prop} {t t':TL} {h h':HL} {rest:List Oper} {d:Nat} {op:Op} {ty:TypeId} {pos:String} {af:Array Edge} {gd:Option (Nat × Bool)} {r:AV}
theorem callMG_loud (sg:List (Nat × Nat)) {g:Operand} {args:List Operand} {ats:Array TypeId} {f:FuncId} {caps xs args0:List AV} {hs hs' h':List (Nat × Option LObj)} (hc:ywc P f args0 (hlook hs) r (hlook hs')) (hg:zbl (evF (look t) g) f caps args) (hx:evL (evF (look t)) args=some xs) (hargs:xs++caps=args0.map (yez (yep sg)))
  (hk:yeb (ybg sg)=true) (hv:yeb (yce sg)=true) (hd1:ytz (ybg sg) hs=true) (hd2:ytz (ybg sg) hs'=true) (hsub:yuy h (zpr sg hs)) (hr:yel (ybg sg) r=true) (ho:yom (ybg sg) hs'=true) (hh:yvm (yce sg) (zhd (yce sg) h)=some h') (hd:Nat.blt d N=true) :
  ybr P N ⟨some d,.call { callee:=.value g,args:=args.toArray,argTypes:=ats },ty,pos,af,gd⟩ (S t h) (·=S ((d,yez (yep sg) r)::ylo sg hs' t) (yob sg hs' sg++h')):=by
 refine ypf (σ:=yep sg) (ids:=ybg sg) rfl rfl (by simpa using hd) hg hx hargs hc (zam hv) (yhq hd1) (yhq hd2) (ytc hsub) hr (yjw ho) (fun x y hy=>?_) (fun i hi=>ywj hk hv i hi) (fun j ob' hj hob=>?_)
 ·simp only [S,look] at hy
  cases hb:Nat.beq x d with
  | true=>simp only [hb,Option.some.injEq] at hy;exact .inl ⟨Nat.eq_of_beq_eq_true hb,hy.symm⟩
  | false=>
   simp only [hb] at hy
   refine .inr ⟨fun e=>by subst e;simp at hb,?_⟩
   rcases yhr hy with hq|⟨h1,h2⟩
   ·exact .inl hq
   ·exact .inr ⟨h1,yug hk h2⟩
 ·have hjv:j ∉ yce sg:=fun hm=>by
   obtain ⟨i,h1,h2⟩:=yux hm hk
   exact hj i h1 h2
  simp only [S,ymm hjv] at hob
  obtain ⟨h1,h2⟩:=yri hh j ob' hob
  rw [ywo hjv] at h2
  exact ⟨fun i hi=>h1 _ (yjz hi),h2⟩
structure Calls0 where
 pure:FuncId→List AV→Option AV
 lent:FuncId→List AV→HL→Option (AV × HL)
 fz:FuncId→Bool
structure CallsOk (P:Program) (K:Calls0):Prop where
 pure:∀ f xs r,K.pure f xs=some r→Con P f xs r
 lent:∀ f xs hs r hs',K.lent f xs hs=some (r,hs')→ywc P f xs (hlook hs) r (hlook hs')
def zwu:HL→List Nat
 | []=>[]
 | (i,_)::l=>i::zwu l
def zuj (K:Calls0) (t:TL) (h:HL) (d f:Nat) (all:List AV):Option (TL × HL):=
 let ids:=zsy h 1000 (zhz.idsL all++zwu h) []
 match K.lent f (all.map (yez up)) (zyf h ids) with
 | none=>none
 | some (r,hs')=>
  let sg:=zyp ids++zsn (ids.map up) hs' (zys h 2000000+1)
  match yel.onlyL ids all && (znt h ids ids && (yeb (ybg sg) && (yeb (yce sg) && (ytz (ybg sg) (zyf h ids) && (ytz (ybg sg) hs' && (yel (ybg sg) r && yom (ybg sg) hs')))))) with
  | false=>none
  | true=>match yvm (yce sg) (zhd (yce sg) h) with
   | none=>none
   | some h1=>some ((d,yez (yep sg) r)::ylo sg hs' t,yob sg hs' sg++h1)
theorem ren_backL {ids:List Nat} {σ τ:Nat→Nat} (hσ:∀ i∈ids,σ (τ i)=i) {xs:List AV} (h:yel.onlyL ids xs=true):(xs.map (yez τ)).map (yez σ)=xs:=by
 have:=zfu.rows hσ xs h
 rwa [ybx,ybx] at this
theorem znj {K:Calls0} (hK:CallsOk P K) {g:Operand} {args:List Operand} {ats:Array TypeId} {f:FuncId} {caps xs:List AV} (hg:zbl (evF (look t) g) f caps args) (hx:evL (evF (look t)) args=some xs) (hd:Nat.blt d N=true) (hr:zuj K t h d f (xs++caps)=some (t',h')) :
  ybr P N ⟨some d,.call { callee:=.value g,args:=args.toArray,argTypes:=ats },ty,pos,af,gd⟩ (S t h) (·=S t' h'):=by
 unfold zuj at hr
 simp only at hr
 split at hr
 ·cases hr
 ·rename_i r hs' hc
  split at hr
  ·cases hr
  ·rename_i hb
   simp only [Bool.and_eq_true] at hb
   obtain ⟨h1,h2,h3,h4,h5,h6,h7,h8⟩:=hb
   split at hr
   ·cases hr
   ·rename_i h1' hh
    simp only [Option.some.injEq,Prod.mk.injEq] at hr
    obtain ⟨rfl,rfl⟩:=hr
    exact callMG_loud _ (hK.lent _ _ _ _ _ hc) hg hx (ren_backL (fun i hi=>yth hi) h1).symm h3 h4 h5 h6 (znc (fun i hi=>hi) h2) h7 h8 hh hd
end
end
end Go.Proofs.YtgpbgfpjlhoicaaGreatDoor
