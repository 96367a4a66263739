/- Part 8 of the texts under TopColoursConverge: joined, with what it needs alone. -/
import Derived.WideKeyPair
import Derived.DeepKeys4
import Derived.Test.YtfhejdcijbgikaaGreatDoorCC1
import Derived.Test.YtfhejdcijbgikaaGreatDoorCC2
import Derived.Test.YtfhejdcijbgikaaGreatDoorCC5
import Derived.Test.YtfhejdcijbgikaaGreatDoorCC6
import Derived.Test.YtfhejdcijbgikaaGreatDoorCC7
set_option linter.unusedVariables false
set_option maxRecDepth 100000
set_option maxHeartbeats 8000000
namespace Go.Proofs.YtfhejdcijbgikaaGreatDoor
section
open Go.RowKit
def yhj (p:Int × Int):List AV:=[i64 p.1,i64 p.2]
def ydv (tbl:List (List (Int × Int))):AV:=.sl 1 (tbl.map fun r=>[.sl 2 (r.map yhj)])
def yga:AV:=.v (.slice none 0 0)
theorem zlg (x:AV) (n:Nat):yke n [x]=List.replicate n x:=by
 induction n with
 | zero=>rfl
 | succ n ih=>simp [yke,ih,List.replicate_succ]
def yii (tbl:List (List (Int × Int))) (val:Nat→Nat→Int):List (List AV):=tbl.mapIdx fun i r=>(List.range r.length).map fun j=>i64 (val i j)
theorem zbh {tbl:List (List (Int × Int))} {val:Nat→Nat→Int} {i:Nat} {r:List (Int × Int)} (h:tbl[i]?=some r):(yii tbl val)[i]?=some ((List.range r.length).map fun j=>i64 (val i j)):=by
 simp [yii,List.getElem?_mapIdx,h]
theorem ybc {α:Type} {l:List α} {i:Nat} {x:α} (h:l[i]?=some x):l.take (i+1)=l.take i++[x]:=by
 rw [List.take_add_one,h];rfl
theorem zow {α:Type} {l:List α} {m j:Nat} {x z:α} (hl:l.length=m) (h:l[j]?=some x):(l.take j++List.replicate (m - j) z).set j x=l.take (j+1)++List.replicate (m - (j+1)) z:=by
 have hj:=(List.getElem?_eq_some_iff.1 h).1
 have e:(l.take j).length=j:=by rw [List.length_take];omega
 rw [List.set_append_right _ _ (Nat.le_of_eq e),e,Nat.sub_self,show m - j=(m - (j+1))+1 by omega,List.replicate_succ,ybc h]
 simp
theorem zox {α:Type} {l:List α} {k:Nat} {x y:α} (h:l.length=k):(l++[x]).set k y=l++[y]:=by
 rw [List.set_append_right _ _ (Nat.le_of_eq h),h,Nat.sub_self];rfl
theorem build_con (tbl:List (List (Int × Int))) (F:Nat) (caps:List AV) (val:Nat→Nat→Int) (hcaps:yap.pureL caps=true) (hlow:ymt.lowL caps=true) (hn:tbl.length≤1000) (hm:∀ r∈tbl,r.length≤1000) (hF:∀ (i j:Nat) (r:List (Int × Int)),tbl[i]?=some r→j < r.length→Con Tryz.prog F ([i64 i,i64 j]++caps) (i64 (val i j))) :
  ypt Tryz.prog 144 [ydv tbl,.fn F caps] (fun _=>none) (.ls 10 1 tbl.length) (hlook (yce 10 1 (yii tbl val) [])):=by
 refine zkg tok Tryz.func144 rfl rfl Tryz.ntmps144 Tryz.results144 rfl rfl ?_
 (repeat (first|refine zy ?_|refine ylm tok rfl rfl rfl rfl (by constructor <;> omega) (by simp [ydd,ment,yel,ydv,yap.pureL.ment hcaps]) rfl rfl rfl rfl ?_))
 refine ynl 10 (List.replicate tbl.length yga) rfl (zlg _ _) ?_
 refine ycn (α:=Nat) (fun k=>[(13,i64 k),(12,i64 tbl.length),(5,.ls 10 1 tbl.length),(0,ydv tbl),(1,.fn F caps)]) (fun k=>yce 10 1 ((yii tbl val).take k) (List.replicate (tbl.length - k) yga)) (fun k=>tbl.length - k) (fun k=>k≤tbl.length) 0 (by omega) (by exact zs) (hsE (by simp only [yce,yev,yne,List.take_zero,List.nil_append,Nat.sub_zero];exact yfx)) ?_
 intro k hk
 (try refine zy ?_)
 refine yac rfl (fun h=>?_) (fun h=>?_)
 ·simp at h
  obtain ⟨r,hr⟩:=ycd (show k < tbl.length by omega)
  (try refine zy ?_)
  have hrm:=hm r (List.mem_of_getElem? hr)
  have hrow:=zbh (val:=val) hr
  have hlen:(yii tbl val).length=tbl.length:=by simp [yii]
  have htk:((yii tbl val).take k).length=k:=by rw [List.length_take,hlen];omega
  refine zre tok (fam 10 k) rfl rfl rfl rfl (by constructor <;> omega) (yyo (f:=[]) (by simp [zvn,ymt,ydv,i64,hlow];rfl) rfl rfl htk.symm (zen yga rfl _)) rfl rfl rfl ?_
  refine yas tok rfl rfl (by rw [yaq (ydr (by omega))];exact ybt (f:=[]) rfl) rfl (by omega) (by omega) rfl rfl ?_
  refine yki tok rfl rfl rfl rfl rfl (by rw [yaq (ydr (by omega))];exact ybt (f:=[]) rfl) (by rw [List.length_append,ydf,htk,List.length_replicate];simp;omega) rfl rfl ?_
  refine zuz (h':=yce 10 1 ((yii tbl val).take k++[List.replicate r.length (i64 0)]) (List.replicate (tbl.length - k - 1) yga)) ?_ ?_
  ·have hrep:yke r.length (ygr [Value.int .i64 0])=List.replicate r.length (i64 0):=zlg _ _
   have hex:List.replicate (tbl.length - k) yga=yga::List.replicate (tbl.length - k - 1) yga:=by rw [← List.replicate_succ];congr 1;omega
   rw [show ((k:Int).toNat * 1)=k by simp]
   exact zkt (f:=[]) (a:=yga) rfl rfl rfl htk.symm (by rw [hrep];simp) hex (by rw [hrep])
  (try refine zy ?_)
  refine ycn (α:=Nat) (fun j=>[(30,i64 j),(29,i64 r.length),(6,i64 k),(13,i64 k),(12,i64 tbl.length),(5,.ls 10 1 tbl.length),(0,ydv tbl),(1,.fn F caps)]) (fun j=>yce 10 1 ((yii tbl val).take k++[((List.range r.length).map fun j=>i64 (val k j)).take j++List.replicate (r.length - j) (i64 0)]) (List.replicate (tbl.length - k - 1) yga)) (fun j=>r.length - j) (fun j=>j≤r.length) 0 (by omega) (by exact zs) (hsE (by simp)) ?_
  intro j hj
  (try refine zy ?_)
  refine yac rfl (fun h2=>?_) (fun h2=>?_)
  ·simp at h2
   have hpart:((yii tbl val).take k++[((List.range r.length).map fun j=>i64 (val k j)).take j++List.replicate (r.length - j) (i64 0)])[k]?=some (((List.range r.length).map fun j=>i64 (val k j)).take j++List.replicate (r.length - j) (i64 0)):=by
    rw [List.getElem?_append_right (by omega),htk,Nat.sub_self];rfl
   have hpl:(((List.range r.length).map fun j=>i64 (val k j)).take j++List.replicate (r.length - j) (i64 0)).length=r.length:=by simp;omega
   (try refine zy ?_)
   refine yas tok rfl rfl (ybt (f:=[]) rfl) rfl (by omega) (by omega) rfl rfl ?_
   refine yda (r:=.ls (fam 10 k) 1 r.length) tok rfl rfl rfl (by rw [yep];exact yfd _) ?_ rfl rfl ?_
   ·rw [show ((k:Int).toNat * 1)=k by simp,List.getElem?_append_left (by rw [ydf];simp;omega),yeh,hpart]
    simp only [Option.map_some,hpl,Nat.div_one,Nat.zero_add]
   (try refine zy ?_)
   refine yad rfl rfl (hF k j r hr (by omega)) rfl rfl ?_
   refine yas tok rfl rfl (ylh (f:=[]) rfl (by omega) hpart) rfl (by omega) (by omega) rfl rfl ?_
   refine yhu (h':=yce 10 1 ((yii tbl val).take k++[((List.range r.length).map fun j=>i64 (val k j)).take (j+1)++List.replicate (r.length - (j+1)) (i64 0)]) (List.replicate (tbl.length - k - 1) yga)) tok rfl rfl rfl rfl rfl (ylh (f:=[]) rfl (by omega) hpart) (by rw [hpl];simp;omega) rfl ?_ rfl rfl ?_
   ·rw [show ((j:Int).toNat * 1)=j by simp,zow (by simp) (show ((List.range r.length).map fun j=>i64 (val k j))[j]?=some (i64 (val k j)) by rw [List.getElem?_map,List.getElem?_range (by omega)];rfl)]
    refine (zku (f:=[]) rfl (by omega) hpart (by simp;omega)).trans ?_
    rw [zox htk]
    rfl
   (try refine zy ?_)
   refine yir (j+1) (by omega) (by omega) (by exact zs) (fun id o h=>h)
  ·simp at h2
   obtain rfl:j=r.length:=by omega
   (try refine zy ?_)
   refine yir (k+1) (by omega) (by omega) (by exact zs) (hsE ?_)
   rw [ybc hrow]
   simp [List.take_of_length_le,Nat.sub_sub]
 ·simp at h
  obtain rfl:k=tbl.length:=by omega
  (try refine zy ?_)
  refine yaf ⟨_,rfl,yfu _,fun id o ho=>?_⟩
  have:(yii tbl val).take tbl.length=yii tbl val:=List.take_of_length_le (by simp [yii])
  rw [← this] at ho
  simpa [S] using ho
def ygq (c:List (List Int)):List (List AV):=c.map fun r=>r.map i64
theorem yfm (r:List Int):(r.map fun x=>[i64 x]).flatten=r.map i64:=by
 induction r with
 | nil=>rfl
 | cons x r ih=>simp [ih]
theorem zms (c:List (List Int)) (hn:c.length≤1000) (hm:∀ r∈c,r.length≤1000):ypt Tryz.prog 57 [ykd c] (fun _=>none) (.ls 8 1 c.length) (hlook (yce 8 1 (ygq c) [])):=by
 refine zkg tok Tryz.func57 rfl rfl Tryz.ntmps57 Tryz.results57 rfl rfl ?_
 (repeat (first|refine zy ?_|refine ylm tok rfl rfl rfl rfl (by constructor <;> omega) rfl rfl rfl rfl rfl ?_))
 refine ynl 8 (List.replicate c.length yga) rfl (zlg _ _) ?_
 refine ycn (α:=Nat) (fun k=>[(11,i64 k),(10,i64 c.length),(9,ykd c),(3,.ls 8 1 c.length)]) (fun k=>yce 8 1 (ygq (c.take k)) (List.replicate (c.length - k) yga)) (fun k=>c.length - k) (fun k=>k≤c.length) 0 (by omega) (by exact zs) (hsE (by simp only [yce,yev,yne,List.take_zero,List.nil_append,Nat.sub_zero,ygq,List.map_nil];exact yfx)) ?_
 intro k hk
 (try refine zy ?_)
 refine yac rfl (fun h=>?_) (fun h=>?_)
 ·simp at h
  obtain ⟨r,hr⟩:=ycd (show k < c.length by omega)
  have hrm:=hm r (List.mem_of_getElem? hr)
  have htk:(ygq (c.take k)).length=k:=by simp [ygq];omega
  (try refine zy ?_)
  refine L_appendNilI tok (fam 8 k) rfl rfl rfl (by intro c hc;rw [yfm] at hc;obtain ⟨x,_,rfl⟩:=List.mem_map.1 hc;rfl) (by constructor <;> simp <;> omega) (yyo (f:=[]) rfl rfl rfl htk.symm (zen yga rfl _)) rfl rfl rfl ?_
  refine yas tok rfl rfl (by rw [yaq (ydr (by omega))];exact yep) rfl (by omega) (by omega) rfl rfl ?_
  refine yki tok rfl rfl rfl rfl rfl (by rw [yaq (ydr (by omega))];exact yep) (by rw [List.length_append,ydf,htk,List.length_replicate];simp;omega) rfl rfl ?_
  refine zuz (h':=yce 8 1 (ygq (c.take (k+1))) (List.replicate (c.length - (k+1)) yga)) ?_ ?_
  ·have hex:List.replicate (c.length - k) yga=yga::List.replicate (c.length - (k+1)) yga:=by rw [← List.replicate_succ];congr 1;omega
   rw [show ((k:Int).toNat * 1)=k by simp,yfm]
   exact zkt (f:=[]) (a:=yga) rfl rfl rfl htk.symm (by simp) hex (by rw [ybc hr];simp [ygq])
  (try refine zy ?_)
  refine yir (k+1) (by omega) (by omega) (by exact zs) (fun id o h=>h)
 ·simp at h
  obtain rfl:k=c.length:=by omega
  (try refine zy ?_)
  refine yaf ⟨_,rfl,yfu _,fun id o ho=>?_⟩
  rw [← List.take_length (l:=c)] at ho
  simpa [S] using ho
end
section
open Go.RowKit
def inB (v lo hi:Int):Bool:=decide (lo≤v) && decide (v≤hi)
theorem zcc (v lo hi:Int):Con Tryz.prog 40 [i64 v,i64 lo,i64 hi] (ybq (inB v lo hi)):=by
 refine yao Tryz.func40 rfl rfl Tryz.ntmps40 Tryz.results40 rfl rfl ?_
 (try refine zy ?_)
 refine yax 10 rfl (fun h=>?_) (fun h=>?_)
 ·(try refine zy ?_)
  refine yaf ?_;refine ⟨_,rfl,?_⟩
  exact yan (by simp at h;simp [inB,h])
 ·(try refine zy ?_)
  refine yaf ?_;refine ⟨_,rfl,?_⟩
  exact yan (by simp at h;simp [inB];omega)
theorem differentIDs_con (ids:List Int) (hlen:ids.length≤5000):Con Tryz.prog 215 [yam ids] (ybq (zjp ids)):=by
 refine yao Tryz.func215 rfl rfl Tryz.ntmps215 Tryz.results215 rfl rfl ?_
 (try refine zy ?_)
 refine zjt 3 ((yrq []).map ybq) rfl (by rw [bits_nil];rfl) (by intro y hy;obtain ⟨b,_,rfl⟩:=List.mem_map.1 hy;rfl) ?_
 refine yeu (α:=Nat) (fun k=>[(8,i64 k),(7,i64 ids.length),(6,yam ids),(3,.lp 3 0)]) (fun k=>[(3,some (.vec ((yrq (ids.take k)).map ybq)))]) (fun k=>ids.length - k) (fun k=>k≤ids.length∧zjp (ids.take k)=true) 0 ⟨by omega,rfl⟩ (by exact zs) (by exact zh) ?_
 intro k ⟨hk,hok⟩
 (try refine zy ?_)
 refine yac rfl (fun h=>?_) (fun h=>?_)
 ·simp at h
  obtain ⟨x,hx⟩:=ycd h
  (try refine zy ?_)
  refine yax 14 rfl (fun h1=>?_) (fun h1=>?_)
  ·simp at h1
   (try refine zy ?_)
   refine yaf ?_;refine ⟨_,rfl,?_⟩
   exact yan (zef hx (by simp [idB];omega)).symm
  ·simp at h1
   (try refine zy ?_)
   refine yax 18 rfl (fun h2=>?_) (fun h2=>?_)
   ·simp at h2
    (try refine zy ?_)
    refine yaf ?_;refine ⟨_,rfl,?_⟩
    exact yan (zef hx (by simp [idB];omega)).symm
   ·simp at h2
    (try refine zy ?_)
    refine yiu tok rfl rfl rfl (by simp [yrq]) rfl (by omega) (by omega) rfl rfl ?_
    refine yda (r:=ybq (decide (x∈ids.take k))) tok rfl rfl rfl rfl (by simp [bits_get (ids.take k) x h1 h2]) rfl rfl ?_
    (try refine zy ?_)
    refine yac rfl (fun h3=>?_) (fun h3=>?_)
    ·simp at h3
     (try refine zy ?_)
     refine yaf ?_;refine ⟨_,rfl,?_⟩
     exact yan (zbz hx h3).symm
    ·simp at h3
     (try refine zy ?_)
     refine yiu tok rfl rfl rfl (by simp [yrq]) rfl (by omega) (by omega) rfl rfl ?_
     refine yop tok rfl rfl rfl rfl rfl rfl (by simp [bits_len];omega) rfl rfl rfl ?_
     (try refine zy ?_)
     refine rnd (k+1) ⟨by omega,zhi hx hok (by simp [idB];omega) h3⟩ (by omega) (by exact zs) ?_
     refine yab ?_ yae
     rw [yka hx,← bits_set _ x h1 h2,List.map_set]
     simp [hlook,ybq]
 ·simp at h
  obtain rfl:k=ids.length:=by omega
  (try refine zy ?_)
  refine yaf ?_;refine ⟨_,rfl,?_⟩
  rw [List.take_length] at hok
  exact yan hok.symm
end
set_option maxHeartbeats 4000000
section
open Go.RowKit
def yvr (g:GraphD):Bool:=decide (g.ids.length≤30) && (decide (g.ports.length≤30) && g.ports.all fun l=>decide (l.length≤30))
theorem yiy (g:GraphD):yvr g=true↔g.ids.length≤30∧g.ports.length≤30∧∀ l∈g.ports,l.length≤30:=by
 unfold yvr;simp
theorem lightGraph_con (g:GraphD):Con Tryz.prog 25 [ypu g] (ybq (yvr g)):=by
 refine yao Tryz.func25 rfl rfl Tryz.ntmps25 Tryz.results25 rfl rfl ?_
 (try refine zy ?_)
 refine yax 8 rfl (fun h1=>?_) (fun h1=>?_)
 ·simp at h1
  (try refine zy ?_)
  refine yaf ?_;refine ⟨_,rfl,?_⟩
  exact yan (by rw [eq_comm,← Bool.not_eq_true,yiy];omega)
 simp at h1
 (try refine zy ?_)
 refine yac rfl (fun h2=>?_) (fun h2=>?_)
 ·simp at h2
  (try refine zy ?_)
  refine yaf ?_;refine ⟨_,rfl,?_⟩
  exact yan (by rw [eq_comm,← Bool.not_eq_true,yiy];omega)
 simp at h2
 (try refine zy ?_)
 refine yeu (α:=Nat) (fun k=>[(3,i64 k),(1,.lp 1 0)]) (fun k=>[(1,some (.cells [yam g.ids,ybj g.ports]))]) (fun k=>g.ports.length - k) (fun k=>k≤g.ports.length∧∀ l∈g.ports.take k,l.length≤30) 0 ⟨by omega,by simp⟩ (by exact zs) (by exact zh) ?_
 intro k ⟨hk,hok⟩
 (try refine zy ?_)
 refine yac rfl (fun h=>?_) (fun h=>?_)
 ·simp at h
  obtain ⟨x,hx⟩:=ycd h
  (try refine zy ?_)
  refine yac rfl (fun h3=>?_) (fun h3=>?_)
  ·simp at h3
   (try refine zy ?_)
   refine yaf ?_;refine ⟨_,rfl,?_⟩
   refine yan ?_
   rw [eq_comm,← Bool.not_eq_true,yiy]
   intro h4
   have:=h4.2.2 x (List.mem_of_getElem? hx)
   omega
  ·simp at h3
   (try refine zy ?_)
   refine rnd (k+1) ⟨by omega,?_⟩ (by omega) (by exact zs) (by exact zh)
   intro l hl
   rw [yka hx] at hl
   rcases List.mem_append.1 hl with hl|hl
   ·exact hok l hl
   ·simp at hl;subst hl;omega
 ·simp at h
  obtain rfl:k=g.ports.length:=by omega
  (try refine zy ?_)
  refine yaf ?_;refine ⟨_,rfl,?_⟩
  rw [List.take_length] at hok
  exact yan (by rw [eq_comm,yiy];exact ⟨by omega,by omega,hok⟩)
theorem linksValid_con (l:List Lk) (v n:Nat) (hlen:l.length≤5000) (hn:n≤5000):Con Tryz.prog 64 [yin l,i64 v,i64 n] (ybq (ydz n v l)):=by
 refine yao Tryz.func64 rfl rfl Tryz.ntmps64 Tryz.results64 rfl rfl ?_
 (try refine zy ?_)
 refine yeu (α:=Nat) (fun k=>[(7,i64 k),(0,yin l),(1,i64 v),(2,i64 n)]) (fun k=>[]) (fun k=>l.length - k) (fun k=>k≤l.length∧ydz n v (l.take k)=true) 0 ⟨by omega,rfl⟩ (by exact zs) (by exact zh) ?_
 intro k ⟨hk,hok⟩
 (try refine zy ?_)
 refine yac rfl (fun h=>?_) (fun h=>?_)
 ·simp at h
  obtain ⟨x,hx⟩:=ycd h
  (repeat (first|refine zy ?_|refine yad rfl rfl (zcc _ _ _) rfl rfl ?_))
  refine yax 24 rfl (fun h1=>?_) (fun h1=>?_)
  ·(try refine zy ?_)
   refine yaf ?_;refine ⟨_,rfl,?_⟩
   refine yan (ygl hx ?_).symm
   rw [← Bool.not_eq_true,ybs]
   simp [inB] at h1
   omega
  ·(try refine zy ?_)
   refine yax 33 rfl (fun h2=>?_) (fun h2=>?_)
   ·(try refine zy ?_)
    refine yaf ?_;refine ⟨_,rfl,?_⟩
    refine yan (ygl hx ?_).symm
    rw [← Bool.not_eq_true,ybs]
    simp at h2
    omega
   ·(repeat (first|refine zy ?_|refine yad rfl rfl (zcc _ _ _) rfl rfl ?_))
    refine yac rfl (fun h3=>?_) (fun h3=>?_)
    ·(try refine zy ?_)
     refine yaf ?_;refine ⟨_,rfl,?_⟩
     refine yan (ygl hx ?_).symm
     rw [← Bool.not_eq_true,ybs]
     simp [inB] at h3
     omega
    ·(try refine zy ?_)
     have hlk:zho n v x=true:=by
      rw [ybs]
      simp [inB] at h1 h2 h3
      omega
     refine yeu (α:=Nat) (fun j=>[(8,i64 j),(7,i64 k),(0,yin l),(1,i64 v),(2,i64 n)]) (fun k=>[]) (fun j=>k - j) (fun j=>j≤k∧∀ (i:Nat) (y:Lk),i < j→l[i]?=some y→y.1≠x.1) 0 ⟨by omega,by omega⟩ (by exact zs) (by exact zh) ?_
     intro j ⟨hj,hjo⟩
     (try refine zy ?_)
     refine yac rfl (fun h4=>?_) (fun h4=>?_)
     ·simp at h4
      obtain ⟨y,hy⟩:=ycd (show j < l.length by omega)
      (try refine zy ?_)
      refine yac rfl (fun h5=>?_) (fun h5=>?_)
      ·simp at h5
       (try refine zy ?_)
       refine yaf ?_;refine ⟨_,rfl,?_⟩
       exact yan (yvs h4 hy hx h5).symm
      ·simp at h5
       (try refine zy ?_)
       refine rnd (j+1) ⟨by omega,fun i z hi hz=>?_⟩ (by omega) (by exact zs) (by exact zh)
       rcases Nat.lt_or_ge i j with h6|h6
       ·exact hjo i z h6 hz
       ·obtain rfl:i=j:=by omega
        rw [hy] at hz;cases hz;exact h5
     ·simp at h4
      obtain rfl:j=k:=by omega
      (try refine zy ?_)
      refine rnd (j+1) ⟨by omega,yyu hx hok hlk hjo⟩ (by omega) (by exact zs) (by exact zh)
 ·simp at h
  obtain rfl:k=l.length:=by omega
  (try refine zy ?_)
  refine yaf ?_;refine ⟨_,rfl,?_⟩
  rw [List.take_length] at hok
  exact yan hok.symm
theorem port_con (g:GraphD) (v:Int) (u:Int) (ls:List Lk) (h0:0≤v) (hv:g.ports[v.toNat]?=some ls) (hlen:ls.length≤5000):Con Tryz.prog 65 [ypu g,i64 v,i64 u] (i64 (yid ls u)):=by
 refine yao Tryz.func65 rfl rfl Tryz.ntmps65 Tryz.results65 rfl rfl ?_
 (try refine zy ?_)
 refine yeu (α:=Nat) (fun k=>[(7,i64 k),(3,.lp 3 0),(1,i64 v),(2,i64 u)]) (fun k=>[(3,some (.cells [yam g.ids,ybj g.ports]))]) (fun k=>ls.length - k) (fun k=>k≤ls.length∧∀ (j:Nat) (y:Lk),j < k→ls[j]?=some y→y.1≠u) 0 ⟨by omega,by omega⟩ (by exact zs) (by exact zh) ?_
 intro k ⟨hk,hok⟩
 (try refine zy ?_)
 refine yac rfl (fun h=>?_) (fun h=>?_)
 ·simp at h
  obtain ⟨x,hx⟩:=ycd h
  (try refine zy ?_)
  refine yac rfl (fun h1=>?_) (fun h1=>?_)
  ·simp at h1
   (try refine zy ?_)
   refine yaf ?_;refine ⟨_,rfl,?_⟩
   exact yai (yzp hx h1 hok).symm
  ·simp at h1
   (try refine zy ?_)
   refine rnd (k+1) ⟨by omega,fun j y hj hy=>?_⟩ (by omega) (by exact zs) (by exact zh)
   rcases Nat.lt_or_ge j k with h6|h6
   ·exact hok j y h6 hy
   ·obtain rfl:j=k:=by omega
    rw [hx] at hy;cases hy;exact h1
 ·simp at h
  obtain rfl:k=ls.length:=by omega
  (try refine zy ?_)
  refine yaf ?_;refine ⟨_,rfl,?_⟩
  exact yai (yzo fun j y hy=>hok j y (List.getElem?_eq_some_iff.1 hy).1 hy).symm
end
set_option maxHeartbeats 8000000
section
open Go.RowKit
theorem yoo {g:GraphD} (h:¬ (1≤g.ports.length∧g.ports.length≤24∧g.ids.length=g.ports.length)):ycy g=false:=by
 rw [← Bool.not_eq_true,yhs];intro h1;exact h ⟨h1.1,h1.2.1,h1.2.2.1⟩
theorem zaf {g:GraphD} (h:zjp g.ids=false):ycy g=false:=by
 rw [← Bool.not_eq_true,yhs];intro h1;rw [h1.2.2.2.1] at h;cases h
theorem zag {g:GraphD} {v:Nat} {ls:List Lk} (hv:g.ports[v]?=some ls) (h:ydz g.ports.length v ls=false):ycy g=false:=by
 rw [← Bool.not_eq_true,yhs];intro h1;rw [ygm] at h1;rw [h1.2.2.2.2.1 v ls hv] at h;cases h
theorem zjl {g:GraphD} {v:Nat} {ls:List Lk} {l:Lk} (hv:g.ports[v]?=some ls) (hl:l∈ls) (h:yey (g.ports.getD l.1.toNat []) v≠l.2):ycy g=false:=by
 rw [← Bool.not_eq_true,yhs];intro h1;rw [ytm] at h1;exact h (h1.2.2.2.2.2 v ls hv l hl)
def xbw (g:GraphD):Prop:=g.ids.length≤5000∧g.ports.length≤5000∧∀ l∈g.ports,l.length≤5000
theorem ztf {g:GraphD} (h:yvr g=true):xbw g:=by
 obtain ⟨h1,h2,h3⟩:=(yiy g).1 h
 exact ⟨by omega,by omega,fun l hl=>by have:=h3 l hl;omega⟩
theorem rvalid_con' (g:GraphD) (hl:xbw g):Con Tryz.prog 26 [ypu g] (ybq (ycy g)):=by
 obtain ⟨hl1,hl2,hl3⟩:=hl
 refine yao Tryz.func26 rfl rfl Tryz.ntmps26 Tryz.results26 rfl rfl ?_
 (repeat (first|refine zy ?_|refine yad rfl rfl (zcc _ _ _) rfl rfl ?_))
 refine yax 16 rfl (fun h1=>?_) (fun h1=>?_)
 ·(try refine zy ?_)
  refine yaf ?_;refine ⟨_,rfl,?_⟩
  exact yan (yoo (by simp [inB] at h1;omega)).symm
 simp [inB] at h1
 (try refine zy ?_)
 refine yac rfl (fun h2=>?_) (fun h2=>?_)
 ·simp at h2
  (try refine zy ?_)
  refine yaf ?_;refine ⟨_,rfl,?_⟩
  exact yan (yoo (by omega)).symm
 simp at h2
 (try refine zy ?_)
 refine yeu (α:=Nat) (fun k=>[(4,i64 k),(3,i64 g.ports.length),(1,.lp 1 0)]) (fun k=>[(1,some (.cells [yam g.ids,ybj g.ports]))]) (fun k=>g.ports.length - k) (fun k=>k≤g.ports.length∧zjp (g.ids.take k)=true∧∀ (v:Nat) (ls:List Lk),v < k→g.ports[v]?=some ls→ydz g.ports.length v ls=true) 0 ⟨by omega,rfl,by omega⟩ (by exact zs) (by exact zh) ?_
 intro k ⟨hk,hok1,hok2⟩
 (try refine zy ?_)
 refine yac rfl (fun h=>?_) (fun h=>?_)
 ·simp at h
  obtain ⟨x,hx⟩:=ycd (show k < g.ids.length by omega)
  obtain ⟨ls,hls⟩:=ycd h
  have hll:=hl3 ls (List.mem_of_getElem? hls)
  (repeat (first|refine zy ?_|refine yad rfl rfl (zcc _ _ _) rfl rfl ?_))
  refine yax 35 rfl (fun h3=>?_) (fun h3=>?_)
  ·(try refine zy ?_)
   refine yaf ?_;refine ⟨_,rfl,?_⟩
   exact yan (zaf (zef hx (by simp [inB] at h3;simp [idB];omega))).symm
  simp [inB] at h3
  (try refine zy ?_)
  refine yax 45 rfl (fun h4=>?_) (fun h4=>?_)
  ·simp at h4
   (try refine zy ?_)
   refine yaf ?_;refine ⟨_,rfl,?_⟩
   refine yan (zag hls ?_).symm
   rw [← Bool.not_eq_true]
   intro h5
   have:=yeg h h5
   omega
  simp at h4
  (repeat (first|refine zy ?_|refine yad rfl rfl (linksValid_con ls k g.ports.length (by omega) (by omega)) rfl rfl ?_))
  refine yac rfl (fun h5=>?_) (fun h5=>?_)
  ·(try refine zy ?_)
   refine yaf ?_;refine ⟨_,rfl,?_⟩
   exact yan (zag hls (by simpa using h5)).symm
  simp at h5
  (try refine zy ?_)
  refine yeu (α:=Nat) (fun j=>[(5,i64 j),(4,i64 k),(3,i64 g.ports.length),(1,.lp 1 0)]) (fun k=>[(1,some (.cells [yam g.ids,ybj g.ports]))]) (fun j=>k - j) (fun j=>j≤k∧x ∉ g.ids.take j) 0 ⟨by omega,by simp⟩ (by exact zs) (by exact zh) ?_
  intro j ⟨hj,hjo⟩
  (try refine zy ?_)
  refine yac rfl (fun h6=>?_) (fun h6=>?_)
  ·simp at h6
   obtain ⟨y,hy⟩:=ycd (show j < g.ids.length by omega)
   (try refine zy ?_)
   refine yac rfl (fun h7=>?_) (fun h7=>?_)
   ·simp at h7
    (try refine zy ?_)
    refine yaf ?_;refine ⟨_,rfl,?_⟩
    refine yan (zaf (zbz hx ?_)).symm
    subst h7
    exact List.mem_of_getElem? (show (g.ids.take k)[j]?=some y by rw [List.getElem?_take,if_pos h6];exact hy)
   ·simp at h7
    (try refine zy ?_)
    refine rnd (j+1) ⟨by omega,?_⟩ (by omega) (by exact zs) (by exact zh)
    rw [yka hy]
    simp only [List.mem_append,List.mem_singleton,not_or]
    exact ⟨hjo,fun e=>h7 e.symm⟩
  ·simp at h6
   obtain rfl:j=k:=by omega
   (try refine zy ?_)
   refine rnd (j+1) ⟨by omega,zhi hx hok1 (by simp [idB];omega) hjo,fun v ls' hv hls'=>?_⟩ (by omega) (by exact zs) (by exact zh)
   rcases Nat.lt_or_ge v j with h8|h8
   ·exact hok2 v ls' h8 hls'
   ·obtain rfl:v=j:=by omega
    rw [hls] at hls';cases hls';exact h5
 ·simp at h
  obtain rfl:k=g.ports.length:=by omega
  have hids:zjp g.ids=true:=by rw [show g.ports.length=g.ids.length by omega,List.take_length] at hok1;exact hok1
  have hports:yzq g.ports=true:=by rw [ygm];exact fun v ls hv=>hok2 v ls (List.getElem?_eq_some_iff.1 hv).1 hv
  clear hok1 hok2
  (try refine zy ?_)
  refine yeu (α:=Nat) (fun k=>[(6,i64 k),(3,i64 g.ports.length),(1,.lp 1 0)]) (fun k=>[(1,some (.cells [yam g.ids,ybj g.ports]))]) (fun k=>g.ports.length - k) (fun k=>k≤g.ports.length∧∀ (v:Nat) (ls:List Lk),v < k→g.ports[v]?=some ls→∀ l∈ls,yey (g.ports.getD l.1.toNat []) v=l.2) 0 ⟨by omega,by omega⟩ (by exact zs) (by exact zh) ?_
  intro k ⟨hk,hok⟩
  (try refine zy ?_)
  refine yac rfl (fun h3=>?_) (fun h3=>?_)
  ·simp at h3
   obtain ⟨ls,hls⟩:=ycd h3
   have hll:=hl3 ls (List.mem_of_getElem? hls)
   (try refine zy ?_)
   refine yeu (α:=Nat) (fun i=>[(7,i64 i),(6,i64 k),(3,i64 g.ports.length),(1,.lp 1 0)]) (fun k=>[(1,some (.cells [yam g.ids,ybj g.ports]))]) (fun i=>ls.length - i) (fun i=>i≤ls.length∧∀ l∈ls.take i,yey (g.ports.getD l.1.toNat []) k=l.2) 0 ⟨by omega,by simp⟩ (by exact zs) (by exact zh) ?_
   intro i ⟨hi,hio⟩
   (try refine zy ?_)
   refine yac rfl (fun h4=>?_) (fun h4=>?_)
   ·simp at h4
    obtain ⟨l,hlk⟩:=ycd h4
    have hlb:=(ybs _ _ _).1 (((ybo _ _ _).1 ((ygm _).1 hports k ls hls)).1 l (List.mem_of_getElem? hlk))
    obtain ⟨os,hos⟩:=ycd (show l.1.toNat < g.ports.length by omega)
    have hol:=hl3 os (List.mem_of_getElem? hos)
    have hgd:g.ports.getD l.1.toNat []=os:=by rw [List.getD_eq_getElem?_getD,hos];rfl
    (repeat (first|refine zy ?_|refine yad rfl rfl (port_con g l.1 k os (by omega) hos (by omega)) rfl rfl ?_))
    rcases yoc os k with ⟨hp,hpn⟩|⟨q,y,hp,hy,hyk,hfd⟩
    ·refine yax 102 rfl (fun h5=>?_) (fun h5=>?_)
     ·(try refine zy ?_)
      refine yaf ?_;refine ⟨_,rfl,?_⟩
      refine yan (zjl hls (List.mem_of_getElem? hlk) ?_).symm
      rw [hgd,zai hpn]
      omega
     ·rw [hp] at h5;simp at h5
    ·have hwt:=zaj hfd
     refine yax 102 rfl (fun h5=>?_) (fun h5=>?_)
     ·rw [hp] at h5;simp at h5;omega
     ·rw [hp]
      (try refine zy ?_)
      refine yac rfl (fun h6=>?_) (fun h6=>?_)
      ·(try refine zy ?_)
       refine yaf ?_;refine ⟨_,rfl,?_⟩
       refine yan (zjl hls (List.mem_of_getElem? hlk) ?_).symm
       rw [hgd,hwt]
       simpa using h6
      ·simp at h6
       (try refine zy ?_)
       refine rnd (i+1) ⟨by omega,fun z hz=>?_⟩ (by omega) (by exact zs) (by exact zh)
       rw [yka hlk] at hz
       rcases List.mem_append.1 hz with hz|hz
       ·exact hio z hz
       ·simp at hz;subst hz;rw [hgd,hwt,h6]
   ·simp at h4
    obtain rfl:i=ls.length:=by omega
    rw [List.take_length] at hio
    (try refine zy ?_)
    refine rnd (k+1) ⟨by omega,fun v ls' hv hls'=>?_⟩ (by omega) (by exact zs) (by exact zh)
    rcases Nat.lt_or_ge v k with h8|h8
    ·exact hok v ls' h8 hls'
    ·obtain rfl:v=k:=by omega
     rw [hls] at hls';cases hls';exact hio
  ·simp at h3
   obtain rfl:k=g.ports.length:=by omega
   (try refine zy ?_)
   refine yaf ?_;refine ⟨_,rfl,?_⟩
   refine yan ?_
   rw [eq_comm,yhs]
   exact ⟨by omega,by omega,by omega,hids,hports,(ytm _).2 fun v ls hv=>hok v ls (List.getElem?_eq_some_iff.1 hv).1 hv⟩
end
section
open Go.RowKit Go.Maps Go.WideMaps
theorem xab:laidOutB Tryz.prog=true:=by kernel_rfl
theorem arr2:ArrKey Tryz.prog 107 3 2:=⟨Tryz.underlying107,by kernel_rfl,by kernel_rfl,by kernel_rfl⟩
theorem wide2:(match Tryz.prog.underlying 107 with|some (.array _ _)|some (.struct _)=>true|_=>false)=true:=by rw [Tryz.underlying107]
theorem row2:(107:TypeId) < Tryz.prog.types.size:=of_decide_eq_true (by kernel_rfl)
theorem znn:Keyed Tryz.prog 107:=Keyed.of_law (deep_law_laid xab (m:=2) (by omega) row2 (by kernel_rfl) wide2)
def zam (v u:Int):Value:=.agg #[.int .i64 v,.int .i64 u]
theorem ysm {a b c d:Int} (h:zam a b=zam c d):a=c∧b=d:=by
 unfold zam at h;simpa using h
theorem zpl:∃ m,Tryz.prog.types.size=m+1:=by
 have h:0 < Tryz.prog.types.size:=of_decide_eq_true (by kernel_rfl)
 exact ⟨Tryz.prog.types.size - 1,by omega⟩
theorem zpq {x:Int} (h:0≤x∧x≤5000):(Lit.int .i64 x).wf=true:=by
 have e1:IntKind.i64.min=-9223372036854775808:=by decide
 have e2:IntKind.i64.max=9223372036854775807:=by decide
 simp only [Lit.wf,Bool.and_eq_true,decide_eq_true_eq]
 omega
theorem yxb {v u:Int} (hv:0≤v∧v≤5000) (hu:0≤u∧u≤5000):∃ l,keyOf Tryz.prog 107 (zam v u)=some l:=
 ⟨_,keyOf_pair arr2 Tryz.underlying3 zpl (zpq hv) (zpq hu)⟩
theorem zyz:∀ w,(zeroValue 3).run Tryz.prog w=.ok (.int .i64 0) w:=fun w=>by kernel_rfl
def zpt (ports:List (List Lk)) (k i:Nat) (e:Value × Value):Prop:=∃ (v j:Nat) (ls:List Lk) (l:Lk),ports[v]?=some ls∧ls[j]?=some l∧(v < k∨(v=k∧j < i))∧e=(zam v l.1,.int .i64 l.2)
theorem ent_next {ports:List (List Lk)} {k i:Nat} {ls:List Lk} {l:Lk} {es:List (Value × Value)} (hls:ports[k]?=some ls) (hl:ls[i]?=some l) (h:∀ e,e∈es↔zpt ports k i e) (e:Value × Value):e∈es++[(zam k l.1,.int .i64 l.2)]↔zpt ports k (i+1) e:=by
 rw [List.mem_append,h e,List.mem_singleton]
 constructor
 ·rintro (⟨v,j,ls',l',h1,h2,h3,h4⟩|rfl)
  ·exact ⟨v,j,ls',l',h1,h2,by omega,h4⟩
  ·exact ⟨k,i,ls,l,hls,hl,.inr ⟨rfl,by omega⟩,rfl⟩
 ·rintro ⟨v,j,ls',l',h1,h2,h3,h4⟩
  by_cases hvj:v=k∧j=i
  ·obtain ⟨rfl,rfl⟩:=hvj
   rw [hls] at h1;cases h1
   rw [hl] at h2;cases h2
   exact .inr h4
  ·exact .inl ⟨v,j,ls',l',h1,h2,by omega,h4⟩
theorem ent_row {ports:List (List Lk)} {k:Nat} {ls:List Lk} (hls:ports[k]?=some ls) (e:Value × Value):zpt ports k ls.length e↔zpt ports (k+1) 0 e:=by
 constructor
 ·rintro ⟨v,j,ls',l',h1,h2,h3,h4⟩
  exact ⟨v,j,ls',l',h1,h2,by omega,h4⟩
 ·rintro ⟨v,j,ls',l',h1,h2,h3,h4⟩
  refine ⟨v,j,ls',l',h1,h2,?_,h4⟩
  rcases Nat.lt_or_ge v k with h|h
  ·exact .inl h
  ·obtain rfl:v=k:=by omega
   rw [hls] at h1;cases h1
   exact .inr ⟨rfl,(List.getElem?_eq_some_iff.1 h2).1⟩
theorem zny {n v:Nat} {ls:List Lk} (h:ydz n v ls=true) {i j:Nat} {a b:Lk} (hi:ls[i]?=some a) (hj:ls[j]?=some b) (he:a.1=b.1):i=j:=by
 have hn:=((ybo _ _ _).1 h).2
 have g1:=List.getElem?_eq_some_iff.1 hi
 have g2:=List.getElem?_eq_some_iff.1 hj
 rcases Nat.lt_trichotomy i j with h1|h1|h1
 ·have:=(List.pairwise_iff_getElem.1 hn) i j (by simpa using g1.1) (by simpa using g2.1) h1
  simp [g1.2,g2.2,he] at this
 ·exact h1
 ·have:=(List.pairwise_iff_getElem.1 hn) j i (by simpa using g2.1) (by simpa using g1.1) h1
  simp [g1.2,g2.2,he] at this
def zyv (ports:List (List Lk)):Bool:=yzq ports && zyu ports
theorem yje {ports:List (List Lk)} {v:Nat} {ls:List Lk} (hv:ports[v]?=some ls) (h:ydz ports.length v ls=false):zyv ports=false:=by
 unfold zyv
 rw [← Bool.not_eq_true,Bool.and_eq_true,ygm];intro h1;rw [h1.1 v ls hv] at h;cases h
theorem symG_sym {ports:List (List Lk)} {v:Nat} {ls:List Lk} {l:Lk} (hv:ports[v]?=some ls) (hl:l∈ls) (h:yey (ports.getD l.1.toNat []) v≠l.2):zyv ports=false:=by
 unfold zyv
 rw [← Bool.not_eq_true,Bool.and_eq_true,ytm];intro h1;exact h (h1.2 v ls hv l hl)
theorem symmetric_con (ports:List (List Lk)) (hn:ports.length≤30) (hp:∀ l∈ports,l.length≤5000):Con Tryz.prog 216 [ybj ports] (ybq (zyv ports)):=by
 refine yao Tryz.func216 rfl rfl Tryz.ntmps216 Tryz.results216 rfl rfl ?_
 (repeat (first|refine zy ?_|refine yxq rfl rfl rfl rfl rfl ?_))
 refine yeu (α:=Nat × List (Value × Value)) (fun s=>[(16,i64 s.1),(15,i64 ports.length),(14,ybj ports),(0,ybj ports),(3,.mp 13)]) (fun s=>[(13,some (.map s.2))]) (fun s=>ports.length - s.1)
  (fun s=>s.1≤ports.length∧(∀ (v:Nat) (ls:List Lk),v < s.1→ports[v]?=some ls→ydz ports.length v ls=true)∧∀ e,e∈s.2↔zpt ports s.1 0 e) (0,[]) ⟨by omega,by omega,fun e=>by simp;rintro ⟨v,j,_,_,_,_,h,_⟩;omega⟩ (by exact zs) (by exact zh) ?_
 rintro ⟨k,es⟩ ⟨hk,hok,hes⟩
 simp only at hk hok hes
 (try refine zy ?_)
 refine yac rfl (fun h=>?_) (fun h=>?_)
 ·simp at h
  obtain ⟨ls,hls⟩:=ycd h
  have hll:=hp ls (List.mem_of_getElem? hls)
  (try refine zy ?_)
  refine yeu (α:=Nat × List (Value × Value)) (fun s=>[(23,i64 s.1),(22,i64 ls.length),(21,yin ls),(4,i64 k),(16,i64 k),(15,i64 ports.length),(14,ybj ports),(0,ybj ports),(3,.mp 13)]) (fun s=>[(13,some (.map s.2))]) (fun s=>ls.length - s.1)
   (fun s=>s.1≤ls.length∧ydz ports.length k (ls.take s.1)=true∧∀ e,e∈s.2↔zpt ports k s.1 e) (0,es) ⟨by omega,rfl,hes⟩ (by exact zs) (by exact zh) ?_
  rintro ⟨i,es'⟩ ⟨hi,hio,hes'⟩
  simp only at hi hio hes'
  (try refine zy ?_)
  refine yac rfl (fun h1=>?_) (fun h1=>?_)
  ·simp at h1
   obtain ⟨l,hl⟩:=ycd h1
   (try refine zy ?_)
   refine yax 30 rfl (fun h2=>?_) (fun h2=>?_)
   ·simp at h2
    (try refine zy ?_)
    refine yaf ?_;refine ⟨_,rfl,?_⟩
    exact yan (yje hls (ygl hl (by rw [← Bool.not_eq_true,ybs];omega))).symm
   simp at h2
   (try refine zy ?_)
   refine yax 37 rfl (fun h3=>?_) (fun h3=>?_)
   ·simp at h3
    (try refine zy ?_)
    refine yaf ?_;refine ⟨_,rfl,?_⟩
    exact yan (yje hls (ygl hl (by rw [← Bool.not_eq_true,ybs];omega))).symm
   simp at h3
   (try refine zy ?_)
   refine yac rfl (fun h4=>?_) (fun h4=>?_)
   ·simp at h4
    (try refine zy ?_)
    refine yaf ?_;refine ⟨_,rfl,?_⟩
    exact yan (yje hls (ygl hl (by rw [← Bool.not_eq_true,ybs];omega))).symm
   simp at h4
   (try refine zy ?_)
   refine yax 46 rfl (fun h5=>?_) (fun h5=>?_)
   ·simp at h5
    (try refine zy ?_)
    refine yaf ?_;refine ⟨_,rfl,?_⟩
    exact yan (yje hls (ygl hl (by rw [← Bool.not_eq_true,ybs];omega))).symm
   simp at h5
   (try refine zy ?_)
   refine yac rfl (fun h6=>?_) (fun h6=>?_)
   ·simp at h6
    (try refine zy ?_)
    refine yaf ?_;refine ⟨_,rfl,?_⟩
    exact yan (yje hls (ygl hl (by rw [← Bool.not_eq_true,ybs];omega))).symm
   simp at h6
   have hlk:zho ports.length k l=true:=by rw [ybs];omega
   have hks:∀ e∈es',∃ q,keyOf Tryz.prog 107 e.1=some q:=by
    intro e he
    obtain ⟨v,j,ls',l',g1,g2,g3,rfl⟩:=(hes' e).1 he
    have hv:=(List.getElem?_eq_some_iff.1 g1).1
    have hl':0≤l'.1∧l'.1 < ports.length:=by
     rcases g3 with g3|⟨rfl,g3⟩
     ·have:=(ybs _ _ _).1 (((ybo _ _ _).1 (hok v ls' g3 g1)).1 l' (List.mem_of_getElem? g2))
      omega
     ·rw [hls] at g1;cases g1
      have:=(ybs _ _ _).1 (((ybo _ _ _).1 hio).1 l' (List.mem_of_getElem? (show (ls.take i)[j]?=some l' by rw [List.getElem?_take,if_pos g3];exact g2)))
      omega
    exact yxb (by omega) (by omega)
   obtain ⟨kl,hkl⟩:=yxb (v:=k) (u:=l.1) (by omega) (by omega)
   (try refine zy ?_)
   by_cases hdup:∃ (j:Nat) (y:Lk),j < i∧ls[j]?=some y∧y.1=l.1
   ·obtain ⟨j,y,g1,g2,g3⟩:=hdup
    refine yhh (v:=.int .i64 y.2) (okb:=true) Tryz.underlying315 znn rfl rfl rfl rfl hks hkl zyz ?_ rfl rfl ?_
    ·refine .hit ⟨(zam k y.1,.int .i64 y.2),(hes' _).2 ⟨k,j,ls,y,hls,g2,.inr ⟨rfl,g1⟩,rfl⟩,by rw [g3];rfl⟩ ?_
     intro e he hek
     obtain ⟨v,j',ls',l',q1,q2,q3,rfl⟩:=(hes' e).1 he
     have:=ysm (show zam v l'.1=zam k l.1 from hek)
     obtain rfl:v=k:=by omega
     rw [hls] at q1;cases q1
     have hj':j' < i:=by omega
     have:=zny hio (show (ls.take i)[j']?=some l' by rw [List.getElem?_take,if_pos hj'];exact q2) (show (ls.take i)[j]?=some y by rw [List.getElem?_take,if_pos g1];exact g2) (by omega)
     subst this
     rw [g2] at q2;cases q2;rfl
    (try refine zy ?_)
    refine yaf ?_;refine ⟨_,rfl,?_⟩
    exact yan (yje hls (yvs g1 g2 hl g3)).symm
   ·have hmiss:∀ e∈es',e.1≠zam k l.1:=by
     intro e he hek
     obtain ⟨v,j',ls',l',q1,q2,q3,rfl⟩:=(hes' e).1 he
     have:=ysm (show zam v l'.1=zam k l.1 from hek)
     obtain rfl:v=k:=by omega
     rw [hls] at q1;cases q1
     exact hdup ⟨j',l',by omega,q2,by omega⟩
    refine yhh (v:=.int .i64 0) (okb:=false) Tryz.underlying315 znn rfl rfl rfl rfl hks hkl zyz (.miss hmiss) rfl rfl ?_
    (try refine zy ?_)
    refine yqr Tryz.underlying315 znn rfl rfl rfl rfl rfl rfl hks hkl hmiss rfl rfl ?_
    (try refine zy ?_)
    refine rnd (i+1,es'++[(zam k l.1,.int .i64 l.2)]) ⟨by simp only;omega,yyu hl hio hlk (fun j y hj hy he=>hdup ⟨j,y,hj,hy,he⟩),ent_next hls hl hes'⟩ (by simp only;omega) (by exact zs) (by exact zh)
  ·simp at h1
   obtain rfl:i=ls.length:=by omega
   rw [List.take_length] at hio
   (try refine zy ?_)
   refine rnd (k+1,es') ⟨by simp only;omega,fun v ls' hv hls'=>?_,fun e=>(hes' e).trans (ent_row hls e)⟩ (by simp only;omega) (by exact zs) (by exact zh)
   simp only at hv
   rcases Nat.lt_or_ge v k with h8|h8
   ·exact hok v ls' h8 hls'
   ·obtain rfl:v=k:=by omega
    rw [hls] at hls';cases hls';exact hio
 ·simp at h
  obtain rfl:k=ports.length:=by omega
  have hports:yzq ports=true:=by rw [ygm];exact fun v ls hv=>hok v ls (List.getElem?_eq_some_iff.1 hv).1 hv
  have hent:∀ e,e∈es↔∃ (v:Nat) (ls:List Lk) (l:Lk),ports[v]?=some ls∧l∈ls∧e=(zam v l.1,.int .i64 l.2):=by
   intro e
   rw [hes e]
   constructor
   ·rintro ⟨v,j,ls,l,g1,g2,_,g4⟩;exact ⟨v,ls,l,g1,List.mem_of_getElem? g2,g4⟩
   ·rintro ⟨v,ls,l,g1,g2,g3⟩
    obtain ⟨j,hj⟩:=List.getElem?_of_mem g2
    exact ⟨v,j,ls,l,g1,hj,.inl (List.getElem?_eq_some_iff.1 g1).1,g3⟩
  have hlb:∀ (v:Nat) (ls:List Lk) (l:Lk),ports[v]?=some ls→l∈ls→0≤l.1∧l.1 < ports.length∧1≤l.2∧l.2≤15:=by
   intro v ls l hv hl
   have:=(ybs _ _ _).1 (((ybo _ _ _).1 ((ygm _).1 hports v ls hv)).1 l hl)
   omega
  have hks:∀ e∈es,∃ q,keyOf Tryz.prog 107 e.1=some q:=by
   intro e he
   obtain ⟨v,ls,l,g1,g2,rfl⟩:=(hent e).1 he
   have:=hlb v ls l g1 g2
   have hv:=(List.getElem?_eq_some_iff.1 g1).1
   exact yxb (by omega) (by omega)
  clear hok hes
  repeat (first|refine ybf ?_|refine ybp ?_)
  refine A_freezeMap 3 rfl rfl rfl rfl ?_
  (repeat (first|refine zy ?_|refine L_range Tryz.underlying315 rfl rfl rfl rfl rfl rfl ?_))
  refine yeu (α:=List (Value × Value) × Option (Value × Value)) (fun s=>[(69,.lp 69 0),(3,.mv es)]) (fun s=>[(69,some (.iter es s.1 s.2))]) (fun s=>s.1.length)
   (fun s=>(∀ p∈s.1,p∈es)∧∀ (v:Nat) (ls:List Lk) (l:Lk),ports[v]?=some ls→l∈ls→(zam v l.1,Value.int .i64 l.2)∈s.1∨yey (ports.getD l.1.toNat []) v=l.2) (es,none) ⟨fun p h=>h,fun v ls l hv hl=>.inl ((hent _).2 ⟨v,ls,l,hv,hl,rfl⟩)⟩ (by exact zs) (by exact zh) ?_
  rintro ⟨left,cur⟩ ⟨hl1,hl2⟩
  simp only at hl1 hl2
  (try refine zy ?_)
  refine L_next rfl rfl rfl rfl rfl (fun hnil=>?_) (fun p left' hperm=>?_)
  ·(try refine zy ?_)
   refine yaf ?_;refine ⟨_,rfl,?_⟩
   subst hnil
   refine yan ?_
   unfold zyv
   rw [eq_comm,Bool.and_eq_true,ytm]
   exact ⟨hports,fun v ls hv l hl=>(hl2 v ls l hv hl).resolve_left (by simp)⟩
  ·have hp1:=hl1 p (hperm.symm.subset (by simp))
   obtain ⟨v,ls,l,g1,g2,rfl⟩:=(hent p).1 hp1
   have hlv:=hlb v ls l g1 g2
   have hv:=(List.getElem?_eq_some_iff.1 g1).1
   obtain ⟨os,hos⟩:=ycd (show l.1.toNat < ports.length by omega)
   have hgd:ports.getD l.1.toNat []=os:=by rw [List.getD_eq_getElem?_getD,hos];rfl
   have hcast:((l.1.toNat:Nat):Int)=l.1:=by omega
   obtain ⟨kl,hkl⟩:=yxb (v:=l.1) (u:=v) (by omega) (by omega)
   have hfound:∃ b,Found (.int .i64 0) es (zam l.1 v) (.int .i64 (yey os v)) b:=by
    rcases yoc os v with ⟨_,hpn⟩|⟨q,y,_,hy,hyk,hfd⟩
    ·refine ⟨false,?_⟩
     rw [zai hpn]
     refine .miss fun e he hek=>?_
     obtain ⟨v',ls',l',q1,q2,rfl⟩:=(hent e).1 he
     have:=ysm (show zam v' l'.1=zam l.1 v from hek)
     obtain rfl:v'=l.1.toNat:=by omega
     rw [hos] at q1;cases q1
     exact hpn l' q2 this.2
    ·refine ⟨true,?_⟩
     rw [zaj hfd]
     refine .hit ⟨(zam l.1 y.1,.int .i64 y.2),(hent _).2 ⟨l.1.toNat,os,y,hos,List.mem_of_getElem? hy,by rw [hcast]⟩,by rw [hyk]⟩ fun e he hek=>?_
     obtain ⟨v',ls',l',q1,q2,rfl⟩:=(hent e).1 he
     have:=ysm (show zam v' l'.1=zam l.1 v from hek)
     obtain rfl:v'=l.1.toNat:=by omega
     rw [hos] at q1;cases q1
     obtain ⟨j,hj⟩:=List.getElem?_of_mem q2
     have:=zny ((ygm _).1 hports _ _ hos) hj hy (by omega)
     subst this
     rw [hy] at hj;cases hj;rfl
   obtain ⟨fb,hfound⟩:=hfound
   (repeat (first|refine zy ?_|refine L_entry rfl rfl rfl rfl ?_))
   refine L_lookup_mv Tryz.underlying315 znn rfl rfl rfl hks hkl zyz hfound rfl rfl ?_
   (try refine zy ?_)
   refine yac rfl (fun h1=>?_) (fun h1=>?_)
   ·simp at h1
    (try refine zy ?_)
    refine yaf ?_;refine ⟨_,rfl,?_⟩
    exact yan (symG_sym g1 g2 (by rw [hgd];exact h1)).symm
   ·simp at h1
    (try refine zy ?_)
    refine rnd (left',some (zam v l.1,.int .i64 l.2)) ⟨fun q hq=>hl1 q (hperm.symm.subset (by simp [hq])),fun v' ls' l' hv' hl'=>?_⟩ (by have:=hperm.length_eq;simp only [List.length_cons] at this;simp only;omega) (by exact zs) (by exact zh)
    rcases hl2 v' ls' l' hv' hl' with hq|hq
    ·rcases List.mem_cons.1 (hperm.subset hq) with he|he
     ·right
      simp only [Prod.mk.injEq,Value.int.injEq,true_and] at he
      have:=ysm he.1
      obtain rfl:v'=v:=by omega
      rw [this.2,hgd,h1,he.2]
     ·exact .inl he
    ·exact .inr hq
theorem gvalid_con' (g:GraphD) (hl:xbw g):Con Tryz.prog 163 [ypu g] (ybq (ycy g)):=by
 obtain ⟨hl1,hl2,hl3⟩:=hl
 refine yao Tryz.func163 rfl rfl Tryz.ntmps163 Tryz.results163 rfl rfl ?_
 (try refine zy ?_)
 refine yax 9 rfl (fun h1=>?_) (fun h1=>?_)
 ·simp at h1
  (try refine zy ?_)
  refine yaf ?_;refine ⟨_,rfl,?_⟩
  exact yan (yoo (by omega)).symm
 simp at h1
 (try refine zy ?_)
 refine yax 13 rfl (fun h2=>?_) (fun h2=>?_)
 ·simp at h2
  (try refine zy ?_)
  refine yaf ?_;refine ⟨_,rfl,?_⟩
  exact yan (yoo (by omega)).symm
 simp at h2
 (try refine zy ?_)
 refine yac rfl (fun h3=>?_) (fun h3=>?_)
 ·simp at h3
  (try refine zy ?_)
  refine yaf ?_;refine ⟨_,rfl,?_⟩
  exact yan (yoo (by omega)).symm
 simp at h3
 (repeat (first|refine zy ?_|refine yad rfl rfl (differentIDs_con g.ids (by omega)) rfl rfl ?_))
 refine yax 23 rfl (fun h4=>?_) (fun h4=>?_)
 ·(repeat (first|refine zy ?_|refine yad rfl rfl (symmetric_con g.ports (by omega) hl3) rfl rfl ?_))
  refine yaf ?_;refine ⟨_,rfl,?_⟩
  refine yan ?_
  rw [Bool.eq_iff_iff,yhs]
  unfold zyv
  rw [Bool.and_eq_true]
  constructor
  ·intro h5;exact ⟨by omega,by omega,by omega,h4,h5⟩
  ·intro h5;exact h5.2.2.2.2
 ·(try refine zy ?_)
  refine yaf ?_;refine ⟨_,rfl,?_⟩
  exact yan (zaf h4).symm
theorem rvalid_con (g:GraphD) (hl:yvr g=true):Con Tryz.prog 26 [ypu g] (ybq (ycy g)):=rvalid_con' g (ztf hl)
theorem gvalid_con (g:GraphD) (hl:yvr g=true):Con Tryz.prog 163 [ypu g] (ybq (ycy g)):=gvalid_con' g (ztf hl)
end
section
open Go.RowKit Go.Maps
def zwn (r:RuleD):Bool:=decide (r.name.size≤40) && (decide (r.sets.length≤10) && (decide (r.guard.length≤250) && r.sets.all (fun s=>decide (s.val.length≤250))))
def zsy (p:ProgD):Bool:=decide (p.name.size≤40) && (decide (p.vars.length≤10) && (decide (p.rules.length≤16) && (p.vars.all (fun x=>decide (x.name.size≤40)) && p.rules.all zwn)))
theorem znr {p:ProgD} (h:zsy p=true):zfx p:=by
 unfold zsy at h
 simp only [Bool.and_eq_true,decide_eq_true_eq,List.all_eq_true] at h
 refine ⟨by omega,by omega,fun r hr=>?_⟩
 have:=h.2.2.2.2 r hr
 unfold zwn at this
 simp only [Bool.and_eq_true,decide_eq_true_eq,List.all_eq_true] at this
 exact ⟨by omega,by omega,fun s hs=>by have:=this.2.2.2 s hs;omega⟩
end
section
open Go.RowKit
theorem tvalid_con (p:ProgD) (hin:zbc p) (hl:zfx p):Con Tryz.prog 110 [zau p] (ybq (ydu p == 0)):=
 ygj ⟨_,Tryz.func110,rfl,rfl⟩ fun w us ok hok hr=>by
  obtain ⟨u,rfl,h1⟩:=ztw hr
  exact validP_any u p w (yzs h1 hok) hin hl
end
section
open Go.RowKit
theorem max_con (ids:List Int) (hlen:ids.length≤1000) (h1:1≤ids.length) (h0:∀ x∈ids,0≤x):Con Tryz.prog 166 [yam ids] (i64 (ybz ids)):=by
 obtain ⟨a,ha⟩:=ycd (show 0 < ids.length by omega)
 have ha0:=h0 a (List.mem_of_getElem? ha)
 refine yao Tryz.func166 rfl rfl Tryz.ntmps166 Tryz.results166 rfl rfl ?_
 (try refine zy ?_)
 refine yac rfl (fun h=>?_) (fun h=>?_)
 ·simp at h;omega
 (try refine zy ?_)
 refine yeu (α:=Nat) (fun k=>[(4,i64 k),(3,i64 (ybz (ids.take k))),(0,yam ids)]) (fun k=>[]) (fun k=>ids.length - k) (fun k=>1≤k∧k≤ids.length) 1 (by omega) ?_ (by exact zh) ?_
 ·refine ycr rfl (ycr ?_ (by exact zs))
  have e:ybz (ids.take 1)=a:=by
   rw [ylf ids 0 a ha]
   simp [ybz]
   omega
  rw [e];rfl
 intro k ⟨hk1,hk⟩
 (try refine zy ?_)
 refine yac rfl (fun h=>?_) (fun h=>?_)
 ·simp at h
  obtain ⟨x,hx⟩:=ycd h
  (try refine zy ?_)
  refine rnd (k+1) (by omega) (by omega) ?_ (by exact zh)
  refine ycr rfl (ycr ?_ (by exact zs))
  rw [ylf _ _ _ hx];rfl
 ·simp at h
  obtain rfl:k=ids.length:=by omega
  (try refine zy ?_)
  refine yaf ?_;refine ⟨_,rfl,?_⟩
  exact yai (by rw [List.take_length])
theorem zea {h:Nat→Option LObj} {a b a' b':Int} (e1:a=a') (e2:b=b'):Frz h (.tup [.v (.int .i64 a),.v (.int .i64 b)]) (.tup [i64 a',i64 b']):=by subst e1 e2;exact Frz.pure
def pairA (q:Int × Int):AV:=.tup [i64 q.1,i64 q.2]
theorem bounds1_con (x:VarD) (g:GraphD) (v:Int) (hx:yur x=true) (hg:ycy g=true):Con Tryz.prog 165 [.agg (yfv x),ypu g,i64 v] (.tup [i64 x.lo,i64 (x.hi+x.perNode * g.ports.length+x.perID * ybz g.ids)]):=by
 have hf:=yca hg
 have hn:=yju hx
 have ht:=zpi hx hg
 have hlen:(g.ids.length:Int)=g.ports.length:=by omega
 have ht2:0≤x.perNode * (g.ids.length:Int)∧x.perNode * (g.ids.length:Int)≤255 * 24:=by rw [hlen];omega
 refine yao Tryz.func165 rfl rfl Tryz.ntmps165 Tryz.results165 rfl rfl ?_
 (repeat (first|refine zy ?_|refine yad rfl rfl (max_con g.ids (by omega) (by omega) (fun y hy=>(hf.2.2.2.1 y hy).1)) rfl rfl ?_))
 refine yaf ?_;refine ⟨_,rfl,?_⟩
 exact zea rfl (by rw [hlen])
theorem bounds2_con (x:VarD) (g:GraphD) (v:Int):Con Tryz.prog 167 [.agg (yfv x),ypu g,i64 v] (.tup [i64 0,i64 1]):=by
 refine yao Tryz.func167 rfl rfl Tryz.ntmps167 Tryz.results167 rfl rfl ?_
 (try refine zy ?_)
 refine yaf ?_;refine ⟨_,rfl,?_⟩
 exact zea rfl rfl
theorem bounds3_con (x:VarD) (g:GraphD) (v:Int) (ls:List Lk) (h0:0≤v) (hv:g.ports[v.toNat]?=some ls) (hl:ls.length≤1000):Con Tryz.prog 168 [.agg (yfv x),ypu g,i64 v] (.tup [i64 (-1),i64 (ls.length - 1)]):=by
 refine yao Tryz.func168 rfl rfl Tryz.ntmps168 Tryz.results168 rfl rfl ?_
 (try refine zy ?_)
 refine yaf ?_;refine ⟨_,rfl,?_⟩
 exact zea rfl rfl
theorem zbg (x:VarD) (g:GraphD) (v:Int) (ls:List Lk) (hx:yur x=true) (hg:ycy g=true) (h0:0≤v) (hv:g.ports[v.toNat]?=some ls) (hl:ls.length≤1000) :
  Con Tryz.prog 99 [.agg (yfv x),ypu g,i64 v] (pairA (yba x g ls.length)):=by
 have hn:=yju hx
 refine yao Tryz.func99 rfl rfl Tryz.ntmps99 Tryz.results99 rfl rfl ?_
 (try refine zy ?_)
 refine zqx (yoq ?_)
 (try refine zy ?_)
 refine ynn tok rfl rfl rfl (by omega) (row:=[i64 1,.fn 165 []]) rfl rfl rfl ?_
 (try refine zy ?_)
 refine yac rfl (fun h1=>?_) (fun h1=>?_)
 ·simp at h1
  (repeat (first|refine zy ?_|refine yad rfl rfl (bounds1_con x g v hx hg) rfl rfl ?_))
  refine yaf ?_;refine ⟨_,rfl,?_⟩
  unfold yba
  rw [if_neg (by omega),if_neg (by omega)]
  exact Frz.pure
 simp at h1
 (try refine zy ?_)
 refine yxr (t':=[(17,i64 1),(16,i64 3),(15,.sl 2 [[i64 1,.fn 165 []],[i64 2,.fn 167 []],[i64 3,.fn 168 []]]),(3,.lp 3 0),(4,.lp 4 0),(2,i64 v)]) (h':=[(3,some (.cells (yfv x))),(4,some (.cells [yam g.ids,ybj g.ports]))]) (yoq ?_) (by exact zs) (by exact zh)
 (try refine zy ?_)
 refine ynn tok rfl rfl rfl (by omega) (row:=[i64 2,.fn 167 []]) rfl rfl rfl ?_
 (try refine zy ?_)
 refine yac rfl (fun h2=>?_) (fun h2=>?_)
 ·simp at h2
  (repeat (first|refine zy ?_|refine yad rfl rfl (bounds2_con x g v) rfl rfl ?_))
  refine yaf ?_;refine ⟨_,rfl,?_⟩
  unfold yba
  rw [if_pos (by omega)]
  exact Frz.pure
 simp at h2
 (try refine zy ?_)
 refine yxr (t':=[(17,i64 2),(16,i64 3),(15,.sl 2 [[i64 1,.fn 165 []],[i64 2,.fn 167 []],[i64 3,.fn 168 []]]),(3,.lp 3 0),(4,.lp 4 0),(2,i64 v)]) (h':=[(3,some (.cells (yfv x))),(4,some (.cells [yam g.ids,ybj g.ports]))]) (yoq ?_) (by exact zs) (by exact zh)
 (try refine zy ?_)
 refine ynn tok rfl rfl rfl (by omega) (row:=[i64 3,.fn 168 []]) rfl rfl rfl ?_
 (try refine zy ?_)
 refine yac rfl (fun h3=>?_) (fun h3=>?_)
 ·simp at h3
  (repeat (first|refine zy ?_|refine yad rfl rfl (bounds3_con x g v ls h0 hv hl) rfl rfl ?_))
  refine yaf ?_;refine ⟨_,rfl,?_⟩
  unfold yba
  rw [if_neg (by omega),if_pos (by omega)]
  exact Frz.pure
 ·simp at h3
  omega
end
section
open Go.RowKit
theorem bring_con (kind lo hi value:Int):Con Tryz.prog 201 [i64 kind,.agg [i64 lo,i64 hi],i64 value] (i64 (ylq kind lo hi value)):=by
 refine yao Tryz.func201 rfl rfl Tryz.ntmps201 Tryz.results201 rfl rfl ?_
 (try refine zy ?_)
 refine yax 12 rfl (fun h1=>?_) (fun h1=>?_)
 ·simp at h1
  (try refine zy ?_)
  refine yac rfl (fun h2=>?_) (fun h2=>?_)
  ·simp at h2
   (try refine zy ?_)
   refine yaf ?_;refine ⟨_,rfl,?_⟩
   exact yai (by unfold ylq;rw [if_pos ⟨h1,h2⟩])
  simp at h2
  (try refine zy ?_)
  refine yac rfl (fun h3=>?_) (fun h3=>?_)
  ·simp at h3
   (try refine zy ?_)
   refine yaf ?_;refine ⟨_,rfl,?_⟩
   exact yai (by unfold ylq;rw [if_neg (by omega),if_pos h3])
  simp at h3
  (try refine zy ?_)
  refine yac rfl (fun h4=>?_) (fun h4=>?_)
  ·simp at h4;omega
  ·(try refine zy ?_)
   refine yaf ?_;refine ⟨_,rfl,?_⟩
   exact yai (by unfold ylq;rw [if_neg (by omega),if_neg h3,if_neg (by omega)])
 ·simp at h1
  (try refine zy ?_)
  refine yac rfl (fun h3=>?_) (fun h3=>?_)
  ·simp at h3
   (try refine zy ?_)
   refine yaf ?_;refine ⟨_,rfl,?_⟩
   exact yai (by unfold ylq;rw [if_neg (by omega),if_pos h3])
  simp at h3
  (try refine zy ?_)
  refine yac rfl (fun h4=>?_) (fun h4=>?_)
  ·(try refine zy ?_)
   refine yaf ?_;refine ⟨_,rfl,?_⟩
   exact yai (by unfold ylq;rw [if_neg (by omega),if_neg h3,if_pos h1])
  ·simp at h4;omega
structure Fair (p:ProgD) (g:GraphD):Prop where
 pin:zbc p
 light:zfx p
 lg:yvr g=true
theorem Fair.vlen {p:ProgD} {g:GraphD} (h:Fair p g):p.vars.length≤1000:=h.light.1
theorem Fair.glen {p:ProgD} {g:GraphD} (h:Fair p g):g.ids.length≤30∧g.ports.length≤30∧∀ l∈g.ports,l.length≤30:=(yiy g).1 h.lg
end
section
open Go.RowKit
theorem znc {p:ProgD} {g:GraphD} {y:VarD} (h1:ydu p=0) (h2:ycy g=true) (hy:y∈p.vars) (hb:zki g y=false):ygf p g=9:=by
 unfold ygf
 rw [if_pos h1,if_pos h2,if_neg]
 intro h
 rw [List.all_eq_true.1 h y hy] at hb;cases hb
theorem zdx (p:ProgD) (g:GraphD) (hf:Fair p g):Con Tryz.prog 97 [zau p,ypu g] (i64 (ygf p g)):=by
 have hgl:=hf.glen
 have hvl:=hf.vlen
 refine yao Tryz.func97 rfl rfl Tryz.ntmps97 Tryz.results97 rfl rfl ?_
 (repeat (first|refine zy ?_|refine yad rfl rfl (tvalid_con p hf.pin hf.light) rfl rfl ?_))
 refine yac rfl (fun h1=>?_) (fun h1=>?_)
 ·simp at h1
  (try refine zy ?_)
  refine yaf ?_;refine ⟨_,rfl,?_⟩
  exact yai (by unfold ygf;rw [if_neg h1])
 simp at h1
 (repeat (first|refine zy ?_|refine yad rfl rfl (gvalid_con g hf.lg) rfl rfl ?_))
 refine yac rfl (fun h2=>?_) (fun h2=>?_)
 ·simp at h2
  (try refine zy ?_)
  refine yaf ?_;refine ⟨_,rfl,?_⟩
  exact yai (by unfold ygf;rw [if_pos h1,if_neg (by simp [h2])])
 simp at h2
 have hvf:=yca h2
 obtain ⟨ls,hls⟩:=ycd (show 0 < g.ports.length by omega)
 have hll:=hgl.2.2 ls (List.mem_of_getElem? hls)
 (try refine zy ?_)
 refine yeu (α:=Nat) (fun k=>[(18,i64 k),(17,i64 p.vars.length),(16,.sl 6 (p.vars.map yfv)),(2,.lp 2 0),(3,.lp 3 0)]) (fun k=>[(2,some (.cells [zqn p.name,.sl 6 (p.vars.map yfv),.sl 3 (p.rules.map yhk)])),(3,some (.cells [yam g.ids,ybj g.ports]))]) (fun k=>p.vars.length - k) (fun k=>k≤p.vars.length∧∀ y∈p.vars.take k,zki g y=true) 0 ⟨by omega,by simp⟩ (by exact zs) (by exact zh) ?_
 intro k ⟨hk,hok⟩
 (try refine zy ?_)
 refine yac rfl (fun h=>?_) (fun h=>?_)
 ·simp at h
  obtain ⟨y,hy⟩:=ycd h
  have hym:=List.mem_of_getElem? hy
  have hnum:=(yfe h1).2.2.2 y hym
  have hbd:=zgj (deg:=(ls.length:Int)) hnum h2 (by omega)
  have hstep:zki g y=true→∀ z∈p.vars.take (k+1),zki g z=true:=by
   intro hfy z hz
   rw [yka hy] at hz
   rcases List.mem_append.1 hz with hz|hz
   ·exact hok z hz
   ·simp at hz;subst hz;exact hfy
  (try refine zy ?_)
  refine yac rfl (fun h3=>?_) (fun h3=>?_)
  ·simp at h3
   (try refine zy ?_)
   refine rnd (k+1) ⟨by omega,hstep (by simp [zki,h3])⟩ (by omega) (by exact zs) (by exact zh)
  simp at h3
  have hsame:yba y g ls.length=yba y g 0:=by unfold yba;rw [if_neg (by omega),if_neg (by omega),if_neg (by omega),if_neg (by omega)]
  (repeat (first|refine zy ?_|refine yad rfl rfl (zbg y g 0 ls hnum h2 (by omega) hls (by omega)) rfl rfl ?_))
  refine yax 34 rfl (fun h4=>?_) (fun h4=>?_)
  ·simp at h4
   (try refine zy ?_)
   refine yaf ?_;refine ⟨_,rfl,?_⟩
   exact yai (znc h1 h2 hym (by rw [hsame] at h4;simp [zki,h3];omega)).symm
  simp at h4
  (try refine zy ?_)
  refine yac rfl (fun h5=>?_) (fun h5=>?_)
  ·simp at h5
   (try refine zy ?_)
   refine yaf ?_;refine ⟨_,rfl,?_⟩
   exact yai (znc h1 h2 hym (by rw [hsame] at h5;simp [zki,h3];omega)).symm
  ·simp at h5
   (try refine zy ?_)
   refine rnd (k+1) ⟨by omega,hstep (by rw [hsame] at h4 h5;simp [zki,h3];omega)⟩ (by omega) (by exact zs) (by exact zh)
 ·simp at h
  obtain rfl:k=p.vars.length:=by omega
  rw [List.take_length] at hok
  (try refine zy ?_)
  refine yaf ?_;refine ⟨_,rfl,?_⟩
  exact yai (ygx.2 ⟨h1,h2,hok⟩).symm
end
section
open Go.RowKit
end
section
open Go.RowKit
end
section
open Go.RowKit
theorem fit_ok {x:VarD} {g:GraphD} {deg:Int} (hf:zki g x=true) (hx:yur x=true) (hd:0≤deg∧deg≤30):(yba x g deg).1≤(yba x g deg).2∧(yba x g deg).2 - (yba x g deg).1+1≤4096:=by
 have h1:=yju hx
 unfold zki at hf
 unfold yba at hf ⊢
 rcases h1.1 with hk|hk|hk
 ·simp [hk] at hf ⊢;omega
 ·simp [hk]
 ·simp [hk];omega
theorem bring_in {k lo hi a:Int} (h:lo≤hi) (h3:k=3→lo=-1):lo≤ylq k lo hi a∧ylq k lo hi a≤hi:=by
 unfold ylq;split
 ·omega
 ·split
  ·omega
  ·split <;> omega
theorem yvh {x:VarD} {g:GraphD} {deg:Int} (h:x.kind=3):yba x g deg=(-1,deg - 1):=by unfold yba;rw [if_neg (by omega),if_pos h]
end
section
open Go.RowKit
def yem (l:List (Int × Int)):List AV:=(l.map yhj).flatten
theorem yyi (l:List (Int × Int)):(yem l).length=2 * l.length:=by
 unfold yem
 rw [yxl (k:=2) (fun x=>rfl)]
 omega
theorem zgy:∀ {l:List (Int × Int)} {i:Nat} {y:Int × Int},i < l.length→((yem l).set (i * 2) (i64 y.1)).set (i * 2+1) (i64 y.2)=yem (l.set i y)
 | [],i,y,h=>by simp at h
 | (a,b)::l,0,y,h=>by simp [yem,yhj]
 | (a,b)::l,i+1,y,h=>by
  have ih:=zgy (l:=l) (i:=i) (y:=y) (by simpa using h)
  have e:yem ((a,b)::l)=i64 a::i64 b::yem l:=by simp [yem,yhj]
  rw [List.set_cons_succ,e,show (i+1) * 2=i * 2+1+1 by omega,show i * 2+1+1+1=i * 2+1+1+1 from rfl]
  simp only [List.set_cons_succ]
  rw [ih]
  simp [yem,yhj]
theorem xcn:∀ n:Nat,yke n [i64 0,i64 0]=yem (List.replicate n (0,0))
 | 0=>rfl
 | n+1=>by simp [yke,xcn n,List.replicate_succ,yem,yhj]
def yaj (p:ProgD) (g:GraphD):List (List (Int × Int)):=g.ports.map fun ls=>p.vars.map fun y=>yba y g ls.length
def tF (p:ProgD) (g:GraphD):List (Nat × Option LObj):=[(3,some (.cells [yam g.ids,ybj g.ports])),(2,some (.cells [zqn p.name,.sl 6 (p.vars.map yfv),.sl 3 (p.rules.map yhk)]))]
def tF8 (p:ProgD) (g:GraphD) (y:VarD):List (Nat × Option LObj):=(8,some (.cells (yfv y)))::tF p g
theorem ypz {P:Program} {N:Nat} {c:Code} {Q:Exit→SS→Prop} {t t':List (Nat × AV)} {h h':List (Nat × Option LObj)} (k:A P N c Q (S t' h')) (h1:ywl t t') (h2:∀ id o,hlook h' id=some o→hlook h id=some o):A P N c Q (S t h):=ynm k ⟨ybv h1,h2⟩
theorem zvx {P:Program} {N:Nat} {x:Code} {Q:Exit→SS→Prop} {s:SS} (t0:List (Nat × AV)) (h0:List (Nat × Option LObj)) (k1:A P N x (Mid t0 h0) s) (k2:∀ s',Sub (S t0 h0) s'→Q .normal s'):A P N x Q s:=
 k1.mono fun e s ⟨he,hs⟩=>by subst he;exact k2 s hs
theorem yom (p:ProgD) (g:GraphD) (hf:Fair p g) (h0:ygf p g=0):Con Tryz.prog 47 [zau p,ypu g] (ydv (yaj p g)):=by
 have hgl:=hf.glen
 have hvl:=hf.vlen
 obtain ⟨hc0,hg,hfit⟩:=ygx.1 h0
 have hvf:=yca hg
 have htl:(yaj p g).length=g.ids.length:=by simp [yaj];omega
 refine yao Tryz.func47 rfl rfl Tryz.ntmps47 Tryz.results47 rfl rfl ?_
 (repeat (first|refine zy ?_|refine ylm tok rfl rfl rfl rfl (by constructor <;> omega) rfl rfl rfl rfl rfl ?_))
 refine ynl 12 (List.replicate g.ids.length yga) rfl (zlg _ _) ?_
 refine ycn (α:=Nat) (fun k=>[(15,i64 k),(14,i64 g.ids.length),(5,.ls 12 1 g.ids.length),(2,.lp 2 0),(3,.lp 3 0)]) (fun k=>tF p g++yce 12 2 ((yaj p g).take k |>.map yem) (List.replicate (g.ids.length - k) yga)) (fun k=>g.ids.length - k) (fun k=>k≤g.ids.length) 0 (by omega) (by exact zs) (yag (by simp only [List.take_zero,List.map_nil,yce,yev,yne,List.nil_append,Nat.sub_zero];exact zh)) ?_
 intro k hk
 (try refine zy ?_)
 refine yac rfl (fun h=>?_) (fun h=>?_)
 ·simp at h
  obtain ⟨ls,hls⟩:=ycd (show k < g.ports.length by omega)
  have hll:=hgl.2.2 ls (List.mem_of_getElem? hls)
  have htk:(((yaj p g).take k).map yem).length=k:=by simp;omega
  (repeat (first|refine zy ?_|refine zre tok (fam 12 k) rfl rfl rfl rfl (by constructor <;> omega) (yyo (f:=tF p g) rfl rfl rfl htk.symm (zen yga rfl _)) rfl rfl rfl ?_))
  refine yas tok rfl rfl (by rw [yaq (ydr (by omega))];exact ybt rfl) rfl (by omega) (by omega) rfl rfl ?_
  refine yki tok rfl rfl rfl rfl rfl (by rw [yaq (ydr (by omega))];exact ybt rfl) (by rw [List.length_append,ydf,htk,List.length_replicate];simp;omega) rfl rfl ?_
  refine zuz (h':=tF p g++yce 12 2 (((yaj p g).take k).map yem++[yem (List.replicate p.vars.length (0,0))]) (List.replicate (g.ids.length - (k+1)) yga)) ?_ ?_
  ·have hrep:yke p.vars.length (ygr [Value.int .i64 0,Value.int .i64 0])=yem (List.replicate p.vars.length (0,0)):=xcn _
   have hex:List.replicate (g.ids.length - k) yga=yga::List.replicate (g.ids.length - (k+1)) yga:=by rw [← List.replicate_succ];congr 1;omega
   rw [show ((k:Int).toNat * 1)=k by simp]
   exact zkt (M:=12) (sz:=2) (f:=tF p g) (a:=yga) rfl rfl rfl htk.symm (by rw [hrep,yyi];simp) hex (by rw [hrep])
  (try refine zy ?_)
  refine ycn (α:=Nat) (fun j=>[(28,i64 j),(27,i64 p.vars.length),(26,.sl 6 (p.vars.map yfv)),(6,i64 k),(15,i64 k),(14,i64 g.ids.length),(5,.ls 12 1 g.ids.length),(2,.lp 2 0),(3,.lp 3 0)]) (fun j=>tF p g++yce 12 2 (((yaj p g).take k).map yem++[yem ((p.vars.map fun y=>yba y g ls.length).take j++List.replicate (p.vars.length - j) (0,0))]) (List.replicate (g.ids.length - (k+1)) yga)) (fun j=>p.vars.length - j) (fun j=>j≤p.vars.length) 0 (by omega) (by exact zs) (hsE (by simp)) ?_
  intro j hj
  (try refine zy ?_)
  refine yac rfl (fun h2=>?_) (fun h2=>?_)
  ·simp at h2
   obtain ⟨y,hy⟩:=ycd (show j < p.vars.length by omega)
   (repeat (first|refine zw ?_|refine zdl tok rfl rfl rfl (yse (f:=tF p g) rfl rfl rfl (zer _ _ rfl _)) rfl rfl rfl ?_))
   -- ROUND
   have hyn:yur y=true:=(yfe hc0).2.2.2 y (List.mem_of_getElem? hy)
   obtain ⟨hlow8,houter⟩:zel (tF8 p g y)=true∧((tF8 p g y).all fun x=>!Nat.beq x.1 12)=true:=⟨rfl,rfl⟩
   obtain ⟨flat,hflat⟩:∃ flat,yem ((p.vars.map fun y=>yba y g ls.length).take j++List.replicate (p.vars.length - j) (0,0))=flat:=⟨_,rfl⟩
   have hpart:(((yaj p g).take k).map yem++[yem ((p.vars.map fun y=>yba y g ls.length).take j++List.replicate (p.vars.length - j) (0,0))])[k]?=some flat:=by
    rw [List.getElem?_append_right (by omega),htk,Nat.sub_self,← hflat];rfl
   have hpl:flat.length=2 * p.vars.length:=by rw [← hflat,yyi];simp;omega
   have hfin:∀ (a b:Nat),a=j * 2→b=j * 2+1→hlook ((fam 12 k,some (.vec ((flat.set a (i64 (yba y g ls.length).1)).set b (i64 (yba y g ls.length).2))))::(fam 12 k,some (.vec (flat.set a (i64 (yba y g ls.length).1))))::(tF8 p g y++yce 12 2 (((yaj p g).take k).map yem++[yem ((p.vars.map fun y=>yba y g ls.length).take j++List.replicate (p.vars.length - j) (0,0))]) (List.replicate (g.ids.length - (k+1)) yga)))=hlook (tF8 p g y++yce 12 2 (((yaj p g).take k).map yem++[yem ((p.vars.map fun y=>yba y g ls.length).take (j+1)++List.replicate (p.vars.length - (j+1)) (0,0))]) (List.replicate (g.ids.length - (k+1)) yga)):=by
    rintro _ _ rfl rfl
    have e:(flat.set (j * 2) (i64 (yba y g ls.length).1)).set (j * 2+1) (i64 (yba y g ls.length).2)=yem ((p.vars.map fun y=>yba y g ls.length).take (j+1)++List.replicate (p.vars.length - (j+1)) (0,0)):=by
     rw [← hflat,zgy (by simp;omega),zow (by simp) (by rw [List.getElem?_map,hy];rfl)]
    rw [e,yfx]
    refine (zku hlow8 (by omega) hpart (by rw [hpl,yyi];simp;omega)).trans ?_
    rw [zox htk]
   have hcO:ycl (hlook (tF8 p g y++yce 12 2 (((yaj p g).take k).map yem++[yem ((p.vars.map fun y=>yba y g ls.length).take j++List.replicate (p.vars.length - j) (0,0))]) (List.replicate (g.ids.length - (k+1)) yga)) 12)=some (yev 12 2 0 (((yaj p g).take k).map yem++[yem ((p.vars.map fun y=>yba y g ls.length).take j++List.replicate (p.vars.length - j) (0,0))])++(List.replicate (g.ids.length - (k+1)) yga)):=by rw [ybt houter];exact yfd _
   have hcell:(yev 12 2 0 (((yaj p g).take k).map yem++[yem ((p.vars.map fun y=>yba y g ls.length).take j++List.replicate (p.vars.length - j) (0,0))])++(List.replicate (g.ids.length - (k+1)) yga))[(k:Int).toNat * 1]?=some (.ls (fam 12 k) 2 p.vars.length):=by
    rw [show ((k:Int).toNat * 1)=k by simp,List.getElem?_append_left (by rw [ydf];simp;omega),yeh,hpart]
    simp only [Option.map_some,hpl,Nat.zero_add]
    congr 2
    omega
   have hpne:flat≠[]:=by intro h0;rw [h0] at hpl;simp at hpl;omega
   refine ypz (t':=[(7,i64 j),(8,.lp 8 0),(6,i64 k),(5,.ls 12 1 g.ids.length),(28,i64 j),(27,i64 p.vars.length),(26,.sl 6 (p.vars.map yfv)),(15,i64 k),(14,i64 g.ids.length),(2,.lp 2 0),(3,.lp 3 0)]) (h':=tF8 p g y++yce 12 2 (((yaj p g).take k).map yem++[yem ((p.vars.map fun y=>yba y g ls.length).take j++List.replicate (p.vars.length - j) (0,0))]) (List.replicate (g.ids.length - (k+1)) yga)) ?_ (by exact zs) (hsE yfx)
   refine zvx [(7,i64 j),(8,.lp 8 0),(6,i64 k),(5,.ls 12 1 g.ids.length),(28,i64 j),(27,i64 p.vars.length),(26,.sl 6 (p.vars.map yfv)),(15,i64 k),(14,i64 g.ids.length),(2,.lp 2 0),(3,.lp 3 0)] (tF8 p g y++yce 12 2 (((yaj p g).take k).map yem++[yem ((p.vars.map fun y=>yba y g ls.length).take (j+1)++List.replicate (p.vars.length - (j+1)) (0,0))]) (List.replicate (g.ids.length - (k+1)) yga)) ?_ fun s2 hs2=>ynm ?_ hs2
   focus
    refine ycb (lf:=lf0) ysu rfl ?_
    refine yjh [0,1,2,3,4,5,6,7,8,10,11,12,13,14,15,17,18] 6 (yaa rfl (yaa rfl (yaa rfl (yaa rfl (yaa rfl (yaa rfl (yaa rfl (yaa rfl (yaa rfl (yaa rfl (yaa rfl (yaa rfl (yaa rfl (yaa rfl (yaa rfl (yaa rfl (yaa rfl yal))))))))))))))))) rfl (by kernel_rfl) ?_
    repeat' (first
     | refine zo ?_
     | refine yas tok rfl rfl (by first|exact ybb|exact ylh hlow8 (by omega) hpart|exact ybt houter) rfl (by omega) (by omega) rfl rfl ?_
     | refine yda (r:=.ls (fam 12 k) 2 p.vars.length) tok rfl rfl rfl hcO hcell rfl rfl ?_
     | refine yad rfl rfl (zbg y g k ls hyn hg (by omega) (by simpa using hls) (by omega)) rfl rfl ?_
     | refine yiu tok rfl rfl (by first|(rw [ybb];rfl)|(rw [ylh hlow8 (by omega) hpart];rfl)) (by first|exact hpne|(intro h0;exact hpne (by simpa using h0))) rfl (by decide) (by decide) rfl rfl ?_
     | refine yop tok rfl rfl rfl rfl rfl (by first|exact ybb|exact ylh hlow8 (by omega) hpart) (by first|omega|(rw [List.length_set];omega)) rfl rfl rfl ?_
     | exact ⟨rfl,ybv (by exact zs),hsE (hfin _ _ (by simp) (by simp))⟩
     | exact trivial
     | refine ⟨⟨_,rfl,?_⟩,?_⟩
     | refine yay [16,20,21,22] (yaa rfl (yaa rfl (yaa rfl (yaa rfl yal)))) rfl (by decide +kernel) ?_
     | refine yay [16,21,22] (yaa rfl (yaa rfl (yaa rfl yal))) rfl (by decide +kernel) ?_
     | refine yay [19,21,22] (yaa rfl (yaa rfl (yaa rfl yal))) rfl (by decide +kernel) ?_
     | refine yay [20,21,22] (yaa rfl (yaa rfl (yaa rfl yal))) rfl (by decide +kernel) ?_
     | refine yay [9,16,20,21,22] (yaa rfl (yaa rfl (yaa rfl (yaa rfl (yaa rfl yal))))) rfl (by decide +kernel) ?_
     | refine yay [9,20,21,22] (yaa rfl (yaa rfl (yaa rfl (yaa rfl yal)))) rfl (by decide +kernel) ?_
     | refine yav [16,19,20] _ rfl (by decide +kernel) (by simp) ?_
     | refine yav [9,16,19] _ rfl (by decide +kernel) (by simp) ?_
     | refine yav [19,20] _ rfl (by decide +kernel) (by simp) ?_
     | refine yav [16,19] _ rfl (by decide +kernel) (by simp) ?_
     | refine yav [9,19] _ rfl (by decide +kernel) (by simp) ?_)
   (try refine zy ?_)
   exact yir (j+1) (by omega) (by omega) (by exact zs) (hsM (f:=tF8 p g y) (f':=tF p g) (yab rfl (yab rfl yae)) hlow8 rfl houter)
  ·simp at h2
   obtain rfl:j=p.vars.length:=by omega
   (try refine zy ?_)
   refine yir (k+1) (by omega) (by omega) (by exact zs) (hsE ?_)
   have hrow:(yaj p g)[k]?=some (p.vars.map fun y=>yba y g ls.length):=by simp [yaj,hls]
   rw [ybc hrow]
   simp [List.take_of_length_le]
 ·simp at h
  obtain rfl:k=g.ids.length:=by omega
  (try refine zy ?_)
  refine yaf ?_;refine ⟨_,rfl,?_⟩
  have e1:(yaj p g).take g.ids.length=yaj p g:=List.take_of_length_le (by omega)
  have e2:List.replicate (g.ids.length - g.ids.length) yga=[]:=by simp
  rw [e1,e2]
  have:=Frz.mat (f:=tF p g) (M:=12) (sz:=2) (rows:=(yaj p g).map yem) (els:=(yaj p g).map fun r=>r.map yhj) rfl rfl rfl (by omega) (by intro r hr e he;obtain ⟨r0,_,rfl⟩:=List.mem_map.1 hr;obtain ⟨q,_,rfl⟩:=List.mem_map.1 he;rfl) (n:=g.ids.length) (by simp [htl]) (by simp [yem,Function.comp_def])
  simpa [S,ydv,List.map_map,Function.comp_def] using this
end
section
open Go.RowKit
def zvc (r:Int × Int) (v:Int):Bool:=decide (r.1≤v) && decide (v≤r.2)
def yds (rs:List (Int × Int)) (vs:List Int):Bool:=vs.length == rs.length && (rs.zip vs).all fun x=>zvc x.1 x.2
theorem zfq {α β:Type} {l:List α} {m:List β} {k:Nat} {a:α} {b:β} (h1:l[k]?=some a) (h2:m[k]?=some b):(l.zip m)[k]?=some (a,b):=by
 rw [List.getElem?_zip_eq_some];exact ⟨h1,h2⟩
theorem zge {α:Type} {l:List α} {f:α→Bool} {k:Nat} {x:α} (hx:l[k]?=some x) (h:(l.take k).all f=true) (hf:f x=true):(l.take (k+1)).all f=true:=by
 rw [ybc hx,List.all_append,h];simp [hf]
theorem zdo {α:Type} {l:List α} {f:α→Bool} {k:Nat} {x:α} (hx:l[k]?=some x) (hf:f x=false):l.all f=false:=by
 rw [List.all_eq_false];exact ⟨x,List.mem_of_getElem? hx,by simp [hf]⟩
theorem state_con (rs:List (Int × Int)) (vs:List Int) (hv:vs.length≤1000000):Con Tryz.prog 164 [.sl 2 (rs.map yhj),yam vs] (ybq (yds rs vs)):=by
 refine yao Tryz.func164 rfl rfl Tryz.ntmps164 Tryz.results164 rfl rfl ?_
 (try refine zy ?_)
 refine yac rfl (fun h=>?_) (fun h=>?_)
 ·(try refine zy ?_)
  refine yaf ?_;refine ⟨_,rfl,?_⟩
  refine yan ?_
  have:vs.length≠rs.length:=by intro e;simp [e] at h
  simp [yds,this]
 have hl:vs.length=rs.length:=by simp at h;omega
 (try refine zy ?_)
 refine yeu (α:=Nat) (fun k=>[(14,i64 k),(13,i64 vs.length),(12,yam vs),(0,.sl 2 (rs.map yhj))]) (fun k=>[]) (fun k=>vs.length - k) (fun k=>k≤vs.length∧((rs.zip vs).take k).all (fun x=>zvc x.1 x.2)=true) 0 ⟨by omega,rfl⟩ (by exact zs) (by exact zh) ?_
 intro k ⟨hk,hok⟩
 (try refine zy ?_)
 refine yac rfl (fun h1=>?_) (fun h1=>?_)
 ·simp at h1
  obtain ⟨v,hvk⟩:=ycd (show k < vs.length by omega)
  obtain ⟨r,hrk⟩:=ycd (show k < rs.length by omega)
  have hz:=zfq hrk hvk
  (try refine zy ?_)
  refine yax 26 rfl (fun h2=>?_) (fun h2=>?_)
  ·(try refine zy ?_)
   refine yaf ?_;refine ⟨_,rfl,?_⟩
   refine yan ?_
   simp at h2
   rw [yds,zdo hz (by simp [zvc];omega),Bool.and_false]
  ·(try refine zy ?_)
   refine yac rfl (fun h3=>?_) (fun h3=>?_)
   ·(try refine zy ?_)
    refine yaf ?_;refine ⟨_,rfl,?_⟩
    refine yan ?_
    simp at h2 h3
    rw [yds,zdo hz (by simp [zvc];omega),Bool.and_false]
   ·(try refine zy ?_)
    simp at h2 h3
    exact rnd (k+1) ⟨by omega,zge hz hok (by simp [zvc];omega)⟩ (by omega) (by exact zs) (by exact zh)
 ·simp at h1
  obtain rfl:k=vs.length:=by omega
  (try refine zy ?_)
  refine yaf ?_;refine ⟨_,rfl,?_⟩
  refine yan ?_
  rw [List.take_of_length_le (by simp;omega)] at hok
  simp [yds,hl,hok]
def ygi (tbl:List (List (Int × Int))) (c:List (List Int)):Bool:=c.length == tbl.length && (tbl.zip c).all fun x=>yds x.1 x.2
def zxs (c:List (List Int)):Prop:=c.length≤1000000∧∀ r∈c,r.length≤1000000
theorem within_con (tbl:List (List (Int × Int))) (c:List (List Int)) (hc:zxs c) (ht:tbl.length≤1000000):Con Tryz.prog 98 [ydv tbl,ykd c] (ybq (ygi tbl c)):=by
 have hcl:=hc.1
 refine yao Tryz.func98 rfl rfl Tryz.ntmps98 Tryz.results98 rfl rfl ?_
 (try refine zy ?_)
 refine yac rfl (fun h=>?_) (fun h=>?_)
 ·(try refine zy ?_)
  refine yaf ?_;refine ⟨_,rfl,?_⟩
  refine yan ?_
  have:c.length≠tbl.length:=by intro e;simp [e] at h
  simp [ygi,this]
 have hl:c.length=tbl.length:=by simp at h;omega
 (try refine zy ?_)
 refine yeu (α:=Nat) (fun k=>[(14,i64 k),(13,i64 tbl.length),(12,ydv tbl),(1,ykd c)]) (fun k=>[]) (fun k=>tbl.length - k) (fun k=>k≤tbl.length∧((tbl.zip c).take k).all (fun x=>yds x.1 x.2)=true) 0 ⟨by omega,rfl⟩ (by exact zs) (by exact zh) ?_
 intro k ⟨hk,hok⟩
 (try refine zy ?_)
 refine yac rfl (fun h1=>?_) (fun h1=>?_)
 ·simp at h1
  obtain ⟨r,hrk⟩:=ycd (show k < tbl.length by omega)
  obtain ⟨v,hvk⟩:=ycd (show k < c.length by omega)
  have hz:=zfq hrk hvk
  (repeat (first|refine zy ?_|refine yad rfl rfl (state_con r v (hc.2 v (List.mem_of_getElem? hvk))) rfl rfl ?_))
  refine yac rfl (fun h2=>?_) (fun h2=>?_)
  ·(try refine zy ?_)
   refine yaf ?_;refine ⟨_,rfl,?_⟩
   refine yan ?_
   simp at h2
   rw [ygi,zdo hz h2,Bool.and_false]
  ·(try refine zy ?_)
   simp at h2
   exact rnd (k+1) ⟨by omega,zge hz hok h2⟩ (by omega) (by exact zs) (by exact zh)
 ·simp at h1
  obtain rfl:k=tbl.length:=by omega
  (try refine zy ?_)
  refine yaf ?_;refine ⟨_,rfl,?_⟩
  refine yan ?_
  rw [List.take_of_length_le (by simp;omega)] at hok
  simp [ygi,hl,hok]
theorem cfg_of_fair {p:ProgD} {g:GraphD} (hf:Fair p g):(yaj p g).length≤1000000∧∀ r∈yaj p g,r.length≤1000:=by
 have h1:=hf.glen.2.1
 have h2:=hf.vlen
 refine ⟨by simp [yaj];omega,fun r hr=>?_⟩
 obtain ⟨ls,_,rfl⟩:=List.mem_map.1 hr
 simpa using h2
def yrt (p:ProgD) (g:GraphD) (c:List (List Int)):Int:=if ygf p g=0 then if ygi (yaj p g) c=true then 0 else 10 else ygf p g
theorem mcheck_con (p:ProgD) (g:GraphD) (c:List (List Int)) (hf:Fair p g) (hc:zxs c):Con Tryz.prog 46 [zau p,ypu g,ykd c] (i64 (yrt p g c)):=by
 refine yao Tryz.func46 rfl rfl Tryz.ntmps46 Tryz.results46 rfl rfl ?_
 (repeat (first|refine zy ?_|refine yad rfl rfl (zdx p g hf) rfl rfl ?_))
 refine yac rfl (fun h=>?_) (fun h=>?_)
 ·(try refine zy ?_)
  refine yaf ?_;refine ⟨_,rfl,?_⟩
  have:ygf p g≠0:=by simpa using h
  exact yai (by simp [yrt,this])
 have h0:ygf p g=0:=by simpa using h
 (repeat (first|refine zy ?_|refine yad rfl rfl (yom p g hf h0) rfl rfl ?_|refine yad rfl rfl (within_con (yaj p g) c hc (cfg_of_fair hf).1) rfl rfl ?_))
 refine yac rfl (fun h1=>?_) (fun h1=>?_)
 ·simp at h1
  (try refine zy ?_)
  refine yaf ?_;refine ⟨_,rfl,?_⟩
  exact yai (by simp [yrt,h0,h1])
 ·simp at h1
  (try refine zy ?_)
  refine yaf ?_;refine ⟨_,rfl,?_⟩
  exact yai (by simp [yrt,h0,h1])
end
section
open Go.RowKit
def zas:Int→List (Int × Int)→Option Int
 | n,[]=>some n
 | n,r::rs=>if 32768 < n * (r.2 - r.1+1) then none else zas (n * (r.2 - r.1+1)) rs
theorem yru:∀ (n:Int) (a b:List (Int × Int)),zas n (a++b)=(zas n a).bind fun m=>zas m b
 | n,[],b=>rfl
 | n,r::rs,b=>by
  simp only [List.cons_append,zas]
  split
  ·rfl
  ·exact yru _ rs b
def ykk (tbl:List (List (Int × Int))):Int × Int:=match zas 1 tbl.flatten with
 | some n=>(n,0)
 | none=>(0,3)
def zwb (q:Int × Int):Prop:=-1≤q.1∧q.1≤q.2∧q.2≤1000000
def zrk (tbl:List (List (Int × Int))):Prop:=tbl.length≤1000∧∀ r∈tbl,r.length≤1000∧∀ q∈r,zwb q
theorem mulM_bd {n w:Int} (h1:1≤n) (h2:n≤32768) (h3:1≤w) (h4:w≤1000002):1≤n * w∧n * w≤32768 * 1000002:=
 ⟨by have:=Int.mul_le_mul h1 h3 (by omega) (by omega);simpa using this,Int.mul_le_mul h2 h4 (by omega) (by omega)⟩
def xag (q:Int × Int):AV:=.tup [i64 q.1,i64 q.2]
theorem count_con (tbl:List (List (Int × Int))) (ht:zrk tbl):Con Tryz.prog 48 [ydv tbl] (xag (ykk tbl)):=by
 have htl:=ht.1
 refine yao Tryz.func48 rfl rfl Tryz.ntmps48 Tryz.results48 rfl rfl ?_
 (try refine zy ?_)
 refine yeu (α:=Nat × Int) (fun q=>[(11,i64 q.1),(10,i64 tbl.length),(9,ydv tbl),(4,i64 q.2)]) (fun q=>[]) (fun q=>tbl.length - q.1) (fun q=>q.1≤tbl.length∧1≤q.2∧q.2≤32768∧zas 1 (tbl.take q.1).flatten=some q.2) (0,1) ⟨by simp,by simp,by simp,rfl⟩ (by exact zs) (by exact zh) ?_
 rintro ⟨k,n⟩ ⟨hk,hn1,hn2,hn⟩
 simp only at hk hn1 hn2 hn ⊢
 (try refine zy ?_)
 refine yac rfl (fun h1=>?_) (fun h1=>?_)
 ·simp at h1
  obtain ⟨r,hrk⟩:=ycd (show k < tbl.length by omega)
  obtain ⟨hrl,hrq⟩:=ht.2 r (List.mem_of_getElem? hrk)
  (try refine zy ?_)
  refine yeu (α:=Nat × Int) (fun q=>[(17,i64 q.1),(16,i64 r.length),(15,.sl 2 (r.map yhj)),(4,i64 q.2),(11,i64 k),(10,i64 tbl.length),(9,ydv tbl)]) (fun q=>[]) (fun q=>r.length - q.1) (fun q=>q.1≤r.length∧1≤q.2∧q.2≤32768∧zas n (r.take q.1)=some q.2) (0,n) ⟨by simp,hn1,hn2,rfl⟩ (by exact zs) (by exact zh) ?_
  rintro ⟨j,m⟩ ⟨hj,hm1,hm2,hm⟩
  simp only at hj hm1 hm2 hm ⊢
  (try refine zy ?_)
  refine yac rfl (fun h2=>?_) (fun h2=>?_)
  ·simp at h2
   obtain ⟨q,hqj⟩:=ycd (show j < r.length by omega)
   obtain ⟨q1,q2,q3⟩:=hrq q (List.mem_of_getElem? hqj)
   have hbd:=mulM_bd (w:=q.2 - q.1+1) hm1 hm2 (by omega) (by omega)
   (try refine zy ?_)
   have hstep:zas n (r.take (j+1))=zas m [q]:=by rw [ybc hqj,yru,hm];rfl
   refine yac rfl (fun h3=>?_) (fun h3=>?_)
   ·(try refine zy ?_)
    refine yaf ?_;refine ⟨_,rfl,?_⟩
    simp at h3
    have e:zas 1 tbl.flatten=none:=by
     have hsplit:tbl.flatten=(tbl.take k).flatten++(r.take (j+1)++(r.drop (j+1)++(tbl.drop (k+1)).flatten)):=by
      conv=>lhs;rw [← List.take_append_drop (k+1) tbl,ybc hrk]
      rw [List.flatten_append,List.flatten_append,List.append_assoc]
      congr 1
      rw [← List.append_assoc,List.take_append_drop]
      simp
     rw [hsplit,yru,hn,Option.bind_some,yru,hstep]
     simp [zas,h3]
    simp only [ykk,e]
    exact Frz.pure
   ·(try refine zy ?_)
    simp at h3
    refine rnd (j+1,m * (q.2 - q.1+1)) ⟨by simp only;omega,hbd.1,by simp only;omega,?_⟩ (by simp only;omega) (by exact zs) (by exact zh)
    rw [hstep]
    simp only [zas]
    rw [if_neg (by omega)]
  ·simp at h2
   obtain rfl:j=r.length:=by omega
   (try refine zy ?_)
   refine rnd (k+1,m) ⟨by simp only;omega,hm1,hm2,?_⟩ (by simp only;omega) (by exact zs) (by exact zh)
   rw [List.take_length] at hm
   simp only
   rw [ybc hrk,List.flatten_append,yru,hn]
   simpa using hm
 ·simp at h1
  obtain rfl:k=tbl.length:=by omega
  (try refine zy ?_)
  refine yaf ?_;refine ⟨_,rfl,?_⟩
  rw [List.take_length] at hn
  simp only [ykk,hn]
  exact Frz.pure
theorem yis {p:ProgD} {g:GraphD} (hf:Fair p g) (h0:ygf p g=0):zrk (yaj p g):=by
 obtain ⟨hc0,hg,hfit⟩:=ygx.1 h0
 have hvf:=yca hg
 refine ⟨by simp [yaj];omega,fun r hr=>?_⟩
 obtain ⟨ls,hls,rfl⟩:=List.mem_map.1 hr
 have hll:=hf.glen.2.2 ls hls
 refine ⟨by simpa using hf.vlen,fun q hq=>?_⟩
 obtain ⟨y,hy,rfl⟩:=List.mem_map.1 hq
 have hn:=(yfe hc0).2.2.2 y hy
 have hb:=zgj (deg:=ls.length) hn hg (by omega)
 have hl:=fit_bd (deg:=ls.length) (hfit y hy) hn (by omega)
 refine ⟨hb.1,?_,by omega⟩
 by_cases hk:y.kind=3
 ·rw [yvh hk];simp only;omega
 ·rw [if_neg hk] at hl;omega
def zmt (p:ProgD) (g:GraphD):Int × Int:=if ygf p g=0 then ykk (yaj p g) else (0,ygf p g)
theorem mcount_con (p:ProgD) (g:GraphD) (hf:Fair p g):Con Tryz.prog 77 [zau p,ypu g] (xag (zmt p g)):=by
 refine yao Tryz.func77 rfl rfl Tryz.ntmps77 Tryz.results77 rfl rfl ?_
 (repeat (first|refine zy ?_|refine yad rfl rfl (zdx p g hf) rfl rfl ?_))
 refine yac rfl (fun h=>?_) (fun h=>?_)
 ·(try refine zy ?_)
  refine yaf ?_;refine ⟨_,rfl,?_⟩
  have:ygf p g≠0:=by simpa using h
  rw [zmt,if_neg this]
  exact Frz.pure
 have h0:ygf p g=0:=by simpa using h
 (repeat (first|refine zy ?_|refine yad rfl rfl (yom p g hf h0) rfl rfl ?_|refine yad rfl rfl (count_con (yaj p g) (yis hf h0)) rfl rfl ?_))
 refine yaf ?_;refine ⟨_,rfl,?_⟩
 rw [zmt,if_pos h0]
 exact Frz.pure
end
set_option maxHeartbeats 4000000
section
open Go.RowKit
def ygb (val:List AV→AV) (rows:List (List AV)):List (List AV):=(List.range rows.length).map fun (k:Nat)=>[i64 ((rows.length:Int) - 1 - (k:Int)),val (rows.getD (rows.length - 1 - k) [])]
theorem ygc (val:List AV→AV) (rows:List (List AV)):(ygb val rows).length=rows.length:=by simp [ygb]
theorem yji {val:List AV→AV} {rows:List (List AV)} {k:Nat} {el:List AV} (h:(ygb val rows)[k]?=some el):k < rows.length∧∃ row,rows[rows.length - 1 - k]?=some row∧el=[i64 ((rows.length:Int) - 1 - k),val row]:=by
 have hk:k < rows.length:=by have:=(List.getElem?_eq_some_iff.1 h).1;rwa [ygc] at this
 obtain ⟨row,hrow⟩:∃ row,rows[rows.length - 1 - k]?=some row:=⟨_,List.getElem?_eq_getElem (by omega)⟩
 refine ⟨hk,row,hrow,?_⟩
 simp only [ygb,List.getElem?_map,List.getElem?_range hk,Option.map_some,Option.some.injEq,List.getD_eq_getElem?_getD,hrow,Option.getD_some] at h
 exact h.symm
theorem ydn {a:Act} {d:Nat} {u:Value} (h:d < a.tmps.size):(a.put (some d) u).eval (.tmp d)=u:=by
 simp [Act.put,Act.eval,Array.getD,h]
theorem yjx {a:Act} {d x:Nat} {u:Value} (h:x≠d):(a.put (some d) u).eval (.tmp x)=a.eval (.tmp x):=by
 simp only [Act.put,Act.eval,Array.getD_eq_getD_getElem?,Array.getElem?_setIfInBounds]
 rw [if_neg (by omega)]
theorem ykm {a:Act} {v:Value}:a.eval (.const v)=v:=rfl
theorem ykw {a:Act} {d:Nat} {u:Value}:(a.put (some d) u).tmps.size=a.tmps.size:=by simp [Act.put]
theorem ygn {a:Act} {d:Option Nat} {u:Value}:(a.put d u).defers=a.defers:=by cases d <;> rfl
theorem ykv {P:Program} {n:Nat} {ops:Array Oper} {Q:Exit→Act→World→Prop} {a:Act} {w:World} {i d:Nat} {rest:List Nat} {o:Oper} (u:Value) (hlt:d < a.tmps.size) (ho:ops[i]?=some o) (hdst:o.dst=some d) (hg:o.guard=none) (hd:ymr o.op=false) (hr:(execOp a.eval o).run P w=.ok (.value u) w)
  (k:∀ a':Act,a'.tmps.size=a.tmps.size→a'.defers=a.defers→a'.eval (.tmp d)=u→(∀ x,x≠d→a'.eval (.tmp x)=a.eval (.tmp x))→wpOpsIn Fence.wide n P ops Q rest a' w):wpOpsIn Fence.wide n P ops Q (i::rest) a w:=
 opI u ho hg hd hr (by rw [hdst];exact k _ ykw ygn (ydn hlt) fun x hx=>yjx hx)
theorem zfd {ok:Nat→Prop} {w:World} {lv:Live} {a:AV} {cs:List Value} (h:ybk ok w lv [a] cs):∃ u,cs=[u]∧Rel ok w lv a u:=by
 match cs,h.1 with
 | [u],_=>exact ⟨u,rfl,h.2 0 _ _ rfl rfl⟩
theorem zda {ok:Nat→Prop} {w:World} {lv:Live} {size:Nat} {rows:List (List AV)} {v:Value} (h:Rel ok w lv (.sl size rows) v):∃ ad cap,v=.slice ad rows.length cap∧∀ (i:Nat) (row:List AV),rows[i]?=some row→∃ g q,ad=some ⟨g,q,none⟩∧ok g∧ymh ok w (fun _=>none) g (q+i * size) row:=by
 cases h with
 | sl ad cap u g q hn hc ha hsz hg hcell hrel=>
  refine ⟨ad,cap,rfl,fun i row hrow=>?_⟩
  obtain ⟨rfl,hok⟩:=hg (by intro h;simp [h] at hrow)
  exact ⟨g,q,rfl,hok,fun j x hx=>⟨(hcell i j row x hrow hx).2,_,(hcell i j row x hrow hx).1,hrel i j row x hrow hx⟩⟩
theorem backO_iter (rows:List (List AV)) (val:List AV→AV) (hval:∀ row∈rows,zjo false 1 row=some (val row)):zdj Tryz.prog 204 [.dp [.sl 1 rows] 0] (ygb val rows):=by
 refine ⟨⟨_,Tryz.func204,rfl,rfl⟩,fun l ok W us J X hok hcaps hJ hJg hXg hround h0=>?_⟩
 obtain ⟨pv,rfl,hp⟩:=zfd hcaps
 obtain ⟨pg,po,hpv,hpok,hpc⟩:=ymk hp
 rw [Nat.add_zero] at hpv
 subst hpv
 obtain ⟨_,sv,hsv,hsr⟩:=hpc 0 (.sl 1 rows) rfl
 obtain ⟨ad,cap,rfl,hrows⟩:=zda hsr
 rw [Nat.add_zero] at hsv
 have hcell:∀ {k W'},J k W'→W'.cell? ⟨pg,po,none⟩=some (.slice ad rows.length cap):=fun hj=>(World.cell?_of_block (w:=W) ((hJ _ _ hj).2 pg hpok)).trans hsv
 have hload:∀ {W':World},W'.cell? ⟨pg,po,none⟩=some (.slice ad rows.length cap)→(loadVar 103 ⟨pg,po,none⟩).run Tryz.prog W'=.ok (.slice ad rows.length cap) W':=by
  intro W' hc
  obtain ⟨u,h1,h2⟩:=ykq (P:=Tryz.prog) (ok:=fun _=>True) (w:=W') (lv:=fun _=>none) (g:=pg) (o:=po) (xs:=[.v (.slice ad rows.length cap)]) (t:=103) (s:=1) (ag:=false) (r:=.v (.slice ad rows.length cap)) (tok _ _ (show TT 103=some _ from rfl)).1 (fun j x hx=>by
   match j with
   | 0=>simp only [List.getElem?_cons_zero,Option.some.injEq] at hx;subst hx;exact ⟨rfl,_,hc,.v _⟩
   | j+1=>simp at hx) rfl
  cases h2
  exact h1
 have hkind:=(tok _ _ (show TT 103=some _ from rfl)).2.2
 refine callsIn_of_wp Tryz.func204 rfl trivial ?_
 rw [Tryz.ntmps204]
 refine wpIn_seq (wpIn_region ?_)
 rw [show (#[Value.func (.yield l) #[] #[]]++[Value.pointer (some ⟨pg,po,none⟩)].toArray:Array Value)=[Value.func (.yield l) #[] #[],Value.pointer (some ⟨pg,po,none⟩)].toArray by simp]
 generalize ha:({ tmps:=[Value.func (.yield l) #[] #[],Value.pointer (some ⟨pg,po,none⟩)].toArray++Array.replicate (19 - [Value.func (.yield l) #[] #[],Value.pointer (some ⟨pg,po,none⟩)].toArray.size) undef,defers:=[] }:Act)=a0
 have hs0:a0.tmps.size=19:=by rw [← ha];simp only [Array.size_append,Array.size_replicate,List.size_toArray,List.length_cons,List.length_nil]
 have e0:a0.eval (.tmp 0)=.func (.yield l) #[] #[]:=by rw [← ha];simp only [Act.eval];exact yeo [Value.func (.yield l) #[] #[],Value.pointer (some ⟨pg,po,none⟩)] _ 0 _ rfl
 have e1:a0.eval (.tmp 1)=.pointer (some ⟨pg,po,none⟩):=by rw [← ha];simp only [Act.eval];exact yeo [Value.func (.yield l) #[] #[],Value.pointer (some ⟨pg,po,none⟩)] _ 1 _ rfl
 have hd0:a0.defers=[]:=by rw [← ha]
 clear ha
 refine ykv (d:=4) (.slice ad rows.length cap) (by omega) rfl rfl rfl rfl (by simp [execOp,e1,Instr.loadAt,Instr.sureAddr,hload (hcell h0)]) fun a1 s1 d1 q1 n1=>?_
 refine ykv (d:=5) (.int .i64 rows.length) (by omega) rfl rfl rfl rfl (by simp [execOp,resolve,invoke,builtin,Builtin.len_,q1,run_underlying hkind.1,goInt]) fun a2 s2 d2 q2 n2=>?_
 have hcap:rows.length≤9223372036854775807:=by
  cases hsr with
  | sl ad cap u g q hn hc=>unfold maxLen at hc;omega
 refine ykv (d:=6) (.int .i64 ((rows.length:Int) - 1)) (by omega) rfl rfl rfl rfl (by simp [execOp,q2,ykm,eqGuard,binOp,Op.intArith,IntWalk.i64_in ((rows.length:Int) - 1) (by omega)]) fun a3 s3 d3 q3 n3=>?_
 refine ykv (d:=3) (.int .i64 ((rows.length:Int) - 1)) (by omega) rfl rfl rfl rfl (by simp [execOp,q3]) fun a4 s4 d4 q4 n4=>?_
 refine wpIn_block (wpIn_loop (fun a w=>∃ k,k≤rows.length∧J k w∧a.tmps.size=19∧a.defers=[]∧a.eval (.tmp 0)=.func (.yield l) #[] #[]∧a.eval (.tmp 1)=.pointer (some ⟨pg,po,none⟩)∧a.eval (.tmp 3)=.int .i64 ((rows.length:Int) - 1 - k)) (fun a w=>(intOf (a.eval (.tmp 3))+1).toNat) ⟨0,by omega,h0,by omega,by rw [d4,d3,d2,d1,hd0],by rw [n4 0 (by simp),n3 0 (by simp),n2 0 (by simp),n1 0 (by simp),e0],by rw [n4 1 (by simp),n3 1 (by simp),n2 1 (by simp),n1 1 (by simp),e1],by rw [q4];simp⟩ ?_)
 clear e0 e1 hs0 hd0 s1 d1 q1 n1 s2 d2 q2 n2 s3 d3 q3 n3 s4 d4 q4 n4 a0 a1 a2 a3 a4
 rintro a0 w ⟨k,hk,hj,hs0,hd0,e0,e1,e3⟩
 refine wpIn_seq (wpIn_seq (wpIn_region ?_))
 refine ykv (d:=7) _ (by omega) rfl rfl rfl rfl (by simp [execOp,e3];rfl) fun a1 s1 d1 q1 n1=>?_
 refine ykv (d:=8) (.bool (decide (0≤(rows.length:Int) - 1 - k))) (by omega) rfl rfl rfl rfl (by simp [execOp,q1,ykm,eqGuard,binOp,Op.intCmp]) fun a2 s2 d2 q2 n2=>?_
 refine wpIn_cond_split q2 (fun hb=>?_) (fun hb=>?_)
 ·simp only [decide_eq_true_eq] at hb
  refine wpIn_skip ?_
  have hcl:=hcell hj
  obtain ⟨i,hi⟩:∃ i:Nat,(rows.length:Int) - 1 - k=i:=⟨rows.length - 1 - k,by omega⟩
  have hik:i=rows.length - 1 - k:=by omega
  obtain ⟨row,hrow⟩:∃ row,rows[i]?=some row:=⟨_,List.getElem?_eq_getElem (by omega)⟩
  obtain ⟨g,q,rfl,hgok,hcells⟩:=hrows i row hrow
  have hcells':ymh ok w (fun _=>none) g (q+i * 1) row:=fun j x hx=>by
   obtain ⟨c1,u,c2,c3⟩:=hcells j x hx
   exact ⟨c1,u,(World.cell?_of_block (w:=W) ((hJ _ _ hj).2 g hgok)).trans c2,c3.keep fun g' hg'=>⟨hg',(hJ _ _ hj).2 g' hg'⟩⟩
  obtain ⟨uv,hu1,hu2⟩:=ykq (P:=Tryz.prog) (tok _ _ (show TT 106=some _ from rfl)).1 hcells' (hval row (List.mem_of_getElem? hrow))
  refine wpIn_seq (wpIn_block (wpIn_seq (wpIn_region ?_)))
  refine ykv (d:=11) (.func (.yield l) #[] #[]) (by omega) rfl rfl rfl rfl (by simp [execOp,n2,n1,e0]) fun a3 s3 d3 q3 n3=>?_
  refine ykv (d:=12) (.int .i64 i) (by omega) rfl rfl rfl rfl (by simp [execOp,n3,n2,n1,e3,hi]) fun a4 s4 d4 q4 n4=>?_
  refine ykv (d:=13) (.slice (some ⟨g,q,none⟩) rows.length cap) (by omega) rfl rfl rfl rfl (by simp [execOp,n4,n3,n2,n1,e1,Instr.loadAt,Instr.sureAddr,hload hcl]) fun a5 s5 d5 q5 n5=>?_
  refine ykv (d:=14) (.int .i64 i) (by omega) rfl rfl rfl rfl (by simp [execOp,n5,n4,n3,n2,n1,e3,hi]) fun a6 s6 d6 q6 n6=>?_
  obtain ⟨z,hz⟩:∃ z,q+i * 1=z:=⟨_,rfl⟩
  rw [hz] at hu1
  refine ykv (d:=15) (.pointer (some ⟨g,z,none⟩)) (by omega) rfl rfl rfl rfl (by
   have hrun:=ysk (P:=Tryz.prog) (w:=w) (cap:=cap) (k:=.i64) hkind.1 hkind.2.1 g q rfl (i:=(i:Int)) (len:=rows.length) (by omega) (by omega)
   simp only [Int.toNat_natCast,hz] at hrun
   simp [execOp,n6,q5,q6,hrun]) fun a7 s7 d7 q7 n7=>?_
  refine ykv (d:=16) uv (by omega) rfl rfl rfl rfl (by simp [execOp,q7,Instr.loadAt,Instr.sureAddr,hu1]) fun a8 s8 d8 q8 n8=>?_
  have hel:(ygb val rows)[k]?=some [i64 ((rows.length:Int) - 1 - k),val row]:=by
   have hkl:k < (ygb val rows).length:=by rw [ygc];omega
   obtain ⟨el,hel⟩:∃ el,(ygb val rows)[k]?=some el:=⟨_,List.getElem?_eq_getElem hkl⟩
   obtain ⟨_,row',hr',rfl⟩:=yji hel
   rw [← hik,hrow] at hr'
   cases hr'
   exact hel
  have hy:=hround k _ [.int .i64 i,uv] w hel hj ⟨rfl,fun j x u hx hu=>by
   match j with
   | 0=>simp only [List.getElem?_cons_zero,Option.some.injEq] at hx hu;subst hx hu;rw [hi];exact .v _
   | 1=>simp only [List.getElem?_cons_succ,List.getElem?_cons_zero,Option.some.injEq] at hx hu;subst hx hu;exact hu2
   | j+2=>simp at hx⟩
  refine yzm (g:=.tmp 11) (args:=#[.tmp 12,.tmp 16]) rfl rfl rfl (by rw [n8 11 (by simp),n7 11 (by simp),n6 11 (by simp),n5 11 (by simp),n4 11 (by simp),q3]) (R:=fun e W'=>(e=.returned (.bool true)∧J (k+1) W')∨(e=.returned (.bool false)∧X W')) (by
   have e12:a8.eval (.tmp 12)=.int .i64 i:=by rw [n8 12 (by simp),n7 12 (by simp),n6 12 (by simp),n5 12 (by simp),q4]
   simpa [e12,q8] using hy) fun e w' hR=>?_
  have e0':a8.eval (.tmp 0)=.func (.yield l) #[] #[]:=by rw [n8 0 (by simp),n7 0 (by simp),n6 0 (by simp),n5 0 (by simp),n4 0 (by simp),n3 0 (by simp),n2 0 (by simp),n1 0 (by simp),e0]
  have e1':a8.eval (.tmp 1)=.pointer (some ⟨pg,po,none⟩):=by rw [n8 1 (by simp),n7 1 (by simp),n6 1 (by simp),n5 1 (by simp),n4 1 (by simp),n3 1 (by simp),n2 1 (by simp),n1 1 (by simp),e1]
  have e3':a8.eval (.tmp 3)=.int .i64 ((rows.length:Int) - 1 - k):=by rw [n8 3 (by simp),n7 3 (by simp),n6 3 (by simp),n5 3 (by simp),n4 3 (by simp),n3 3 (by simp),n2 3 (by simp),n1 3 (by simp),e3]
  have hd8:a8.defers=[]:=by rw [d8,d7,d6,d5,d4,d3,d2,d1,hd0]
  have hs8:a8.tmps.size=19:=by omega
  rcases hR with ⟨rfl,hj1⟩|⟨rfl,hx⟩
  ·refine ⟨_,rfl,?_⟩
   show wpOpsIn _ _ _ _ _ _ (a8.put (some 17) (.bool true)) w'
   have s9:(a8.put (some 17) (.bool true)).tmps.size=19:=by rw [ykw,hs8]
   have d9:(a8.put (some 17) (.bool true)).defers=[]:=by rw [ygn,hd8]
   have q9:(a8.put (some 17) (.bool true)).eval (.tmp 17)=.bool true:=ydn (by omega)
   have n9:∀ x,x≠17→(a8.put (some 17) (.bool true)).eval (.tmp x)=a8.eval (.tmp x):=fun x hx=>yjx hx
   generalize a8.put (some 17) (.bool true)=a9 at s9 d9 q9 n9 ⊢
   refine ykv (d:=18) (.bool false) (by omega) rfl rfl rfl rfl (by simp [execOp,q9,Op.unary]) fun a10 s10 d10 q10 n10=>?_
   refine wpIn_cond_false q10 (wpIn_skip ?_)
   refine wpIn_region ?_
   refine ykv (d:=9) _ (by omega) rfl rfl rfl rfl (by simp [execOp,n10,n9,e3'];rfl) fun a11 s11 d11 q11 n11=>?_
   refine ykv (d:=10) (.int .i64 ((rows.length:Int) - 1 - k - 1)) (by omega) rfl rfl rfl rfl (by simp [execOp,q11,ykm,eqGuard,binOp,Op.intArith,IntWalk.i64_in ((rows.length:Int) - 1 - k - 1) (by omega)]) fun a12 s12 d12 q12 n12=>?_
   refine ykv (d:=3) (.int .i64 ((rows.length:Int) - 1 - k - 1)) (by omega) rfl rfl rfl rfl (by simp [execOp,q12]) fun a13 s13 d13 q13 n13=>?_
   refine ⟨⟨k+1,by omega,hj1,by omega,by rw [d13,d12,d11,d10,d9],by rw [n13 0 (by simp),n12 0 (by simp),n11 0 (by simp),n10 0 (by simp),n9 0 (by simp),e0'],by rw [n13 1 (by simp),n12 1 (by simp),n11 1 (by simp),n10 1 (by simp),n9 1 (by simp),e1'],by rw [q13];congr 1;omega⟩,?_⟩
   rw [q13,e3]
   simp only [intOf]
   omega
  ·refine ⟨_,rfl,?_⟩
   show wpOpsIn _ _ _ _ _ _ (a8.put (some 17) (.bool false)) w'
   have s9:(a8.put (some 17) (.bool false)).tmps.size=19:=by rw [ykw,hs8]
   have d9:(a8.put (some 17) (.bool false)).defers=[]:=by rw [ygn,hd8]
   have q9:(a8.put (some 17) (.bool false)).eval (.tmp 17)=.bool false:=ydn (by omega)
   generalize a8.put (some 17) (.bool false)=a9 at s9 d9 q9 ⊢
   refine ykv (d:=18) (.bool true) (by omega) rfl rfl rfl rfl (by simp [execOp,q9,Op.unary]) fun a10 s10 d10 q10 n10=>?_
   refine wpIn_cond_true q10 (wpIn_ret ?_)
   refine ⟨?_,.tuple #[],?_,⟨_,rfl⟩,.inr hx⟩
   ·show a10.defers=[]
    rw [d10,d9]
   ·simp [results,Tryz.results204]
 ·simp only [decide_eq_false_iff_not] at hb
  obtain rfl:k=rows.length:=by omega
  refine wpIn_exit ?_
  refine ⟨?_,.tuple #[],?_,⟨_,rfl⟩,.inl ?_⟩
  ·show a2.defers=[]
   rw [d2,d1,hd0]
  ·simp [results,Tryz.results204]
  ·rw [ygc]
   exact hj
theorem backI_iter (rows:List (List AV)) (val:List AV→AV) (hval:∀ row∈rows,zjo true 2 row=some (val row)):zdj Tryz.prog 205 [.dp [.sl 2 rows] 0] (ygb val rows):=by
 refine ⟨⟨_,Tryz.func205,rfl,rfl⟩,fun l ok W us J X hok hcaps hJ hJg hXg hround h0=>?_⟩
 obtain ⟨pv,rfl,hp⟩:=zfd hcaps
 obtain ⟨pg,po,hpv,hpok,hpc⟩:=ymk hp
 rw [Nat.add_zero] at hpv
 subst hpv
 obtain ⟨_,sv,hsv,hsr⟩:=hpc 0 (.sl 2 rows) rfl
 obtain ⟨ad,cap,rfl,hrows⟩:=zda hsr
 rw [Nat.add_zero] at hsv
 have hcell:∀ {k W'},J k W'→W'.cell? ⟨pg,po,none⟩=some (.slice ad rows.length cap):=fun hj=>(World.cell?_of_block (w:=W) ((hJ _ _ hj).2 pg hpok)).trans hsv
 have hload:∀ {W':World},W'.cell? ⟨pg,po,none⟩=some (.slice ad rows.length cap)→(loadVar 106 ⟨pg,po,none⟩).run Tryz.prog W'=.ok (.slice ad rows.length cap) W':=by
  intro W' hc
  obtain ⟨u,h1,h2⟩:=ykq (P:=Tryz.prog) (ok:=fun _=>True) (w:=W') (lv:=fun _=>none) (g:=pg) (o:=po) (xs:=[.v (.slice ad rows.length cap)]) (t:=106) (s:=1) (ag:=false) (r:=.v (.slice ad rows.length cap)) (tok _ _ (show TT 106=some _ from rfl)).1 (fun j x hx=>by
   match j with
   | 0=>simp only [List.getElem?_cons_zero,Option.some.injEq] at hx;subst hx;exact ⟨rfl,_,hc,.v _⟩
   | j+1=>simp at hx) rfl
  cases h2
  exact h1
 have hkind:=(tok _ _ (show TT 106=some _ from rfl)).2.2
 refine callsIn_of_wp Tryz.func205 rfl trivial ?_
 rw [Tryz.ntmps205]
 refine wpIn_seq (wpIn_region ?_)
 rw [show (#[Value.func (.yield l) #[] #[]]++[Value.pointer (some ⟨pg,po,none⟩)].toArray:Array Value)=[Value.func (.yield l) #[] #[],Value.pointer (some ⟨pg,po,none⟩)].toArray by simp]
 generalize ha:({ tmps:=[Value.func (.yield l) #[] #[],Value.pointer (some ⟨pg,po,none⟩)].toArray++Array.replicate (19 - [Value.func (.yield l) #[] #[],Value.pointer (some ⟨pg,po,none⟩)].toArray.size) undef,defers:=[] }:Act)=a0
 have hs0:a0.tmps.size=19:=by rw [← ha];simp only [Array.size_append,Array.size_replicate,List.size_toArray,List.length_cons,List.length_nil]
 have e0:a0.eval (.tmp 0)=.func (.yield l) #[] #[]:=by rw [← ha];simp only [Act.eval];exact yeo [Value.func (.yield l) #[] #[],Value.pointer (some ⟨pg,po,none⟩)] _ 0 _ rfl
 have e1:a0.eval (.tmp 1)=.pointer (some ⟨pg,po,none⟩):=by rw [← ha];simp only [Act.eval];exact yeo [Value.func (.yield l) #[] #[],Value.pointer (some ⟨pg,po,none⟩)] _ 1 _ rfl
 have hd0:a0.defers=[]:=by rw [← ha]
 clear ha
 refine ykv (d:=4) (.slice ad rows.length cap) (by omega) rfl rfl rfl rfl (by simp [execOp,e1,Instr.loadAt,Instr.sureAddr,hload (hcell h0)]) fun a1 s1 d1 q1 n1=>?_
 refine ykv (d:=5) (.int .i64 rows.length) (by omega) rfl rfl rfl rfl (by simp [execOp,resolve,invoke,builtin,Builtin.len_,q1,run_underlying hkind.1,goInt]) fun a2 s2 d2 q2 n2=>?_
 have hcap:rows.length≤9223372036854775807:=by
  cases hsr with
  | sl ad cap u g q hn hc=>unfold maxLen at hc;omega
 refine ykv (d:=6) (.int .i64 ((rows.length:Int) - 1)) (by omega) rfl rfl rfl rfl (by simp [execOp,q2,ykm,eqGuard,binOp,Op.intArith,IntWalk.i64_in ((rows.length:Int) - 1) (by omega)]) fun a3 s3 d3 q3 n3=>?_
 refine ykv (d:=3) (.int .i64 ((rows.length:Int) - 1)) (by omega) rfl rfl rfl rfl (by simp [execOp,q3]) fun a4 s4 d4 q4 n4=>?_
 refine wpIn_block (wpIn_loop (fun a w=>∃ k,k≤rows.length∧J k w∧a.tmps.size=19∧a.defers=[]∧a.eval (.tmp 0)=.func (.yield l) #[] #[]∧a.eval (.tmp 1)=.pointer (some ⟨pg,po,none⟩)∧a.eval (.tmp 3)=.int .i64 ((rows.length:Int) - 1 - k)) (fun a w=>(intOf (a.eval (.tmp 3))+1).toNat) ⟨0,by omega,h0,by omega,by rw [d4,d3,d2,d1,hd0],by rw [n4 0 (by simp),n3 0 (by simp),n2 0 (by simp),n1 0 (by simp),e0],by rw [n4 1 (by simp),n3 1 (by simp),n2 1 (by simp),n1 1 (by simp),e1],by rw [q4];simp⟩ ?_)
 clear e0 e1 hs0 hd0 s1 d1 q1 n1 s2 d2 q2 n2 s3 d3 q3 n3 s4 d4 q4 n4 a0 a1 a2 a3 a4
 rintro a0 w ⟨k,hk,hj,hs0,hd0,e0,e1,e3⟩
 refine wpIn_seq (wpIn_seq (wpIn_region ?_))
 refine ykv (d:=7) _ (by omega) rfl rfl rfl rfl (by simp [execOp,e3];rfl) fun a1 s1 d1 q1 n1=>?_
 refine ykv (d:=8) (.bool (decide (0≤(rows.length:Int) - 1 - k))) (by omega) rfl rfl rfl rfl (by simp [execOp,q1,ykm,eqGuard,binOp,Op.intCmp]) fun a2 s2 d2 q2 n2=>?_
 refine wpIn_cond_split q2 (fun hb=>?_) (fun hb=>?_)
 ·simp only [decide_eq_true_eq] at hb
  refine wpIn_skip ?_
  have hcl:=hcell hj
  obtain ⟨i,hi⟩:∃ i:Nat,(rows.length:Int) - 1 - k=i:=⟨rows.length - 1 - k,by omega⟩
  have hik:i=rows.length - 1 - k:=by omega
  obtain ⟨row,hrow⟩:∃ row,rows[i]?=some row:=⟨_,List.getElem?_eq_getElem (by omega)⟩
  obtain ⟨g,q,rfl,hgok,hcells⟩:=hrows i row hrow
  have hcells':ymh ok w (fun _=>none) g (q+i * 2) row:=fun j x hx=>by
   obtain ⟨c1,u,c2,c3⟩:=hcells j x hx
   exact ⟨c1,u,(World.cell?_of_block (w:=W) ((hJ _ _ hj).2 g hgok)).trans c2,c3.keep fun g' hg'=>⟨hg',(hJ _ _ hj).2 g' hg'⟩⟩
  obtain ⟨uv,hu1,hu2⟩:=ykq (P:=Tryz.prog) (tok _ _ (show TT 107=some _ from rfl)).1 hcells' (hval row (List.mem_of_getElem? hrow))
  refine wpIn_seq (wpIn_block (wpIn_seq (wpIn_region ?_)))
  refine ykv (d:=11) (.func (.yield l) #[] #[]) (by omega) rfl rfl rfl rfl (by simp [execOp,n2,n1,e0]) fun a3 s3 d3 q3 n3=>?_
  refine ykv (d:=12) (.int .i64 i) (by omega) rfl rfl rfl rfl (by simp [execOp,n3,n2,n1,e3,hi]) fun a4 s4 d4 q4 n4=>?_
  refine ykv (d:=13) (.slice (some ⟨g,q,none⟩) rows.length cap) (by omega) rfl rfl rfl rfl (by simp [execOp,n4,n3,n2,n1,e1,Instr.loadAt,Instr.sureAddr,hload hcl]) fun a5 s5 d5 q5 n5=>?_
  refine ykv (d:=14) (.int .i64 i) (by omega) rfl rfl rfl rfl (by simp [execOp,n5,n4,n3,n2,n1,e3,hi]) fun a6 s6 d6 q6 n6=>?_
  obtain ⟨z,hz⟩:∃ z,q+i * 2=z:=⟨_,rfl⟩
  rw [hz] at hu1
  refine ykv (d:=15) (.pointer (some ⟨g,z,none⟩)) (by omega) rfl rfl rfl rfl (by
   have hrun:=ysk (P:=Tryz.prog) (w:=w) (cap:=cap) (k:=.i64) hkind.1 hkind.2.1 g q rfl (i:=(i:Int)) (len:=rows.length) (by omega) (by omega)
   simp only [Int.toNat_natCast,hz] at hrun
   simp [execOp,n6,q5,q6,hrun]) fun a7 s7 d7 q7 n7=>?_
  refine ykv (d:=16) uv (by omega) rfl rfl rfl rfl (by simp [execOp,q7,Instr.loadAt,Instr.sureAddr,hu1]) fun a8 s8 d8 q8 n8=>?_
  have hel:(ygb val rows)[k]?=some [i64 ((rows.length:Int) - 1 - k),val row]:=by
   have hkl:k < (ygb val rows).length:=by rw [ygc];omega
   obtain ⟨el,hel⟩:∃ el,(ygb val rows)[k]?=some el:=⟨_,List.getElem?_eq_getElem hkl⟩
   obtain ⟨_,row',hr',rfl⟩:=yji hel
   rw [← hik,hrow] at hr'
   cases hr'
   exact hel
  have hy:=hround k _ [.int .i64 i,uv] w hel hj ⟨rfl,fun j x u hx hu=>by
   match j with
   | 0=>simp only [List.getElem?_cons_zero,Option.some.injEq] at hx hu;subst hx hu;rw [hi];exact .v _
   | 1=>simp only [List.getElem?_cons_succ,List.getElem?_cons_zero,Option.some.injEq] at hx hu;subst hx hu;exact hu2
   | j+2=>simp at hx⟩
  refine yzm (g:=.tmp 11) (args:=#[.tmp 12,.tmp 16]) rfl rfl rfl (by rw [n8 11 (by simp),n7 11 (by simp),n6 11 (by simp),n5 11 (by simp),n4 11 (by simp),q3]) (R:=fun e W'=>(e=.returned (.bool true)∧J (k+1) W')∨(e=.returned (.bool false)∧X W')) (by
   have e12:a8.eval (.tmp 12)=.int .i64 i:=by rw [n8 12 (by simp),n7 12 (by simp),n6 12 (by simp),n5 12 (by simp),q4]
   simpa [e12,q8] using hy) fun e w' hR=>?_
  have e0':a8.eval (.tmp 0)=.func (.yield l) #[] #[]:=by rw [n8 0 (by simp),n7 0 (by simp),n6 0 (by simp),n5 0 (by simp),n4 0 (by simp),n3 0 (by simp),n2 0 (by simp),n1 0 (by simp),e0]
  have e1':a8.eval (.tmp 1)=.pointer (some ⟨pg,po,none⟩):=by rw [n8 1 (by simp),n7 1 (by simp),n6 1 (by simp),n5 1 (by simp),n4 1 (by simp),n3 1 (by simp),n2 1 (by simp),n1 1 (by simp),e1]
  have e3':a8.eval (.tmp 3)=.int .i64 ((rows.length:Int) - 1 - k):=by rw [n8 3 (by simp),n7 3 (by simp),n6 3 (by simp),n5 3 (by simp),n4 3 (by simp),n3 3 (by simp),n2 3 (by simp),n1 3 (by simp),e3]
  have hd8:a8.defers=[]:=by rw [d8,d7,d6,d5,d4,d3,d2,d1,hd0]
  have hs8:a8.tmps.size=19:=by omega
  rcases hR with ⟨rfl,hj1⟩|⟨rfl,hx⟩
  ·refine ⟨_,rfl,?_⟩
   show wpOpsIn _ _ _ _ _ _ (a8.put (some 17) (.bool true)) w'
   have s9:(a8.put (some 17) (.bool true)).tmps.size=19:=by rw [ykw,hs8]
   have d9:(a8.put (some 17) (.bool true)).defers=[]:=by rw [ygn,hd8]
   have q9:(a8.put (some 17) (.bool true)).eval (.tmp 17)=.bool true:=ydn (by omega)
   have n9:∀ x,x≠17→(a8.put (some 17) (.bool true)).eval (.tmp x)=a8.eval (.tmp x):=fun x hx=>yjx hx
   generalize a8.put (some 17) (.bool true)=a9 at s9 d9 q9 n9 ⊢
   refine ykv (d:=18) (.bool false) (by omega) rfl rfl rfl rfl (by simp [execOp,q9,Op.unary]) fun a10 s10 d10 q10 n10=>?_
   refine wpIn_cond_false q10 (wpIn_skip ?_)
   refine wpIn_region ?_
   refine ykv (d:=9) _ (by omega) rfl rfl rfl rfl (by simp [execOp,n10,n9,e3'];rfl) fun a11 s11 d11 q11 n11=>?_
   refine ykv (d:=10) (.int .i64 ((rows.length:Int) - 1 - k - 1)) (by omega) rfl rfl rfl rfl (by simp [execOp,q11,ykm,eqGuard,binOp,Op.intArith,IntWalk.i64_in ((rows.length:Int) - 1 - k - 1) (by omega)]) fun a12 s12 d12 q12 n12=>?_
   refine ykv (d:=3) (.int .i64 ((rows.length:Int) - 1 - k - 1)) (by omega) rfl rfl rfl rfl (by simp [execOp,q12]) fun a13 s13 d13 q13 n13=>?_
   refine ⟨⟨k+1,by omega,hj1,by omega,by rw [d13,d12,d11,d10,d9],by rw [n13 0 (by simp),n12 0 (by simp),n11 0 (by simp),n10 0 (by simp),n9 0 (by simp),e0'],by rw [n13 1 (by simp),n12 1 (by simp),n11 1 (by simp),n10 1 (by simp),n9 1 (by simp),e1'],by rw [q13];congr 1;omega⟩,?_⟩
   rw [q13,e3]
   simp only [intOf]
   omega
  ·refine ⟨_,rfl,?_⟩
   show wpOpsIn _ _ _ _ _ _ (a8.put (some 17) (.bool false)) w'
   have s9:(a8.put (some 17) (.bool false)).tmps.size=19:=by rw [ykw,hs8]
   have d9:(a8.put (some 17) (.bool false)).defers=[]:=by rw [ygn,hd8]
   have q9:(a8.put (some 17) (.bool false)).eval (.tmp 17)=.bool false:=ydn (by omega)
   generalize a8.put (some 17) (.bool false)=a9 at s9 d9 q9 ⊢
   refine ykv (d:=18) (.bool true) (by omega) rfl rfl rfl rfl (by simp [execOp,q9,Op.unary]) fun a10 s10 d10 q10 n10=>?_
   refine wpIn_cond_true q10 (wpIn_ret ?_)
   refine ⟨?_,.tuple #[],?_,⟨_,rfl⟩,.inr hx⟩
   ·show a10.defers=[]
    rw [d10,d9]
   ·simp [results,Tryz.results205]
 ·simp only [decide_eq_false_iff_not] at hb
  obtain rfl:k=rows.length:=by omega
  refine wpIn_exit ?_
  refine ⟨?_,.tuple #[],?_,⟨_,rfl⟩,.inl ?_⟩
  ·show a2.defers=[]
   rw [d2,d1,hd0]
  ·simp [results,Tryz.results205]
  ·rw [ygc]
   exact hj
end
set_option maxHeartbeats 8000000
section
open Go.RowKit
theorem backO_con (rows:List (List AV)):Con Tryz.prog 150 [.sl 1 rows] (.fn 204 [.dp [.sl 1 rows] 0]):=by
 refine yao Tryz.func150 rfl rfl Tryz.ntmps150 Tryz.results150 rfl rfl ?_
 (try refine zy ?_)
 refine yaf ?_;refine ⟨_,rfl,?_⟩
 exact Frz.fn1 (Frz.box rfl rfl)
theorem backI_con (rows:List (List AV)):Con Tryz.prog 151 [.sl 2 rows] (.fn 205 [.dp [.sl 2 rows] 0]):=by
 refine yao Tryz.func151 rfl rfl Tryz.ntmps151 Tryz.results151 rfl rfl ?_
 (try refine zy ?_)
 refine yaf ?_;refine ⟨_,rfl,?_⟩
 exact Frz.fn1 (Frz.box rfl rfl)
def zvm (tbl:List (List (Int × Int))):List (List Int):=tbl.map fun r=>r.map (·.1)
def xae (tbl:List (List (Int × Int))) (i j:Nat):Int:=((tbl.getD i []).getD j (0,0)).1
theorem least1_con (tbl:List (List (Int × Int))) (i j:Nat) (r:List (Int × Int)) (hr:tbl[i]?=some r) (hj:j < r.length):Con Tryz.prog 145 [i64 i,i64 j,.dp [ydv tbl] 0] (i64 (xae tbl i j)):=by
 obtain ⟨q,hq⟩:=ycd hj
 refine yao Tryz.func145 rfl rfl Tryz.ntmps145 Tryz.results145 rfl rfl ?_
 (try refine zy ?_)
 refine yaf ?_;refine ⟨_,rfl,?_⟩
 exact yai (by simp [xae,List.getD_eq_getElem?_getD,hr,hq])
theorem built_low (tbl:List (List (Int × Int))):yii tbl (xae tbl)=ygq (zvm tbl):=by
 apply List.ext_getElem?
 intro i
 simp only [ygq,zvm,List.map_map,List.getElem?_map]
 cases hr:tbl[i]? with
 | none=>simp [yii,List.getElem?_mapIdx,hr]
 | some r=>
  rw [zbh hr]
  simp only [Option.map_some,Option.some.injEq,Function.comp]
  apply List.ext_getElem?
  intro j
  simp only [List.getElem?_map]
  by_cases hj:j < r.length
  ·obtain ⟨q,hq⟩:=ycd hj
   rw [List.getElem?_range hj,hq]
   simp [xae,List.getD_eq_getElem?_getD,hr,hq]
  ·rw [List.getElem?_eq_none (by simpa using hj),List.getElem?_eq_none (by omega)];rfl
theorem zdz {f:List (Nat × Option LObj)} {M:Nat} {rows:List (List AV)} {c:List (List Int)} {n:Nat} (hf:zel f=true) (hM:Nat.blt M 1000000=true) (hk:(f.all fun x=>!Nat.beq x.1 M)=true) (hn:n=c.length) (hr:rows=ygq c):Frz (hlook (f++yce M 1 rows [])) (.ls M 1 n) (ykd c):=by
 subst hn hr
 have:=Frz.mat (f:=f) (M:=M) (sz:=1) (rows:=ygq c) (els:=c.map fun r=>r.map fun x=>[i64 x]) hf hM hk (by omega) (by intro r hr e he;obtain ⟨r0,_,rfl⟩:=List.mem_map.1 hr;obtain ⟨q,_,rfl⟩:=List.mem_map.1 he;rfl) (n:=c.length) (by simp) (by simp only [ygq,List.map_map];congr 1;funext r;exact (yfm r).symm)
 simpa [ykd,yam,List.map_map,Function.comp_def] using this
end
section
open Go.RowKit
theorem yrv {α:Type} {l:List α} {x:Nat} {b:α} (h:l[x]?=some b):l.drop x=b::l.drop (x+1):=by
 rw [List.drop_eq_getElem_cons (List.getElem?_eq_some_iff.1 h).1,(List.getElem?_eq_some_iff.1 h).2]
theorem znv (c:List (List Int)) (v:Nat) (row:List Int):ygq (c.set v row)=(ygq c).set v (row.map i64):=by simp [ygq,List.map_set]
theorem matR_get (c:List (List Int)) (v:Nat):(ygq c)[v]?=(c[v]?).map fun r=>r.map i64:=by simp [ygq]
theorem set_same {α:Type} {l:List α} {k:Nat} {x:α} (h:l[k]?=some x):l.set k x=l:=by
 apply List.ext_getElem?
 intro i
 rw [List.getElem?_set]
 split
 ·rename_i e
  subst e
  split
  ·exact h.symm
  ·rename_i hlt;rw [List.getElem?_eq_none (by omega)]
 ·rfl
theorem zbf {val:List AV→AV} {rows:List (List AV)} (hp:∀ row∈rows,yap (val row)=true):∀ el∈ygb val rows,el.length=2∧yap.pureL el=true:=by
 intro el hel
 obtain ⟨k,hk⟩:=List.getElem?_of_mem hel
 obtain ⟨_,row,hrow,rfl⟩:=yji hk
 exact ⟨rfl,by simp [yap.pureL,yap,i64,hp row (List.mem_of_getElem? hrow)]⟩
theorem countF_bd (tbl:List (List (Int × Int))):(ykk tbl).1≤32768:=by
 have:∀ (l:List (Int × Int)) (n m:Int),n≤32768→zas n l=some m→m≤32768:=by
  intro l
  induction l with
  | nil=>intro n m hn h;simp only [zas,Option.some.injEq] at h;omega
  | cons b l ih=>
   intro n m hn h
   simp only [zas] at h
   split at h
   ·cases h
   ·exact ih _ m (by omega) h
 unfold ykk
 cases h:zas 1 tbl.flatten with
 | none=>simp
 | some n=>exact this _ 1 n (by omega) h
end
section
open Go.RowKit
theorem yol {r:List (Int × Int)} {s:List Int} (h:yds r s=true):s.length=r.length∧∀ (x:Nat) (b:Int × Int),r[x]?=some b→∃ z,s[x]?=some z∧b.1≤z∧z≤b.2:=by
 simp only [yds,Bool.and_eq_true,beq_iff_eq] at h
 refine ⟨h.1,fun x b hb=>?_⟩
 have hx:=(List.getElem?_eq_some_iff.1 hb).1
 obtain ⟨z,hz⟩:=ycd (show x < s.length by omega)
 have:=List.all_eq_true.1 h.2 _ (List.mem_of_getElem? (zfq hb hz))
 simp only [zvc,Bool.and_eq_true,decide_eq_true_eq] at this
 exact ⟨z,hz,this⟩
theorem yxx {tbl:List (List (Int × Int))} {c:List (List Int)} (h:ygi tbl c=true):c.length=tbl.length∧∀ (v:Nat) (r:List (Int × Int)),tbl[v]?=some r→∃ s,c[v]?=some s∧yds r s=true:=by
 simp only [ygi,Bool.and_eq_true,beq_iff_eq] at h
 refine ⟨h.1,fun v r hr=>?_⟩
 have hx:=(List.getElem?_eq_some_iff.1 hr).1
 obtain ⟨s,hs⟩:=ycd (show v < c.length by omega)
 exact ⟨s,hs,List.all_eq_true.1 h.2 _ (List.mem_of_getElem? (zfq hr hs))⟩
theorem yiw {p:ProgD} {g:GraphD} {c:List (List Int)}:yrt p g c=0↔ygf p g=0∧ygi (yaj p g) c=true:=by
 unfold yrt
 by_cases h:ygf p g=0
 ·by_cases h2:ygi (yaj p g) c=true
  ·simp [h,h2]
  ·simp [h,h2]
 ·simp [h]
def yow (p:ProgD) (tbl:List (List (Int × Int))) (v x:Nat) (z:Int):Int:=ylq ((p.vars.getD x default).kind) ((tbl.getD v []).getD x (0,0)).1 ((tbl.getD v []).getD x (0,0)).2 z
theorem ytn {p:ProgD} {g:GraphD} {v:Nat} {r:List (Int × Int)} (h:(yaj p g)[v]?=some r):r.length=p.vars.length:=by
 simp only [yaj,List.getElem?_map] at h
 cases hg:g.ports[v]? with
 | none=>rw [hg] at h;cases h
 | some ls=>rw [hg] at h;cases h;simp
end
end Go.Proofs.YtfhejdcijbgikaaGreatDoor
