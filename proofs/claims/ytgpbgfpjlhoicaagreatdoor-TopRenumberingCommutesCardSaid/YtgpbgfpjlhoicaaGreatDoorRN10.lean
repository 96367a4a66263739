/- Part 10 of the texts under TopRenumberingCommutes: joined, with what it needs alone. -/
import Derived.Test.YtgpbgfpjlhoicaaGreatDoorRN1
import Derived.Test.YtgpbgfpjlhoicaaGreatDoorRN3
import Derived.Test.YtgpbgfpjlhoicaaGreatDoorRN4
import Derived.Test.YtgpbgfpjlhoicaaGreatDoorRN7
import Derived.Test.YtgpbgfpjlhoicaaGreatDoorRN8
import Derived.Test.YtgpbgfpjlhoicaaGreatDoorRN9
set_option linter.unusedVariables false
set_option maxRecDepth 100000
set_option maxHeartbeats 8000000
namespace Go.Proofs.YtgpbgfpjlhoicaaGreatDoor
section
open Go.RowKit
theorem zen {p:ProgD} {g:GraphD} {y:VarD} (h1:ydf p=0) (h2:ybs g=true) (hy:y∈p.vars) (hb:zbf g y=false):yhg p g=9:=by
 unfold yhg
 rw [if_pos h1,if_pos h2,if_neg]
 intro h
 rw [List.all_eq_true.1 h y hy] at hb;cases hb
theorem fits_con (p:ProgD) (g:GraphD) (hf:Fair p g):Con Tryz.prog 130 [ytn p,ynl g] (i64 (yhg p g)):=by
 have hgl:=hf.glen
 have hvl:=hf.vlen
 refine yao Tryz.func130 rfl rfl Tryz.ntmps130 Tryz.results130 rfl rfl ?_
 (repeat (first|refine zy ?_|refine yaf rfl rfl (tvalid_con p hf.pin hf.light) rfl rfl ?_))
 refine yac rfl (fun h1=>?_) (fun h1=>?_)
 ·simp at h1
  (try refine zy ?_)
  refine yae ?_;refine ⟨_,rfl,?_⟩
  exact yai (by unfold yhg;rw [if_neg h1])
 simp at h1
 (repeat (first|refine zy ?_|refine yaf rfl rfl (zcj g hf.lg) rfl rfl ?_))
 refine yac rfl (fun h2=>?_) (fun h2=>?_)
 ·simp at h2
  (try refine zy ?_)
  refine yae ?_;refine ⟨_,rfl,?_⟩
  exact yai (by unfold yhg;rw [if_pos h1,if_neg (by simp [h2])])
 simp at h2
 have hvf:=yal h2
 obtain ⟨ls,hls⟩:=ycg (show 0 < g.ports.length by omega)
 have hll:=hgl.2.2 ls (List.mem_of_getElem? hls)
 (try refine zy ?_)
 refine ydi (α:=Nat) (fun k=>[(18,i64 k),(17,i64 p.vars.length),(16,.sl 6 (p.vars.map ydj)),(2,.lp 2 0),(3,.lp 3 0)]) (fun k=>[(2,some (.cells [zdp p.name,.sl 6 (p.vars.map ydj),.sl 3 (p.rules.map ydo)])),(3,some (.cells [yah g.ids,yau g.ports]))]) (fun k=>p.vars.length - k) (fun k=>k≤p.vars.length∧∀ y∈p.vars.take k,zbf g y=true) 0 ⟨by omega,by simp⟩ (by exact zs) (by exact zh) ?_
 intro k ⟨hk,hok⟩
 (try refine zy ?_)
 refine yac rfl (fun h=>?_) (fun h=>?_)
 ·simp at h
  obtain ⟨y,hy⟩:=ycg h
  have hym:=List.mem_of_getElem? hy
  have hnum:=(ydn h1).2.2.2 y hym
  have hbd:=yxw (deg:=(ls.length:Int)) hnum h2 (by omega)
  have hstep:zbf g y=true→∀ z∈p.vars.take (k+1),zbf g z=true:=by
   intro hfy z hz
   rw [yil hy] at hz
   rcases List.mem_append.1 hz with hz|hz
   ·exact hok z hz
   ·simp at hz;subst hz;exact hfy
  (try refine zy ?_)
  refine yac rfl (fun h3=>?_) (fun h3=>?_)
  ·simp at h3
   (try refine zy ?_)
   refine rnd (k+1) ⟨by omega,hstep (by simp [zbf,h3])⟩ (by omega) (by exact zs) (by exact zh)
  simp at h3
  have hsame:yar y g ls.length=yar y g 0:=by unfold yar;rw [if_neg (by omega),if_neg (by omega),if_neg (by omega),if_neg (by omega)]
  (repeat (first|refine zy ?_|refine yaf rfl rfl (zbq y g 0 ls hnum h2 (by omega) hls (by omega)) rfl rfl ?_))
  refine yay 34 rfl (fun h4=>?_) (fun h4=>?_)
  ·simp at h4
   (try refine zy ?_)
   refine yae ?_;refine ⟨_,rfl,?_⟩
   exact yai (zen h1 h2 hym (by rw [hsame] at h4;simp [zbf,h3];omega)).symm
  simp at h4
  (try refine zy ?_)
  refine yac rfl (fun h5=>?_) (fun h5=>?_)
  ·simp at h5
   (try refine zy ?_)
   refine yae ?_;refine ⟨_,rfl,?_⟩
   exact yai (zen h1 h2 hym (by rw [hsame] at h5;simp [zbf,h3];omega)).symm
  ·simp at h5
   (try refine zy ?_)
   refine rnd (k+1) ⟨by omega,hstep (by rw [hsame] at h4 h5;simp [zbf,h3];omega)⟩ (by omega) (by exact zs) (by exact zh)
 ·simp at h
  obtain rfl:k=p.vars.length:=by omega
  rw [List.take_length] at hok
  (try refine zy ?_)
  refine yae ?_;refine ⟨_,rfl,?_⟩
  exact yai (ydx.2 ⟨h1,h2,hok⟩).symm
theorem rfits_con (p:ProgD) (g:GraphD) (hf:Fair p g):Con Tryz.prog 111 [ytn p,ynl g] (i64 (yhg p g)):=by
 have hgl:=hf.glen
 have hvl:=hf.vlen
 refine yao Tryz.func111 rfl rfl Tryz.ntmps111 Tryz.results111 rfl rfl ?_
 (repeat (first|refine zy ?_|refine yaf rfl rfl (rtvalid_con p hf.pin hf.light) rfl rfl ?_))
 refine yac rfl (fun h1=>?_) (fun h1=>?_)
 ·simp at h1
  (try refine zy ?_)
  refine yae ?_;refine ⟨_,rfl,?_⟩
  exact yai (by unfold yhg;rw [if_neg h1])
 simp at h1
 (repeat (first|refine zy ?_|refine yaf rfl rfl (rvalid_con g hf.lg) rfl rfl ?_))
 refine yac rfl (fun h2=>?_) (fun h2=>?_)
 ·simp at h2
  (try refine zy ?_)
  refine yae ?_;refine ⟨_,rfl,?_⟩
  exact yai (by unfold yhg;rw [if_pos h1,if_neg (by simp [h2])])
 simp at h2
 have hvf:=yal h2
 obtain ⟨ls,hls⟩:=ycg (show 0 < g.ports.length by omega)
 have hll:=hgl.2.2 ls (List.mem_of_getElem? hls)
 (try refine zy ?_)
 refine ydi (α:=Nat) (fun k=>[(5,i64 k),(2,.lp 2 0),(3,.lp 3 0)]) (fun k=>[(2,some (.cells [zdp p.name,.sl 6 (p.vars.map ydj),.sl 3 (p.rules.map ydo)])),(3,some (.cells [yah g.ids,yau g.ports]))]) (fun k=>p.vars.length - k) (fun k=>k≤p.vars.length∧∀ y∈p.vars.take k,zbf g y=true) 0 ⟨by omega,by simp⟩ (by exact zs) (by exact zh) ?_
 intro k ⟨hk,hok⟩
 (try refine zy ?_)
 refine yac rfl (fun h=>?_) (fun h=>?_)
 ·simp at h
  obtain ⟨y,hy⟩:=ycg h
  have hym:=List.mem_of_getElem? hy
  have hnum:=(ydn h1).2.2.2 y hym
  have hbd:=yxw (deg:=(ls.length:Int)) hnum h2 (by omega)
  have hstep:zbf g y=true→∀ z∈p.vars.take (k+1),zbf g z=true:=by
   intro hfy z hz
   rw [yil hy] at hz
   rcases List.mem_append.1 hz with hz|hz
   ·exact hok z hz
   ·simp at hz;subst hz;exact hfy
  (repeat (first|refine zy ?_|refine yaf rfl rfl (zmn p g 0 k ls y hnum h2 (by omega) hls (by omega) (by omega) (by simpa using hy)) rfl rfl ?_))
  refine yay 35 rfl (fun h3=>?_) (fun h3=>?_)
  ·simp at h3
   have hsame:yar y g ls.length=yar y g 0:=by unfold yar;rw [if_neg (by omega),if_neg (by omega),if_neg (by omega),if_neg (by omega)]
   (repeat (first|refine zy ?_|refine yaf rfl rfl (yyu _ _ _) rfl rfl ?_))
   refine yac rfl (fun h4=>?_) (fun h4=>?_)
   ·simp [inB] at h4
    (try refine zy ?_)
    refine yae ?_;refine ⟨_,rfl,?_⟩
    exact yai (zen h1 h2 hym (by rw [hsame] at h4;simp [zbf,h3];omega)).symm
   ·simp [inB] at h4
    (try refine zy ?_)
    refine rnd (k+1) ⟨by omega,hstep (by rw [hsame] at h4;simp [zbf,h3];omega)⟩ (by omega) (by exact zs) (by exact zh)
  ·simp at h3
   (try refine zy ?_)
   refine rnd (k+1) ⟨by omega,hstep (by simp [zbf,h3])⟩ (by omega) (by exact zs) (by exact zh)
 ·simp at h
  obtain rfl:k=p.vars.length:=by omega
  rw [List.take_length] at hok
  (try refine zy ?_)
  refine yae ?_;refine ⟨_,rfl,?_⟩
  exact yai (ydx.2 ⟨h1,h2,hok⟩).symm
end
section
open Go.RowKit
end
section
open Go.RowKit
end
section
open Go.RowKit
theorem fit_ok {x:VarD} {g:GraphD} {deg:Int} (hf:zbf g x=true) (hx:ymd x=true) (hd:0≤deg∧deg≤30):(yar x g deg).1≤(yar x g deg).2∧(yar x g deg).2 - (yar x g deg).1+1≤4096:=by
 have h1:=yij hx
 unfold zbf at hf
 unfold yar at hf ⊢
 rcases h1.1 with hk|hk|hk
 ·simp [hk] at hf ⊢;omega
 ·simp [hk]
 ·simp [hk];omega
theorem bring_in {k lo hi a:Int} (h:lo≤hi) (h3:k=3→lo=-1):lo≤ylh k lo hi a∧ylh k lo hi a≤hi:=by
 unfold ylh;split
 ·omega
 ·split
  ·omega
  ·split <;> omega
theorem yvi {x:VarD} {g:GraphD} {deg:Int} (h:x.kind=3):yar x g deg=(-1,deg - 1):=by unfold yar;rw [if_neg (by omega),if_pos h]
end
section
open Go.RowKit
def yek (l:List (Int × Int)):List AV:=(l.map zej).flatten
theorem yyk (l:List (Int × Int)):(yek l).length=2 * l.length:=by
 unfold yek
 rw [zoj (k:=2) (fun x=>rfl)]
 omega
theorem zho:∀ {l:List (Int × Int)} {i:Nat} {y:Int × Int},i < l.length→((yek l).set (i * 2) (i64 y.1)).set (i * 2+1) (i64 y.2)=yek (l.set i y)
 | [],i,y,h=>by simp at h
 | (a,b)::l,0,y,h=>by simp [yek,zej]
 | (a,b)::l,i+1,y,h=>by
  have ih:=zho (l:=l) (i:=i) (y:=y) (by simpa using h)
  have e:yek ((a,b)::l)=i64 a::i64 b::yek l:=by simp [yek,zej]
  rw [List.set_cons_succ,e,show (i+1) * 2=i * 2+1+1 by omega,show i * 2+1+1+1=i * 2+1+1+1 from rfl]
  simp only [List.set_cons_succ]
  rw [ih]
  simp [yek,zej]
theorem xae:∀ n:Nat,yna n [i64 0,i64 0]=yek (List.replicate n (0,0))
 | 0=>rfl
 | n+1=>by simp [yna,xae n,List.replicate_succ,yek,zej]
def yat (p:ProgD) (g:GraphD):List (List (Int × Int)):=g.ports.map fun ls=>p.vars.map fun y=>yar y g ls.length
def tF (p:ProgD) (g:GraphD):List (Nat × Option LObj):=[(3,some (.cells [yah g.ids,yau g.ports])),(2,some (.cells [zdp p.name,.sl 6 (p.vars.map ydj),.sl 3 (p.rules.map ydo)]))]
def tF8 (p:ProgD) (g:GraphD) (y:VarD):List (Nat × Option LObj):=(8,some (.cells (ydj y)))::tF p g
theorem zqk {P:Program} {N:Nat} {c:Code} {Q:Exit→SS→Prop} {t t':List (Nat × AV)} {h h':List (Nat × Option LObj)} (k:A P N c Q (S t' h')) (h1:zbc t t') (h2:∀ id o,hlook h' id=some o→hlook h id=some o):A P N c Q (S t h):=yrw k ⟨yco h1,h2⟩
theorem A_midM {P:Program} {N:Nat} {x:Code} {Q:Exit→SS→Prop} {s:SS} (t0:List (Nat × AV)) (h0:List (Nat × Option LObj)) (k1:A P N x (Mid t0 h0) s) (k2:∀ s',Sub (S t0 h0) s'→Q .normal s'):A P N x Q s:=
 k1.mono fun e s ⟨he,hs⟩=>by subst he;exact k2 s hs
theorem zjn (p:ProgD) (g:GraphD) (hf:Fair p g) (h0:yhg p g=0):Con Tryz.prog 75 [ytn p,ynl g] (zhg (yat p g)):=by
 have hgl:=hf.glen
 have hvl:=hf.vlen
 obtain ⟨hc0,hg,hfit⟩:=ydx.1 h0
 have hvf:=yal hg
 have htl:(yat p g).length=g.ids.length:=by simp [yat];omega
 refine yao Tryz.func75 rfl rfl Tryz.ntmps75 Tryz.results75 rfl rfl ?_
 (repeat (first|refine zy ?_|refine zbm tok rfl rfl rfl rfl (by constructor <;> omega) rfl rfl rfl rfl rfl ?_))
 refine yxk 12 (List.replicate g.ids.length ynp) rfl (zvu _ _) ?_
 refine ygb (α:=Nat) (fun k=>[(15,i64 k),(14,i64 g.ids.length),(5,.ls 12 1 g.ids.length),(2,.lp 2 0),(3,.lp 3 0)]) (fun k=>tF p g++yec 12 2 ((yat p g).take k |>.map yek) (List.replicate (g.ids.length - k) ynp)) (fun k=>g.ids.length - k) (fun k=>k≤g.ids.length) 0 (by omega) (by exact zs) (yaq (by simp only [List.take_zero,List.map_nil,yec,yfn,yqm,List.nil_append,Nat.sub_zero];exact zh)) ?_
 intro k hk
 (try refine zy ?_)
 refine yac rfl (fun h=>?_) (fun h=>?_)
 ·simp at h
  obtain ⟨ls,hls⟩:=ycg (show k < g.ports.length by omega)
  have hll:=hgl.2.2 ls (List.mem_of_getElem? hls)
  have htk:(((yat p g).take k).map yek).length=k:=by simp;omega
  (repeat (first|refine zy ?_|refine L_makeI tok (fam 12 k) rfl rfl rfl rfl (by constructor <;> omega) (zhu (f:=tF p g) rfl rfl rfl htk.symm (zla ynp rfl _)) rfl rfl rfl ?_))
  refine ybv tok rfl rfl (by rw [yap (yef (by omega))];exact yea rfl) rfl (by omega) (by omega) rfl rfl ?_
  refine yrx tok rfl rfl rfl rfl rfl (by rw [yap (yef (by omega))];exact yea rfl) (by rw [List.length_append,yej,htk,List.length_replicate];simp;omega) rfl rfl ?_
  refine zuv (h':=tF p g++yec 12 2 (((yat p g).take k).map yek++[yek (List.replicate p.vars.length (0,0))]) (List.replicate (g.ids.length - (k+1)) ynp)) ?_ ?_
  ·have hrep:yna p.vars.length (ykq [Value.int .i64 0,Value.int .i64 0])=yek (List.replicate p.vars.length (0,0)):=xae _
   have hex:List.replicate (g.ids.length - k) ynp=ynp::List.replicate (g.ids.length - (k+1)) ynp:=by rw [← List.replicate_succ];congr 1;omega
   rw [show ((k:Int).toNat * 1)=k by simp]
   exact zsh (M:=12) (sz:=2) (f:=tF p g) (a:=ynp) rfl rfl rfl htk.symm (by rw [hrep,yyk];simp) hex (by rw [hrep])
  (try refine zy ?_)
  refine ygb (α:=Nat) (fun j=>[(28,i64 j),(27,i64 p.vars.length),(26,.sl 6 (p.vars.map ydj)),(6,i64 k),(15,i64 k),(14,i64 g.ids.length),(5,.ls 12 1 g.ids.length),(2,.lp 2 0),(3,.lp 3 0)]) (fun j=>tF p g++yec 12 2 (((yat p g).take k).map yek++[yek ((p.vars.map fun y=>yar y g ls.length).take j++List.replicate (p.vars.length - j) (0,0))]) (List.replicate (g.ids.length - (k+1)) ynp)) (fun j=>p.vars.length - j) (fun j=>j≤p.vars.length) 0 (by omega) (by exact zs) (hsE (by simp)) ?_
  intro j hj
  (try refine zy ?_)
  refine yac rfl (fun h2=>?_) (fun h2=>?_)
  ·simp at h2
   obtain ⟨y,hy⟩:=ycg (show j < p.vars.length by omega)
   (repeat (first|refine zw ?_|refine zkg tok rfl rfl rfl (zrp (f:=tF p g) rfl rfl rfl (znp _ _ rfl _)) rfl rfl rfl ?_))
   -- ROUND
   have hyn:ymd y=true:=(ydn hc0).2.2.2 y (List.mem_of_getElem? hy)
   obtain ⟨hlow8,houter⟩:zgi (tF8 p g y)=true∧((tF8 p g y).all fun x=>!Nat.beq x.1 12)=true:=⟨rfl,rfl⟩
   obtain ⟨flat,hflat⟩:∃ flat,yek ((p.vars.map fun y=>yar y g ls.length).take j++List.replicate (p.vars.length - j) (0,0))=flat:=⟨_,rfl⟩
   have hpart:(((yat p g).take k).map yek++[yek ((p.vars.map fun y=>yar y g ls.length).take j++List.replicate (p.vars.length - j) (0,0))])[k]?=some flat:=by
    rw [List.getElem?_append_right (by omega),htk,Nat.sub_self,← hflat];rfl
   have hpl:flat.length=2 * p.vars.length:=by rw [← hflat,yyk];simp;omega
   have hfin:∀ (a b:Nat),a=j * 2→b=j * 2+1→hlook ((fam 12 k,some (.vec ((flat.set a (i64 (yar y g ls.length).1)).set b (i64 (yar y g ls.length).2))))::(fam 12 k,some (.vec (flat.set a (i64 (yar y g ls.length).1))))::(tF8 p g y++yec 12 2 (((yat p g).take k).map yek++[yek ((p.vars.map fun y=>yar y g ls.length).take j++List.replicate (p.vars.length - j) (0,0))]) (List.replicate (g.ids.length - (k+1)) ynp)))=hlook (tF8 p g y++yec 12 2 (((yat p g).take k).map yek++[yek ((p.vars.map fun y=>yar y g ls.length).take (j+1)++List.replicate (p.vars.length - (j+1)) (0,0))]) (List.replicate (g.ids.length - (k+1)) ynp)):=by
    rintro _ _ rfl rfl
    have e:(flat.set (j * 2) (i64 (yar y g ls.length).1)).set (j * 2+1) (i64 (yar y g ls.length).2)=yek ((p.vars.map fun y=>yar y g ls.length).take (j+1)++List.replicate (p.vars.length - (j+1)) (0,0)):=by
     rw [← hflat,zho (by simp;omega),set_fill (by simp) (by rw [List.getElem?_map,hy];rfl)]
    rw [e,ygz]
    refine (mat_upd hlow8 (by omega) hpart (by rw [hpl,yyk];simp;omega)).trans ?_
    rw [set_last htk]
   have hcO:ycq (hlook (tF8 p g y++yec 12 2 (((yat p g).take k).map yek++[yek ((p.vars.map fun y=>yar y g ls.length).take j++List.replicate (p.vars.length - j) (0,0))]) (List.replicate (g.ids.length - (k+1)) ynp)) 12)=some (yfn 12 2 0 (((yat p g).take k).map yek++[yek ((p.vars.map fun y=>yar y g ls.length).take j++List.replicate (p.vars.length - j) (0,0))])++(List.replicate (g.ids.length - (k+1)) ynp)):=by rw [yea houter];exact ymp _
   have hcell:(yfn 12 2 0 (((yat p g).take k).map yek++[yek ((p.vars.map fun y=>yar y g ls.length).take j++List.replicate (p.vars.length - j) (0,0))])++(List.replicate (g.ids.length - (k+1)) ynp))[(k:Int).toNat * 1]?=some (.ls (fam 12 k) 2 p.vars.length):=by
    rw [show ((k:Int).toNat * 1)=k by simp,List.getElem?_append_left (by rw [yej];simp;omega),yfe,hpart]
    simp only [Option.map_some,hpl,Nat.zero_add]
    congr 2
    omega
   have hpne:flat≠[]:=by intro h0;rw [h0] at hpl;simp at hpl;omega
   refine zqk (t':=[(7,i64 j),(8,.lp 8 0),(6,i64 k),(5,.ls 12 1 g.ids.length),(28,i64 j),(27,i64 p.vars.length),(26,.sl 6 (p.vars.map ydj)),(15,i64 k),(14,i64 g.ids.length),(2,.lp 2 0),(3,.lp 3 0)]) (h':=tF8 p g y++yec 12 2 (((yat p g).take k).map yek++[yek ((p.vars.map fun y=>yar y g ls.length).take j++List.replicate (p.vars.length - j) (0,0))]) (List.replicate (g.ids.length - (k+1)) ynp)) ?_ (by exact zs) (hsE ygz)
   refine A_midM [(7,i64 j),(8,.lp 8 0),(6,i64 k),(5,.ls 12 1 g.ids.length),(28,i64 j),(27,i64 p.vars.length),(26,.sl 6 (p.vars.map ydj)),(15,i64 k),(14,i64 g.ids.length),(2,.lp 2 0),(3,.lp 3 0)] (tF8 p g y++yec 12 2 (((yat p g).take k).map yek++[yek ((p.vars.map fun y=>yar y g ls.length).take (j+1)++List.replicate (p.vars.length - (j+1)) (0,0))]) (List.replicate (g.ids.length - (k+1)) ynp)) ?_ fun s2 hs2=>yrw ?_ hs2
   focus
    refine ycv (lf:=lf0) yzi rfl ?_
    refine ymk [0,1,2,3,4,5,6,7,8,10,11,12,13,14,15,17,18] 6 (yaa rfl (yaa rfl (yaa rfl (yaa rfl (yaa rfl (yaa rfl (yaa rfl (yaa rfl (yaa rfl (yaa rfl (yaa rfl (yaa rfl (yaa rfl (yaa rfl (yaa rfl (yaa rfl (yaa rfl ybb))))))))))))))))) rfl (by kernel_rfl) ?_
    repeat' (first
     | refine zo ?_
     | refine ybv tok rfl rfl (by first|exact ybe|exact yun hlow8 (by omega) hpart|exact yea houter) rfl (by omega) (by omega) rfl rfl ?_
     | refine yqy (r:=.ls (fam 12 k) 2 p.vars.length) tok rfl rfl rfl hcO hcell rfl rfl ?_
     | refine yaf rfl rfl (zbq y g k ls hyn hg (by omega) (by simpa using hls) (by omega)) rfl rfl ?_
     | refine ypa tok rfl rfl (by first|(rw [ybe];rfl)|(rw [yun hlow8 (by omega) hpart];rfl)) (by first|exact hpne|(intro h0;exact hpne (by simpa using h0))) rfl (by decide) (by decide) rfl rfl ?_
     | refine zeb tok rfl rfl rfl rfl rfl (by first|exact ybe|exact yun hlow8 (by omega) hpart) (by first|omega|(rw [List.length_set];omega)) rfl rfl rfl ?_
     | exact ⟨rfl,yco (by exact zs),hsE (hfin _ _ (by simp) (by simp))⟩
     | exact trivial
     | refine ⟨⟨_,rfl,?_⟩,?_⟩
     | refine ycj [16,20,21,22] (yaa rfl (yaa rfl (yaa rfl (yaa rfl ybb)))) rfl (by decide +kernel) ?_
     | refine ycj [16,21,22] (yaa rfl (yaa rfl (yaa rfl ybb))) rfl (by decide +kernel) ?_
     | refine ycj [19,21,22] (yaa rfl (yaa rfl (yaa rfl ybb))) rfl (by decide +kernel) ?_
     | refine ycj [20,21,22] (yaa rfl (yaa rfl (yaa rfl ybb))) rfl (by decide +kernel) ?_
     | refine ycj [9,16,20,21,22] (yaa rfl (yaa rfl (yaa rfl (yaa rfl (yaa rfl ybb))))) rfl (by decide +kernel) ?_
     | refine ycj [9,20,21,22] (yaa rfl (yaa rfl (yaa rfl (yaa rfl ybb)))) rfl (by decide +kernel) ?_
     | refine ycl [16,19,20] _ rfl (by decide +kernel) (by simp) ?_
     | refine ycl [9,16,19] _ rfl (by decide +kernel) (by simp) ?_
     | refine ycl [19,20] _ rfl (by decide +kernel) (by simp) ?_
     | refine ycl [16,19] _ rfl (by decide +kernel) (by simp) ?_
     | refine ycl [9,19] _ rfl (by decide +kernel) (by simp) ?_)
   (try refine zy ?_)
   exact zae (j+1) (by omega) (by omega) (by exact zs) (hsM (f:=tF8 p g y) (f':=tF p g) (yad rfl (yad rfl yak)) hlow8 rfl houter)
  ·simp at h2
   obtain rfl:j=p.vars.length:=by omega
   (try refine zy ?_)
   refine zae (k+1) (by omega) (by omega) (by exact zs) (hsE ?_)
   have hrow:(yat p g)[k]?=some (p.vars.map fun y=>yar y g ls.length):=by simp [yat,hls]
   rw [ybj hrow]
   simp [List.take_of_length_le]
 ·simp at h
  obtain rfl:k=g.ids.length:=by omega
  (try refine zy ?_)
  refine yae ?_;refine ⟨_,rfl,?_⟩
  have e1:(yat p g).take g.ids.length=yat p g:=List.take_of_length_le (by omega)
  have e2:List.replicate (g.ids.length - g.ids.length) ynp=[]:=by simp
  rw [e1,e2]
  have:=Frz.mat (f:=tF p g) (M:=12) (sz:=2) (rows:=(yat p g).map yek) (els:=(yat p g).map fun r=>r.map zej) rfl rfl rfl (by omega) (by intro r hr e he;obtain ⟨r0,_,rfl⟩:=List.mem_map.1 hr;obtain ⟨q,_,rfl⟩:=List.mem_map.1 he;rfl) (n:=g.ids.length) (by simp [htl]) (by simp [yek,Function.comp_def])
  simpa [S,zhg,List.map_map,Function.comp_def] using this
end
section
open Go.RowKit
def zqa (r:Int × Int) (v:Int):Bool:=decide (r.1≤v) && decide (v≤r.2)
def yfk (rs:List (Int × Int)) (vs:List Int):Bool:=vs.length == rs.length && (rs.zip vs).all fun x=>zqa x.1 x.2
theorem yvc {α β:Type} {l:List α} {m:List β} {k:Nat} {a:α} {b:β} (h1:l[k]?=some a) (h2:m[k]?=some b):(l.zip m)[k]?=some (a,b):=by
 rw [List.getElem?_zip_eq_some];exact ⟨h1,h2⟩
theorem yoa {α:Type} {l:List α} {f:α→Bool} {k:Nat} {x:α} (hx:l[k]?=some x) (h:(l.take k).all f=true) (hf:f x=true):(l.take (k+1)).all f=true:=by
 rw [ybj hx,List.all_append,h];simp [hf]
theorem ymj {α:Type} {l:List α} {f:α→Bool} {k:Nat} {x:α} (hx:l[k]?=some x) (hf:f x=false):l.all f=false:=by
 rw [List.all_eq_false];exact ⟨x,List.mem_of_getElem? hx,by simp [hf]⟩
theorem state_con (rs:List (Int × Int)) (vs:List Int) (hv:vs.length≤1000000):Con Tryz.prog 191 [.sl 2 (rs.map zej),yah vs] (ybq (yfk rs vs)):=by
 refine yao Tryz.func191 rfl rfl Tryz.ntmps191 Tryz.results191 rfl rfl ?_
 (try refine zy ?_)
 refine yac rfl (fun h=>?_) (fun h=>?_)
 ·(try refine zy ?_)
  refine yae ?_;refine ⟨_,rfl,?_⟩
  refine yag ?_
  have:vs.length≠rs.length:=by intro e;simp [e] at h
  simp [yfk,this]
 have hl:vs.length=rs.length:=by simp at h;omega
 (try refine zy ?_)
 refine ydi (α:=Nat) (fun k=>[(14,i64 k),(13,i64 vs.length),(12,yah vs),(0,.sl 2 (rs.map zej))]) (fun k=>[]) (fun k=>vs.length - k) (fun k=>k≤vs.length∧((rs.zip vs).take k).all (fun x=>zqa x.1 x.2)=true) 0 ⟨by omega,rfl⟩ (by exact zs) (by exact zh) ?_
 intro k ⟨hk,hok⟩
 (try refine zy ?_)
 refine yac rfl (fun h1=>?_) (fun h1=>?_)
 ·simp at h1
  obtain ⟨v,hvk⟩:=ycg (show k < vs.length by omega)
  obtain ⟨r,hrk⟩:=ycg (show k < rs.length by omega)
  have hz:=yvc hrk hvk
  (try refine zy ?_)
  refine yay 26 rfl (fun h2=>?_) (fun h2=>?_)
  ·(try refine zy ?_)
   refine yae ?_;refine ⟨_,rfl,?_⟩
   refine yag ?_
   simp at h2
   rw [yfk,ymj hz (by simp [zqa];omega),Bool.and_false]
  ·(try refine zy ?_)
   refine yac rfl (fun h3=>?_) (fun h3=>?_)
   ·(try refine zy ?_)
    refine yae ?_;refine ⟨_,rfl,?_⟩
    refine yag ?_
    simp at h2 h3
    rw [yfk,ymj hz (by simp [zqa];omega),Bool.and_false]
   ·(try refine zy ?_)
    simp at h2 h3
    exact rnd (k+1) ⟨by omega,yoa hz hok (by simp [zqa];omega)⟩ (by omega) (by exact zs) (by exact zh)
 ·simp at h1
  obtain rfl:k=vs.length:=by omega
  (try refine zy ?_)
  refine yae ?_;refine ⟨_,rfl,?_⟩
  refine yag ?_
  rw [List.take_of_length_le (by simp;omega)] at hok
  simp [yfk,hl,hok]
def yif (tbl:List (List (Int × Int))) (c:List (List Int)):Bool:=c.length == tbl.length && (tbl.zip c).all fun x=>yfk x.1 x.2
def zpa (c:List (List Int)):Prop:=c.length≤1000000∧∀ r∈c,r.length≤1000000
theorem within_con (tbl:List (List (Int × Int))) (c:List (List Int)) (hc:zpa c) (ht:tbl.length≤1000000):Con Tryz.prog 131 [zhg tbl,yhm c] (ybq (yif tbl c)):=by
 have hcl:=hc.1
 refine yao Tryz.func131 rfl rfl Tryz.ntmps131 Tryz.results131 rfl rfl ?_
 (try refine zy ?_)
 refine yac rfl (fun h=>?_) (fun h=>?_)
 ·(try refine zy ?_)
  refine yae ?_;refine ⟨_,rfl,?_⟩
  refine yag ?_
  have:c.length≠tbl.length:=by intro e;simp [e] at h
  simp [yif,this]
 have hl:c.length=tbl.length:=by simp at h;omega
 (try refine zy ?_)
 refine ydi (α:=Nat) (fun k=>[(14,i64 k),(13,i64 tbl.length),(12,zhg tbl),(1,yhm c)]) (fun k=>[]) (fun k=>tbl.length - k) (fun k=>k≤tbl.length∧((tbl.zip c).take k).all (fun x=>yfk x.1 x.2)=true) 0 ⟨by omega,rfl⟩ (by exact zs) (by exact zh) ?_
 intro k ⟨hk,hok⟩
 (try refine zy ?_)
 refine yac rfl (fun h1=>?_) (fun h1=>?_)
 ·simp at h1
  obtain ⟨r,hrk⟩:=ycg (show k < tbl.length by omega)
  obtain ⟨v,hvk⟩:=ycg (show k < c.length by omega)
  have hz:=yvc hrk hvk
  (repeat (first|refine zy ?_|refine yaf rfl rfl (state_con r v (hc.2 v (List.mem_of_getElem? hvk))) rfl rfl ?_))
  refine yac rfl (fun h2=>?_) (fun h2=>?_)
  ·(try refine zy ?_)
   refine yae ?_;refine ⟨_,rfl,?_⟩
   refine yag ?_
   simp at h2
   rw [yif,ymj hz h2,Bool.and_false]
  ·(try refine zy ?_)
   simp at h2
   exact rnd (k+1) ⟨by omega,yoa hz hok h2⟩ (by omega) (by exact zs) (by exact zh)
 ·simp at h1
  obtain rfl:k=tbl.length:=by omega
  (try refine zy ?_)
  refine yae ?_;refine ⟨_,rfl,?_⟩
  refine yag ?_
  rw [List.take_of_length_le (by simp;omega)] at hok
  simp [yif,hl,hok]
theorem cfg_of_fair {p:ProgD} {g:GraphD} (hf:Fair p g):(yat p g).length≤1000000∧∀ r∈yat p g,r.length≤1000:=by
 have h1:=hf.glen.2.1
 have h2:=hf.vlen
 refine ⟨by simp [yat];omega,fun r hr=>?_⟩
 obtain ⟨ls,_,rfl⟩:=List.mem_map.1 hr
 simpa using h2
def yhl (p:ProgD) (g:GraphD) (c:List (List Int)):Int:=if yhg p g=0 then if yif (yat p g) c=true then 0 else 10 else yhg p g
theorem mcheck_con (p:ProgD) (g:GraphD) (c:List (List Int)) (hf:Fair p g) (hc:zpa c):Con Tryz.prog 74 [ytn p,ynl g,yhm c] (i64 (yhl p g c)):=by
 refine yao Tryz.func74 rfl rfl Tryz.ntmps74 Tryz.results74 rfl rfl ?_
 (repeat (first|refine zy ?_|refine yaf rfl rfl (fits_con p g hf) rfl rfl ?_))
 refine yac rfl (fun h=>?_) (fun h=>?_)
 ·(try refine zy ?_)
  refine yae ?_;refine ⟨_,rfl,?_⟩
  have:yhg p g≠0:=by simpa using h
  exact yai (by simp [yhl,this])
 have h0:yhg p g=0:=by simpa using h
 (repeat (first|refine zy ?_|refine yaf rfl rfl (zjn p g hf h0) rfl rfl ?_|refine yaf rfl rfl (within_con (yat p g) c hc (cfg_of_fair hf).1) rfl rfl ?_))
 refine yac rfl (fun h1=>?_) (fun h1=>?_)
 ·simp at h1
  (try refine zy ?_)
  refine yae ?_;refine ⟨_,rfl,?_⟩
  exact yai (by simp [yhl,h0,h1])
 ·simp at h1
  (try refine zy ?_)
  refine yae ?_;refine ⟨_,rfl,?_⟩
  exact yai (by simp [yhl,h0,h1])
end
section
open Go.RowKit
def RgOk (q:Int × Int):Prop:=-1≤q.1∧q.1≤q.2∧q.2≤1000000
def TabIn (tbl:List (List (Int × Int))):Prop:=tbl.length≤1000∧∀ r∈tbl,r.length≤1000∧∀ q∈r,RgOk q
theorem table_in {p:ProgD} {g:GraphD} (hf:Fair p g) (h0:yhg p g=0):TabIn (yat p g):=by
 obtain ⟨hc0,hg,hfit⟩:=ydx.1 h0
 have hvf:=yal hg
 refine ⟨by simp [yat];omega,fun r hr=>?_⟩
 obtain ⟨ls,hls,rfl⟩:=List.mem_map.1 hr
 have hll:=hf.glen.2.2 ls hls
 refine ⟨by simpa using hf.vlen,fun q hq=>?_⟩
 obtain ⟨y,hy,rfl⟩:=List.mem_map.1 hq
 have hn:=(ydn hc0).2.2.2 y hy
 have hb:=yxw (deg:=ls.length) hn hg (by omega)
 have hl:=fit_bd (deg:=ls.length) (hfit y hy) hn (by omega)
 refine ⟨hb.1,?_,by omega⟩
 by_cases hk:y.kind=3
 ·rw [yvi hk];simp only;omega
 ·rw [if_neg hk] at hl;omega
end
set_option maxHeartbeats 4000000
section
open Go.RowKit
theorem zgv {h:Nat→Option LObj} {id off:Nat} {xs:List AV} {B:Bse} {ok0:Nat→Prop} {lv:Live} {w:World} {u:Value} (hi:Inv B ok0 h lv w) (hx:h id=some (.cells xs)) (hr:Rel (yax B ok0 lv w) w lv (.lp id off) u) (hp:yav.pureL xs=true) (ok':Nat→Prop) (hk1:∀ g,yax B ok0 lv w g→ok' g) (hk2:∀ b n,lv id=some (some b,n)→ok' b):Rel ok' w (fun _=>none) (.dp xs off) u:=by
 obtain ⟨b,n,h1,rfl,h2⟩:=yfx hi (by rw [hx];rfl) (.inr hx) hr
 have:=Rel.dp (ok:=ok') (w:=w) (lv:=fun _=>none) (row:=xs) (off:=off) b 0 (fun j=>(w.cell? ⟨b,0+j,none⟩).getD undef) (hk2 b n h1) (fun j c hc=>?_) (fun j c hc=>?_)
 ·rwa [Nat.zero_add] at this
 ·obtain ⟨q1,v,q2,_⟩:=h2 j c hc
  exact ⟨by rw [q2];rfl,q1⟩
 ·obtain ⟨_,v,q2,q3⟩:=h2 j c hc
  rw [q2]
  exact (q3.relive fun id b n hb _=>by cases hb).keep fun g hg=>⟨hk1 g hg,rfl⟩
theorem Frz.box {h:Nat→Option LObj} {id off:Nat} {xs:List AV} (hx:h id=some (.cells xs)) (hp:yav.pureL xs=true):Frz h (.lp id off) (.dp xs off):=
 fun B ok0 lv w u hi hr=>zgv hi hx hr hp _ (fun g hg=>⟨hg.1,hg.2.1⟩) fun b n hb=>by obtain ⟨_,_,h1,h2,_⟩:=hi.lvat hb;exact ⟨.inr h1,h2⟩
theorem Frz.fn {h:Nat→Option LObj} {f:Nat} {xs ys:List AV} (hl:xs.length=ys.length) (hf:∀ (i:Nat) (x y:AV),xs[i]?=some x→ys[i]?=some y→Frz h x y):Frz h (.fn f xs) (.fn f ys):=by
 intro B ok0 lv w u hi hr
 cases hr with
 | fn vs hvl hrr=>
  refine .fn vs (hvl.trans hl) fun i c v hc hv=>?_
  obtain ⟨x,hx⟩:∃ x,xs[i]?=some x:=⟨_,List.getElem?_eq_getElem (by have:=(List.getElem?_eq_some_iff.1 hc).1;omega)⟩
  exact hf i x c hx hc B ok0 lv w v hi (hrr i x v hx hv)
variable {P:Program} {N:Nat} {t:List (Nat × AV)} {h:List (Nat × Option LObj)}
theorem Sim.freezeBox {B:Bse} {ok0:Nat→Prop} {s:SS} {lv:Live} {a:Act} {w:World} (hs:Sim B ok0 N s lv a w) {d id off:Nat} {xs:List AV} (hd:s.t d=some (.lp id off)) (hx:s.h id=some (.cells xs)) (hp:yav.pureL xs=true)
  {s':SS} (ht:∀ x y,s'.t x=some y→y=.any∨s.t x=some y) (hlt:∀ x y,s'.t x=some y→∃ z,s.t x=some z) (hid:s'.h id=none) (hh:∀ j ob',s'.h j=some ob'→∃ ob,s.h j=some ob∧ymf ob ob'):∃ lv',Sim B ok0 N ⟨ydu s'.t (some d) (.dp xs off),s'.h⟩ lv' a w:=by
 obtain ⟨lv',h1,h2,h3,h4⟩:=hs.forg ht hlt hh
 refine ⟨lv',?_⟩
 have hdN:=(hs.frame d _ hd).1
 have hr:=zgv hs.inv hx (hs.frame d _ hd).2 hp (yax B ok0 lv' w) h4 (fun b n hb=>?_)
 ·have hrl:Rel (yax B ok0 lv' w) w lv' (.dp xs off) (ydl B a d):=hr.relive fun i b n _ hm=>by simp [ment] at hm
  refine ⟨h1.inv,h1.size,fun x y hy=>?_,h1.defers,h1.big,h1.pin⟩
  simp only [ydu] at hy
  split at hy
  ·rename_i e
   subst e
   simp only [Option.some.injEq] at hy
   subst hy
   exact ⟨hdN,hrl⟩
  ·exact h1.frame x y hy
 ·obtain ⟨_,_,g1,g2,_⟩:=hs.inv.lvat hb
  refine ⟨.inr g1,g2,fun j b' m hj he=>?_⟩
  subst he
  have:=hs.inv.inj j id b' m n (h2 j _ m hj) hb
  subst this
  rw [h1.inv.dom j hid] at hj
  cases hj
theorem yhn {c:Code} {Q:Exit→SS→Prop} {t':List (Nat × AV)} {h':List (Nat × Option LObj)} (d:Nat) {id off:Nat} {xs:List AV} (hd:look t d=some (.lp id off)) (hx:hlook h id=some (.cells xs)) (hp:yav.pureL xs=true)
  (ht:ysi id t=some t') (hh:yqb id h=some h') (k:A P N c Q (S ((d,.dp xs off)::t') ((id,none)::h'))):A P N c Q (S t h):=by
 intro B ok0 lv a w hs
 obtain ⟨g1,g2⟩:=yge ht
 obtain ⟨lv',hs'⟩:=hs.freezeBox (s':=S t' ((id,none)::h')) hd hx hp (fun x y hy=>(g1 x y hy).imp (fun h=>h) And.left) g2 (by simp [S,hlook]) (fun j ob' hj=>by
  simp only [S,hlook] at hj
  split at hj
  ·cases hj
  ·exact (yfb hh j ob' hj).2)
 rw [show (⟨ydu (S t' ((id,none)::h')).t (some d) (.dp xs off),(S t' ((id,none)::h')).h⟩:SS)=S ((d,.dp xs off)::t') ((id,none)::h') by unfold S;rw [ydb]] at hs'
 exact k B ok0 lv' a w hs'
end
section
open Go.RowKit
theorem yiw {a:Act} {d:Nat} {u:Value} (h:d < a.tmps.size):(a.put (some d) u).eval (.tmp d)=u:=by
 simp [Act.put,Act.eval,Array.getD,h]
theorem yrp {a:Act} {d x:Nat} {u:Value} (h:x≠d):(a.put (some d) u).eval (.tmp x)=a.eval (.tmp x):=by
 simp only [Act.put,Act.eval,Array.getD_eq_getD_getElem?,Array.getElem?_setIfInBounds]
 rw [if_neg (by omega)]
theorem zmq {a:Act} {v:Value}:a.eval (.const v)=v:=rfl
theorem ywz {a:Act} {d:Nat} {u:Value}:(a.put (some d) u).tmps.size=a.tmps.size:=by simp [Act.put]
theorem yps {a:Act} {d:Option Nat} {u:Value}:(a.put d u).defers=a.defers:=by cases d <;> rfl
theorem zty {P:Program} {n:Nat} {ops:Array Oper} {Q:Exit→Act→World→Prop} {a:Act} {w:World} {i d:Nat} {rest:List Nat} {o:Oper} (u:Value) (hlt:d < a.tmps.size) (ho:ops[i]?=some o) (hdst:o.dst=some d) (hg:o.guard=none) (hd:ymt o.op=false) (hr:(execOp a.eval o).run P w=.ok (.value u) w)
  (k:∀ a':Act,a'.tmps.size=a.tmps.size→a'.defers=a.defers→a'.eval (.tmp d)=u→(∀ x,x≠d→a'.eval (.tmp x)=a.eval (.tmp x))→wpOpsIn Fence.wide n P ops Q rest a' w):wpOpsIn Fence.wide n P ops Q (i::rest) a w:=
 opI u ho hg hd hr (by rw [hdst];exact k _ ywz yps (yiw hlt) fun x hx=>yrp hx)
theorem relAll1' {ok:Nat→Prop} {w:World} {lv:Live} {a:AV} {cs:List Value} (h:ybm ok w lv [a] cs):∃ u,cs=[u]∧Rel ok w lv a u:=by
 match cs,h.1 with
 | [u],_=>exact ⟨u,rfl,h.2 0 _ _ rfl rfl⟩
end
set_option maxHeartbeats 8000000
section
open Go.RowKit
theorem zrs {f:List (Nat × Option LObj)} {M:Nat} {rows:List (List AV)} {c:List (List Int)} {n:Nat} (hf:zgi f=true) (hM:Nat.blt M 1000000=true) (hk:(f.all fun x=>!Nat.beq x.1 M)=true) (hn:n=c.length) (hr:rows=zgj c):Frz (hlook (f++yec M 1 rows [])) (.ls M 1 n) (yhm c):=by
 subst hn hr
 have:=Frz.mat (f:=f) (M:=M) (sz:=1) (rows:=zgj c) (els:=c.map fun r=>r.map fun x=>[i64 x]) hf hM hk (by omega) (by intro r hr e he;obtain ⟨r0,_,rfl⟩:=List.mem_map.1 hr;obtain ⟨q,_,rfl⟩:=List.mem_map.1 he;rfl) (n:=c.length) (by simp) (by simp only [zgj,List.map_map];congr 1;funext r;exact (ygg r).symm)
 simpa [yhm,yah,List.map_map,Function.comp_def] using this
end
section
open Go.RowKit
theorem yti {r:List (Int × Int)} {s:List Int} (h:yfk r s=true):s.length=r.length∧∀ (x:Nat) (b:Int × Int),r[x]?=some b→∃ z,s[x]?=some z∧b.1≤z∧z≤b.2:=by
 simp only [yfk,Bool.and_eq_true,beq_iff_eq] at h
 refine ⟨h.1,fun x b hb=>?_⟩
 have hx:=(List.getElem?_eq_some_iff.1 hb).1
 obtain ⟨z,hz⟩:=ycg (show x < s.length by omega)
 have:=List.all_eq_true.1 h.2 _ (List.mem_of_getElem? (yvc hb hz))
 simp only [zqa,Bool.and_eq_true,decide_eq_true_eq] at this
 exact ⟨z,hz,this⟩
theorem ytw {tbl:List (List (Int × Int))} {c:List (List Int)} (h:yif tbl c=true):c.length=tbl.length∧∀ (v:Nat) (r:List (Int × Int)),tbl[v]?=some r→∃ s,c[v]?=some s∧yfk r s=true:=by
 simp only [yif,Bool.and_eq_true,beq_iff_eq] at h
 refine ⟨h.1,fun v r hr=>?_⟩
 have hx:=(List.getElem?_eq_some_iff.1 hr).1
 obtain ⟨s,hs⟩:=ycg (show v < c.length by omega)
 exact ⟨s,hs,List.all_eq_true.1 h.2 _ (List.mem_of_getElem? (yvc hr hs))⟩
theorem yjb {p:ProgD} {g:GraphD} {c:List (List Int)}:yhl p g c=0↔yhg p g=0∧yif (yat p g) c=true:=by
 unfold yhl
 by_cases h:yhg p g=0
 ·by_cases h2:yif (yat p g) c=true
  ·simp [h,h2]
  ·simp [h,h2]
 ·simp [h]
def ymn (p:ProgD) (tbl:List (List (Int × Int))) (v x:Nat) (z:Int):Int:=ylh ((p.vars.getD x default).kind) ((tbl.getD v []).getD x (0,0)).1 ((tbl.getD v []).getD x (0,0)).2 z
theorem zao {p:ProgD} {g:GraphD} {v:Nat} {r:List (Int × Int)} (h:(yat p g)[v]?=some r):r.length=p.vars.length:=by
 simp only [yat,List.getElem?_map] at h
 cases hg:g.ports[v]? with
 | none=>rw [hg] at h;cases h
 | some ls=>rw [hg] at h;cases h;simp
end
section
open Go.RowKit
def ycb (B:BitVec 32):AV:=.v (.int .u32 (B.toNat:Int))
theorem yhc (B:BitVec 32):BitVec.ofInt 32 (B.toNat:Int)=B:=by
 apply BitVec.eq_of_toNat_eq
 simp
theorem yxj (B:BitVec 32):IntKind.u32.wrap (B.toNat:Int)=(B.toNat:Int):=by
 have:=B.isLt
 simp only [IntKind.wrap,IntKind.signed,IntKind.bits,Bool.false_and,if_false,Bool.false_eq_true]
 omega
variable {P:Program} {T:Nat→Option Ty} {N:Nat} {ops:Array Oper} {lf:Oper→Bool} {Q:SS→Prop} {t:List (Nat × AV)} {h:List (Nat × Option LObj)} {rest:List Oper} {d:Nat} {op:Op} {ty:TypeId} {pos:String} {af:Array Edge} {gd:Option (Nat × Bool)} {r:AV}
theorem orU_val (B C:BitVec 32):Op.intBits .or .u32 (B.toNat:Int) (C.toNat:Int)=pure (.int .u32 ((B ||| C).toNat:Int)):=by
 have e1:BitVec.ofInt IntKind.u32.bits (B.toNat:Int)=B:=yhc B
 have e2:BitVec.ofInt IntKind.u32.bits (C.toNat:Int)=C:=yhc C
 unfold Op.intBits
 simp only [e1,e2]
 exact congrArg (fun z=>pure (Value.int .u32 z)) (yxj (B ||| C))
theorem andNotU_val (B C:BitVec 32):Op.intBits .andNot .u32 (B.toNat:Int) (C.toNat:Int)=pure (.int .u32 ((B &&& ~~~C).toNat:Int)):=by
 have e1:BitVec.ofInt IntKind.u32.bits (B.toNat:Int)=B:=yhc B
 have e2:BitVec.ofInt IntKind.u32.bits (C.toNat:Int)=C:=yhc C
 unfold Op.intBits
 simp only [e1,e2]
 exact congrArg (fun z=>pure (Value.int .u32 z)) (yxj (B &&& ~~~C))
theorem yield_orU {ρ:Operand→Option AV} {hp:Nat→Option LObj} {x y:Operand} {B C:BitVec 32} {tx ty':TypeId} (hx:ρ x=some (ycb B)) (hy:ρ y=some (ycb C)):ybo P hp ρ (.binOp .or tx x y ty') ty (ycb (B ||| C)):=
 ycf (fun _ _=>by simp) (by simp [yft,Op.operands,hx,hy,toV,ycb]) fun w=>by
  have e:=orU_val B C
  simp [execOp,ydr hx,ydr hy,eqGuard,binOp,e]
theorem yield_andNotU {ρ:Operand→Option AV} {hp:Nat→Option LObj} {x y:Operand} {B C:BitVec 32} {tx ty':TypeId} (hx:ρ x=some (ycb B)) (hy:ρ y=some (ycb C)):ybo P hp ρ (.binOp .andNot tx x y ty') ty (ycb (B &&& ~~~C)):=
 ycf (fun _ _=>by simp) (by simp [yft,Op.operands,hx,hy,toV,ycb]) fun w=>by
  have e:=andNotU_val B C
  simp [execOp,ydr hx,ydr hy,eqGuard,binOp,e]
theorem shl_val (n:Nat):IntKind.u32.wrap (1 * 2 ^ (min n 32))=((1#32 <<< n).toNat:Int):=by
 rw [BitVec.toNat_shiftLeft]
 simp only [IntKind.wrap,IntKind.signed,IntKind.bits,Bool.false_and,if_false,Bool.false_eq_true,Int.one_mul,Nat.shiftLeft_eq,BitVec.toNat_ofNat]
 rw [show (1 % 2 ^ 32:Nat)=1 by decide,Nat.one_mul]
 rcases Nat.lt_or_ge n 32 with h|h
 ·rw [Nat.min_eq_left (by omega)]
  norm_cast
 ·rw [Nat.min_eq_right h]
  have e:(2 ^ n) % 2 ^ 32=0:=Nat.mod_eq_zero_of_dvd (Nat.pow_dvd_pow 2 h)
  rw [e];decide
theorem yield_shlU {ρ:Operand→Option AV} {hp:Nat→Option LObj} {x y:Operand} {i:Int} {k':IntKind} {tx ty':TypeId} (hx:ρ x=some (.v (.int .u32 1))) (hy:ρ y=some (.v (.int k' i))) (hb:0≤i):ybo P hp ρ (.binOp .shl tx x y ty') ty (ycb (1#32 <<< i.toNat)):=by
 have:=yield_shl (P:=P) (hp:=hp) (ty:=ty) (tx:=tx) (ty':=ty') hx hy hb
 rwa [show IntKind.u32.bits=32 from rfl,shl_val] at this
theorem ymg {x y:Operand} {B C:BitVec 32} {tx ty':TypeId} (hx:evF (look t) x=some (ycb B)) (hy:evF (look t) y=some (ycb C))
  (hw:yaj ops (look t) ⟨some d,.binOp .or tx x y ty',ty,pos,af,gd⟩=some true) (hd:Nat.blt d N=true) (k:Lex P N ops lf Q rest (S ((d,ycb (B ||| C))::t) h)):Lex P N ops lf Q (⟨some d,.binOp .or tx x y ty',ty,pos,af,gd⟩::rest) (S t h):=
 ycc (yield_orU hx hy) hw hd k
theorem ybu {x y:Operand} {B C:BitVec 32} {tx ty':TypeId} (hx:evF (look t) x=some (ycb B)) (hy:evF (look t) y=some (ycb C))
  (hw:yaj ops (look t) ⟨some d,.binOp .andNot tx x y ty',ty,pos,af,gd⟩=some true) (hd:Nat.blt d N=true) (k:Lex P N ops lf Q rest (S ((d,ycb (B &&& ~~~C))::t) h)):Lex P N ops lf Q (⟨some d,.binOp .andNot tx x y ty',ty,pos,af,gd⟩::rest) (S t h):=
 ycc (yield_andNotU hx hy) hw hd k
theorem ygr {x y:Operand} {i:Int} {k':IntKind} {tx ty':TypeId} (hx:evF (look t) x=some (.v (.int .u32 1))) (hy:evF (look t) y=some (.v (.int k' i))) (hb:0≤i)
  (hw:yaj ops (look t) ⟨some d,.binOp .shl tx x y ty',ty,pos,af,gd⟩=some true) (hd:Nat.blt d N=true) (k:Lex P N ops lf Q rest (S ((d,ycb (1#32 <<< i.toNat))::t) h)):Lex P N ops lf Q (⟨some d,.binOp .shl tx x y ty',ty,pos,af,gd⟩::rest) (S t h):=
 ycc (yield_shlU hx hy hb) hw hd k
theorem ymi (hT:TOK P T) {z:Int} (hr:yqd T t h op ty=some (.v (.int .u64 (IntKind.u64.wrap z)))) (h0:0≤z∧z≤18446744073709551615)
  (hw:yaj ops (look t) ⟨some d,op,ty,pos,af,gd⟩=some true) (hd:Nat.blt d N=true) (k:Lex P N ops lf Q rest (S ((d,.v (.int .u64 z))::t) h)):Lex P N ops lf Q (⟨some d,op,ty,pos,af,gd⟩::rest) (S t h):=by
 have e:IntKind.u64.wrap z=z:=by
  simp only [IntKind.wrap,IntKind.signed,IntKind.bits,Bool.false_and,if_false,Bool.false_eq_true]
  omega
 rw [e] at hr
 exact zgm hT hr hw hd k
def zpu (f:Nat→Bool):Nat→BitVec 32
 | 0=>0#32
 | n+1=>if f n=true then zpu f n ||| (1#32 <<< n) else zpu f n
theorem ypw (f:Nat→Bool):∀ n i:Nat,i < 32→(zpu f n).getLsbD i=(decide (i < n) && f i)
 | 0,i,h=>by simp [zpu]
 | n+1,i,h=>by
  have ih:=ypw f n i h
  unfold zpu
  have hb:(1#32 <<< n).getLsbD i=decide (i=n):=by
   rw [BitVec.getLsbD_shiftLeft]
   by_cases e:i=n
   ·subst e;simp [h]
   ·simp [e,BitVec.getLsbD_one];omega
  split
  ·rename_i hf
   rw [BitVec.getLsbD_or,ih,hb]
   by_cases e:i=n
   ·subst e;simp [hf]
   ·have:(i < n+1)↔i < n:=by omega
    simp [e,this]
  ·rename_i hf
   rw [ih]
   by_cases e:i=n
   ·subst e;simp [hf]
   ·have:(i < n+1)↔i < n:=by omega
    simp [this]
end
section
def zzo (l:List Tm):Ex:=(yet l).getD (.lf (3,0))
def Scn.of (s:Scn) (l:List Tm):Int:=s.val (-1) (zzo l)
def zqf (p:ProgD) (s:Scn):Int:=zmy (p.rules.map fun r=>s.of r.guard) 0
def ztl (p:ProgD) (tbl:List (List (Int × Int))) (s:Scn) (st:List Int) (x:SetD):List Int:=st.set x.var.toNat (ymn p tbl s.v x.var.toNat (s.of x.val))
def zxo (p:ProgD) (tbl:List (List (Int × Int))) (s:Scn) (r:Nat):List Int:=(match p.rules[r]? with|some r=>r.sets|none=>[]).foldl (ztl p tbl s) (s.c.getD s.v [])
def zuf (p:ProgD) (g:GraphD) (c:List (List Int)) (v:Nat):Bool:=decide (0≤zqf p ⟨g,c,v⟩)
def yll (p:ProgD) (g:GraphD) (c:List (List Int)):BitVec 32:=zpu (zuf p g c) c.length
def zvw (p:ProgD) (g:GraphD) (c:List (List Int)) (v:Nat):List Int:=zxo p (yat p g) ⟨g,c,v⟩ (zqf p ⟨g,c,v⟩).toNat
def yxh (p:ProgD) (g:GraphD) (c:List (List Int)) (set:BitVec 32):List (List Int):=c.mapIdx fun v r=>if set.getLsbD v then zvw p g c v else r
theorem zfz {p:ProgD} {g:GraphD} {c:List (List Int)} {set:BitVec 32} {v:Nat} {r:List Int} (h:c[v]?=some r):(yxh p g c set)[v]?=some (if set.getLsbD v then zvw p g c v else r):=by
 simp [yxh,List.getElem?_mapIdx,h]
theorem yhx {p:ProgD} {g:GraphD} {c:List (List Int)} {set:BitVec 32}:(yxh p g c set).length=c.length:=by simp [yxh]
structure Alike (g:GraphD) (c d:List (List Int)) (v:Nat):Prop where
 own:c[v]?=d[v]?
 near:∀ ls,g.ports[v]?=some ls→∀ l∈ls,c[l.1.toNat]?=d[l.1.toNat]?
theorem zyd {l:List Tm} {kinds:List Int} {k:Int} (hk0:k≠0) (h:(ofF l kinds false).1=k):∃ E,yet l=some E∧zzo l=E∧E.ok∧E.fl=l∧yfh kinds=true∧ycr l kinds.length=true∧ty kinds false E≠0:=by
 by_cases h6:6 < kinds.length
 ·rw [znu _ _ _ h6] at h;exact absurd h.symm hk0
 cases hk:yfh kinds
 ·rw [zit _ _ _ hk] at h;exact absurd h.symm hk0
 cases hv:ycr l kinds.length
 ·rw [yzn _ _ _ hv] at h;exact absurd h.symm hk0
 obtain ⟨E,hp,ho,hfl,_⟩:=ynf hv
 rw [zso l kinds false E h6 hk hv hp] at h
 by_cases ht:ty kinds false E=0
 ·rw [if_pos ht] at h;exact absurd h.symm hk0
 ·exact ⟨E,hp,by simp [zzo,hp],ho,hfl,rfl,rfl,ht⟩
end
section
open Go.RowKit
theorem list_ne_at {α:Type} {a b:List α} {k:Nat} {x y:α} (h1:a[k]?=some x) (h2:b[k]?=some y) (hne:x≠y):a≠b:=by
 rintro rfl;rw [h1] at h2;cases h2;exact hne rfl
theorem list_eq_take {α:Type} {a b:List α} {k:Nat} (hl:a.length=b.length) (hk:k=a.length) (h:a.take k=b.take k):a=b:=by
 subst hk
 rwa [List.take_length,hl,List.take_length] at h
theorem sameInts_con (a b:List Int) (ha:a.length≤1000000):Con Tryz.prog 17 [yah a,yah b] (ybq (a == b)):=by
 refine yao Tryz.func17 rfl rfl Tryz.ntmps17 Tryz.results17 rfl rfl ?_
 (try refine zy ?_)
 refine yac rfl (fun h=>?_) (fun h=>?_)
 ·(try refine zy ?_)
  refine yae ?_;refine ⟨_,rfl,?_⟩
  have:a≠b:=by rintro rfl;simp at h
  exact yag (by simp [this])
 have hl:a.length=b.length:=by simp at h;omega
 (try refine zy ?_)
 refine ydi (α:=Nat) (fun k=>[(5,i64 k),(0,yah a),(1,yah b)]) (fun _=>[]) (fun k=>a.length - k) (fun k=>k≤a.length∧a.take k=b.take k) 0 ⟨by omega,rfl⟩ (by exact zs) (by exact zh) ?_
 rintro k ⟨hk,hok⟩
 (try refine zy ?_)
 refine yac rfl (fun h1=>?_) (fun h1=>?_)
 ·simp at h1
  obtain ⟨x,hx⟩:=ycg (show k < a.length by omega)
  obtain ⟨y,hy⟩:=ycg (show k < b.length by omega)
  (try refine zy ?_)
  refine yac rfl (fun h2=>?_) (fun h2=>?_)
  ·(try refine zy ?_)
   refine yae ?_;refine ⟨_,rfl,?_⟩
   simp at h2
   exact yag (by simp [list_ne_at hx hy h2])
  ·(try refine zy ?_)
   simp at h2
   exact rnd (k+1) ⟨by omega,by rw [ybj hx,ybj hy,hok,h2]⟩ (by omega) (by exact zs) (by exact zh)
 ·simp at h1
  (try refine zy ?_)
  refine yae ?_;refine ⟨_,rfl,?_⟩
  exact yag (by simp [list_eq_take hl (show k=a.length by omega) hok])
end
section
open Go.RowKit
theorem zjo {p:ProgD} {g:GraphD} {v x:Nat} {r:List (Int × Int)} {b:Int × Int} (hr:(yat p g)[v]?=some r) (hb:r[x]?=some b):∃ ls y,g.ports[v]?=some ls∧p.vars[x]?=some y∧b=yar y g ls.length:=by
 simp only [yat,List.getElem?_map] at hr
 cases hg:g.ports[v]? with
 | none=>rw [hg] at hr;cases hr
 | some ls=>
  rw [hg] at hr
  cases hr
  simp only [List.getElem?_map] at hb
  cases hy:p.vars[x]? with
  | none=>rw [hy] at hb;cases hb
  | some y=>rw [hy] at hb;cases hb;exact ⟨ls,y,rfl,rfl,rfl⟩
theorem tends_con (p:ProgD) (g:GraphD) (hf:Fair p g) (h0:yhg p g=0) (v x:Nat) (r:List (Int × Int)) (b:Int × Int) (hr:(yat p g)[v]?=some r) (hb:r[x]?=some b):Con Tryz.prog 112 [ytn p,ynl g,i64 v,i64 x] (zwy b):=by
 obtain ⟨ls,y,h1,h2,rfl⟩:=zjo hr hb
 obtain ⟨hc0,hg,hfit⟩:=ydx.1 h0
 have hll:=hf.glen.2.2 ls (List.mem_of_getElem? h1)
 exact zmn p g v x ls y ((ydn hc0).2.2.2 y (List.mem_of_getElem? h2)) hg (by omega) (by simpa using h1) (by omega) (by omega) (by simpa using h2)
theorem rcheck_con (p:ProgD) (g:GraphD) (c:List (List Int)) (hf:Fair p g) (hc:zpa c):Con Tryz.prog 58 [ytn p,ynl g,yhm c] (i64 (yhl p g c)):=by
 have hcl:=hc.1
 have hgl:=hf.glen
 have hvl:=hf.vlen
 refine yao Tryz.func58 rfl rfl Tryz.ntmps58 Tryz.results58 rfl rfl ?_
 (repeat (first|refine zy ?_|refine yaf rfl rfl (rfits_con p g hf) rfl rfl ?_))
 refine yac rfl (fun h=>?_) (fun h=>?_)
 ·(try refine zy ?_)
  refine yae ?_;refine ⟨_,rfl,?_⟩
  have:yhg p g≠0:=by simpa using h
  exact yai (by simp [yhl,this])
 have h0:yhg p g=0:=by simpa using h
 have hbad:yif (yat p g) c=false→(10:Int)=yhl p g c:=fun e=>by rw [yhl,if_pos h0,if_neg (by simp [e])]
 have htl:(yat p g).length=g.ports.length:=by simp [yat]
 (try refine zy ?_)
 refine yac rfl (fun h1=>?_) (fun h1=>?_)
 ·(try refine zy ?_)
  refine yae ?_;refine ⟨_,rfl,?_⟩
  have:c.length≠(yat p g).length:=by rw [htl];intro e;simp [e] at h1
  exact yai (hbad (by simp [yif,this]))
 have hl:c.length=(yat p g).length:=by simp at h1;omega
 (try refine zy ?_)
 refine ydi (α:=Nat) (fun k=>[(8,i64 k),(2,yhm c),(3,.lp 3 0),(4,.lp 4 0)]) (fun k=>[(3,some (.cells [zdp p.name,.sl 6 (p.vars.map ydj),.sl 3 (p.rules.map ydo)])),(4,some (.cells [yah g.ids,yau g.ports]))]) (fun k=>c.length - k) (fun k=>k≤c.length∧(((yat p g).zip c).take k).all (fun x=>yfk x.1 x.2)=true) 0 ⟨by omega,rfl⟩ (by exact zs) (by exact zh) ?_
 intro k ⟨hk,hok⟩
 (try refine zy ?_)
 refine yac rfl (fun h2=>?_) (fun h2=>?_)
 ·simp at h2
  obtain ⟨s,hs⟩:=ycg h2
  obtain ⟨r,hr⟩:=ycg (show k < (yat p g).length by omega)
  have hz:=yvc hr hs
  have hrl:=zao hr
  have hsl:=hc.2 s (List.mem_of_getElem? hs)
  (try refine zy ?_)
  refine yac rfl (fun h3=>?_) (fun h3=>?_)
  ·(try refine zy ?_)
   refine yae ?_;refine ⟨_,rfl,?_⟩
   have:s.length≠r.length:=by rw [hrl];intro e;simp [e] at h3
   exact yai (hbad (by rw [yif,ymj hz (by simp [yfk,this]),Bool.and_false]))
  have hsr:s.length=r.length:=by simp at h3;omega
  (try refine zy ?_)
  refine ydi (α:=Nat) (fun j=>[(9,i64 j),(8,i64 k),(2,yhm c),(3,.lp 3 0),(4,.lp 4 0)]) (fun j=>[(3,some (.cells [zdp p.name,.sl 6 (p.vars.map ydj),.sl 3 (p.rules.map ydo)])),(4,some (.cells [yah g.ids,yau g.ports]))]) (fun j=>s.length - j) (fun j=>j≤s.length∧((r.zip s).take j).all (fun x=>zqa x.1 x.2)=true) 0 ⟨by omega,rfl⟩ (by exact zs) (by exact zh) ?_
  intro j ⟨hj,hjk⟩
  (try refine zy ?_)
  refine yac rfl (fun h4=>?_) (fun h4=>?_)
  ·simp at h4
   obtain ⟨z,hzj⟩:=ycg h4
   obtain ⟨b,hb⟩:=ycg (show j < r.length by omega)
   have hzz:=yvc hb hzj
   (repeat (first|refine zy ?_|refine yaf rfl rfl (tends_con p g hf h0 k j r b hr hb) rfl rfl ?_|refine yaf rfl rfl (yyu _ _ _) rfl rfl ?_))
   refine yac rfl (fun h5=>?_) (fun h5=>?_)
   ·(try refine zy ?_)
    refine yae ?_;refine ⟨_,rfl,?_⟩
    have e:zqa b z=false:=by simp [inB] at h5;simp [zqa];omega
    exact yai (hbad (by rw [yif,ymj hz (by rw [yfk,ymj hzz e,Bool.and_false]),Bool.and_false]))
   ·(try refine zy ?_)
    have e:zqa b z=true:=by simp [inB] at h5;simp [zqa];omega
    exact rnd (j+1) ⟨by omega,yoa hzz hjk e⟩ (by omega) (by exact zs) (by exact zh)
  ·simp at h4
   obtain rfl:j=s.length:=by omega
   (try refine zy ?_)
   rw [List.take_of_length_le (by simp;omega)] at hjk
   exact rnd (k+1) ⟨by omega,yoa hz hok (by simp [yfk,hsr,hjk])⟩ (by omega) (by exact zs) (by exact zh)
 ·simp at h2
  obtain rfl:k=c.length:=by omega
  (try refine zy ?_)
  refine yae ?_;refine ⟨_,rfl,?_⟩
  rw [List.take_of_length_le (by simp;omega)] at hok
  exact yai (by rw [yhl,if_pos h0,if_pos (by simp [yif,hl,hok])])
theorem rvalid10_con (p:ProgD) (g:GraphD) (c:List (List Int)) (hf:Fair p g) (hc:zpa c):Con Tryz.prog 19 [ytn p,ynl g,yhm c] (ybq (yhl p g c == 0)):=by
 refine yao Tryz.func19 rfl rfl Tryz.ntmps19 Tryz.results19 rfl rfl ?_
 (repeat (first|refine zy ?_|refine yaf rfl rfl (rcheck_con p g c hf hc) rfl rfl ?_))
 refine yae ?_;refine ⟨_,rfl,?_⟩
 exact yag (by rfl)
end
section
open Go.RowKit
structure GoodP (p:ProgD):Prop where
 lim:¬ (p.vars.length=0∨6 < p.vars.length∨12 < p.rules.length)
 name:yit p.name=true
 vnames:yfi (p.vars.map (·.name))=true
 rnames:yfi (p.rules.map (·.name))=true
 num:p.vars.all ymd=true
 form:p.rules.all (ybl · p.vars.length)=true
 type:p.rules.all (yer · (ybc p))=true
theorem ytx {p:ProgD} (h:ydf p=0):GoodP p:=by
 unfold ydf at h
 split at h
 ·omega
 split at h
 ·omega
 split at h
 ·omega
 split at h
 ·omega
 split at h
 ·omega
 rename_i h1 h2 h3 h4 h5
 have h2':yck p=true:=by simpa using h2
 unfold yck at h2'
 simp only [Bool.and_eq_true] at h2'
 exact ⟨h1,h2'.1,h2'.2.1,h2'.2.2,by simpa using h3,by simpa using h4,by simpa using h5⟩
theorem GoodP.check {p:ProgD} (h:GoodP p):ydf p=0:=by
 have hn:yck p=true:=by unfold yck;rw [h.name,h.vnames,h.rnames];rfl
 exact zef h.lim hn h.num h.form h.type
end
section
open Go.RowKit
theorem zna {p:ProgD} (h:ydf p=0) {r:RuleD} (hr:r∈p.rules):(ofF r.guard (ybc p) false).1=2:=by
 have:=List.all_eq_true.1 (ytx h).type r hr
 simp only [yer,Bool.and_eq_true,beq_iff_eq] at this
 exact this.1
theorem zvx {p:ProgD} (h:ydf p=0) {r:RuleD} (hr:r∈p.rules) {x:SetD} (hx:x∈r.sets):0≤x.var∧x.var < p.vars.length∧(ofF x.val (ybc p) false).1≠0:=by
 have h1:=List.all_eq_true.1 (ytx h).type r hr
 have h2:=List.all_eq_true.1 (ytx h).form r hr
 simp only [yer,Bool.and_eq_true,beq_iff_eq,List.all_eq_true] at h1
 simp only [ybl,Bool.and_eq_true,decide_eq_true_eq,List.all_eq_true,yca] at h2
 have h3:=(h2.2.2.2.1 x hx).1
 refine ⟨by omega,by omega,?_⟩
 rw [h1.2 x hx]
 obtain ⟨y,hy⟩:=ycg (show x.var.toNat < p.vars.length by omega)
 have hk:=(yij ((ydn h).2.2.2 y (List.mem_of_getElem? hy))).1
 simp only [ybc,List.getD_eq_getElem?_getD,List.getElem?_map,hy,Option.map_some,Option.getD_some]
 omega
theorem state_mk {r:List (Int × Int)} {s:List Int} (hl:s.length=r.length) (h:∀ (x:Nat) (b:Int × Int),r[x]?=some b→∃ z,s[x]?=some z∧b.1≤z∧z≤b.2):yfk r s=true:=by
 simp only [yfk,Bool.and_eq_true,beq_iff_eq,List.all_eq_true]
 refine ⟨hl,fun q hq=>?_⟩
 obtain ⟨k,hk⟩:=List.getElem?_of_mem hq
 rw [List.getElem?_zip_eq_some] at hk
 obtain ⟨z,hz,h1,h2⟩:=h k _ hk.1
 rw [hk.2] at hz
 cases hz
 simp [zqa,h1,h2]
theorem state_set {p:ProgD} {g:GraphD} (hf:Fair p g) (h0:yhg p g=0) {v:Nat} {r:List (Int × Int)} (hr:(yat p g)[v]?=some r) {s:List Int} (hs:yfk r s=true) (x:Nat) (z:Int):yfk r (s.set x (ymn p (yat p g) v x z))=true:=by
 obtain ⟨hl,hb⟩:=yti hs
 refine state_mk (by simp [hl]) fun y b hy=>?_
 by_cases e:x=y
 ·subst e
  obtain ⟨ls,w,h1,h2,rfl⟩:=zjo hr hy
  obtain ⟨hc0,hg,hfit⟩:=ydx.1 h0
  have hnum:=(ydn hc0).2.2.2 w (List.mem_of_getElem? h2)
  have hll:=hf.glen.2.2 ls (List.mem_of_getElem? h1)
  have hok:=fit_ok (deg:=ls.length) (hfit w (List.mem_of_getElem? h2)) hnum (by omega)
  refine ⟨_,List.getElem?_set_self (by rw [hl];exact (List.getElem?_eq_some_iff.1 hy).1),?_⟩
  have e1:ymn p (yat p g) v x z=ylh w.kind (yar w g ls.length).1 (yar w g ls.length).2 z:=by
   simp [ymn,List.getD_eq_getElem?_getD,hr,hy,h2]
  rw [e1]
  exact bring_in hok.1 fun h3=>by rw [yvi h3]
 ·obtain ⟨q,hq,h1,h2⟩:=hb y b hy
  exact ⟨q,by rw [List.getElem?_set_ne e];exact hq,h1,h2⟩
theorem zdl {p:ProgD} {g:GraphD} (hf:Fair p g) (h0:yhg p g=0) {s:Scn} {r:List (Int × Int)} (hr:(yat p g)[s.v]?=some r):∀ (l:List SetD) (st:List Int),yfk r st=true→yfk r (l.foldl (ztl p (yat p g) s) st)=true
 | [],st,h=>h
 | x::l,st,h=>zdl hf h0 hr l _ (state_set hf h0 hr h _ _)
theorem stp_check {p:ProgD} {g:GraphD} (hf:Fair p g) {c:List (List Int)} (hc:yhl p g c=0) (set:BitVec 32):yhl p g (yxh p g c set)=0:=by
 obtain ⟨h0,hin⟩:=yjb.1 hc
 refine yjb.2 ⟨h0,?_⟩
 obtain ⟨hl,hb⟩:=ytw hin
 simp only [yif,Bool.and_eq_true,beq_iff_eq,List.all_eq_true]
 refine ⟨by rw [yhx,hl],fun q hq=>?_⟩
 obtain ⟨v,hv⟩:=List.getElem?_of_mem hq
 rw [List.getElem?_zip_eq_some] at hv
 obtain ⟨s,hs,hst⟩:=hb v q.1 hv.1
 have e:=hv.2
 rw [zfz hs] at e
 rw [← Option.some.inj e]
 split
 ·exact zdl hf h0 (s:=⟨g,c,v⟩) hv.1 _ _ (by
   show yfk q.1 (c.getD v [])=true
   rw [List.getD_eq_getElem?_getD,hs];exact hst)
 ·exact hst
end
section
open Go.RowKit
structure Ren (n:Nat) (f i:Nat→Nat):Prop where
 lt:∀ v,v < n→f v < n
 ilt:∀ v,v < n→i v < n
 back:∀ v,v < n→i (f v)=v
 forth:∀ v,v < n→f (i v)=v
theorem Ren.inj {n:Nat} {f i:Nat→Nat} (h:Ren n f i) {u v:Nat} (hu:u < n) (hv:v < n) (e:f u=f v):u=v:=by
 rw [← h.back u hu,← h.back v hv,e]
def ykz (f:Nat→Nat) (l:Lk):Lk:=((f l.1.toNat:Nat),l.2)
def renL {α:Type} (i:Nat→Nat) (l:List α) (d:α):List α:=(List.range l.length).map fun u=>l.getD (i u) d
def ybz (f i:Nat→Nat) (g:GraphD):GraphD:=⟨renL i g.ids 0,(renL i g.ports []).map fun ls=>ls.map (ykz f)⟩
def ytb (i:Nat→Nat) (c:List (List Int)):List (List Int):=renL i c []
def yin (i:Nat→Nat) (n:Nat) (B:BitVec 32):BitVec 32:=zpu (fun u=>B.getLsbD (i u)) n
theorem zfs {α:Type} {i:Nat→Nat} {l:List α} {d:α}:(renL i l d).length=l.length:=by simp [renL]
theorem renL_at {α:Type} {i:Nat→Nat} {l:List α} {d x:α} {u:Nat} (hu:u < l.length) (h:l[i u]?=some x):(renL i l d)[u]?=some x:=by
 simp [renL,List.getElem?_map,List.getElem?_range hu,List.getD_eq_getElem?_getD,h]
theorem zoc {α:Type} {f i:Nat→Nat} {l:List α} {d x:α} {v:Nat} (R:Ren l.length f i) (h:l[v]?=some x):(renL i l d)[f v]?=some x:=by
 have hv:=(List.getElem?_eq_some_iff.1 h).1
 exact renL_at (R.lt v hv) (by rw [R.back v hv];exact h)
theorem zft {α:Type} {f i:Nat→Nat} {l:List α} {d x:α} (R:Ren l.length f i):x∈renL i l d↔x∈l:=by
 constructor
 ·intro h
  obtain ⟨u,hu,rfl⟩:=List.mem_map.1 h
  have hu:=List.mem_range.1 hu
  obtain ⟨x,hx⟩:=ycg (R.ilt u hu)
  rw [List.getD_eq_getElem?_getD,hx]
  exact List.mem_of_getElem? hx
 ·intro h
  obtain ⟨v,hv⟩:=List.getElem?_of_mem h
  exact List.mem_of_getElem? (zoc R hv)
theorem renL_nodup {α:Type} {f i:Nat→Nat} {l:List α} {d:α} (R:Ren l.length f i) (h:l.Nodup):(renL i l d).Nodup:=by
 unfold renL
 refine yiv _ _ List.nodup_range fun x hx y hy e=>?_
 have hx:=List.mem_range.1 hx
 have hy:=List.mem_range.1 hy
 obtain ⟨a,ha⟩:=ycg (R.ilt x hx)
 obtain ⟨b,hb⟩:=ycg (R.ilt y hy)
 simp only [List.getD_eq_getElem?_getD,ha,hb,Option.getD_some] at e
 subst e
 have:=(List.getElem?_inj (R.ilt x hx) h).1 (ha.trans hb.symm)
 rw [← R.forth x hx,← R.forth y hy,this]
theorem zet:∀ (l:List Int) (a:Int),a≤l.foldl max a∧∀ x∈l,x≤l.foldl max a
 | [],a=>⟨Int.le_refl _,fun x hx=>by cases hx⟩
 | b::l,a=>by
  obtain ⟨h1,h2⟩:=zet l (max a b)
  simp only [List.foldl_cons]
  refine ⟨by omega,fun x hx=>?_⟩
  rcases List.mem_cons.1 hx with rfl|hx
  ·omega
  ·exact h2 x hx
theorem yyp:∀ (l:List Int) (a:Int),l.foldl max a=a∨l.foldl max a∈l
 | [],a=>.inl rfl
 | b::l,a=>by
  simp only [List.foldl_cons]
  rcases yyp l (max a b) with h|h
  ·rw [h]
   rcases Int.le_total a b with hab|hab
   ·right;rw [show max a b=b by omega];simp
   ·left;omega
  ·right;simp [h]
theorem great_same {l m:List Int} (h:∀ x,x∈l↔x∈m):ybf l=ybf m:=by
 unfold ybf
 have a1:=zet l 0
 have a2:=zet m 0
 have b1:=yyp l 0
 have b2:=yyp m 0
 have:l.foldl max 0≤m.foldl max 0:=by
  rcases b1 with e|e
  ·rw [e];exact a2.1
  ·exact a2.2 _ ((h _).1 e)
 have:m.foldl max 0≤l.foldl max 0:=by
  rcases b2 with e|e
  ·rw [e];exact a1.1
  ·exact a1.2 _ ((h _).2 e)
 omega
section
variable {g:GraphD} {f i:Nat→Nat}
theorem yhd:(ybz f i g).ports.length=g.ports.length:=by simp [ybz,zfs]
theorem ytd:(ybz f i g).ids.length=g.ids.length:=by simp [ybz,zfs]
theorem yik (R:Ren g.ports.length f i) {v:Nat} {ls:List Lk} (h:g.ports[v]?=some ls):(ybz f i g).ports[f v]?=some (ls.map (ykz f)):=by
 simp only [ybz,List.getElem?_map]
 rw [zoc R h];rfl
theorem ztb (R:Ren g.ids.length f i) {v:Nat} {a:Int} (h:g.ids[v]?=some a):(ybz f i g).ids[f v]?=some a:=zoc R h
theorem zja (R:Ren g.ports.length f i) {l:Lk} (h0:0≤l.1∧l.1 < g.ports.length) {u:Nat} (hu:u < g.ports.length):((ykz f l).1 == ((f u:Nat):Int))=(l.1 == (u:Int)):=by
 rw [Bool.eq_iff_iff,beq_iff_eq,beq_iff_eq]
 unfold ykz
 constructor
 ·intro e
  have:=R.inj (show l.1.toNat < g.ports.length by omega) hu (Int.ofNat.inj e)
  omega
 ·intro e
  rw [e];simp
theorem ren_portTo (R:Ren g.ports.length f i) {u:Nat} (hu:u < g.ports.length):∀ {ls:List Lk},(∀ l∈ls,0≤l.1∧l.1 < g.ports.length)→yfj (ls.map (ykz f)) (f u:Nat)=yfj ls u:=by
 intro ls h
 unfold yfj
 rw [List.findIdx?_map]
 have:ls.findIdx? ((fun x=>x.1 == ((f u:Nat):Int)) ∘ ykz f)=ls.findIdx? (fun x=>x.1 == (u:Int)):=by
  induction ls with
  | nil=>rfl
  | cons l ls ih=>
   rw [List.findIdx?_cons,List.findIdx?_cons,Function.comp,zja R (h l (by simp)) hu,ih fun x hx=>h x (by simp [hx])]
 rw [this]
theorem ren_weight (R:Ren g.ports.length f i) {u:Nat} (hu:u < g.ports.length) {ls:List Lk} (h:∀ l∈ls,0≤l.1∧l.1 < g.ports.length):ydd (ls.map (ykz f)) (f u:Nat)=ydd ls u:=by
 unfold ydd
 have:(ls.map (ykz f)).find? (fun x=>x.1 == ((f u:Nat):Int))=(ls.find? (fun x=>x.1 == (u:Int))).map (ykz f):=by
  induction ls with
  | nil=>rfl
  | cons l ls ih=>
   rw [List.map_cons,List.find?_cons,List.find?_cons,zja R (h l (by simp)) hu]
   cases l.1 == (u:Int)
   ·exact ih fun x hx=>h x (by simp [hx])
   ·rfl
 rw [this]
 cases ls.find? (fun x=>x.1 == (u:Int)) <;> rfl
theorem ypl {n v:Nat} {ls:List Lk} (h:ygh n v ls=true):∀ l∈ls,0≤l.1∧l.1 < n:=fun l hl=>by
 have:=(ybk _ _ _).1 (((ych _ _ _).1 h).1 l hl)
 omega
theorem ren_valid (hg:ybs g=true) (R:Ren g.ports.length f i):ybs (ybz f i g)=true:=by
 have hv:=yal hg
 obtain ⟨h1,h2,h3,h4,h5,h6⟩:=(ygn g).1 hg
 have hR':Ren g.ids.length f i:=by rw [h3];exact R
 refine (ygn _).2 ⟨by rw [yhd];exact h1,by rw [yhd];exact h2,by rw [yhd,ytd];exact h3,?_,?_,?_⟩
 ·rw [znd] at h4 ⊢
  exact ⟨fun x hx=>h4.1 x ((zft hR').1 hx),renL_nodup hR' h4.2⟩
 ·rw [ygk]
  intro u ls' hu
  have hlt:=(List.getElem?_eq_some_iff.1 hu).1
  rw [yhd] at hlt
  obtain ⟨ls,hls⟩:=ycg (R.ilt u hlt)
  have e:=yik R hls
  rw [R.forth u hlt,hu] at e
  cases e
  have hb:=hv.2.2.2.2.2.1 _ ls hls
  rw [ych] at hb ⊢
  rw [yhd]
  refine ⟨fun l' hl'=>?_,?_⟩
  ·obtain ⟨l,hl,rfl⟩:=List.mem_map.1 hl'
   have h9:=(ybk _ _ _).1 (hb.1 l hl)
   refine (ybk _ _ _).2 ?_
   have h8:=R.lt l.1.toNat (by omega)
   refine ⟨by simp [ykz],by simp [ykz];exact h8,?_,h9.2.2.2.1,h9.2.2.2.2⟩
   intro e
   have e:f l.1.toNat=u:=Int.ofNat.inj e
   have:i (f l.1.toNat)=i u:=by rw [e]
   rw [R.back _ (by omega)] at this
   exact h9.2.2.1 (by omega)
  ·rw [List.map_map]
   have h8:=hb.2
   have:(ls.map ((fun x:Lk=>x.1) ∘ ykz f))=(ls.map (·.1)).map fun z:Int=>((f z.toNat:Nat):Int):=by rw [List.map_map];rfl
   rw [this]
   refine yiv _ _ h8 fun x hx y hy e=>?_
   obtain ⟨a,ha,rfl⟩:=List.mem_map.1 hx
   obtain ⟨b,hb',rfl⟩:=List.mem_map.1 hy
   have ha:=(ybk _ _ _).1 (hb.1 a ha)
   have hb':=(ybk _ _ _).1 (hb.1 b hb')
   have:=R.inj (show a.1.toNat < g.ports.length by omega) (show b.1.toNat < g.ports.length by omega) (Int.ofNat.inj e)
   omega
 ·rw [ytj]
  intro u ls' hu l' hl'
  have hlt:=(List.getElem?_eq_some_iff.1 hu).1
  rw [yhd] at hlt
  obtain ⟨ls,hls⟩:=ycg (R.ilt u hlt)
  have e:=yik R hls
  rw [R.forth u hlt,hu] at e
  cases e
  obtain ⟨l,hl,rfl⟩:=List.mem_map.1 hl'
  have hb:=hv.2.2.2.2.2.1 _ ls hls
  have h9:=ypl hb l hl
  obtain ⟨ls2,hls2⟩:=ycg (show l.1.toNat < g.ports.length by omega)
  have e2:=yik R hls2
  have h8:=hv.2.2.2.2.2.2 _ ls hls l hl
  rw [List.getD_eq_getElem?_getD,hls2,Option.getD_some] at h8
  show ydd ((ybz f i g).ports.getD ((f l.1.toNat:Nat):Int).toNat []) u=l.2
  rw [Int.toNat_natCast,List.getD_eq_getElem?_getD,e2,Option.getD_some]
  conv=>lhs;rw [← R.forth u hlt]
  rw [ren_weight R (R.ilt u hlt) (ypl (hv.2.2.2.2.2.1 _ ls2 hls2))]
  exact h8
theorem zaa (R:Ren g.ids.length f i):ybf (ybz f i g).ids=ybf g.ids:=great_same fun x=>zft R
theorem zdf (R:Ren g.ids.length f i) (x:VarD) (deg:Int):yar x (ybz f i g) deg=yar x g deg:=by
 unfold yar
 rw [zaa R,yhd]
theorem ren_fits {p:ProgD} (h:yhg p g=0) (R:Ren g.ports.length f i):yhg p (ybz f i g)=0:=by
 obtain ⟨h1,h2,h3⟩:=ydx.1 h
 have hl:=(yal h2).2.2.1
 refine ydx.2 ⟨h1,ren_valid h2 R,fun x hx=>?_⟩
 have:=h3 x hx
 unfold zbf at *
 rw [zdf (by rw [hl];exact R)]
 exact this
theorem zjb {p:ProgD} (hl:g.ids.length=g.ports.length) (R:Ren g.ports.length f i) {v:Nat} {r:List (Int × Int)} (h:(yat p g)[v]?=some r):(yat p (ybz f i g))[f v]?=some r:=by
 unfold yat at *
 rw [List.getElem?_map] at h ⊢
 cases hv:g.ports[v]? with
 | none=>rw [hv] at h;cases h
 | some ls=>
  rw [hv] at h
  cases h
  rw [yik R hv]
  simp only [Option.map_some,List.length_map]
  congr 1
  exact List.map_congr_left fun x _=>zdf (by rw [hl];exact R) x _
theorem yus {c:List (List Int)} (hl:c.length=g.ports.length) (R:Ren g.ports.length f i) {v:Nat} {r:List Int} (h:c[v]?=some r):(ytb i c)[f v]?=some r:=zoc (by rw [hl];exact R) h
theorem ypu {c:List (List Int)}:(ytb i c).length=c.length:=zfs
theorem ren_check {p:ProgD} {c:List (List Int)} (h:yhl p g c=0) (R:Ren g.ports.length f i):yhl p (ybz f i g) (ytb i c)=0:=by
 obtain ⟨h0,hin⟩:=yjb.1 h
 obtain ⟨h1,h2,h3⟩:=ydx.1 h0
 have hid:=(yal h2).2.2.1
 refine yjb.2 ⟨ren_fits h0 R,?_⟩
 obtain ⟨hl,hb⟩:=ytw hin
 have hlt:(yat p g).length=g.ports.length:=by simp [yat]
 simp only [yif,Bool.and_eq_true,beq_iff_eq,List.all_eq_true]
 refine ⟨by rw [ypu,hl];simp [yat,yhd],fun q hq=>?_⟩
 obtain ⟨u,hu⟩:=List.getElem?_of_mem hq
 rw [List.getElem?_zip_eq_some] at hu
 have hlu:=(List.getElem?_eq_some_iff.1 hu.1).1
 have hlu:u < g.ports.length:=by simpa [yat,yhd] using hlu
 obtain ⟨r,hr⟩:=ycg (show i u < (yat p g).length by rw [hlt];exact R.ilt u hlu)
 obtain ⟨s,hs,hst⟩:=hb _ r hr
 have e1:=zjb hid R hr
 have e2:=yus (hl.trans hlt) R hs
 rw [R.forth u hlu] at e1 e2
 rw [hu.1] at e1
 rw [hu.2] at e2
 cases e1;cases e2
 exact hst
theorem zta {c:List (List Int)} (hl:c.length=g.ports.length) (R:Ren g.ports.length f i) {u:Nat} (hu:u < g.ports.length) (x:Int) (g1 g2:GraphD) (v1 v2:Nat):(⟨g1,ytb i c,v1⟩:Scn).get (f u) x=(⟨g2,c,v2⟩:Scn).get u x:=by
 obtain ⟨r,hr⟩:=ycg (show u < c.length by omega)
 simp only [Scn.get,List.getD_eq_getElem?_getD,hr,yus hl R hr]
def zaf (op:Int):Bool:=op == 10 || op == 15
theorem leaf_ren (hg:ybs g=true) {c:List (List Int)} (hl:c.length=g.ports.length) (R:Ren g.ports.length f i) {v:Nat} (hv:v < g.ports.length) {port:Int} {t:Tm} (hp:zbg t.1=true→0≤port∧port < (⟨g,c,v⟩:Scn).deg) (ht:zaf t.1=false) (h17:1≤t.1∧t.1≤17) :
  (⟨ybz f i g,ytb i c,f v⟩:Scn).leaf port t=(⟨g,c,v⟩:Scn).leaf port t:=by
 have hf:=yal hg
 have hid:=hf.2.2.1
 have Ri:Ren g.ids.length f i:=by rw [hid];exact R
 obtain ⟨ls,hls⟩:=ycg hv
 obtain ⟨a,ha⟩:=ycg (show v < g.ids.length by omega)
 have e0:=yik R hls
 have edeg:(⟨ybz f i g,ytb i c,f v⟩:Scn).deg=(⟨g,c,v⟩:Scn).deg:=by
  simp [Scn.deg,List.getD_eq_getElem?_getD,hls,e0]
 have eown:(⟨ybz f i g,ytb i c,f v⟩:Scn).get (f v) t.2=(⟨g,c,v⟩:Scn).get v t.2:=zta hl R hv _ _ _ _ _
 have eids:(ybz f i g).ids.getD (f v) 0=g.ids.getD v 0:=by simp [List.getD_eq_getElem?_getD,ha,ztb Ri ha]
 simp only [zaf,Bool.or_eq_false_iff,beq_eq_false_iff_ne,ne_eq] at ht
 by_cases hn:zbg t.1=true
 ·have hq:=hp hn
  have hd:(⟨g,c,v⟩:Scn).deg=ls.length:=by simp [Scn.deg,List.getD_eq_getElem?_getD,hls]
  rw [hd] at hq
  obtain ⟨l,hlk⟩:=ycg (show port.toNat < ls.length by omega)
  have e1:(⟨g,c,v⟩:Scn).link port=l:=by simp [Scn.link,List.getD_eq_getElem?_getD,hls,hlk]
  have e2:(⟨ybz f i g,ytb i c,f v⟩:Scn).link port=ykz f l:=by simp [Scn.link,List.getD_eq_getElem?_getD,e0,hlk]
  have hl9:=ypl (hf.2.2.2.2.2.1 v ls hls) l (List.mem_of_getElem? hlk)
  obtain ⟨ls2,hls2⟩:=ycg (show l.1.toNat < g.ports.length by omega)
  obtain ⟨a2,ha2⟩:=ycg (show l.1.toNat < g.ids.length by omega)
  have e3:=yik R hls2
  have e4:=ztb Ri ha2
  have e5:(⟨ybz f i g,ytb i c,f v⟩:Scn).get (f l.1.toNat) t.2=(⟨g,c,v⟩:Scn).get l.1.toNat t.2:=zta hl R (by omega) _ _ _ _ _
  have e6:yfj ((ybz f i g).ports.getD (f l.1.toNat) []) (f v:Nat)=yfj (g.ports.getD l.1.toNat []) v:=by
   rw [List.getD_eq_getElem?_getD,e3,List.getD_eq_getElem?_getD,hls2,Option.getD_some,Option.getD_some]
   exact ren_portTo R hv (ypl (hf.2.2.2.2.2.1 _ ls2 hls2))
  have e7:((ybz f i g).ports.getD (f l.1.toNat) []).length=(g.ports.getD l.1.toNat []).length:=by
   simp [List.getD_eq_getElem?_getD,e3,hls2]
  have e8:(ybz f i g).ids.getD (f l.1.toNat) 0=g.ids.getD l.1.toNat 0:=by simp [List.getD_eq_getElem?_getD,e4,ha2]
  unfold Scn.leaf
  simp only [e1,e2,ykz,Int.toNat_natCast,eown,eids,edeg,zaa Ri,ytd,e5,e6,e7,e8,if_neg ht.1,if_neg ht.2]
 ·have hn':t.1≤10:=by
   simp only [zbg,Bool.and_eq_true,decide_eq_true_eq] at hn
   omega
  have:t.1=1∨t.1=2∨t.1=3∨t.1=4∨t.1=5∨t.1=6∨t.1=7∨t.1=8∨t.1=9:=by omega
  unfold Scn.leaf
  simp only [eown,eids,edeg,zaa Ri,ytd]
  rcases this with e|e|e|e|e|e|e|e|e <;> simp [e]
end
end
section
open Go.RowKit
theorem ar_leaf {op:Int} (h:ar op=0):1≤op∧op≤17:=by unfold ar at h;repeat' split at h <;> omega
def ywf (l:List Tm):Bool:=l.any fun t=>zaf t.1
def zte (p:ProgD):Bool:=p.rules.any fun r=>ywf r.guard || r.sets.any fun x=>ywf x.val
section
variable {g:GraphD} {f i:Nat→Nat}
theorem ren_deg (R:Ren g.ports.length f i) {c d:List (List Int)} {v:Nat} (hv:v < g.ports.length):(⟨ybz f i g,d,f v⟩:Scn).deg=(⟨g,c,v⟩:Scn).deg:=by
 obtain ⟨ls,hls⟩:=ycg hv
 simp [Scn.deg,List.getD_eq_getElem?_getD,hls,yik R hls]
theorem yoy (hg:ybs g=true) {c:List (List Int)} (hl:c.length=g.ports.length) (R:Ren g.ports.length f i) {v:Nat} (hv:v < g.ports.length) {kinds:List Int} (hk:yfh kinds=true):∀ (E:Ex),E.ok→(∀ t∈E.fl,zaf t.1=false)→∀ {b:Bool} {port:Int},ty kinds b E≠0→(b=true→0≤port∧port < (⟨g,c,v⟩:Scn).deg)→(⟨ybz f i g,ytb i c,f v⟩:Scn).val port E=(⟨g,c,v⟩:Scn).val port E
 | .lf t,ho,hr,b,port,ht,hb=>by
  simp only [Scn.val]
  refine leaf_ren hg hl R hv (fun hn=>hb ?_) (hr t (by simp [Ex.fl])) (ar_leaf ho)
  cases b with
  | true=>rfl
  | false=>exact absurd (by simp only [ty];simp [hn]) ht
 | .un t a,ho,hr,b,port,ht,hb=>by
  have hty:=ynm kinds hk b (.un t a) a ho (by simp [yto]) ht
  have hq:=yls (.un t a) a ho (by simp [yto])
  have hra:∀ t∈a.fl,zaf t.1=false:=fun t h=>hr t (hq.2.2.1 t h)
  simp only [Scn.val]
  by_cases ha:yjk t.1=true
  ·rw [if_pos ha,if_pos ha,ren_deg (c:=c) R hv]
   congr 1
   refine List.map_congr_left fun k hkr=>?_
   have:=List.mem_range.1 hkr
   exact yoy hg hl R hv hk a hq.1 hra hty fun _=>⟨by omega,by omega⟩
  ·rw [if_neg ha,if_neg ha]
   rw [yoy hg hl R hv hk a hq.1 hra (b:=b) (by simpa [hd,ha] using hty) hb]
 | .bi t a e,ho,hr,b,port,ht,hb=>by
  have hna:yjk t.1=false:=yni (by have:=ho.1;simp only [Ex.ok] at ho;omega)
  have h1:=ynm kinds hk b (.bi t a e) a ho (by simp [yto]) ht
  have h2:=ynm kinds hk b (.bi t a e) e ho (by simp [yto]) ht
  have q1:=yls (.bi t a e) a ho (by simp [yto])
  have q2:=yls (.bi t a e) e ho (by simp [yto])
  simp only [hd,hna,Bool.or_false] at h1 h2
  simp only [Scn.val]
  rw [yoy hg hl R hv hk a q1.1 (fun t h=>hr t (q1.2.2.1 t h)) h1 hb,yoy hg hl R hv hk e q2.1 (fun t h=>hr t (q2.2.2.1 t h)) h2 hb]
 | .tr t a e s,ho,hr,b,port,ht,hb=>by
  have hna:yjk t.1=false:=yni (by simp only [Ex.ok] at ho;omega)
  have h1:=ynm kinds hk b (.tr t a e s) a ho (by simp [yto]) ht
  have h2:=ynm kinds hk b (.tr t a e s) e ho (by simp [yto]) ht
  have h3:=ynm kinds hk b (.tr t a e s) s ho (by simp [yto]) ht
  have q1:=yls (.tr t a e s) a ho (by simp [yto])
  have q2:=yls (.tr t a e s) e ho (by simp [yto])
  have q3:=yls (.tr t a e s) s ho (by simp [yto])
  simp only [hd,hna,Bool.or_false] at h1 h2 h3
  simp only [Scn.val]
  rw [yoy hg hl R hv hk a q1.1 (fun t h=>hr t (q1.2.2.1 t h)) h1 hb,yoy hg hl R hv hk e q2.1 (fun t h=>hr t (q2.2.2.1 t h)) h2 hb,yoy hg hl R hv hk s q3.1 (fun t h=>hr t (q3.2.2.1 t h)) h3 hb]
theorem zvp (hg:ybs g=true) {c:List (List Int)} (hl:c.length=g.ports.length) (R:Ren g.ports.length f i) {v:Nat} (hv:v < g.ports.length) {kinds:List Int} {l:List Tm} {k:Int} (hk0:k≠0) (ht:(ofF l kinds false).1=k) (hr:ywf l=false):(⟨ybz f i g,ytb i c,f v⟩:Scn).of l=(⟨g,c,v⟩:Scn).of l:=by
 obtain ⟨E,_,e,ho,hfl,hk,_,hty⟩:=zyd hk0 ht
 unfold Scn.of
 rw [e]
 refine yoy hg hl R hv hk E ho (fun t h=>?_) hty (by simp)
 rw [hfl] at h
 have:=List.any_eq_false.1 hr t h
 simpa using this
section
variable {p:ProgD} (hp:ydf p=0) (hr:zte p=false) (hg:ybs g=true) {c:List (List Int)} (hl:c.length=g.ports.length) (R:Ren g.ports.length f i)
include hp hr hg hl R
theorem zth {v:Nat} (hv:v < g.ports.length):zqf p ⟨ybz f i g,ytb i c,f v⟩=zqf p ⟨g,c,v⟩:=by
 unfold zqf
 congr 1
 refine List.map_congr_left fun r hm=>zvp hg hl R hv (by omega) (zna hp hm) ?_
 have:=List.any_eq_false.1 hr r hm
 simp only [Bool.or_eq_true,not_or] at this
 simpa using this.1
theorem ena_renF {v:Nat} (hv:v < g.ports.length):zuf p (ybz f i g) (ytb i c) (f v)=zuf p g c v:=by
 unfold zuf;rw [zth hp hr hg hl R hv]
theorem row_ren {v:Nat} (hv:v < g.ports.length):zvw p (ybz f i g) (ytb i c) (f v)=zvw p g c v:=by
 unfold zvw
 rw [zth hp hr hg hl R hv]
 unfold zxo
 obtain ⟨s,hs⟩:=ycg (show v < c.length by omega)
 have e:(ytb i c).getD (f v) []=c.getD v []:=by rw [List.getD_eq_getElem?_getD,List.getD_eq_getElem?_getD,hs,yus hl R hs]
 simp only
 rw [e]
 obtain ⟨b,hb⟩:=ycg (show v < (yat p g).length by simp [yat,hv])
 have et:(yat p (ybz f i g)).getD (f v) []=(yat p g).getD v []:=by rw [List.getD_eq_getElem?_getD,List.getD_eq_getElem?_getD,hb,zjb (yal hg).2.2.1 R hb]
 have key:∀ (l:List SetD) (st:List Int),(∀ x∈l,(⟨ybz f i g,ytb i c,f v⟩:Scn).of x.val=(⟨g,c,v⟩:Scn).of x.val)→l.foldl (ztl p (yat p (ybz f i g)) ⟨ybz f i g,ytb i c,f v⟩) st=l.foldl (ztl p (yat p g) ⟨g,c,v⟩) st:=by
  intro l
  induction l with
  | nil=>intro st _;rfl
  | cons x l ih=>
   intro st h
   simp only [List.foldl_cons]
   have e1:ztl p (yat p (ybz f i g)) ⟨ybz f i g,ytb i c,f v⟩ st x=ztl p (yat p g) ⟨g,c,v⟩ st x:=by
    unfold ztl ymn
    rw [h x (by simp)]
    simp only [et]
   rw [e1]
   exact ih _ fun y hy=>h y (by simp [hy])
 refine key _ _ fun x hx=>?_
 cases hq:p.rules[(zqf p ⟨g,c,v⟩).toNat]? with
 | none=>rw [hq] at hx;cases hx
 | some r=>
  rw [hq] at hx
  have hm:=List.mem_of_getElem? hq
  refine zvp hg hl R hv (zvx hp hm hx).2.2 rfl ?_
  have:=List.any_eq_false.1 hr r hm
  simp only [Bool.or_eq_true,not_or] at this
  have:=List.any_eq_false.1 (by simpa using this.2) x hx
  simpa using this
end
def InN (n:Nat) (B:BitVec 32):Prop:=∀ u,n≤u→B.getLsbD u=false
theorem ydv {n:Nat} {B:BitVec 32} {u:Nat} (hu:u < 32):(yin i n B).getLsbD u=(decide (u < n) && B.getLsbD (i u)):=ypw _ _ _ hu
theorem zfr {n:Nat} (hn:n≤32) {B:BitVec 32}:InN n (yin i n B):=fun u hu=>by
 rcases Nat.lt_or_ge u 32 with h|h
 ·rw [ydv h,show decide (u < n)=false by simp;omega];rfl
 ·exact BitVec.getLsbD_of_ge _ _ h
theorem yzy {n:Nat} (hn:n≤32) (R:Ren n f i) {B:BitVec 32} {v:Nat} (hv:v < n):(yin i n B).getLsbD (f v)=B.getLsbD v:=by
 have:=R.lt v hv
 rw [ydv (by omega),R.back v hv];simp [this]
theorem ztm {n:Nat} {A B:BitVec 32} (hA:InN n A) (hB:InN n B) (h:∀ u,u < n→A.getLsbD u=B.getLsbD u):A=B:=by
 apply BitVec.eq_of_getLsbD_eq
 intro u _
 rcases Nat.lt_or_ge u n with h1|h1
 ·exact h u h1
 ·rw [hA u h1,hB u h1]
theorem zoa {n:Nat} {A B:BitVec 32}:yin i n (A &&& B)=yin i n A &&& yin i n B:=by
 apply BitVec.eq_of_getLsbD_eq
 intro u hu
 rw [BitVec.getLsbD_and,ydv hu,ydv hu,ydv hu,BitVec.getLsbD_and]
 cases decide (u < n) <;> simp
theorem zob {n:Nat} (hn:n≤32) (R:Ren n f i) {A B:BitVec 32}:yin i n (A &&& ~~~B)=yin i n A &&& ~~~(yin i n B):=by
 apply BitVec.eq_of_getLsbD_eq
 intro u hu
 rw [BitVec.getLsbD_and,ydv hu,ydv hu,BitVec.getLsbD_not,ydv hu,BitVec.getLsbD_and,BitVec.getLsbD_not]
 by_cases h:u < n
 ·have:=R.ilt u h
  simp [h,hu,show i u < 32 by omega]
 ·simp [h]
theorem yxc {n:Nat} (hn:n≤32) (R:Ren n f i) {A B:BitVec 32} (hA:InN n A) (hB:InN n B):(yin i n A == yin i n B)=(A == B):=by
 rw [Bool.eq_iff_iff,beq_iff_eq,beq_iff_eq]
 refine ⟨fun e=>ztm hA hB fun v hv=>?_,fun e=>by rw [e]⟩
 rw [← yzy hn R hv,← yzy hn R hv,e]
theorem zkw {n:Nat}:InN n 0#32:=fun u _=>by simp
theorem yzz {n:Nat}:yin i n 0#32=0#32:=by
 apply BitVec.eq_of_getLsbD_eq
 intro u hu
 rw [ydv hu];simp
theorem yqn {n:Nat} {A B:BitVec 32} (h:InN n A):InN n (A &&& B):=fun u hu=>by rw [BitVec.getLsbD_and,h u hu];rfl
theorem zrz {n:Nat} {A B:BitVec 32} (h:A &&& ~~~B=0#32) (hB:InN n B):InN n A:=fun u hu=>by
 rcases Nat.lt_or_ge u 32 with h1|h1
 ·have:=congrArg (fun X=>BitVec.getLsbD X u) h
  simp only [BitVec.getLsbD_and,BitVec.getLsbD_not,BitVec.getLsbD_zero,hB u hu] at this
  simpa [h1] using this
 ·exact BitVec.getLsbD_of_ge _ _ h1
theorem ren_perm {n:Nat} (R:Ren n f i):((List.range n).map i).Perm (List.range n):=by
 refine (List.perm_ext_iff_of_nodup (yiv _ _ List.nodup_range fun x hx y hy e=>?_) List.nodup_range).2 fun x=>?_
 ·have hx:=List.mem_range.1 hx
  have hy:=List.mem_range.1 hy
  rw [← R.forth x hx,← R.forth y hy,e]
 ·simp only [List.mem_map,List.mem_range]
  constructor
  ·rintro ⟨u,hu,rfl⟩;exact R.ilt u hu
  ·intro hx;exact ⟨f x,R.lt x hx,R.back x hx⟩
end
end
section
open Go.RowKit
theorem yem (b:Bool):Con Tryz.prog 272 [ybq b] (i64 (ytl b)):=by
 refine yao Tryz.func272 rfl rfl Tryz.ntmps272 Tryz.results272 rfl rfl ?_
 cases b
 ·(try refine zy ?_);refine yae ?_;refine ⟨_,rfl,?_⟩;exact Frz.pure
 ·(try refine zy ?_);refine yae ?_;refine ⟨_,rfl,?_⟩;exact Frz.pure
theorem ypi (a:Int):Con Tryz.prog 274 [i64 a] (i64 (zlm a)):=by
 refine yao Tryz.func274 rfl rfl Tryz.ntmps274 Tryz.results274 rfl rfl ?_
 (try refine zy ?_)
 refine yae ?_;refine ⟨_,rfl,?_⟩
 exact yai (by unfold zlm ygp;split <;> split <;> omega)
theorem zvr {a b:Int} (ha:InV a) (hb:b≠0):-1073741824≤a.tdiv b∧a.tdiv b≤1073741824:=by
 have:=Int.natAbs_tdiv_le_natAbs a b
 unfold InV ygp at ha
 omega
theorem zsw {a b:Int} (ha:InV a):-1073741825≤znw a b∧znw a b≤1073741824:=by
 by_cases hb:b=0
 ·subst hb;simp [znw]
 ·have:=zvr ha hb
  rw [← zvs hb]
  split <;> omega
theorem xaa (p q:Bool):(p != q)=!(p == q):=rfl
theorem zmo (a b:Int) (ha:InV a):Con Tryz.prog 275 [i64 a,i64 b] (i64 (znw a b)):=by
 refine yao Tryz.func275 rfl rfl Tryz.ntmps275 Tryz.results275 rfl rfl ?_
 (try refine zy ?_)
 refine yac rfl (fun h=>?_) (fun h=>?_)
 ·simp at h
  subst h
  (try refine zy ?_)
  refine yae ?_;refine ⟨_,rfl,?_⟩
  exact yai (by simp [znw])
 simp at h
 have h1:=zvr ha h
 have hq:=zvs (a:=a) h
 (try refine zy ?_)
 refine L_quo rfl rfl h (by omega) (by omega) rfl rfl ?_
 (repeat (first|refine zy ?_|refine zxv rfl rfl h rfl rfl ?_))
 refine yay 15 rfl (fun h2=>?_) (fun h2=>?_)
 ·(repeat (first|refine zy ?_|refine L_neqB tok rfl rfl rfl rfl rfl ?_))
  refine yac rfl (fun h3=>?_) (fun h3=>?_)
  ·(try refine zy ?_)
   refine yae ?_;refine ⟨_,rfl,?_⟩
   exact yai (by rw [← hq,if_pos ⟨by simpa using h2,by rw [xaa];exact h3⟩])
  ·(try refine zy ?_)
   refine yae ?_;refine ⟨_,rfl,?_⟩
   exact yai (by rw [← hq,if_neg (fun e=>by rw [xaa] at e;rw [e.2] at h3;cases h3)])
 ·(try refine zy ?_)
  refine yae ?_;refine ⟨_,rfl,?_⟩
  exact yai (by rw [← hq,if_neg (fun e=>e.1 (by simpa using h2))])
theorem eun_con (op a:Int) (ha:InV a):Con Tryz.prog 246 [i64 op,i64 a] (i64 (unV op a)):=by
 unfold InV ygp at ha
 refine yao Tryz.func246 rfl rfl Tryz.ntmps246 Tryz.results246 rfl rfl ?_
 (try refine zy ?_)
 refine yac rfl (fun h=>?_) (fun h=>?_)
 ·simp at h
  (try refine zy ?_)
  refine yae ?_;refine ⟨_,rfl,?_⟩
  exact yai (by simp [unV,h])
 ·simp at h
  (repeat (first|refine zy ?_|refine yaf rfl rfl (yem _) rfl rfl ?_))
  refine yae ?_;refine ⟨_,rfl,?_⟩
  exact yai (by simp [unV,h])
theorem ecmp_con (op a b:Int):Con Tryz.prog 276 [i64 op,i64 a,i64 b] (ybq (if op=35 then a == b else if op=36 then a != b else if op=37 then decide (a < b) else if op=38 then decide (a≤b) else if op=39 then decide (b < a) else decide (b≤a))):=by
 refine yao Tryz.func276 rfl rfl Tryz.ntmps276 Tryz.results276 rfl rfl ?_
 (try refine zy ?_)
 refine yac rfl (fun h1=>?_) (fun h1=>?_)
 ·simp at h1;(try refine zy ?_);refine yae ?_;refine ⟨_,rfl,?_⟩;exact yag (by simp [h1])
 simp at h1;(try refine zy ?_)
 refine yac rfl (fun h2=>?_) (fun h2=>?_)
 ·simp at h2;(try refine zy ?_);refine yae ?_;refine ⟨_,rfl,?_⟩;exact yag (by rw [if_neg h1,if_pos h2])
 simp at h2;(try refine zy ?_)
 refine yac rfl (fun h3=>?_) (fun h3=>?_)
 ·simp at h3;(try refine zy ?_);refine yae ?_;refine ⟨_,rfl,?_⟩;exact yag (by simp [h3])
 simp at h3;(try refine zy ?_)
 refine yac rfl (fun h4=>?_) (fun h4=>?_)
 ·simp at h4;(try refine zy ?_);refine yae ?_;refine ⟨_,rfl,?_⟩;exact yag (by simp [h4])
 simp at h4;(try refine zy ?_)
 refine yac rfl (fun h5=>?_) (fun h5=>?_)
 ·simp at h5;(try refine zy ?_);refine yae ?_;refine ⟨_,rfl,?_⟩;exact yag (by simp [h5])
 simp at h5;(try refine zy ?_)
 refine yae ?_;refine ⟨_,rfl,?_⟩
 exact yag (by simp [h1,h2,h3,h4,h5])
end
section
open Go.RowKit
theorem zsl {a b m n:Int} (h1:-m≤a) (h2:a≤m) (h3:-n≤b) (h4:b≤n):-(m * n)≤a * b∧a * b≤m * n:=by
 have k1:a.natAbs≤m.natAbs:=by omega
 have k2:b.natAbs≤n.natAbs:=by omega
 have k3:=Nat.mul_le_mul k1 k2
 rw [← Int.natAbs_mul,← Int.natAbs_mul] at k3
 have k4:((m * n).natAbs:Int)=m * n:=Int.natAbs_of_nonneg (Int.mul_nonneg (by omega) (by omega))
 omega
theorem mulV_bd {a b:Int} (ha:InV a) (hb:InV b):-1152921504606846976≤a * b∧a * b≤1152921504606846976:=by
 have:=zsl ha.1 ha.2 hb.1 hb.2
 simpa [ygp] using this
theorem mulQ_bd {a b:Int} (ha:InV a) (hb:InV b):-1152921505680588800≤b * znw a b∧b * znw a b≤1152921505680588800:=by
 have hq:=zsw (b:=b) ha
 have:=zsl (a:=b) (b:=znw a b) (n:=1073741825) hb.1 hb.2 (by omega) (by omega)
 simpa [ygp] using this
theorem ebin_con (op a b:Int) (ha:InV a) (hb:InV b):Con Tryz.prog 248 [i64 op,i64 a,i64 b] (i64 (biP op a b)):=by
 have hm:=mulV_bd ha hb
 have hq:=zsw (b:=b) ha
 have hn:=mulQ_bd ha hb
 have ha':=ha
 have hb':=hb
 unfold InV ygp at ha' hb'
 refine yao Tryz.func248 rfl rfl Tryz.ntmps248 Tryz.results248 rfl rfl ?_
 (try refine zy ?_)
 refine yac rfl (fun h1=>?_) (fun h1=>?_)
 ·simp at h1;subst h1
  (repeat (first|refine zy ?_|refine yaf rfl rfl (ypi _) rfl rfl ?_))
  refine yae ?_;refine ⟨_,rfl,?_⟩;exact yai rfl
 simp at h1;(try refine zy ?_)
 refine yac rfl (fun h2=>?_) (fun h2=>?_)
 ·simp at h2;subst h2
  (repeat (first|refine zy ?_|refine yaf rfl rfl (zmo a b ha) rfl rfl ?_|refine yaf rfl rfl (ypi _) rfl rfl ?_))
  refine yae ?_;refine ⟨_,rfl,?_⟩;exact yai rfl
 simp at h2;(try refine zy ?_)
 refine yac rfl (fun h3=>?_) (fun h3=>?_)
 ·simp at h3;subst h3
  (try refine zy ?_)
  refine yac rfl (fun h=>?_) (fun h=>?_)
  ·simp at h;subst h
   (try refine zy ?_)
   refine yae ?_;refine ⟨_,rfl,?_⟩;exact yai rfl
  simp at h
  (repeat (first|refine zy ?_|refine yaf rfl rfl (zmo a b ha) rfl rfl ?_|refine yaf rfl rfl (ypi _) rfl rfl ?_))
  refine yae ?_;refine ⟨_,rfl,?_⟩;exact yai (by simp [biP,h])
 simp at h3;(try refine zy ?_)
 refine yac rfl (fun h4=>?_) (fun h4=>?_)
 ·simp at h4;subst h4
  (repeat (first|refine zy ?_|refine yaf rfl rfl (ypi _) rfl rfl ?_))
  refine yae ?_;refine ⟨_,rfl,?_⟩;exact yai rfl
 simp at h4;(try refine zy ?_)
 refine yac rfl (fun h5=>?_) (fun h5=>?_)
 ·simp at h5;subst h5
  (repeat (first|refine zy ?_|refine yaf rfl rfl (ypi _) rfl rfl ?_))
  refine yae ?_;refine ⟨_,rfl,?_⟩;exact yai rfl
 simp at h5;(try refine zy ?_)
 refine yac rfl (fun h6=>?_) (fun h6=>?_)
 ·simp at h6;subst h6
  (try refine zy ?_)
  refine yay 48 rfl (fun h=>?_) (fun h=>?_)
  ·(repeat (first|refine zy ?_|refine yaf rfl rfl (yem _) rfl rfl ?_))
   refine yae ?_;refine ⟨_,rfl,?_⟩;exact yai (by rw [show biP 41 a b=ytl (a != 0 && b != 0) from rfl,h];rfl)
  ·(repeat (first|refine zy ?_|refine yaf rfl rfl (yem _) rfl rfl ?_))
   refine yae ?_;refine ⟨_,rfl,?_⟩;exact yai (by rw [show biP 41 a b=ytl (a != 0 && b != 0) from rfl,h];rfl)
 simp at h6;(try refine zy ?_)
 refine yac rfl (fun h7=>?_) (fun h7=>?_)
 ·simp at h7;subst h7
  (try refine zy ?_)
  refine yay 57 rfl (fun h=>?_) (fun h=>?_)
  ·(repeat (first|refine zy ?_|refine yaf rfl rfl (yem _) rfl rfl ?_))
   refine yae ?_;refine ⟨_,rfl,?_⟩;exact yai (by rw [show biP 42 a b=ytl (a != 0 || b != 0) from rfl,h];rfl)
  ·(repeat (first|refine zy ?_|refine yaf rfl rfl (yem _) rfl rfl ?_))
   refine yae ?_;refine ⟨_,rfl,?_⟩;exact yai (by rw [show biP 42 a b=ytl (a != 0 || b != 0) from rfl,h];rfl)
 simp at h7
 (repeat (first|refine zy ?_|refine yaf rfl rfl (ecmp_con op a b) rfl rfl ?_|refine yaf rfl rfl (yem _) rfl rfl ?_))
 refine yae ?_;refine ⟨_,rfl,?_⟩
 exact yai (by simp [biP,h1,h2,h3,h4,h5,h6,h7])
end
section
open Go.RowKit
theorem zgc {α:Type} {l:List α} {k:Nat} (hk:k≤l.length) (h:¬ k < l.length):l.take k=l:=List.take_of_length_le (by omega)
theorem yua (l:List Int) (hl:l.length≤1000):Con Tryz.prog 295 [yah l] (i64 (zue l)):=by
 refine yao Tryz.func295 rfl rfl Tryz.ntmps295 Tryz.results295 rfl rfl ?_
 (try refine zy ?_)
 refine ydi (α:=Nat) (fun k=>[(8,i64 k),(7,i64 l.length),(6,yah l),(3,i64 (zue (l.take k)))]) (fun _=>[]) (fun k=>l.length - k) (fun k=>k≤l.length) 0 (by omega) (by exact zs) (by exact zh) ?_
 intro k hk
 have hc:=zvc (l.take k)
 rw [List.length_take] at hc
 (try refine zy ?_)
 refine yac rfl (fun h=>?_) (fun h=>?_)
 ·simp at h
  obtain ⟨a,ha⟩:=ycg h
  (try refine zy ?_)
  refine yac rfl (fun h2=>?_) (fun h2=>?_)
  ·simp at h2
   (try refine zy ?_)
   refine rnd (k+1) (by omega) (by omega) (by rw [ztq ha,zrb,if_pos h2];exact zs) (by exact zh)
  ·simp at h2
   (try refine zy ?_)
   refine rnd (k+1) (by omega) (by omega) (by rw [ztq ha,zrb,if_neg (by simp [h2])];exact zs) (by exact zh)
 ·simp at h
  rw [zgc hk (by omega)]
  (try refine zy ?_)
  refine yae ?_;refine ⟨_,rfl,?_⟩
  exact Frz.pure
theorem zmp (l:List Int) (hl:l.length≤1000):Con Tryz.prog 298 [yah l] (.tup [i64 (zds l (-ygp,-ygp)).1,i64 (zds l (-ygp,-ygp)).2]):=by
 refine yao Tryz.func298 rfl rfl Tryz.ntmps298 Tryz.results298 rfl rfl ?_
 (try refine zy ?_)
 refine ydi (α:=Nat) (fun k=>[(8,i64 k),(7,i64 l.length),(6,yah l),(2,i64 (zds (l.take k) (-ygp,-ygp)).1),(3,i64 (zds (l.take k) (-ygp,-ygp)).2)]) (fun _=>[]) (fun k=>l.length - k) (fun k=>k≤l.length) 0 (by omega) (by exact zs) (by exact zh) ?_
 intro k hk
 have hle:=zwc (l.take k) (-ygp,-ygp) (Int.le_refl _)
 (try refine zy ?_)
 refine yac rfl (fun h=>?_) (fun h=>?_)
 ·simp at h
  obtain ⟨a,ha⟩:=ycg h
  have e:=ztt (l.take k) a (-ygp,-ygp)
  rw [two_step hle,← ztq ha] at e
  (try refine zy ?_)
  refine yac rfl (fun h2=>?_) (fun h2=>?_)
  ·simp at h2
   rw [if_pos h2] at e
   (try refine zy ?_)
   refine rnd (k+1) (by omega) (by omega) (by rw [e];exact zs) (by exact zh)
  ·simp at h2
   rw [if_neg (by omega)] at e
   have e2:(if a > (zds (l.take k) (-ygp,-ygp)).2 then a else (zds (l.take k) (-ygp,-ygp)).2)=max (zds (l.take k) (-ygp,-ygp)).2 a:=by split <;> omega
   (try refine zy ?_)
   rw [e2]
   refine rnd (k+1) (by omega) (by omega) (by rw [e];exact zs) (by exact zh)
 ·simp at h
  rw [zgc hk (by omega)]
  (try refine zy ?_)
  refine yae ?_;refine ⟨_,rfl,?_⟩
  exact Frz.pure
def zuh:List Int→Int→Nat→Int
 | [],_,_=>-1
 | b::l,a,k=>if a=b then k else zuh l a (k+1)
theorem zrx:∀ {l:List Int} {k i:Nat} {a:Int},l[i]?=some a→(∀ j b,j < i→l[j]?=some b→a≠b)→zuh l a k=((k+i:Nat):Int)
 | b::l,k,0,a,h,_=>by
  simp only [List.getElem?_cons_zero,Option.some.injEq] at h
  subst h
  simp [zuh]
 | b::l,k,i+1,a,h,hall=>by
  have hb:=hall 0 b (by omega) rfl
  simp only [zuh,if_neg hb]
  rw [zrx (l:=l) (k:=k+1) (i:=i) (by simpa using h) (fun j c hj hc=>hall (j+1) c (by omega) (by simpa using hc))]
  rw [show k+1+i=k+(i+1) by omega]
theorem zku:∀ {l:List Int} {k:Nat} {a:Int},(∀ b∈l,a≠b)→zuh l a k=-1
 | [],k,a,_=>rfl
 | b::l,k,a,h=>by
  simp only [zuh,if_neg (h b (by simp))]
  exact zku fun c hc=>h c (by simp [hc])
theorem notin_step {l:List Int} {k:Nat} {a b:Int} (h:∀ j c,j < k→l[j]?=some c→a≠c) (hb:l[k]?=some b) (hn:a≠b):∀ j c,j < k+1→l[j]?=some c→a≠c:=by
 intro j c hj hc
 by_cases e:j=k
 ·subst e;rw [hb] at hc;cases hc;exact hn
 ·exact h j c (by omega) hc
theorem notin_all {l:List Int} {k:Nat} {a:Int} (hk:l.length≤k) (h:∀ j c,j < k→l[j]?=some c→a≠c):∀ c∈l,a≠c:=by
 intro c hc
 obtain ⟨j,hj⟩:=List.getElem?_of_mem hc
 exact h j c (by have:=(List.getElem?_eq_some_iff.1 hj).1;omega) hj
theorem indexI_con (l:List Int) (a:Int) (hl:l.length≤1000):Con Tryz.prog 321 [yah l,i64 a] (i64 (zuh l a 0)):=by
 refine yao Tryz.func321 rfl rfl Tryz.ntmps321 Tryz.results321 rfl rfl ?_
 (try refine zy ?_)
 refine ydi (α:=Nat) (fun k=>[(8,i64 k),(7,i64 l.length),(0,yah l),(1,i64 a)]) (fun _=>[]) (fun k=>l.length - k) (fun k=>k≤l.length∧∀ j c,j < k→l[j]?=some c→a≠c) 0 ⟨by omega,fun j c hj=>absurd hj (by omega)⟩ (by exact zs) (by exact zh) ?_
 intro k ⟨hk,hn⟩
 (try refine zy ?_)
 refine yac rfl (fun h=>?_) (fun h=>?_)
 ·simp at h
  obtain ⟨b,hb⟩:=ycg h
  (try refine zy ?_)
  refine yac rfl (fun h2=>?_) (fun h2=>?_)
  ·simp at h2
   subst h2
   (try refine zy ?_)
   refine yae ?_;refine ⟨_,rfl,?_⟩
   exact yai (by rw [zrx hb hn,Nat.zero_add])
  ·simp at h2
   (try refine zy ?_)
   refine rnd (k+1) ⟨by omega,notin_step hn hb h2⟩ (by omega) (by exact zs) (by exact zh)
 ·simp at h
  (try refine zy ?_)
  refine yae ?_;refine ⟨_,rfl,?_⟩
  exact yai (by rw [zku (notin_all (by omega) hn)])
theorem idxI_ge (l:List Int) (a:Int) (k:Nat):decide (0≤zuh l a k)=decide (a∈l):=by
 by_cases h:a∈l
 ·rw [decide_eq_true h]
  apply decide_eq_true
  induction l generalizing k with
  | nil=>cases h
  | cons b l ih=>
   simp only [zuh]
   split
   ·omega
   ·exact ih _ ((List.mem_cons.1 h).resolve_left (by assumption))
 ·rw [zku fun b hb e=>h (by rw [e];exact hb),decide_eq_false h]
  rfl
theorem contI_con (l:List Int) (a:Int) (hl:l.length≤1000):Con Tryz.prog 315 [yah l,i64 a] (ybq (decide (a∈l))):=by
 refine yao Tryz.func315 rfl rfl Tryz.ntmps315 Tryz.results315 rfl rfl ?_
 (repeat (first|refine zy ?_|refine yaf rfl rfl (indexI_con l a hl) rfl rfl ?_))
 refine yae ?_;refine ⟨_,rfl,?_⟩
 exact yag (idxI_ge l a 0)
theorem emex_con (l:List Int) (hl:l.length≤1000):Con Tryz.prog 299 [yah l] (i64 (zpl l (l.length+1) 0)):=by
 refine yao Tryz.func299 rfl rfl Tryz.ntmps299 Tryz.results299 rfl rfl ?_
 (try refine zy ?_)
 refine ydi (α:=Nat) (fun k=>[(0,yah l),(3,i64 k)]) (fun _=>[]) (fun k=>l.length+1 - k) (fun k=>∀ j,j < k→((j:Nat):Int)∈l) 0 (fun j hj=>absurd hj (by omega)) (by exact zs) (by exact zh) ?_
 intro k hk
 have hb:=zfn k l hk
 (repeat (first|refine zy ?_|refine yaf rfl rfl (contI_con l k hl) rfl rfl ?_))
 refine yac rfl (fun h=>?_) (fun h=>?_)
 ·have hm:=of_decide_eq_true h
  have hk1:∀ j,j < k+1→((j:Nat):Int)∈l:=fun j hj=>by
   by_cases e:j=k
   ·subst e;exact hm
   ·exact hk j (by omega)
  have hb1:=zfn (k+1) l hk1
  (try refine zy ?_)
  refine rnd (k+1) hk1 (by omega) (by exact zs) (by exact zh)
 ·have hm:=of_decide_eq_false h
  (try refine zy ?_)
  refine yae ?_;refine ⟨_,rfl,?_⟩
  exact yai (by rw [mex_run hk,mex_stop hm])
theorem fold1_con (a:Int):Con Tryz.prog 297 [i64 a] (ybq (a != 0)):=by
 refine yao Tryz.func297 rfl rfl Tryz.ntmps297 Tryz.results297 rfl rfl ?_
 (try refine zy ?_)
 refine yae ?_;refine ⟨_,rfl,?_⟩
 exact Frz.pure
theorem indexF_con (l:List Int) (hl:l.length≤1000):Con Tryz.prog 296 [yah l,.fn 297 []] (i64 (zmy l 0)):=by
 refine yao Tryz.func296 rfl rfl Tryz.ntmps296 Tryz.results296 rfl rfl ?_
 (try refine zy ?_)
 refine ydi (α:=Nat) (fun k=>[(8,i64 k),(7,i64 l.length),(0,yah l),(1,.fn 297 [])]) (fun _=>[]) (fun k=>l.length - k) (fun k=>k≤l.length∧∀ j b,j < k→l[j]?=some b→b=0) 0 ⟨by omega,fun j c hj=>absurd hj (by omega)⟩ (by exact zs) (by exact zh) ?_
 intro k ⟨hk,hn⟩
 (try refine zy ?_)
 refine yac rfl (fun h=>?_) (fun h=>?_)
 ·simp at h
  obtain ⟨b,hb⟩:=ycg h
  (repeat (first|refine zy ?_|refine yaf rfl rfl (fold1_con b) rfl rfl ?_))
  refine yac rfl (fun h2=>?_) (fun h2=>?_)
  ·simp at h2
   (try refine zy ?_)
   refine yae ?_;refine ⟨_,rfl,?_⟩
   exact yai (by rw [zru hb h2 hn,Nat.zero_add])
  ·simp at h2
   (try refine zy ?_)
   refine rnd (k+1) ⟨by omega,fun j c hj hc=>?_⟩ (by omega) (by exact zs) (by exact zh)
   by_cases e:j=k
   ·subst e;rw [hb] at hc;cases hc;exact h2
   ·exact hn j c (by omega) hc
 ·simp at h
  (try refine zy ?_)
  refine yae ?_;refine ⟨_,rfl,?_⟩
  exact yai (by rw [zer fun a ha=>by
   obtain ⟨j,hj⟩:=List.getElem?_of_mem ha
   exact hn j a (by have:=(List.getElem?_eq_some_iff.1 hj).1;omega) hj])
end
section
open Go.RowKit
theorem efold_con (op:Int) (l:List Int) (hop:20≤op∧op≤29) (hl:l.length≤1000) (hin:∀ a∈l,InV a):Con Tryz.prog 273 [i64 op,yah l] (i64 (zro op l)):=by
 refine yao Tryz.func273 rfl rfl Tryz.ntmps273 Tryz.results273 rfl rfl ?_
 have:op=20∨op=21∨op=22∨op=23∨op=24∨op=25∨op=26∨op=27∨op=28∨op=29:=by omega
 rcases this with rfl|rfl|rfl|rfl|rfl|rfl|rfl|rfl|rfl|rfl
 ·(repeat (first|refine zy ?_|refine yaf rfl rfl (yua l hl) rfl rfl ?_|refine yaf rfl rfl (yem _) rfl rfl ?_))
  refine yae ?_;refine ⟨_,rfl,?_⟩
  exact yai (by show _=ytl _;congr 1;rw [Bool.eq_iff_iff];simp;omega)
 ·(repeat (first|refine zy ?_|refine yaf rfl rfl (yua l hl) rfl rfl ?_|refine yaf rfl rfl (yem _) rfl rfl ?_))
  refine yae ?_;refine ⟨_,rfl,?_⟩
  exact yai (by show _=ytl _;congr 1;rw [Bool.eq_iff_iff];simp)
 ·(repeat (first|refine zy ?_|refine yaf rfl rfl (yua l hl) rfl rfl ?_))
  refine yae ?_;refine ⟨_,rfl,?_⟩
  exact yai rfl
 ·(repeat (first|refine zy ?_|refine yaf rfl rfl (indexF_con l hl) rfl rfl ?_))
  refine yae ?_;refine ⟨_,rfl,?_⟩
  exact yai rfl
 ·(try refine zy ?_)
  refine ydi (α:=Nat) (fun k=>[(42,i64 k),(41,i64 l.length),(40,yah l),(5,i64 (yvq (l.take k)))]) (fun _=>[]) (fun k=>l.length - k) (fun k=>k≤l.length) 0 (by omega) (by exact zs) (by exact zh) ?_
  intro k hk
  (try refine zy ?_)
  refine yac rfl (fun h=>?_) (fun h=>?_)
  ·simp at h
   obtain ⟨a,ha⟩:=ycg h
   have e2:(if a < yvq (l.take k) then a else yvq (l.take k))=yvq (l.take (k+1)):=by rw [ztq ha,least_app];split <;> omega
   (try refine zy ?_)
   rw [e2]
   refine rnd (k+1) (by omega) (by omega) (by exact zs) (by exact zh)
  ·simp at h
   rw [zgc hk (by omega)]
   (try refine zy ?_)
   refine yae ?_;refine ⟨_,rfl,?_⟩
   exact yai rfl
 ·(repeat (first|refine zy ?_|refine yaf rfl rfl (zmp l hl) rfl rfl ?_))
  refine yae ?_;refine ⟨_,rfl,?_⟩
  exact yai (by rw [zjs];rfl)
 ·(try refine zy ?_)
  refine ydi (α:=Nat) (fun k=>[(63,i64 k),(62,i64 l.length),(61,yah l),(10,i64 (l.take k).sum)]) (fun _=>[]) (fun k=>l.length - k) (fun k=>k≤l.length) 0 (by omega) (by exact zs) (by exact zh) ?_
  intro k hk
  have hs:=zvz (l:=l.take k) fun a ha=>hin a (List.mem_of_mem_take ha)
  rw [List.length_take] at hs
  unfold ygp at hs
  (try refine zy ?_)
  refine yac rfl (fun h=>?_) (fun h=>?_)
  ·simp at h
   obtain ⟨a,ha⟩:=ycg h
   have hai:=hin a (List.mem_of_getElem? ha)
   unfold InV ygp at hai
   (try refine zy ?_)
   refine rnd (k+1) (by omega) (by omega) (by rw [ztq ha,sum_app];exact zs) (by exact zh)
  ·simp at h
   rw [zgc hk (by omega)]
   (repeat (first|refine zy ?_|refine yaf rfl rfl (ypi _) rfl rfl ?_))
   refine yae ?_;refine ⟨_,rfl,?_⟩
   exact yai rfl
 ·(repeat (first|refine zy ?_|refine yaf rfl rfl (emex_con l hl) rfl rfl ?_))
  refine yae ?_;refine ⟨_,rfl,?_⟩
  exact yai rfl
 ·(repeat (first|refine zy ?_|refine yaf rfl rfl (zmp l hl) rfl rfl ?_))
  refine yae ?_;refine ⟨_,rfl,?_⟩
  exact yai rfl
 ·(try refine zy ?_)
  cases l with
  | nil=>
   (try refine zy ?_)
   refine yae ?_;refine ⟨_,rfl,?_⟩
   exact yai rfl
  | cons a l=>
   (try refine zy ?_)
   refine yny tok rfl rfl rfl (by omega) (rfl) rfl rfl ?_
   (try refine zy ?_)
   refine yae ?_;refine ⟨_,rfl,?_⟩
   exact yai rfl
end
section
open Go.RowKit
def yda (g:GraphD) (v:Nat) (ls:List Lk):List Int:=ls.map fun l=>yfj (g.ports.getD l.1.toNat []) v
def ynj (g:GraphD):List (List Int):=g.ports.mapIdx fun v ls=>yda g v ls
def yxe (p:ProgD) (g:GraphD):List AV:=[zdp p.name,.sl 6 (p.vars.map ydj),.sl 3 (p.rules.map ydo),yah g.ids,yau g.ports,i64 (ybf g.ids),yhm (ynj g)]
def zdk (p:ProgD) (g:GraphD):AV:=.dp (yxe p g) 0
theorem backs_get {g:GraphD} {v:Nat} {ls:List Lk} (h:g.ports[v]?=some ls):(ynj g)[v]?=some (yda g v ls):=by simp [ynj,List.getElem?_mapIdx,h]
theorem back_get {g:GraphD} {v k:Nat} {ls ls':List Lk} {l:Lk} (h:ls[k]?=some l) (h':g.ports[l.1.toNat]?=some ls'):(yda g v ls)[k]?=some (yfj ls' v):=by
 simp [yda,h,List.getD_eq_getElem?_getD,h']
def zlq (p:ProgD) (g:GraphD) (c:List (List Int)) (v:Nat) (e:List Tm):AV:=.dp [zdk p g,yhm c,i64 v,yeq e] 0
end
section
open Go.RowKit
theorem fact_con (p:ProgD) (g:GraphD) (hg:ybs g=true) (c:List (List Int)) (v:Nat) (ls:List Lk) (hls:g.ports[v]?=some ls) (op port a:Int) (hop:6≤op∧op≤17∧op≠12) (hp:12≤op→0≤port∧port < ls.length) :
  Con Tryz.prog 271 [zdk p g,i64 op,i64 v,i64 port] (i64 ((⟨g,c,v⟩:Scn).leaf port (op,a))):=by
 have hv:=yal hg
 have hvl:=(List.getElem?_eq_some_iff.1 hls).1
 have hlb:=hv.2.2.2.2.2.1 v ls hls
 have hll:=ydp hvl hlb
 have hids:=hv.2.2.1
 obtain ⟨id,hid⟩:=ycg (show v < g.ids.length by omega)
 have hd:(⟨g,c,v⟩:Scn).deg=ls.length:=by simp [Scn.deg,List.getD_eq_getElem?_getD,hls]
 refine yao Tryz.func271 rfl rfl Tryz.ntmps271 Tryz.results271 rfl rfl ?_
 have:op=6∨op=7∨op=8∨op=9∨op=10∨op=11∨12 < op:=by omega
 rcases this with rfl|rfl|rfl|rfl|rfl|rfl|h12
 ·(try refine zy ?_)
  refine yae ?_;refine ⟨_,rfl,?_⟩;exact yai rfl
 ·(try refine zy ?_)
  refine yae ?_;refine ⟨_,rfl,?_⟩;exact yai rfl
 ·(try refine zy ?_)
  refine yae ?_;refine ⟨_,rfl,?_⟩;exact yai (by simp [Scn.leaf,List.getD_eq_getElem?_getD,hid])
 ·(try refine zy ?_)
  refine yae ?_;refine ⟨_,rfl,?_⟩;exact yai (by simp [Scn.leaf,hd])
 ·(repeat (first|refine zy ?_|refine yaf rfl rfl (yem _) rfl rfl ?_))
  refine yae ?_;refine ⟨_,rfl,?_⟩;exact yai (by simp only [Scn.leaf];show ytl ((v:Int) == 0)=ytl (v == 0);congr 1;rw [Bool.eq_iff_iff,beq_iff_eq,beq_iff_eq];omega)
 ·(try refine zy ?_)
  refine yae ?_;refine ⟨_,rfl,?_⟩;exact yai rfl
 ·obtain ⟨hp0,hp1⟩:=hp (by omega)
  obtain ⟨l,hl⟩:=ycg (show port.toNat < ls.length by omega)
  have hl1:=(ybk _ _ _).1 (((ych _ _ _).1 hlb).1 l (List.mem_of_getElem? hl))
  have hlk:(⟨g,c,v⟩:Scn).link port=l:=by simp [Scn.link,List.getD_eq_getElem?_getD,hls,hl]
  obtain ⟨ls',hls'⟩:=ycg (show l.1.toNat < g.ports.length by omega)
  obtain ⟨id',hid'⟩:=ycg (show l.1.toNat < g.ids.length by omega)
  have hll':=ydp (show l.1.toNat < g.ports.length by omega) (hv.2.2.2.2.2.1 _ ls' hls')
  have hb1:=backs_get hls
  have hb2:=back_get (g:=g) (v:=v) hl hls'
  have:op=13∨op=14∨op=15∨op=16∨op=17:=by omega
  rcases this with rfl|rfl|rfl|rfl|rfl
  ·(try refine zy ?_)
   refine yae ?_;refine ⟨_,rfl,?_⟩;exact yai (by simp [Scn.leaf,hlk,List.getD_eq_getElem?_getD,hid'])
  ·(try refine zy ?_)
   refine yae ?_;refine ⟨_,rfl,?_⟩;exact yai (by simp [Scn.leaf,hlk,List.getD_eq_getElem?_getD,hls'])
  ·(repeat (first|refine zy ?_|refine yaf rfl rfl (yem _) rfl rfl ?_))
   refine yae ?_;refine ⟨_,rfl,?_⟩;exact yai (by simp [Scn.leaf,hlk])
  ·(try refine zy ?_)
   refine yae ?_;refine ⟨_,rfl,?_⟩;exact yai (by simp [Scn.leaf,hlk])
  ·(try refine zy ?_)
   refine yae ?_;refine ⟨_,rfl,?_⟩;exact yai (by simp [Scn.leaf,hlk,List.getD_eq_getElem?_getD,hls'])
theorem wleaf_con (p:ProgD) (g:GraphD) (hg:ybs g=true) (c:List (List Int)) (e:List Tm) (v:Nat) (ls:List Lk) (hls:g.ports[v]?=some ls) (t:Tm) (port:Int) (hop:1≤t.1∧t.1≤17) (hp:12≤t.1→0≤port∧port < ls.length)
  (hc:c.length=g.ports.length) (hx:t.1=5∨t.1=12→0≤t.2∧∀ r∈c,t.2 < r.length) :
  Con Tryz.prog 245 [zlq p g c v e,.agg [i64 t.1,i64 t.2],i64 port] (i64 ((⟨g,c,v⟩:Scn).leaf port t)):=by
 obtain ⟨op,a⟩:=t
 simp only at hop hp hx ⊢
 have hv:=yal hg
 have hvl:=(List.getElem?_eq_some_iff.1 hls).1
 have hlb:=hv.2.2.2.2.2.1 v ls hls
 have hll:=ydp hvl hlb
 obtain ⟨r,hr⟩:=ycg (show v < c.length by omega)
 refine yao Tryz.func245 rfl rfl Tryz.ntmps245 Tryz.results245 rfl rfl ?_
 have:op=1∨op=2∨op=3∨op=4∨op=5∨op=12∨(6≤op∧op≤17∧op≠12):=by omega
 rcases this with rfl|rfl|rfl|rfl|rfl|rfl|h12
 ·(try refine zy ?_)
  refine yae ?_;refine ⟨_,rfl,?_⟩;exact yai rfl
 ·(try refine zy ?_)
  refine yae ?_;refine ⟨_,rfl,?_⟩;exact yai rfl
 ·(try refine zy ?_)
  refine yae ?_;refine ⟨_,rfl,?_⟩;exact yai rfl
 ·(try refine zy ?_)
  refine yae ?_;refine ⟨_,rfl,?_⟩;exact yai rfl
 ·obtain ⟨hx0,hx1⟩:=hx (.inl rfl)
  have hx2:=hx1 r (List.mem_of_getElem? hr)
  obtain ⟨z,hz⟩:=ycg (show a.toNat < r.length by omega)
  (try refine zy ?_)
  refine yae ?_;refine ⟨_,rfl,?_⟩;exact yai (by simp [Scn.leaf,Scn.get,List.getD_eq_getElem?_getD,hr,hz])
 ·obtain ⟨hp0,hp1⟩:=hp (by omega)
  obtain ⟨l,hl⟩:=ycg (show port.toNat < ls.length by omega)
  have hl1:=(ybk _ _ _).1 (((ych _ _ _).1 hlb).1 l (List.mem_of_getElem? hl))
  have hlk:(⟨g,c,v⟩:Scn).link port=l:=by simp [Scn.link,List.getD_eq_getElem?_getD,hls,hl]
  obtain ⟨r',hr'⟩:=ycg (show l.1.toNat < c.length by omega)
  obtain ⟨hx0,hx1⟩:=hx (.inr rfl)
  have hx2:=hx1 r' (List.mem_of_getElem? hr')
  obtain ⟨z,hz⟩:=ycg (show a.toNat < r'.length by omega)
  (try refine zy ?_)
  refine yae ?_;refine ⟨_,rfl,?_⟩;exact yai (by simp [Scn.leaf,Scn.get,hlk,List.getD_eq_getElem?_getD,hr',hz])
 ·have h1:¬ op=1:=by omega
  have h2:¬ op=2:=by omega
  have h3:¬ op=3:=by omega
  have h4:¬ op=4:=by omega
  have h5:¬ op=5:=by omega
  (try refine zy ?_)
  refine yac rfl (fun q1=>?_) (fun q1=>?_)
  ·exact absurd (by simpa using q1) h1
  (try refine zy ?_)
  refine yac rfl (fun q2=>?_) (fun q2=>?_)
  ·exact absurd (by simpa using q2) h2
  (try refine zy ?_)
  refine yac rfl (fun q3=>?_) (fun q3=>?_)
  ·exact absurd (by simpa using q3) h3
  (try refine zy ?_)
  refine yac rfl (fun q4=>?_) (fun q4=>?_)
  ·exact absurd (by simpa using q4) h4
  (try refine zy ?_)
  refine yac rfl (fun q5=>?_) (fun q5=>?_)
  ·exact absurd (by simpa using q5) h5
  (try refine zy ?_)
  refine yac rfl (fun q6=>?_) (fun q6=>?_)
  ·exact absurd (by simpa using q6) h12.2.2
  (repeat (first|refine zy ?_|refine yaf rfl rfl (fact_con p g hg c v ls hls op port a h12 hp) rfl rfl ?_))
  refine yae ?_;refine ⟨_,rfl,?_⟩;exact yai rfl
end
section
open Go.RowKit
section
variable {P:Program} {T:Nat→Option Ty} {N:Nat} {ops:Array Oper} {lf:Oper→Bool} {Q:SS→Prop} {t:List (Nat × AV)} {h:List (Nat × Option LObj)} {rest:List Oper} {d:Nat} {op:Op} {ty:TypeId} {pos:String} {af:Array Edge} {gd:Option (Nat × Bool)} {r:AV}
theorem yield_arrslice {ρ:Operand→Option AV} {hp:Nat→Option LObj} {ti n:Nat} {ea:Bool} {x y:Operand} {k:IntKind} {i:Int} {row:List AV} (hk:yeu P ti (.arr n 1 ea)) (hx:ρ x=some (.dp row 0)) (hy:ρ y=some (.v (.int k i))) (hn:row.length=n) (hm:n≤maxLen) (h0:0≤i) (h1:i≤n):ybo P hp ρ (.slice ti x none (some y) none) ty (.sl 1 ((row.take i.toNat).map fun c=>[c])):=
 yam fun B ok0 lv w a o ho hty hi' hops=>by
  have hr:=hops x _ (by simp [Op.operands]) hx
  have hiv:=yey (hops y _ (by simp [Op.operands]) hy)
  generalize hv:a.eval x=v at hr
  cases hr with
  | dp g q u hg hc hr=>
   obtain ⟨e,he,hs⟩:=hk
   have hrun:(Instr.sliceAt ti (.pointer (some ⟨g,q,none⟩)) none (some (a.eval y)) none).run P w=.ok (.slice (some ⟨g,q,none⟩) i.toNat n) w:=by
    rw [hiv]
    have h7:=(hs.run (w:=w)).1
    by_cases hz:n=0
    ·subst hz
     have:i=0:=by omega
     subst this
     simp [Instr.sliceAt,run_underlying he,Instr.sureAddr,Instr.sliceBounds,Instr.sliceBound,asIntOf,h7]
    ·simp [Instr.sliceAt,run_underlying he,Instr.sureAddr,Instr.sliceBounds,Instr.sliceBound,asIntOf,h7,h0,h1,Addr.add]
   refine ⟨.slice (some ⟨g,q,none⟩) i.toNat n,by have hv':a.eval x=.pointer (some ⟨g,q,none⟩):=hv;simp [execOp,ho,hv',hrun],?_⟩
   have hlen:((row.take i.toNat).map fun c=>[c]).length=i.toNat:=by simp;omega
   have hget:∀ (k j:Nat) (r:List AV) (c:AV),((row.take i.toNat).map fun c=>[c])[k]?=some r→r[j]?=some c→j=0∧row[k]?=some c:=by
    intro k j r c h2 h3
    rw [List.getElem?_map,List.getElem?_take] at h2
    split at h2
    ·cases hk:row[k]? with
     | none=>rw [hk] at h2;cases h2
     | some z=>
      rw [hk] at h2
      cases h2
      cases j with
      | zero=>cases h3;exact ⟨rfl,rfl⟩
      | succ j=>cases h3
    ·cases h2
   have:=Rel.sl (ok:=yax B ok0 lv w) (w:=w) (lv:=lv) (size:=1) (rows:=(row.take i.toNat).map fun c=>[c]) (some ⟨g,q,none⟩) n (fun k j=>u k) g q (by rw [hlen];omega) hm (fun h=>by cases h) (fun r hr=>by obtain ⟨c,_,rfl⟩:=List.mem_map.1 hr;rfl) (fun _=>⟨rfl,hg⟩) (fun k j r c h2 h3=>by
    obtain ⟨rfl,h4⟩:=hget k j r c h2 h3
    have:=hc k c h4
    rwa [show q+k * 1+0=q+k by omega]) (fun k j r c h2 h3=>by
    obtain ⟨rfl,h4⟩:=hget k j r c h2 h3
    exact hr k c h4)
   rwa [hlen] at this
theorem L_arrslice (hT:TOK P T) {ti n z:Nat} {ag ea:Bool} {zs:List Value} {x y:Operand} {k:IntKind} {i:Int} {row:List AV} (ht:T ti=some ⟨.arr n 1 ea,z,ag,zs⟩) (hx:evF (look t) x=some (.dp row 0)) (hy:evF (look t) y=some (.v (.int k i))) (hn:row.length=n) (hm:n≤maxLen) (h0:0≤i) (h1:i≤n)
  (hw:yaj ops (look t) ⟨some d,.slice ti x none (some y) none,ty,pos,af,gd⟩=some true) (hd:Nat.blt d N=true) (k:Lex P N ops lf Q rest (S ((d,.sl 1 ((row.take i.toNat).map fun c=>[c]))::t) h)):Lex P N ops lf Q (⟨some d,.slice ti x none (some y) none,ty,pos,af,gd⟩::rest) (S t h):=
 ycc (yield_arrslice (hT _ _ ht).2.2 hx hy hn hm h0 h1) hw hd k
theorem L_storeC (hT:TOK P T) {ti:Nat} {y:Ty} {x v:Operand} {id off:Nat} {xs:List AV} {u:AV} (hy:T ti=some y) (hx:evF (look t) x=some (.lp id off)) (hv:evF (look t) v=some u) (hcs:ydq u=some [u]) (hcl:Nat.beq 1 y.size=true) (hh:hlook h id=some (.cells xs)) (hlt:off < xs.length)
  (hl:lf ⟨none,.store ti x v,ty,pos,af,gd⟩=true) (hw:yaj ops (look t) ⟨none,.store ti x v,ty,pos,af,gd⟩=some true) (k:Lex P N ops lf Q rest (S t ((id,some (.cells (xs.set off u)))::h))):Lex P N ops lf Q (⟨none,.store ti x v,ty,pos,af,gd⟩::rest) (S t h):=by
 have he:xs.set off u=xs.take off++[u]++xs.drop (off+[u].length):=by
  rw [List.set_eq_take_append_cons_drop,if_pos hlt];simp
 refine yed hl hw (by rw [← S_h,he];exact yjg rfl rfl (hT _ _ hy).1 hx hv hcs (by simpa using hcl) hh (.cells (by simp;omega))) k
end
theorem A_freezeBoxS {P:Program} {N:Nat} {t:List (Nat × AV)} {c:Code} {Q:Exit→SS→Prop} {t':List (Nat × AV)} {h0 h':List (Nat × Option LObj)} (d:Nat) {id off:Nat} {xs:List AV} (hd:look t d=some (.lp id off)) (hp:yav.pureL xs=true)
  (ht:ysi id t=some t') (hh:yqb id h0=some h') (k:A P N c Q (S ((d,.dp xs off)::t') ((id,none)::h'))):A P N c Q (S t ((id,some (.cells xs))::h0)):=by
 intro B ok0 lv a w hs
 obtain ⟨g1,g2⟩:=yge ht
 obtain ⟨lv',hs'⟩:=hs.freezeBox (s':=S t' ((id,none)::h')) hd ybe hp (fun x y hy=>(g1 x y hy).imp (fun h=>h) And.left) g2 (by simp [S,hlook]) (fun j ob' hj=>by
  by_cases e:j=id
  ·subst e;simp [S,hlook] at hj
  ·have hj:hlook ((id,none)::h') j=some ob':=hj
   rw [yap e] at hj
   obtain ⟨_,ob,q1,q2⟩:=yfb hh j ob' hj
   exact ⟨ob,by show hlook _ _=_;rw [yap e];exact q1,q2⟩)
 rw [show (⟨ydu (S t' ((id,none)::h')).t (some d) (.dp xs off),(S t' ((id,none)::h')).h⟩:SS)=S ((d,.dp xs off)::t') ((id,none)::h') by unfold S;rw [ydb]] at hs'
 exact k B ok0 lv' a w hs'
theorem zbk {P:Program} {N:Nat} {x y:Code} {Q:Exit→SS→Prop} {s:SS} (t0:List (Nat × AV)) (h0:List (Nat × Option LObj)) (k1:A P N x (Mid t0 h0) s) (k2:A P N y Q (S t0 h0)):A P N x (zze P N y Q) s:=
 k1.mono fun e s' he=>by obtain ⟨rfl,hs⟩:=he;exact yrw k2 hs
theorem zdd:∀ l:List Int,yav.pureL (l.map i64)=true
 | []=>rfl
 | a::l=>by simp [yav.pureL,yav,i64,zdd l]
def ztx (f:Nat→Int) (n k:Nat):List Int:=(List.range k).map f++List.replicate (n - k) 0
theorem zkn {f:Nat→Int} {n k:Nat} (h:k≤n):(ztx f n k).length=n:=by simp [ztx];omega
theorem arr_set {f:Nat→Int} {n k:Nat} (h:k < n):((ztx f n k).map i64).set k (i64 (f k))=(ztx f n (k+1)).map i64:=by
 rw [show i64 (f k)=i64 (f k) from rfl,← List.map_set]
 congr 1
 unfold ztx
 rw [List.set_append_right _ _ (by simp),List.range_succ]
 obtain ⟨m,hm⟩:∃ m,n - k=m+1:=⟨n - k - 1,by omega⟩
 rw [show n - (k+1)=m by omega,hm]
 simp [List.replicate_succ]
theorem arr_take {f:Nat→Int} {n k:Nat}:(((ztx f n k).map i64).take k).map (fun c=>[c])=((List.range k).map f).map fun x=>[i64 x]:=by
 unfold ztx
 rw [List.map_append,List.take_append_of_le_length (by simp),List.take_of_length_le (by simp)]
 simp
end
end Go.Proofs.YtgpbgfpjlhoicaaGreatDoor
