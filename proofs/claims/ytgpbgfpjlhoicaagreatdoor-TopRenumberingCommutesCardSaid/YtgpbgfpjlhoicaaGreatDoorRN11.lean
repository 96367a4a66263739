/- Part 11 of the texts under TopRenumberingCommutes: joined, with what it needs alone. -/
import Derived.Test.YtgpbgfpjlhoicaaGreatDoorRN1
import Derived.Test.YtgpbgfpjlhoicaaGreatDoorRN4
import Derived.Test.YtgpbgfpjlhoicaaGreatDoorRN7
import Derived.Test.YtgpbgfpjlhoicaaGreatDoorRN8
import Derived.Test.YtgpbgfpjlhoicaaGreatDoorRN9
import Derived.Test.YtgpbgfpjlhoicaaGreatDoorRN10
set_option linter.unusedVariables false
set_option maxRecDepth 100000
set_option maxHeartbeats 8000000
namespace Go.Proofs.YtgpbgfpjlhoicaaGreatDoor
section
open Go.RowKit
theorem tend_con (l:List Tm) (k:Nat) (E:Ex) (r:List Tm) (hl:l.length≤1000) (hk:k≤1000) (hE:l.drop k=E.fl++r) (ho:E.ok):Con Tryz.prog 197 [yeq l,i64 k] (i64 ((k+E.fl.length:Nat):Int)):=
 yee ⟨_,Tryz.func197,rfl,rfl⟩ fun w us ok hok hr=>by
  obtain ⟨u,v,rfl,h1,h2⟩:=yrq hr
  cases h2
  have e:yre 1 k l=((k+E.fl.length:Nat):Int):=by
   unfold yre
   rw [hE,zks E ho 0 r,yog]
   simp
  rw [← e]
  exact (zbz u l k w hl (Lib.hid (ygm h1 hok)) hk).mono fun e w' ⟨h1,h2⟩=>⟨h1,h2 ▸ Below.refl _ _⟩
theorem yye {α:Type} {l:List α} {k:Nat} {t:α} {r:List α} (h:l.drop k=t::r):l[k]?=some t∧l.drop (k+1)=r∧k < l.length:=by
 have h1:l[k]?=some t:=by
  have:=congrArg (fun l=>l[0]?) h
  simpa using this
 exact ⟨h1,by rw [← List.tail_drop,h];rfl,(List.getElem?_eq_some_iff.1 h1).1⟩
theorem zkr {α:Type} {l:List α} {k:Nat} {a r:List α} (h:l.drop k=a++r):l.drop (k+a.length)=r:=by
 rw [← List.drop_drop,h,List.drop_left]
structure WalkOk (p:ProgD) (g:GraphD) (c:List (List Int)) (v:Nat) (ls:List Lk) (e:List Tm) (n:Int):Prop where
 hg:ybs g=true
 hls:g.ports[v]?=some ls
 hc:c.length=g.ports.length
 hr:∀ r∈c,n≤r.length
 he:e.length≤1000
 ha:∀ t∈e,yrc n t=true
 ok:ScnOk ⟨g,c,v⟩
theorem zqw {n:Int} {t:Tm} (h:yrc n t=true):t.1=5∨t.1=12→0≤t.2∧t.2 < n:=by
 intro ht
 unfold yrc at h
 rcases ht with e|e <;> simp [e] at h <;> omega
theorem wagg_con {p:ProgD} {g:GraphD} {c:List (List Int)} {v:Nat} {ls:List Lk} {e:List Tm} {n:Int} (W:WalkOk p g c v ls e n) (t:Tm) (a:Ex) (k:Nat) (r:List Tm) (hE:e.drop k=t::(a.fl++r)) (ht:20≤t.1∧t.1≤29) (hoa:a.ok)
  (hin:∀ j:Nat,j < ls.length→InV ((⟨g,c,v⟩:Scn).val j a))
  (H:∀ j:Nat,j < ls.length→Con Tryz.prog 203 [zlq p g c v e,i64 ((k:Int)+1),i64 j] (.tup [i64 ((⟨g,c,v⟩:Scn).val j a),i64 ((k+1+a.fl.length:Nat):Int)])) :
  Con Tryz.prog 247 [zlq p g c v e,i64 t.1,i64 k] (.tup [i64 (zro t.1 ((List.range ls.length).map fun j:Nat=>(⟨g,c,v⟩:Scn).val j a)),i64 ((k+1+a.fl.length:Nat):Int)]):=by
 have hv:=yal W.hg
 have hls:=W.hls
 have hvl:=(List.getElem?_eq_some_iff.1 hls).1
 have hlb:=hv.2.2.2.2.2.1 v ls hls
 have hll:=ydp hvl hlb
 have hll24:ls.length≤24:=(W.ok.links ls (List.mem_of_getElem? hls)).1
 have he:=W.he
 obtain ⟨hk1,hk2,hk3⟩:=yye hE
 have hk4:k+1+a.fl.length≤e.length:=by
  have:=congrArg List.length hk2
  rw [List.length_drop,List.length_append] at this
  omega
 let f:Nat→Int:=fun j=>(⟨g,c,v⟩:Scn).val j a
 refine yao Tryz.func247 rfl rfl Tryz.ntmps247 Tryz.results247 rfl rfl ?_
 (try refine zy ?_)
 refine ydi (α:=Nat) (fun j=>[(27,i64 j),(26,i64 ls.length),(9,i64 ls.length),(8,.lp 8 0),(7,i64 (if j=0 then 0 else ((k+1+a.fl.length:Nat):Int))),(0,zlq p g c v e),(1,i64 t.1),(2,i64 k)]) (fun j=>[(8,some (.cells ((ztx f 24 j).map i64)))]) (fun j=>ls.length - j) (fun j=>j≤ls.length) 0 (by omega) (by exact zs) (by exact zh) ?_
 intro j hj
 (try refine zy ?_)
 refine yac rfl (fun h=>?_) (fun h=>?_)
 ·simp at h
  (repeat (first|refine zy ?_|refine yaf rfl rfl (H j h) rfl rfl ?_))
  refine ypa tok rfl rfl (by rw [ybe];rfl) (by intro h0;have:=congrArg List.length h0;simp [zkn (show j≤24 by omega)] at this) rfl (by omega) (by omega) rfl rfl ?_
  refine L_storeC tok rfl rfl rfl rfl rfl ybe (by simp [zkn (show j≤24 by omega)];omega) rfl rfl ?_
  refine zuv (h':=[(8,some (.cells ((ztx f 24 (j+1)).map i64)))]) ?_ ?_
  ·rw [ygz,show (0+(j:Int).toNat * 1)=j by simp]
   have:=arr_set (f:=f) (show j < 24 by omega)
   rw [← this]
  (try refine zy ?_)
  exact rnd (j+1) (by omega) (by omega) (by exact zs) (by exact zh)
 ·simp at h
  obtain rfl:j=ls.length:=by omega
  (try refine zy ?_)
  refine zbk [(9,i64 ls.length),(8,.lp 8 0),(7,i64 ((k+1+a.fl.length:Nat):Int)),(0,zlq p g c v e),(1,i64 t.1),(2,i64 k)] [(8,some (.cells ((ztx f 24 ls.length).map i64)))] ?_ ?_
  ·refine yac rfl (fun h0=>?_) (fun h0=>?_)
   ·simp at h0
    (repeat (first|refine zy ?_|refine yaf rfl rfl (tend_con e k (.un t a) r he (by omega) (by rw [hE];rfl) ⟨by unfold ar;rw [if_neg (by omega),if_neg (by omega),if_pos (by omega)],hoa⟩) rfl rfl ?_))
    refine mid ?_ (by exact zh)
    refine yas rfl (yas rfl (yas (yhe rfl (yoj ?_)) (by exact zs)))
    simp [Ex.fl];omega
   ·have h0:¬ ls=[]:=by simpa using h0
    (try refine zy ?_)
    refine mid ?_ (by exact zh)
    refine yas rfl (yas rfl (yas (yhe rfl (yoj ?_)) (by exact zs)))
    rw [if_neg (by intro e9;exact h0 (List.length_eq_zero_iff.1 e9))]
  refine zt ?_
  refine A_freezeBoxS 8 rfl (zdd _) rfl rfl ?_
  have hlen:((List.range ls.length).map f).length=ls.length:=by simp
  (repeat (first|refine zy ?_|refine L_arrslice tok rfl rfl rfl (by simp [zkn hll24]) (by decide) (by omega) (by omega) rfl rfl ?_|refine ynz 51 (y:=yah ((List.range ls.length).map f)) rfl (by rw [Int.toNat_natCast,arr_take];rfl) ?_|refine yaf rfl rfl (efold_con t.1 ((List.range ls.length).map f) ht (by rw [hlen];omega) (fun x hx=>by obtain ⟨j,hj,rfl⟩:=List.mem_map.1 hx;exact hin j (List.mem_range.1 hj))) rfl rfl ?_))
  refine yae ?_;refine ⟨_,rfl,?_⟩
  exact Frz.tup2 (yai rfl) (yai rfl)
end
section
open Go.RowKit
theorem ar_0 {op:Int} (h:ar op=0):1≤op∧op≤17:=by unfold ar at h;repeat' split at h <;> omega
theorem ar_1 {op:Int} (h:ar op=1):18≤op∧op≤29:=by unfold ar at h;repeat' split at h <;> omega
theorem ar_2 {op:Int} (h:ar op=2):30≤op∧op≤42:=by unfold ar at h;repeat' split at h <;> omega
theorem ar_3 {op:Int} (h:ar op=3):op=43:=by unfold ar at h;repeat' split at h <;> omega
theorem zec {op:Int}:yjk op=true↔20≤op∧op≤29:=by simp [yjk]
theorem yir {e:List Tm} {k:Nat} {a r:List Tm} (h:e.drop k=a++r):∀ t∈a,t∈e:=fun t ht=>by
 have:t∈e.drop k:=by rw [h];simp [ht]
 exact List.mem_of_mem_drop this
theorem zsu {ls:List Lk} {n:Nat} (h:ls.length≤24) {j:Nat} (hj:j < ls.length):InV (j:Int):=by unfold InV ygp;omega
theorem yku {p:ProgD} {g:GraphD} {c:List (List Int)} {v:Nat} {ls:List Lk} {e:List Tm} {n:Int} (W:WalkOk p g c v ls e n) {kinds:List Int} (hk:yfh kinds=true):∀ (E:Ex),E.ok→∀ (k:Nat) (r:List Tm) (b:Bool) (port:Int),e.drop k=E.fl++r→ty kinds b E≠0→InV port→(b=true→0≤port∧port < ls.length) →
  Con Tryz.prog 203 [zlq p g c v e,i64 k,i64 port] (.tup [i64 ((⟨g,c,v⟩:Scn).val port E),i64 ((k+E.fl.length:Nat):Int)])
 | .lf t,ho,k,r,b,port,hE,ht,hp,hb=>by
  obtain ⟨hk1,hk2,hk3⟩:=yye (show e.drop k=t::r from hE)
  have he:=W.he
  have h17:=ar_0 ho
  have hnear:12≤t.1→0≤port∧port < ls.length:=fun h12=>hb (by
   cases b with
   | true=>rfl
   | false=>exact absurd (by simp only [ty];simp [zbg,h17.2];omega) ht)
  have hm:t∈e:=List.mem_of_getElem? hk1
  refine yao Tryz.func203 rfl rfl Tryz.ntmps203 Tryz.results203 rfl rfl ?_
  (try refine zy ?_)
  refine yac rfl (fun h=>?_) (fun h=>?_)
  ·(repeat (first|refine zy ?_|refine yaf rfl rfl (wleaf_con p g W.hg c e v ls W.hls t port h17 hnear W.hc (fun hx=>⟨(zqw (W.ha t hm) hx).1,fun r hr=>by have:=(zqw (W.ha t hm) hx).2;have:=W.hr r hr;omega⟩)) rfl rfl ?_))
   refine yae ?_;refine ⟨_,rfl,?_⟩
   exact Frz.tup2 (yai rfl) (yai (by simp [Ex.fl]))
  ·exact absurd (by simpa using h) (by omega)
 | .un t a,ho,k,r,b,port,hE,ht,hp,hb=>by
  obtain ⟨hk1,hk2,hk3⟩:=yye (show e.drop k=t::(a.fl++r) from hE)
  have he:=W.he
  have h17:=ar_1 ho.1
  have hlen:(Ex.un t a).fl.length=1+a.fl.length:=by simp [Ex.fl];omega
  have hka:=ynm kinds hk b (.un t a) a ho (by simp [yto]) ht
  have hd24:ls.length≤24:=(W.ok.links ls (List.mem_of_getElem? W.hls)).1
  have hdeg:(⟨g,c,v⟩:Scn).deg=ls.length:=by simp [Scn.deg,List.getD_eq_getElem?_getD,W.hls]
  refine yao Tryz.func203 rfl rfl Tryz.ntmps203 Tryz.results203 rfl rfl ?_
  (try refine zy ?_)
  refine yac rfl (fun q1=>?_) (fun q1=>?_)
  ·exact absurd (by simpa using q1) (show ¬ t.1≤17 by omega)
  (try refine zy ?_)
  refine yac rfl (fun q2=>?_) (fun q2=>?_)
  ·have hna:yjk t.1=false:=by cases h:yjk t.1 with
    | false=>rfl
    | true=>exact absurd (zec.1 h).1 (by simp at q2;omega)
   have ih:=yku W hk a ho.2 (k+1) r b port hk2 (by simpa [hd,hna] using hka) hp hb
   rw [show ((k+1:Nat):Int)=(k:Int)+1 by omega] at ih
   have hin:InV ((⟨g,c,v⟩:Scn).val port a):=zas W.ok a (fun x hx=>W.ha x (yir hk2 x hx)) hp
   (repeat (first|refine zy ?_|refine yaf rfl rfl ih rfl rfl ?_|refine yaf rfl rfl (eun_con _ _ hin) rfl rfl ?_))
   refine yae ?_;refine ⟨_,rfl,?_⟩
   exact Frz.tup2 (yai (by simp only [Scn.val];rw [if_neg (by simp [hna])])) (yai (by rw [hlen];omega))
  (try refine zy ?_)
  have q2:¬ t.1≤19:=by simpa using q2
  refine yac rfl (fun q3=>?_) (fun q3=>?_)
  ·have hag:yjk t.1=true:=zec.2 (by omega)
   have hka:ty kinds true a≠0:=by simpa [hd,hag] using hka
   have H:∀ j:Nat,j < ls.length→Con Tryz.prog 203 [zlq p g c v e,i64 ((k:Int)+1),i64 j] (.tup [i64 ((⟨g,c,v⟩:Scn).val j a),i64 ((k+1+a.fl.length:Nat):Int)]):=fun j hj=>by
    have ih:=yku W hk a ho.2 (k+1) r true (j:Int) hk2 hka (zsu (n:=0) hd24 hj) (fun _=>⟨by omega,by omega⟩)
    rwa [show ((k+1:Nat):Int)=(k:Int)+1 by omega] at ih
   have hin:∀ j:Nat,j < ls.length→InV ((⟨g,c,v⟩:Scn).val j a):=fun j hj=>zas W.ok a (fun x hx=>W.ha x (yir hk2 x hx)) (zsu (n:=0) hd24 hj)
   (repeat (first|refine zy ?_|refine yaf rfl rfl (wagg_con W t a k r hE (by omega) ho.2 hin H) rfl rfl ?_))
   refine yae ?_;refine ⟨_,rfl,?_⟩
   exact Frz.tup2 (yai (by simp only [Scn.val];rw [if_pos hag,hdeg])) (yai (by rw [hlen];omega))
  ·exact absurd (by simpa using q3) (show ¬ ¬ t.1≤29 by omega)
 | .bi t a d,ho,k,r,b,port,hE,ht,hp,hb=>by
  obtain ⟨hk1,hk2,hk3⟩:=yye (show e.drop k=t::(a.fl++(d.fl++r)) by rw [hE];simp [Ex.fl])
  have he:=W.he
  have h17:=ar_2 ho.1
  have hna:yjk t.1=false:=by cases h:yjk t.1 with|false=>rfl|true=>have:=zec.1 h;omega
  have hlen:(Ex.bi t a d).fl.length=1+a.fl.length+d.fl.length:=by simp [Ex.fl];omega
  have hka:=ynm kinds hk b (.bi t a d) a ho (by simp [yto]) ht
  have hkd:=ynm kinds hk b (.bi t a d) d ho (by simp [yto]) ht
  simp only [hd,hna,Bool.or_false] at hka hkd
  have hk4:=zkr hk2
  have ih1:=yku W hk a ho.2.1 (k+1) _ b port hk2 hka hp hb
  have ih2:=yku W hk d ho.2.2 (k+1+a.fl.length) r b port hk4 hkd hp hb
  rw [show ((k+1:Nat):Int)=(k:Int)+1 by omega] at ih1
  have hin1:InV ((⟨g,c,v⟩:Scn).val port a):=zas W.ok a (fun x hx=>W.ha x (yir hk2 x hx)) hp
  have hin2:InV ((⟨g,c,v⟩:Scn).val port d):=zas W.ok d (fun x hx=>W.ha x (yir hk4 x hx)) hp
  refine yao Tryz.func203 rfl rfl Tryz.ntmps203 Tryz.results203 rfl rfl ?_
  (try refine zy ?_)
  refine yac rfl (fun q1=>?_) (fun q1=>?_)
  ·exact absurd (by simpa using q1) (show ¬ t.1≤17 by omega)
  (try refine zy ?_)
  refine yac rfl (fun q2=>?_) (fun q2=>?_)
  ·exact absurd (by simpa using q2) (show ¬ t.1≤19 by omega)
  (try refine zy ?_)
  refine yac rfl (fun q3=>?_) (fun q3=>?_)
  ·exact absurd (by simpa using q3) (show ¬ t.1≤29 by omega)
  (try refine zy ?_)
  refine yac rfl (fun q4=>?_) (fun q4=>?_)
  ·(repeat (first|refine zy ?_|refine yaf rfl rfl ih1 rfl rfl ?_|refine yaf rfl rfl ih2 rfl rfl ?_|refine yaf rfl rfl (ebin_con _ _ _ hin1 hin2) rfl rfl ?_))
   refine yae ?_;refine ⟨_,rfl,?_⟩
   exact Frz.tup2 (yai (by simp only [Scn.val];exact biP_eq h17)) (yai (by rw [hlen];omega))
  ·exact absurd (by simpa using q4) (show ¬ ¬ t.1≤42 by omega)
 | .tr t a d f,ho,k,r,b,port,hE,ht,hp,hb=>by
  obtain ⟨hk1,hk2,hk3⟩:=yye (show e.drop k=t::(a.fl++(d.fl++(f.fl++r))) by rw [hE];simp [Ex.fl])
  have he:=W.he
  have h17:=ar_3 ho.1
  have hna:yjk t.1=false:=by cases h:yjk t.1 with|false=>rfl|true=>have:=zec.1 h;omega
  have hlen:(Ex.tr t a d f).fl.length=1+a.fl.length+d.fl.length+f.fl.length:=by simp [Ex.fl];omega
  have hka:=ynm kinds hk b (.tr t a d f) a ho (by simp [yto]) ht
  have hkd:=ynm kinds hk b (.tr t a d f) d ho (by simp [yto]) ht
  have hkf:=ynm kinds hk b (.tr t a d f) f ho (by simp [yto]) ht
  simp only [hd,hna,Bool.or_false] at hka hkd hkf
  have hk4:=zkr hk2
  have hk5:=zkr hk4
  have ih1:=yku W hk a ho.2.1 (k+1) _ b port hk2 hka hp hb
  have ih2:=yku W hk d ho.2.2.1 (k+1+a.fl.length) _ b port hk4 hkd hp hb
  have ih3:=yku W hk f ho.2.2.2 (k+1+a.fl.length+d.fl.length) r b port hk5 hkf hp hb
  rw [show ((k+1:Nat):Int)=(k:Int)+1 by omega] at ih1
  refine yao Tryz.func203 rfl rfl Tryz.ntmps203 Tryz.results203 rfl rfl ?_
  (try refine zy ?_)
  refine yac rfl (fun q1=>?_) (fun q1=>?_)
  ·exact absurd (by simpa using q1) (show ¬ t.1≤17 by omega)
  (try refine zy ?_)
  refine yac rfl (fun q2=>?_) (fun q2=>?_)
  ·exact absurd (by simpa using q2) (show ¬ t.1≤19 by omega)
  (try refine zy ?_)
  refine yac rfl (fun q3=>?_) (fun q3=>?_)
  ·exact absurd (by simpa using q3) (show ¬ t.1≤29 by omega)
  (try refine zy ?_)
  refine yac rfl (fun q4=>?_) (fun q4=>?_)
  ·exact absurd (by simpa using q4) (show ¬ t.1≤42 by omega)
  (repeat (first|refine zy ?_|refine yaf rfl rfl ih1 rfl rfl ?_|refine yaf rfl rfl ih2 rfl rfl ?_|refine yaf rfl rfl ih3 rfl rfl ?_))
  refine yac rfl (fun q5=>?_) (fun q5=>?_)
  ·(try refine zy ?_)
   refine yae ?_;refine ⟨_,rfl,?_⟩
   exact Frz.tup2 (yai (by simp only [Scn.val];rw [if_pos (by simpa using q5)])) (yai (by rw [hlen];omega))
  ·(try refine zy ?_)
   refine yae ?_;refine ⟨_,rfl,?_⟩
   exact Frz.tup2 (yai (by simp only [Scn.val];rw [if_neg (by simpa using q5)])) (yai (by rw [hlen];omega))
end
section
open Go.RowKit
structure CfgOk (p:ProgD) (g:GraphD) (c:List (List Int)):Prop where
 fair:Fair p g
 chk:yhl p g c=0
section
variable {p:ProgD} {g:GraphD} {c:List (List Int)}
theorem CfgOk.fit (h:CfgOk p g c):yhg p g=0:=(yjb.1 h.chk).1
theorem CfgOk.prog (h:CfgOk p g c):ydf p=0:=(ydx.1 h.fit).1
theorem CfgOk.graph (h:CfgOk p g c):ybs g=true:=(ydx.1 h.fit).2.1
theorem CfgOk.table (h:CfgOk p g c):yif (yat p g) c=true:=(yjb.1 h.chk).2
theorem CfgOk.len (h:CfgOk p g c):c.length=g.ports.length:=by
 have:=(ytw h.table).1
 rw [this];simp [yat]
theorem CfgOk.n24 (h:CfgOk p g c):g.ports.length≤24:=(yal h.graph).2.1
theorem CfgOk.row (h:CfgOk p g c) {v:Nat} {r:List Int} (hr:c[v]?=some r):∃ b,(yat p g)[v]?=some b∧yfk b r=true:=by
 have hv:=(List.getElem?_eq_some_iff.1 hr).1
 obtain ⟨b,hb⟩:=ycg (show v < (yat p g).length by rw [← (ytw h.table).1];exact hv)
 obtain ⟨s,hs,hst⟩:=(ytw h.table).2 v b hb
 rw [hr] at hs
 cases hs
 exact ⟨b,hb,hst⟩
theorem CfgOk.rowlen (h:CfgOk p g c):∀ r∈c,r.length=p.vars.length:=by
 intro r hr
 obtain ⟨v,hv⟩:=List.getElem?_of_mem hr
 obtain ⟨b,hb,hst⟩:=h.row hv
 rw [(yti hst).1,zao hb]
theorem CfgOk.vars6 (h:CfgOk p g c):1≤p.vars.length∧p.vars.length≤6:=by have:=ydn h.prog;omega
theorem CfgOk.bd (h:CfgOk p g c):∀ r∈c,∀ a∈r,-1≤a∧a≤1000000:=by
 intro r hr a ha
 obtain ⟨v,hv⟩:=List.getElem?_of_mem hr
 obtain ⟨b,hb,hst⟩:=h.row hv
 obtain ⟨x,hx⟩:=List.getElem?_of_mem ha
 obtain ⟨hl,hbd⟩:=yti hst
 have hxl:=(List.getElem?_eq_some_iff.1 hx).1
 obtain ⟨q,hq⟩:=ycg (show x < b.length by omega)
 obtain ⟨z,hz,h1,h2⟩:=hbd x q hq
 rw [hx] at hz
 cases hz
 have:=((table_in h.fair h.fit).2 b (List.mem_of_getElem? hb)).2 q (List.mem_of_getElem? hq)
 obtain ⟨g1,g2,g3⟩:=this
 omega
theorem CfgOk.cin (h:CfgOk p g c):zpa c:=by
 have:=h.n24
 refine ⟨by rw [h.len];omega,fun r hr=>?_⟩
 have:=h.rowlen r hr
 have:=h.vars6
 omega
theorem CfgOk.scn (h:CfgOk p g c) (v:Nat):ScnOk ⟨g,c,v⟩:=by
 have hv:=yal h.graph
 have h24:=h.n24
 refine ⟨hv.2.2.2.1,by show g.ids.length≤24;omega,fun ls hls=>?_,fun r hr a ha=>?_⟩
 ·obtain ⟨u,hu⟩:=List.getElem?_of_mem hls
  have hb:=hv.2.2.2.2.2.1 u ls hu
  have hul:=(List.getElem?_eq_some_iff.1 hu).1
  have hll:ls.length < g.ports.length:=ydp hul hb
  refine ⟨by omega,fun l hl=>?_⟩
  have:=(ybk _ _ _).1 (((ych _ _ _).1 hb).1 l hl)
  omega
 ·have:=h.bd r hr a ha
  unfold InV ygp;omega
theorem CfgOk.kinds (h:CfgOk p g c):(ybc p).length=p.vars.length:=by simp [ybc]
theorem CfgOk.walk (h:CfgOk p g c) {v:Nat} {ls:List Lk} (hls:g.ports[v]?=some ls) {e:List Tm} (he:ycr e p.vars.length=true):WalkOk p g c v ls e p.vars.length:=by
 obtain ⟨E,_,_,_,h2,h3,_⟩:=ynf he
 exact ⟨h.graph,hls,h.len,fun r hr=>by have:=h.rowlen r hr;omega,by omega,List.all_eq_true.1 h3,h.scn v⟩
theorem CfgOk.links (h:CfgOk p g c) {v:Nat} (hv:v < c.length):∃ ls,g.ports[v]?=some ls:=ycg (by rw [← h.len];exact hv)
end
theorem zot {p:ProgD} {g:GraphD} {c:List (List Int)} (h:CfgOk p g c) {v:Nat} (hv:v < c.length) {e:List Tm} (ht:(ofF e (ybc p) false).1≠0):Con Tryz.prog 145 [zdk p g,yhm c,i64 v,yeq e] (i64 ((⟨g,c,v⟩:Scn).of e)):=by
 obtain ⟨E,hp,hE,ho,hfl,hk,hval,hty⟩:=zyd ht rfl
 obtain ⟨ls,hls⟩:=h.links hv
 have W:=h.walk hls (by rw [← h.kinds];exact hval)
 have hc:=yku W hk E ho 0 [] false (-1) (by rw [hfl];simp) hty (by unfold InV ygp;omega) (by simp)
 refine yao Tryz.func145 rfl rfl Tryz.ntmps145 Tryz.results145 rfl rfl ?_
 (repeat (first|with_reducible refine ybw ?_|with_reducible refine ybh ?_|refine ybt ?_));refine ydt ?_;refine yci (lf:=lfT) rfl ?_
 (try refine zo ?_)
 (repeat (first|with_reducible refine ybw ?_|with_reducible refine ybh ?_|refine ybt ?_))
 refine ydt ?_
 refine zR ?_
 (try refine zo ?_)
 refine zt ?_
 refine yhn 9 rfl rfl rfl rfl rfl ?_
 (repeat (first|refine zy ?_|refine yaf rfl rfl hc rfl rfl ?_))
 refine yae ?_;refine ⟨_,rfl,?_⟩
 exact yai (by unfold Scn.of;rw [hE])
theorem sguard_con {p:ProgD} {g:GraphD} {c:List (List Int)} (h:CfgOk p g c) {v:Nat} (hv:v < c.length) {i:Nat} {r:RuleD} (hr:p.rules[i]?=some r):Con Tryz.prog 228 [zdk p g,yhm c,i64 v,i64 i] (ybq ((⟨g,c,v⟩:Scn).of r.guard != 0)):=by
 have ht:=zna h.prog (List.mem_of_getElem? hr)
 have hc:=zot h hv (e:=r.guard) (by omega)
 have hlen:=(ydn h.prog).2.2.1
 refine yao Tryz.func228 rfl rfl Tryz.ntmps228 Tryz.results228 rfl rfl ?_
 (repeat (first|refine zy ?_|refine yaf rfl rfl hc rfl rfl ?_))
 refine yae ?_;refine ⟨_,rfl,?_⟩
 exact yag rfl
end
section
open Go.RowKit
theorem yjq {α:Type} {f:α→AV}:∀ l:List α,(l.map fun x=>[f x]).flatten=l.map f
 | []=>rfl
 | a::l=>by simp [yjq l]
theorem zgl {P:Program} {N:Nat} {t:List (Nat × AV)} {c:Code} {Q:Exit→SS→Prop} {t':List (Nat × AV)} {h0 h':List (Nat × Option LObj)} {α:Type} {f:α→AV} {l:List α} (d:Nat) {id n:Nat} (hd:look t d=some (.ls id 1 n)) (hn:n=l.length)
  (ht:ysi id t=some t') (hh:yqb id h0=some h') (k:A P N c Q (S ((d,.sl 1 (l.map fun x=>[f x]))::t') ((id,none)::h'))):A P N c Q (S t ((id,some (.vec (l.map f)))::h0)):=by
 subst hn
 refine zlt (h':=(id,some (.vec (l.map f)))::h') d (l.map fun x=>[f x]) hd ybe (by simp) (by intro r hr;obtain ⟨z,_,rfl⟩:=List.mem_map.1 hr;rfl) (yjq l) ht ?_ ?_
 ·simp only [yqb,hh];rfl
 ·rw [show S ((d,AV.sl 1 (l.map fun x=>[f x]))::t') ((id,none)::(id,some (LObj.vec (l.map f)))::h')=S ((d,AV.sl 1 (l.map fun x=>[f x]))::t') ((id,none)::h') by unfold S;rw [ygz]]
  exact k
theorem Frz.aggL {h:Nat→Option LObj} {xs ys:List AV} (hl:xs.length=ys.length) (hc:ys.all ydw=true) (hf:∀ (i:Nat) (x y:AV),xs[i]?=some x→ys[i]?=some y→Frz h x y):Frz h (.agg xs) (.agg ys):=by
 intro B ok0 lv w u hi hr
 cases hr with
 | agg vs hvl _ hrr=>
  refine .agg vs (hvl.trans hl) (fun c hcm=>List.all_eq_true.1 hc c hcm) fun i c v hcc hv=>?_
  obtain ⟨x,hx⟩:∃ x,xs[i]?=some x:=⟨_,List.getElem?_eq_getElem (by have:=(List.getElem?_eq_some_iff.1 hcc).1;omega)⟩
  exact hf i x c hx hcc B ok0 lv w v hi (hrr i x v hx hv)
end
set_option maxHeartbeats 4000000
section
open Go.RowKit
theorem zez (xs:List AV):isC (yjd xs)=false:=by cases xs <;> rfl
theorem yje {ok:Nat→Prop} {lv:Live} {w:World} {b n:Nat} {xs:List AV}:ygt ok lv w b n (yjd xs)↔yhf ok lv w b n xs:=by
 cases xs with
 | nil=>exact ⟨fun h=>h.1,fun h=>⟨h,fun x hx=>by cases hx⟩⟩
 | cons x xs=>exact Iff.rfl
theorem ymx {B:Bse} {ok:Nat→Prop} {lv:Live} {w:World} {n:Nat} {xs:List AV} (h:ygo B ok lv w n (yjd xs) none):xs=[]:=by
 cases xs with
 | nil=>rfl
 | cons x xs=>rcases h with h|⟨e,h⟩ <;> cases h
theorem yvu {id:Nat}:∀ {xs:List AV},(∀ x∈xs,ment id x=false)→ment.mentL id xs=false
 | [],_=>rfl
 | x::xs,h=>by simp only [ment.mentL,h x (by simp),Bool.false_or];exact yvu fun y hy=>h y (by simp [hy])
variable {P:Program} {T:Nat→Option Ty} {N:Nat} {ops:Array Oper} {lf:Oper→Bool} {Q:SS→Prop} {t:List (Nat × AV)} {h:List (Nat × Option LObj)} {rest:List Oper} {d:Nat} {op:Op} {ty:TypeId} {pos:String} {af:Array Edge} {gd:Option (Nat × Bool)} {r:AV}
theorem buildM_loud (hT:TOK P T) {o:Oper} {ti e es eb sz len:Nat} {ea ag:Bool} {ez z:List Value} {parts:List (Nat × Operand)} {ps:List (Nat × AV)} {ys:List AV} {s:SS} (id:Nat) (ho:o.op=.buildSlice ti len parts.toArray) (hd:o.dst=some d) (hdN:d < N) (hk:T ti=some ⟨.slc e es ea eb ez,sz,ag,z⟩) (hone:ez.all Value.oneCell'=true)
  (hps:evP (evF s.t) parts=some ps) (hf:ywd (fun i=>some (i * es,es)) (yna len (ykq ez)) ps=some ys) (hlen:ys.length=len * es) (hlim:Nat.ble (len * es) 16777216=true) (hfr:ylg s id) (hm:ment.mentL id ys=false) :
  ybr P N o s (·=⟨ydu s.t (some d) (.ls id es len),yeg s.h id (some (yjd ys))⟩):=by
 intro B ok0 lv a w hs Q
 obtain ⟨h1,h2⟩:=zek (ok:=yax B ok0 lv w) (w:=w) (lv:=lv) (a:=a) hps fun x y hx hxy=>hs.eval hxy
 obtain ⟨hu,hsz,_,hz,hzl,hpos⟩:=(hT _ _ hk).2.2
 obtain ⟨zv,hz1,hz2⟩:=hz.run (w:=w)
 obtain ⟨out,g1,g2,g3⟩:=ysf (place':=fun i=>some (i * es,es)) (fun i p h=>h) hf (zfv (z:=ez) len (by omega)) (yte (yox hone) len) h1 h2
 have hlim':len * es≤16777216:=by simpa using hlim
 have hle:len≤len * es:=Nat.le_mul_of_pos_right _ hpos
 have hrun:(execOp a.eval o).run P w=.ok (.value (.slice (some ⟨w.heap.size,0,none⟩) len len)) (w.alloc (.cells out.toArray e)):=by
  have e':Instr.fill (fun i=>some (i * es,es)) (madeCells ez.toArray (len * es)) (parts.toArray.map fun x=>(x.1,a.eval x.2)).toList=some out.toArray:=by
   have:(madeCells ez.toArray (len * ez.length)).toList.toArray=madeCells ez.toArray (len * es):=by rw [hzl]
   rw [← this]
   have e:(parts.toArray.map fun x=>(x.1,a.eval x.2)).toList=parts.map fun x=>(x.1,a.eval x.2):=by simp
   rw [e];exact g1
  unfold madeCells at e'
  have n1:¬ (len * es > 2 ^ 24):=by omega
  by_cases h0:len * es=0
  ·have hl0:len=0:=by omega
   subst hl0
   simp only [Nat.zero_mul,Array.range_zero',Array.map_empty] at e'
   simp [execOp,ho,Instr.buildSlice,run_underlying hu,(hsz.run (w:=w)).1,newRow,Array.range_zero']
   simp at e'
   rw [e']
   simp
  ·simp only [execOp,ho,Instr.buildSlice,Sem.run_bind,run_underlying hu,(hsz.run (w:=w)).1,Result.andThen_ok,if_neg n1,if_neg h0,hz1,hz2,Sem.run_pure,e',newRow]
   simp
 unfold Oper.wp
 rw [hrun]
 simp only [Oper.upon,hd]
 have hnew:=hs.newBlock (ob:=yjd ys) (n:=len * es) hfr (w':=w.alloc (.cells out.toArray e)) (ydm w _) (by simp) (by rw [ypo];exact hm) (fun h=>by rw [zez] at h;cases h)
  (fun ok' lv' k1 k2=>yje.2 (yxv (e:=e) (extra:=[]) (by rw [g2.1,hlen];simp) (by rw [List.append_nil];exact ydk w _) g2 g3 ok' lv' k1 fun i b mm hb hmm=>k2 i b mm hb (by rw [ypo];exact hmm)))
 refine ⟨_,_,rfl,hnew.putOnly hdN (.ls _ rfl fun b n' hb=>?_)⟩
 simp only [yip,if_true,Option.some.injEq,Prod.mk.injEq] at hb
 obtain ⟨rfl,rfl⟩:=hb
 exact ⟨len,rfl,Nat.le_refl _,by unfold maxLen;omega,rfl⟩
theorem L_buildM (hT:TOK P T) {ti e es eb sz len:Nat} {ea ag:Bool} {ez z:List Value} {parts:List (Nat × Operand)} {ps:List (Nat × AV)} {ys:List AV} (id:Nat) (hk:T ti=some ⟨.slc e es ea eb ez,sz,ag,z⟩) (hone:ez.all Value.oneCell'=true)
  (hps:evP (evF (look t)) parts=some ps) (hf:ywd (fun i=>some (i * es,es)) (yna len (ykq ez)) ps=some ys) (hlen:ys.length=len * es) (hlim:Nat.ble (len * es) 16777216=true) (hfr:ylg (S t h) id) (hm:ment.mentL id ys=false)
  (hl:lf ⟨some d,.buildSlice ti len parts.toArray,ty,pos,af,gd⟩=true) (hw:yaj ops (look t) ⟨some d,.buildSlice ti len parts.toArray,ty,pos,af,gd⟩=some true) (hd:Nat.blt d N=true) (k:Lex P N ops lf Q rest (S ((d,.ls id es len)::t) ((id,some (yjd ys))::h))) :
  Lex P N ops lf Q (⟨some d,.buildSlice ti len parts.toArray,ty,pos,af,gd⟩::rest) (S t h):=by
 refine yed hl hw ?_ k
 have:=buildM_loud (N:=N) (s:=S t h) (P:=P) hT (o:=⟨some d,.buildSlice ti len parts.toArray,ty,pos,af,gd⟩) id rfl rfl (by simpa using hd) hk hone hps hf hlen hlim hfr hm
 rwa [show (⟨ydu (S t h).t (some d) (.ls id es len),yeg (S t h).h id (some (yjd ys))⟩:SS)=S ((d,.ls id es len)::t) ((id,some (yjd ys))::h) from yrb] at this
def zpv (id:Nat) (t:List (Nat × AV)):List (Nat × AV)→Prop
 | []=>True
 | (x,y)::t'=>(look t x=some y∧ment id y=false)∧zpv id t t'
theorem subTM_nil {id:Nat} {t:List (Nat × AV)}:zpv id t []:=trivial
theorem subTM_cons {id:Nat} {t:List (Nat × AV)} {x:Nat} {y:AV} {t':List (Nat × AV)} (h1:look t x=some y) (h2:ment id y=false) (h:zpv id t t'):zpv id t ((x,y)::t'):=⟨⟨h1,h2⟩,h⟩
theorem yuz {id:Nat} {t:List (Nat × AV)}:∀ {t':List (Nat × AV)},zpv id t t'→∀ x y,look t' x=some y→look t x=some y∧ment id y=false
 | [],_,x,y,h=>by simp [look] at h
 | (s,z)::t',hs,x,y,h=>by
  simp only [look] at h
  split at h
  ·rename_i e
   have e:x=s:=by simpa using e
   subst e
   simp only [Option.some.injEq] at h
   subst h
   exact hs.1
  ·exact yuz hs.2 x y h
theorem L_appendV (hT:TOK P T) {ti e es eb sz:Nat} {ea ag:Bool} {ez z:List Value} {x y:Operand} {id len:Nat} {xs:List AV} {rows:List (List AV)} {t':List (Nat × AV)} {h0:List (Nat × Option LObj)} (hk:T ti=some ⟨.slc e es ea eb ez,sz,ag,z⟩) (hx:evF (look t) x=some (.ls id es len)) (hxl:xs.length=len * es) (hy:evF (look t) y=some (.sl es rows))
  (hcp:∀ c∈rows.flatten,yav c=true) (hlim:len+rows.length≤4294967296∧(len+rows.length) * eb≤140737488355328) (ht:zpv id t t') (h2:ybp id h0=true) (hl:lf ⟨some d,.call { callee:=.builtin .append,args:=#[x,y],argTypes:=#[ti,ti] },ty,pos,af,gd⟩=true)
  (hw:yaj ops (look t) ⟨some d,.call { callee:=.builtin .append,args:=#[x,y],argTypes:=#[ti,ti] },ty,pos,af,gd⟩=some true) (hd:Nat.blt d N=true) (k:Lex P N ops lf Q rest (S ((d,.ls id es (len+rows.length))::t') ((id,some (.vec (xs++rows.flatten)))::h0))) :
  Lex P N ops lf Q (⟨some d,.call { callee:=.builtin .append,args:=#[x,y],argTypes:=#[ti,ti] },ty,pos,af,gd⟩::rest) (S t ((id,some (.vec xs))::h0)):=by
 have e:S ((d,.ls id es (len+rows.length))::t') ((id,some (.vec (xs++rows.flatten)))::h0)=(⟨ydu (S t' ((id,some (.vec (xs++rows.flatten)))::h0)).t (some d) (.ls id es (len+rows.length)),(S t' ((id,some (.vec (xs++rows.flatten)))::h0)).h⟩:SS):=by
  unfold S;rw [ydb]
 refine yed hl hw ?_ k
 rw [e]
 refine yml hT rfl rfl (by simpa using hd) hk hx (by simp [S,hlook]) hxl hy (fun ok w lv u hr=>yvy hr) hcp hlim (fun x y h=>.inr (yuz ht x y h)) (fun x y h=>⟨y,(yuz ht x y h).1⟩) (fun j ob' hj hob=>?_) ?_
 ·simp only [S] at hob ⊢
  rw [yap hj] at hob ⊢
  exact ⟨(yei h2).2 j ob' hob,ob',hob,.inl rfl⟩
 ·simp [S,hlook]
theorem con_of_own {f:FuncId} {args:List AV} {r r':AV} {hs:Nat→Option LObj} (hc:ywc P f args (fun _=>none) r hs) (hp:yav r'=true) (hf:Frz hs r r'):Con P f args r':=by
 refine ⟨hc.1,hp,fun ok0 w us hG hok hus=>?_⟩
 have hno:∀ b,¬ ybn (fun _=>none) b:=fun b ⟨_,_,h⟩=>by cases h
 have hi:Inv (yfo w (fun _=>none)) ok0 (fun _=>none) (fun _=>none) w:=⟨⟨rfl,rfl,rfl,Nat.le_refl _,fun _ _ _=>rfl,hG,hG.size,fun k h=>(hno k h).elim,fun l h=>by cases h⟩,hok,fun _ _=>rfl,(fun i j b n m h=>by cases h),(fun id x h=>by cases h)⟩
 refine (hc.2.2 ok0 (fun _=>none) w us hi ⟨hus.1,fun i x u hx hu=>(hus.2 i x u hx hu).keep fun g hg=>⟨⟨.inl hg,hok g hg,fun id b n h=>by cases h⟩,rfl⟩⟩).mono ?_
 rintro e w' ⟨u,lv',rfl,h1,h2,_⟩
 refine ⟨u,rfl,((hf _ _ _ _ _ h2 h1).keep fun g hg=>⟨⟨?_,hg.2⟩,rfl⟩),?_⟩
 ·rcases hg.1 with h|h|h
  ·exact .inl h
  ·exact (hno g h).elim
  ·exact .inr h
 ·have hb:=h2.base
  exact ⟨hb.os,hb.tape,hb.output,hb.size,fun k hk=>hb.block k hk (hno k)⟩
theorem L_lenI (hT:TOK P T) {ti e es eb sz:Nat} {ea ag:Bool} {ez z0:List Value} {x:Operand} {id z len:Nat} {ob:LObj} (hk:T ti=some ⟨.slc e es ea eb ez,sz,ag,z0⟩) (hx:evF (look t) x=some (.ls id z len)) (hh:hlook h id=some ob)
  (hw:yaj ops (look t) ⟨some d,.call { callee:=.builtin .len,args:=#[x],argTypes:=#[ti] },ty,pos,af,gd⟩=some true) (hd:Nat.blt d N=true) (k:Lex P N ops lf Q rest (S ((d,.v (.int .i64 len))::t) h)):Lex P N ops lf Q (⟨some d,.call { callee:=.builtin .len,args:=#[x],argTypes:=#[ti] },ty,pos,af,gd⟩::rest) (S t h):=
 ycc (yvz (hT _ _ hk).2.2 hx hh) hw hd k
end
section
open Go.RowKit
variable {P:Program} {T:Nat→Option Ty} {N:Nat} {ops:Array Oper} {lf:Oper→Bool} {Q:SS→Prop} {t:List (Nat × AV)} {h:List (Nat × Option LObj)} {rest:List Oper} {d:Nat} {ty:TypeId} {pos:String} {af:Array Edge} {gd:Option (Nat × Bool)}
theorem ybr.weak {o:Oper} {s s':SS} {R:SS→Prop} (h:∀ (B:Bse) (ok0:Nat→Prop) (lv:Live) (a:Act) (w:World),Sim B ok0 N s lv a w→Sim B ok0 N s' lv a w) (k:ybr P N o s' R):ybr P N o s R:=
 fun B ok0 lv a w hs Q=>k B ok0 lv a w (h B ok0 lv a w hs) Q
theorem Sim.oneM {B:Bse} {ok0:Nat→Prop} {s:SS} {lv:Live} {a:Act} {w:World} (hs:Sim B ok0 N s lv a w) {id:Nat} {xs:List AV} (i:Nat) (hx:s.h id=some (yjd xs)):Sim B ok0 N ⟨s.t,fun j=>if j=id then some (yjd (xs.set i .one)) else s.h j⟩ lv a w:=by
 refine ⟨⟨hs.inv.base,hs.inv.ok0lt,fun j hj=>?_,hs.inv.inj,fun j x hj=>?_⟩,hs.size,hs.frame,hs.defers,hs.big,fun j b o hN hj hc hb=>?_⟩
 ·simp only at hj
  split at hj
  ·cases hj
  ·exact hs.inv.dom j hj
 ·simp only at hj
  split at hj
  ·rename_i e
   subst e
   simp only [Option.some.injEq] at hj
   subst hj
   obtain ⟨b,n,h1,h2⟩:=hs.inv.obj j _ hx
   refine ⟨b,n,h1,?_⟩
   cases b with
   | none=>rw [ymx h2];exact .inl rfl
   | some b=>
    obtain ⟨c,e,g1,g2,g3,g4,g5⟩:=yje.1 h2.2.2
    refine ⟨h2.1,h2.2.1,yje.2 ⟨c,e,g1,g2,by rw [List.length_set];exact g3,fun y hy=>?_,fun k y u hy hu=>?_⟩⟩
    ·rcases List.mem_or_eq_of_mem_set hy with hy|rfl
     ·exact g4 y hy
     ·rfl
    ·rw [List.getElem?_set] at hy
     split at hy
     ·rename_i e
      subst e
      split at hy
      ·rename_i hlt
       simp only [Option.some.injEq] at hy
       subst hy
       have hg:=List.getElem?_eq_getElem hlt
       exact .one _ ((g5 i _ u hg hu).oneCell (g4 _ (List.getElem_mem hlt)))
      ·cases hy
     ·exact g5 k y u hy hu
  ·exact hs.inv.obj j x hj
 ·simp only at hj
  split at hj
  ·simp only [Option.some.injEq] at hj
   subst hj
   rw [zez] at hc
   cases hc
  ·exact hs.pin j b o hN hj hc hb
theorem yyr {f:List (Nat × Option LObj)} {M j:Nat} {o ob:LObj} {rows:List (List AV)} (h:hlook (f++(M,some o)::yqm M 0 rows) j=some ob):hlook f j=some ob∨(j=M∧(∀ x∈f,x.1≠j)∧ob=o)∨∃ (k:Nat) (r:List AV),j=fam M k∧rows[k]?=some r∧ob=.vec r:=by
 rcases ycz f ((M,some o)::yqm M 0 rows) (j:=j) with e|⟨hne,e⟩
 ·rw [e] at h;exact .inl h
 ·rw [e] at h
  by_cases hj:j=M
  ·subst hj
   rw [ybe] at h
   cases h
   exact .inr (.inl ⟨rfl,hne,rfl⟩)
  ·rw [yap hj] at h
   by_cases hf:∃ k,j=fam M k
   ·obtain ⟨k,rfl⟩:=hf
    have:=ykw M 0 k rows
    rw [Nat.zero_add] at this
    rw [this] at h
    cases hr:rows[k]? with
    | none=>rw [hr] at h;cases h
    | some r=>rw [hr] at h;cases h;exact .inr (.inr ⟨k,r,rfl,hr,rfl⟩)
   ·rw [yjp M 0 rows fun i _ e=>hf ⟨i,e⟩] at h
    cases h
theorem zfg:∀ {l:List AV},yok.lowL l=true→∀ x∈l,yok x=true
 | y::l,h,x,hx=>by
  simp only [yok.lowL,Bool.and_eq_true] at h
  rcases List.mem_cons.1 hx with rfl|hx
  ·exact h.1
  ·exact zfg h.2 x hx
theorem matC_mem {M sz:Nat} {k:Nat} {rows:List (List AV)} {x:AV} (h:x∈yfn M sz k rows):∃ i n,x=.ls (fam M (k+i)) sz n:=by
 obtain ⟨i,hi⟩:=List.getElem?_of_mem h
 rw [yfe] at hi
 cases hr:rows[i]? with
 | none=>rw [hr] at hi;cases hi
 | some r=>rw [hr] at hi;cases hi;exact ⟨i,_,rfl⟩
theorem ment_hole {M sz i:Nat} {rows:List (List AV)} {extra:List AV} (he:yok.lowL extra=true):∀ x∈(yfn M sz 0 rows++extra).set i .one,ment (fam M i) x=false:=by
 intro x hx
 obtain ⟨j,hj⟩:=List.getElem?_of_mem hx
 rw [List.getElem?_set] at hj
 split at hj
 ·split at hj
  ·cases hj;rfl
  ·cases hj
 ·rename_i hne
  rcases List.mem_append.1 (List.mem_of_getElem? hj) with hm|hm
  ·have hlt:j < (yfn M sz 0 rows).length∨(yfn M sz 0 rows).length≤j:=by omega
   rcases hlt with hlt|hlt
   ·rw [List.getElem?_append_left hlt,yfe] at hj
    cases hr:rows[j]? with
    | none=>rw [hr] at hj;cases hj
    | some r=>
     rw [hr] at hj
     cases hj
     exact yct fun e=>hne (by have:=yrf e;omega)
   ·rw [List.getElem?_append_right hlt] at hj
    exact yok.ment (yfl M i) (zfg he x (List.mem_of_getElem? hj))
  ·exact yok.ment (yfl M i) (zfg he x hm)
theorem ybr.sub {o:Oper} {s s1 s2:SS} (h:ybr P N o s (·=s1)) (hs:Sub s2 s1):ybr P N o s (·=s2):=
 fun B ok0 lv a w h0 Q=>Oper.wp_mono (fun a' w' ⟨s',lv',e,hs'⟩=>by
  subst e
  obtain ⟨lv'',h2⟩:=hs'.weak hs
  exact ⟨s2,lv'',rfl,h2⟩) (h B ok0 lv a w h0 Q)
theorem yoi {o:Oper} {s:SS} {ti e es eb sz len M i:Nat} {ea ag:Bool} {ez z:List Value} {x y:Operand} {r:List AV} {rows news:List (List AV)} {extra:List AV} {f:List (Nat × Option LObj)} {t':Nat→Option AV} (hT:TOK P T) (ht:∀ x y,t' x=some y→y=.any∨(s.t x=some y∧ment (fam M i) y=false)) (hlt9:∀ x y,t' x=some y→∃ z,s.t x=some z) (ho:o.op=.call { callee:=.builtin .append,args:=#[x,y],argTypes:=#[ti,ti] }) (hdo:o.dst=some d) (hk:T ti=some ⟨.slc e es ea eb ez,sz,ag,z⟩) (hx:evF s.t x=some (.ls (fam M i) es len)) (hr:rows[i]?=some r) (hxl:r.length=len * es) (hy:evF s.t y=some (.sl es news))
  (hcp:∀ c∈news.flatten,yav c=true) (hlim:len+news.length≤4294967296∧(len+news.length) * eb≤140737488355328) (hsh:s.h=hlook (f++yec M es rows extra)) (hf:zkd f=true) (hM:Nat.blt M 1000000=true) (hkey:(f.all fun x=>!Nat.beq x.1 M)=true) (he:yok.lowL extra=true) (hd:Nat.blt d N=true) :
  ybr P N o s (·=⟨ydu t' (some d) (.ls (fam M i) es (len+news.length)),hlook (f++(M,some (yjd ((yfn M es 0 rows++extra).set i .one)))::yqm M 0 (rows.set i (r++news.flatten)))⟩):=by
 have hM':M < 1000000:=by simpa using hM
 have hfl:=ypn hf
 have hkn:=ykx hkey
 have hlt:=(List.getElem?_eq_some_iff.1 hr).1
 generalize hys:(yfn M es 0 rows++extra).set i .one=ys
 have hout:hlook (f++yec M es rows extra) M=some (yjd (yfn M es 0 rows++extra)):=yea hkey
 refine ybr.weak (fun B ok0 lv a w hs=>hs.oneM i (id:=M) (by rw [hsh];exact hout)) ?_
 refine yml (s':=⟨t',hlook (f++(M,some (yjd ys))::yqm M 0 (rows.set i (r++news.flatten)))⟩) hT ho hdo (by simpa using hd) hk hx ?_ hxl hy (fun ok w lv u hr=>yvy hr) hcp hlim ht hlt9 (fun j ob' hj hob=>?_) ?_
 ·simp only [if_neg (Ne.symm (yef (k:=i) hM')),hsh]
  exact yun hfl hM' hr
 ·rcases yyr hob with g|⟨rfl,hne,rfl⟩|⟨k,r',rfl,hr',rfl⟩
  ·obtain ⟨q1,q2⟩:=yju hf j _ g
   have hjM:j≠M:=fun e9=>by
    subst e9
    have:=yba f (yec j es rows extra) (j:=j) hkn
    rw [yfc (g:=yec j es rows extra) g] at this
    rw [yhb] at this
    cases this
    rcases ycz f [] (j:=j) with e|⟨hne,e⟩
    ·have h9:∀ (f:List (Nat × Option LObj)),(∀ x∈f,x.1≠j)→hlook f j=none:=fun f=>by
      induction f with
      | nil=>intro _;rfl
      | cons p f ih=>
       intro hp
       obtain ⟨p1,p2⟩:=p
       rw [yap (Ne.symm (hp (p1,p2) (by simp)))]
       exact ih fun x hx=>hp x (by simp [hx])
     rw [h9 f hkn] at g;cases g
    ·rw [List.append_nil] at e
     rw [e] at g;cases g
   refine ⟨zqc.ment (yfl M i) q1,ob',?_,.inl rfl⟩
   simp only [if_neg hjM,hsh]
   exact yfc g
  ·refine ⟨?_,_,by simp only [if_true];rfl,.inl (by rw [hys])⟩
   rw [ypo,← hys]
   exact yvu (ment_hole he)
  ·have hki:k≠i:=fun e=>hj (by rw [e])
   refine ⟨rfl,.vec r',?_,.inl rfl⟩
   simp only [if_neg (Ne.symm (yef (k:=k) hM')),hsh]
   rw [List.getElem?_set_ne (Ne.symm hki)] at hr'
   exact yun hfl hM' hr'
 ·show hlook (f++(M,some (yjd ys))::yqm M 0 (rows.set i (r++news.flatten))) (fam M i)=_
  rw [yba f _ (fun x hx e=>by have:=yfq hfl x hx;have:=yfl M i;omega),yap (Ne.symm (yef hM'))]
  have:=ykw M 0 i (rows.set i (r++news.flatten))
  rw [Nat.zero_add] at this
  rw [this,List.getElem?_set_self hlt]
  rfl
theorem zeu {f:List (Nat × Option LObj)} {M sz i n:Nat} {rows:List (List AV)} {extra r':List AV} (hf:zgi f=true) (hM:M < 1000000) (hkey:(f.all fun x=>!Nat.beq x.1 M)=true) (hi:i < rows.length) (hn:r'.length / sz=n) :
  hlook ((M,some (yjd (((yfn M sz 0 rows++extra).set i .one).set i (.ls (fam M i) sz n))))::(f++(M,some (yjd ((yfn M sz 0 rows++extra).set i .one)))::yqm M 0 (rows.set i r')))=hlook (f++yec M sz (rows.set i r') extra):=by
 have hkn:=ykx hkey
 have e:((yfn M sz 0 rows++extra).set i .one).set i (.ls (fam M i) sz n)=yfn M sz 0 (rows.set i r')++extra:=by
  rw [List.set_set,List.set_append_left _ _ (by rw [yej];exact hi)]
  congr 1
  apply List.ext_getElem?
  intro j
  rw [List.getElem?_set,yej,yfe,yfe,List.getElem?_set]
  by_cases hj:i=j
  ·subst hj
   simp [hi,hn]
  ·simp [hj]
 rw [e]
 funext j
 by_cases hj:j=M
 ·subst hj
  rw [ybe,yea hkey]
 ·rw [yap hj]
  rcases ycz f ((M,some (yjd ((yfn M sz 0 rows++extra).set i .one)))::yqm M 0 (rows.set i r')) (j:=j) with g|⟨hne,g⟩
  ·by_cases hf':∃ x∈f,x.1=j
   ·have:∀ (f:List (Nat × Option LObj)) (g1 g2:List (Nat × Option LObj)),(∃ x∈f,x.1=j)→hlook (f++g1) j=hlook (f++g2) j:=by
     intro f
     induction f with
     | nil=>rintro g1 g2 ⟨x,hx,_⟩;cases hx
     | cons p f ih=>
      intro g1 g2 hx
      obtain ⟨p1,p2⟩:=p
      by_cases hp:j=p1
      ·subst hp
       rw [List.cons_append,List.cons_append,ybe,ybe]
      ·rw [List.cons_append,List.cons_append,yap hp,yap hp]
       obtain ⟨x,hx,hxj⟩:=hx
       rcases List.mem_cons.1 hx with rfl|hx
       ·exact absurd hxj.symm hp
       ·exact ih g1 g2 ⟨x,hx,hxj⟩
    exact this f _ _ hf'
   ·have hne:∀ x∈f,x.1≠j:=fun x hx e=>hf' ⟨x,hx,e⟩
    rw [yba f _ hne,yba f _ hne,yec,yap hj,yap hj]
  ·rw [g,yba f _ hne,yec,yap hj,yap hj]
theorem yxl {c:Code} {Q:Exit→SS→Prop} {f:List (Nat × Option LObj)} (M sz n:Nat) (hf:zkd f=true) (ht:zvl t=true) (hM:Nat.blt M 1000000=true) (hkey:(f.all fun x=>!Nat.beq x.1 M)=true)
  (hh:hlook h=hlook (f++[(M,some (yjd (List.replicate n (.v (.slice none 0 0)))))])) (k:A P N c Q (S t (f++yec M sz (List.replicate n []) []))):A P N c Q (S t h):=by
 rw [show S t h=S t (f++[(M,some (yjd (List.replicate n (.v (.slice none 0 0)))))]) by unfold S;rw [hh]]
 intro B ok0 lv a w hs
 have hM':M < 1000000:=by simpa using hM
 have hfl:=ypn hf
 have hkn:=ykx hkey
 let lv':Live:=fun j=>match hlook (yqm M 0 (List.replicate n ([]:List AV))) j with|some _=>some (none,0)|none=>lv j
 have hlv:∀ j b m,lv' j=some (b,m)→(b=none∧m=0∧∃ i,j=fam M i)∨lv j=some (b,m):=by
  intro j b m hj
  simp only [lv'] at hj
  split at hj
  ·rename_i ob ho
   cases hj
   refine .inl ⟨rfl,rfl,?_⟩
   by_cases hfm:∃ k,j=fam M k
   ·exact hfm
   ·rw [yjp M 0 _ fun i _ e=>hfm ⟨i,e⟩] at ho;cases ho
  ·exact .inr hj
 have hlow:∀ j,j < 1000000→lv' j=lv j:=by
  intro j hj
  simp only [lv']
  rw [yjp M 0 _ fun i _ e=>by have:=yfl M i;omega]
 have hok:∀ g,yax B ok0 lv w g→yax B ok0 lv' w g:=fun g hg=>⟨hg.1,hg.2.1,fun j b m hj=>by
  rcases hlv j _ m hj with ⟨h,_⟩|h
  ·cases h
  ·exact hg.2.2 j b m h⟩
 have hre:∀ (x:AV) (u:Value),yok x=true→Rel (yax B ok0 lv w) w lv x u→Rel (yax B ok0 lv' w) w lv' x u:=fun x u hx hr=>
  (hr.relive fun j b m hj hm=>by
   rcases hlv j b m hj with ⟨_,_,i,rfl⟩|h
   ·rw [yok.ment (yfl M i) hx] at hm;cases hm
   ·exact h).keep fun g hg=>⟨hok g hg,rfl⟩
 have hfam:∀ i,lv (fam M i)=none:=fun i=>hs.inv.dom _ (by
  show hlook (f++_) _=none
  rw [yba f _ (fun x hx e=>by have:=yfq hfl x hx;have:=yfl M i;omega),yap (Ne.symm (yef hM'))]
  rfl)
 refine k B ok0 lv' a w ⟨⟨hs.inv.base,hs.inv.ok0lt,fun j hj=>?_,fun i j b m q h1 h2=>?_,fun j x hj=>?_⟩,hs.size,fun x y hy=>⟨(hs.frame x y hy).1,hre y _ (ysq ht x y hy) (hs.frame x y hy).2⟩,hs.defers,hs.big,fun j b o hN hj hc hb=>?_⟩
 ·simp only [S] at hj
  by_cases hfm:∃ k,j=fam M k
  ·obtain ⟨i,rfl⟩:=hfm
   rw [zcq hfl hM'] at hj
   simp only [lv']
   have e:=ykw M 0 i (List.replicate n ([]:List AV))
   rw [Nat.zero_add] at e
   rw [e,hj]
   exact hfam i
  ·have e1:lv' j=lv j:=by
    simp only [lv']
    rw [yjp M 0 _ fun i _ e=>hfm ⟨i,e⟩]
   rw [e1]
   refine hs.inv.dom j ?_
   show hlook (f++[_]) j=none
   rcases ycz f [(M,some (yjd (List.replicate n (.v (.slice none 0 0)))))] (j:=j) with e|⟨hne,e⟩
   ·rw [e]
    cases hq:hlook f j with
    | none=>rfl
    | some o=>rw [yfc (g:=yec M sz (List.replicate n []) []) hq] at hj;cases hj
   ·rw [yba f _ hne] at hj
    rw [e]
    by_cases hjM:j=M
    ·subst hjM;rw [yhb] at hj;cases hj
    ·rw [yap hjM];rfl
 ·rcases hlv i _ m h1 with ⟨h,_⟩|h1
  ·cases h
  ·rcases hlv j _ q h2 with ⟨h,_⟩|h2
   ·cases h
   ·exact hs.inv.inj i j b m q h1 h2
 ·rcases yyr hj with g|⟨rfl,hne,rfl⟩|⟨i,r,rfl,hr,rfl⟩
  ·obtain ⟨q1,q2⟩:=yju hf j _ g
   obtain ⟨b,m,h1,h2⟩:=hs.inv.obj j x (yfc g)
   refine ⟨b,m,by rw [hlow j q2];exact h1,?_⟩
   cases b with
   | none=>exact h2
   | some b=>
    refine ⟨h2.1,h2.2.1,(h2.2.2.relive fun q b m hq hm=>?_).keep (fun g hg=>⟨hok g hg,rfl⟩) rfl⟩
    rcases hlv q _ m hq with ⟨_,_,i,rfl⟩|h
    ·rw [zqc.ment (yfl M i) q1] at hm;cases hm
    ·exact h
  ·obtain ⟨b,m,h1,h2⟩:=hs.inv.obj j (yjd (List.replicate n (.v (.slice none 0 0)))) (by
    show hlook (f++[_]) j=_
    rw [yba f _ hne,ybe])
   refine ⟨b,m,by rw [hlow j hM'];exact h1,?_⟩
   rw [List.append_nil]
   cases b with
   | none=>
    have e:=ymx h2
    cases n with
    | zero=>exact .inl rfl
    | succ n=>simp [List.replicate_succ] at e
   | some b=>
    obtain ⟨c,e,g1,g2,g3,g4,g5⟩:=yje.1 h2.2.2
    refine ⟨h2.1,h2.2.1,yje.2 ⟨c,e,g1,g2,by rw [yej,List.length_replicate];rw [List.length_replicate] at g3;exact g3,fun y hy=>?_,fun q y u hy hu=>?_⟩⟩
    ·obtain ⟨i,m,rfl⟩:=matC_mem hy;rfl
    ·rw [yfe,List.getElem?_replicate] at hy
     split at hy
     ·rename_i hlt
      simp only [Option.map_some,Option.some.injEq,List.length_nil,Nat.zero_div,Nat.zero_add] at hy
      subst hy
      have h5:=yey (g5 q _ u (by rw [List.getElem?_replicate,if_pos hlt]) hu)
      subst h5
      refine .ls _ rfl fun b m hb=>?_
      have e:=ykw j 0 q (List.replicate n ([]:List AV))
      rw [Nat.zero_add,List.getElem?_replicate,if_pos hlt] at e
      simp only [lv',e,Option.map_some] at hb
      cases hb
      exact ⟨rfl,rfl⟩
     ·cases hy
  ·rw [List.getElem?_replicate] at hr
   split at hr
   ·rename_i hlt
    cases hr
    refine ⟨none,0,?_,.inl rfl⟩
    have e:=ykw M 0 i (List.replicate n ([]:List AV))
    rw [Nat.zero_add,List.getElem?_replicate,if_pos hlt] at e
    simp only [lv',e,Option.map_some]
   ·cases hr
 ·rcases yyr hj with g|⟨rfl,hne,rfl⟩|⟨i,r,rfl,hr,rfl⟩
  ·obtain ⟨m,hm⟩:=hs.pin j b o hN (yfc g) hc hb
   exact ⟨m,by rw [hlow j (yju hf j _ g).2];exact hm⟩
  ·rw [zez] at hc;cases hc
  ·cases hc
end
section
open Go.RowKit
section
variable {P:Program} {N:Nat} {ops:Array Oper} {lf:Oper→Bool} {Q:SS→Prop}
structure TwoI (vals:List (Nat × Nat × AV)) (base:List (Nat × AV)) (mem:List (Nat × LObj)) (a b ia ib ja jb:Nat) (za zb ca cb:LObj) (L:Nat→Bool) (s:SS):Prop where
 calm:∀ x∈vals,L x.1=true→s.t x.2.1=some x.2.2
 base:∀ x∈base,s.t x.1=some x.2
 mem:∀ x∈mem,s.h x.1=some x.2
 fa:L ia=false→ylg s a
 fb:L ib=false→ylg s b
 ta:L ia=true→s.t a=some (.lp a 0)
 tb:L ib=true→s.t b=some (.lp b 0)
 ha:L ia=true→s.h a=some (if L ja then ca else za)
 hb:L ib=true→s.h b=some (if L jb then cb else zb)
 oa:L ja=true→L ia=true
 ob:L jb=true→L ib=true
variable {vals:List (Nat × Nat × AV)} {base:List (Nat × AV)} {mem:List (Nat × LObj)} {a b ia ib ja jb:Nat} {za zb ca cb:LObj} {L:Nat→Bool} {s:SS}
theorem TwoI.swap (h:TwoI vals base mem a b ia ib ja jb za zb ca cb L s):TwoI vals base mem b a ib ia jb ja zb za cb ca L s:=⟨h.calm,h.base,h.mem,h.fb,h.fa,h.tb,h.ta,h.hb,h.ha,h.ob,h.oa⟩
theorem aOp_calm {K:SS→Prop} {i:Nat} {o:Oper} {r:AV} (ho:ops[i]?=some o) (hd:ytr N o) (hg:o.guard=none) (hy:ybo P s.h (evF s.t) o.op o.type r) (k:K ⟨ydu s.t o.dst r,s.h⟩):aOp P N ops lf i K s:=by
 unfold aOp
 simp only [ho]
 refine ⟨hd,.inl ⟨r,.inl ⟨?_,hy⟩,k⟩⟩
 unfold yaj
 rw [hg]
theorem aOp_loud {K:SS→Prop} {i:Nat} {o:Oper} {s':SS} (ho:ops[i]?=some o) (hd:ytr N o) (hg:o.guard=none) (hl:lf o=true) (hy:ybr P N o s (·=s')) (k:K s'):aOp P N ops lf i K s:=by
 unfold aOp
 simp only [ho]
 refine ⟨hd,.inr ⟨hl,?_,_,hy,fun s2 e=>e ▸ k⟩⟩
 unfold yaj
 rw [hg]
def zgu:Nat→List Oper→Bool
 | _,[]=>true
 | k,o::l=>(o.after.toList.all fun e=>!(Region.binds .any e) || Nat.blt e.on k) && zgu (k+1) l
theorem yxu:∀ {l:List Oper} {j:Nat},zgu j l=true→∀ (k:Nat) (o:Oper),l[k]?=some o→∀ e∈o.after,Region.binds .any e=true→e.on < j+k
 | [],j,_,k,o,ho,_,_,_=>by simp at ho
 | o1::l,j,h,0,o,ho,e,he,hb=>by
  simp only [List.getElem?_cons_zero,Option.some.injEq] at ho
  subst ho
  simp only [zgu,Bool.and_eq_true,List.all_eq_true] at h
  have:=h.1 e (by simpa using he)
  simpa [hb] using this
 | o1::l,j,h,k+1,o,ho,e,he,hb=>by
  simp only [List.getElem?_cons_succ] at ho
  simp only [zgu,Bool.and_eq_true] at h
  have:=yxu h.2 k o ho e he hb
  omega
theorem znk:∀ {t:List (Nat × AV)} {x:Nat} {y:AV},look t x=some y→(x,y)∈t
 | [],x,y,h=>by simp [look] at h
 | (a,b)::t,x,y,h=>by
  simp only [look] at h
  cases hb:Nat.beq x a with
  | true=>
   rw [hb] at h
   simp only [Option.some.injEq] at h
   subst h
   rw [Nat.eq_of_beq_eq_true hb];simp
  | false=>rw [hb] at h;exact List.mem_cons_of_mem _ (znk h)
end
end
section
open Go.RowKit
variable {P:Program} {N:Nat} {ops:Array Oper} {lf:Oper→Bool} {Q:SS→Prop}
def yis (hs:List Nat) (t:Nat→Option AV):Nat→Option AV:=fun x=>match yky x hs with|true=>(t x).map fun _=>.any|false=>t x
def zpi (hs:List Nat):List (Nat × AV)→List (Nat × AV)
 | []=>[]
 | (x,y)::t=>(x,match yky x hs with|true=>.any|false=>y)::zpi hs t
theorem zih {hs:List Nat}:∀ t:List (Nat × AV),look (zpi hs t)=yis hs (look t)
 | []=>by funext z;simp only [zpi,yis,look];split <;> rfl
 | (x,y)::t=>by
  have ih:=zih (hs:=hs) t
  funext z
  simp only [zpi,look]
  by_cases hz:z=x
  ·subst hz
   simp only [yis,Nat.beq_refl]
   split <;> rfl
  ·rw [show Nat.beq z x=false from yct hz]
   simp only [ih,yis,show Nat.beq z x=false from yct hz]
def znl (okA:AV→Bool) (hs:List Nat):List (Nat × AV)→Bool
 | []=>true
 | (x,y)::t=>(match yky x hs with|true=>true|false=>okA y) && znl okA hs t
theorem yzf {okA:AV→Bool} {hs:List Nat}:∀ {t:List (Nat × AV)},znl okA hs t=true→∀ x y,look t x=some y→yky x hs=false→okA y=true
 | [],_,x,y,h,_=>by simp [look] at h
 | (a,b)::t,hl,x,y,h,hm=>by
  simp only [znl,Bool.and_eq_true] at hl
  simp only [look] at h
  by_cases hx:x=a
  ·subst hx
   rw [Nat.beq_refl] at h
   cases h
   rw [hm] at hl
   exact hl.1
  ·rw [show Nat.beq x a=false from yct hx] at h
   exact yzf hl.2 x y h hm
def zbj (base:List (Nat × AV)) (A:List (Nat × Nat × AV)) (L:Nat→Bool):Nat→Option AV:=fun x=>match A.find? (fun v=>Nat.beq v.2.1 x && L v.1) with|some v=>some v.2.2|none=>look base x
def zwv (tl:List (Nat × AV)) (op:Op):Bool:=op.operands.toList.all fun x=>match x with
 | .tmp s=>(match look tl s with|some _=>Nat.blt s 1000000|none=>false)
 | _=>true
def zfy (T:Nat→Option Ty) (t:List (Nat × AV)) (h:List (Nat × Option LObj)) (op:Op) (ty:TypeId):Option AV:=match op with
 | .nilCheck x=>(match evF (look t) x with
  | some (.lp id off)=>(match yqj (hlook h id) with|some _=>some (.lp id off)|none=>none)
  | some (.dp r o)=>some (.dp r o)
  | _=>none)
 | .indexAddr ti x y=>(match evF (look t) x,evF (look t) y with
  | some (.sl es rows),some (.v (.int _ i))=>(match T ti with
   | some ⟨.slc _ es' _ _ _,_,_,_⟩=>(match Nat.beq es' es && decide (0≤i) with
    | true=>(match rows[i.toNat]? with
     | some row=>some (.dp row 0)
     | none=>none)
    | false=>none)
   | _=>none)
  | _,_=>yqd T t h (.indexAddr ti x y) ty)
 | op=>yqd T t h op ty
theorem ync {T:Nat→Option Ty} {t:List (Nat × AV)} {h:List (Nat × Option LObj)} {ti e es eb sz:Nat} {ea ag:Bool} {ez z:List Value} {x y:Operand} {ty:TypeId} {k:IntKind} {i:Int} {rows:List (List AV)} {row:List AV} (hk:T ti=some ⟨.slc e es ea eb ez,sz,ag,z⟩) (hx:evF (look t) x=some (.sl es rows)) (hy:evF (look t) y=some (.v (.int k i))) (h0:0≤i) (hr:rows[i.toNat]?=some row):zfy T t h (.indexAddr ti x y) ty=some (.dp row 0):=by
 simp only [zfy,hk,hx,hy,hr,h0,Nat.beq_refl,decide_true,Bool.and_self]
theorem stepN_sound {T:Nat→Option Ty} (hT:TOK P T) {t:List (Nat × AV)} {h:List (Nat × Option LObj)} {op:Op} {ty:TypeId} {r:AV} (hr:zfy T t h op ty=some r):ybo P (hlook h) (evF (look t)) op ty r:=by
 unfold zfy at hr
 split at hr
 ·split at hr
  ·rename_i id off hx
   split at hr
   ·rename_i xs hc
    cases hr
    exact yld hx hc
   ·cases hr
  ·rename_i hx
   cases hr
   exact ykd hx
  ·cases hr
 ·split at hr
  ·rename_i hx hy
   split at hr
   ·rename_i hk
    split at hr
    ·rename_i hb
     simp only [Bool.and_eq_true,decide_eq_true_eq] at hb
     split at hr
     ·rename_i hrow
      cases hr
      obtain rfl:=Nat.eq_of_beq_eq_true hb.1
      exact ylc (hT _ _ hk).2.2 hx hy hb.2 hrow
     ·cases hr
    ·cases hr
   ·cases hr
  ·exact yka hT hr
 ·exact yka hT hr
theorem zaz {T:Nat→Option Ty} (hT:TOK P T) {t:Nat→Option AV} {tl:List (Nat × AV)} {h:List (Nat × Option LObj)} {op:Op} {ty:TypeId} {r:AV} (ht:∀ x y,look tl x=some y→t x=some y) (hr:zfy T tl h op ty=some r) (hk:zwv tl op=true):ybo P (hlook h) (evF t) op ty r:=by
 refine (stepN_sound hT hr).congr fun x hx=>?_
 have:=List.all_eq_true.1 hk x (by simpa using hx)
 cases x with
 | tmp s=>
  simp only at this
  split at this
  ·rename_i y hy
   simp only [evF]
   split
   ·rw [ht s y hy,hy]
   ·rfl
  ·cases this
 | _=>rfl
def zgn (T:Nat→Option Ty) (ops:Array Oper) (okA:AV→Bool) (req:List (Nat × AV)) (A0:List (Nat × Nat × AV)) (h0 h1:List (Nat × Option LObj)) (hs:List Nat) (base:List (Nat × AV)):List (Nat × Nat × AV)→Prop
 | []=>True
 | a::A=>(∃ (o:Oper) (tl:List (Nat × AV)),ops[a.1]?=some o∧o.dst=some a.2.1∧o.guard=none∧tl=((A0.filter fun b=>yix ops ops.size a.1 b.1).map fun b=>b.2)++req∧zfy T tl h0 o.op o.type=some a.2.2∧zfy T tl h1 o.op o.type=some a.2.2∧zwv tl o.op=true∧yky a.2.1 hs=false∧okA a.2.2=true∧look base a.2.1=none)∧zgn T ops okA req A0 h0 h1 hs base A
theorem zgn.get {T:Nat→Option Ty} {okA:AV→Bool} {req:List (Nat × AV)} {A0:List (Nat × Nat × AV)} {h0 h1:List (Nat × Option LObj)} {hs:List Nat} {base:List (Nat × AV)}:∀ {A:List (Nat × Nat × AV)},zgn T ops okA req A0 h0 h1 hs base A→∀ a∈A,∃ (o:Oper) (tl:List (Nat × AV)),ops[a.1]?=some o∧o.dst=some a.2.1∧o.guard=none∧tl=((A0.filter fun b=>yix ops ops.size a.1 b.1).map fun b=>b.2)++req∧zfy T tl h0 o.op o.type=some a.2.2∧zfy T tl h1 o.op o.type=some a.2.2∧zwv tl o.op=true∧yky a.2.1 hs=false∧okA a.2.2=true∧look base a.2.1=none
 | [],_,a,h=>by cases h
 | b::A,hA,a,h=>by
  rcases List.mem_cons.1 h with rfl|h
  ·exact hA.1
  ·exact zgn.get hA.2 a h
def zqr (base:List (Nat × AV)) (hs:List Nat) (d:Nat):List (Nat × AV)→Prop
 | []=>True
 | (x,y)::r=>(look base x=some y∧yky x hs=false∧Nat.beq x d=false)∧zqr base hs d r
theorem zqr.get {base:List (Nat × AV)} {hs:List Nat} {d:Nat}:∀ {r:List (Nat × AV)},zqr base hs d r→∀ x y,(x,y)∈r→look base x=some y∧yky x hs=false∧x≠d
 | [],_,x,y,h=>by cases h
 | (u,v)::r,hr,x,y,h=>by
  rcases List.mem_cons.1 h with e|h
  ·cases e
   exact ⟨hr.1.1,hr.1.2.1,fun e=>by have:=hr.1.2.2;rw [e,Nat.beq_refl] at this;cases this⟩
  ·exact zqr.get hr.2 x y h
theorem beqN {a b:Nat} (h:Nat.beq a b=true):a=b:=Nat.eq_of_beq_eq_true h
section
variable {base:List (Nat × AV)} {A:List (Nat × Nat × AV)} {L:Nat→Bool}
theorem zgd (hb:∀ a∈A,look base a.2.1=none) {x:Nat} {y:AV} (h:look base x=some y):zbj base A L x=some y:=by
 unfold zbj
 split
 ·rename_i v hv
  have h1:=List.mem_of_find?_eq_some hv
  have h2:=List.find?_some hv
  simp only [Bool.and_eq_true] at h2
  have:=hb v h1
  rw [beqN h2.1,h] at this
  cases this
 ·exact h
theorem find_nd (hd:(A.map (·.2.1)).Nodup) {a:Nat × Nat × AV} (ha:a∈A) (hL:L a.1=true):A.find? (fun v=>Nat.beq v.2.1 a.2.1 && L v.1)=some a:=by
 induction A with
 | nil=>cases ha
 | cons b A ih=>
  rw [List.map_cons,List.nodup_cons] at hd
  rw [List.find?_cons]
  rcases List.mem_cons.1 ha with rfl|ha
  ·simp [hL]
  ·have hne:b.2.1≠a.2.1:=fun e=>hd.1 (by rw [e];exact List.mem_map.2 ⟨a,ha,rfl⟩)
   rw [show Nat.beq b.2.1 a.2.1=false from yct hne]
   simp only [Bool.false_and]
   exact ih hd.2 ha
theorem zts (hd:(A.map (·.2.1)).Nodup) {a:Nat × Nat × AV} (ha:a∈A) (hL:L a.1=true):zbj base A L a.2.1=some a.2.2:=by
 unfold zbj
 rw [find_nd hd ha hL]
theorem ztr (hd:(A.map (·.2.1)).Nodup) (hi:(A.map (·.1)).Nodup) {a:Nat × Nat × AV} (ha:a∈A):zbj base A (fun k=>if k=a.1 then true else L k)=ydu (zbj base A L) (some a.2.1) a.2.2:=by
 funext x
 simp only [ydu]
 by_cases hx:x=a.2.1
 ·subst hx
  rw [if_pos rfl]
  exact zts hd ha (by simp)
 ·rw [if_neg hx]
  unfold zbj
  have:∀ l:List (Nat × Nat × AV),(∀ b∈l,b∈A)→l.find? (fun v=>Nat.beq v.2.1 x && (if v.1=a.1 then true else L v.1))=l.find? (fun v=>Nat.beq v.2.1 x && L v.1):=by
   intro l hl
   induction l with
   | nil=>rfl
   | cons b l ih=>
    rw [List.find?_cons,List.find?_cons,ih fun c hc=>hl c (by simp [hc])]
    by_cases hb:b.1=a.1
    ·have hba:b=a:=by
      have h1:=hl b (by simp)
      obtain ⟨i,hi1⟩:=List.getElem?_of_mem h1
      obtain ⟨j,hj1⟩:=List.getElem?_of_mem ha
      have hlt:=(List.getElem?_eq_some_iff.1 hi1).1
      have:=(List.getElem?_inj (i:=i) (j:=j) (by simpa using hlt) hi).1 (by rw [List.getElem?_map,List.getElem?_map,hi1,hj1];simp [hb])
      subst this
      rw [hi1] at hj1
      exact Option.some.inj hj1
     subst hba
     rw [show Nat.beq b.2.1 x=false from yct (Ne.symm hx)]
     rfl
    ·rw [if_neg hb]
  rw [this A fun b hb=>hb]
theorem tbl_all (hL:∀ a∈A,L a.1=true):zbj base A L=look (A.map (fun a=>a.2)++base):=by
 funext x
 unfold zbj
 induction A with
 | nil=>rfl
 | cons a A ih=>
  rw [List.find?_cons,hL a (by simp),Bool.and_true,List.map_cons,List.cons_append]
  have ih:=ih fun b hb=>hL b (by simp [hb])
  obtain ⟨i,q,v⟩:=a
  simp only [look]
  by_cases hx:x=q
  ·subst hx;simp
  ·rw [show Nat.beq q x=false from yct (Ne.symm hx),show Nat.beq x q=false from yct hx]
   exact ih
theorem hide_upd {hs:List Nat} {d:Nat} {t:Nat→Option AV} {v:AV} (hv:yky d hs=false):yis hs (ydu t (some d) v)=ydu (yis hs t) (some d) v:=by
 funext x
 by_cases hx:x=d
 ·subst hx;simp [yis,ydu,hv]
 ·simp [yis,ydu,hx]
theorem zhx {hs:List Nat} {t:Nat→Option AV} {x:Nat} {v:AV} (h:t x=some v) (hv:yky x hs=false):yis hs t x=some v:=by simp [yis,h,hv]
theorem zev {okA:AV→Bool} {hs:List Nat} {t:Nat→Option AV} (h:∀ x y,t x=some y→yky x hs=false→okA y=true) {x:Nat} {y:AV} (hx:yis hs t x=some y):y=.any∨(t x=some y∧okA y=true):=by
 simp only [yis] at hx
 split at hx
 ·cases ht:t x with
  | none=>rw [ht] at hx;cases hx
  | some u=>rw [ht] at hx;cases hx;exact .inl rfl
 ·rename_i hm;exact .inr ⟨hx,h x y hx hm⟩
theorem yys {hs:List Nat} {t:Nat→Option AV} {x:Nat} {y:AV} (hx:yis hs t x=some y):∃ z,t x=some z:=by
 simp only [yis] at hx
 split at hx
 ·cases ht:t x with
  | none=>rw [ht] at hx;cases hx
  | some u=>exact ⟨u,rfl⟩
 ·exact ⟨y,hx⟩
end
theorem zsj:∀ {l:List Nat} {listed:Array Bool} {k:Nat},(yhu l listed).getD k false=true→listed.getD k false=true∨k∈l
 | [],listed,k,h=>.inl h
 | x::l,listed,k,h=>by
  rcases zsj (l:=l) h with h|h
  ·by_cases hx:x=k
   ·exact .inr (by simp [hx])
   ·refine .inl ?_
    rw [Array.getD_eq_getD_getElem?,Array.getElem?_setIfInBounds,if_neg hx] at h
    rw [Array.getD_eq_getD_getElem?];exact h
  ·exact .inr (by simp [h])
theorem zlx:∀ {l:List Nat} {listed:Array Bool},(yhu l listed).size=listed.size
 | [],_=>rfl
 | x::l,listed=>by rw [yhu,zlx,Array.size_setIfInBounds]
theorem zkl:∀ {l:List Nat} {listed:Array Bool} {k:Nat},(listed.getD k false=true∨(k∈l∧k < listed.size))→(yhu l listed).getD k false=true
 | [],listed,k,h=>by
  rcases h with h|h
  ·exact h
  ·cases h.1
 | x::l,listed,k,h=>by
  refine zkl (l:=l) ?_
  by_cases hx:x=k
  ·subst hx
   left
   rcases h with h|h
   ·rw [Array.getD_eq_getD_getElem?,Array.getElem?_setIfInBounds,if_pos rfl]
    rw [Array.getD_eq_getD_getElem?] at h
    by_cases hs:x < listed.size
    ·rw [if_pos hs];rfl
    ·rw [Array.getElem?_eq_none (by omega)] at h;cases h
   ·rw [Array.getD_eq_getD_getElem?,Array.getElem?_setIfInBounds,if_pos rfl,if_pos h.2];rfl
  ·rcases h with h|h
   ·left
    rw [Array.getD_eq_getD_getElem?,Array.getElem?_setIfInBounds,if_neg hx]
    rw [Array.getD_eq_getD_getElem?] at h
    exact h
   ·right
    rw [Array.size_setIfInBounds]
    exact ⟨by simpa [Ne.symm hx] using h.1,h.2⟩
theorem arr_extD {a b:Array Bool} (hs:a.size=b.size) (h:∀ k,k < a.size→a.getD k false=b.getD k false):a=b:=by
 apply Array.ext hs
 intro i h1 h2
 have:=h i h1
 rw [Array.getD_eq_getD_getElem?,Array.getD_eq_getD_getElem?,Array.getElem?_eq_getElem h1,Array.getElem?_eq_getElem h2] at this
 simpa using this
def zic (W:List Nat) (L:Nat→Bool):Nat:=(W.filter fun k=>!L k).length
theorem left_zero {W:List Nat} {L:Nat→Bool} (h:zic W L=0):∀ k∈W,L k=true:=fun k hk=>by
 have:=List.filter_eq_nil_iff.1 (List.eq_nil_of_length_eq_zero h) k hk
 simpa using this
theorem left_pos {W:List Nat} {L:Nat→Bool} {n:Nat} (h:zic W L=n+1):∃ k∈W,L k=false:=by
 unfold zic at h
 obtain ⟨k,l,e⟩:=List.exists_cons_of_length_eq_add_one h
 have:k∈W.filter fun k=>!L k:=by rw [e];simp
 obtain ⟨h1,h2⟩:=List.mem_filter.1 this
 exact ⟨k,h1,by simpa using h2⟩
theorem left_set {W:List Nat} {L:Nat→Bool} (hnd:W.Nodup) {i:Nat} (hi:i∈W) (hL:L i=false):zic W (fun k=>if k=i then true else L k)+1=zic W L:=by
 unfold zic
 induction W with
 | nil=>cases hi
 | cons b W ih=>
  rw [List.nodup_cons] at hnd
  rcases List.mem_cons.1 hi with rfl|hi
  ·have:W.filter (fun k=>!(if k=i then true else L k))=W.filter fun k=>!L k:=List.filter_congr fun k hk=>by
    have:k≠i:=fun e=>hnd.1 (e ▸ hk)
    simp [this]
   rw [List.filter_cons_of_neg (by simp),this,List.filter_cons_of_pos (by simp [hL]),List.length_cons]
  ·have hb:b≠i:=fun e=>hnd.1 (e ▸ hi)
   have:=ih hnd.2 hi
   cases hb2:L b with
   | true=>
    rw [List.filter_cons_of_neg (by simp [hb,hb2]),List.filter_cons_of_neg (by simp [hb2])]
    exact this
   | false=>
    rw [List.filter_cons_of_pos (by simp [hb,hb2]),List.filter_cons_of_pos (by simp [hb2]),List.length_cons,List.length_cons,this]
def postOk (ops:Array Oper) (listed:Array Bool) (W:List Nat):Bool:=(List.range ops.size).all fun i=>listed.getD i false || yky i W || W.all fun w=>yix ops ops.size i w
theorem znb {t:Nat→Option AV}:yis [] t=t:=rfl
theorem make_late {T:Nat→Option Ty} (hT:TOK P T) {o:Oper} {ti e es eb sz d:Nat} {ea ag:Bool} {ez z:List Value} {x y:Operand} {m:Nat} {t:Nat→Option AV} {h:List (Nat × Option LObj)} (id:Nat) (hl:∀ x y,t x=some y→yky x []=false→(!ment id y)=true) (ho:o.op=.makeSlice ti x y) (hd:o.dst=some d) (hdN:Nat.blt d N=true) (hk:T ti=some ⟨.slc e es ea eb ez,sz,ag,z⟩) (hone:ez.all Value.oneCell'=true)
  (hx:evF t x=some (.v (.int .i64 m))) (hy:evF t y=some (.v (.int .i64 m))) (hm:m≤4294967296∧eb * m≤281474976710656) (h2:ybp id h=true):ybr P N o ⟨t,hlook h⟩ (·=⟨ydu (yis [] t) (some d) (.ls id es m),hlook ((id,some (.vec (yna m (ykq ez))))::h)⟩):=by
 have hf:=ygy (t:=[]) (id:=id) rfl h2
 rw [znb,← ypk]
 exact yss hT ho hd (by simpa using hdN) id hk hone hx hy hm ⟨hf.1,fun x y hx=>by simpa using hl x y hx rfl,hf.2.2⟩
theorem yrz {T:Nat→Option Ty} (hT:TOK P T) (okA:AV→Bool) (A:List (Nat × Nat × AV)) (j d:Nat) (hs:List Nat) (z:AV) {oj:Oper} {base req:List (Nat × AV)} {h0 h1:List (Nat × Option LObj)} (fuel:Nat) {n:Nat} {listed:Array Bool}
  (hn:n=fuel+(A.length+1)) (hsz:listed.size=ops.size) (hbk:zgu 0 ops.toList=true) (hW:yeb (j::A.map (·.1))=true) (hdn:yeb (A.map (·.2.1))=true) (hfree:((j::A.map (·.1)).all fun k=>!listed.getD k false)=true) (hpost:postOk ops listed (j::A.map (·.1))=true)
  (hd:(A.all fun a=>!Nat.beq a.2.1 d)=true) (hreq:zqr base hs d req) (hbl:znl okA hs base=true) (hA:zgn T ops okA req A h0 h1 hs base A) (hoj:ops[j]?=some oj) (hgj:oj.guard=none) (hlj:lf oj=true)
  (hloud:∀ t:Nat→Option AV,(∀ x y,look base x=some y→t x=some y)→(∀ x y,t x=some y→yky x hs=false→okA y=true)→ybr P N oj ⟨t,hlook h0⟩ (·=⟨ydu (yis hs t) (some d) z,hlook h1⟩))
  (k:ztw P N ops lf Q fuel (yhu (j::A.map (·.1)) listed) (S ((d,z)::zpi hs (A.map (fun a=>a.2)++base)) h1)):ztw P N ops lf Q n listed (S base h0):=by
 intro hDst hcl
 have hback:∀ (k:Nat) (o:Oper),ops[k]?=some o→∀ e∈o.after,Region.binds .any e=true→e.on < k:=fun k o ho e he hb=>by
  have:=yxu hbk k o (by simpa using ho) e he hb;omega
 have hWn:(j::A.map (·.1)).Nodup:=ymv hW
 have hdN:(A.map (·.2.1)).Nodup:=ymv hdn
 have hiN:(A.map (·.1)).Nodup:=(List.nodup_cons.1 hWn).2
 have hjA:∀ a∈A,a.1≠j:=fun a ha e=>(List.nodup_cons.1 hWn).1 (List.mem_map.2 ⟨a,ha,e⟩)
 have hbn:∀ a∈A,look base a.2.1=none:=fun a ha=>by
  obtain ⟨_,_,_,_,_,_,_,_,_,_,_,h⟩:=hA.get a ha;exact h
 have hdA:∀ a∈A,a.2.1≠d:=fun a ha e=>by
  have:=List.all_eq_true.1 hd a ha
  rw [e,Nat.beq_refl] at this;cases this
 generalize hWe:j::A.map (·.1)=W at *
 have hWj:j∈W:=by rw [← hWe];simp
 have hWA:∀ a∈A,a.1∈W:=fun a ha=>by rw [← hWe];simp;exact .inr ⟨_,_,ha⟩
 have hWc:∀ i∈W,i=j∨∃ a∈A,a.1=i:=fun i hi=>by
  rw [← hWe] at hi
  rcases List.mem_cons.1 hi with h|h
  ·exact .inl h
  ·obtain ⟨a,ha,e⟩:=List.mem_map.1 h
   exact .inr ⟨a,ha,e⟩
 have hlen:W.length=A.length+1:=by rw [← hWe];simp
 have hWs:∀ i∈W,i < listed.size:=fun i hi=>by
  rw [hsz]
  rcases hWc i hi with rfl|⟨a,ha,rfl⟩
  ·exact (Array.getElem?_eq_some_iff.1 hoj).1
  ·obtain ⟨o,_,ho,_⟩:=hA.get a ha
   exact (Array.getElem?_eq_some_iff.1 ho).1
 -- the states
 let st:(Nat→Bool)→SS:=fun L=>if L j then ⟨ydu (yis hs (zbj base A L)) (some d) z,hlook h1⟩ else ⟨zbj base A L,hlook h0⟩
 have main:∀ (r:Nat) (L:Nat→Bool) (lst:Array Bool),zic W L=r→lst.size=listed.size→yqf ops lst→(∀ i,i < listed.size→lst.getD i false=(listed.getD i false || (yky i W && L i)))→zqu P N ops lf Q (fuel+r) lst (st L):=by
  intro r
  induction r with
  | zero=>
   intro L lst hr hsz2 hc hlst
   have hall:=left_zero hr
   have e1:lst=yhu W listed:=arr_extD (by rw [zlx,hsz2]) fun i hi=>by
    rw [hsz2] at hi
    rw [hlst i hi]
    by_cases hiW:i∈W
    ·rw [ydc.2 hiW,hall i hiW,zkl (.inr ⟨hiW,hi⟩)];simp
    ·rw [show yky i W=false by rw [← Bool.not_eq_true,ydc];exact hiW]
     simp only [Bool.false_and,Bool.or_false]
     cases hb:listed.getD i false with
     | true=>exact (zkl (.inl hb)).symm
     | false=>
      cases hb2:(yhu W listed).getD i false with
      | false=>rfl
      | true=>
       rcases zsj hb2 with h|h
       ·rw [hb] at h;cases h
       ·exact absurd h hiW
   have e2:st L=S ((d,z)::zpi hs (A.map (fun a=>a.2)++base)) h1:=by
    simp only [st,hall j hWj,if_true]
    rw [tbl_all fun a ha=>hall _ (hWA a ha),← zih,ydb]
    rfl
   rw [e1,e2]
   exact k hDst (e1 ▸ hc)
  | succ r ih=>
   intro L lst hr hsz2 hc hlst
   obtain ⟨w0,hw0,hL0⟩:=left_pos hr
   have hget:∀ i,i < ops.size→lst[i]?=some (lst.getD i false):=fun i hi=>by
    rw [Array.getD_eq_getD_getElem?,Array.getElem?_eq_getElem (show i < lst.size by omega)];rfl
   -- the one that runs is one of these
   have key:∀ i∈Region.ready .any ops lst,i∈W∧L i=false:=by
    intro i hi
    obtain ⟨g1,o,ho,g2⟩:=mem_ready.1 hi
    have hlt:=(Array.getElem?_eq_some_iff.1 ho).1
    have hf:lst.getD i false=false:=by
     rw [Array.getD_eq_getD_getElem?,hget i hlt] at g1
     simpa using g1
    have hf2:=hlst i (by omega)
    rw [hf] at hf2
    have hf2:=Bool.or_eq_false_iff.1 hf2.symm
    have hp:=List.all_eq_true.1 hpost i (List.mem_range.2 hlt)
    rw [hf2.1,Bool.false_or,Bool.or_eq_true] at hp
    rcases hp with hp|hp
    ·rw [hp,Bool.true_and] at hf2
     exact ⟨ydc.1 hp,hf2.2⟩
    ·exfalso
     have h1:=List.all_eq_true.1 hp w0 hw0
     have h2:=yks hc _ _ _ o ho g2 h1
     rw [hlst w0 (hWs w0 hw0),ydc.2 hw0,hL0] at h2
     have h3:=List.all_eq_true.1 hfree w0 hw0
     rw [Bool.and_false,Bool.or_false] at h2
     rw [h2] at h3;cases h3
   refine ⟨fun hnil=>?_,fun i hi=>?_⟩
   ·exfalso
    have hall:∀ i,i < ops.size→lst.getD i false=true:=by
     intro i
     induction i using Nat.strongRecOn with
     | _ i ih2=>
      intro hi
      cases hb:lst.getD i false with
      | true=>rfl
      | false=>
       have ho:ops[i]?=some (ops[i]'hi):=Array.getElem?_eq_getElem hi
       have:i∈Region.ready .any ops lst:=mem_ready.2 ⟨by rw [Array.getD_eq_getD_getElem?,hget i hi,hb];rfl,_,ho,fun e he hbd=>by
        have h9:=hback i _ ho e he hbd
        exact ih2 e.on h9 (by omega)⟩
       rw [hnil] at this
       cases this
    have h2:=hall w0 (by rw [← hsz];exact hWs w0 hw0)
    rw [hlst w0 (hWs w0 hw0),ydc.2 hw0,hL0] at h2
    have h3:=List.all_eq_true.1 hfree w0 hw0
    rw [Bool.and_false,Bool.or_false] at h2
    rw [h2] at h3;cases h3
   ·obtain ⟨hiW,hiL⟩:=key i hi
    have hc':=hc.set hi
    have hnext:=ih (fun k=>if k=i then true else L k) (lst.setIfInBounds i true) (by have:=left_set hWn hiW hiL;omega) (by rw [Array.size_setIfInBounds];exact hsz2) hc' (fun q hq=>by
     rw [Array.getD_eq_getD_getElem?,Array.getElem?_setIfInBounds]
     by_cases hqi:i=q
     ·subst hqi
      rw [if_pos rfl,if_pos (by omega),ydc.2 hiW];simp
     ·rw [if_neg hqi,if_neg (fun e=>hqi e.symm),← hlst q hq,Array.getD_eq_getD_getElem?])
    rcases hWc i hiW with rfl|⟨a,ha,rfl⟩
    ·refine aOp_loud hoj (hDst _ _ hoj) hgj hlj (s':=st fun k=>if k=i then true else L k) ?_ hnext
     have e1:st L=⟨zbj base A L,hlook h0⟩:=by simp only [st,hiL];rfl
     have e2:st (fun k=>if k=i then true else L k)=⟨ydu (yis hs (zbj base A L)) (some d) z,hlook h1⟩:=by
      simp only [st,if_true]
      have:zbj base A (fun k=>if k=i then true else L k)=zbj base A L:=by
       funext x
       unfold zbj
       have:∀ l:List (Nat × Nat × AV),(∀ b∈l,b∈A)→l.find? (fun v=>Nat.beq v.2.1 x && (if v.1=i then true else L v.1))=l.find? (fun v=>Nat.beq v.2.1 x && L v.1):=by
        intro l hl
        induction l with
        | nil=>rfl
        | cons b l ih=>rw [List.find?_cons,List.find?_cons,ih fun c hc=>hl c (by simp [hc]),if_neg (hjA b (hl b (by simp)))]
       rw [this A fun b hb=>hb]
      rw [this]
     rw [e1,e2]
     refine hloud _ (fun x y hx=>zgd hbn hx) fun x y hx hm=>?_
     unfold zbj at hx
     split at hx
     ·rename_i v hv
      cases hx
      obtain ⟨_,_,_,_,_,_,_,_,_,_,hlw,_⟩:=hA.get v (List.mem_of_find?_eq_some hv)
      exact hlw
     ·exact yzf hbl x y hx hm
    ·obtain ⟨o,tl,ho,hod,hog,htl,hr0,hr1,hkn,hm,_,_⟩:=hA.get a ha
     obtain ⟨_,o2,ho2,g2⟩:=mem_ready.1 hi
     rw [ho] at ho2
     cases ho2
     -- the operands stand where they should
     have hdep:∀ b∈A,yix ops ops.size a.1 b.1=true→L b.1=true:=fun b hb hw=>by
      have h2:=yks hc _ _ _ o ho g2 hw
      rw [hlst b.1 (hWs _ (hWA b hb)),ydc.2 (hWA b hb),Bool.true_and] at h2
      have h3:=List.all_eq_true.1 hfree b.1 (hWA b hb)
      cases hlb:listed.getD b.1 false with
      | true=>rw [hlb] at h3;cases h3
      | false=>rw [hlb,Bool.false_or] at h2;exact h2
     have hmem:∀ x y,look tl x=some y→(∃ b∈A,L b.1=true∧b.2=(x,y))∨(x,y)∈req:=fun x y hx=>by
      have hx:=znk hx
      rw [htl] at hx
      rcases List.mem_append.1 hx with h|h
      ·obtain ⟨b,hb,e⟩:=List.mem_map.1 h
       obtain ⟨hb1,hb2⟩:=List.mem_filter.1 hb
       exact .inl ⟨b,hb1,hdep b hb1 hb2,e⟩
      ·exact .inr h
     have hadd:st (fun k=>if k=a.1 then true else L k)=⟨ydu (st L).t o.dst a.2.2,(st L).h⟩:=by
      rw [hod]
      have hja:(j=a.1)=False:=by simp;exact fun e=>hjA a ha e.symm
      simp only [st,hja,if_false]
      cases hj:L j with
      | false=>simp only [Bool.false_eq_true,if_false];rw [ztr hdN hiN ha]
      | true=>
       simp only [if_true]
       rw [ztr hdN hiN ha,hide_upd hm,zjv]
       intro q hq e
       cases hq;cases e
       exact hdA a ha rfl
     rw [hadd] at hnext
     refine aOp_calm (r:=a.2.2) ho (hDst _ _ ho) hog ?_ hnext
     cases hj:L j with
     | false=>
      have e1:st L=⟨zbj base A L,hlook h0⟩:=by simp only [st,hj];rfl
      rw [e1]
      refine zaz hT (fun x y hx=>?_) hr0 hkn
      rcases hmem x y hx with ⟨b,hb,hbL,e⟩|h
      ·have:=zts (base:=base) hdN hb hbL
       rw [e] at this;exact this
      ·exact zgd hbn (hreq.get x y h).1
     | true=>
      have e1:st L=⟨ydu (yis hs (zbj base A L)) (some d) z,hlook h1⟩:=by simp only [st,hj,if_true]
      rw [e1]
      refine zaz hT (fun x y hx=>?_) hr1 hkn
      simp only [ydu]
      rcases hmem x y hx with ⟨b,hb,hbL,e⟩|h
      ·have h9:=zts (base:=base) hdN hb hbL
       have hne:=hdA b hb
       obtain ⟨_,_,_,_,_,_,_,_,_,hmb,_,_⟩:=hA.get b hb
       rw [e] at h9 hne hmb
       rw [if_neg hne]
       exact zhx h9 hmb
      ·obtain ⟨q1,q2,q3⟩:=hreq.get x y h
       rw [if_neg q3]
       exact zhx (zgd hbn q1) q2
 have h0L:∀ k,(fun _:Nat=>false) k=false:=fun _=>rfl
 have:=main (A.length+1) (fun _=>false) listed (by unfold zic;rw [List.filter_eq_self.2 (by simp)];exact hlen) rfl hcl (fun i hi=>by simp)
 have e1:st (fun _=>false)=S base h0:=by
  simp only [st,Bool.false_eq_true,if_false]
  have:zbj base A (fun _=>false)=look base:=by
   funext x
   unfold zbj
   rw [List.find?_eq_none.2 (by simp)]
  rw [this];rfl
 rw [e1] at this
 rw [hn];exact this
end
set_option maxHeartbeats 8000000
section
open Go.RowKit
theorem portto_con (g:GraphD) (v:Int) (u:Int) (ls:List Lk) (h0:0≤v) (hv:g.ports[v.toNat]?=some ls) (hlen:ls.length≤5000):Con Tryz.prog 146 [ynl g,i64 v,i64 u] (i64 (yfj ls u)):=by
 refine yao Tryz.func146 rfl rfl Tryz.ntmps146 Tryz.results146 rfl rfl ?_
 (try refine zy ?_)
 refine ydi (α:=Nat) (fun k=>[(15,i64 k),(14,i64 ls.length),(13,ygx ls),(2,i64 u)]) (fun k=>[]) (fun k=>ls.length - k) (fun k=>k≤ls.length∧∀ (j:Nat) (y:Lk),j < k→ls[j]?=some y→y.1≠u) 0 ⟨by omega,by omega⟩ (by exact zs) (by exact zh) ?_
 intro k ⟨hk,hok⟩
 (try refine zy ?_)
 refine yac rfl (fun h=>?_) (fun h=>?_)
 ·simp at h
  obtain ⟨x,hx⟩:=ycg h
  (try refine zy ?_)
  refine yac rfl (fun h1=>?_) (fun h1=>?_)
  ·simp at h1
   (try refine zy ?_)
   refine yae ?_;refine ⟨_,rfl,?_⟩
   exact yai (yzr hx h1 hok).symm
  ·simp at h1
   (try refine zy ?_)
   refine rnd (k+1) ⟨by omega,fun j y hj hy=>?_⟩ (by omega) (by exact zs) (by exact zh)
   rcases Nat.lt_or_ge j k with h6|h6
   ·exact hok j y h6 hy
   ·obtain rfl:j=k:=by omega
    rw [hx] at hy;cases hy;exact h1
 ·simp at h
  obtain rfl:k=ls.length:=by omega
  (try refine zy ?_)
  refine yae ?_;refine ⟨_,rfl,?_⟩
  exact yai (yzq fun j y hy=>hok j y (List.getElem?_eq_some_iff.1 hy).1 hy).symm
end
section
open Go.RowKit
theorem Frz.boxF {h:Nat→Option LObj} {id off:Nat} {xs ys:List AV} (hx:h id=some (.cells xs)) (hl:xs.length=ys.length) (hc:∀ y∈ys,ydw y=true) (hf:∀ (i:Nat) (x y:AV),xs[i]?=some x→ys[i]?=some y→Frz h x y):Frz h (.lp id off) (.dp ys off):=by
 intro B ok0 lv w u hi hr
 obtain ⟨b,n,h1,rfl,h2⟩:=yfx hi (by rw [hx];rfl) (.inr hx) hr
 obtain ⟨_,_,g1,g2,_⟩:=hi.lvat h1
 have:=Rel.dp (ok:=fun g=>(ok0 g∨B.mine g)∧g < w.heap.size) (w:=w) (lv:=fun _=>none) (row:=ys) (off:=off) b 0 (fun j=>(w.cell? ⟨b,0+j,none⟩).getD undef) ⟨.inr g1,g2⟩ (fun j c hj=>?_) (fun j c hj=>?_)
 ·rwa [Nat.zero_add] at this
 ·obtain ⟨x,hx'⟩:∃ x,xs[j]?=some x:=⟨_,List.getElem?_eq_getElem (by have:=(List.getElem?_eq_some_iff.1 hj).1;omega)⟩
  obtain ⟨q1,v,q2,_⟩:=h2 j x hx'
  exact ⟨by rw [q2];rfl,hc c (List.mem_of_getElem? hj)⟩
 ·obtain ⟨x,hx'⟩:∃ x,xs[j]?=some x:=⟨_,List.getElem?_eq_getElem (by have:=(List.getElem?_eq_some_iff.1 hj).1;omega)⟩
  obtain ⟨_,v,q2,q3⟩:=h2 j x hx'
  rw [q2]
  exact hf j x c hx' hj B ok0 lv w v hi q3
def ype (p:ProgD) (g:GraphD) (k:Nat):List AV:=[zdp p.name,.sl 6 (p.vars.map ydj),.sl 3 (p.rules.map ydo),yah g.ids,yau g.ports,i64 (ybf (g.ids.take k)),.ls 15 1 g.ports.length]
def ykp (p:ProgD) (g:GraphD) (k:Nat):List (Nat × Option LObj):=[(17,some (.cells (ype p g k))),(3,some (.cells [yah g.ids,yau g.ports]))]
def zlk (g:GraphD) (k:Nat):List (List AV):=zgj ((ynj g).take k)++List.replicate (g.ports.length - k) []
def ynt (g:GraphD) (k:Nat) (l:List Int):List (List AV):=zgj ((ynj g).take k)++(l.map i64)::List.replicate (g.ports.length - k - 1) []
theorem rowsC0 {g:GraphD} {k:Nat} (hk:k < g.ports.length):zlk g k=ynt g k []:=by
 unfold zlk ynt
 rw [show g.ports.length - k=(g.ports.length - k - 1)+1 by omega,List.replicate_succ]
 simp
theorem you {g:GraphD} {k:Nat} (hk:k < g.ports.length):(zgj ((ynj g).take k)).length=k:=by
 simp [zgj,ynj];omega
theorem rowsC_at {g:GraphD} {k:Nat} {l:List Int} (hk:k < g.ports.length):(ynt g k l)[k]?=some (l.map i64):=by
 unfold ynt
 rw [List.getElem?_append_right (by rw [you hk];omega),you hk,Nat.sub_self]
 rfl
theorem zjh {g:GraphD} {k:Nat} {l:List Int} (hk:k < g.ports.length):(ynt g k l).length=g.ports.length:=by
 unfold ynt
 rw [List.length_append,you hk,List.length_cons,List.length_replicate]
 omega
theorem rowsC_next {g:GraphD} {k:Nat} {l:List Int} {x:Int} (hk:k < g.ports.length):(ynt g k l).set k (l.map i64++[i64 x])=ynt g k (l++[x]):=by
 unfold ynt
 rw [List.set_append_right _ _ (by rw [you hk];omega),you hk,Nat.sub_self,List.set_cons_zero]
 simp
theorem rowsC_end {g:GraphD} {k:Nat} {ls:List Lk} (hls:g.ports[k]?=some ls):ynt g k (yda g k ls)=zlk g (k+1):=by
 unfold zlk ynt
 have e:(ynj g)[k]?=some (yda g k ls):=by simp [ynj,List.getElem?_mapIdx,hls]
 rw [ybj e]
 simp [zgj,Nat.sub_sub]
theorem newscene_con (p:ProgD) (g:GraphD) (hg:ybs g=true):Con Tryz.prog 88 [ytn p,ynl g] (zdk p g):=by
 have hv:=yal hg
 refine yao Tryz.func88 rfl rfl Tryz.ntmps88 Tryz.results88 rfl rfl ?_
 (try refine zw ?_)
 refine ycv (lf:=lf0) yzi rfl ?_
 refine ymk [2,3,4] 6 (yaa rfl (yaa rfl (yaa rfl ybb))) rfl (by kernel_rfl) ?_
 (try refine zo ?_)
 refine yrz tok (fun y=>!ment 15 y) [(0,10,.agg [zdp p.name,.sl 6 (p.vars.map ydj),.sl 3 (p.rules.map ydo)]),(1,11,.agg [yah g.ids,yau g.ports])] 5 15 [] (.ls 15 1 g.ports.length) (req:=[(3,.lp 3 0),(2,.lp 2 0)]) 3 rfl (by kernel_rfl) rfl rfl rfl (by kernel_rfl) (by kernel_rfl) rfl ⟨⟨rfl,rfl,rfl⟩,⟨rfl,rfl,rfl⟩,trivial⟩ rfl
  ⟨⟨_,[(3,.lp 3 0),(2,.lp 2 0)],rfl,rfl,rfl,by kernel_rfl,by kernel_rfl,by kernel_rfl,by kernel_rfl,rfl,rfl,rfl⟩,⟨_,[(3,.lp 3 0),(2,.lp 2 0)],rfl,rfl,rfl,by kernel_rfl,by kernel_rfl,by kernel_rfl,by kernel_rfl,rfl,rfl,rfl⟩,trivial⟩ rfl rfl rfl
  (fun t ht hl=>make_late tok 15 hl rfl rfl rfl rfl rfl (ht 14 _ rfl) (ht 14 _ rfl) (by constructor <;> omega) rfl) ?_
 refine ycj [6,7,8] (yaa rfl (yaa rfl (yaa rfl ybb))) rfl (by kernel_rfl) ?_
 (try refine zy ?_)
 refine yxk 15 (List.replicate g.ports.length ynp) rfl (zvu _ _) ?_
 refine zqk (t':=[(21,i64 (0:Nat)),(20,i64 g.ports.length),(19,yau g.ports),(5,.lp 17 0),(3,.lp 3 0)]) (h':=[(17,some (.cells (ype p g 0))),(3,some (.cells [yah g.ids,yau g.ports]))]++[(15,some (yjd (List.replicate g.ports.length ynp)))]) ?_ (by exact zs) (yaq (yad rfl (yad rfl (yad rfl yak)))) 
 refine yxl (f:=[(17,some (.cells (ype p g 0))),(3,some (.cells [yah g.ids,yau g.ports]))]) 15 1 g.ports.length rfl rfl rfl rfl rfl ?_
 refine ygb (α:=Nat) (fun k=>[(21,i64 k),(20,i64 g.ports.length),(19,yau g.ports),(5,.lp 17 0),(3,.lp 3 0)]) (fun k=>ykp p g k++yec 15 1 (zlk g k) []) (fun k=>g.ports.length - k) (fun k=>k≤g.ports.length) 0 (by omega) (by exact zs) (hsE rfl) ?_
 intro k hk
 (try refine zy ?_)
 refine yac rfl (fun h=>?_) (fun h=>?_)
 ·simp at h
  obtain ⟨ls,hls⟩:=ycg h
  obtain ⟨a,ha⟩:=ycg (show k < g.ids.length by omega)
  have hlb:=hv.2.2.2.2.2.1 k ls hls
  have hll:=ydp h hlb
  (try refine zy ?_)
  refine ygb (α:=Nat) (fun j=>[(41,i64 j),(40,i64 ls.length),(39,ygx ls),(6,i64 k),(21,i64 k),(20,i64 g.ports.length),(19,yau g.ports),(5,.lp 17 0),(3,.lp 3 0)]) (fun j=>ykp p g (k+1)++yec 15 1 (ynt g k ((yda g k ls).take j)) []) (fun j=>ls.length - j) (fun j=>j≤ls.length) 0 (by omega) (by exact zs) (hsE ?_) ?_
  ·unfold ykp ype
   rw [yib _ _ _ ha,List.take_zero,rowsC0 h]
   exact ygz
  intro j hj
  (try refine zy ?_)
  refine yac rfl (fun h2=>?_) (fun h2=>?_)
  ·simp at h2
   obtain ⟨l,hl⟩:=ycg h2
   have hl1:=(ybk _ _ _).1 (((ych _ _ _).1 hlb).1 l (List.mem_of_getElem? hl))
   obtain ⟨ls',hls'⟩:=ycg (show l.1.toNat < g.ports.length by omega)
   have hll':=ydp (show l.1.toNat < g.ports.length by omega) (hv.2.2.2.2.2.1 _ ls' hls')
   (try refine zw ?_)
   refine zA ?_ (h2:=zrp (f:=ykp p g (k+1)) rfl rfl rfl rfl)
   have hblen:(yda g k ls).length=ls.length:=by simp [yda]
   have hbj:(yda g k ls)[j]?=some (yfj ls' k):=by
    simp only [yda,List.getElem?_map,hl,Option.map_some,Option.some.injEq]
    rw [List.getD_eq_getElem?_getD,hls']
    rfl
   have htj:(((yda g k ls).take j).map i64).length=j:=by simp [hblen];omega
   have hrow:=rowsC_at (l:=(yda g k ls).take j) h
   have hcell:(yfn 15 1 0 (ynt g k ((yda g k ls).take j))++[])[k]?=some (.ls (fam 15 k) 1 j):=by
    rw [List.append_nil,yfe,hrow]
    simp only [Option.map_some,htj,Nat.div_one,Nat.zero_add]
   have hk1:((k:Int).toNat * 1)=k:=by simp
   (try refine zw ?_)
   refine ycv (lf:=lf0) yzi rfl ?_
   refine ymk [5,6,7,8,9,10,11,12,13,14,15,16,17] 8 (yaa rfl (yaa rfl (yaa rfl (yaa rfl (yaa rfl (yaa rfl (yaa rfl (yaa rfl (yaa rfl (yaa rfl (yaa rfl (yaa rfl (yaa rfl ybb))))))))))))) rfl (by kernel_rfl) ?_
   refine zuv (h':=((9,some (.cells (ycs l)))::ykp p g (k+1))++yec 15 1 (ynt g k ((yda g k ls).take j)) []) ygz ?_
   (repeat (first|refine zo ?_|refine ybv tok rfl rfl (yea (f:=(9,some (.cells (ycs l)))::ykp p g (k+1)) rfl) rfl (by omega) (by omega) rfl rfl ?_|refine yqy (r:=.ls (fam 15 k) 1 j) tok rfl rfl rfl (by rw [yea (f:=(9,some (.cells (ycs l)))::ykp p g (k+1)) rfl];exact ymp _) (by rw [hk1];exact hcell) rfl rfl ?_|refine yaf rfl rfl (portto_con g l.1 k ls' hl1.1 hls' (by omega)) rfl rfl ?_))
   have hat:hlook ((9,some (LObj.cells (ycs l)))::ykp p g (k+1)++(15,some (yjd ((yfn 15 1 0 (ynt g k ((yda g k ls).take j))++[]).set k .one)))::yqm 15 0 ((ynt g k ((yda g k ls).take j)).set k (((yda g k ls).take j).map i64++[[i64 (yfj ls' k)]].flatten))) 15=some (yjd ((yfn 15 1 0 (ynt g k ((yda g k ls).take j))++[]).set k .one)):=by rw [yba _ _ (ykx rfl),ybe]
   refine yrz tok yok [(0,45,.lp 17 0),(1,46,.lp 17 0),(2,47,.lp 17 (0+6)),(3,48,.ls 15 1 g.ports.length),(4,49,i64 k)] 18 63 [56] (.ls (fam 15 k) 1 (j+1)) (req:=[(5,.lp 17 0),(6,i64 k)]) 2 rfl (by kernel_rfl) rfl rfl rfl (by kernel_rfl) (by kernel_rfl) rfl ⟨⟨rfl,rfl,rfl⟩,⟨rfl,rfl,rfl⟩,trivial⟩ rfl
    ⟨⟨_,[(5,.lp 17 0),(6,i64 k)],rfl,rfl,rfl,by kernel_rfl,by kernel_rfl,by kernel_rfl,by kernel_rfl,rfl,rfl,rfl⟩,⟨_,[(45,.lp 17 0),(5,.lp 17 0),(6,i64 k)],rfl,rfl,rfl,by kernel_rfl,by kernel_rfl,by kernel_rfl,by kernel_rfl,rfl,rfl,rfl⟩,⟨_,[(45,.lp 17 0),(46,.lp 17 0),(5,.lp 17 0),(6,i64 k)],rfl,rfl,rfl,by kernel_rfl,by kernel_rfl,by kernel_rfl,by kernel_rfl,rfl,rfl,rfl⟩,⟨_,[(45,.lp 17 0),(46,.lp 17 0),(47,.lp 17 (0+6)),(5,.lp 17 0),(6,i64 k)],rfl,rfl,rfl,by kernel_rfl,by kernel_rfl,by kernel_rfl,by kernel_rfl,rfl,rfl,rfl⟩,⟨_,[(5,.lp 17 0),(6,i64 k)],rfl,rfl,rfl,by kernel_rfl,by kernel_rfl,by kernel_rfl,by kernel_rfl,rfl,rfl,rfl⟩,trivial⟩ rfl rfl rfl
    (fun t ht hl=>yoi (s:=⟨t,_⟩) (t':=yis [56] t) (i:=k) (news:=[[i64 (yfj ls' k)]]) (f:=(9,some (.cells (ycs l)))::ykp p g (k+1)) tok (fun x y h=>(zev hl h).imp (fun e=>e) fun e=>⟨e.1,yok.ment (yfl _ _) e.2⟩) (fun x y h=>yys h) rfl rfl rfl (ht 56 _ rfl) hrow (by rw [htj,Nat.mul_one]) (ht 62 _ rfl) (by intro c hc;simp at hc;subst hc;rfl) (by constructor <;> simp <;> omega) rfl rfl rfl rfl rfl rfl) ?_
   refine ycj [19,20] (yaa rfl (yaa rfl ybb)) rfl (by kernel_rfl) ?_
   refine ybv tok rfl rfl hat rfl (by omega) (by omega) rfl rfl ?_
   refine yrx tok rfl rfl rfl rfl rfl hat (by rw [List.length_set,List.append_nil,yej,zjh h];omega) rfl rfl ?_
   refine zuv (h':=((9,some (.cells (ycs l)))::ykp p g (k+1))++yec 15 1 (ynt g k ((yda g k ls).take (j+1))) []) ?_ ?_
   ·rw [hk1]
    refine (zeu (f:=(9,some (.cells (ycs l)))::ykp p g (k+1)) rfl (by omega) rfl (by rw [zjh h];exact h) (by simp [hblen];omega)).trans ?_
    rw [ybj hbj,← rowsC_next h]
    rfl
   (try refine zy ?_)
   exact zae (j+1) (by omega) (by omega) (by exact zs) (hsM (f:=(9,some (.cells (ycs l)))::ykp p g (k+1)) (yad rfl (yad rfl yak)) rfl rfl rfl)
  ·simp at h2
   obtain rfl:j=ls.length:=by omega
   (try refine zy ?_)
   refine zae (k+1) (by omega) (by omega) (by exact zs) (hsE ?_)
   rw [show (yda g k ls).take ls.length=yda g k ls from List.take_of_length_le (by simp [yda]),rowsC_end hls]
 ·simp at h
  obtain rfl:k=g.ports.length:=by omega
  (try refine zy ?_)
  refine yae ?_;refine ⟨_,rfl,?_⟩
  have hal:g.ids.take g.ports.length=g.ids:=List.take_of_length_le (by omega)
  have hbl:(ynj g).length=g.ports.length:=by simp [ynj]
  have hm:Frz (hlook (ykp p g g.ports.length++yec 15 1 (zlk g g.ports.length) [])) (.ls 15 1 g.ports.length) (yhm (ynj g)):=zrs (f:=ykp p g g.ports.length) rfl rfl rfl hbl.symm (by
   unfold zlk
   rw [Nat.sub_self,List.replicate_zero,List.append_nil,List.take_of_length_le (by omega)])
  refine Frz.boxF (xs:=ype p g g.ports.length) (ys:=yxe p g) rfl rfl (fun y hy=>?_) (fun i x y hx hy=>?_)
  ·simp only [yxe,List.mem_cons,List.not_mem_nil,or_false] at hy
   rcases hy with rfl|rfl|rfl|rfl|rfl|rfl|rfl <;> rfl
  ·have hi:i < 7:=(List.getElem?_eq_some_iff.1 hx).1
   have:i=0∨i=1∨i=2∨i=3∨i=4∨i=5∨i=6:=by omega
   rcases this with rfl|rfl|rfl|rfl|rfl|rfl|rfl <;> simp only [ype,yxe,List.getElem?_cons_zero,List.getElem?_cons_succ,Option.some.injEq] at hx hy <;> subst hx hy
   ·exact Frz.pure
   ·exact Frz.pure
   ·exact Frz.pure
   ·exact Frz.pure
   ·exact Frz.pure
   ·rw [hal];exact Frz.pure
   ·exact hm
end
section
open Go.RowKit
def rowMover (p:ProgD) (g:GraphD):List AV:=[zdp p.name,.sl 6 (p.vars.map ydj),.sl 3 (p.rules.map ydo),zdk p g,zhg (yat p g)]
def ykk (p:ProgD) (g:GraphD):AV:=.dp (rowMover p g) 0
theorem newmover_con (p:ProgD) (g:GraphD) (hf:Fair p g) (h0:yhg p g=0):Con Tryz.prog 104 [ytn p,ynl g] (ykk p g):=by
 have hg:=(ydx.1 h0).2.1
 refine yao Tryz.func104 rfl rfl Tryz.ntmps104 Tryz.results104 rfl rfl ?_
 (repeat (first|refine zy ?_|refine yaf rfl rfl (newscene_con p g hg) rfl rfl ?_|refine yaf rfl rfl (zjn p g hf h0) rfl rfl ?_))
 refine yae ?_;refine ⟨_,rfl,?_⟩
 exact Frz.box rfl rfl
theorem zin {p:ProgD} {g:GraphD} {c:List (List Int)} (h:CfgOk p g c) {v:Nat} (hv:v < c.length):Con Tryz.prog 177 [ykk p g,yhm c,i64 v] (i64 (zqf p ⟨g,c,v⟩)):=by
 have hlen:=(ydn h.prog).2.2.1
 refine yao Tryz.func177 rfl rfl Tryz.ntmps177 Tryz.results177 rfl rfl ?_
 (try refine zy ?_)
 refine ydi (α:=Nat) (fun k=>[(14,i64 k),(13,i64 p.rules.length),(0,ykk p g),(1,yhm c),(2,i64 v)]) (fun k=>[]) (fun k=>p.rules.length - k) (fun k=>k≤p.rules.length∧∀ j b,j < k→(p.rules.map fun r=>(⟨g,c,v⟩:Scn).of r.guard)[j]?=some b→b=0) 0 ⟨by omega,fun j b hj=>by omega⟩ (by exact zs) yak ?_
 intro k ⟨hk,hall⟩
 (try refine zy ?_)
 refine yac rfl (fun h1=>?_) (fun h1=>?_)
 ·simp at h1
  obtain ⟨r,hr⟩:=ycg h1
  have hat:(p.rules.map fun r=>(⟨g,c,v⟩:Scn).of r.guard)[k]?=some ((⟨g,c,v⟩:Scn).of r.guard):=by rw [List.getElem?_map,hr];rfl
  (repeat (first|refine zy ?_|refine yaf rfl rfl (sguard_con h hv hr) rfl rfl ?_))
  refine yac rfl (fun h2=>?_) (fun h2=>?_)
  ·(try refine zy ?_)
   refine yae ?_;refine ⟨_,rfl,?_⟩
   exact yai (by unfold zqf;rw [zru hat (by simpa using h2) hall];simp)
  ·(try refine zy ?_)
   refine rnd (k+1) ⟨by omega,fun j b hj hb=>?_⟩ (by omega) (by exact zs) yak
   by_cases e:j=k
   ·subst e
    rw [hat] at hb
    cases hb
    simpa using h2
   ·exact hall j b (by omega) hb
 ·simp at h1
  obtain rfl:k=p.rules.length:=by omega
  (try refine zy ?_)
  refine yae ?_;refine ⟨_,rfl,?_⟩
  refine yai ?_
  unfold zqf
  rw [zer]
  intro a ha
  obtain ⟨j,hj⟩:=List.getElem?_of_mem ha
  exact hall j a (by have:=(List.getElem?_eq_some_iff.1 hj).1;simpa using this) hj
theorem snodes_con {f:Nat} {caps:List AV} {b:Nat→Bool} (n:Nat) (hn:n≤1000) (hp:yav.pureL caps=true) (hf:∀ v:Nat,v < n→Con Tryz.prog f (i64 v::caps) (ybq (b v))):Con Tryz.prog 175 [i64 n,.fn f caps] (ycb (zpu b n)):=by
 refine yao Tryz.func175 rfl rfl Tryz.ntmps175 Tryz.results175 rfl rfl ?_
 (try refine zy ?_)
 refine ydi (α:=Nat) (fun k=>[(8,i64 k),(7,i64 n),(5,ycb (zpu b k)),(1,.fn f caps)]) (fun k=>[]) (fun k=>n - k) (fun k=>k≤n) 0 (by omega) (by exact zs) yak ?_
 intro k hk
 (try refine zy ?_)
 refine yac rfl (fun h1=>?_) (fun h1=>?_)
 ·simp at h1
  (repeat (first|refine zy ?_|refine yaf rfl rfl (hf k h1) rfl rfl ?_))
  have hnext:∀ q,b k=q→zpu b (k+1)=if q=true then zpu b k ||| (1#32 <<< k) else zpu b k:=fun q hq=>by rw [zpu,hq]
  refine yac rfl (fun h2=>?_) (fun h2=>?_)
  ·(repeat (first|refine ymi tok rfl (by constructor <;> omega) rfl rfl ?_|refine ygr rfl rfl (by omega) rfl rfl ?_|refine ymg rfl rfl rfl rfl ?_|refine ybu rfl rfl rfl rfl ?_|refine zI ?_|refine zL ?_|refine zC ?_|refine yes ?_|refine ydt ?_|refine zR ?_|refine zD ?_|refine zK ?_|refine zB ?_|refine zA ?_|refine zS ?_|refine zU ?_|refine zV ?_|refine zF ?_|with_reducible refine ybh ?_|with_reducible refine ybw ?_|refine yby ?_|refine ybt ?_|refine yde ?_|refine zT ?_|refine zE ?_|refine zX ?_))
   have e:=hnext true h2
   rw [if_pos rfl] at e
   refine rnd (k+1) (by omega) (by omega) ?_ yak
   rw [e]
   exact (by exact zs)
  ·(try refine zy ?_)
   have e:=hnext false h2
   rw [if_neg (by simp)] at e
   refine rnd (k+1) (by omega) (by omega) ?_ yak
   rw [e]
   exact (by exact zs)
 ·simp at h1
  obtain rfl:k=n:=by omega
  (try refine zy ?_)
  refine yae ?_;refine ⟨_,rfl,?_⟩
  exact Frz.pure
theorem menabled1_con {p:ProgD} {g:GraphD} {c:List (List Int)} (h:CfgOk p g c) {v:Nat} (hv:v < c.length):Con Tryz.prog 176 [i64 v,.dp [ykk p g] 0,.dp [yhm c] 0] (ybq (zuf p g c v)):=by
 refine yao Tryz.func176 rfl rfl Tryz.ntmps176 Tryz.results176 rfl rfl ?_
 (repeat (first|refine zy ?_|refine yaf rfl rfl (zin h hv) rfl rfl ?_))
 refine yae ?_;refine ⟨_,rfl,?_⟩
 exact yag rfl
theorem yvs {p:ProgD} {g:GraphD} {c:List (List Int)} (h:CfgOk p g c):Con Tryz.prog 114 [ykk p g,yhm c] (ycb (yll p g c)):=by
 have hn:=h.n24
 have hl:=h.len
 have htl:(yat p g).length=c.length:=(ytw h.table).1.symm
 have hnc:=snodes_con (f:=176) (caps:=[.dp [ykk p g] 0,.dp [yhm c] 0]) (b:=zuf p g c) c.length (by omega) rfl fun v hv=>menabled1_con h hv
 refine yao Tryz.func114 rfl rfl Tryz.ntmps114 Tryz.results114 rfl rfl ?_
 (repeat (first|with_reducible refine ybw ?_|with_reducible refine ybh ?_|refine ybt ?_));refine ydt ?_;refine yci (lf:=lfT) rfl ?_
 (try refine zo ?_)
 refine zt ?_
 refine yhn 2 rfl rfl rfl rfl rfl ?_
 refine yhn 3 rfl rfl rfl rfl rfl ?_
 (repeat (first|refine zy ?_|refine ynz 9 (y:=i64 c.length) rfl (yoj (by rw [htl])) ?_|refine yaf rfl rfl hnc rfl rfl ?_))
 refine yae ?_;refine ⟨_,rfl,?_⟩
 exact Frz.pure
end
set_option maxHeartbeats 4000000
section
open Go.RowKit
variable {P:Program} {N:Nat} {Q:Exit→SS→Prop} {t:List (Nat × AV)}
theorem A_freezeRows {c:Code} {t':List (Nat × AV)} {h f f':List (Nat × Option LObj)} {M:Nat} {els:List (List (List AV))} {sz:Nat} (hh:hlook h=hlook (f++yec M sz (els.map List.flatten) [])) (ht':zbc t t') (ht:zvl t'=true) (hf:zkd f=true) (hf':yuy f f') (hl':zkd f'=true) (hM:Nat.blt M 1000000=true) (hkey:(f.all fun x=>!Nat.beq x.1 M)=true) (hkey':(f'.all fun x=>!Nat.beq x.1 M)=true) (hs:0 < sz) (hsz:∀ r∈els,∀ e∈r,e.length=sz)
  (k:A P N c Q (S t' ((M,some (.vec (els.map fun r=>.sl sz r)))::f'))):A P N c Q (S t h):=by
 have hS:S t h=S t (f++yec M sz (els.map List.flatten) []):=by unfold S;rw [hh]
 rw [hS]
 intro B ok0 lv a w hs0
 have hM':M < 1000000:=by simpa using hM
 have hfl:=ypn hf
 have hkn:=ykx hkey
 have hkn':=ykx hkey'
 let lv':Live:=fun j=>match hlook ((M,some (LObj.vec (els.map fun r=>.sl sz r)))::f') j with|some _=>lv j|none=>none
 have hlv:∀ j b n,lv' j=some (b,n)→lv j=some (b,n)∧j < 1000000:=by
  intro j b n hj
  simp only [lv'] at hj
  split at hj
  ·rename_i o ho
   refine ⟨hj,?_⟩
   by_cases hjM:j=M
   ·omega
   ·rw [yap hjM] at ho
    exact (yju hl' j o ho).2
  ·cases hj
 have hok:∀ g,yax B ok0 lv w g→yax B ok0 lv' w g:=fun g hg=>⟨hg.1,hg.2.1,fun j b m hj=>hg.2.2 j b m (hlv j _ m hj).1⟩
 have hfree:∀ i b n,lv (fam M i)=some (some b,n)→yax B ok0 lv' w b:=fun i b n hb=>by
  obtain ⟨_,_,h1,h2,_⟩:=hs0.inv.lvat hb
  refine ⟨.inr h1,h2,fun j b' m hj e=>?_⟩
  subst e
  obtain ⟨g1,g2⟩:=hlv j _ m hj
  have:=hs0.inv.inj _ _ _ _ _ hb g1
  have:=yfl M i
  omega
 have hre:∀ (x:AV) (u:Value),Rel (yax B ok0 lv w) w lv x u→Rel (yax B ok0 lv' w) w lv' x u:=fun x u hr=>
  (hr.relive fun j b m hj hm=>(hlv j b m hj).1).keep fun g hg=>⟨hok g hg,rfl⟩
 refine k B ok0 lv' a w ⟨⟨hs0.inv.base,hs0.inv.ok0lt,fun j hj=>?_,fun i j b m q h1 h2=>hs0.inv.inj i j b m q (hlv i _ m h1).1 (hlv j _ q h2).1,fun j x hj=>?_⟩,hs0.size,fun x y hy=>?_,hs0.defers,hs0.big,fun j b o hN hj hc hb=>?_⟩
 ·show lv' j=none
  simp only [lv']
  have hj:hlook ((M,some (LObj.vec (els.map fun r=>.sl sz r)))::f') j=none:=hj
  rw [hj]
 ·have hj:hlook ((M,some (LObj.vec (els.map fun r=>.sl sz r)))::f') j=some x:=hj
  have e1:lv' j=lv j:=by simp only [lv',hj]
  by_cases hjM:j=M
  ·subst hjM
   rw [ybe] at hj
   cases hj
   obtain ⟨b,n,g1,g2⟩:=hs0.inv.obj j _ (yea (sz:=sz) (rows:=els.map List.flatten) (extra:=[]) hkey)
   refine ⟨b,n,by rw [e1];exact g1,?_⟩
   rw [List.append_nil] at g2
   cases b with
   | none=>
    have:=ymx g2
    have hl:=congrArg List.length this
    rw [yej,List.length_map] at hl
    have:els=[]:=List.eq_nil_of_length_eq_zero hl
    subst this
    exact .inl rfl
   | some b=>
    obtain ⟨q1,q2,q3⟩:=g2
    obtain ⟨c,e,g1',g2',g3,g4,g5⟩:=yje.1 q3
    refine ⟨q1,q2,⟨c,e,g1',g2',by rw [yej] at g3;simpa using g3,fun y hy=>?_,fun k y u hy hu=>?_⟩,fun y hy=>?_⟩
    ·obtain ⟨r,_,rfl⟩:=List.mem_map.1 hy;rfl
    ·rw [List.getElem?_map] at hy
     cases hr:els[k]? with
     | none=>rw [hr] at hy;cases hy
     | some r=>
      rw [hr] at hy
      cases hy
      have hcell:(yfn j sz 0 (els.map List.flatten))[k]?=some (.ls (fam j k) sz (r.flatten.length / sz)):=by
       rw [yfe,List.getElem?_map,hr];simp
      have hrel:=g5 k _ u hcell hu
      have hrow:=yun (f:=f) (sz:=sz) (rows:=els.map List.flatten) (extra:=[]) hfl hM' (i:=k) (r:=r.flatten) (by rw [List.getElem?_map,hr];rfl)
      have hr1:∀ e∈r,e.length=sz:=hsz r (List.mem_of_getElem? hr)
      have hfl2:r.flatten.length / sz=r.length:=by
       have:∀ r:List (List AV),(∀ e∈r,e.length=sz)→r.flatten.length=r.length * sz:=by
        intro r
        induction r with
        | nil=>intro _;simp
        | cons e r ih=>
         intro he
         rw [List.flatten_cons,List.length_append,ih fun e h=>he e (by simp [h]),he e (by simp),List.length_cons,Nat.succ_mul,Nat.add_comm]
       rw [this r hr1]
       exact Nat.mul_div_cancel _ hs
      rw [hfl2] at hrel
      refine zde (ysr hs0.inv hrel (by show ycq (hlook _ _)=_;rw [hrow];rfl) rfl hr1 rfl (fun x hx i=>?_) _ hok (fun b n hb=>hfree _ b n hb)) rfl
      obtain ⟨b',n',p1,p2⟩:=hs0.inv.obj _ _ hrow
      cases b' with
      | none=>
       rcases p2 with p2|⟨e,p2⟩
       ·simp only [LObj.vec.injEq] at p2
        rw [p2] at hx
        simp at hx
       ·cases p2
      | some b'=>exact yav.ment (p2.2.2.2 x hx)
    ·obtain ⟨r,_,rfl⟩:=List.mem_map.1 hy;rfl
  ·rw [yap hjM] at hj
   have hj0:=yaq hf' j x hj
   obtain ⟨b,n,g1,g2⟩:=hs0.inv.obj j x (yfc hj0)
   refine ⟨b,n,by rw [e1];exact g1,?_⟩
   cases b with
   | none=>exact g2
   | some b=>exact ⟨g2.1,g2.2.1,(g2.2.2.relive fun j' b n hb _=>(hlv j' b n hb).1).keep (fun g hg=>⟨hok g hg,rfl⟩) rfl⟩
 ·have:=yco ht' x y hy
  exact ⟨(hs0.frame x y this).1,hre y _ (hs0.frame x y this).2⟩
 ·have hj:hlook ((M,some (LObj.vec (els.map fun r=>.sl sz r)))::f') j=some o:=hj
  have e1:lv' j=lv j:=by simp only [lv',hj]
  by_cases hjM:j=M
  ·subst hjM
   rw [ybe] at hj
   cases hj
   cases hc
  ·rw [yap hjM] at hj
   obtain ⟨n,hn⟩:=hs0.pin j b o hN (yfc (yaq hf' j o hj)) hc hb
   exact ⟨n,by rw [e1];exact hn⟩
end
set_option maxHeartbeats 8000000
section
open Go.RowKit
theorem zrt {h:Nat→Option LObj} {id n:Nat} {l:List Int} (hx:h id=some (.vec (l.map i64))) (hn:n=l.length):Frz h (.ls id 1 n) (yah l):=by
 subst hn
 exact Frz.ls (rows:=l.map fun z=>[i64 z]) (by rw [hx];rfl) (by simp) (by intro r hr;obtain ⟨z,_,rfl⟩:=List.mem_map.1 hr;rfl) (ygg l) (by intro x hx i;obtain ⟨z,_,rfl⟩:=List.mem_map.1 hx;rfl)
theorem zok {p:ProgD} {tbl:List (List (Int × Int))} {s:Scn}:∀ (l:List SetD) (st:List Int),(l.foldl (ztl p tbl s) st).length=st.length
 | [],st=>rfl
 | x::l,st=>by rw [List.foldl_cons,zok l];simp [ztl]
theorem mmove_con {p:ProgD} {g:GraphD} {c:List (List Int)} (h:CfgOk p g c) {v:Nat} (hv:v < c.length) {i:Nat} {r:RuleD} (hr:p.rules[i]?=some r):Con Tryz.prog 179 [ykk p g,yhm c,i64 v,i64 i] (yah (zxo p (yat p g) ⟨g,c,v⟩ i)):=by
 obtain ⟨st,hst⟩:=ycg hv
 obtain ⟨b,hb,hsb⟩:=h.row hst
 have hbl:=zao hb
 have hsl:=(yti hsb).1
 have h6:=h.vars6
 have hrs:r.sets.length≤1000:=(h.fair.light.2.2 r (List.mem_of_getElem? hr)).2.1
 have hcv:c.getD v []=st:=by rw [List.getD_eq_getElem?_getD,hst];rfl
 let row:Nat→List Int:=fun j=>(r.sets.take j).foldl (ztl p (yat p g) ⟨g,c,v⟩) st
 have hrl:∀ j,(row j).length=p.vars.length:=fun j=>by simp only [row];rw [zok];omega
 refine yao Tryz.func179 rfl rfl Tryz.ntmps179 Tryz.results179 rfl rfl ?_
 (repeat (first|refine zy ?_|refine L_appendNil tok rfl rfl rfl (by intro c hc;rw [ygg] at hc;obtain ⟨x,_,rfl⟩:=List.mem_map.1 hc;rfl) (by constructor <;> simp <;> omega) rfl rfl rfl rfl rfl ?_))
 refine ygb (α:=Nat) (fun j=>[(28,i64 j),(27,i64 r.sets.length),(26,.sl 2 (r.sets.map zrh)),(9,.ls 17 1 p.vars.length),(0,ykk p g),(1,yhm c),(2,i64 v)]) (fun j=>[(17,some (.vec ((row j).map i64)))]) (fun j=>r.sets.length - j) (fun j=>j≤r.sets.length) 0 (by omega) ?_ (hsE ?_) ?_
 ·refine yas rfl (yas rfl (yas rfl (yas (yhe rfl (by rw [List.length_map,hsl,hbl])) (by exact zs))))
 ·rw [ygg];rfl
 intro j hj
 (try refine zy ?_)
 refine yac rfl (fun h1=>?_) (fun h1=>?_)
 ·simp at h1
  obtain ⟨x,hx⟩:=ycg h1
  have hty:=zvx h.prog (List.mem_of_getElem? hr) (List.mem_of_getElem? hx)
  obtain ⟨y,hy⟩:=ycg (show x.var.toNat < p.vars.length by omega)
  obtain ⟨q,hq⟩:=ycg (show x.var.toNat < b.length by omega)
  (repeat (first|refine zy ?_|refine yaf rfl rfl (zot h hv hty.2.2) rfl rfl ?_|refine yaf rfl rfl (bring_con _ _ _ _) rfl rfl ?_))
  have hbr:ymn p (yat p g) v x.var.toNat ((⟨g,c,v⟩:Scn).of x.val)=ylh y.kind q.1 q.2 ((⟨g,c,v⟩:Scn).of x.val):=by
   simp only [ymn,List.getD_eq_getElem?_getD,hy,hb,Option.getD_some,hq]
  have hnext:row (j+1)=(row j).set x.var.toNat (ylh y.kind q.1 q.2 ((⟨g,c,v⟩:Scn).of x.val)):=by
   simp only [row]
   rw [ybj hx,List.foldl_append,List.foldl_cons,List.foldl_nil,ztl,hbr]
  refine ybv tok rfl rfl rfl rfl hty.1 (by omega) rfl rfl ?_
  refine ymh tok rfl rfl rfl rfl rfl rfl (by rw [List.length_map,hrl];omega) rfl (congrArg (fun z=>hlook ((17,some (LObj.vec z))::_)) (show _=(row (j+1)).map i64 by rw [Nat.mul_one,hnext,List.map_set])) rfl rfl ?_
  (try refine zy ?_)
  exact zae (j+1) (by omega) (by omega) (by exact zs) (yaq (yad rfl yak))
 ·simp at h1
  obtain rfl:j=r.sets.length:=by omega
  (try refine zy ?_)
  refine yae ?_;refine ⟨_,rfl,?_⟩
  have e:zxo p (yat p g) ⟨g,c,v⟩ i=row r.sets.length:=by simp only [zxo,hr,hcv,row,List.take_length]
  rw [e]
  exact zrt rfl (hrl _).symm
end
section
open Go.RowKit
variable {P:Program} {T:Nat→Option Ty} {N:Nat} {ops:Array Oper} {lf:Oper→Bool} {Q:SS→Prop} {t:List (Nat × AV)} {h:List (Nat × Option LObj)} {rest:List Oper} {d:Nat} {op:Op} {ty:TypeId} {pos:String} {af:Array Edge} {gd:Option (Nat × Bool)} {r:AV}
theorem zlz (B C:BitVec 32):Op.intBits .and .u32 (B.toNat:Int) (C.toNat:Int)=pure (.int .u32 ((B &&& C).toNat:Int)):=by
 have e1:BitVec.ofInt IntKind.u32.bits (B.toNat:Int)=B:=yhc B
 have e2:BitVec.ofInt IntKind.u32.bits (C.toNat:Int)=C:=yhc C
 unfold Op.intBits
 simp only [e1,e2]
 exact congrArg (fun z=>pure (Value.int .u32 z)) (yxj (B &&& C))
theorem zdx {ρ:Operand→Option AV} {hp:Nat→Option LObj} {x y:Operand} {B C:BitVec 32} {tx ty':TypeId} (hx:ρ x=some (ycb B)) (hy:ρ y=some (ycb C)):ybo P hp ρ (.binOp .and tx x y ty') ty (ycb (B &&& C)):=
 ycf (fun _ _=>by simp) (by simp [yft,Op.operands,hx,hy,toV,ycb]) fun w=>by
  have e:=zlz B C
  simp [execOp,ydr hx,ydr hy,eqGuard,binOp,e]
theorem yfg {x y:Operand} {B C:BitVec 32} {tx ty':TypeId} (hx:evF (look t) x=some (ycb B)) (hy:evF (look t) y=some (ycb C))
  (hw:yaj ops (look t) ⟨some d,.binOp .and tx x y ty',ty,pos,af,gd⟩=some true) (hd:Nat.blt d N=true) (k:Lex P N ops lf Q rest (S ((d,ycb (B &&& C))::t) h)):Lex P N ops lf Q (⟨some d,.binOp .and tx x y ty',ty,pos,af,gd⟩::rest) (S t h):=
 ycc (zdx hx hy) hw hd k
theorem yhh {x y:Operand} {B:BitVec 32} {tx ty':TypeId} (hx:evF (look t) x=some (ycb B)) (hy:evF (look t) y=some (.v (.int .u32 1)))
  (hw:yaj ops (look t) ⟨some d,.binOp .and tx x y ty',ty,pos,af,gd⟩=some true) (hd:Nat.blt d N=true) (k:Lex P N ops lf Q rest (S ((d,ycb (B &&& 1#32))::t) h)):Lex P N ops lf Q (⟨some d,.binOp .and tx x y ty',ty,pos,af,gd⟩::rest) (S t h):=
 ycc (zdx hx (C:=1#32) hy) hw hd k
theorem shr_val (B:BitVec 32) (n:Nat):((B.toNat:Int).fdiv (2 ^ (min n 32)))=((B >>> n).toNat:Int):=by
 rw [BitVec.toNat_ushiftRight,Nat.shiftRight_eq_div_pow]
 have hB:=B.isLt
 rw [Int.fdiv_eq_ediv_of_nonneg _ (Int.le_of_lt (Int.pow_pos (by omega)))]
 rcases Nat.lt_or_ge n 32 with h|h
 ·rw [Nat.min_eq_left (by omega)]
  norm_cast
 ·rw [Nat.min_eq_right h]
  have:B.toNat / 2 ^ n=0:=Nat.div_eq_of_lt (Nat.lt_of_lt_of_le hB (Nat.pow_le_pow_right (by omega) h))
  rw [this]
  omega
theorem yield_shrU {ρ:Operand→Option AV} {hp:Nat→Option LObj} {x y:Operand} {B:BitVec 32} {i:Int} {k':IntKind} {tx ty':TypeId} (hx:ρ x=some (ycb B)) (hy:ρ y=some (.v (.int k' i))) (hb:0≤i):ybo P hp ρ (.binOp .shr tx x y ty') ty (ycb (B >>> i.toNat)):=by
 have:=yield_shr (P:=P) (hp:=hp) (ty:=ty) (tx:=tx) (ty':=ty') hx hy hb
 rwa [show IntKind.u32.bits=32 from rfl,shr_val] at this
theorem ygs {x y:Operand} {B:BitVec 32} {i:Int} {k':IntKind} {tx ty':TypeId} (hx:evF (look t) x=some (ycb B)) (hy:evF (look t) y=some (.v (.int k' i))) (hb:0≤i)
  (hw:yaj ops (look t) ⟨some d,.binOp .shr tx x y ty',ty,pos,af,gd⟩=some true) (hd:Nat.blt d N=true) (k:Lex P N ops lf Q rest (S ((d,ycb (B >>> i.toNat))::t) h)):Lex P N ops lf Q (⟨some d,.binOp .shr tx x y ty',ty,pos,af,gd⟩::rest) (S t h):=
 ycc (yield_shrU hx hy hb) hw hd k
theorem zln (B:BitVec 32) (n:Nat):((((B >>> n) &&& 1#32).toNat:Int) == 1)=B.getLsbD n:=by
 have h:(B >>> n) &&& 1#32=if B.getLsbD n then 1#32 else 0#32:=by
  apply BitVec.eq_of_getLsbD_eq
  intro i hi
  rw [BitVec.getLsbD_and,BitVec.getLsbD_ushiftRight]
  by_cases e:i=0
  ·subst e
   cases hb:B.getLsbD n <;> simp
  ·have:(1#32).getLsbD i=false:=by simp [BitVec.getLsbD_one,e]
   rw [this,Bool.and_false]
   split <;> simp [BitVec.getLsbD_one,e]
 rw [h]
 cases B.getLsbD n <;> rfl
theorem zgg (B C:BitVec 32):(((B.toNat:Int)) == (C.toNat:Int))=(B == C):=by
 rw [Bool.eq_iff_iff,beq_iff_eq,beq_iff_eq]
 constructor
 ·intro e;exact BitVec.eq_of_toNat_eq (by omega)
 ·intro e;rw [e]
theorem yfw (B:BitVec 32):(((B.toNat:Int)) == 0)=(B == 0#32):=zgg B 0#32
theorem ztu (B C:BitVec 32):(((B.toNat:Int)) != (C.toNat:Int))=(B != C):=by
 unfold bne;rw [zgg]
theorem ynd (B:BitVec 32):(((B.toNat:Int)) != 0)=(B != 0#32):=ztu B 0#32
end
end Go.Proofs.YtgpbgfpjlhoicaaGreatDoor
