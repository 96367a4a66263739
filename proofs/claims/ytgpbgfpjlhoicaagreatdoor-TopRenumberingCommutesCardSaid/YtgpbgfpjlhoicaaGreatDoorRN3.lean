/- Part 3 of the texts under TopRenumberingCommutes: joined, with what it needs alone. -/
import Derived.StringKeys
import Derived.Deep.QuietTactic
import Derived.BigQuiet
import Derived.Laws.AppendOwn
import Derived.Laws.AppendOwnNone
import Derived.Laws.OwnMore
import Derived.OwnWalk
import Derived.Deep.RegionHeld3
import Derived.Test.YtgpbgfpjlhoicaaGreatDoorRN1
import Derived.Test.YtgpbgfpjlhoicaaGreatDoorRN2
set_option linter.unusedVariables false
set_option maxRecDepth 100000
namespace Go.Proofs.YtgpbgfpjlhoicaaGreatDoor
section
open Go.RowKit Go.Maps
theorem yht:Keyed Tryz.prog 9:=string_keyed Tryz.underlying9
theorem yqa (w:World):(zeroValue 4).run Tryz.prog w=.ok (.bool false) w:=by kernel_rfl
theorem ylr (s:ByteArray) (h:s.size≤9223372036854775807):keyOf Tryz.prog 9 (.string s)=some (.string (ynq s)):=WideMaps.keyOf_string_mk Tryz.underlying9 (by unfold maxLen;omega)
theorem ycp {w wr:World} {xs:Array Value} {T:TypeId} (hb:Below (w.heap.size+1) (w.alloc (.cells xs T)) wr) (j:Nat):wr.cell? ⟨w.heap.size,j,none⟩=xs[j]?:=by
 rw [hb.cell (p:=⟨w.heap.size,j,none⟩) (by simp)]
 have h1:(w.alloc (.cells xs T)).heap[w.heap.size]?=some (.cells xs T):=heap_alloc_new w _
 unfold World.cell?
 simp only [h1]
 simp
theorem yaw {w wr:World} {xs:Array Value} {T:TypeId} (hb:Below (w.heap.size+1) (w.alloc (.cells xs T)) wr):Below w.heap.size w wr:=
 ((Below.refl _ _).alloc (Nat.le_refl _) _).trans (hb.mono (by omega))
theorem ycd {w wr:World} {xs:Array Value} {T:TypeId} (hb:Below (w.heap.size+1) (w.alloc (.cells xs T)) wr):w.heap.size+1≤wr.heap.size:=by
 have:=hb.size;simpa using this
def zqb (l:List ByteArray):List Lit:=l.map fun s=>.string (ynq s)
theorem ywv {l:List ByteArray} {x:List UInt8}:Lit.string x∈zqb l↔x∈l.map ynq:=by
 unfold zqb
 simp only [List.mem_map,Lit.string.injEq]
theorem zif (l:List ByteArray) (k:Nat) (hk:k < l.length):zqb (l.take k)++[.string (ynq l[k])]=zqb (l.take (k+1)):=by
 unfold zqb;rw [List.take_succ_eq_append_getElem hk,List.map_append];rfl
def zqp (l:List ByteArray) (M k:Nat) (wr:World):Prop:=ynh Tryz.prog 9 4 wr M k (zqb (l.take k))∧yfi (l.take k)=true
set_option maxHeartbeats 8000000 in
theorem yzk (v:Value) (p:ProgD) (w:World) (hv:yhj w v p) (hin:yhi p) (h6:p.vars.length≤1000) (h12:p.rules.length≤1000) :
  Calls Tryz.prog 159 #[v] w fun e w'=>e=.returned (.bool (yck p))∧Below w.heap.size w w':=by
 obtain ⟨vv,rv,rfl,hvv,hrv⟩:=hv
 obtain ⟨hn0,hnv,hnr⟩:=hin
 have HNV:=Lib.hid hnv
 have HNR:=Lib.hid hnr
 obtain ⟨a0,cap0,rfl,i1,i2,i3⟩:=hvv.open
 obtain ⟨a1,cap1,rfl,j1,j2,j3⟩:=hrv.open
 have HVC:=Lib.hid i3
 have HRC:=Lib.hid j3
 have hmm:=@run_makeMap Tryz.prog
 clear i3 j3 hvv hrv hnv hnr
 rcases Bool.eq_false_or_eq_true (yit p.name) with q0|q0
 rotate_left
 ·have H:=Lib.hid (show yck p=false by unfold yck;rw [q0];rfl)
  go_enter Tryz.func159,Tryz.ntmps159
  go_wp2_with (go_at_call 214;refine (ykl _ _ hn0).mono ?_;rintro e w1 ⟨rfl,rfl⟩)
  go_ret
  exact ⟨yab H.out.symm,(Below.refl _ _).alloc (Nat.le_refl _) _⟩
 have H0:=Lib.hid (show yck p=(yfi (p.vars.map (·.name)) && yfi (p.rules.map (·.name))) by unfold yck;rw [q0];rfl)
 go_enter Tryz.func159,Tryz.ntmps159
 go_wp2_with (go_at_call 214;refine (ykl _ _ hn0).mono ?_;rintro e w1 ⟨rfl,rfl⟩)
 go_loopw [5,17] (fun _ i wr=>∃ k:Nat,k≤p.vars.length∧i=.int .i64 k∧Hid (zqp (p.vars.map (·.name)) (w.heap.size+1) k wr)∧Hid (Below (w.heap.size+1) (w.alloc (.cells #[.string p.name,.slice a0 p.vars.length cap0,.slice a1 p.rules.length cap1] 25)) wr)) (fun _ i _=>p.vars.length - (intOf i).toNat)
 case atStart=>exact ⟨0,by omega,rfl,⟨by rw [List.take_zero];simpa [zqb] using yru Tryz.prog 9 4 (w.alloc (.cells #[.string p.name,.slice a0 p.vars.length cap0,.slice a1 p.rules.length cap1] 25)),rfl⟩,(Below.refl _ _).alloc (by simp) _⟩
 case round=>
  obtain ⟨k,hk,rfl,hset,hbel⟩:=hrel
  have hbw:=yaw hbel.out
  have hbs:=ycd hbel.out
  by_cases hlt:k < p.vars.length
  ·obtain ⟨g,o,rfl,hg,hc⟩:=HVC.out (by omega)
   obtain ⟨x,hx⟩:∃ x,p.vars[k]?=some x:=⟨_,List.getElem?_eq_getElem hlt⟩
   obtain ⟨c0,c1,c2,c3,c4,c5⟩:=hc k x hx
   rw [← hbw.cell (p:=⟨g,_,none⟩) hg] at c0 c1 c2 c3 c4 c5
   have hxn:=(HNV.out x (List.mem_of_getElem? hx)).1
   have hlm:k < (p.vars.map (·.name)).length:=by simpa using hlt
   have hgx:(p.vars.map (·.name))[k]=x.name:=by
    obtain ⟨_,h2⟩:=List.getElem?_eq_some_iff.1 hx
    simp [h2]
   clear hc
   rcases Bool.eq_false_or_eq_true (yit x.name) with q1|q1
   rotate_left
   ·have H:=Lib.hid (show yck p=false by rw [H0.out,ysu k hlm (by rw [hgx];exact q1)];rfl)
    clear hx hgx
    go_wp2_with (go_at_call 214;refine (ykl _ _ hxn).mono ?_;rintro e w1 ⟨rfl,rfl⟩)
    go_ret
    exact ⟨yab H.out.symm,hbw.alloc (by omega) _⟩
   by_cases hmem:ynq x.name∈((p.vars.map (·.name)).take k).map ynq
   ·have H:=Lib.hid (show yck p=false by rw [H0.out,yzl hlm (by rw [hgx];exact hmem)];rfl)
    have hlook:∀ ob:Obj,(Instr.lookup 291 (.map (some (w.heap.size+1))) (.string x.name) false).run Tryz.prog (wr.alloc ob)=.ok (.bool true) (wr.alloc ob):=fun ob=>
     (hset.out.1.below ((Below.refl _ _).alloc (Nat.le_refl _) ob)).look yht Tryz.underlying291 Tryz.underlying4 (yqa _) (ylr x.name hxn) true (.inl ⟨ywv.2 hmem,rfl⟩)
    clear hx hgx hmem
    go_wp2_with (go_at_call 214;refine (ykl _ _ hxn).mono ?_;rintro e w1 ⟨rfl,rfl⟩)
    go_ret
    exact ⟨yab H.out.symm,hbw.alloc (by omega) _⟩
   ·have hlook:∀ ob:Obj,(Instr.lookup 291 (.map (some (w.heap.size+1))) (.string x.name) false).run Tryz.prog (wr.alloc ob)=.ok (.bool false) (wr.alloc ob):=fun ob=>
     (hset.out.1.below ((Below.refl _ _).alloc (Nat.le_refl _) ob)).look yht Tryz.underlying291 Tryz.underlying4 (yqa _) (ylr x.name hxn) false (.inr ⟨fun h=>hmem (ywv.1 h),rfl⟩)
    have HS:=Lib.hid (ypp k hlm hset.out.2 (by rw [hgx];exact q1) (by rw [hgx];exact hmem))
    have HL:=Lib.hid (show zqb ((p.vars.map (·.name)).take k)++[.string (ynq x.name)]=zqb ((p.vars.map (·.name)).take (k+1)) by rw [← zif _ k hlm,hgx])
    clear hx hgx hmem
    go_wp2_with (first|(go_at_call 214;refine (ykl _ _ hxn).mono ?_;rintro e w1 ⟨rfl,rfl⟩)|(at_mapUpdate;refine yhy rfl _ _ _ 291 rfl 9 4 yht Tryz.underlying291 Tryz.underlying4 (w.heap.size+1) k _ rfl (by exact hset.out.1.below ((Below.refl _ _).alloc (Nat.le_refl _) _)) (by unfold maxLen;omega) _ (.string (ynq x.name)) rfl rfl (ylr x.name hxn) ?_;intro w2 hset2 hgrow))
    refine ⟨⟨k+1,by omega,by go_num,⟨?_,HS.out⟩,?_⟩,by simp [intOf];omega⟩
    ·rw [HL.out] at hset2;exact hset2
    ·exact (hbel.out.alloc hbs _).grown hgrow (by simp;omega) (fun q hq=>by cases hq;exact Nat.le_refl _)
  ·obtain rfl:k=p.vars.length:=by omega
   obtain ⟨wo,rfl⟩:∃ wo:World,wo=wr:=⟨_,rfl⟩
   have hnv:yfi (p.vars.map (·.name))=true:=by
    have:=hset.out.2
    rw [List.take_of_length_le (by simp)] at this
    exact this
   have H1:=Lib.hid (show yck p=yfi (p.rules.map (·.name)) by rw [H0.out,hnv];rfl)
   have hbox:=ycp hbel.out 2
   clear hnv hset H0
   simp at hbox
   have hne:w.heap.size≠wo.heap.size:=by omega
   have hlt0:w.heap.size < wo.heap.size:=by omega
   go_wp2_with fail
   have hb0:Below (w.heap.size+1) (w.alloc (.cells #[.string p.name,.slice a0 p.vars.length cap0,.slice a1 p.rules.length cap1] 25)) (wo.alloc (.map #[] 0)):=hbel.out.alloc hbs _
   go_loopw [8,39] (fun _ i wr=>∃ k:Nat,k≤p.rules.length∧i=.int .i64 k∧Hid (zqp (p.rules.map (·.name)) wo.heap.size k wr)∧Hid (Below (w.heap.size+1) (w.alloc (.cells #[.string p.name,.slice a0 p.vars.length cap0,.slice a1 p.rules.length cap1] 25)) wr)) (fun _ i _=>p.rules.length - (intOf i).toNat)
   case atStart=>exact ⟨0,by omega,rfl,⟨by rw [List.take_zero];simpa [zqb] using yru Tryz.prog 9 4 wo,rfl⟩,hb0⟩
   case round=>
    clear hbox hb0 hne hlt0 hbel hbw
    obtain ⟨k,hk,rfl,hset,hbel⟩:=hrel
    have hbw:=yaw hbel.out
    have hbs2:=ycd hbel.out
    by_cases hlt:k < p.rules.length
    ·obtain ⟨g,o,rfl,hg,hc⟩:=HRC.out (by omega)
     obtain ⟨x,hx⟩:∃ x,p.rules[k]?=some x:=⟨_,List.getElem?_eq_getElem hlt⟩
     obtain ⟨gv,sv,ht,hs,c0,c1,c2⟩:=hc k x hx
     obtain ⟨ga,gcap,rfl,_,_,_⟩:=ht.open
     obtain ⟨sa,scap,rfl,_,_,_⟩:=yfu hs
     rw [← hbw.cell (p:=⟨g,_,none⟩) hg] at c0 c1 c2
     have hxn:=(HNR.out x (List.mem_of_getElem? hx)).1
     have hlm:k < (p.rules.map (·.name)).length:=by simpa using hlt
     have hgx:(p.rules.map (·.name))[k]=x.name:=by
      obtain ⟨_,h2⟩:=List.getElem?_eq_some_iff.1 hx
      simp [h2]
     clear hc ht hs
     rcases Bool.eq_false_or_eq_true (yit x.name) with q1|q1
     rotate_left
     ·have H:=Lib.hid (show yck p=false by rw [H1.out,ysu k hlm (by rw [hgx];exact q1)])
      clear hx hgx
      go_wp2_with (go_at_call 214;refine (ykl _ _ hxn).mono ?_;rintro e w1 ⟨rfl,rfl⟩)
      go_ret
      exact ⟨yab H.out.symm,hbw.alloc (by omega) _⟩
     by_cases hmem:ynq x.name∈((p.rules.map (·.name)).take k).map ynq
     ·have H:=Lib.hid (show yck p=false by rw [H1.out,yzl hlm (by rw [hgx];exact hmem)])
      have hlook:∀ ob:Obj,(Instr.lookup 291 (.map (some wo.heap.size)) (.string x.name) false).run Tryz.prog (wr.alloc ob)=.ok (.bool true) (wr.alloc ob):=fun ob=>
       (hset.out.1.below ((Below.refl _ _).alloc (Nat.le_refl _) ob)).look yht Tryz.underlying291 Tryz.underlying4 (yqa _) (ylr x.name hxn) true (.inl ⟨ywv.2 hmem,rfl⟩)
      clear hx hgx hmem
      go_wp2_with (go_at_call 214;refine (ykl _ _ hxn).mono ?_;rintro e w1 ⟨rfl,rfl⟩)
      go_ret
      exact ⟨yab H.out.symm,hbw.alloc (by omega) _⟩
     ·have hlook:∀ ob:Obj,(Instr.lookup 291 (.map (some wo.heap.size)) (.string x.name) false).run Tryz.prog (wr.alloc ob)=.ok (.bool false) (wr.alloc ob):=fun ob=>
       (hset.out.1.below ((Below.refl _ _).alloc (Nat.le_refl _) ob)).look yht Tryz.underlying291 Tryz.underlying4 (yqa _) (ylr x.name hxn) false (.inr ⟨fun h=>hmem (ywv.1 h),rfl⟩)
      have HS:=Lib.hid (ypp k hlm hset.out.2 (by rw [hgx];exact q1) (by rw [hgx];exact hmem))
      have HL:=Lib.hid (show zqb ((p.rules.map (·.name)).take k)++[.string (ynq x.name)]=zqb ((p.rules.map (·.name)).take (k+1)) by rw [← zif _ k hlm,hgx])
      clear hx hgx hmem
      go_wp2_with (first|(go_at_call 214;refine (ykl _ _ hxn).mono ?_;rintro e w1 ⟨rfl,rfl⟩)|(at_mapUpdate;refine yhy rfl _ _ _ 291 rfl 9 4 yht Tryz.underlying291 Tryz.underlying4 wo.heap.size k _ rfl (by exact hset.out.1.below ((Below.refl _ _).alloc (Nat.le_refl _) _)) (by unfold maxLen;omega) _ (.string (ynq x.name)) rfl rfl (ylr x.name hxn) ?_;intro w2 hset2 hgrow))
      refine ⟨⟨k+1,by omega,by go_num,⟨?_,HS.out⟩,?_⟩,by simp [intOf];omega⟩
      ·rw [HL.out] at hset2;exact hset2
      ·exact (hbel.out.alloc hbs2 _).grown hgrow (by simp;omega) (fun q hq=>by cases hq;exact hbs)
    ·obtain rfl:k=p.rules.length:=by omega
     have H:=hset.out.2
     rw [List.take_of_length_le (by simp)] at H
     have H2:=Lib.hid (show yck p=true by rw [H1.out,H])
     clear H
     go_wp2_with fail
     go_ret
     exact ⟨yab H2.out.symm,hbw⟩
end
section
open Go.RowKit Go.Maps
set_option maxHeartbeats 8000000 in
theorem zdi (v:Value) (p:ProgD) (w:World) (hv:yhj w v p) (hin:yhi p) (h6:p.vars.length≤1000) (h12:p.rules.length≤1000) :
  Calls Tryz.prog 257 #[v] w fun e w'=>e=.returned (.bool (yck p))∧Below w.heap.size w w':=by
 obtain ⟨vv,rv,rfl,hvv,hrv⟩:=hv
 obtain ⟨hn0,hnv,hnr⟩:=hin
 have HNV:=Lib.hid hnv
 have HNR:=Lib.hid hnr
 obtain ⟨a0,cap0,rfl,i1,i2,i3⟩:=hvv.open
 obtain ⟨a1,cap1,rfl,j1,j2,j3⟩:=hrv.open
 have HVC:=Lib.hid i3
 have HRC:=Lib.hid j3
 clear i3 j3 hvv hrv hnv hnr
 rcases Bool.eq_false_or_eq_true (yit p.name) with q0|q0
 rotate_left
 ·have H:=Lib.hid (show yck p=false by unfold yck;rw [q0];rfl)
  go_enter Tryz.func257,Tryz.ntmps257
  go_wp2_with (go_at_call 284;refine (yly _ _ hn0).mono ?_;rintro e w1 ⟨rfl,rfl⟩)
  go_ret
  exact ⟨yab H.out.symm,(Below.refl _ _).alloc (Nat.le_refl _) _⟩
 have H0:=Lib.hid (show yck p=(yfi (p.vars.map (·.name)) && yfi (p.rules.map (·.name))) by unfold yck;rw [q0];rfl)
 go_enter Tryz.func257,Tryz.ntmps257
 go_wp2_with (go_at_call 284;refine (yly _ _ hn0).mono ?_;rintro e w1 ⟨rfl,rfl⟩)
 go_loopw [3,4] (fun i _ wr=>∃ k:Nat,k≤p.vars.length∧i=.int .i64 k∧Hid (yfi ((p.vars.map (·.name)).take k)=true)∧Hid (Below (w.heap.size+1) (w.alloc (.cells #[.string p.name,.slice a0 p.vars.length cap0,.slice a1 p.rules.length cap1] 25)) wr)) (fun i _ _=>p.vars.length - (intOf i).toNat)
 case atStart=>exact ⟨0,by omega,rfl,rfl,Below.refl _ _⟩
 case round=>
  obtain ⟨k,hk,rfl,hset,hbel⟩:=hrel
  have hbw:=yaw hbel.out
  have hbs:=ycd hbel.out
  have hbox:=ycp hbel.out 1
  simp at hbox
  by_cases hlt:k < p.vars.length
  ·obtain ⟨x,hx⟩:∃ x,p.vars[k]?=some x:=⟨_,List.getElem?_eq_getElem hlt⟩
   have hxn:=(HNV.out x (List.mem_of_getElem? hx)).1
   have hlm:k < (p.vars.map (·.name)).length:=by simpa using hlt
   have hgx:(p.vars.map (·.name))[k]=x.name:=by
    obtain ⟨_,h2⟩:=List.getElem?_eq_some_iff.1 hx
    simp [h2]
   have HX:=Lib.hid hx
   have HGX:=Lib.hid hgx
   clear hx hgx
   obtain ⟨wo,rfl⟩:∃ wo:World,wo=wr:=⟨_,rfl⟩
   go_wp2_with fail
   go_loopw [4] (fun i wr=>∃ j:Nat,j≤k∧i=.int .i64 j∧Hid (ynq x.name ∉ ((p.vars.map (·.name)).take j).map ynq)∧Hid (Below (w.heap.size+1) (w.alloc (.cells #[.string p.name,.slice a0 p.vars.length cap0,.slice a1 p.rules.length cap1] 25)) wr)) (fun i _=>k - (intOf i).toNat)
   case atStart=>exact ⟨0,by omega,rfl,(fun h=>by simp at h),hbel⟩
   case round=>
    clear hbox hbel hbw hbs
    obtain ⟨j,hj,rfl,hnot,hbel⟩:=hrel
    have hbw:=yaw hbel.out
    have hbs:=ycd hbel.out
    have hbox:=ycp hbel.out 1
    simp at hbox
    obtain ⟨g,o,rfl,hg,hc⟩:=HVC.out (by omega)
    have hx:=HX.out
    obtain ⟨c0,_,_,_,_,_⟩:=hc k x hx
    by_cases hjk:j < k
    ·obtain ⟨y,hy⟩:∃ y,p.vars[j]?=some y:=⟨_,List.getElem?_eq_getElem (by omega)⟩
     obtain ⟨d0,_,_,_,_,_⟩:=hc j y hy
     have hgy:(p.vars.map (·.name))[j]'(by simp;omega)=y.name:=by
      obtain ⟨_,h2⟩:=List.getElem?_eq_some_iff.1 hy
      simp [h2]
     have HGY:=Lib.hid hgy
     rw [← hbw.cell (p:=⟨g,_,none⟩) hg] at c0 d0
     clear hc hx hy hgy
     by_cases he:ynq y.name=ynq x.name
     ·have hb:(y.name.toList == x.name.toList)=true:=by rw [ywx];simpa using he
      have H:=Lib.hid (show yck p=false by rw [H0.out,yrl j k hjk hlm (by rw [HGY.out,HGX.out];exact he)];rfl)
      clear he
      go_wp2_with fail
      go_quiet (fail)
      go_wp2_with fail
      go_ret
      exact ⟨yab H.out.symm,below_drewN hbw _⟩
     ·have hb:(y.name.toList == x.name.toList)=false:=by rw [ywx];simpa using he
      have HN2:=Lib.hid (show ynq x.name ∉ ((p.vars.map (·.name)).take (j+1)).map ynq by
       rw [List.take_succ_eq_append_getElem (show j < (p.vars.map (·.name)).length by simp;omega),List.map_append,List.mem_append,HGY.out]
       rintro (h|h)
       ·exact hnot.out h
       ·simp at h;exact he h.symm)
      clear he
      go_wp2_with fail
      go_quiet (fail)
      go_wp2_with fail
      exact ⟨⟨j+1,by omega,by go_num,HN2,below_drewN hbel.out _⟩,by simp [intOf];omega⟩
    ·obtain rfl:j=k:=by omega
     rw [← hbw.cell (p:=⟨g,_,none⟩) hg] at c0
     clear hc hx
     rcases Bool.eq_false_or_eq_true (yit x.name) with q1|q1
     ·have HS:=Lib.hid (ypp j hlm hset.out (by rw [HGX.out];exact q1) (by rw [HGX.out];exact hnot.out))
      go_wp2_with (go_at_call 284;refine (yly _ _ hxn).mono ?_;rintro e w1 ⟨rfl,rfl⟩)
      exact ⟨⟨j+1,by omega,by go_num,HS,hbel⟩,by simp [intOf];omega⟩
     ·have H:=Lib.hid (show yck p=false by rw [H0.out,ysu j hlm (by rw [HGX.out];exact q1)];rfl)
      go_wp2_with (go_at_call 284;refine (yly _ _ hxn).mono ?_;rintro e w1 ⟨rfl,rfl⟩)
      go_ret
      exact ⟨yab H.out.symm,hbw⟩
  ·obtain rfl:k=p.vars.length:=by omega
   have hnv:=hset.out
   rw [List.take_of_length_le (by simp)] at hnv
   have H1:=Lib.hid (show yck p=yfi (p.rules.map (·.name)) by rw [H0.out,hnv];rfl)
   clear hnv hset H0
   obtain ⟨wo,rfl⟩:∃ wo:World,wo=wr:=⟨_,rfl⟩
   go_wp2_with fail
   go_loopw [5,6] (fun i _ wr=>∃ k:Nat,k≤p.rules.length∧i=.int .i64 k∧Hid (yfi ((p.rules.map (·.name)).take k)=true)∧Hid (Below (w.heap.size+1) (w.alloc (.cells #[.string p.name,.slice a0 p.vars.length cap0,.slice a1 p.rules.length cap1] 25)) wr)) (fun i _ _=>p.rules.length - (intOf i).toNat)
   case atStart=>exact ⟨0,by omega,rfl,rfl,hbel⟩
   case round=>
    clear hbel hbw hbs hbox
    obtain ⟨k,hk,rfl,hset,hbel⟩:=hrel
    have hbw:=yaw hbel.out
    have hbs:=ycd hbel.out
    have hbox:=ycp hbel.out 2
    simp at hbox
    by_cases hlt:k < p.rules.length
    ·obtain ⟨x,hx⟩:∃ x,p.rules[k]?=some x:=⟨_,List.getElem?_eq_getElem hlt⟩
     have hxn:=(HNR.out x (List.mem_of_getElem? hx)).1
     have hlm:k < (p.rules.map (·.name)).length:=by simpa using hlt
     have hgx:(p.rules.map (·.name))[k]=x.name:=by
      obtain ⟨_,h2⟩:=List.getElem?_eq_some_iff.1 hx
      simp [h2]
     have HX:=Lib.hid hx
     have HGX:=Lib.hid hgx
     clear hx hgx
     obtain ⟨wo,rfl⟩:∃ wo:World,wo=wr:=⟨_,rfl⟩
     go_wp2_with fail
     go_loopw [6] (fun i wr=>∃ j:Nat,j≤k∧i=.int .i64 j∧Hid (ynq x.name ∉ ((p.rules.map (·.name)).take j).map ynq)∧Hid (Below (w.heap.size+1) (w.alloc (.cells #[.string p.name,.slice a0 p.vars.length cap0,.slice a1 p.rules.length cap1] 25)) wr)) (fun i _=>k - (intOf i).toNat)
     case atStart=>exact ⟨0,by omega,rfl,(fun h=>by simp at h),hbel⟩
     case round=>
      clear hbox hbel hbw hbs
      obtain ⟨j,hj,rfl,hnot,hbel⟩:=hrel
      have hbw:=yaw hbel.out
      have hbs:=ycd hbel.out
      have hbox:=ycp hbel.out 2
      simp at hbox
      obtain ⟨g,o,rfl,hg,hc⟩:=HRC.out (by omega)
      have hx:=HX.out
      obtain ⟨_,_,_,_,c0,_,_⟩:=hc k x hx
      by_cases hjk:j < k
      ·obtain ⟨y,hy⟩:∃ y,p.rules[j]?=some y:=⟨_,List.getElem?_eq_getElem (by omega)⟩
       obtain ⟨_,_,_,_,d0,_,_⟩:=hc j y hy
       have hgy:(p.rules.map (·.name))[j]'(by simp;omega)=y.name:=by
        obtain ⟨_,h2⟩:=List.getElem?_eq_some_iff.1 hy
        simp [h2]
       have HGY:=Lib.hid hgy
       rw [← hbw.cell (p:=⟨g,_,none⟩) hg] at c0 d0
       clear hc hx hy hgy
       by_cases he:ynq y.name=ynq x.name
       ·have hb:(y.name.toList == x.name.toList)=true:=by rw [ywx];simpa using he
        have H:=Lib.hid (show yck p=false by rw [H1.out,yrl j k hjk hlm (by rw [HGY.out,HGX.out];exact he)])
        clear he
        go_wp2_with fail
        go_quiet (fail)
        go_wp2_with fail
        go_ret
        exact ⟨yab H.out.symm,below_drewN hbw _⟩
       ·have hb:(y.name.toList == x.name.toList)=false:=by rw [ywx];simpa using he
        have HN2:=Lib.hid (show ynq x.name ∉ ((p.rules.map (·.name)).take (j+1)).map ynq by
         rw [List.take_succ_eq_append_getElem (show j < (p.rules.map (·.name)).length by simp;omega),List.map_append,List.mem_append,HGY.out]
         rintro (h|h)
         ·exact hnot.out h
         ·simp at h;exact he h.symm)
        clear he
        go_wp2_with fail
        go_quiet (fail)
        go_wp2_with fail
        exact ⟨⟨j+1,by omega,by go_num,HN2,below_drewN hbel.out _⟩,by simp [intOf];omega⟩
      ·obtain rfl:j=k:=by omega
       rw [← hbw.cell (p:=⟨g,_,none⟩) hg] at c0
       clear hc hx
       rcases Bool.eq_false_or_eq_true (yit x.name) with q1|q1
       ·have HS:=Lib.hid (ypp j hlm hset.out (by rw [HGX.out];exact q1) (by rw [HGX.out];exact hnot.out))
        go_wp2_with (go_at_call 284;refine (yly _ _ hxn).mono ?_;rintro e w1 ⟨rfl,rfl⟩)
        exact ⟨⟨j+1,by omega,by go_num,HS,hbel⟩,by simp [intOf];omega⟩
       ·have H:=Lib.hid (show yck p=false by rw [H1.out,ysu j hlm (by rw [HGX.out];exact q1)])
        go_wp2_with (go_at_call 284;refine (yly _ _ hxn).mono ?_;rintro e w1 ⟨rfl,rfl⟩)
        go_ret
        exact ⟨yab H.out.symm,hbw⟩
    ·obtain rfl:k=p.rules.length:=by omega
     have H:=hset.out
     rw [List.take_of_length_le (by simp)] at H
     have H2:=Lib.hid (show yck p=true by rw [H1.out,H])
     clear H
     go_wp2_with fail
     go_ret
     exact ⟨yab H2.out.symm,hbw⟩
end
section
open Go.RowKit Go.Maps
def zqg (n:Int) (s:SetD):Bool:=yca s.var 0 (n - 1) && ycr s.val n
def yqc (l:List SetD) (n:Int):Bool:=l.all (zqg n) && decide ((l.map (·.var)).Nodup)
theorem yhs (r:RuleD) (n:Int):ybl r n=(decide (1≤r.sets.length) && (decide (r.sets.length≤6) && (ycr r.guard n && yqc r.sets n))):=rfl
theorem yxf {l:List SetD} {n:Int} (k:Nat) (hk:k < l.length) (h:zqg n l[k]=false):yqc l n=false:=by
 unfold yqc
 have:l.all (zqg n)=false:=by rw [List.all_eq_false];exact ⟨l[k],List.getElem_mem hk,by simp [h]⟩
 rw [this];rfl
theorem zdm {l:List SetD} {n:Int} (j k:Nat) (hjk:j < k) (hk:k < l.length) (h:(l[j]'(by omega)).var=l[k].var):yqc l n=false:=by
 unfold yqc
 have:¬ (l.map (·.var)).Nodup:=by
  intro hn
  have hn':=List.pairwise_iff_getElem.1 hn j k (by simp;omega) (by simpa using hk) hjk
  apply hn'
  simp [h]
 simp [this]
theorem zjk {l:List SetD} {n:Int} (k:Nat) (hk:k < l.length) (h:yqc (l.take k) n=true) (h1:zqg n l[k]=true) (h2:l[k].var ∉ (l.take k).map (·.var)):yqc (l.take (k+1)) n=true:=by
 unfold yqc at *
 rw [Bool.and_eq_true,decide_eq_true_eq] at *
 rw [List.take_succ_eq_append_getElem hk,List.all_append,h.1,List.map_append]
 refine ⟨by simpa using h1,?_⟩
 rw [List.nodup_append]
 refine ⟨h.2,by simp,?_⟩
 intro a ha b hb
 simp only [List.map_singleton,List.mem_singleton] at hb
 subst hb
 intro hab
 exact h2 (hab ▸ ha)
theorem mem_vars {l:List SetD} {k:Nat} {x:Int} (h:x∈(l.take k).map (·.var)):∃ j,∃ h:j < l.length,j < k∧l[j].var=x:=by
 rw [List.mem_map] at h
 obtain ⟨s,hs,rfl⟩:=h
 obtain ⟨j,hj⟩:=List.getElem?_of_mem hs
 have hjk:j < k:=by
  have:=(List.getElem?_eq_some_iff.1 hj).1
  rw [List.length_take] at this;omega
 rw [List.getElem?_take,if_pos hjk] at hj
 obtain ⟨h1,h2⟩:=List.getElem?_eq_some_iff.1 hj
 exact ⟨j,h1,hjk,by rw [h2]⟩
theorem sets_again {l:List SetD} {n:Int} {k:Nat} (hk:k < l.length) (h:l[k].var∈(l.take k).map (·.var)):yqc l n=false:=by
 obtain ⟨j,hj,hjk,he⟩:=mem_vars h
 exact zdm j k hjk hk he
def zex (l:List SetD):List Lit:=l.map fun s=>.int .i64 s.var
theorem zik {l:List SetD} {x:Int}:Lit.int .i64 x∈zex l↔x∈l.map (·.var):=by
 unfold zex
 simp only [List.mem_map,Lit.int.injEq,true_and]
theorem ilits_step (l:List SetD) (k:Nat) (hk:k < l.length):zex (l.take k)++[.int .i64 l[k].var]=zex (l.take (k+1)):=by
 unfold zex;rw [List.take_succ_eq_append_getElem hk,List.map_append];rfl
def SetsAt (l:List SetD) (n:Int) (M k:Nat) (wr:World):Prop:=ynh Tryz.prog 3 4 wr M k (zex (l.take k))∧yqc (l.take k) n=true
theorem zfa:Keyed Tryz.prog 3:=int_keyed Tryz.underlying3
theorem wf_of_in {x:Int} (h:yqg x):(Lit.int .i64 x).wf=true:=by
 obtain ⟨h1,h2⟩:=h
 have e1:IntKind.i64.min=-9223372036854775808:=by decide
 have e2:IntKind.i64.max=9223372036854775807:=by decide
 simp only [Lit.wf,Bool.and_eq_true,decide_eq_true_eq]
 omega
theorem zsb (x:Int) (h:yqg x):keyOf Tryz.prog 3 (.int .i64 x)=some (.int .i64 x):=keyOf_int_mk Tryz.underlying3 (wf_of_in h)
def zgo (r:RuleD):Prop:=r.guard.length≤1000∧r.sets.length≤1000∧∀ s∈r.sets,s.val.length≤1000
set_option maxHeartbeats 8000000 in
theorem yud (gv sv:Value) (r:RuleD) (n:Nat) (w:World) (hg:ycy w gv r.guard) (hs:Seq (ykv w) 2 w sv r.sets) (hin:zbo r) (hl:zgo r) (hn:n≤1000) :
  Calls Tryz.prog 161 #[.agg #[.string r.name,gv,sv],.int .i64 n] w fun e w'=>e=.returned (.bool (ybl r n))∧Below w.heap.size w w':=by
 obtain ⟨hl1,hl2,hl3⟩:=hl
 obtain ⟨_,_,hi3⟩:=hin
 have HI:=Lib.hid hi3
 have HL:=Lib.hid hl3
 have HG:=Lib.hid hg
 have HS:=Lib.hid hs
 obtain ⟨ga,gcap,rfl,g1,g2,g3⟩:=hg.open
 obtain ⟨sa,scap,rfl,s1,s2,s3⟩:=yfu hs
 have HC:=Lib.hid s3
 have hmm:=@run_makeMap Tryz.prog
 clear hi3 hl3 g3 s3 hs hg
 by_cases h0:r.sets.length=0
 ·have b0:((r.sets.length:Int) == 0)=true:=by simp [h0]
  have H:=Lib.hid (show ybl r n=false by rw [yhs,h0];rfl)
  have h0':r.sets.length < 1:=by omega
  clear h0
  go_enter Tryz.func161,Tryz.ntmps161
  go_wp2_with fail
  go_ret
  exact ⟨yab H.out.symm,(Below.refl _ _).alloc (Nat.le_refl _) _⟩
 have b0:((r.sets.length:Int) == 0)=false:=beq_eq_false_iff_ne.2 (by omega)
 by_cases h6:6 < r.sets.length
 ·have H:=Lib.hid (show ybl r n=false by rw [yhs];simp;omega)
  have b6:decide (6 < r.sets.length)=true:=by simp;omega
  go_enter Tryz.func161,Tryz.ntmps161
  go_wp2_with fail
  go_ret
  exact ⟨yab H.out.symm,(Below.refl _ _).alloc (Nat.le_refl _) _⟩
 have b6:decide (6 < r.sets.length)=false:=by simp;omega
 have b6':decide (6 < (r.sets.length:Int))=false:=by simp;omega
 have b1:decide (1≤r.sets.length)=true:=by simp;omega
 have b1':decide (r.sets.length≤6)=true:=by simp;omega
 rcases Bool.eq_false_or_eq_true (ycr r.guard n) with q0|q0
 rotate_left
 ·have H:=Lib.hid (show ybl r n=false by rw [yhs,q0];simp)
  go_enter Tryz.func161,Tryz.ntmps161
  go_wp2_with fail
  refine (yim _ r.guard _ _ hl1 (by exact HG.out.below ((Below.refl _ _).alloc (Nat.le_refl _) _))).mono ?_
  rintro e w1 ⟨rfl,hb1⟩
  go_wp2_with fail
  go_ret
  exact ⟨yab H.out.symm,yaw (by simpa using hb1)⟩
 have H0:=Lib.hid (show ybl r n=yqc r.sets n by rw [yhs,q0,b1,b1'];rfl)
 clear b1 b1'
 go_enter Tryz.func161,Tryz.ntmps161
 go_wp2_with fail
 refine (yim _ r.guard _ _ hl1 (by exact HG.out.below ((Below.refl _ _).alloc (Nat.le_refl _) _))).mono ?_
 rintro e w1 ⟨rfl,hb1'⟩
 have hb1:Below (w.heap.size+1) (w.alloc (.cells #[.string r.name,.slice ga r.guard.length gcap,.slice sa r.sets.length scap] 97)) w1:=by simpa using hb1'
 have hbs1:=ycd hb1
 have hbox:=ycp hb1 2
 simp at hbox
 have hne:w.heap.size≠w1.heap.size:=by omega
 have hlt0:w.heap.size < w1.heap.size:=by omega
 clear hb1'
 go_wp2_with fail
 have hb0:Below (w.heap.size+1) (w.alloc (.cells #[.string r.name,.slice ga r.guard.length gcap,.slice sa r.sets.length scap] 97)) (w1.alloc (.map #[] 0)):=hb1.alloc hbs1 _
 go_loopw [7,29] (fun _ i wr=>∃ k:Nat,k≤r.sets.length∧i=.int .i64 k∧Hid (SetsAt r.sets n w1.heap.size k wr)∧Hid (Below (w.heap.size+1) (w.alloc (.cells #[.string r.name,.slice ga r.guard.length gcap,.slice sa r.sets.length scap] 97)) wr)) (fun _ i _=>r.sets.length - (intOf i).toNat)
 case atStart=>exact ⟨0,by omega,rfl,⟨by rw [List.take_zero];simpa [zex] using yru Tryz.prog 3 4 w1,rfl⟩,hb0⟩
 case round=>
  clear hb0 hbox hne hlt0
  obtain ⟨k,hk,rfl,hset,hbel⟩:=hrel
  have hbw:=yaw hbel.out
  have hbs:=ycd hbel.out
  by_cases hlt:k < r.sets.length
  ·obtain ⟨g,o,rfl,hg,hc⟩:=HC.out (by omega)
   obtain ⟨x,hx⟩:∃ x,r.sets[k]?=some x:=⟨_,List.getElem?_eq_getElem hlt⟩
   obtain ⟨tv,ht,c0,c1⟩:=hc k x hx
   have HT:=Lib.hid ht
   obtain ⟨ta,tcap,rfl,_,_,_⟩:=ht.open
   rw [← hbw.cell (p:=⟨g,_,none⟩) hg] at c0 c1
   have hgx:r.sets[k]=x:=(List.getElem?_eq_some_iff.1 hx).2
   have hxi:=HI.out x (List.mem_of_getElem? hx)
   have hxl:=HL.out x (List.mem_of_getElem? hx)
   have HXI:=Lib.hid hxi
   have HGX:=Lib.hid hgx
   clear hc ht hx hgx hxi
   rcases Bool.eq_false_or_eq_true (yca x.var 0 ((n:Int) - 1)) with q1|q1
   rotate_left
   ·have H:=Lib.hid (show ybl r n=false by rw [H0.out,yxf k hlt (by rw [HGX.out,zqg,q1];rfl)])
    go_wp2_with (go_at_call 220;refine (yeo _ _ _ _).mono ?_;rintro e w2 ⟨rfl,rfl⟩)
    go_ret
    exact ⟨yab H.out.symm,hbw.alloc (by omega) _⟩
   by_cases hmem:x.var∈(r.sets.take k).map (·.var)
   ·have H:=Lib.hid (show ybl r n=false by rw [H0.out,sets_again hlt (by rw [HGX.out];exact hmem)])
    have hlook:∀ ob:Obj,(Instr.lookup 292 (.map (some w1.heap.size)) (.int .i64 x.var) false).run Tryz.prog (wr.alloc ob)=.ok (.bool true) (wr.alloc ob):=fun ob=>
     (hset.out.1.below ((Below.refl _ _).alloc (Nat.le_refl _) ob)).look zfa Tryz.underlying292 Tryz.underlying4 (yqa _) (zsb x.var HXI.out.1) true (.inl ⟨zik.2 hmem,rfl⟩)
    clear hmem
    go_wp2_with (go_at_call 220;refine (yeo _ _ _ _).mono ?_;rintro e w2 ⟨rfl,rfl⟩)
    go_ret
    exact ⟨yab H.out.symm,hbw.alloc (by omega) _⟩
   have hlook:∀ ob:Obj,(Instr.lookup 292 (.map (some w1.heap.size)) (.int .i64 x.var) false).run Tryz.prog (wr.alloc ob)=.ok (.bool false) (wr.alloc ob):=fun ob=>
     (hset.out.1.below ((Below.refl _ _).alloc (Nat.le_refl _) ob)).look zfa Tryz.underlying292 Tryz.underlying4 (yqa _) (zsb x.var HXI.out.1) false (.inr ⟨fun h=>hmem (zik.1 h),rfl⟩)
   rcases Bool.eq_false_or_eq_true (ycr x.val n) with q2|q2
   rotate_left
   ·have H:=Lib.hid (show ybl r n=false by rw [H0.out,yxf k hlt (by rw [HGX.out,zqg,q2];simp)])
    clear hmem
    go_wp2_with (go_at_call 220;refine (yeo _ _ _ _).mono ?_;rintro e w2 ⟨rfl,rfl⟩)
    refine (yim _ x.val _ _ hxl (by exact HT.out.below (hbw.alloc (by omega) _))).mono ?_
    rintro e w2 ⟨rfl,hb2⟩
    go_wp2_with fail
    go_ret
    exact ⟨yab H.out.symm,(hbw.alloc (by omega) _).trans (hb2.mono (by simp;omega))⟩
   ·have HST:=Lib.hid (zjk (n:=(n:Int)) k hlt hset.out.2 (by rw [HGX.out,zqg,q1,q2];rfl) (by rw [HGX.out];exact hmem))
    have HLT:=Lib.hid (show zex (r.sets.take k)++[.int .i64 x.var]=zex (r.sets.take (k+1)) by rw [← ilits_step _ k hlt,HGX.out])
    clear hmem
    go_wp2_with (go_at_call 220;refine (yeo _ _ _ _).mono ?_;rintro e w2 ⟨rfl,rfl⟩)
    refine (yim _ x.val _ _ hxl (by exact HT.out.below (hbw.alloc (by omega) _))).mono ?_
    rintro e w2 ⟨rfl,hb2'⟩
    have hb2:Below (wr.heap.size+1) (wr.alloc (.cells #[.int .i64 x.var,.slice ta x.val.length tcap] 99)) w2:=by simpa using hb2'
    have hbx:=ycp hb2 0
    have hbs2:=ycd hb2
    simp at hbx
    clear hb2' hlook
    go_wp2_with (at_mapUpdate;refine yhy rfl _ _ _ 292 rfl 3 4 zfa Tryz.underlying292 Tryz.underlying4 w1.heap.size k _ rfl (by exact hset.out.1.below (yaw hb2)) (by unfold maxLen;omega) _ (.int .i64 x.var) rfl rfl (zsb x.var HXI.out.1) ?_;intro w3 hset3 hgrow)
    refine ⟨⟨k+1,by omega,by go_num,⟨?_,HST.out⟩,?_⟩,by simp [intOf];omega⟩
    ·rw [HLT.out] at hset3;exact hset3
    ·exact (hbel.out.trans ((yaw hb2).mono hbs)).grown hgrow (by omega) (fun q hq=>by cases hq;exact hbs1)
  ·obtain rfl:k=r.sets.length:=by omega
   have H:=hset.out.2
   rw [List.take_of_length_le (by simp)] at H
   have H2:=Lib.hid (show ybl r n=true by rw [H0.out,H])
   clear H
   go_wp2_with fail
   go_ret
   exact ⟨yab H2.out.symm,hbw⟩
end
section
open Go.RowKit Go.Maps
set_option maxHeartbeats 8000000 in
theorem zac (gv sv:Value) (r:RuleD) (n:Nat) (w:World) (hg:ycy w gv r.guard) (hs:Seq (ykv w) 2 w sv r.sets) (hin:zbo r) (hl:zgo r) (hn:n≤1000) :
  Calls Tryz.prog 259 #[.agg #[.string r.name,gv,sv],.int .i64 n] w fun e w'=>e=.returned (.bool (ybl r n))∧Below w.heap.size w w':=by
 obtain ⟨hl1,hl2,hl3⟩:=hl
 obtain ⟨_,_,hi3⟩:=hin
 have HI:=Lib.hid hi3
 have HL:=Lib.hid hl3
 have HG:=Lib.hid hg
 have HS:=Lib.hid hs
 obtain ⟨ga,gcap,rfl,g1,g2,g3⟩:=hg.open
 obtain ⟨sa,scap,rfl,s1,s2,s3⟩:=yfu hs
 have HC:=Lib.hid s3
 clear hi3 hl3 g3 s3 hs hg
 have HW:Hid (ybl r n=(yca r.sets.length 1 6 && (ycr r.guard n && yqc r.sets n))):=by
  unfold Hid
  rw [yhs,← Bool.and_assoc]
  congr 1
  rw [Bool.eq_iff_iff];simp [yca];omega
 rcases Bool.eq_false_or_eq_true (yca r.sets.length 1 6) with qw|qw
 rotate_left
 ·have H:=Lib.hid (show ybl r n=false by rw [HW.out,qw];rfl)
  go_enter Tryz.func259,Tryz.ntmps259
  go_wp2_with (go_at_call 256;refine (yfm _ _ _ _).mono ?_;rintro e w2 ⟨rfl,rfl⟩)
  go_ret
  exact ⟨yab H.out.symm,(Below.refl _ _).alloc (Nat.le_refl _) _⟩
 rcases Bool.eq_false_or_eq_true (ycr r.guard n) with q0|q0
 rotate_left
 ·have H:=Lib.hid (show ybl r n=false by rw [HW.out,q0,qw];rfl)
  go_enter Tryz.func259,Tryz.ntmps259
  go_wp2_with (go_at_call 256;refine (yfm _ _ _ _).mono ?_;rintro e w2 ⟨rfl,rfl⟩)
  refine (ypv _ r.guard _ _ hl1 (by exact HG.out.below ((Below.refl _ _).alloc (Nat.le_refl _) _))).mono ?_
  rintro e w1 ⟨rfl,hb1⟩
  go_wp2_with fail
  go_ret
  exact ⟨yab H.out.symm,yaw (by simpa using hb1)⟩
 have H0:=Lib.hid (show ybl r n=yqc r.sets n by rw [HW.out,q0,qw];rfl)
 go_enter Tryz.func259,Tryz.ntmps259
 go_wp2_with (go_at_call 256;refine (yfm _ _ _ _).mono ?_;rintro e w2 ⟨rfl,rfl⟩)
 refine (ypv _ r.guard _ _ hl1 (by exact HG.out.below ((Below.refl _ _).alloc (Nat.le_refl _) _))).mono ?_
 rintro e w1 ⟨rfl,hb1'⟩
 have hb1:Below (w.heap.size+1) (w.alloc (.cells #[.string r.name,.slice ga r.guard.length gcap,.slice sa r.sets.length scap] 97)) w1:=by simpa using hb1'
 clear hb1'
 go_wp2_with fail
 go_loopw [5,6] (fun i _ wr=>∃ k:Nat,k≤r.sets.length∧i=.int .i64 k∧Hid (yqc (r.sets.take k) n=true)∧Hid (Below (w.heap.size+1) (w.alloc (.cells #[.string r.name,.slice ga r.guard.length gcap,.slice sa r.sets.length scap] 97)) wr)) (fun i _ _=>r.sets.length - (intOf i).toNat)
 case atStart=>exact ⟨0,by omega,rfl,rfl,hb1⟩
 case round=>
  clear hb1
  obtain ⟨k,hk,rfl,hset,hbel⟩:=hrel
  have hbw:=yaw hbel.out
  have hbs:=ycd hbel.out
  have hbox:=ycp hbel.out 2
  simp at hbox
  by_cases hlt:k < r.sets.length
  ·obtain ⟨g,o,rfl,hg,hc⟩:=HC.out (by omega)
   obtain ⟨x,hx⟩:∃ x,r.sets[k]?=some x:=⟨_,List.getElem?_eq_getElem hlt⟩
   obtain ⟨tv,ht,c0,c1⟩:=hc k x hx
   have HT:=Lib.hid ht
   have HC0:=Lib.hid c0
   have HCC:=Lib.hid hc
   obtain ⟨ta,tcap,rfl,_,_,_⟩:=ht.open
   rw [← hbw.cell (p:=⟨g,_,none⟩) hg] at c0 c1
   have hgx:r.sets[k]=x:=(List.getElem?_eq_some_iff.1 hx).2
   have hxi:=HI.out x (List.mem_of_getElem? hx)
   have hxl:=HL.out x (List.mem_of_getElem? hx)
   have HXI:=Lib.hid hxi
   have HGX:=Lib.hid hgx
   clear hc ht hx hgx hxi
   rcases Bool.eq_false_or_eq_true (yca x.var 0 ((n:Int) - 1)) with q1|q1
   rotate_left
   ·have H:=Lib.hid (show ybl r n=false by rw [H0.out,yxf k hlt (by rw [HGX.out,zqg,q1];rfl)])
    go_wp2_with (go_at_call 256;refine (yfm _ _ _ _).mono ?_;rintro e w2 ⟨rfl,rfl⟩)
    go_ret
    exact ⟨yab H.out.symm,hbw⟩
   rcases Bool.eq_false_or_eq_true (ycr x.val n) with q2|q2
   rotate_left
   ·have H:=Lib.hid (show ybl r n=false by rw [H0.out,yxf k hlt (by rw [HGX.out,zqg,q2];simp)])
    go_wp2_with (go_at_call 256;refine (yfm _ _ _ _).mono ?_;rintro e w2 ⟨rfl,rfl⟩)
    refine (ypv _ x.val _ _ hxl (by exact HT.out.below hbw)).mono ?_
    rintro e w2 ⟨rfl,hb2⟩
    go_wp2_with fail
    go_ret
    exact ⟨yab H.out.symm,yeh hbw hb2⟩
   ·go_wp2_with (go_at_call 256;refine (yfm _ _ _ _).mono ?_;rintro e w2 ⟨rfl,rfl⟩)
    refine (ypv _ x.val _ _ hxl (by exact HT.out.below hbw)).mono ?_
    rintro e w2 ⟨rfl,hb2⟩
    have hbel2:Hid (Below (w.heap.size+1) (w.alloc (.cells #[.string r.name,.slice ga r.guard.length gcap,.slice (some ⟨g,o,none⟩) r.sets.length scap] 97)) w2):=hbel.out.trans (hb2.mono hbs)
    clear hbel hb2 hbw hbs hbox c0 c1
    go_wp2_with fail
    go_loopw [6] (fun i wr=>∃ j:Nat,j≤k∧i=.int .i64 j∧Hid (x.var ∉ (r.sets.take j).map (·.var))∧Hid (Below (w.heap.size+1) (w.alloc (.cells #[.string r.name,.slice ga r.guard.length gcap,.slice (some ⟨g,o,none⟩) r.sets.length scap] 97)) wr)) (fun i _=>k - (intOf i).toNat)
    case atStart=>exact ⟨0,by omega,rfl,(fun h=>by simp at h),hbel2⟩
    case round=>
     clear hbel2
     obtain ⟨j,hj,rfl,hnot,hbel⟩:=hrel
     have hbw:=yaw hbel.out
     have hbs:=ycd hbel.out
     have hbox:=ycp hbel.out 2
     simp at hbox
     by_cases hjk:j < k
     ·obtain ⟨y,hy⟩:∃ y,r.sets[j]?=some y:=⟨_,List.getElem?_eq_getElem (by omega)⟩
      obtain ⟨_,_,d0,_⟩:=HCC.out j y hy
      have c0:=HC0.out
      rw [← hbw.cell (p:=⟨g,_,none⟩) hg] at c0 d0
      have HGY:Hid (r.sets[j]=y):=(List.getElem?_eq_some_iff.1 hy).2
      clear hy
      by_cases he:y.var=x.var
      ·have hb:(y.var == x.var)=true:=by simpa using he
       have H:=Lib.hid (show ybl r n=false by rw [H0.out,zdm j k hjk hlt (by rw [HGY.out,HGX.out];exact he)])
       clear he
       go_wp2_with fail
       go_quiet (fail)
       go_wp2_with fail
       go_ret
       exact ⟨yab H.out.symm,below_drewN hbw _⟩
      ·have hb:(y.var == x.var)=false:=by simpa using he
       have HN2:=Lib.hid (show x.var ∉ (r.sets.take (j+1)).map (·.var) by
        rw [List.take_succ_eq_append_getElem (show j < r.sets.length by omega),List.map_append,List.mem_append,HGY.out]
        rintro (h|h)
        ·exact hnot.out h
        ·simp at h;exact he h.symm)
       clear he
       go_wp2_with fail
       go_quiet (fail)
       go_wp2_with fail
       exact ⟨⟨j+1,by omega,by go_num,HN2,below_drewN hbel.out _⟩,by simp [intOf];omega⟩
     ·obtain rfl:j=k:=by omega
      have HST:=Lib.hid (zjk (n:=(n:Int)) j hlt hset.out (by rw [HGX.out,zqg,q1,q2];rfl) (by rw [HGX.out];exact hnot.out))
      go_wp2_with fail
      exact ⟨⟨j+1,by omega,by go_num,HST,hbel⟩,by simp [intOf];omega⟩
  ·obtain rfl:k=r.sets.length:=by omega
   have H:=hset.out
   rw [List.take_of_length_le (by simp)] at H
   have H2:=Lib.hid (show ybl r n=true by rw [H0.out,H])
   clear H
   go_wp2_with fail
   go_ret
   exact ⟨yab H2.out.symm,hbw⟩
end
section
open Go.RowKit
theorem wpList_append_row {P:Program} (w:World) {ops:Array Oper} {rest:List Oper} {o:Oper} {a:Act} {Q:Exit→Act→World→Prop} (hgd:o.guard=none) (s x:Operand) (t:TypeId)
  (ho:o.op=.call { callee:=.builtin .append,args:=#[s,x],argTypes:=#[t,t] })
  (base:Nat) (e:TypeId) (i:TypeInfo) (z:Value) (size bytes:Nat) (ht:P.underlying t=some (.slice e)) (hi:P.info? e=some i) (hz:i.zero=some z)
  (hsize:i.size=size) (hby:i.bytes=bytes) (hzs:z.cells.size=size) (hsz:0 < size)
  (v:Value) (n:Nat) (xs:List Value) (hs:a.eval s=v) (hown:w.ownsRow base e size v n xs)
  (sv:Value) (m:Nat) (news:List Value) (hx:a.eval x=sv) (hrow:Row w sv size m news) (h1:∀ u∈news,u.oneCell'=true)
  (h63:n+m≤maxLen) (hbytes:(n+m) * bytes≤140737488355328) (hbase:base≤w.heap.size)
  (h:∀ v' w',w'.ownsRow base e size v' (n+m) (xs++news)→w.grownBy w' v.ownBlock→wpList P ops Q rest (a.put o.dst v') w'):wpList P ops Q (o::rest) a w:=by
 obtain ⟨ao,cap,rfl,h2,h3,h4,h5,h6⟩:=hrow
 cases ao with
 | none=>
  have hc:=h5 rfl
  subst hc
  have hm:m=0:=by omega
  subst hm
  have hn:news=[]:=List.length_eq_zero_iff.1 (by simpa using h4)
  subst hn
  refine wpList_append_own_none hgd s x t ho base e i size ht hi v n xs hs hown hx (h v w ?_ ⟨rfl,rfl,rfl,Nat.le_refl _,fun _ _ _=>rfl⟩)
  simpa using hown
 | some ad=>
  refine wpList_append_own w hgd s x t ho base e i z size bytes ht hi hz hsize hby hzs hsz v n xs hs hown ad m cap news hx h4 ?_ h1 h63 hbytes hbase (fun v' w' h7 h8 _=>h v' w' h7 h8)
  intro j u hu
  rcases h6 with rfl|⟨g,off,ha,_,hc⟩
  ·have:news=[]:=List.length_eq_zero_iff.1 (by simpa using h4)
   subst this
   simp at hu
  ·cases ha
   have hadd:(⟨g,off,none⟩:Addr).add j=⟨g,off+j,none⟩:=by unfold Addr.add;split <;> simp_all
   rw [hadd]
   exact hc j u hu
end
section
open Go.RowKit Go.Maps
def zpj (ks:List Int) (k:Nat):List Int:=ks.take k++List.replicate (ks.length - k) 0
theorem kmix_zero (ks:List Int):zpj ks 0=List.replicate ks.length 0:=by simp [zpj]
theorem kmix_all (ks:List Int):zpj ks ks.length=ks:=by simp [zpj]
theorem kmix_length (ks:List Int) (k:Nat) (h:k≤ks.length):(zpj ks k).length=ks.length:=by simp [zpj];omega
theorem kmix_step (ks:List Int) (k:Nat) (h:k < ks.length):(zpj ks k).set k ks[k]=zpj ks (k+1):=by
 unfold zpj
 rw [List.set_append_right _ _ (by simp;omega),List.take_succ_eq_append_getElem h,List.append_assoc]
 congr 1
 rw [List.length_take,Nat.min_eq_left (Nat.le_of_lt h),Nat.sub_self,show ks.length - k=(ks.length - (k+1))+1 by omega,List.replicate_succ]
 rfl
theorem made_ints (n:Nat):(madeCells (Value.int .i64 0).cells (n * 1)).toList=(List.replicate n (0:Int)).map (.int .i64):=by
 apply List.ext_getElem
 ·simp [size_madeCells]
 ·intro i h1 h2
  simp [madeCells,Value.cells,Nat.mod_one]
set_option maxHeartbeats 8000000 in
theorem kinds_any (v:Value) (p:ProgD) (w:World) (hv:yhj w v p) (h6:p.vars.length≤1000) :
  Calls Tryz.prog 142 #[v] w fun e w'=>∃ kv,e=.returned kv∧ymc .i64 w' kv (ybc p)∧Below w.heap.size w w':=by
 obtain ⟨vv,rv,rfl,hvv,hrv⟩:=hv
 obtain ⟨a0,cap0,rfl,i1,i2,i3⟩:=hvv.open
 obtain ⟨a1,cap1,rfl,_,_,_⟩:=hrv.open
 have HVC:=Lib.hid i3
 obtain ⟨i0,hi,hz0,hz1,hz2⟩:=info_parts yyv
 have Hi:=Lib.hid hi
 have Hz0:=Lib.hid hz0
 have Hz1:=Lib.hid hz1
 have Hz2:=Lib.hid hz2
 have HKL:=Lib.hid (show (ybc p).length=p.vars.length by simp [ybc])
 clear hi hz0 hz1 hz2 i3 hvv hrv
 go_enter Tryz.func142,Tryz.ntmps142
 go_wp2_with (at_make;refine wpList_make_full _ rfl _ _ 26 rfl (w.heap.size+1) 3 i0 (.int .i64 0) 1 Tryz.underlying26 Hi.out Hz0.out Hz1.out .i64 .i64 _ _ p.vars.length rfl rfl rfl rfl (by rw [Hz2.out];omega) (by unfold maxLen;omega) (by simp) ?_;intro w1 hown hgrow;have hb1:Below (w.heap.size+1) (w.alloc (.cells #[.string p.name,.slice a0 p.vars.length cap0,.slice a1 p.rules.length cap1] 25)) w1:=(Below.refl _ _).grown hgrow (by simp) (by simp);have hbox:=ycp hb1 1;simp at hbox)
 have HM:=Lib.hid (show (w1.ownsRow (w.heap.size+1) 3 1 (.slice (some ⟨w.heap.size+1,0,none⟩) p.vars.length p.vars.length) p.vars.length ((zpj (ybc p) 0).map (.int .i64))) by
  rw [made_ints,← HKL.out,← kmix_zero] at hown
  rw [HKL.out] at hown
  simpa using hown)
 clear hown hgrow hbox
 go_loopw [4,5,13] (fun _ _ i wr=>∃ k:Nat,k≤p.vars.length∧i=.int .i64 k∧Hid (wr.ownsRow (w.heap.size+1) 3 1 (.slice (some ⟨w.heap.size+1,0,none⟩) p.vars.length p.vars.length) p.vars.length ((zpj (ybc p) k).map (.int .i64)))∧Hid (Below (w.heap.size+1) (w.alloc (.cells #[.string p.name,.slice a0 p.vars.length cap0,.slice a1 p.rules.length cap1] 25)) wr)) (fun _ _ i _=>p.vars.length - (intOf i).toNat)
 case atStart=>exact ⟨0,by omega,rfl,HM,hb1⟩
 case round=>
  clear HM hb1
  obtain ⟨k,hk,rfl,hown,hbel⟩:=hrel
  have hbw:=yaw hbel.out
  have hbs:=ycd hbel.out
  by_cases hlt:k < p.vars.length
  ·obtain ⟨g,o,rfl,hg,hc⟩:=HVC.out (by omega)
   obtain ⟨x,hx⟩:∃ x,p.vars[k]?=some x:=⟨_,List.getElem?_eq_getElem hlt⟩
   obtain ⟨c0,c1,c2,c3,c4,c5⟩:=hc k x hx
   rw [← hbw.cell (p:=⟨g,_,none⟩) hg] at c0 c1 c2 c3 c4 c5
   have hlk:k < (ybc p).length:=by rw [HKL.out];exact hlt
   have hkx:(ybc p)[k]=x.kind:=by
    obtain ⟨_,h2⟩:=List.getElem?_eq_some_iff.1 hx
    simp [ybc,h2]
   have HST:=Lib.hid (show ((zpj (ybc p) k).map (Value.int .i64)).set k (.int .i64 x.kind)=(zpj (ybc p) (k+1)).map (.int .i64) by rw [← kmix_step _ k hlk,hkx,List.map_set])
   have hoa:=hown.out.alloc (.cells #[.string x.name,.int .i64 x.kind,.int .i64 x.lo,.int .i64 x.hi,.int .i64 x.perNode,.int .i64 x.perID] 198)
   obtain ⟨u,hu⟩:∃ u,(wr.alloc (.cells #[.string x.name,.int .i64 x.kind,.int .i64 x.lo,.int .i64 x.hi,.int .i64 x.perNode,.int .i64 x.perID] 198)).cell? ⟨w.heap.size+1,k,none⟩=some u:=⟨_,(hoa.cellAt k (by omega)).trans (List.getElem?_eq_getElem (by rw [List.length_map,kmix_length _ _ (by omega)];exact hlk))⟩
   have hfz:=hoa.frozenAt k
   have HOA:=Lib.hid hoa
   have hlt1:w.heap.size+1 < wr.heap.size:=(hown.out.lt _ rfl).2
   have hne1:wr.heap.size≠w.heap.size+1:=by omega
   clear hc hx hkx hoa
   go_wp2_with fail
   refine ⟨⟨k+1,by omega,by go_num,?_,?_⟩,by simp [intOf];omega⟩
   ·have:=(hown.out.stored k (.int .i64 x.kind)).1
    rw [HST.out] at this
    exact this.alloc _
   ·exact (hbel.out.setCell (Nat.le_refl _) _).alloc (by simp;omega) _
  ·obtain rfl:k=p.vars.length:=by omega
   have HR:Hid (ymc .i64 wr (.slice (some ⟨w.heap.size+1,0,none⟩) p.vars.length p.vars.length) (ybc p)):=by
    have h1:=yuv hown.out
    rw [← HKL.out,kmix_all] at h1
    unfold Hid ymc
    rw [HKL.out] at *
    exact h1
   go_wp2_with fail
   go_ret
   exact ⟨_,rfl,HR.out,hbw⟩
end
section
open Go.RowKit Go.Maps
set_option maxHeartbeats 8000000 in
theorem zdh (v:Value) (p:ProgD) (w:World) (hv:yhj w v p) (h6:p.vars.length≤1000) :
  Calls Tryz.prog 261 #[v] w fun e w'=>∃ kv,e=.returned kv∧ymc .i64 w' kv (ybc p)∧Below w.heap.size w w':=by
 obtain ⟨vv,rv,rfl,hvv,hrv⟩:=hv
 obtain ⟨a0,cap0,rfl,i1,i2,i3⟩:=hvv.open
 obtain ⟨a1,cap1,rfl,_,_,_⟩:=hrv.open
 have HVC:=Lib.hid i3
 obtain ⟨i0,hi,hz0,hz1,hz2⟩:=info_parts yyv
 have Hi:=Lib.hid hi
 have Hz0:=Lib.hid hz0
 have Hz1:=Lib.hid hz1
 have Hz2:=Lib.hid hz2
 have HKL:=Lib.hid (show (ybc p).length=p.vars.length by simp [ybc])
 clear hi hz0 hz1 hz2 i3 hvv hrv
 go_enter Tryz.func261,Tryz.ntmps261
 go_wp2_with fail
 go_loopw [3,4] (fun v i wr=>∃ k:Nat,k≤p.vars.length∧i=.int .i64 k∧Hid (wr.ownsRow (w.heap.size+1) 3 1 v k (((ybc p).take k).map (.int .i64)))∧Hid (Below (w.heap.size+1) (w.alloc (.cells #[.string p.name,.slice a0 p.vars.length cap0,.slice a1 p.rules.length cap1] 25)) wr)) (fun _ i _=>p.vars.length - (intOf i).toNat)
 case atStart=>exact ⟨0,by omega,rfl,World.ownsRow_nil _ _ _ _,Below.refl _ _⟩
 case round=>
  obtain ⟨k,hk,rfl,hown,hbel⟩:=hrel
  have hbw:=yaw hbel.out
  have hbs:=ycd hbel.out
  have hbox:=ycp hbel.out 1
  simp at hbox
  by_cases hlt:k < p.vars.length
  ·obtain ⟨g,o,rfl,hg,hc⟩:=HVC.out (by omega)
   obtain ⟨x,hx⟩:∃ x,p.vars[k]?=some x:=⟨_,List.getElem?_eq_getElem hlt⟩
   obtain ⟨_,c1,_,_,_,_⟩:=hc k x hx
   rw [← hbw.cell (p:=⟨g,_,none⟩) hg] at c1
   have HST:=Lib.hid (show ((ybc p).take k).map (Value.int .i64)++[.int .i64 x.kind]=((ybc p).take (k+1)).map (.int .i64) by
    obtain ⟨_,h2⟩:=List.getElem?_eq_some_iff.1 hx
    rw [List.take_succ_eq_append_getElem (show k < (ybc p).length by rw [HKL.out];exact hlt),List.map_append]
    simp [ybc,h2])
   have hlt0:w.heap.size < wr.heap.size:=by omega
   clear hc hx
   go_wp2_with (at_builtin;refine wpList_append_row _ rfl _ _ 26 rfl (w.heap.size+1) 3 i0 (.int .i64 0) 1 8 Tryz.underlying26 Hi.out Hz0.out Hz1.out Hz2.out rfl (by decide) _ k _ rfl (hown.out.alloc _) _ 1 [.int .i64 x.kind] rfl (row_alloc wr [.int .i64 x.kind] _ 1 1 (by omega) rfl) (by simp [Value.oneCell']) (by unfold maxLen;omega) (by omega) (by simp;omega) ?_;intro v2 w2 hown2 hgrow)
   refine ⟨⟨k+1,by omega,by go_num,?_,?_⟩,by simp [intOf];omega⟩
   ·rw [HST.out] at hown2;exact hown2
   ·exact (hbel.out.alloc hbs _).grown hgrow (by simp;omega) (zdb hown.out)
  ·obtain rfl:k=p.vars.length:=by omega
   have HR:Hid (ymc .i64 wr u3 (ybc p)):=by
    have h1:=yuv hown.out
    rw [List.take_of_length_le (by rw [HKL.out];omega)] at h1
    unfold Hid ymc
    rw [HKL.out]
    exact h1
   go_wp2_with fail
   go_ret
   exact ⟨_,rfl,HR.out,hbw⟩
theorem zju {r:RuleD} {kinds:List Int} (h:((ofF r.guard kinds false).1 == 2)=true):yer r kinds=r.sets.all (fun s=>(ofF s.val kinds false).1 == kinds.getD s.var.toNat 0):=by unfold yer;rw [h];rfl
set_option maxHeartbeats 8000000 in
theorem zjt (gv sv kv:Value) (r:RuleD) (kinds:List Int) (w:World) (hg:ycy w gv r.guard) (hs:Seq (ykv w) 2 w sv r.sets) (hk:ymc .i64 w kv kinds) (hl:zgo r) (hvar:∀ s∈r.sets,0≤s.var∧s.var < kinds.length) :
  Calls Tryz.prog 162 #[.agg #[.string r.name,gv,sv],kv] w fun e w'=>e=.returned (.bool (yer r kinds))∧Below w.heap.size w w':=by
 obtain ⟨hl1,hl2,hl3⟩:=hl
 have HL:=Lib.hid hl3
 have HG:=Lib.hid hg
 have HK:=Lib.hid hk
 have HVAR:=Lib.hid hvar
 obtain ⟨ga,gcap,rfl,g1,g2,g3⟩:=hg.open
 obtain ⟨sa,scap,rfl,s1,s2,s3⟩:=yfu hs
 obtain ⟨ka,kcap,rfl,k1,k2,_,k4⟩:=hk.open
 have HC:=Lib.hid s3
 have HKC:=Lib.hid k4
 clear hl3 g3 s3 hs hg k4 hk hvar
 obtain ⟨ta,tb,hab⟩:∃ a b,ofF r.guard kinds false=(a,b):=⟨_,_,rfl⟩
 have HAB:=Lib.hid hab
 have HT1:Hid ((ofF r.guard kinds false).1=ta):=by rw [hab];rfl
 clear hab
 have hbA:Below w.heap.size w (w.alloc (.cells #[.string r.name,.slice ga r.guard.length gcap,.slice sa r.sets.length scap] 97)):=(Below.refl _ _).alloc (Nat.le_refl _) _
 by_cases h2:ta=2
 rotate_left
 ·have b2:(ta != 2)=true:=by simp [h2]
  have H:=Lib.hid (show yer r kinds=false by unfold yer;rw [HT1.out,show (ta == 2)=false by simpa using h2];rfl)
  go_enter Tryz.func162,Tryz.ntmps162
  go_wp2_with fail
  refine (zun _ _ r.guard kinds false ta tb _ (by omega) (HG.out.below hbA) (HK.out.below hbA) HAB.out).mono ?_
  rintro e w1 ⟨rfl,hb1⟩
  go_wp2_with fail
  go_ret
  exact ⟨yab H.out.symm,yaw (by simpa using hb1)⟩
 have b2:(ta != 2)=false:=by simp [h2]
 have H0:=Lib.hid (zju (r:=r) (kinds:=kinds) (by rw [HT1.out,h2];rfl))
 clear h2
 go_enter Tryz.func162,Tryz.ntmps162
 go_wp2_with fail
 refine (zun _ _ r.guard kinds false ta tb _ (by omega) (HG.out.below hbA) (HK.out.below hbA) HAB.out).mono ?_
 rintro e w1 ⟨rfl,hb1'⟩
 have hb1:Below (w.heap.size+1) (w.alloc (.cells #[.string r.name,.slice ga r.guard.length gcap,.slice sa r.sets.length scap] 97)) w1:=by simpa using hb1'
 have hbox:=ycp hb1 2
 simp at hbox
 clear hb1'
 go_wp2_with fail
 clear hbox
 go_loopw [8,9,10,23] (fun _ _ _ i wr=>∃ k:Nat,k≤r.sets.length∧i=.int .i64 k∧Hid ((r.sets.take k).all (fun s=>(ofF s.val kinds false).1 == kinds.getD s.var.toNat 0)=true)∧Hid (Below (w.heap.size+1) (w.alloc (.cells #[.string r.name,.slice ga r.guard.length gcap,.slice sa r.sets.length scap] 97)) wr)) (fun _ _ _ i _=>r.sets.length - (intOf i).toNat)
 case atStart=>exact ⟨0,by omega,rfl,rfl,hb1⟩
 case round=>
  clear hb1
  obtain ⟨k,hk,rfl,hall,hbel⟩:=hrel
  have hbw:=yaw hbel.out
  have hbs:=ycd hbel.out
  by_cases hlt:k < r.sets.length
  ·obtain ⟨g,o,rfl,hg,hc⟩:=HC.out (by omega)
   obtain ⟨x,hx⟩:∃ x,r.sets[k]?=some x:=⟨_,List.getElem?_eq_getElem hlt⟩
   obtain ⟨tv,ht,c0,c1⟩:=hc k x hx
   have HT:=Lib.hid ht
   obtain ⟨xa,xcap,rfl,_,_,_⟩:=ht.open
   rw [← hbw.cell (p:=⟨g,_,none⟩) hg] at c0 c1
   have HGX:Hid (r.sets[k]=x):=(List.getElem?_eq_some_iff.1 hx).2
   have hxl:=HL.out x (List.mem_of_getElem? hx)
   obtain ⟨v0,v1⟩:=HVAR.out x (List.mem_of_getElem? hx)
   obtain ⟨q,hq⟩:=Int.eq_ofNat_of_zero_le v0
   obtain ⟨kg,ko,rfl,hkg,hkc⟩:=HKC.out (by omega)
   obtain ⟨z,hz⟩:∃ z,kinds.getD q 0=z:=⟨_,rfl⟩
   have hkz:=hkc q z (by rw [yue kinds q (by omega),hz])
   obtain ⟨sa1,sb1,hsab⟩:∃ a b,ofF x.val kinds false=(a,b):=⟨_,_,rfl⟩
   have HSAB:=Lib.hid hsab
   have HEQ:Hid (((ofF x.val kinds false).1 == kinds.getD x.var.toNat 0)=(sa1 == z)):=by unfold Hid;rw [hsab,hq,Int.toNat_natCast,hz]
   have hql:q < kinds.length:=by omega
   rw [hq] at c0
   have HKZ:=Lib.hid hkz
   have HQ:=Lib.hid hq
   clear hc ht hx hkc hz hsab v0 v1 hkz hq
   by_cases he:sa1=z
   ·have b3:(sa1 != z)=false:=by simp [he]
    have HST:=Lib.hid (ygv (f:=fun s:SetD=>(ofF s.val kinds false).1 == kinds.getD s.var.toNat 0) k hlt hall.out (by rw [HGX.out,HEQ.out];simpa using he))
    clear he
    go_wp2_with fail
    refine (zun _ _ x.val kinds false sa1 sb1 _ (by omega) (HT.out.below (hbw.alloc (by omega) _)) (HK.out.below (hbw.alloc (by omega) _)) HSAB.out).mono ?_
    rintro e w2 ⟨rfl,hb2'⟩
    have hb2:Below (wr.heap.size+1) (wr.alloc (.cells #[.int .i64 (q:Int),.slice xa x.val.length xcap] 99)) w2:=by simpa using hb2'
    have hbx:=ycp hb2 0
    simp at hbx
    have hb02:=yeh hbw (yaw hb2)
    have hkz:=HKZ.out
    rw [← hb02.cell (p:=⟨kg,_,none⟩) hkg] at hkz
    clear hb2'
    go_wp2_with fail
    exact ⟨⟨k+1,by omega,by go_num,HST,hbel.out.trans ((yaw hb2).mono hbs)⟩,by simp [intOf];omega⟩
   ·have b3:(sa1 != z)=true:=by simp [he]
    have H:=Lib.hid (show yer r kinds=false by rw [H0.out,ygu k hlt (by rw [HGX.out,HEQ.out];simpa using he)])
    clear he
    go_wp2_with fail
    refine (zun _ _ x.val kinds false sa1 sb1 _ (by omega) (HT.out.below (hbw.alloc (by omega) _)) (HK.out.below (hbw.alloc (by omega) _)) HSAB.out).mono ?_
    rintro e w2 ⟨rfl,hb2'⟩
    have hb2:Below (wr.heap.size+1) (wr.alloc (.cells #[.int .i64 (q:Int),.slice xa x.val.length xcap] 99)) w2:=by simpa using hb2'
    have hbx:=ycp hb2 0
    simp at hbx
    have hb02:=yeh hbw (yaw hb2)
    have hkz:=HKZ.out
    rw [← hb02.cell (p:=⟨kg,_,none⟩) hkg] at hkz
    clear hb2'
    go_wp2_with fail
    go_ret
    exact ⟨yab H.out.symm,hb02⟩
  ·obtain rfl:k=r.sets.length:=by omega
   have H2:=Lib.hid (show yer r kinds=true by rw [H0.out,yjl hall.out])
   go_wp2_with fail
   go_ret
   exact ⟨yab H2.out.symm,hbw⟩
end
section
open Go.RowKit Go.Maps
theorem ofF_ty {l:List Tm} {kinds:List Int} {bound:Bool} (h6:¬ 6 < kinds.length) (hk:yfh kinds=true) (hv:ycr l kinds.length=true):∃ E,yet l=some E∧E.ok∧E.fl=l∧(∀ t∈l,yrc kinds.length t=true)∧(ofF l kinds bound).1=ty kinds bound E:=by
 obtain ⟨E,hp,ho,hf,_,ha,_,_⟩:=ynf hv
 refine ⟨E,hp,ho,hf,List.all_eq_true.1 ha,?_⟩
 rw [zso l kinds bound E h6 hk hv hp]
 split
 ·rename_i h;rw [h]
 ·rfl
theorem zfb (ev kv:Value) (l:List Tm) (kinds:List Int) (bound:Bool) (a:Int) (w:World) (hl:l.length≤1000) (h6:¬ 6 < kinds.length) (hkk:yfh kinds=true) (hv:ycr l kinds.length=true) (ha:(ofF l kinds bound).1=a) (ht:ycy w ev l) (hk:ymc .i64 w kv kinds) :
  Calls Tryz.prog 287 #[ev,.int .i64 0,kv,.bool bound] w fun e w'=>e=.returned (.int .i64 a)∧Below w.heap.size w w':=by
 obtain ⟨E,_,ho,hf,harg,he⟩:=ofF_ty (bound:=bound) h6 hkk hv
 exact (kind0 ev kv l kinds bound E w hl ho harg hf ht hk).mono fun e w' ⟨h1,h2⟩=>⟨by rw [h1,← he,ha],h2⟩
set_option maxHeartbeats 8000000 in
theorem zdj (gv sv kv:Value) (r:RuleD) (kinds:List Int) (w:World) (hg:ycy w gv r.guard) (hs:Seq (ykv w) 2 w sv r.sets) (hk:ymc .i64 w kv kinds) (hl:zgo r) (h6:¬ 6 < kinds.length) (hkk:yfh kinds=true) (hform:ybl r kinds.length=true) :
  Calls Tryz.prog 260 #[.agg #[.string r.name,gv,sv],kv] w fun e w'=>e=.returned (.bool (yer r kinds))∧Below w.heap.size w w':=by
 obtain ⟨hl1,hl2,hl3⟩:=hl
 have hform':=hform
 rw [yhs] at hform'
 simp only [Bool.and_eq_true,yqc,List.all_eq_true,zqg,yca,decide_eq_true_eq] at hform'
 obtain ⟨_,_,hvg,hvs,_⟩:=hform'
 have HVG:=Lib.hid hvg
 have HVS:=Lib.hid hvs
 have HKK:=Lib.hid hkk
 have H6:=Lib.hid h6
 have HL:=Lib.hid hl3
 have HG:=Lib.hid hg
 have HK:=Lib.hid hk
 obtain ⟨ga,gcap,rfl,g1,g2,g3⟩:=hg.open
 obtain ⟨sa,scap,rfl,s1,s2,s3⟩:=yfu hs
 obtain ⟨ka,kcap,rfl,k1,k2,_,k4⟩:=hk.open
 have HC:=Lib.hid s3
 have HKC:=Lib.hid k4
 clear hl3 g3 s3 hs hg k4 hk hvg hvs hform hkk h6
 obtain ⟨ta,hta⟩:∃ a,(ofF r.guard kinds false).1=a:=⟨_,rfl⟩
 have HT1:=Lib.hid hta
 clear hta
 have hbA:Below w.heap.size w (w.alloc (.cells #[.string r.name,.slice ga r.guard.length gcap,.slice sa r.sets.length scap] 97)):=(Below.refl _ _).alloc (Nat.le_refl _) _
 by_cases h2:ta=2
 rotate_left
 ·have b2:(ta != 2)=true:=by simp [h2]
  have H:=Lib.hid (show yer r kinds=false by unfold yer;rw [HT1.out,show (ta == 2)=false by simpa using h2];rfl)
  go_enter Tryz.func260,Tryz.ntmps260
  go_wp2_with fail
  refine (zfb _ _ r.guard kinds false ta _ (by omega) H6.out HKK.out HVG.out HT1.out (HG.out.below hbA) (HK.out.below hbA)).mono ?_
  rintro e w1 ⟨rfl,hb1⟩
  go_wp2_with fail
  go_ret
  exact ⟨yab H.out.symm,yaw (by simpa using hb1)⟩
 have b2:(ta != 2)=false:=by simp [h2]
 have H0:=Lib.hid (zju (r:=r) (kinds:=kinds) (by rw [HT1.out,h2];rfl))
 clear h2
 go_enter Tryz.func260,Tryz.ntmps260
 go_wp2_with fail
 refine (zfb _ _ r.guard kinds false ta _ (by omega) H6.out HKK.out HVG.out HT1.out (HG.out.below hbA) (HK.out.below hbA)).mono ?_
 rintro e w1 ⟨rfl,hb1'⟩
 have hb1:Below (w.heap.size+1) (w.alloc (.cells #[.string r.name,.slice ga r.guard.length gcap,.slice sa r.sets.length scap] 97)) w1:=by simpa using hb1'
 clear hb1'
 go_wp2_with fail
 go_loopw [5] (fun i wr=>∃ k:Nat,k≤r.sets.length∧i=.int .i64 k∧Hid ((r.sets.take k).all (fun s=>(ofF s.val kinds false).1 == kinds.getD s.var.toNat 0)=true)∧Hid (Below (w.heap.size+1) (w.alloc (.cells #[.string r.name,.slice ga r.guard.length gcap,.slice sa r.sets.length scap] 97)) wr)) (fun i _=>r.sets.length - (intOf i).toNat)
 case atStart=>exact ⟨0,by omega,rfl,rfl,hb1⟩
 case round=>
  clear hb1
  obtain ⟨k,hk,rfl,hall,hbel⟩:=hrel
  have hbw:=yaw hbel.out
  have hbs:=ycd hbel.out
  have hbox:=ycp hbel.out 2
  simp at hbox
  by_cases hlt:k < r.sets.length
  ·obtain ⟨g,o,rfl,hg,hc⟩:=HC.out (by omega)
   obtain ⟨x,hx⟩:∃ x,r.sets[k]?=some x:=⟨_,List.getElem?_eq_getElem hlt⟩
   obtain ⟨tv,ht,c0,c1⟩:=hc k x hx
   have HT:=Lib.hid ht
   obtain ⟨xa,xcap,rfl,_,_,_⟩:=ht.open
   rw [← hbw.cell (p:=⟨g,_,none⟩) hg] at c0 c1
   have HGX:Hid (r.sets[k]=x):=(List.getElem?_eq_some_iff.1 hx).2
   have hxl:=HL.out x (List.mem_of_getElem? hx)
   obtain ⟨⟨v0,v1⟩,hvx⟩:=HVS.out x (List.mem_of_getElem? hx)
   have HVX:=Lib.hid hvx
   obtain ⟨q,hq⟩:=Int.eq_ofNat_of_zero_le v0
   obtain ⟨kg,ko,rfl,hkg,hkc⟩:=HKC.out (by omega)
   obtain ⟨z,hz⟩:∃ z,kinds.getD q 0=z:=⟨_,rfl⟩
   have hkz:=hkc q z (by rw [yue kinds q (by omega),hz])
   rw [← hbw.cell (p:=⟨kg,_,none⟩) hkg] at hkz
   obtain ⟨sa1,hsab⟩:∃ a,(ofF x.val kinds false).1=a:=⟨_,rfl⟩
   have HSAB:=Lib.hid hsab
   have HEQ:Hid (((ofF x.val kinds false).1 == kinds.getD x.var.toNat 0)=(sa1 == z)):=by unfold Hid;rw [hsab,hq,Int.toNat_natCast,hz]
   have hql:q < kinds.length:=by omega
   rw [hq] at c0
   have iq0:(0:Int)≤(q:Int):=by omega
   have iq1:(q:Int) < (kinds.length:Int):=by omega
   have ik0:(0:Int)≤(k:Int):=by omega
   have ik1:(k:Int) < (r.sets.length:Int):=by omega
   clear hc ht hx hkc hz hsab v0 v1 hq hvx
   have hlt0:w.heap.size < wr.heap.size:=by omega
   have SA:wr.cell? ⟨w.heap.size,2,none⟩=some (.slice (some ⟨g,o,none⟩) r.sets.length scap)∧wr.cell? ⟨g,o+k * 2,none⟩=some (.int .i64 (q:Int))∧wr.cell? ⟨g,o+k * 2+1,none⟩=some (.slice xa x.val.length xcap)∧wr.cell? ⟨kg,ko+q,none⟩=some (.int .i64 z):=⟨hbox,c0,c1,hkz⟩
   have hg2:g < wr.heap.size:=by omega
   have hkg2:kg < wr.heap.size:=by omega
   by_cases he:sa1=z
   ·have b3:(sa1 != z)=false:=by simp [he]
    have HST:=Lib.hid (ygv (f:=fun s:SetD=>(ofF s.val kinds false).1 == kinds.getD s.var.toNat 0) k hlt hall.out (by rw [HGX.out,HEQ.out];simpa using he))
    clear he
    go_wp2_with fail
    go_region_held3 (fun w'=>w'.cell? ⟨w.heap.size,2,none⟩=some (.slice (some ⟨g,o,none⟩) r.sets.length scap)∧w'.cell? ⟨g,o+k * 2,none⟩=some (.int .i64 (q:Int))∧w'.cell? ⟨g,o+k * 2+1,none⟩=some (.slice xa x.val.length xcap)∧w'.cell? ⟨kg,ko+q,none⟩=some (.int .i64 z)) (first|exact SB|exact SA)
     (first|(go_at_call 287;refine (zfb _ _ x.val kinds false sa1 _ (by omega) H6.out HKK.out HVX.out HSAB.out (HT.out.below (by exact hbw.drew)) (HK.out.below (by exact hbw.drew))).mono ?_;rintro e w2 ⟨rfl,hb2⟩;have SB:w2.cell? ⟨w.heap.size,2,none⟩=some (.slice (some ⟨g,o,none⟩) r.sets.length scap)∧w2.cell? ⟨g,o+k * 2,none⟩=some (.int .i64 (q:Int))∧w2.cell? ⟨g,o+k * 2+1,none⟩=some (.slice xa x.val.length xcap)∧w2.cell? ⟨kg,ko+q,none⟩=some (.int .i64 z):=⟨(hb2.cell (p:=⟨_,_,none⟩) hlt0).trans hbox,(hb2.cell (p:=⟨_,_,none⟩) hg2).trans c0,(hb2.cell (p:=⟨_,_,none⟩) hg2).trans c1,(hb2.cell (p:=⟨_,_,none⟩) hkg2).trans hkz⟩))
    go_wp2_with fail
    exact ⟨⟨k+1,by omega,by go_num,HST,hbel.out.drew.trans (hb2.mono (by simpa using hbs))⟩,by simp [intOf];omega⟩
   ·have b3:(sa1 != z)=true:=by simp [he]
    have H:=Lib.hid (show yer r kinds=false by rw [H0.out,ygu k hlt (by rw [HGX.out,HEQ.out];simpa using he)])
    clear he
    go_wp2_with fail
    go_region_held3 (fun w'=>w'.cell? ⟨w.heap.size,2,none⟩=some (.slice (some ⟨g,o,none⟩) r.sets.length scap)∧w'.cell? ⟨g,o+k * 2,none⟩=some (.int .i64 (q:Int))∧w'.cell? ⟨g,o+k * 2+1,none⟩=some (.slice xa x.val.length xcap)∧w'.cell? ⟨kg,ko+q,none⟩=some (.int .i64 z)) (first|exact SB|exact SA)
     (first|(go_at_call 287;refine (zfb _ _ x.val kinds false sa1 _ (by omega) H6.out HKK.out HVX.out HSAB.out (HT.out.below (by exact hbw.drew)) (HK.out.below (by exact hbw.drew))).mono ?_;rintro e w2 ⟨rfl,hb2⟩;have SB:w2.cell? ⟨w.heap.size,2,none⟩=some (.slice (some ⟨g,o,none⟩) r.sets.length scap)∧w2.cell? ⟨g,o+k * 2,none⟩=some (.int .i64 (q:Int))∧w2.cell? ⟨g,o+k * 2+1,none⟩=some (.slice xa x.val.length xcap)∧w2.cell? ⟨kg,ko+q,none⟩=some (.int .i64 z):=⟨(hb2.cell (p:=⟨_,_,none⟩) hlt0).trans hbox,(hb2.cell (p:=⟨_,_,none⟩) hg2).trans c0,(hb2.cell (p:=⟨_,_,none⟩) hg2).trans c1,(hb2.cell (p:=⟨_,_,none⟩) hkg2).trans hkz⟩))
    go_wp2_with fail
    go_ret
    exact ⟨yab H.out.symm,yeh hbw.drew hb2⟩
  ·obtain rfl:k=r.sets.length:=by omega
   have H2:=Lib.hid (show yer r kinds=true by rw [H0.out,yjl hall.out])
   go_wp2_with fail
   go_ret
   exact ⟨yab H2.out.symm,hbw⟩
end
section
open Go.RowKit Go.Maps
def yve (p:ProgD):Prop:=p.vars.length≤1000∧p.rules.length≤1000∧∀ r∈p.rules,zgo r
theorem yhp {p:ProgD} (h:p.vars.length=0∨6 < p.vars.length∨12 < p.rules.length):ydf p=3:=by unfold ydf;rw [if_pos h]
theorem yty {p:ProgD} (h:¬ (p.vars.length=0∨6 < p.vars.length∨12 < p.rules.length)) (h1:yck p=false):ydf p=5:=by unfold ydf;rw [if_neg h,if_pos h1]
theorem yxy {p:ProgD} (h:¬ (p.vars.length=0∨6 < p.vars.length∨12 < p.rules.length)) (h1:yck p=true) (h2:p.vars.all ymd=false):ydf p=2:=by unfold ydf;rw [if_neg h,if_neg (by simp [h1]),if_pos h2]
theorem zbu {p:ProgD} (h:¬ (p.vars.length=0∨6 < p.vars.length∨12 < p.rules.length)) (h1:yck p=true) (h2:p.vars.all ymd=true) (h3:p.rules.all (ybl · p.vars.length)=false):ydf p=7:=by unfold ydf;rw [if_neg h,if_neg (by simp [h1]),if_neg (by simp [h2]),if_pos h3]
theorem zbv {p:ProgD} (h:¬ (p.vars.length=0∨6 < p.vars.length∨12 < p.rules.length)) (h1:yck p=true) (h2:p.vars.all ymd=true) (h3:p.rules.all (ybl · p.vars.length)=true) (h4:p.rules.all (yer · (ybc p))=false):ydf p=6:=by unfold ydf;rw [if_neg h,if_neg (by simp [h1]),if_neg (by simp [h2]),if_neg (by simp [h3]),if_pos h4]
theorem zef {p:ProgD} (h:¬ (p.vars.length=0∨6 < p.vars.length∨12 < p.rules.length)) (h1:yck p=true) (h2:p.vars.all ymd=true) (h3:p.rules.all (ybl · p.vars.length)=true) (h4:p.rules.all (yer · (ybc p))=true):ydf p=0:=by unfold ydf;rw [if_neg h,if_neg (by simp [h1]),if_neg (by simp [h2]),if_neg (by simp [h3]),if_neg (by simp [h4])]
theorem formed_vars {r:RuleD} {n:Nat} (h:ybl r n=true):∀ s∈r.sets,0≤s.var∧s.var < n:=by
 rw [yhs] at h
 simp only [Bool.and_eq_true,yqc,List.all_eq_true,zqg,yca,decide_eq_true_eq] at h
 intro s hs
 have:=(h.2.2.2.1 s hs).1
 omega
theorem yvp {p:ProgD} (h:p.vars.all ymd=true):yfh (ybc p)=true:=by
 unfold yfh ybc
 rw [List.all_map,List.all_eq_true]
 intro x hx
 have:=List.all_eq_true.1 h x hx
 unfold ymd at this
 rw [Bool.and_eq_true] at this
 exact this.1
theorem zbr {w:World} {p:ProgD} {a0 a1:Option Addr} {cap0 cap1:Nat} (h:yhj w (.agg #[.string p.name,.slice a0 p.vars.length cap0,.slice a1 p.rules.length cap1]) p):yhj (w.alloc (.cells #[.string p.name,.slice a0 p.vars.length cap0,.slice a1 p.rules.length cap1] 25)) (.agg #[.string p.name,.slice a0 p.vars.length cap0,.slice a1 p.rules.length cap1]) p:=h.below ((Below.refl _ _).alloc (Nat.le_refl _) _)
set_option maxHeartbeats 16000000 in
theorem check_any (v:Value) (p:ProgD) (w:World) (hv:yhj w v p) (hin:yhi p) (hlight:yve p) :
  Calls Tryz.prog 95 #[v] w fun e w'=>e=.returned (.int .i64 (ydf p))∧Below w.heap.size w w':=by
 obtain ⟨hp1,hp2,hp3⟩:=hlight
 have HLR:=Lib.hid hp3
 have HP:=Lib.hid hv
 have HIN:=Lib.hid hin
 obtain ⟨vv,rv,rfl,hvv,hrv⟩:=hv
 obtain ⟨a0,cap0,rfl,i1,i2,i3⟩:=hvv.open
 obtain ⟨a1,cap1,rfl,j1,j2,j3⟩:=hrv.open
 have HVC:=Lib.hid i3
 have HRC:=Lib.hid j3
 clear i3 j3 hvv hrv hp3 hin
 by_cases h0:p.vars.length=0
 ·have b0:((p.vars.length:Int) == 0)=true:=by simp [h0]
  have H:=Lib.hid (yhp (.inl h0))
  have h0':p.vars.length < 1:=by omega
  clear h0
  go_enter Tryz.func95,Tryz.ntmps95
  go_wp2_with fail
  go_ret
  exact ⟨ybd H.out.symm,(Below.refl _ _).alloc (Nat.le_refl _) _⟩
 have b0:((p.vars.length:Int) == 0)=false:=beq_eq_false_iff_ne.2 (by omega)
 by_cases h6:6 < p.vars.length
 ·have H:=Lib.hid (yhp (.inr (.inl h6)))
  go_enter Tryz.func95,Tryz.ntmps95
  go_wp2_with fail
  go_ret
  exact ⟨ybd H.out.symm,(Below.refl _ _).alloc (Nat.le_refl _) _⟩
 have b6:decide (6 < p.vars.length)=false:=by simp;omega
 have b6':decide (6 < (p.vars.length:Int))=false:=by simp;omega
 by_cases h12:12 < p.rules.length
 ·have H:=Lib.hid (yhp (.inr (.inr h12)))
  go_enter Tryz.func95,Tryz.ntmps95
  go_wp2_with fail
  go_ret
  exact ⟨ybd H.out.symm,(Below.refl _ _).alloc (Nat.le_refl _) _⟩
 have b12:decide (12 < p.rules.length)=false:=by simp;omega
 have b12':decide (12 < (p.rules.length:Int))=false:=by simp;omega
 have HLIM:=Lib.hid (show ¬ (p.vars.length=0∨6 < p.vars.length∨12 < p.rules.length) by omega)
 have HN0:=Lib.hid h0
 have h0':0 < p.vars.length:=by omega
 clear h0
 rcases Bool.eq_false_or_eq_true (yck p) with qn|qn
 rotate_left
 ·have H:=Lib.hid (yty HLIM.out qn)
  go_enter Tryz.func95,Tryz.ntmps95
  go_wp2_with fail
  refine (yzk _ p _ (by exact zbr HP.out) HIN.out (by omega) (by omega)).mono ?_
  rintro e w1 ⟨rfl,hb1⟩
  go_wp2_with fail
  go_ret
  exact ⟨ybd H.out.symm,yaw (by simpa using hb1)⟩
 go_enter Tryz.func95,Tryz.ntmps95
 go_wp2_with fail
 refine (yzk _ p _ (by exact zbr HP.out) HIN.out (by omega) (by omega)).mono ?_
 rintro e w1 ⟨rfl,hb1'⟩
 have hb1:Below (w.heap.size+1) (w.alloc (.cells #[.string p.name,.slice a0 p.vars.length cap0,.slice a1 p.rules.length cap1] 25)) w1:=by simpa using hb1'
 have hbox:=ycp hb1 1
 simp at hbox
 clear hb1'
 go_wp2_with fail
 clear hbox
 go_loopw [4,32] (fun _ i wr=>∃ k:Nat,k≤p.vars.length∧i=.int .i64 k∧Hid ((p.vars.take k).all ymd=true)∧Hid (Below (w.heap.size+1) (w.alloc (.cells #[.string p.name,.slice a0 p.vars.length cap0,.slice a1 p.rules.length cap1] 25)) wr)) (fun _ i _=>p.vars.length - (intOf i).toNat)
 case atStart=>exact ⟨0,by omega,rfl,rfl,hb1⟩
 case round=>
  clear hb1
  obtain ⟨k,hk,rfl,hall,hbel⟩:=hrel
  have hbw:=yaw hbel.out
  have hbs:=ycd hbel.out
  have hbox:=ycp hbel.out 1
  have hbox2:=ycp hbel.out 2
  simp at hbox hbox2
  by_cases hlt:k < p.vars.length
  ·obtain ⟨g,o,rfl,hg,hc⟩:=HVC.out (by omega)
   obtain ⟨x,hx⟩:∃ x,p.vars[k]?=some x:=⟨_,List.getElem?_eq_getElem hlt⟩
   obtain ⟨c0,c1,c2,c3,c4,c5⟩:=hc k x hx
   rw [← hbw.cell (p:=⟨g,_,none⟩) hg] at c0 c1 c2 c3 c4 c5
   have HGX:Hid (p.vars[k]=x):=(List.getElem?_eq_some_iff.1 hx).2
   clear hc hx
   rcases Bool.eq_false_or_eq_true (ymd x) with q1|q1
   ·have HST:=Lib.hid (ygv k hlt hall.out (by rw [HGX.out];exact q1))
    go_wp2_with (go_at_call 160;refine (yzm x _).mono ?_;rintro e w2 ⟨rfl,hb2⟩)
    exact ⟨⟨k+1,by omega,by go_num,HST,(hbel.out.alloc hbs _).trans (hb2.mono (by simp;omega))⟩,by simp [intOf];omega⟩
   ·have H:=Lib.hid (yxy HLIM.out qn (ygu k hlt (by rw [HGX.out];exact q1)))
    go_wp2_with (go_at_call 160;refine (yzm x _).mono ?_;rintro e w2 ⟨rfl,hb2⟩)
    go_ret
    exact ⟨ybd H.out.symm,(hbw.alloc (by omega) _).trans (hb2.mono (by simp;omega))⟩
  ·obtain rfl:k=p.vars.length:=by omega
   have hnum:p.vars.all ymd=true:=yjl hall.out
   have HNUM:=Lib.hid hnum
   clear hnum
   obtain ⟨wo,rfl⟩:∃ wo:World,wo=wr:=⟨_,rfl⟩
   go_wp2_with fail
   go_loopw [6,43] (fun _ i wr=>∃ k:Nat,k≤p.rules.length∧i=.int .i64 k∧Hid ((p.rules.take k).all (ybl · p.vars.length)=true)∧Hid (Below (w.heap.size+1) (w.alloc (.cells #[.string p.name,.slice a0 p.vars.length cap0,.slice a1 p.rules.length cap1] 25)) wr)) (fun _ i _=>p.rules.length - (intOf i).toNat)
   case atStart=>exact ⟨0,by omega,rfl,rfl,hbel⟩
   case round=>
    clear hbel hbw hbs hbox hbox2 hall
    obtain ⟨k,hk,rfl,hall,hbel⟩:=hrel
    have hbw:=yaw hbel.out
    have hbs:=ycd hbel.out
    have hbox:=ycp hbel.out 1
    have hbox2:=ycp hbel.out 2
    simp at hbox hbox2
    by_cases hlt:k < p.rules.length
    ·obtain ⟨g,o,rfl,hg,hc⟩:=HRC.out (by omega)
     obtain ⟨x,hx⟩:∃ x,p.rules[k]?=some x:=⟨_,List.getElem?_eq_getElem hlt⟩
     obtain ⟨gv,sv,ht,hs,c0,c1,c2⟩:=hc k x hx
     have HT:=Lib.hid ht
     have HS:=Lib.hid hs
     obtain ⟨ga,gcap,rfl,_,_,_⟩:=ht.open
     obtain ⟨sa,scap,rfl,_,_,_⟩:=yfu hs
     rw [← hbw.cell (p:=⟨g,_,none⟩) hg] at c0 c1 c2
     have HGX:Hid (p.rules[k]=x):=(List.getElem?_eq_some_iff.1 hx).2
     have HXI:=Lib.hid (HIN.out.2.2 x (List.mem_of_getElem? hx))
     have HXL:=Lib.hid (HLR.out x (List.mem_of_getElem? hx))
     have HXM:=Lib.hid (List.mem_of_getElem? hx)
     clear hc hx ht hs
     have hlt0:w.heap.size < wr.heap.size:=by omega
     have hne0:w.heap.size≠wr.heap.size:=by omega
     rcases Bool.eq_false_or_eq_true (ybl x p.vars.length) with q1|q1
     ·have HST:=Lib.hid (ygv (f:=fun r:RuleD=>ybl r p.vars.length) k hlt hall.out (by rw [HGX.out];exact q1))
      go_wp2_with fail
      refine (yud _ _ x p.vars.length _ (by exact HT.out.below (hbw.alloc (by omega) _)) (by exact HS.out.below (hbw.alloc (by omega) _) fun _ _=>ykv.below (hbw.alloc (by omega) _)) HXI.out HXL.out (by omega)).mono ?_
      rintro e w2 ⟨rfl,hb2⟩
      go_wp2_with fail
      exact ⟨⟨k+1,by omega,by go_num,HST,(hbel.out.alloc hbs _).trans (hb2.mono (by simp;omega))⟩,by simp [intOf];omega⟩
     ·have H:=Lib.hid (zbu HLIM.out qn HNUM.out (ygu k hlt (by rw [HGX.out];exact q1)))
      go_wp2_with fail
      refine (yud _ _ x p.vars.length _ (by exact HT.out.below (hbw.alloc (by omega) _)) (by exact HS.out.below (hbw.alloc (by omega) _) fun _ _=>ykv.below (hbw.alloc (by omega) _)) HXI.out HXL.out (by omega)).mono ?_
      rintro e w2 ⟨rfl,hb2⟩
      go_wp2_with fail
      go_ret
      exact ⟨ybd H.out.symm,(hbw.alloc (by omega) _).trans (hb2.mono (by simp;omega))⟩
    ·obtain rfl:k=p.rules.length:=by omega
     have hform:p.rules.all (ybl · p.vars.length)=true:=yjl hall.out
     have HFORM:=Lib.hid hform
     clear hform
     obtain ⟨wo2,rfl⟩:∃ wo2:World,wo2=wr:=⟨_,rfl⟩
     have hbox0:=ycp hbel.out 0
     simp at hbox0
     have HKL:=Lib.hid (show (ybc p).length=p.vars.length by simp [ybc])
     go_wp2_with fail
     refine (kinds_any _ p _ (by exact HP.out.below hbw) (by omega)).mono ?_
     rintro e w3 ⟨kv,rfl,hkv,hb3⟩
     have HKV:=Lib.hid hkv
     have hbel3:Hid (Below (w.heap.size+1) (w.alloc (.cells #[.string p.name,.slice a0 p.vars.length cap0,.slice a1 p.rules.length cap1] 25)) w3):=hbel.out.trans (hb3.mono hbs)
     clear hkv hbel hb3 hbw hbs hbox hbox2 hall hbox0
     have hbox2:=ycp hbel3.out 2
     simp at hbox2
     go_wp2_with fail
     clear hbox2
     go_loopw [9,59] (fun _ i wr=>∃ k:Nat,k≤p.rules.length∧i=.int .i64 k∧Hid ((p.rules.take k).all (yer · (ybc p))=true)∧Hid (Below w3.heap.size w3 wr)∧Hid (Below (w.heap.size+1) (w.alloc (.cells #[.string p.name,.slice a0 p.vars.length cap0,.slice a1 p.rules.length cap1] 25)) wr)) (fun _ i _=>p.rules.length - (intOf i).toNat)
     case atStart=>exact ⟨0,by omega,rfl,rfl,Below.refl _ _,hbel3⟩
     case round=>
      clear hbel3
      obtain ⟨k,hk,rfl,hall,hb3,hbel⟩:=hrel
      have hbw:=yaw hbel.out
      have hbs:=ycd hbel.out
      by_cases hlt:k < p.rules.length
      ·obtain ⟨g,o,rfl,hg,hc⟩:=HRC.out (by omega)
       obtain ⟨x,hx⟩:∃ x,p.rules[k]?=some x:=⟨_,List.getElem?_eq_getElem hlt⟩
       obtain ⟨gv,sv,ht,hs,c0,c1,c2⟩:=hc k x hx
       have HT:=Lib.hid ht
       have HS:=Lib.hid hs
       obtain ⟨ga,gcap,rfl,_,_,_⟩:=ht.open
       obtain ⟨sa,scap,rfl,_,_,_⟩:=yfu hs
       rw [← hbw.cell (p:=⟨g,_,none⟩) hg] at c0 c1 c2
       have HGX:Hid (p.rules[k]=x):=(List.getElem?_eq_some_iff.1 hx).2
       have HXI:=Lib.hid (HIN.out.2.2 x (List.mem_of_getElem? hx))
       have HXL:=Lib.hid (HLR.out x (List.mem_of_getElem? hx))
       have HXM:=Lib.hid (List.mem_of_getElem? hx)
       clear hc hx ht hs
       have HVAR:=Lib.hid (formed_vars (n:=p.vars.length) (List.all_eq_true.1 HFORM.out x HXM.out))
       rcases Bool.eq_false_or_eq_true (yer x (ybc p)) with q1|q1
       ·have HST:=Lib.hid (ygv (f:=fun r:RuleD=>yer r (ybc p)) k hlt hall.out (by rw [HGX.out];exact q1))
        go_wp2_with fail
        refine (zjt _ _ _ x (ybc p) _ (by exact HT.out.below (hbw.alloc (by omega) _)) (by exact HS.out.below (hbw.alloc (by omega) _) fun _ _=>ykv.below (hbw.alloc (by omega) _)) (by exact HKV.out.below (hb3.out.alloc hb3.out.size _)) HXL.out (by rw [HKL.out];exact HVAR.out)).mono ?_
        rintro e w4 ⟨rfl,hb4⟩
        go_wp2_with fail
        exact ⟨⟨k+1,by omega,by go_num,HST,(hb3.out.alloc hb3.out.size _).trans (hb4.mono (by have:=hb3.out.size;simp;omega)),(hbel.out.alloc hbs _).trans (hb4.mono (by simp;omega))⟩,by simp [intOf];omega⟩
       ·have H:=Lib.hid (zbv HLIM.out qn HNUM.out HFORM.out (ygu k hlt (by rw [HGX.out];exact q1)))
        go_wp2_with fail
        refine (zjt _ _ _ x (ybc p) _ (by exact HT.out.below (hbw.alloc (by omega) _)) (by exact HS.out.below (hbw.alloc (by omega) _) fun _ _=>ykv.below (hbw.alloc (by omega) _)) (by exact HKV.out.below (hb3.out.alloc hb3.out.size _)) HXL.out (by rw [HKL.out];exact HVAR.out)).mono ?_
        rintro e w4 ⟨rfl,hb4⟩
        go_wp2_with fail
        go_ret
        exact ⟨ybd H.out.symm,(hbw.alloc (by omega) _).trans (hb4.mono (by simp;omega))⟩
      ·obtain rfl:k=p.rules.length:=by omega
       have H:=Lib.hid (zef HLIM.out qn HNUM.out HFORM.out (yjl hall.out))
       go_wp2_with fail
       go_ret
       exact ⟨ybd H.out.symm,hbw⟩
theorem validP_any (v:Value) (p:ProgD) (w:World) (hv:yhj w v p) (hin:yhi p) (hlight:yve p) :
  Calls Tryz.prog 141 #[v] w fun e w'=>e=.returned (.bool (ydf p == 0))∧Below w.heap.size w w':=by
 have HP:=Lib.hid hv
 have HIN:=Lib.hid hin
 have HL:=Lib.hid hlight
 obtain ⟨vv,rv,rfl,hvv,hrv⟩:=hv
 obtain ⟨a0,cap0,rfl,i1,i2,i3⟩:=hvv.open
 obtain ⟨a1,cap1,rfl,j1,j2,j3⟩:=hrv.open
 clear i3 j3 hvv hrv hin hlight
 go_enter Tryz.func141,Tryz.ntmps141
 go_wp2_with fail
 refine (check_any _ p _ (by exact zbr HP.out) HIN.out HL.out).mono ?_
 rintro e w1 ⟨rfl,hb1⟩
 go_wp2_with fail
 go_ret
 exact ⟨rfl,yaw (by simpa using hb1)⟩
set_option maxHeartbeats 16000000 in
theorem rcheck_any (v:Value) (p:ProgD) (w:World) (hv:yhj w v p) (hin:yhi p) (hlight:yve p) :
  Calls Tryz.prog 227 #[v] w fun e w'=>e=.returned (.int .i64 (ydf p))∧Below w.heap.size w w':=by
 obtain ⟨hp1,hp2,hp3⟩:=hlight
 have HLR:=Lib.hid hp3
 have HP:=Lib.hid hv
 have HIN:=Lib.hid hin
 obtain ⟨vv,rv,rfl,hvv,hrv⟩:=hv
 obtain ⟨a0,cap0,rfl,i1,i2,i3⟩:=hvv.open
 obtain ⟨a1,cap1,rfl,j1,j2,j3⟩:=hrv.open
 have HVC:=Lib.hid i3
 have HRC:=Lib.hid j3
 clear i3 j3 hvv hrv hp3 hin
 rcases Bool.eq_false_or_eq_true (yca p.vars.length 1 6) with qw|qw
 rotate_left
 ·have H:=Lib.hid (yhp (p:=p) (by simp [yca] at qw;omega))
  go_enter Tryz.func227,Tryz.ntmps227
  go_wp2_with (go_at_call 256;refine (yfm _ _ _ _).mono ?_;rintro e w2 ⟨rfl,rfl⟩)
  go_ret
  exact ⟨ybd H.out.symm,(Below.refl _ _).alloc (Nat.le_refl _) _⟩
 have h0:¬ p.vars.length=0:=by simp [yca] at qw;omega
 have h6:¬ 6 < p.vars.length:=by simp [yca] at qw;omega
 by_cases h12:12 < p.rules.length
 ·have H:=Lib.hid (yhp (.inr (.inr h12)))
  go_enter Tryz.func227,Tryz.ntmps227
  go_wp2_with (go_at_call 256;refine (yfm _ _ _ _).mono ?_;rintro e w2 ⟨rfl,rfl⟩)
  go_ret
  exact ⟨ybd H.out.symm,(Below.refl _ _).alloc (Nat.le_refl _) _⟩
 have b12:decide (12 < p.rules.length)=false:=by simp;omega
 have b12':decide (12 < (p.rules.length:Int))=false:=by simp;omega
 have HLIM:=Lib.hid (show ¬ (p.vars.length=0∨6 < p.vars.length∨12 < p.rules.length) by omega)
 have HN0:=Lib.hid h0
 have h0':0 < p.vars.length:=by omega
 clear h0
 rcases Bool.eq_false_or_eq_true (yck p) with qn|qn
 rotate_left
 ·have H:=Lib.hid (yty HLIM.out qn)
  go_enter Tryz.func227,Tryz.ntmps227
  go_wp2_with (go_at_call 256;refine (yfm _ _ _ _).mono ?_;rintro e w2 ⟨rfl,rfl⟩)
  refine (zdi _ p _ (by exact zbr HP.out) HIN.out (by omega) (by omega)).mono ?_
  rintro e w1 ⟨rfl,hb1⟩
  go_wp2_with fail
  go_ret
  exact ⟨ybd H.out.symm,yaw (by simpa using hb1)⟩
 go_enter Tryz.func227,Tryz.ntmps227
 go_wp2_with (go_at_call 256;refine (yfm _ _ _ _).mono ?_;rintro e w2 ⟨rfl,rfl⟩)
 refine (zdi _ p _ (by exact zbr HP.out) HIN.out (by omega) (by omega)).mono ?_
 rintro e w1 ⟨rfl,hb1'⟩
 have hb1:Below (w.heap.size+1) (w.alloc (.cells #[.string p.name,.slice a0 p.vars.length cap0,.slice a1 p.rules.length cap1] 25)) w1:=by simpa using hb1'
 have hbox:=ycp hb1 1
 simp at hbox
 clear hb1'
 go_wp2_with fail
 clear hbox
 go_loopw [3] (fun i wr=>∃ k:Nat,k≤p.vars.length∧i=.int .i64 k∧Hid ((p.vars.take k).all ymd=true)∧Hid (Below (w.heap.size+1) (w.alloc (.cells #[.string p.name,.slice a0 p.vars.length cap0,.slice a1 p.rules.length cap1] 25)) wr)) (fun i _=>p.vars.length - (intOf i).toNat)
 case atStart=>exact ⟨0,by omega,rfl,rfl,hb1⟩
 case round=>
  clear hb1
  obtain ⟨k,hk,rfl,hall,hbel⟩:=hrel
  have hbw:=yaw hbel.out
  have hbs:=ycd hbel.out
  have hbox:=ycp hbel.out 1
  have hbox2:=ycp hbel.out 2
  simp at hbox hbox2
  by_cases hlt:k < p.vars.length
  ·obtain ⟨g,o,rfl,hg,hc⟩:=HVC.out (by omega)
   obtain ⟨x,hx⟩:∃ x,p.vars[k]?=some x:=⟨_,List.getElem?_eq_getElem hlt⟩
   obtain ⟨c0,c1,c2,c3,c4,c5⟩:=hc k x hx
   rw [← hbw.cell (p:=⟨g,_,none⟩) hg] at c0 c1 c2 c3 c4 c5
   have HGX:Hid (p.vars[k]=x):=(List.getElem?_eq_some_iff.1 hx).2
   clear hc hx
   rcases Bool.eq_false_or_eq_true (ymd x) with q1|q1
   ·have HST:=Lib.hid (ygv k hlt hall.out (by rw [HGX.out];exact q1))
    go_wp2_with (go_at_call 258;refine (yvx x _).mono ?_;rintro e w2 ⟨rfl,hb2⟩)
    exact ⟨⟨k+1,by omega,by go_num,HST,hbel.out.trans (hb2.mono hbs)⟩,by simp [intOf];omega⟩
   ·have H:=Lib.hid (yxy HLIM.out qn (ygu k hlt (by rw [HGX.out];exact q1)))
    go_wp2_with (go_at_call 258;refine (yvx x _).mono ?_;rintro e w2 ⟨rfl,hb2⟩)
    go_ret
    exact ⟨ybd H.out.symm,yeh hbw hb2⟩
  ·obtain rfl:k=p.vars.length:=by omega
   have hnum:p.vars.all ymd=true:=yjl hall.out
   have HNUM:=Lib.hid hnum
   clear hnum
   obtain ⟨wo,rfl⟩:∃ wo:World,wo=wr:=⟨_,rfl⟩
   go_wp2_with fail
   go_loopw [4] (fun i wr=>∃ k:Nat,k≤p.rules.length∧i=.int .i64 k∧Hid ((p.rules.take k).all (ybl · p.vars.length)=true)∧Hid (Below (w.heap.size+1) (w.alloc (.cells #[.string p.name,.slice a0 p.vars.length cap0,.slice a1 p.rules.length cap1] 25)) wr)) (fun i _=>p.rules.length - (intOf i).toNat)
   case atStart=>exact ⟨0,by omega,rfl,rfl,hbel⟩
   case round=>
    clear hbel hbw hbs hbox hbox2 hall
    obtain ⟨k,hk,rfl,hall,hbel⟩:=hrel
    have hbw:=yaw hbel.out
    have hbs:=ycd hbel.out
    have hbox:=ycp hbel.out 1
    have hbox2:=ycp hbel.out 2
    simp at hbox hbox2
    by_cases hlt:k < p.rules.length
    ·obtain ⟨g,o,rfl,hg,hc⟩:=HRC.out (by omega)
     obtain ⟨x,hx⟩:∃ x,p.rules[k]?=some x:=⟨_,List.getElem?_eq_getElem hlt⟩
     obtain ⟨gv,sv,ht,hs,c0,c1,c2⟩:=hc k x hx
     have HT:=Lib.hid ht
     have HS:=Lib.hid hs
     obtain ⟨ga,gcap,rfl,_,_,_⟩:=ht.open
     obtain ⟨sa,scap,rfl,_,_,_⟩:=yfu hs
     rw [← hbw.cell (p:=⟨g,_,none⟩) hg] at c0 c1 c2
     have HGX:Hid (p.rules[k]=x):=(List.getElem?_eq_some_iff.1 hx).2
     have HXI:=Lib.hid (HIN.out.2.2 x (List.mem_of_getElem? hx))
     have HXL:=Lib.hid (HLR.out x (List.mem_of_getElem? hx))
     have HXM:=Lib.hid (List.mem_of_getElem? hx)
     clear hc hx ht hs
     have hlt0:w.heap.size < wr.heap.size:=by omega
     have hg2:g < wr.heap.size:=by omega
     have ik0:(0:Int)≤(k:Int):=by omega
     have ik1:(k:Int) < (p.rules.length:Int):=by omega
     have SA:wr.cell? ⟨w.heap.size,2,none⟩=some (.slice (some ⟨g,o,none⟩) p.rules.length cap1)∧wr.cell? ⟨w.heap.size,1,none⟩=some (.slice a0 p.vars.length cap0)∧wr.cell? ⟨g,o+k * 3,none⟩=some (.string x.name)∧wr.cell? ⟨g,o+k * 3+1,none⟩=some (.slice ga x.guard.length gcap)∧wr.cell? ⟨g,o+k * 3+2,none⟩=some (.slice sa x.sets.length scap):=⟨hbox2,hbox,c0,c1,c2⟩
     rcases Bool.eq_false_or_eq_true (ybl x p.vars.length) with q1|q1
     ·have HST:=Lib.hid (ygv (f:=fun r:RuleD=>ybl r p.vars.length) k hlt hall.out (by rw [HGX.out];exact q1))
      go_wp2_with fail
      go_region_held3 (fun w'=>w'.cell? ⟨w.heap.size,2,none⟩=some (.slice (some ⟨g,o,none⟩) p.rules.length cap1)∧w'.cell? ⟨w.heap.size,1,none⟩=some (.slice a0 p.vars.length cap0)∧w'.cell? ⟨g,o+k * 3,none⟩=some (.string x.name)∧w'.cell? ⟨g,o+k * 3+1,none⟩=some (.slice ga x.guard.length gcap)∧w'.cell? ⟨g,o+k * 3+2,none⟩=some (.slice sa x.sets.length scap)) (first|exact SB|exact SA)
       (first|(go_at_call 259;refine (zac _ _ x p.vars.length _ (by exact HT.out.below hbw.drew) (by exact HS.out.below hbw.drew fun _ _=>ykv.below hbw.drew) HXI.out HXL.out (by omega)).mono ?_;rintro e w2 ⟨rfl,hb2⟩;have SB:w2.cell? ⟨w.heap.size,2,none⟩=some (.slice (some ⟨g,o,none⟩) p.rules.length cap1)∧w2.cell? ⟨w.heap.size,1,none⟩=some (.slice a0 p.vars.length cap0)∧w2.cell? ⟨g,o+k * 3,none⟩=some (.string x.name)∧w2.cell? ⟨g,o+k * 3+1,none⟩=some (.slice ga x.guard.length gcap)∧w2.cell? ⟨g,o+k * 3+2,none⟩=some (.slice sa x.sets.length scap):=⟨(hb2.cell (p:=⟨_,_,none⟩) hlt0).trans hbox2,(hb2.cell (p:=⟨_,_,none⟩) hlt0).trans hbox,(hb2.cell (p:=⟨_,_,none⟩) hg2).trans c0,(hb2.cell (p:=⟨_,_,none⟩) hg2).trans c1,(hb2.cell (p:=⟨_,_,none⟩) hg2).trans c2⟩))
      go_wp2_with fail
      exact ⟨⟨k+1,by omega,by go_num,HST,hbel.out.drew.trans (hb2.mono (by simpa using hbs))⟩,by simp [intOf];omega⟩
     ·have H:=Lib.hid (zbu HLIM.out qn HNUM.out (ygu k hlt (by rw [HGX.out];exact q1)))
      go_wp2_with fail
      go_region_held3 (fun w'=>w'.cell? ⟨w.heap.size,2,none⟩=some (.slice (some ⟨g,o,none⟩) p.rules.length cap1)∧w'.cell? ⟨w.heap.size,1,none⟩=some (.slice a0 p.vars.length cap0)∧w'.cell? ⟨g,o+k * 3,none⟩=some (.string x.name)∧w'.cell? ⟨g,o+k * 3+1,none⟩=some (.slice ga x.guard.length gcap)∧w'.cell? ⟨g,o+k * 3+2,none⟩=some (.slice sa x.sets.length scap)) (first|exact SB|exact SA)
       (first|(go_at_call 259;refine (zac _ _ x p.vars.length _ (by exact HT.out.below hbw.drew) (by exact HS.out.below hbw.drew fun _ _=>ykv.below hbw.drew) HXI.out HXL.out (by omega)).mono ?_;rintro e w2 ⟨rfl,hb2⟩;have SB:w2.cell? ⟨w.heap.size,2,none⟩=some (.slice (some ⟨g,o,none⟩) p.rules.length cap1)∧w2.cell? ⟨w.heap.size,1,none⟩=some (.slice a0 p.vars.length cap0)∧w2.cell? ⟨g,o+k * 3,none⟩=some (.string x.name)∧w2.cell? ⟨g,o+k * 3+1,none⟩=some (.slice ga x.guard.length gcap)∧w2.cell? ⟨g,o+k * 3+2,none⟩=some (.slice sa x.sets.length scap):=⟨(hb2.cell (p:=⟨_,_,none⟩) hlt0).trans hbox2,(hb2.cell (p:=⟨_,_,none⟩) hlt0).trans hbox,(hb2.cell (p:=⟨_,_,none⟩) hg2).trans c0,(hb2.cell (p:=⟨_,_,none⟩) hg2).trans c1,(hb2.cell (p:=⟨_,_,none⟩) hg2).trans c2⟩))
      go_wp2_with fail
      go_ret
      exact ⟨ybd H.out.symm,yeh hbw.drew hb2⟩
    ·obtain rfl:k=p.rules.length:=by omega
     have hform:p.rules.all (ybl · p.vars.length)=true:=yjl hall.out
     have HFORM:=Lib.hid hform
     clear hform
     obtain ⟨wo2,rfl⟩:∃ wo2:World,wo2=wr:=⟨_,rfl⟩
     have hbox0:=ycp hbel.out 0
     simp at hbox0
     have HKL:=Lib.hid (show (ybc p).length=p.vars.length by simp [ybc])
     go_wp2_with fail
     go_loopw [5] (fun i wr=>∃ k:Nat,k≤p.rules.length∧i=.int .i64 k∧Hid ((p.rules.take k).all (yer · (ybc p))=true)∧Hid (Below (w.heap.size+1) (w.alloc (.cells #[.string p.name,.slice a0 p.vars.length cap0,.slice a1 p.rules.length cap1] 25)) wr)) (fun i _=>p.rules.length - (intOf i).toNat)
     case atStart=>exact ⟨0,by omega,rfl,rfl,hbel⟩
     case round=>
      clear hbel hbw hbs hbox hbox2 hall hbox0
      obtain ⟨k,hk,rfl,hall,hbel⟩:=hrel
      have hbw:=yaw hbel.out
      have hbs:=ycd hbel.out
      have hbox0:=ycp hbel.out 0
      have hbox:=ycp hbel.out 1
      have hbox2:=ycp hbel.out 2
      simp at hbox hbox2 hbox0
      by_cases hlt:k < p.rules.length
      ·obtain ⟨g,o,rfl,hg,hc⟩:=HRC.out (by omega)
       obtain ⟨x,hx⟩:∃ x,p.rules[k]?=some x:=⟨_,List.getElem?_eq_getElem hlt⟩
       obtain ⟨gv,sv,ht,hs,c0,c1,c2⟩:=hc k x hx
       have HT:=Lib.hid ht
       have HS:=Lib.hid hs
       obtain ⟨ga,gcap,rfl,_,_,_⟩:=ht.open
       obtain ⟨sa,scap,rfl,_,_,_⟩:=yfu hs
       rw [← hbw.cell (p:=⟨g,_,none⟩) hg] at c0 c1 c2
       have HGX:Hid (p.rules[k]=x):=(List.getElem?_eq_some_iff.1 hx).2
       have HXI:=Lib.hid (HIN.out.2.2 x (List.mem_of_getElem? hx))
       have HXL:=Lib.hid (HLR.out x (List.mem_of_getElem? hx))
       have HXM:=Lib.hid (List.mem_of_getElem? hx)
       clear hc hx ht hs
       have HFX:=Lib.hid (List.all_eq_true.1 HFORM.out x HXM.out)
       have hlt0:w.heap.size < wr.heap.size:=by omega
       have hg2:g < wr.heap.size:=by omega
       have ik0:(0:Int)≤(k:Int):=by omega
       have ik1:(k:Int) < (p.rules.length:Int):=by omega
       have SA:wr.cell? ⟨w.heap.size,2,none⟩=some (.slice (some ⟨g,o,none⟩) p.rules.length cap1)∧wr.cell? ⟨w.heap.size,1,none⟩=some (.slice a0 p.vars.length cap0)∧wr.cell? ⟨w.heap.size,0,none⟩=some (.string p.name)∧wr.cell? ⟨g,o+k * 3,none⟩=some (.string x.name)∧wr.cell? ⟨g,o+k * 3+1,none⟩=some (.slice ga x.guard.length gcap)∧wr.cell? ⟨g,o+k * 3+2,none⟩=some (.slice sa x.sets.length scap):=⟨hbox2,hbox,hbox0,c0,c1,c2⟩
       rcases Bool.eq_false_or_eq_true (yer x (ybc p)) with q1|q1
       ·have HST:=Lib.hid (ygv (f:=fun r:RuleD=>yer r (ybc p)) k hlt hall.out (by rw [HGX.out];exact q1))
        go_wp2_with fail
        go_region_held3 (fun w'=>w'.cell? ⟨w.heap.size,2,none⟩=some (.slice (some ⟨g,o,none⟩) p.rules.length cap1)∧w'.cell? ⟨w.heap.size,1,none⟩=some (.slice a0 p.vars.length cap0)∧w'.cell? ⟨w.heap.size,0,none⟩=some (.string p.name)∧w'.cell? ⟨g,o+k * 3,none⟩=some (.string x.name)∧w'.cell? ⟨g,o+k * 3+1,none⟩=some (.slice ga x.guard.length gcap)∧w'.cell? ⟨g,o+k * 3+2,none⟩=some (.slice sa x.sets.length scap)) (first|exact SB|exact SC|exact SA)
         (first|(go_at_call 260;refine (zdj _ _ _ x (ybc p) _ (by exact HT.out.below (yeh hbw.drew hb3)) (by exact HS.out.below (yeh hbw.drew hb3) fun _ _=>ykv.below (yeh hbw.drew hb3)) HKV.out HXL.out (by rw [HKL.out];omega) (yvp HNUM.out) (by rw [HKL.out];exact HFX.out)).mono ?_;rintro e w4 ⟨rfl,hb4⟩;have SB:w4.cell? ⟨w.heap.size,2,none⟩=some (.slice (some ⟨g,o,none⟩) p.rules.length cap1)∧w4.cell? ⟨w.heap.size,1,none⟩=some (.slice a0 p.vars.length cap0)∧w4.cell? ⟨w.heap.size,0,none⟩=some (.string p.name)∧w4.cell? ⟨g,o+k * 3,none⟩=some (.string x.name)∧w4.cell? ⟨g,o+k * 3+1,none⟩=some (.slice ga x.guard.length gcap)∧w4.cell? ⟨g,o+k * 3+2,none⟩=some (.slice sa x.sets.length scap):=⟨((yeh hb3 hb4).cell (p:=⟨_,_,none⟩) hlt0).trans hbox2,((yeh hb3 hb4).cell (p:=⟨_,_,none⟩) hlt0).trans hbox,((yeh hb3 hb4).cell (p:=⟨_,_,none⟩) hlt0).trans hbox0,((yeh hb3 hb4).cell (p:=⟨_,_,none⟩) hg2).trans c0,((yeh hb3 hb4).cell (p:=⟨_,_,none⟩) hg2).trans c1,((yeh hb3 hb4).cell (p:=⟨_,_,none⟩) hg2).trans c2⟩)|(go_at_call 261;refine (zdh _ p _ (by exact HP.out.below hbw.drew) (by omega)).mono ?_;rintro e w3 ⟨kv,rfl,hkv,hb3⟩;have HKV:=Lib.hid hkv;clear hkv;have SC:w3.cell? ⟨w.heap.size,2,none⟩=some (.slice (some ⟨g,o,none⟩) p.rules.length cap1)∧w3.cell? ⟨w.heap.size,1,none⟩=some (.slice a0 p.vars.length cap0)∧w3.cell? ⟨w.heap.size,0,none⟩=some (.string p.name)∧w3.cell? ⟨g,o+k * 3,none⟩=some (.string x.name)∧w3.cell? ⟨g,o+k * 3+1,none⟩=some (.slice ga x.guard.length gcap)∧w3.cell? ⟨g,o+k * 3+2,none⟩=some (.slice sa x.sets.length scap):=⟨(hb3.cell (p:=⟨_,_,none⟩) hlt0).trans hbox2,(hb3.cell (p:=⟨_,_,none⟩) hlt0).trans hbox,(hb3.cell (p:=⟨_,_,none⟩) hlt0).trans hbox0,(hb3.cell (p:=⟨_,_,none⟩) hg2).trans c0,(hb3.cell (p:=⟨_,_,none⟩) hg2).trans c1,(hb3.cell (p:=⟨_,_,none⟩) hg2).trans c2⟩))
        go_wp2_with fail
        exact ⟨⟨k+1,by omega,by go_num,HST,hbel.out.drew.trans ((yeh hb3 hb4).mono (by simpa using hbs))⟩,by simp [intOf];omega⟩
       ·have H:=Lib.hid (zbv HLIM.out qn HNUM.out HFORM.out (ygu k hlt (by rw [HGX.out];exact q1)))
        go_wp2_with fail
        go_region_held3 (fun w'=>w'.cell? ⟨w.heap.size,2,none⟩=some (.slice (some ⟨g,o,none⟩) p.rules.length cap1)∧w'.cell? ⟨w.heap.size,1,none⟩=some (.slice a0 p.vars.length cap0)∧w'.cell? ⟨w.heap.size,0,none⟩=some (.string p.name)∧w'.cell? ⟨g,o+k * 3,none⟩=some (.string x.name)∧w'.cell? ⟨g,o+k * 3+1,none⟩=some (.slice ga x.guard.length gcap)∧w'.cell? ⟨g,o+k * 3+2,none⟩=some (.slice sa x.sets.length scap)) (first|exact SB|exact SC|exact SA)
         (first|(go_at_call 260;refine (zdj _ _ _ x (ybc p) _ (by exact HT.out.below (yeh hbw.drew hb3)) (by exact HS.out.below (yeh hbw.drew hb3) fun _ _=>ykv.below (yeh hbw.drew hb3)) HKV.out HXL.out (by rw [HKL.out];omega) (yvp HNUM.out) (by rw [HKL.out];exact HFX.out)).mono ?_;rintro e w4 ⟨rfl,hb4⟩;have SB:w4.cell? ⟨w.heap.size,2,none⟩=some (.slice (some ⟨g,o,none⟩) p.rules.length cap1)∧w4.cell? ⟨w.heap.size,1,none⟩=some (.slice a0 p.vars.length cap0)∧w4.cell? ⟨w.heap.size,0,none⟩=some (.string p.name)∧w4.cell? ⟨g,o+k * 3,none⟩=some (.string x.name)∧w4.cell? ⟨g,o+k * 3+1,none⟩=some (.slice ga x.guard.length gcap)∧w4.cell? ⟨g,o+k * 3+2,none⟩=some (.slice sa x.sets.length scap):=⟨((yeh hb3 hb4).cell (p:=⟨_,_,none⟩) hlt0).trans hbox2,((yeh hb3 hb4).cell (p:=⟨_,_,none⟩) hlt0).trans hbox,((yeh hb3 hb4).cell (p:=⟨_,_,none⟩) hlt0).trans hbox0,((yeh hb3 hb4).cell (p:=⟨_,_,none⟩) hg2).trans c0,((yeh hb3 hb4).cell (p:=⟨_,_,none⟩) hg2).trans c1,((yeh hb3 hb4).cell (p:=⟨_,_,none⟩) hg2).trans c2⟩)|(go_at_call 261;refine (zdh _ p _ (by exact HP.out.below hbw.drew) (by omega)).mono ?_;rintro e w3 ⟨kv,rfl,hkv,hb3⟩;have HKV:=Lib.hid hkv;clear hkv;have SC:w3.cell? ⟨w.heap.size,2,none⟩=some (.slice (some ⟨g,o,none⟩) p.rules.length cap1)∧w3.cell? ⟨w.heap.size,1,none⟩=some (.slice a0 p.vars.length cap0)∧w3.cell? ⟨w.heap.size,0,none⟩=some (.string p.name)∧w3.cell? ⟨g,o+k * 3,none⟩=some (.string x.name)∧w3.cell? ⟨g,o+k * 3+1,none⟩=some (.slice ga x.guard.length gcap)∧w3.cell? ⟨g,o+k * 3+2,none⟩=some (.slice sa x.sets.length scap):=⟨(hb3.cell (p:=⟨_,_,none⟩) hlt0).trans hbox2,(hb3.cell (p:=⟨_,_,none⟩) hlt0).trans hbox,(hb3.cell (p:=⟨_,_,none⟩) hlt0).trans hbox0,(hb3.cell (p:=⟨_,_,none⟩) hg2).trans c0,(hb3.cell (p:=⟨_,_,none⟩) hg2).trans c1,(hb3.cell (p:=⟨_,_,none⟩) hg2).trans c2⟩))
        go_wp2_with fail
        go_ret
        exact ⟨ybd H.out.symm,yeh hbw.drew (yeh hb3 hb4)⟩
      ·obtain rfl:k=p.rules.length:=by omega
       have H:=Lib.hid (zef HLIM.out qn HNUM.out HFORM.out (yjl hall.out))
       go_wp2_with fail
       go_ret
       exact ⟨ybd H.out.symm,hbw⟩
theorem rvalidP_any (v:Value) (p:ProgD) (w:World) (hv:yhj w v p) (hin:yhi p) (hlight:yve p) :
  Calls Tryz.prog 173 #[v] w fun e w'=>e=.returned (.bool (ydf p == 0))∧Below w.heap.size w w':=by
 have HP:=Lib.hid hv
 have HIN:=Lib.hid hin
 have HL:=Lib.hid hlight
 obtain ⟨vv,rv,rfl,hvv,hrv⟩:=hv
 obtain ⟨a0,cap0,rfl,i1,i2,i3⟩:=hvv.open
 obtain ⟨a1,cap1,rfl,j1,j2,j3⟩:=hrv.open
 clear i3 j3 hvv hrv hin hlight
 go_enter Tryz.func173,Tryz.ntmps173
 go_wp2_with fail
 refine (rcheck_any _ p _ (by exact zbr HP.out) HIN.out HL.out).mono ?_
 rintro e w1 ⟨rfl,hb1⟩
 go_wp2_with fail
 go_ret
 exact ⟨rfl,yaw (by simpa using hb1)⟩
end
section
def ybf (l:List Int):Int:=l.foldl max 0
theorem yib (l:List Int) (k:Nat) (x:Int) (h:l[k]?=some x):ybf (l.take (k+1))=if x > ybf (l.take k) then x else ybf (l.take k):=by
 unfold ybf
 rw [List.take_add_one,h]
 simp only [Option.toList_some,List.foldl_append,List.foldl_cons,List.foldl_nil]
 omega
theorem yvn {l:List Int} (h:∀ x∈l,x≤255):0≤ybf l∧ybf l≤255:=by
 unfold ybf
 have:∀ (l:List Int) (a:Int),(∀ x∈l,x≤255)→0≤a→a≤255→0≤l.foldl max a∧l.foldl max a≤255:=by
  intro l
  induction l with
  | nil=>intro a _ h1 h2;exact ⟨h1,h2⟩
  | cons y l ih=>
   intro a hl h1 h2
   have:=hl y (by simp)
   exact ih (max a y) (fun x hx=>hl x (by simp [hx])) (by omega) (by omega)
 exact this l 0 h (by omega) (by omega)
instance:Inhabited VarD:=⟨⟨ByteArray.empty,0,0,0,0,0⟩⟩
theorem yij {x:VarD} (h:ymd x=true):(x.kind=1∨x.kind=2∨x.kind=3)∧0≤x.lo∧x.lo≤4096∧-4096≤x.hi∧x.hi≤4096∧0≤x.perNode∧x.perNode≤255∧0≤x.perID∧x.perID≤255:=by
 unfold ymd at h
 rw [Bool.and_eq_true] at h
 obtain ⟨h1,h2⟩:=h
 have hk:x.kind=1∨x.kind=2∨x.kind=3:=by simp [yrj] at h1;omega
 refine ⟨hk,?_⟩
 split at h2
 ·simp at h2;omega
 ·simp only [yca,Bool.and_eq_true,decide_eq_true_eq] at h2
  obtain ⟨g1,g2,g3,g4⟩:=h2
  split at g4 <;> simp at g4 <;> omega
theorem ydn {p:ProgD} (h:ydf p=0):1≤p.vars.length∧p.vars.length≤6∧p.rules.length≤12∧∀ x∈p.vars,ymd x=true:=by
 by_cases h1:p.vars.length=0∨6 < p.vars.length∨12 < p.rules.length
 ·rw [yhp h1] at h;omega
 by_cases h2:yck p=true
 ·by_cases h3:p.vars.all ymd=true
  ·exact ⟨by omega,by omega,by omega,fun x hx=>List.all_eq_true.1 h3 x hx⟩
  ·rw [yxy h1 h2 (by simpa using h3)] at h;omega
 ·rw [yty h1 (by simpa using h2)] at h;omega
def yar (x:VarD) (g:GraphD) (deg:Int):Int × Int:=
 if x.kind=2 then (0,1) else if x.kind=3 then (-1,deg - 1) else (x.lo,x.hi+x.perNode * g.ports.length+x.perID * ybf g.ids)
def there (p:ProgD) (g:GraphD) (v x:Int):Bool:=decide (0≤v) && decide (v < g.ports.length) && (decide (0≤x) && decide (x < p.vars.length))
def zbf (g:GraphD) (x:VarD):Bool:=!(x.kind == 1) || (decide ((yar x g 0).1≤(yar x g 0).2) && decide ((yar x g 0).2 - (yar x g 0).1+1≤4096))
def yhg (p:ProgD) (g:GraphD):Int:=if ydf p=0 then if ybs g=true then if p.vars.all (zbf g)=true then 0 else 9 else 1 else 8
def ylh (kind lo hi value:Int):Int:=if lo≤value∧value≤hi then value else if kind=3 then -1 else if value < lo then lo else hi
theorem ydx {p:ProgD} {g:GraphD}:yhg p g=0↔ydf p=0∧ybs g=true∧∀ x∈p.vars,zbf g x=true:=by
 unfold yhg
 constructor
 ·intro h
  split at h
  ·split at h
   ·split at h
    ·rename_i h1 h2 h3;exact ⟨h1,h2,List.all_eq_true.1 h3⟩
    ·omega
   ·omega
  ·omega
 ·rintro ⟨h1,h2,h3⟩
  rw [if_pos h1,if_pos h2,if_pos (List.all_eq_true.2 h3)]
theorem valid_greatest {g:GraphD} (h:ybs g=true):0≤ybf g.ids∧ybf g.ids≤255:=yvn fun x hx=>((yal h).2.2.2.1 x hx).2
theorem zvo {a b A B:Int} (h0:0≤a) (h1:a≤A) (h2:0≤b) (h3:b≤B):0≤a * b∧a * b≤A * B:=⟨Int.mul_nonneg h0 h2,Int.mul_le_mul h1 h3 h2 (by omega)⟩
theorem zge {x:VarD} {g:GraphD} (hx:ymd x=true) (hg:ybs g=true):0≤x.perNode * (g.ports.length:Int)∧x.perNode * (g.ports.length:Int)≤255 * 24∧0≤x.perID * ybf g.ids∧x.perID * ybf g.ids≤255 * 255:=by
 have h1:=yij hx
 have h2:=yal hg
 have h3:=valid_greatest hg
 have m1:=zvo (a:=x.perNode) (b:=(g.ports.length:Int)) (A:=255) (B:=24) (by omega) (by omega) (by omega) (by omega)
 have m2:=zvo (a:=x.perID) (b:=ybf g.ids) (A:=255) (B:=255) (by omega) (by omega) (by omega) (by omega)
 omega
theorem yxw {x:VarD} {g:GraphD} {deg:Int} (hx:ymd x=true) (hg:ybs g=true) (hd:0≤deg∧deg≤30):-1≤(yar x g deg).1∧(yar x g deg).1≤4096∧-4096≤(yar x g deg).2∧(yar x g deg).2≤100000:=by
 have h1:=yij hx
 have h2:=zge hx hg
 unfold yar
 split
 ·simp
 ·split
  ·simp only;omega
  ·simp only;omega
theorem fit_bd {x:VarD} {g:GraphD} {deg:Int} (hf:zbf g x=true) (hx:ymd x=true) (hd:0≤deg∧deg≤30):(yar x g deg).1≤(yar x g deg).2+(if x.kind=3 then 1 else 0)∧(yar x g deg).2 - (yar x g deg).1+1≤4096:=by
 have h1:=yij hx
 unfold zbf at hf
 unfold yar at hf ⊢
 rcases h1.1 with hk|hk|hk
 ·simp [hk] at hf ⊢;omega
 ·simp [hk]
 ·simp [hk];omega
end
section
def ygp:Int:=1073741824
def zlm (a:Int):Int:=max (-ygp) (min a ygp)
def InV (a:Int):Prop:=-ygp≤a∧a≤ygp
theorem ztk (a:Int):InV (zlm a):=by unfold zlm InV ygp;omega
theorem ztj {a:Int} (h:InV a):zlm a=a:=by unfold zlm InV ygp at *;omega
def ytl (b:Bool):Int:=if b then 1 else 0
theorem zar (b:Bool):InV (ytl b):=by unfold ytl InV ygp;split <;> omega
def znw (a b:Int):Int:=if b=0 then 0 else a.fdiv b
theorem zvs {a b:Int} (hb:b≠0):(if a.tmod b≠0∧(decide (a < 0) != decide (b < 0))=true then a.tdiv b - 1 else a.tdiv b)=znw a b:=by
 unfold znw
 rw [if_neg hb,Int.fdiv_eq_tdiv]
 by_cases hd:b ∣ a
 ·rw [if_pos hd,if_neg (fun h=>h.1 (Int.dvd_iff_tmod_eq_zero.1 hd))];omega
 ·have hm:a.tmod b≠0:=fun h=>hd (Int.dvd_iff_tmod_eq_zero.2 h)
  rw [if_neg hd]
  rcases Int.lt_or_le a 0 with ha|ha <;> rcases Int.lt_or_le b 0 with hl|hl
  ·rw [if_neg (by simp [ha,hl]),if_neg (by omega),if_neg (by omega),Int.sign_eq_neg_one_of_neg hl];omega
  ·rw [if_pos ⟨hm,by simp [ha];omega⟩,if_neg (by omega),if_pos hl,Int.sign_eq_one_of_pos (by omega)]
  ·rw [if_pos ⟨hm,by simp [hl];omega⟩,if_pos ha,if_neg (by omega)]
  ·rw [if_neg (fun h=>by have:=h.2;simp at this;omega),if_pos ha,if_pos hl];omega
def unV (op a:Int):Int:=if op=18 then -a else ytl (a == 0)
def exV (op a b:Int):Int:=
 if op=30 then a * b else if op=31 then znw a b else if op=32 then (if b=0 then 0 else a - b * znw a b) else if op=33 then a+b else if op=34 then a - b
 else if op=35 then ytl (a == b) else if op=36 then ytl (a != b) else if op=37 then ytl (decide (a < b)) else if op=38 then ytl (decide (a≤b)) else if op=39 then ytl (decide (b < a)) else if op=40 then ytl (decide (b≤a))
 else if op=41 then ytl (a != 0 && b != 0) else ytl (a != 0 || b != 0)
def biV (op a b:Int):Int:=zlm (exV op a b)
def zue (l:List Int):Nat:=(l.filter (· != 0)).length
def zmy:List Int→Nat→Int
 | [],_=>-1
 | a::l,k=>if a≠0 then k else zmy l (k+1)
def yvq (l:List Int):Int:=l.foldl min ygp
def greatV (l:List Int):Int:=l.foldl max (-ygp)
def zds:List Int→Int × Int→Int × Int
 | [],q=>q
 | a::l,q=>zds l (max q.1 a,max q.2 (min q.1 a))
def zpl (l:List Int):Nat→Nat→Nat
 | 0,k=>k
 | n+1,k=>if (k:Int)∈l then zpl l n (k+1) else k
def zro (op:Int) (l:List Int):Int:=
 if op=20 then ytl (zue l == l.length) else if op=21 then ytl (decide (0 < zue l)) else if op=22 then zue l else if op=23 then zmy l 0 else if op=24 then yvq l else if op=25 then greatV l
 else if op=26 then zlm l.sum else if op=27 then zpl l (l.length+1) 0 else if op=28 then (zds l (-ygp,-ygp)).2 else l.headD 0
structure Scn where
 g:GraphD
 c:List (List Int)
 v:Nat
def Scn.deg (s:Scn):Nat:=(s.g.ports.getD s.v []).length
def Scn.link (s:Scn) (port:Int):Lk:=(s.g.ports.getD s.v []).getD port.toNat (0,0)
def Scn.get (s:Scn) (u:Nat) (x:Int):Int:=(s.c.getD u []).getD x.toNat 0
def Scn.leaf (s:Scn) (port:Int) (t:Tm):Int:=
 if t.1=1 then t.2 else if t.1=2 then 1 else if t.1=3 then 0 else if t.1=4 then -1 else if t.1=5 then s.get s.v t.2 else if t.1=6 then s.g.ids.length else if t.1=7 then ybf s.g.ids
 else if t.1=8 then s.g.ids.getD s.v 0 else if t.1=9 then s.deg else if t.1=10 then ytl (s.v == 0) else if t.1=11 then port else if t.1=12 then s.get (s.link port).1.toNat t.2
 else if t.1=13 then s.g.ids.getD (s.link port).1.toNat 0 else if t.1=14 then (s.g.ports.getD (s.link port).1.toNat []).length else if t.1=15 then ytl ((s.link port).1 == 0) else if t.1=16 then (s.link port).2
 else yfj (s.g.ports.getD (s.link port).1.toNat []) s.v
def Scn.val (s:Scn):Int→Ex→Int
 | port,.lf t=>s.leaf port t
 | port,.un t a=>if yjk t.1 then zro t.1 ((List.range s.deg).map fun (k:Nat)=>s.val (k:Int) a) else unV t.1 (s.val port a)
 | port,.bi t a b=>biV t.1 (s.val port a) (s.val port b)
 | port,.tr t a b c=>if s.val port a≠0 then s.val port b else s.val port c
end
section
theorem ztq {α:Type} {l:List α} {k:Nat} {x:α} (hx:l[k]?=some x):l.take (k+1)=l.take k++[x]:=by
 obtain ⟨hk,rfl⟩:=List.getElem?_eq_some_iff.1 hx
 exact List.take_succ_eq_append_getElem hk
theorem zrb (l:List Int) (a:Int):zue (l++[a])=zue l+(if a≠0 then 1 else 0):=by
 unfold zue
 rw [List.filter_append,List.length_append]
 by_cases h:a=0 <;> simp [h]
theorem zvc (l:List Int):zue l≤l.length:=List.length_filter_le _ _
theorem zrv:∀ (l:List Int) (k:Nat),zmy l k=-1∨((k:Int)≤zmy l k∧zmy l k < ((k+l.length:Nat):Int))
 | [],k=>.inl rfl
 | b::l,k=>by
  simp only [zmy]
  by_cases hb:b=0
  ·simp only [hb,ne_eq,not_true_eq_false,if_false,List.length_cons]
   rcases zrv l (k+1) with h|⟨h1,h2⟩
   ·exact .inl h
   ·exact .inr ⟨by omega,by omega⟩
  ·simp only [ne_eq,hb,not_false_eq_true,if_true,List.length_cons]
   exact .inr ⟨by omega,by omega⟩
theorem zru:∀ {l:List Int} {k i:Nat} {a:Int},l[i]?=some a→a≠0→(∀ j b,j < i→l[j]?=some b→b=0)→zmy l k=((k+i:Nat):Int)
 | b::l,k,0,a,h,ha,_=>by
  simp only [List.getElem?_cons_zero,Option.some.injEq] at h
  subst h
  simp [zmy,ha]
 | b::l,k,i+1,a,h,ha,hall=>by
  have hb:=hall 0 b (by omega) rfl
  simp only [zmy,hb,ne_eq,not_true_eq_false,if_false]
  rw [zru (l:=l) (k:=k+1) (i:=i) (by simpa using h) ha (fun j c hj hc=>hall (j+1) c (by omega) (by simpa using hc))]
  rw [show k+1+i=k+(i+1) by omega]
theorem zer:∀ {l:List Int} {k:Nat},(∀ a∈l,a=0)→zmy l k=-1
 | [],k,_=>rfl
 | b::l,k,h=>by
  simp only [zmy,h b (by simp),ne_eq,not_true_eq_false,if_false]
  exact zer fun a ha=>h a (by simp [ha])
theorem least_app (l:List Int) (a:Int):yvq (l++[a])=min (yvq l) a:=by unfold yvq;rw [List.foldl_append];rfl
theorem ztt:∀ (l:List Int) (a:Int) (q:Int × Int),zds (l++[a]) q=(max (zds l q).1 a,max (zds l q).2 (min (zds l q).1 a))
 | [],a,q=>rfl
 | b::l,a,q=>by simp only [List.cons_append,zds,ztt l a]
theorem zjs:∀ (l:List Int) (q:Int × Int),(zds l q).1=l.foldl max q.1
 | [],q=>rfl
 | b::l,q=>by simp only [zds,List.foldl_cons,zjs l]
theorem zwc:∀ (l:List Int) (q:Int × Int),q.2≤q.1→(zds l q).2≤(zds l q).1
 | [],q,h=>h
 | b::l,q,h=>by
  simp only [zds]
  exact zwc l _ (by simp only;omega)
theorem two_step {g s a:Int} (h:s≤g):(max g a,max s (min g a))=if g < a then (a,g) else (g,max s a):=by
 split
 ·rw [show max g a=a by omega,show max s (min g a)=g by omega]
 ·rw [show max g a=g by omega,show min g a=a by omega]
theorem sum_app (l:List Int) (a:Int):(l++[a]).sum=l.sum+a:=by simp
theorem zvz:∀ {l:List Int},(∀ a∈l,InV a)→-(ygp * l.length)≤l.sum∧l.sum≤ygp * l.length
 | [],_=>by simp
 | b::l,h=>by
  have h1:=zvz (l:=l) fun a ha=>h a (by simp [ha])
  have h2:=h b (by simp)
  unfold InV ygp at *
  simp only [List.sum_cons,List.length_cons]
  omega
theorem zfn:∀ (k:Nat) (l:List Int),(∀ j,j < k→((j:Nat):Int)∈l)→k≤l.length
 | 0,l,_=>Nat.zero_le _
 | k+1,l,h=>by
  have hk:=h k (by omega)
  have h1:=zfn k (l.erase (k:Int)) fun j hj=>by
   rw [List.mem_erase_of_ne (by omega)]
   exact h j (by omega)
  have h2:=List.length_erase_of_mem hk
  have h3:0 < l.length:=List.length_pos_of_mem hk
  omega
theorem mex_stop {l:List Int}:∀ {n k:Nat},¬ ((k:Int)∈l)→zpl l n k=k
 | 0,k,_=>rfl
 | n+1,k,h=>by simp only [zpl];rw [if_neg h]
theorem mex_next {l:List Int} {n k:Nat} (h:(k:Int)∈l):zpl l (n+1) k=zpl l n (k+1):=by simp only [zpl];rw [if_pos h]
theorem mex_run {l:List Int} {k:Nat} (h:∀ j,j < k→((j:Nat):Int)∈l):zpl l (l.length+1) 0=zpl l (l.length+1 - k) k:=by
 induction k with
 | zero=>rfl
 | succ k ih=>
  rw [ih fun j hj=>h j (by omega)]
  have h1:=zfn (k+1) l h
  rw [show l.length+1 - k=(l.length+1 - (k+1))+1 by omega,mex_next (h k (by omega))]
theorem zvm {l:List Int}:∀ (n k:Nat),zpl l n k≤k+n
 | 0,k=>by simp [zpl]
 | n+1,k=>by
  simp only [zpl]
  split
  ·have:=zvm (l:=l) n (k+1);omega
  ·omega
theorem zep {f:Int→Int→Int} (hf:∀ a b,InV a→InV b→InV (f a b)):∀ {l:List Int} {q:Int},InV q→(∀ a∈l,InV a)→InV (l.foldl f q)
 | [],q,hq,_=>hq
 | a::l,q,hq,h=>zep (l:=l) hf (hf q a hq (h a (by simp))) fun b hb=>h b (by simp [hb])
theorem zwb:∀ {l:List Int} {q:Int × Int},InV q.1→InV q.2→(∀ a∈l,InV a)→InV (zds l q).2
 | [],q,_,h2,_=>h2
 | a::l,q,h1,h2,h=>by
  have ha:=h a (by simp)
  refine zwb (l:=l) ?_ ?_ fun b hb=>h b (by simp [hb])
  ·unfold InV at *;simp only;omega
  ·unfold InV at *;simp only;omega
theorem fold_in {op:Int} {l:List Int} (hl:l.length≤1000) (h:∀ a∈l,InV a):InV (zro op l):=by
 have hb:InV ygp:=by unfold InV ygp;omega
 have hn:InV (-ygp):=by unfold InV ygp;omega
 have hsm:∀ n:Nat,n≤3000→InV (n:Int):=fun n hn=>by unfold InV ygp;omega
 unfold zro
 repeat' split
 ·exact zar _
 ·exact zar _
 ·exact hsm _ (by have:=zvc l;omega)
 ·rcases zrv l 0 with e|⟨e1,e2⟩
  ·rw [e];unfold InV ygp;omega
  ·unfold InV ygp;omega
 ·exact zep (fun a b h1 h2=>by unfold InV at *;omega) hb h
 ·exact zep (fun a b h1 h2=>by unfold InV at *;omega) hn h
 ·exact ztk _
 ·exact hsm _ (by have:=zvm (l:=l) (l.length+1) 0;omega)
 ·exact zwb (q:=(-ygp,-ygp)) hn hn h
 ·cases l with
  | nil=>unfold InV ygp;simp
  | cons a l=>exact h a (by simp)
end
section
structure ScnOk (s:Scn):Prop where
 ids:∀ a∈s.g.ids,0≤a∧a≤255
 few:s.g.ids.length≤24
 links:∀ ls∈s.g.ports,ls.length≤24∧∀ l∈ls,0≤l.2∧l.2≤15
 vals:∀ r∈s.c,∀ a∈r,InV a
theorem zrw {l:List Int} {k:Nat} (h:∀ a∈l,InV a):InV (l.getD k 0):=by
 rw [List.getD_eq_getElem?_getD]
 cases hk:l[k]? with
 | none=>unfold InV ygp;simp
 | some a=>exact h a (List.mem_of_getElem? hk)
theorem zes {α:Type} {l:List (List α)} {k:Nat}:l.getD k []=[]∨l.getD k []∈l:=by
 rw [List.getD_eq_getElem?_getD]
 cases hk:l[k]? with
 | none=>exact .inl rfl
 | some a=>exact .inr (List.mem_of_getElem? hk)
theorem get_in {s:Scn} (h:ScnOk s) (u:Nat) (x:Int):InV (s.get u x):=by
 unfold Scn.get
 rcases zes (l:=s.c) (k:=u) with e|e
 ·rw [e];unfold InV ygp;simp
 ·exact zrw (h.vals _ e)
theorem yzt {s:Scn} (h:ScnOk s) (u:Nat):(s.g.ports.getD u []).length≤24:=by
 rcases zes (l:=s.g.ports) (k:=u) with e|e
 ·rw [e];simp
 ·exact (h.links _ e).1
theorem link_in {s:Scn} (h:ScnOk s) (p:Int):InV (s.link p).2:=by
 unfold Scn.link
 rcases zes (l:=s.g.ports) (k:=s.v) with e|e
 ·rw [e];unfold InV ygp;simp
 ·rw [List.getD_eq_getElem?_getD]
  cases hk:(s.g.ports.getD s.v [])[p.toNat]? with
  | none=>unfold InV ygp;simp
  | some l=>
   have:=(h.links _ e).2 l (List.mem_of_getElem? hk)
   unfold InV ygp
   show _≤l.2∧l.2≤_
   omega
theorem port_bd (ls:List Lk) (u:Int):-1≤yfj ls u∧yfj ls u < ls.length+1:=by
 rcases yop ls u with ⟨h,_⟩|⟨k,x,h,hx,_⟩
 ·omega
 ·have:=(List.getElem?_eq_some_iff.1 hx).1;omega
theorem yxg {n:Int} (h0:-1≤n) (h1:n≤1000000):InV n:=by unfold InV ygp;omega
theorem ite_in {c:Prop} [Decidable c] {a b:Int} (h1:InV a) (h2:InV b):InV (if c then a else b):=by split <;> assumption
theorem leaf_in {s:Scn} (hS:ScnOk s) {port:Int} (hp:InV port) {t:Tm} {vars:Int} (ha:yrc vars t=true):InV (s.leaf port t):=by
 have hid:∀ a∈s.g.ids,InV a:=fun a hm=>by have:=hS.ids a hm;exact yxg (by omega) (by omega)
 unfold Scn.leaf
 by_cases e1:t.1=1
 ·rw [if_pos e1]
  unfold yrc at ha
  rw [if_pos e1] at ha
  simp only [Bool.and_eq_true,decide_eq_true_eq] at ha
  unfold InV ygp;omega
 rw [if_neg e1]
 have l1:=yzt hS s.v
 have l2:=yzt hS (s.link port).1.toNat
 have l3:=port_bd (s.g.ports.getD (s.link port).1.toNat []) s.v
 have l5:=yvn (l:=s.g.ids) fun a hm=>(hS.ids a hm).2
 have l4:=hS.few
 repeat' refine ite_in ?_ ?_
 all_goals first
  | exact yxg (by omega) (by omega)
  | exact get_in hS _ _
  | exact zar _
  | exact hp
  | exact zrw hid
  | exact link_in hS _
  | exact yxg (by unfold Scn.deg;omega) (by unfold Scn.deg;omega)
theorem un_in {op a:Int} (h:InV a):InV (unV op a):=by
 unfold unV
 split
 ·unfold InV at *;omega
 ·exact zar _
theorem zas {s:Scn} (h:ScnOk s) {vars:Int}:∀ (E:Ex),(∀ t∈E.fl,yrc vars t=true)→∀ {port:Int},InV port→InV (s.val port E)
 | .lf t,ha,port,hp=>leaf_in h hp (ha t (by simp [Ex.fl]))
 | .un t a,ha,port,hp=>by
  have ih:=fun {q:Int} (hq:InV q)=>zas h a (fun x hx=>ha x (by simp [Ex.fl,hx])) hq
  simp only [Scn.val]
  have hd:s.deg≤24:=yzt h s.v
  split
  ·refine fold_in (by simp;omega) fun x hx=>?_
   obtain ⟨k,hk,rfl⟩:=List.mem_map.1 hx
   have:=List.mem_range.1 hk
   exact ih (yxg (by omega) (by omega))
  ·exact un_in (ih hp)
 | .bi t a b,ha,port,hp=>ztk _
 | .tr t a b c,ha,port,hp=>by
  simp only [Scn.val]
  split
  ·exact zas h b (fun x hx=>ha x (by simp [Ex.fl,hx])) hp
  ·exact zas h c (fun x hx=>ha x (by simp [Ex.fl,hx])) hp
def biP (op a b:Int):Int:=
 if op=30 then zlm (a * b) else if op=31 then zlm (znw a b) else if op=32 then (if b=0 then 0 else zlm (a - b * znw a b)) else if op=33 then zlm (a+b) else if op=34 then zlm (a - b)
 else if op=41 then ytl (a != 0 && b != 0) else if op=42 then ytl (a != 0 || b != 0)
 else ytl (if op=35 then a == b else if op=36 then a != b else if op=37 then decide (a < b) else if op=38 then decide (a≤b) else if op=39 then decide (b < a) else decide (b≤a))
theorem biP_eq {op a b:Int} (h:30≤op∧op≤42):biP op a b=biV op a b:=by
 have ht:∀ c,zlm (ytl c)=ytl c:=fun c=>ztj (zar c)
 have h0:zlm 0=0:=ztj (by unfold InV ygp;omega)
 have:op=30∨op=31∨op=32∨op=33∨op=34∨op=35∨op=36∨op=37∨op=38∨op=39∨op=40∨op=41∨op=42:=by omega
 rcases this with rfl|rfl|rfl|rfl|rfl|rfl|rfl|rfl|rfl|rfl|rfl|rfl|rfl <;> simp [biP,biV,exV,ht]
 split <;> simp [h0]
end
end Go.Proofs.YtgpbgfpjlhoicaaGreatDoor
