/- Part 2 of the texts under TopColoursConverge: joined, with what it needs alone. -/
import Derived.Below
import Derived.Test.YtfhejdcijbgikaaGreatDoorRows
import Derived.WalkKit
import Derived.WalkSpells
import Derived.WalkLawsBesides
import Derived.Lib.Hide
import Derived.Maps.OwnOps
import Derived.Maps.OwnSet
import Derived.Maps.Views
import Derived.StringKeys
import Derived.Deep.QuietTactic
import Derived.BigQuiet
import Derived.Laws.AppendOwn
import Derived.Laws.AppendOwnNone
import Derived.Laws.OwnMore
import Derived.OwnWalk
import Derived.Deep.RegionHeld3
import Derived.Test.YtfhejdcijbgikaaGreatDoorProg
import Derived.Lib.LaidTab
import Derived.Test.YtfhejdcijbgikaaGreatDoorCC1
set_option linter.unusedVariables false
set_option maxRecDepth 100000
namespace Go.Proofs.YtfhejdcijbgikaaGreatDoor
section
open Go.RowKit
def yft (n lo hi:Int):Bool:=decide (lo≤n) && decide (n≤hi)
theorem yet (n lo hi:Int) (w:World):Calls Tryz.prog 193 #[.int .i64 n,.int .i64 lo,.int .i64 hi] w fun e w'=>e=.returned (.bool (yft n lo hi))∧w=w':=by
 go_enter Tryz.func193,Tryz.ntmps193
 go_wp2
 all_goals go_ret
 all_goals exact ⟨yak (by rw [Bool.eq_iff_iff];simp [yft];try omega),rfl⟩
def yur (x:VarD):Bool:=
 ywh x.kind && (if (x.kind != 1)=true then (x.lo == 0) && ((x.hi == 0) && ((x.perNode == 0) && (x.perID == 0))) else
  yft x.lo 0 4096 && (yft x.perNode 0 255 && (yft x.perID 0 255 && (if ((x.perNode == 0) && (x.perID == 0))=true then yft x.hi 0 4096 else ((x.perNode == 0) || (x.perID == 0)) && yft x.hi (-4096) 4096))))
theorem kind_one (k:Int) (h:(k != 1)=false):ywh k=true:=by
 simp at h;subst h;rfl
set_option maxHeartbeats 4000000 in
theorem yzj (x:VarD) (w:World):Calls Tryz.prog 129 #[.agg #[.string x.name,.int .i64 x.kind,.int .i64 x.lo,.int .i64 x.hi,.int .i64 x.perNode,.int .i64 x.perID]] w fun e w'=>e=.returned (.bool (yur x))∧Below w.heap.size w w':=by
 obtain ⟨name,kind,lo,hi,pn,pi⟩:=x
 rcases Bool.eq_false_or_eq_true (kind != 1) with q1|q1
 ·rcases Bool.eq_false_or_eq_true (ywh kind) with q0|q0
  ·rcases Bool.eq_false_or_eq_true (lo == 0) with q2|q2 <;> rcases Bool.eq_false_or_eq_true (hi == 0) with q3|q3 <;> rcases Bool.eq_false_or_eq_true (pn == 0) with q4|q4
   all_goals
    go_enter Tryz.func129,Tryz.ntmps129
    go_wp2_with (first|(go_at_call 174;refine (ycx _ _).mono ?_;rintro e w1 ⟨rfl,rfl⟩)|(go_at_call 193;refine (yet _ _ _ _).mono ?_;rintro e w1 ⟨rfl,rfl⟩))
    go_ret
    exact ⟨yak (by simp [yur, *]),(Below.refl _ _).alloc (Nat.le_refl _) _⟩
  ·
   go_enter Tryz.func129,Tryz.ntmps129
   go_wp2_with (first|(go_at_call 174;refine (ycx _ _).mono ?_;rintro e w1 ⟨rfl,rfl⟩)|(go_at_call 193;refine (yet _ _ _ _).mono ?_;rintro e w1 ⟨rfl,rfl⟩))
   go_ret
   exact ⟨yak (by simp [yur, *]),(Below.refl _ _).alloc (Nat.le_refl _) _⟩
 ·have q0:=kind_one kind q1
  rcases Bool.eq_false_or_eq_true (yft lo 0 4096) with q2|q2
  ·rcases Bool.eq_false_or_eq_true (yft pn 0 255) with q3|q3
   ·rcases Bool.eq_false_or_eq_true (yft pi 0 255) with q4|q4
    ·rcases Bool.eq_false_or_eq_true (pn == 0) with q5|q5 <;> rcases Bool.eq_false_or_eq_true (pi == 0) with q6|q6
     all_goals have q7:(pn != 0)=!(pn == 0):=rfl
     all_goals have q8:(pi != 0)=!(pi == 0):=rfl
     all_goals simp only [q5,q6,Bool.not_true,Bool.not_false] at q7 q8
     all_goals
      go_enter Tryz.func129,Tryz.ntmps129
      go_wp2_with (first|(go_at_call 174;refine (ycx _ _).mono ?_;rintro e w1 ⟨rfl,rfl⟩)|(go_at_call 193;refine (yet _ _ _ _).mono ?_;rintro e w1 ⟨rfl,rfl⟩))
      go_ret
      exact ⟨yak (by simp [yur, *]),(Below.refl _ _).alloc (Nat.le_refl _) _⟩
    ·
     go_enter Tryz.func129,Tryz.ntmps129
     go_wp2_with (first|(go_at_call 174;refine (ycx _ _).mono ?_;rintro e w1 ⟨rfl,rfl⟩)|(go_at_call 193;refine (yet _ _ _ _).mono ?_;rintro e w1 ⟨rfl,rfl⟩))
     go_ret
     exact ⟨yak (by simp [yur, *]),(Below.refl _ _).alloc (Nat.le_refl _) _⟩
   ·
    go_enter Tryz.func129,Tryz.ntmps129
    go_wp2_with (first|(go_at_call 174;refine (ycx _ _).mono ?_;rintro e w1 ⟨rfl,rfl⟩)|(go_at_call 193;refine (yet _ _ _ _).mono ?_;rintro e w1 ⟨rfl,rfl⟩))
    go_ret
    exact ⟨yak (by simp [yur, *]),(Below.refl _ _).alloc (Nat.le_refl _) _⟩
  ·
   go_enter Tryz.func129,Tryz.ntmps129
   go_wp2_with (first|(go_at_call 174;refine (ycx _ _).mono ?_;rintro e w1 ⟨rfl,rfl⟩)|(go_at_call 193;refine (yet _ _ _ _).mono ?_;rintro e w1 ⟨rfl,rfl⟩))
   go_ret
   exact ⟨yak (by simp [yur, *]),(Below.refl _ _).alloc (Nat.le_refl _) _⟩
end
section
open Go.RowKit
def yni:Bool→List UInt8→Nat
 | _,[]=>0
 | true,c::r=>if c=10 then 1+yni false r else 1+yni true r
 | false,c::r=>if c=32∨c=9∨c=10∨c=13 then 1+yni false r else if c=35 then 1+yni true r else 0
def ybd (s:ByteArray) (k:Nat):List UInt8:=s.data.toList.drop k
def zcy (s:ByteArray) (b:Bool) (a:Nat):Nat:=a+yni b (ybd s a)
theorem ynr (s:ByteArray) (k:Nat) (h:k < s.size):ybd s k=s[k]::ybd s (k+1):=by
 unfold ybd
 rw [List.drop_eq_getElem_cons (by simpa using h)];rfl
theorem bytesFrom_ge (s:ByteArray) (k:Nat) (h:s.size≤k):ybd s k=[]:=by
 unfold ybd
 exact List.drop_eq_nil_of_le (by simpa using h)
theorem bytesFrom_drop (s:ByteArray) (k n:Nat):(ybd s k).drop n=ybd s (k+n):=by
 unfold ybd;rw [List.drop_drop]
theorem yig (s:ByteArray) (k:Nat):(ybd s k).length=s.size - k:=by
 unfold ybd;simp
theorem skipL_le (b:Bool) (r:List UInt8):yni b r≤r.length:=by
 induction r generalizing b with
 | nil=>cases b <;> simp [yni]
 | cons c r ih=>
  have h1:=ih true
  have h2:=ih false
  cases b <;> simp only [yni,List.length_cons] <;> repeat' split
  all_goals omega
theorem skipTo_bd (s:ByteArray) (b:Bool) (k:Nat) (h:k≤s.size):k≤zcy s b k∧zcy s b k≤s.size:=by
 have:=skipL_le b (ybd s k)
 rw [yig] at this
 unfold zcy;omega
def ylg (c:UInt8):Bool:=(97≤c && c≤122) || (65≤c && c≤90)
def yyb (c:UInt8):Bool:=48≤c && c≤57
def ytq (c:UInt8):Bool:=ylg c || yyb c || c == 95
def xaq (p:UInt8→Bool):List UInt8→Nat
 | []=>0
 | c::r=>if p c then 1+xaq p r else 0
def dig (v:Nat) (c:UInt8):Nat:=10 * v+(c.toNat - 48)
def xcl (v:Nat) (ds:List UInt8):Nat:=ds.foldl dig v
def numRes (ds:List UInt8):Option Nat:=if (1 < ds.length∧ds.head?=some 48)∨1073741824 < xcl 0 ds then none else some (xcl 0 ds)
theorem take_snoc (s:ByteArray) (k:Nat) (h:k < s.size):(ybd s 0).take (k+1)=(ybd s 0).take k++[s[k]]:=by
 unfold ybd
 rw [List.drop_zero,List.take_succ_eq_append_getElem (by simpa using h)];rfl
theorem take_all (s:ByteArray) (k:Nat) (h:s.size≤k):(ybd s 0).take k=ybd s 0:=by
 rw [List.take_of_length_le];rw [yig];omega
theorem mem_bytes (s:ByteArray) (k:Nat) (h:k < s.size):s[k]∈ybd s 0:=by
 unfold ybd
 rw [List.drop_zero,Array.mem_toList_iff]
 exact Array.getElem_mem (xs:=s.data) h
def sign2B (a b:UInt8):Bool:=
 (a == 46 && b == 46) || (a == 45 && b == 62) || (a == 58 && b == 61) || (a == 38 && b == 38) || (a == 124 && b == 124) || (a == 61 && b == 61) || (a == 33 && b == 61) || (a == 60 && b == 61) || (a == 62 && b == 61)
def zxe (a:UInt8):Bool:=[59,58,44,40,41,46,63,60,62,43,45,42,47,37,33].contains a
def xas:List UInt8→Nat
 | a::b::_=>if sign2B a b then 2 else if zxe a then 1 else 0
 | [a]=>if zxe a then 1 else 0
 | []=>0
structure Tok where
 kind:Nat
 from_:Nat
 to:Nat
 num:Nat
def xcb (r:List UInt8):Except Nat (Nat × Nat × Nat):=
 match r with
 | []=>.error 4
 | c::_=>
  if ylg c then (if 24 < xaq ytq r then .error 5 else .ok (1,xaq ytq r,0))
  else if yyb c then (match numRes (r.take (xaq yyb r)) with|none=>.error 2|some v=>.ok (2,xaq yyb r,v))
  else if xas r=0 then .error 4 else .ok (3,xas r,0)
theorem zgq (s:ByteArray) (p:Nat):(ybd s p).drop (yni false (ybd s p))=ybd s (zcy s false p):=by
 rw [bytesFrom_drop];rfl
theorem bytesFrom_nil_iff (s:ByteArray) (k:Nat):ybd s k=[]↔s.size≤k:=by
 rw [← List.length_eq_zero_iff,yig];omega
end
section
open Go.RowKit
set_option maxHeartbeats 400000 in
theorem yuk (c:UInt8) (w:World) :
  Calls Tryz.prog 179 #[.int .u8 (c.toNat:Int)] w fun e w'=>e=.returned (.bool (ylg c))∧w=w':=by
 go_enter Tryz.func179,Tryz.ntmps179
 go_wp2
 all_goals go_ret
 all_goals exact ⟨yak (by rw [Bool.eq_iff_iff];simp [ylg,UInt8.le_iff_toNat_le];omega),rfl⟩
set_option maxHeartbeats 400000 in
theorem digit_any (c:UInt8) (w:World) :
  Calls Tryz.prog 181 #[.int .u8 (c.toNat:Int)] w fun e w'=>e=.returned (.bool (yyb c))∧w=w':=by
 go_enter Tryz.func181,Tryz.ntmps181
 go_wp2
 all_goals go_ret
 all_goals exact ⟨yak (by rw [Bool.eq_iff_iff];simp [yyb,UInt8.le_iff_toNat_le];omega),rfl⟩
set_option maxHeartbeats 400000 in
theorem zcb (c:UInt8) (w:World) :
  Calls Tryz.prog 180 #[.int .u8 (c.toNat:Int)] w fun e w'=>e=.returned (.bool (ytq c))∧w=w':=by
 go_enter Tryz.func180,Tryz.ntmps180
 cases h1:ylg c <;> cases h2:yyb c
 all_goals
  go_wp2_with (first|(go_at_call 179;refine (yuk _ _).mono ?_;rintro e w' ⟨rfl,rfl⟩)|(go_at_call 181;refine (digit_any _ _).mono ?_;rintro e w' ⟨rfl,rfl⟩))
  go_ret
  exact ⟨yak (by rw [Bool.eq_iff_iff];simp [ytq,h1,h2,← UInt8.toNat_inj];try omega),rfl⟩
end
set_option maxHeartbeats 8000000
section
open Go.RowKit
def xbz:List (List UInt8):=[[112,114,111,103,114,97,109],[118,97,114],[114,117,108,101],[98,111,111,108],[112,111,114,116],[116,114,117,101],[102,97,108,115,101],[110,111,110,101],[110],[105,100,115],[105,100],[100,101,103],[114,111,111,116],[113],[119,101,105,103,104,116],[98,97,99,107],[97,108,108],[115,111,109,101],[99,111,117,110,116],[102,105,114,115,116],[109,105,110],[109,97,120],[115,117,109],[109,101,120],[115,101,99,111,110,100],[104,101,97,100]]
def zyo (s:ByteArray):Bool:=xbz.any (fun x=>s.toList == x)
theorem resB_no (s:ByteArray) (q0:(s.toList == [112,114,111,103,114,97,109])=false) (q1:(s.toList == [118,97,114])=false) (q2:(s.toList == [114,117,108,101])=false) (q3:(s.toList == [98,111,111,108])=false) (q4:(s.toList == [112,111,114,116])=false) (q5:(s.toList == [116,114,117,101])=false) (q6:(s.toList == [102,97,108,115,101])=false) (q7:(s.toList == [110,111,110,101])=false) (q8:(s.toList == [110])=false) (q9:(s.toList == [105,100,115])=false) (q10:(s.toList == [105,100])=false) (q11:(s.toList == [100,101,103])=false) (q12:(s.toList == [114,111,111,116])=false) (q13:(s.toList == [113])=false) (q14:(s.toList == [119,101,105,103,104,116])=false) (q15:(s.toList == [98,97,99,107])=false) (q16:(s.toList == [97,108,108])=false) (q17:(s.toList == [115,111,109,101])=false) (q18:(s.toList == [99,111,117,110,116])=false) (q19:(s.toList == [102,105,114,115,116])=false) (q20:(s.toList == [109,105,110])=false) (q21:(s.toList == [109,97,120])=false) (q22:(s.toList == [115,117,109])=false) (q23:(s.toList == [109,101,120])=false) (q24:(s.toList == [115,101,99,111,110,100])=false) (q25:(s.toList == [104,101,97,100])=false):zyo s=false:=by
 simp only [zyo,xbz,List.any_cons,List.any_nil,q0,q1,q2,q3,q4,q5,q6,q7,q8,q9,q10,q11,q12,q13,q14,q15,q16,q17,q18,q19,q20,q21,q22,q23,q24,q25,Bool.or_false]
theorem ybx (s:ByteArray) (x:List UInt8) (hx:xbz.contains x=true) (h:(s.toList == x)=true):zyo s=true:=by
 unfold zyo
 rw [List.any_eq_true]
 exact ⟨x,List.contains_iff_mem.1 hx,h⟩
set_option maxHeartbeats 4000000 in
def ylz (s:ByteArray):Bool:=
 match ybd s 0 with
 | []=>false
 | c::r=>decide (s.size≤24) && (ylg c && ((c::r).all ytq && !zyo s))
theorem nameB_empty (s:ByteArray) (h:s.size=0):ylz s=false:=by
 unfold ylz;rw [bytesFrom_ge s 0 (by omega)]
theorem nameB_long (s:ByteArray) (h:24 < s.size):ylz s=false:=by
 unfold ylz;rw [ynr s 0 (by omega)];simp;omega
theorem nameB_letter (s:ByteArray) (h:0 < s.size) (hl:ylg s[0]=false):ylz s=false:=by
 unfold ylz;rw [ynr s 0 h];simp [hl]
theorem nameB_word (s:ByteArray) (k:Nat) (h:k < s.size) (hw:ytq s[k]=false):ylz s=false:=by
 have hm:=mem_bytes s k h
 unfold ylz
 cases hb:ybd s 0 with
 | nil=>rfl
 | cons c r=>
  rw [hb] at hm
  have:(c::r).all ytq=false:=by
   rw [List.all_eq_false];exact ⟨s[k],hm,by simp [hw]⟩
  simp only [this,Bool.false_and,Bool.and_false]
theorem nameB_rest (s:ByteArray) (h:0 < s.size) (h24:s.size≤24) (hl:ylg s[0]=true) (ha:((ybd s 0).take s.size).all ytq=true):ylz s=!zyo s:=by
 rw [take_all s _ (Nat.le_refl _)] at ha
 unfold ylz
 rw [ynr s 0 h] at *
 simp only [ha,hl,h24,decide_true,Bool.true_and]
theorem all_snoc (s:ByteArray) (k:Nat) (h:k < s.size) (ha:((ybd s 0).take k).all ytq=true) (hw:ytq s[k]=true):((ybd s 0).take (k+1)).all ytq=true:=by
 rw [take_snoc s k h,List.all_append,ha];simp [hw]
end
section
open Go.RowKit
theorem reserved_any (s:ByteArray) (w:World) :
  Calls Tryz.prog 231 #[.string s] w fun e w'=>e=.returned (.bool (zyo s))∧w=w':=by
 rcases Bool.eq_false_or_eq_true (s.toList == [112,114,111,103,114,97,109]) with q0|q0
 ·have H:=Lib.hid (ybx s _ (by decide) q0)
  go_enter Tryz.func231,Tryz.ntmps231
  go_wp2
  go_ret
  exact ⟨yak H.out.symm,rfl⟩
 rcases Bool.eq_false_or_eq_true (s.toList == [118,97,114]) with q1|q1
 ·have H:=Lib.hid (ybx s _ (by decide) q1)
  go_enter Tryz.func231,Tryz.ntmps231
  go_wp2
  go_ret
  exact ⟨yak H.out.symm,rfl⟩
 rcases Bool.eq_false_or_eq_true (s.toList == [114,117,108,101]) with q2|q2
 ·have H:=Lib.hid (ybx s _ (by decide) q2)
  go_enter Tryz.func231,Tryz.ntmps231
  go_wp2
  go_ret
  exact ⟨yak H.out.symm,rfl⟩
 rcases Bool.eq_false_or_eq_true (s.toList == [98,111,111,108]) with q3|q3
 ·have H:=Lib.hid (ybx s _ (by decide) q3)
  go_enter Tryz.func231,Tryz.ntmps231
  go_wp2
  go_ret
  exact ⟨yak H.out.symm,rfl⟩
 rcases Bool.eq_false_or_eq_true (s.toList == [112,111,114,116]) with q4|q4
 ·have H:=Lib.hid (ybx s _ (by decide) q4)
  go_enter Tryz.func231,Tryz.ntmps231
  go_wp2
  go_ret
  exact ⟨yak H.out.symm,rfl⟩
 rcases Bool.eq_false_or_eq_true (s.toList == [116,114,117,101]) with q5|q5
 ·have H:=Lib.hid (ybx s _ (by decide) q5)
  go_enter Tryz.func231,Tryz.ntmps231
  go_wp2
  go_ret
  exact ⟨yak H.out.symm,rfl⟩
 rcases Bool.eq_false_or_eq_true (s.toList == [102,97,108,115,101]) with q6|q6
 ·have H:=Lib.hid (ybx s _ (by decide) q6)
  go_enter Tryz.func231,Tryz.ntmps231
  go_wp2
  go_ret
  exact ⟨yak H.out.symm,rfl⟩
 rcases Bool.eq_false_or_eq_true (s.toList == [110,111,110,101]) with q7|q7
 ·have H:=Lib.hid (ybx s _ (by decide) q7)
  go_enter Tryz.func231,Tryz.ntmps231
  go_wp2
  go_ret
  exact ⟨yak H.out.symm,rfl⟩
 rcases Bool.eq_false_or_eq_true (s.toList == [110]) with q8|q8
 ·have H:=Lib.hid (ybx s _ (by decide) q8)
  go_enter Tryz.func231,Tryz.ntmps231
  go_wp2
  go_ret
  exact ⟨yak H.out.symm,rfl⟩
 rcases Bool.eq_false_or_eq_true (s.toList == [105,100,115]) with q9|q9
 ·have H:=Lib.hid (ybx s _ (by decide) q9)
  go_enter Tryz.func231,Tryz.ntmps231
  go_wp2
  go_ret
  exact ⟨yak H.out.symm,rfl⟩
 rcases Bool.eq_false_or_eq_true (s.toList == [105,100]) with q10|q10
 ·have H:=Lib.hid (ybx s _ (by decide) q10)
  go_enter Tryz.func231,Tryz.ntmps231
  go_wp2
  go_ret
  exact ⟨yak H.out.symm,rfl⟩
 rcases Bool.eq_false_or_eq_true (s.toList == [100,101,103]) with q11|q11
 ·have H:=Lib.hid (ybx s _ (by decide) q11)
  go_enter Tryz.func231,Tryz.ntmps231
  go_wp2
  go_ret
  exact ⟨yak H.out.symm,rfl⟩
 rcases Bool.eq_false_or_eq_true (s.toList == [114,111,111,116]) with q12|q12
 ·have H:=Lib.hid (ybx s _ (by decide) q12)
  go_enter Tryz.func231,Tryz.ntmps231
  go_wp2
  go_ret
  exact ⟨yak H.out.symm,rfl⟩
 rcases Bool.eq_false_or_eq_true (s.toList == [113]) with q13|q13
 ·have H:=Lib.hid (ybx s _ (by decide) q13)
  go_enter Tryz.func231,Tryz.ntmps231
  go_wp2
  go_ret
  exact ⟨yak H.out.symm,rfl⟩
 rcases Bool.eq_false_or_eq_true (s.toList == [119,101,105,103,104,116]) with q14|q14
 ·have H:=Lib.hid (ybx s _ (by decide) q14)
  go_enter Tryz.func231,Tryz.ntmps231
  go_wp2
  go_ret
  exact ⟨yak H.out.symm,rfl⟩
 rcases Bool.eq_false_or_eq_true (s.toList == [98,97,99,107]) with q15|q15
 ·have H:=Lib.hid (ybx s _ (by decide) q15)
  go_enter Tryz.func231,Tryz.ntmps231
  go_wp2
  go_ret
  exact ⟨yak H.out.symm,rfl⟩
 rcases Bool.eq_false_or_eq_true (s.toList == [97,108,108]) with q16|q16
 ·have H:=Lib.hid (ybx s _ (by decide) q16)
  go_enter Tryz.func231,Tryz.ntmps231
  go_wp2
  go_ret
  exact ⟨yak H.out.symm,rfl⟩
 rcases Bool.eq_false_or_eq_true (s.toList == [115,111,109,101]) with q17|q17
 ·have H:=Lib.hid (ybx s _ (by decide) q17)
  go_enter Tryz.func231,Tryz.ntmps231
  go_wp2
  go_ret
  exact ⟨yak H.out.symm,rfl⟩
 rcases Bool.eq_false_or_eq_true (s.toList == [99,111,117,110,116]) with q18|q18
 ·have H:=Lib.hid (ybx s _ (by decide) q18)
  go_enter Tryz.func231,Tryz.ntmps231
  go_wp2
  go_ret
  exact ⟨yak H.out.symm,rfl⟩
 rcases Bool.eq_false_or_eq_true (s.toList == [102,105,114,115,116]) with q19|q19
 ·have H:=Lib.hid (ybx s _ (by decide) q19)
  go_enter Tryz.func231,Tryz.ntmps231
  go_wp2
  go_ret
  exact ⟨yak H.out.symm,rfl⟩
 rcases Bool.eq_false_or_eq_true (s.toList == [109,105,110]) with q20|q20
 ·have H:=Lib.hid (ybx s _ (by decide) q20)
  go_enter Tryz.func231,Tryz.ntmps231
  go_wp2
  go_ret
  exact ⟨yak H.out.symm,rfl⟩
 rcases Bool.eq_false_or_eq_true (s.toList == [109,97,120]) with q21|q21
 ·have H:=Lib.hid (ybx s _ (by decide) q21)
  go_enter Tryz.func231,Tryz.ntmps231
  go_wp2
  go_ret
  exact ⟨yak H.out.symm,rfl⟩
 rcases Bool.eq_false_or_eq_true (s.toList == [115,117,109]) with q22|q22
 ·have H:=Lib.hid (ybx s _ (by decide) q22)
  go_enter Tryz.func231,Tryz.ntmps231
  go_wp2
  go_ret
  exact ⟨yak H.out.symm,rfl⟩
 rcases Bool.eq_false_or_eq_true (s.toList == [109,101,120]) with q23|q23
 ·have H:=Lib.hid (ybx s _ (by decide) q23)
  go_enter Tryz.func231,Tryz.ntmps231
  go_wp2
  go_ret
  exact ⟨yak H.out.symm,rfl⟩
 rcases Bool.eq_false_or_eq_true (s.toList == [115,101,99,111,110,100]) with q24|q24
 ·have H:=Lib.hid (ybx s _ (by decide) q24)
  go_enter Tryz.func231,Tryz.ntmps231
  go_wp2
  go_ret
  exact ⟨yak H.out.symm,rfl⟩
 rcases Bool.eq_false_or_eq_true (s.toList == [104,101,97,100]) with q25|q25
 ·have H:=Lib.hid (ybx s _ (by decide) q25)
  go_enter Tryz.func231,Tryz.ntmps231
  go_wp2
  go_ret
  exact ⟨yak H.out.symm,rfl⟩
 have H:=Lib.hid (resB_no s q0 q1 q2 q3 q4 q5 q6 q7 q8 q9 q10 q11 q12 q13 q14 q15 q16 q17 q18 q19 q20 q21 q22 q23 q24 q25)
 go_enter Tryz.func231,Tryz.ntmps231
 go_wp2
 go_ret
 exact ⟨yak H.out.symm,rfl⟩
theorem ykt (s:ByteArray) (w:World) (hs:s.size≤9223372036854775807) :
  Calls Tryz.prog 187 #[.string s] w fun e w'=>e=.returned (.bool (ylz s))∧w=w':=by
 by_cases h0:s.size=0
 ·have H:=Lib.hid (nameB_empty s h0)
  have h0':s.size < 1:=by omega
  clear h0
  go_enter Tryz.func187,Tryz.ntmps187
  go_wp2
  go_ret
  exact ⟨yak H.out.symm,rfl⟩
 have h0':0 < s.size:=by omega
 clear h0
 by_cases h24:24 < s.size
 ·have H:=Lib.hid (nameB_long s h24)
  go_enter Tryz.func187,Tryz.ntmps187
  go_wp2
  go_ret
  exact ⟨yak H.out.symm,rfl⟩
 cases hl:ylg s[0]
 ·have H:=Lib.hid (nameB_letter s h0' hl)
  go_enter Tryz.func187,Tryz.ntmps187
  go_wp2_with (go_at_call 179;refine (yuk _ _).mono ?_;rintro e w' ⟨rfl,rfl⟩)
  go_ret
  exact ⟨yak H.out.symm,rfl⟩
 go_enter Tryz.func187,Tryz.ntmps187
 go_wp2_with (go_at_call 179;refine (yuk _ _).mono ?_;rintro e w' ⟨rfl,rfl⟩)
 go_loop [3,20] (fun _ i=>∃ k:Nat,k≤s.size∧i=.int .i64 k∧Hid (((ybd s 0).take k).all ytq=true)) (fun _ i=>s.size - (intOf i).toNat)
 case atStart=>exact ⟨0,by omega,rfl,rfl⟩
 case round=>
  obtain ⟨k,hk,rfl,ha⟩:=hrel
  by_cases hlt:k < s.size
  ·cases hw:ytq s[k]
   ·have H:=Lib.hid (nameB_word s k hlt hw)
    go_wp2_with (go_at_call 180;refine (zcb _ _).mono ?_;rintro e w' ⟨rfl,rfl⟩)
    go_ret
    exact ⟨yak H.out.symm,rfl⟩
   ·have H:=Lib.hid (all_snoc s k hlt ha.out hw)
    go_wp2_with (go_at_call 180;refine (zcb _ _).mono ?_;rintro e w' ⟨rfl,rfl⟩)
    exact ⟨⟨k+1,by omega,by go_num,H⟩,by simp [intOf];omega⟩
  ·obtain rfl:k=s.size:=by omega
   have H:=Lib.hid (nameB_rest s h0' (by omega) hl ha.out)
   go_wp2_with (go_at_call 231;refine (reserved_any _ _).mono ?_;rintro e w' ⟨rfl,rfl⟩)
   go_ret
   exact ⟨yak H.out.symm,rfl⟩
end
section
open Go.RowKit
def zao (s:ByteArray):List UInt8:=s.data.toList
def yic (l:List ByteArray):Bool:=l.all ylz && decide ((l.map zao).Nodup)
theorem zhz {l:List ByteArray} (k:Nat) (hk:k < l.length) (h:ylz l[k]=false):yic l=false:=by
 unfold yic
 have:l.all ylz=false:=by rw [List.all_eq_false];exact ⟨l[k],List.getElem_mem hk,by simp [h]⟩
 rw [this];rfl
theorem names_twice {l:List ByteArray} (j k:Nat) (hjk:j < k) (hk:k < l.length) (h:zao (l[j]'(by omega))=zao l[k]):yic l=false:=by
 unfold yic
 have:¬ (l.map zao).Nodup:=by
  intro hn
  have hn':=List.pairwise_iff_getElem.1 hn j k (by simp;omega) (by simpa using hk) hjk
  apply hn'
  simp [h]
 simp [this]
theorem zck {l:List ByteArray} (k:Nat) (hk:k < l.length) (h:yic (l.take k)=true) (h1:ylz l[k]=true) (h2:zao l[k] ∉ (l.take k).map zao):yic (l.take (k+1))=true:=by
 unfold yic at *
 rw [Bool.and_eq_true,decide_eq_true_eq] at *
 rw [List.take_succ_eq_append_getElem hk,List.all_append,h.1,List.map_append]
 refine ⟨by simpa using h1,?_⟩
 rw [List.nodup_append]
 refine ⟨h.2,by simp,?_⟩
 intro a ha b hb
 simp only [List.map_singleton,List.mem_singleton] at hb
 subst hb
 intro hab
 exact h2 (hab ▸ ha)
theorem mem_names {l:List ByteArray} {k:Nat} {x:List UInt8} (h:x∈(l.take k).map zao):∃ j,∃ h:j < l.length,j < k∧zao l[j]=x:=by
 rw [List.mem_map] at h
 obtain ⟨s,hs,rfl⟩:=h
 obtain ⟨j,hj⟩:=List.getElem?_of_mem hs
 have hjk:j < k:=by
  have:=(List.getElem?_eq_some_iff.1 hj).1
  rw [List.length_take] at this;omega
 rw [List.getElem?_take,if_pos hjk] at hj
 obtain ⟨h1,h2⟩:=List.getElem?_eq_some_iff.1 hj
 exact ⟨j,h1,hjk,by rw [h2]⟩
theorem yzd {l:List ByteArray} {k:Nat} (hk:k < l.length) (h:zao l[k]∈(l.take k).map zao):yic l=false:=by
 obtain ⟨j,hj,hjk,he⟩:=mem_names h
 exact names_twice j k hjk hk he
def yeq (p:ProgD):Bool:=ylz p.name && (yic (p.vars.map (·.name)) && yic (p.rules.map (·.name)))
def ydc (r:RuleD) (n:Int):Bool:=
 decide (1≤r.sets.length) && (decide (r.sets.length≤6) && (yed r.guard n && (r.sets.all (fun s=>yft s.var 0 (n - 1) && yed s.val n) && decide ((r.sets.map (·.var)).Nodup))))
def yik (r:RuleD) (kinds:List Int):Bool:=((ofF r.guard kinds false).1 == 2) && r.sets.all (fun s=>(ofF s.val kinds false).1 == kinds.getD s.var.toNat 0)
def ycm (p:ProgD):List Int:=p.vars.map (·.kind)
def ydu (p:ProgD):Int:=
 if p.vars.length=0∨6 < p.vars.length∨12 < p.rules.length then 3 else if yeq p=false then 5 else if p.vars.all yur=false then 2 else
 if p.rules.all (ydc · p.vars.length)=false then 7 else if p.rules.all (yik · (ycm p))=false then 6 else 0
theorem zdp {α:Type} {f:α→Bool} {l:List α} (k:Nat) (hk:k < l.length) (h:f l[k]=false):l.all f=false:=by
 rw [List.all_eq_false];exact ⟨l[k],List.getElem_mem hk,by simp [h]⟩
theorem ywq {α:Type} {f:α→Bool} {l:List α} (k:Nat) (hk:k < l.length) (h:(l.take k).all f=true) (hw:f l[k]=true):(l.take (k+1)).all f=true:=by
 rw [List.take_succ_eq_append_getElem hk,List.all_append,h];simp [hw]
theorem zdq {α:Type} {f:α→Bool} {l:List α} (h:(l.take l.length).all f=true):l.all f=true:=by rw [List.take_length] at h;exact h
end
section
open Go.RowKit Go.Maps
def yna (P:Program) (k e:TypeId) (w:World) (b n:Nat) (S:List Lit):Prop:=
 ∃ D:DataW Unit,w.ownsMap P k (plainElem P e) b n D∧∀ kl,(kl∈S→D.atKey kl (.lit (.bool false))=.lit (.bool true))∧(kl ∉ S→D.atKey kl (.lit (.bool false))=.lit (.bool false))
section
variable {P:Program} {k e t:TypeId} {w w':World} {b n:Nat} {S:List Lit}
theorem yrd (P:Program) (k e:TypeId) (w:World):yna P k e (w.alloc (.map #[] 0)) w.heap.size 0 []:=
 ⟨.map [],World.ownsMap_made w P k _,fun kl=>⟨fun h=>by simp at h,fun _=>by simp [DataW.atKey]⟩⟩
theorem yna.lt (h:yna P k e w b n S):b < w.heap.size:=by obtain ⟨D,h,_⟩:=h;exact h.lt
theorem yna.below (h:yna P k e w b n S) (hb:Below w.heap.size w w'):yna P k e w' b n S:=by
 have hl:=h.lt
 obtain ⟨D,⟨es,clock,h1,h2⟩,h3⟩:=h
 exact ⟨D,⟨es,clock,(hb.block b hl).trans h1,h2⟩,h3⟩
theorem plainElem_bool_inv (he:P.underlying e=some .bool) {v:Value} {z:DataW Unit × List MemPlace} (h:plainElem P e v=some z):∃ x,v=.bool x∧z=(.lit (.bool x),[]):=by
 unfold plainElem at h
 rw [he] at h
 cases v <;> simp at h
 exact ⟨_,rfl,h.symm⟩
theorem yna.look (h:yna P k e w b n S) (K:Keyed P k) (ht:P.underlying t=some (.map k e)) (he:P.underlying e=some .bool) (hz:(zeroValue e).run P w=.ok (.bool false) w) {key:Value} {kl:Lit} (hkey:keyOf P k key=some kl) (x:Bool) (hx:(kl∈S∧x=true)∨(kl ∉ S∧x=false)) :
  (Instr.lookup t (.map (some b)) key false).run P w=.ok (.bool x) w:=by
 obtain ⟨D,h1,h2⟩:=h
 obtain ⟨v,ps,hrun,hv⟩:=h1.lookup K ht hz (plainElem_bool he false) hkey
 obtain ⟨y,rfl,hy⟩:=plainElem_bool_inv he hv
 rcases hx with ⟨h3,rfl⟩|⟨h3,rfl⟩
 ·rw [(h2 kl).1 h3] at hy
  simp only [Prod.mk.injEq,DataW.lit.injEq,Lit.bool.injEq] at hy
  obtain ⟨rfl,_⟩:=hy
  exact hrun
 ·rw [(h2 kl).2 h3] at hy
  simp only [Prod.mk.injEq,DataW.lit.injEq,Lit.bool.injEq] at hy
  obtain ⟨rfl,_⟩:=hy
  exact hrun
theorem yht {ops:Array Oper} {rest:List Oper} {o:Oper} {a:Act} {Q:Exit→Act→World→Prop}
  (hg:o.guard=none) (m x v:Operand) (t:TypeId) (hop:o.op=Op.mapUpdate t m x v)
  (k e:TypeId) (K:Keyed P k) (ht:P.underlying t=some (.map k e)) (he:P.underlying e=some .bool) (b n:Nat) (S:List Lit)
  (hm:a.eval m=.map (some b)) (hown:yna P k e w b n S) (hn:n < maxLen) (key:Value) (kl:Lit) (hx:a.eval x=key) (hv:a.eval v=.bool true) (hkey:keyOf P k key=some kl)
  (hK:∀ w',yna P k e w' b (n+1) (S++[kl])→w.grownBy w' (some b)→wpList P ops Q rest (a.put o.dst undef) w') :
  wpList P ops Q (o::rest) a w:=by
 obtain ⟨D,h1,h2⟩:=hown
 refine wpList_mapUpdate_own w hg m x v t hop k e K ht (plainElem P e) b n D hm h1 hn key (.bool true) kl hx hv hkey (.lit (.bool true)) [] (plainElem_bool he true) (fun w' h3 h4=>hK w' ⟨_,h3,fun kl'=>?_⟩ h4)
 by_cases hkl:kl'=kl
 ·subst hkl
  refine ⟨fun _=>atKey_put_same h1.isMap (K.key hkey) _ _,fun h=>absurd (by simp) h⟩
 ·rw [atKey_put_other hkl]
  exact ⟨fun h=>(h2 kl').1 (by simpa [hkl] using h),fun h=>(h2 kl').2 (by simpa [hkl] using h)⟩
end
end
section
open Go.RowKit Go.Maps
theorem yhn:Keyed Tryz.prog 9:=string_keyed Tryz.underlying9
theorem yps (w:World):(zeroValue 4).run Tryz.prog w=.ok (.bool false) w:=by kernel_rfl
theorem ylv (s:ByteArray) (h:s.size≤9223372036854775807):keyOf Tryz.prog 9 (.string s)=some (.string (zao s)):=WideMaps.keyOf_string_mk Tryz.underlying9 (by unfold maxLen;omega)
theorem ykj {w wr:World} {xs:Array Value} {T:TypeId} (hb:Below (w.heap.size+1) (w.alloc (.cells xs T)) wr) (j:Nat):wr.cell? ⟨w.heap.size,j,none⟩=xs[j]?:=by
 rw [hb.cell (p:=⟨w.heap.size,j,none⟩) (by simp)]
 have h1:(w.alloc (.cells xs T)).heap[w.heap.size]?=some (.cells xs T):=heap_alloc_new w _
 unfold World.cell?
 simp only [h1]
 simp
theorem ycp {w wr:World} {xs:Array Value} {T:TypeId} (hb:Below (w.heap.size+1) (w.alloc (.cells xs T)) wr):Below w.heap.size w wr:=
 ((Below.refl _ _).alloc (Nat.le_refl _) _).trans (hb.mono (by omega))
theorem yhv {w wr:World} {xs:Array Value} {T:TypeId} (hb:Below (w.heap.size+1) (w.alloc (.cells xs T)) wr):w.heap.size+1≤wr.heap.size:=by
 have:=hb.size;simpa using this
def zqt (l:List ByteArray):List Lit:=l.map fun s=>.string (zao s)
theorem yxc {l:List ByteArray} {x:List UInt8}:Lit.string x∈zqt l↔x∈l.map zao:=by
 unfold zqt
 simp only [List.mem_map,Lit.string.injEq]
theorem zhp (l:List ByteArray) (k:Nat) (hk:k < l.length):zqt (l.take k)++[.string (zao l[k])]=zqt (l.take (k+1)):=by
 unfold zqt;rw [List.take_succ_eq_append_getElem hk,List.map_append];rfl
def zrh (l:List ByteArray) (M k:Nat) (wr:World):Prop:=yna Tryz.prog 9 4 wr M k (zqt (l.take k))∧yic (l.take k)=true
set_option maxHeartbeats 8000000 in
theorem yzc (v:Value) (p:ProgD) (w:World) (hv:yqd w v p) (hin:zbc p) (h6:p.vars.length≤1000) (h12:p.rules.length≤1000) :
  Calls Tryz.prog 128 #[v] w fun e w'=>e=.returned (.bool (yeq p))∧Below w.heap.size w w':=by
 obtain ⟨vv,rv,rfl,hvv,hrv⟩:=hv
 obtain ⟨hn0,hnv,hnr⟩:=hin
 have HNV:=Lib.hid hnv
 have HNR:=Lib.hid hnr
 obtain ⟨a0,cap0,rfl,i1,i2,i3⟩:=hvv.open
 obtain ⟨a1,cap1,rfl,j1,j2,j3⟩:=hrv.open
 have HVC:=Lib.hid i3
 have HRC:=Lib.hid j3
 have hmm:=@run_makeMap Tryz.prog
 clear i3 j3 hvv hrv hnv hnr
 rcases Bool.eq_false_or_eq_true (ylz p.name) with q0|q0
 rotate_left
 ·have H:=Lib.hid (show yeq p=false by unfold yeq;rw [q0];rfl)
  go_enter Tryz.func128,Tryz.ntmps128
  go_wp2_with (go_at_call 187;refine (ykt _ _ hn0).mono ?_;rintro e w1 ⟨rfl,rfl⟩)
  go_ret
  exact ⟨yak H.out.symm,(Below.refl _ _).alloc (Nat.le_refl _) _⟩
 have H0:=Lib.hid (show yeq p=(yic (p.vars.map (·.name)) && yic (p.rules.map (·.name))) by unfold yeq;rw [q0];rfl)
 go_enter Tryz.func128,Tryz.ntmps128
 go_wp2_with (go_at_call 187;refine (ykt _ _ hn0).mono ?_;rintro e w1 ⟨rfl,rfl⟩)
 go_loopw [5,17] (fun _ i wr=>∃ k:Nat,k≤p.vars.length∧i=.int .i64 k∧Hid (zrh (p.vars.map (·.name)) (w.heap.size+1) k wr)∧Hid (Below (w.heap.size+1) (w.alloc (.cells #[.string p.name,.slice a0 p.vars.length cap0,.slice a1 p.rules.length cap1] 25)) wr)) (fun _ i _=>p.vars.length - (intOf i).toNat)
 case atStart=>exact ⟨0,by omega,rfl,⟨by rw [List.take_zero];simpa [zqt] using yrd Tryz.prog 9 4 (w.alloc (.cells #[.string p.name,.slice a0 p.vars.length cap0,.slice a1 p.rules.length cap1] 25)),rfl⟩,(Below.refl _ _).alloc (by simp) _⟩
 case round=>
  obtain ⟨k,hk,rfl,hset,hbel⟩:=hrel
  have hbw:=ycp hbel.out
  have hbs:=yhv hbel.out
  by_cases hlt:k < p.vars.length
  ·obtain ⟨g,o,rfl,hg,hc⟩:=HVC.out (by omega)
   obtain ⟨x,hx⟩:∃ x,p.vars[k]?=some x:=⟨_,List.getElem?_eq_getElem hlt⟩
   obtain ⟨c0,c1,c2,c3,c4,c5⟩:=hc k x hx
   rw [← hbw.cell (p:=⟨g,_,none⟩) hg] at c0 c1 c2 c3 c4 c5
   have hxn:=(HNV.out x (List.mem_of_getElem? hx)).1
   have hlm:k < (p.vars.map (·.name)).length:=by simpa using hlt
   have hgx:(p.vars.map (·.name))[k]=x.name:=by
    obtain ⟨_,h2⟩:=List.getElem?_eq_some_iff.1 hx
    simp [h2]
   clear hc
   rcases Bool.eq_false_or_eq_true (ylz x.name) with q1|q1
   rotate_left
   ·have H:=Lib.hid (show yeq p=false by rw [H0.out,zhz k hlm (by rw [hgx];exact q1)];rfl)
    clear hx hgx
    go_wp2_with (go_at_call 187;refine (ykt _ _ hxn).mono ?_;rintro e w1 ⟨rfl,rfl⟩)
    go_ret
    exact ⟨yak H.out.symm,hbw.alloc (by omega) _⟩
   by_cases hmem:zao x.name∈((p.vars.map (·.name)).take k).map zao
   ·have H:=Lib.hid (show yeq p=false by rw [H0.out,yzd hlm (by rw [hgx];exact hmem)];rfl)
    have hlook:∀ ob:Obj,(Instr.lookup 273 (.map (some (w.heap.size+1))) (.string x.name) false).run Tryz.prog (wr.alloc ob)=.ok (.bool true) (wr.alloc ob):=fun ob=>
     (hset.out.1.below ((Below.refl _ _).alloc (Nat.le_refl _) ob)).look yhn Tryz.underlying273 Tryz.underlying4 (yps _) (ylv x.name hxn) true (.inl ⟨yxc.2 hmem,rfl⟩)
    clear hx hgx hmem
    go_wp2_with (go_at_call 187;refine (ykt _ _ hxn).mono ?_;rintro e w1 ⟨rfl,rfl⟩)
    go_ret
    exact ⟨yak H.out.symm,hbw.alloc (by omega) _⟩
   ·have hlook:∀ ob:Obj,(Instr.lookup 273 (.map (some (w.heap.size+1))) (.string x.name) false).run Tryz.prog (wr.alloc ob)=.ok (.bool false) (wr.alloc ob):=fun ob=>
     (hset.out.1.below ((Below.refl _ _).alloc (Nat.le_refl _) ob)).look yhn Tryz.underlying273 Tryz.underlying4 (yps _) (ylv x.name hxn) false (.inr ⟨fun h=>hmem (yxc.1 h),rfl⟩)
    have HS:=Lib.hid (zck k hlm hset.out.2 (by rw [hgx];exact q1) (by rw [hgx];exact hmem))
    have HL:=Lib.hid (show zqt ((p.vars.map (·.name)).take k)++[.string (zao x.name)]=zqt ((p.vars.map (·.name)).take (k+1)) by rw [← zhp _ k hlm,hgx])
    clear hx hgx hmem
    go_wp2_with (first|(go_at_call 187;refine (ykt _ _ hxn).mono ?_;rintro e w1 ⟨rfl,rfl⟩)|(at_mapUpdate;refine yht rfl _ _ _ 273 rfl 9 4 yhn Tryz.underlying273 Tryz.underlying4 (w.heap.size+1) k _ rfl (by exact hset.out.1.below ((Below.refl _ _).alloc (Nat.le_refl _) _)) (by unfold maxLen;omega) _ (.string (zao x.name)) rfl rfl (ylv x.name hxn) ?_;intro w2 hset2 hgrow))
    refine ⟨⟨k+1,by omega,by go_num,⟨?_,HS.out⟩,?_⟩,by simp [intOf];omega⟩
    ·rw [HL.out] at hset2;exact hset2
    ·exact (hbel.out.alloc hbs _).grown hgrow (by simp;omega) (fun q hq=>by cases hq;exact Nat.le_refl _)
  ·obtain rfl:k=p.vars.length:=by omega
   obtain ⟨wo,rfl⟩:∃ wo:World,wo=wr:=⟨_,rfl⟩
   have hnv:yic (p.vars.map (·.name))=true:=by
    have:=hset.out.2
    rw [List.take_of_length_le (by simp)] at this
    exact this
   have H1:=Lib.hid (show yeq p=yic (p.rules.map (·.name)) by rw [H0.out,hnv];rfl)
   have hbox:=ykj hbel.out 2
   clear hnv hset H0
   simp at hbox
   have hne:w.heap.size≠wo.heap.size:=by omega
   have hlt0:w.heap.size < wo.heap.size:=by omega
   go_wp2_with fail
   have hb0:Below (w.heap.size+1) (w.alloc (.cells #[.string p.name,.slice a0 p.vars.length cap0,.slice a1 p.rules.length cap1] 25)) (wo.alloc (.map #[] 0)):=hbel.out.alloc hbs _
   go_loopw [8,39] (fun _ i wr=>∃ k:Nat,k≤p.rules.length∧i=.int .i64 k∧Hid (zrh (p.rules.map (·.name)) wo.heap.size k wr)∧Hid (Below (w.heap.size+1) (w.alloc (.cells #[.string p.name,.slice a0 p.vars.length cap0,.slice a1 p.rules.length cap1] 25)) wr)) (fun _ i _=>p.rules.length - (intOf i).toNat)
   case atStart=>exact ⟨0,by omega,rfl,⟨by rw [List.take_zero];simpa [zqt] using yrd Tryz.prog 9 4 wo,rfl⟩,hb0⟩
   case round=>
    clear hbox hb0 hne hlt0 hbel hbw
    obtain ⟨k,hk,rfl,hset,hbel⟩:=hrel
    have hbw:=ycp hbel.out
    have hbs2:=yhv hbel.out
    by_cases hlt:k < p.rules.length
    ·obtain ⟨g,o,rfl,hg,hc⟩:=HRC.out (by omega)
     obtain ⟨x,hx⟩:∃ x,p.rules[k]?=some x:=⟨_,List.getElem?_eq_getElem hlt⟩
     obtain ⟨gv,sv,ht,hs,c0,c1,c2⟩:=hc k x hx
     obtain ⟨ga,gcap,rfl,_,_,_⟩:=ht.open
     obtain ⟨sa,scap,rfl,_,_,_⟩:=yok hs
     rw [← hbw.cell (p:=⟨g,_,none⟩) hg] at c0 c1 c2
     have hxn:=(HNR.out x (List.mem_of_getElem? hx)).1
     have hlm:k < (p.rules.map (·.name)).length:=by simpa using hlt
     have hgx:(p.rules.map (·.name))[k]=x.name:=by
      obtain ⟨_,h2⟩:=List.getElem?_eq_some_iff.1 hx
      simp [h2]
     clear hc ht hs
     rcases Bool.eq_false_or_eq_true (ylz x.name) with q1|q1
     rotate_left
     ·have H:=Lib.hid (show yeq p=false by rw [H1.out,zhz k hlm (by rw [hgx];exact q1)])
      clear hx hgx
      go_wp2_with (go_at_call 187;refine (ykt _ _ hxn).mono ?_;rintro e w1 ⟨rfl,rfl⟩)
      go_ret
      exact ⟨yak H.out.symm,hbw.alloc (by omega) _⟩
     by_cases hmem:zao x.name∈((p.rules.map (·.name)).take k).map zao
     ·have H:=Lib.hid (show yeq p=false by rw [H1.out,yzd hlm (by rw [hgx];exact hmem)])
      have hlook:∀ ob:Obj,(Instr.lookup 273 (.map (some wo.heap.size)) (.string x.name) false).run Tryz.prog (wr.alloc ob)=.ok (.bool true) (wr.alloc ob):=fun ob=>
       (hset.out.1.below ((Below.refl _ _).alloc (Nat.le_refl _) ob)).look yhn Tryz.underlying273 Tryz.underlying4 (yps _) (ylv x.name hxn) true (.inl ⟨yxc.2 hmem,rfl⟩)
      clear hx hgx hmem
      go_wp2_with (go_at_call 187;refine (ykt _ _ hxn).mono ?_;rintro e w1 ⟨rfl,rfl⟩)
      go_ret
      exact ⟨yak H.out.symm,hbw.alloc (by omega) _⟩
     ·have hlook:∀ ob:Obj,(Instr.lookup 273 (.map (some wo.heap.size)) (.string x.name) false).run Tryz.prog (wr.alloc ob)=.ok (.bool false) (wr.alloc ob):=fun ob=>
       (hset.out.1.below ((Below.refl _ _).alloc (Nat.le_refl _) ob)).look yhn Tryz.underlying273 Tryz.underlying4 (yps _) (ylv x.name hxn) false (.inr ⟨fun h=>hmem (yxc.1 h),rfl⟩)
      have HS:=Lib.hid (zck k hlm hset.out.2 (by rw [hgx];exact q1) (by rw [hgx];exact hmem))
      have HL:=Lib.hid (show zqt ((p.rules.map (·.name)).take k)++[.string (zao x.name)]=zqt ((p.rules.map (·.name)).take (k+1)) by rw [← zhp _ k hlm,hgx])
      clear hx hgx hmem
      go_wp2_with (first|(go_at_call 187;refine (ykt _ _ hxn).mono ?_;rintro e w1 ⟨rfl,rfl⟩)|(at_mapUpdate;refine yht rfl _ _ _ 273 rfl 9 4 yhn Tryz.underlying273 Tryz.underlying4 wo.heap.size k _ rfl (by exact hset.out.1.below ((Below.refl _ _).alloc (Nat.le_refl _) _)) (by unfold maxLen;omega) _ (.string (zao x.name)) rfl rfl (ylv x.name hxn) ?_;intro w2 hset2 hgrow))
      refine ⟨⟨k+1,by omega,by go_num,⟨?_,HS.out⟩,?_⟩,by simp [intOf];omega⟩
      ·rw [HL.out] at hset2;exact hset2
      ·exact (hbel.out.alloc hbs2 _).grown hgrow (by simp;omega) (fun q hq=>by cases hq;exact hbs)
    ·obtain rfl:k=p.rules.length:=by omega
     have H:=hset.out.2
     rw [List.take_of_length_le (by simp)] at H
     have H2:=Lib.hid (show yeq p=true by rw [H1.out,H])
     clear H
     go_wp2_with fail
     go_ret
     exact ⟨yak H2.out.symm,hbw⟩
end
section
open Go.RowKit Go.Maps
def zxd (n:Int) (s:SetD):Bool:=yft s.var 0 (n - 1) && yed s.val n
def ywk (l:List SetD) (n:Int):Bool:=l.all (zxd n) && decide ((l.map (·.var)).Nodup)
theorem ylu (r:RuleD) (n:Int):ydc r n=(decide (1≤r.sets.length) && (decide (r.sets.length≤6) && (yed r.guard n && ywk r.sets n))):=rfl
theorem zoy {l:List SetD} {n:Int} (k:Nat) (hk:k < l.length) (h:zxd n l[k]=false):ywk l n=false:=by
 unfold ywk
 have:l.all (zxd n)=false:=by rw [List.all_eq_false];exact ⟨l[k],List.getElem_mem hk,by simp [h]⟩
 rw [this];rfl
theorem sets_twice {l:List SetD} {n:Int} (j k:Nat) (hjk:j < k) (hk:k < l.length) (h:(l[j]'(by omega)).var=l[k].var):ywk l n=false:=by
 unfold ywk
 have:¬ (l.map (·.var)).Nodup:=by
  intro hn
  have hn':=List.pairwise_iff_getElem.1 hn j k (by simp;omega) (by simpa using hk) hjk
  apply hn'
  simp [h]
 simp [this]
theorem sets_step {l:List SetD} {n:Int} (k:Nat) (hk:k < l.length) (h:ywk (l.take k) n=true) (h1:zxd n l[k]=true) (h2:l[k].var ∉ (l.take k).map (·.var)):ywk (l.take (k+1)) n=true:=by
 unfold ywk at *
 rw [Bool.and_eq_true,decide_eq_true_eq] at *
 rw [List.take_succ_eq_append_getElem hk,List.all_append,h.1,List.map_append]
 refine ⟨by simpa using h1,?_⟩
 rw [List.nodup_append]
 refine ⟨h.2,by simp,?_⟩
 intro a ha b hb
 simp only [List.map_singleton,List.mem_singleton] at hb
 subst hb
 intro hab
 exact h2 (hab ▸ ha)
theorem mem_vars {l:List SetD} {k:Nat} {x:Int} (h:x∈(l.take k).map (·.var)):∃ j,∃ h:j < l.length,j < k∧l[j].var=x:=by
 rw [List.mem_map] at h
 obtain ⟨s,hs,rfl⟩:=h
 obtain ⟨j,hj⟩:=List.getElem?_of_mem hs
 have hjk:j < k:=by
  have:=(List.getElem?_eq_some_iff.1 hj).1
  rw [List.length_take] at this;omega
 rw [List.getElem?_take,if_pos hjk] at hj
 obtain ⟨h1,h2⟩:=List.getElem?_eq_some_iff.1 hj
 exact ⟨j,h1,hjk,by rw [h2]⟩
theorem sets_again {l:List SetD} {n:Int} {k:Nat} (hk:k < l.length) (h:l[k].var∈(l.take k).map (·.var)):ywk l n=false:=by
 obtain ⟨j,hj,hjk,he⟩:=mem_vars h
 exact sets_twice j k hjk hk he
def zeg (l:List SetD):List Lit:=l.map fun s=>.int .i64 s.var
theorem zhw {l:List SetD} {x:Int}:Lit.int .i64 x∈zeg l↔x∈l.map (·.var):=by
 unfold zeg
 simp only [List.mem_map,Lit.int.injEq,true_and]
theorem ilits_step (l:List SetD) (k:Nat) (hk:k < l.length):zeg (l.take k)++[.int .i64 l[k].var]=zeg (l.take (k+1)):=by
 unfold zeg;rw [List.take_succ_eq_append_getElem hk,List.map_append];rfl
def SetsAt (l:List SetD) (n:Int) (M k:Nat) (wr:World):Prop:=yna Tryz.prog 3 4 wr M k (zeg (l.take k))∧ywk (l.take k) n=true
theorem zei:Keyed Tryz.prog 3:=int_keyed Tryz.underlying3
theorem wf_of_in {x:Int} (h:ytr x):(Lit.int .i64 x).wf=true:=by
 obtain ⟨h1,h2⟩:=h
 have e1:IntKind.i64.min=-9223372036854775808:=by decide
 have e2:IntKind.i64.max=9223372036854775807:=by decide
 simp only [Lit.wf,Bool.and_eq_true,decide_eq_true_eq]
 omega
theorem zsv (x:Int) (h:ytr x):keyOf Tryz.prog 3 (.int .i64 x)=some (.int .i64 x):=keyOf_int_mk Tryz.underlying3 (wf_of_in h)
def zrg (r:RuleD):Prop:=r.guard.length≤1000∧r.sets.length≤1000∧∀ s∈r.sets,s.val.length≤1000
set_option maxHeartbeats 8000000 in
theorem yug (gv sv:Value) (r:RuleD) (n:Nat) (w:World) (hg:yfs w gv r.guard) (hs:Seq (ytv w) 2 w sv r.sets) (hin:zwc r) (hl:zrg r) (hn:n≤1000) :
  Calls Tryz.prog 130 #[.agg #[.string r.name,gv,sv],.int .i64 n] w fun e w'=>e=.returned (.bool (ydc r n))∧Below w.heap.size w w':=by
 obtain ⟨hl1,hl2,hl3⟩:=hl
 obtain ⟨_,_,hi3⟩:=hin
 have HI:=Lib.hid hi3
 have HL:=Lib.hid hl3
 have HG:=Lib.hid hg
 have HS:=Lib.hid hs
 obtain ⟨ga,gcap,rfl,g1,g2,g3⟩:=hg.open
 obtain ⟨sa,scap,rfl,s1,s2,s3⟩:=yok hs
 have HC:=Lib.hid s3
 have hmm:=@run_makeMap Tryz.prog
 clear hi3 hl3 g3 s3 hs hg
 by_cases h0:r.sets.length=0
 ·have b0:((r.sets.length:Int) == 0)=true:=by simp [h0]
  have H:=Lib.hid (show ydc r n=false by rw [ylu,h0];rfl)
  have h0':r.sets.length < 1:=by omega
  clear h0
  go_enter Tryz.func130,Tryz.ntmps130
  go_wp2_with fail
  go_ret
  exact ⟨yak H.out.symm,(Below.refl _ _).alloc (Nat.le_refl _) _⟩
 have b0:((r.sets.length:Int) == 0)=false:=beq_eq_false_iff_ne.2 (by omega)
 by_cases h6:6 < r.sets.length
 ·have H:=Lib.hid (show ydc r n=false by rw [ylu];simp;omega)
  have b6:decide (6 < r.sets.length)=true:=by simp;omega
  go_enter Tryz.func130,Tryz.ntmps130
  go_wp2_with fail
  go_ret
  exact ⟨yak H.out.symm,(Below.refl _ _).alloc (Nat.le_refl _) _⟩
 have b6:decide (6 < r.sets.length)=false:=by simp;omega
 have b6':decide (6 < (r.sets.length:Int))=false:=by simp;omega
 have b1:decide (1≤r.sets.length)=true:=by simp;omega
 have b1':decide (r.sets.length≤6)=true:=by simp;omega
 rcases Bool.eq_false_or_eq_true (yed r.guard n) with q0|q0
 rotate_left
 ·have H:=Lib.hid (show ydc r n=false by rw [ylu,q0];simp)
  go_enter Tryz.func130,Tryz.ntmps130
  go_wp2_with fail
  refine (yif _ r.guard _ _ hl1 (by exact HG.out.below ((Below.refl _ _).alloc (Nat.le_refl _) _))).mono ?_
  rintro e w1 ⟨rfl,hb1⟩
  go_wp2_with fail
  go_ret
  exact ⟨yak H.out.symm,ycp (by simpa using hb1)⟩
 have H0:=Lib.hid (show ydc r n=ywk r.sets n by rw [ylu,q0,b1,b1'];rfl)
 clear b1 b1'
 go_enter Tryz.func130,Tryz.ntmps130
 go_wp2_with fail
 refine (yif _ r.guard _ _ hl1 (by exact HG.out.below ((Below.refl _ _).alloc (Nat.le_refl _) _))).mono ?_
 rintro e w1 ⟨rfl,hb1'⟩
 have hb1:Below (w.heap.size+1) (w.alloc (.cells #[.string r.name,.slice ga r.guard.length gcap,.slice sa r.sets.length scap] 200)) w1:=by simpa using hb1'
 have hbs1:=yhv hb1
 have hbox:=ykj hb1 2
 simp at hbox
 have hne:w.heap.size≠w1.heap.size:=by omega
 have hlt0:w.heap.size < w1.heap.size:=by omega
 clear hb1'
 go_wp2_with fail
 have hb0:Below (w.heap.size+1) (w.alloc (.cells #[.string r.name,.slice ga r.guard.length gcap,.slice sa r.sets.length scap] 200)) (w1.alloc (.map #[] 0)):=hb1.alloc hbs1 _
 go_loopw [7,29] (fun _ i wr=>∃ k:Nat,k≤r.sets.length∧i=.int .i64 k∧Hid (SetsAt r.sets n w1.heap.size k wr)∧Hid (Below (w.heap.size+1) (w.alloc (.cells #[.string r.name,.slice ga r.guard.length gcap,.slice sa r.sets.length scap] 200)) wr)) (fun _ i _=>r.sets.length - (intOf i).toNat)
 case atStart=>exact ⟨0,by omega,rfl,⟨by rw [List.take_zero];simpa [zeg] using yrd Tryz.prog 3 4 w1,rfl⟩,hb0⟩
 case round=>
  clear hb0 hbox hne hlt0
  obtain ⟨k,hk,rfl,hset,hbel⟩:=hrel
  have hbw:=ycp hbel.out
  have hbs:=yhv hbel.out
  by_cases hlt:k < r.sets.length
  ·obtain ⟨g,o,rfl,hg,hc⟩:=HC.out (by omega)
   obtain ⟨x,hx⟩:∃ x,r.sets[k]?=some x:=⟨_,List.getElem?_eq_getElem hlt⟩
   obtain ⟨tv,ht,c0,c1⟩:=hc k x hx
   have HT:=Lib.hid ht
   obtain ⟨ta,tcap,rfl,_,_,_⟩:=ht.open
   rw [← hbw.cell (p:=⟨g,_,none⟩) hg] at c0 c1
   have hgx:r.sets[k]=x:=(List.getElem?_eq_some_iff.1 hx).2
   have hxi:=HI.out x (List.mem_of_getElem? hx)
   have hxl:=HL.out x (List.mem_of_getElem? hx)
   have HXI:=Lib.hid hxi
   have HGX:=Lib.hid hgx
   clear hc ht hx hgx hxi
   rcases Bool.eq_false_or_eq_true (yft x.var 0 ((n:Int) - 1)) with q1|q1
   rotate_left
   ·have H:=Lib.hid (show ydc r n=false by rw [H0.out,zoy k hlt (by rw [HGX.out,zxd,q1];rfl)])
    go_wp2_with (go_at_call 193;refine (yet _ _ _ _).mono ?_;rintro e w2 ⟨rfl,rfl⟩)
    go_ret
    exact ⟨yak H.out.symm,hbw.alloc (by omega) _⟩
   by_cases hmem:x.var∈(r.sets.take k).map (·.var)
   ·have H:=Lib.hid (show ydc r n=false by rw [H0.out,sets_again hlt (by rw [HGX.out];exact hmem)])
    have hlook:∀ ob:Obj,(Instr.lookup 274 (.map (some w1.heap.size)) (.int .i64 x.var) false).run Tryz.prog (wr.alloc ob)=.ok (.bool true) (wr.alloc ob):=fun ob=>
     (hset.out.1.below ((Below.refl _ _).alloc (Nat.le_refl _) ob)).look zei Tryz.underlying274 Tryz.underlying4 (yps _) (zsv x.var HXI.out.1) true (.inl ⟨zhw.2 hmem,rfl⟩)
    clear hmem
    go_wp2_with (go_at_call 193;refine (yet _ _ _ _).mono ?_;rintro e w2 ⟨rfl,rfl⟩)
    go_ret
    exact ⟨yak H.out.symm,hbw.alloc (by omega) _⟩
   have hlook:∀ ob:Obj,(Instr.lookup 274 (.map (some w1.heap.size)) (.int .i64 x.var) false).run Tryz.prog (wr.alloc ob)=.ok (.bool false) (wr.alloc ob):=fun ob=>
     (hset.out.1.below ((Below.refl _ _).alloc (Nat.le_refl _) ob)).look zei Tryz.underlying274 Tryz.underlying4 (yps _) (zsv x.var HXI.out.1) false (.inr ⟨fun h=>hmem (zhw.1 h),rfl⟩)
   rcases Bool.eq_false_or_eq_true (yed x.val n) with q2|q2
   rotate_left
   ·have H:=Lib.hid (show ydc r n=false by rw [H0.out,zoy k hlt (by rw [HGX.out,zxd,q2];simp)])
    clear hmem
    go_wp2_with (go_at_call 193;refine (yet _ _ _ _).mono ?_;rintro e w2 ⟨rfl,rfl⟩)
    refine (yif _ x.val _ _ hxl (by exact HT.out.below (hbw.alloc (by omega) _))).mono ?_
    rintro e w2 ⟨rfl,hb2⟩
    go_wp2_with fail
    go_ret
    exact ⟨yak H.out.symm,(hbw.alloc (by omega) _).trans (hb2.mono (by simp;omega))⟩
   ·have HST:=Lib.hid (sets_step (n:=(n:Int)) k hlt hset.out.2 (by rw [HGX.out,zxd,q1,q2];rfl) (by rw [HGX.out];exact hmem))
    have HLT:=Lib.hid (show zeg (r.sets.take k)++[.int .i64 x.var]=zeg (r.sets.take (k+1)) by rw [← ilits_step _ k hlt,HGX.out])
    clear hmem
    go_wp2_with (go_at_call 193;refine (yet _ _ _ _).mono ?_;rintro e w2 ⟨rfl,rfl⟩)
    refine (yif _ x.val _ _ hxl (by exact HT.out.below (hbw.alloc (by omega) _))).mono ?_
    rintro e w2 ⟨rfl,hb2'⟩
    have hb2:Below (wr.heap.size+1) (wr.alloc (.cells #[.int .i64 x.var,.slice ta x.val.length tcap] 272)) w2:=by simpa using hb2'
    have hbx:=ykj hb2 0
    have hbs2:=yhv hb2
    simp at hbx
    clear hb2' hlook
    go_wp2_with (at_mapUpdate;refine yht rfl _ _ _ 274 rfl 3 4 zei Tryz.underlying274 Tryz.underlying4 w1.heap.size k _ rfl (by exact hset.out.1.below (ycp hb2)) (by unfold maxLen;omega) _ (.int .i64 x.var) rfl rfl (zsv x.var HXI.out.1) ?_;intro w3 hset3 hgrow)
    refine ⟨⟨k+1,by omega,by go_num,⟨?_,HST.out⟩,?_⟩,by simp [intOf];omega⟩
    ·rw [HLT.out] at hset3;exact hset3
    ·exact (hbel.out.trans ((ycp hb2).mono hbs)).grown hgrow (by omega) (fun q hq=>by cases hq;exact hbs1)
  ·obtain rfl:k=r.sets.length:=by omega
   have H:=hset.out.2
   rw [List.take_of_length_le (by simp)] at H
   have H2:=Lib.hid (show ydc r n=true by rw [H0.out,H])
   clear H
   go_wp2_with fail
   go_ret
   exact ⟨yak H2.out.symm,hbw⟩
end
section
open Go.RowKit Go.Maps
def zqd (ks:List Int) (k:Nat):List Int:=ks.take k++List.replicate (ks.length - k) 0
theorem kmix_zero (ks:List Int):zqd ks 0=List.replicate ks.length 0:=by simp [zqd]
theorem kmix_all (ks:List Int):zqd ks ks.length=ks:=by simp [zqd]
theorem kmix_length (ks:List Int) (k:Nat) (h:k≤ks.length):(zqd ks k).length=ks.length:=by simp [zqd];omega
theorem kmix_step (ks:List Int) (k:Nat) (h:k < ks.length):(zqd ks k).set k ks[k]=zqd ks (k+1):=by
 unfold zqd
 rw [List.set_append_right _ _ (by simp;omega),List.take_succ_eq_append_getElem h,List.append_assoc]
 congr 1
 rw [List.length_take,Nat.min_eq_left (Nat.le_of_lt h),Nat.sub_self,show ks.length - k=(ks.length - (k+1))+1 by omega,List.replicate_succ]
 rfl
theorem made_ints (n:Nat):(madeCells (Value.int .i64 0).cells (n * 1)).toList=(List.replicate n (0:Int)).map (.int .i64):=by
 apply List.ext_getElem
 ·simp [size_madeCells]
 ·intro i h1 h2
  simp [madeCells,Value.cells,Nat.mod_one]
set_option maxHeartbeats 8000000 in
theorem kinds_any (v:Value) (p:ProgD) (w:World) (hv:yqd w v p) (h6:p.vars.length≤1000) :
  Calls Tryz.prog 111 #[v] w fun e w'=>∃ kv,e=.returned kv∧yvd .i64 w' kv (ycm p)∧Below w.heap.size w w':=by
 obtain ⟨vv,rv,rfl,hvv,hrv⟩:=hv
 obtain ⟨a0,cap0,rfl,i1,i2,i3⟩:=hvv.open
 obtain ⟨a1,cap1,rfl,_,_,_⟩:=hrv.open
 have HVC:=Lib.hid i3
 obtain ⟨i0,hi,hz0,hz1,hz2⟩:=info_parts zko
 have Hi:=Lib.hid hi
 have Hz0:=Lib.hid hz0
 have Hz1:=Lib.hid hz1
 have Hz2:=Lib.hid hz2
 have HKL:=Lib.hid (show (ycm p).length=p.vars.length by simp [ycm])
 clear hi hz0 hz1 hz2 i3 hvv hrv
 go_enter Tryz.func111,Tryz.ntmps111
 go_wp2_with (at_make;refine wpList_make_full _ rfl _ _ 26 rfl (w.heap.size+1) 3 i0 (.int .i64 0) 1 Tryz.underlying26 Hi.out Hz0.out Hz1.out .i64 .i64 _ _ p.vars.length rfl rfl rfl rfl (by rw [Hz2.out];omega) (by unfold maxLen;omega) (by simp) ?_;intro w1 hown hgrow;have hb1:Below (w.heap.size+1) (w.alloc (.cells #[.string p.name,.slice a0 p.vars.length cap0,.slice a1 p.rules.length cap1] 25)) w1:=(Below.refl _ _).grown hgrow (by simp) (by simp);have hbox:=ykj hb1 1;simp at hbox)
 have HM:=Lib.hid (show (w1.ownsRow (w.heap.size+1) 3 1 (.slice (some ⟨w.heap.size+1,0,none⟩) p.vars.length p.vars.length) p.vars.length ((zqd (ycm p) 0).map (.int .i64))) by
  rw [made_ints,← HKL.out,← kmix_zero] at hown
  rw [HKL.out] at hown
  simpa using hown)
 clear hown hgrow hbox
 go_loopw [4,5,13] (fun _ _ i wr=>∃ k:Nat,k≤p.vars.length∧i=.int .i64 k∧Hid (wr.ownsRow (w.heap.size+1) 3 1 (.slice (some ⟨w.heap.size+1,0,none⟩) p.vars.length p.vars.length) p.vars.length ((zqd (ycm p) k).map (.int .i64)))∧Hid (Below (w.heap.size+1) (w.alloc (.cells #[.string p.name,.slice a0 p.vars.length cap0,.slice a1 p.rules.length cap1] 25)) wr)) (fun _ _ i _=>p.vars.length - (intOf i).toNat)
 case atStart=>exact ⟨0,by omega,rfl,HM,hb1⟩
 case round=>
  clear HM hb1
  obtain ⟨k,hk,rfl,hown,hbel⟩:=hrel
  have hbw:=ycp hbel.out
  have hbs:=yhv hbel.out
  by_cases hlt:k < p.vars.length
  ·obtain ⟨g,o,rfl,hg,hc⟩:=HVC.out (by omega)
   obtain ⟨x,hx⟩:∃ x,p.vars[k]?=some x:=⟨_,List.getElem?_eq_getElem hlt⟩
   obtain ⟨c0,c1,c2,c3,c4,c5⟩:=hc k x hx
   rw [← hbw.cell (p:=⟨g,_,none⟩) hg] at c0 c1 c2 c3 c4 c5
   have hlk:k < (ycm p).length:=by rw [HKL.out];exact hlt
   have hkx:(ycm p)[k]=x.kind:=by
    obtain ⟨_,h2⟩:=List.getElem?_eq_some_iff.1 hx
    simp [ycm,h2]
   have HST:=Lib.hid (show ((zqd (ycm p) k).map (Value.int .i64)).set k (.int .i64 x.kind)=(zqd (ycm p) (k+1)).map (.int .i64) by rw [← kmix_step _ k hlk,hkx,List.map_set])
   have hoa:=hown.out.alloc (.cells #[.string x.name,.int .i64 x.kind,.int .i64 x.lo,.int .i64 x.hi,.int .i64 x.perNode,.int .i64 x.perID] 168)
   obtain ⟨u,hu⟩:∃ u,(wr.alloc (.cells #[.string x.name,.int .i64 x.kind,.int .i64 x.lo,.int .i64 x.hi,.int .i64 x.perNode,.int .i64 x.perID] 168)).cell? ⟨w.heap.size+1,k,none⟩=some u:=⟨_,(hoa.cellAt k (by omega)).trans (List.getElem?_eq_getElem (by rw [List.length_map,kmix_length _ _ (by omega)];exact hlk))⟩
   have hfz:=hoa.frozenAt k
   have HOA:=Lib.hid hoa
   have hlt1:w.heap.size+1 < wr.heap.size:=(hown.out.lt _ rfl).2
   have hne1:wr.heap.size≠w.heap.size+1:=by omega
   clear hc hx hkx hoa
   go_wp2_with fail
   refine ⟨⟨k+1,by omega,by go_num,?_,?_⟩,by simp [intOf];omega⟩
   ·have:=(hown.out.stored k (.int .i64 x.kind)).1
    rw [HST.out] at this
    exact this.alloc _
   ·exact (hbel.out.setCell (Nat.le_refl _) _).alloc (by simp;omega) _
  ·obtain rfl:k=p.vars.length:=by omega
   have HR:Hid (yvd .i64 wr (.slice (some ⟨w.heap.size+1,0,none⟩) p.vars.length p.vars.length) (ycm p)):=by
    have h1:=zcv hown.out
    rw [← HKL.out,kmix_all] at h1
    unfold Hid yvd
    rw [HKL.out] at *
    exact h1
   go_wp2_with fail
   go_ret
   exact ⟨_,rfl,HR.out,hbw⟩
end
section
open Go.RowKit Go.Maps
theorem typed_end {r:RuleD} {kinds:List Int} (h:((ofF r.guard kinds false).1 == 2)=true):yik r kinds=r.sets.all (fun s=>(ofF s.val kinds false).1 == kinds.getD s.var.toNat 0):=by unfold yik;rw [h];rfl
set_option maxHeartbeats 8000000 in
theorem zjj (gv sv kv:Value) (r:RuleD) (kinds:List Int) (w:World) (hg:yfs w gv r.guard) (hs:Seq (ytv w) 2 w sv r.sets) (hk:yvd .i64 w kv kinds) (hl:zrg r) (hvar:∀ s∈r.sets,0≤s.var∧s.var < kinds.length) :
  Calls Tryz.prog 131 #[.agg #[.string r.name,gv,sv],kv] w fun e w'=>e=.returned (.bool (yik r kinds))∧Below w.heap.size w w':=by
 obtain ⟨hl1,hl2,hl3⟩:=hl
 have HL:=Lib.hid hl3
 have HG:=Lib.hid hg
 have HK:=Lib.hid hk
 have HVAR:=Lib.hid hvar
 obtain ⟨ga,gcap,rfl,g1,g2,g3⟩:=hg.open
 obtain ⟨sa,scap,rfl,s1,s2,s3⟩:=yok hs
 obtain ⟨ka,kcap,rfl,k1,k2,_,k4⟩:=hk.open
 have HC:=Lib.hid s3
 have HKC:=Lib.hid k4
 clear hl3 g3 s3 hs hg k4 hk hvar
 obtain ⟨ta,tb,hab⟩:∃ a b,ofF r.guard kinds false=(a,b):=⟨_,_,rfl⟩
 have HAB:=Lib.hid hab
 have HT1:Hid ((ofF r.guard kinds false).1=ta):=by rw [hab];rfl
 clear hab
 have hbA:Below w.heap.size w (w.alloc (.cells #[.string r.name,.slice ga r.guard.length gcap,.slice sa r.sets.length scap] 200)):=(Below.refl _ _).alloc (Nat.le_refl _) _
 by_cases h2:ta=2
 rotate_left
 ·have b2:(ta != 2)=true:=by simp [h2]
  have H:=Lib.hid (show yik r kinds=false by unfold yik;rw [HT1.out,show (ta == 2)=false by simpa using h2];rfl)
  go_enter Tryz.func131,Tryz.ntmps131
  go_wp2_with fail
  refine (zvq _ _ r.guard kinds false ta tb _ (by omega) (HG.out.below hbA) (HK.out.below hbA) HAB.out).mono ?_
  rintro e w1 ⟨rfl,hb1⟩
  go_wp2_with fail
  go_ret
  exact ⟨yak H.out.symm,ycp (by simpa using hb1)⟩
 have b2:(ta != 2)=false:=by simp [h2]
 have H0:=Lib.hid (typed_end (r:=r) (kinds:=kinds) (by rw [HT1.out,h2];rfl))
 clear h2
 go_enter Tryz.func131,Tryz.ntmps131
 go_wp2_with fail
 refine (zvq _ _ r.guard kinds false ta tb _ (by omega) (HG.out.below hbA) (HK.out.below hbA) HAB.out).mono ?_
 rintro e w1 ⟨rfl,hb1'⟩
 have hb1:Below (w.heap.size+1) (w.alloc (.cells #[.string r.name,.slice ga r.guard.length gcap,.slice sa r.sets.length scap] 200)) w1:=by simpa using hb1'
 have hbox:=ykj hb1 2
 simp at hbox
 clear hb1'
 go_wp2_with fail
 clear hbox
 go_loopw [8,9,10,23] (fun _ _ _ i wr=>∃ k:Nat,k≤r.sets.length∧i=.int .i64 k∧Hid ((r.sets.take k).all (fun s=>(ofF s.val kinds false).1 == kinds.getD s.var.toNat 0)=true)∧Hid (Below (w.heap.size+1) (w.alloc (.cells #[.string r.name,.slice ga r.guard.length gcap,.slice sa r.sets.length scap] 200)) wr)) (fun _ _ _ i _=>r.sets.length - (intOf i).toNat)
 case atStart=>exact ⟨0,by omega,rfl,rfl,hb1⟩
 case round=>
  clear hb1
  obtain ⟨k,hk,rfl,hall,hbel⟩:=hrel
  have hbw:=ycp hbel.out
  have hbs:=yhv hbel.out
  by_cases hlt:k < r.sets.length
  ·obtain ⟨g,o,rfl,hg,hc⟩:=HC.out (by omega)
   obtain ⟨x,hx⟩:∃ x,r.sets[k]?=some x:=⟨_,List.getElem?_eq_getElem hlt⟩
   obtain ⟨tv,ht,c0,c1⟩:=hc k x hx
   have HT:=Lib.hid ht
   obtain ⟨xa,xcap,rfl,_,_,_⟩:=ht.open
   rw [← hbw.cell (p:=⟨g,_,none⟩) hg] at c0 c1
   have HGX:Hid (r.sets[k]=x):=(List.getElem?_eq_some_iff.1 hx).2
   have hxl:=HL.out x (List.mem_of_getElem? hx)
   obtain ⟨v0,v1⟩:=HVAR.out x (List.mem_of_getElem? hx)
   obtain ⟨q,hq⟩:=Int.eq_ofNat_of_zero_le v0
   obtain ⟨kg,ko,rfl,hkg,hkc⟩:=HKC.out (by omega)
   obtain ⟨z,hz⟩:∃ z,kinds.getD q 0=z:=⟨_,rfl⟩
   have hkz:=hkc q z (by rw [zkk kinds q (by omega),hz])
   obtain ⟨sa1,sb1,hsab⟩:∃ a b,ofF x.val kinds false=(a,b):=⟨_,_,rfl⟩
   have HSAB:=Lib.hid hsab
   have HEQ:Hid (((ofF x.val kinds false).1 == kinds.getD x.var.toNat 0)=(sa1 == z)):=by unfold Hid;rw [hsab,hq,Int.toNat_natCast,hz]
   have hql:q < kinds.length:=by omega
   rw [hq] at c0
   have HKZ:=Lib.hid hkz
   have HQ:=Lib.hid hq
   clear hc ht hx hkc hz hsab v0 v1 hkz hq
   by_cases he:sa1=z
   ·have b3:(sa1 != z)=false:=by simp [he]
    have HST:=Lib.hid (ywq (f:=fun s:SetD=>(ofF s.val kinds false).1 == kinds.getD s.var.toNat 0) k hlt hall.out (by rw [HGX.out,HEQ.out];simpa using he))
    clear he
    go_wp2_with fail
    refine (zvq _ _ x.val kinds false sa1 sb1 _ (by omega) (HT.out.below (hbw.alloc (by omega) _)) (HK.out.below (hbw.alloc (by omega) _)) HSAB.out).mono ?_
    rintro e w2 ⟨rfl,hb2'⟩
    have hb2:Below (wr.heap.size+1) (wr.alloc (.cells #[.int .i64 (q:Int),.slice xa x.val.length xcap] 272)) w2:=by simpa using hb2'
    have hbx:=ykj hb2 0
    simp at hbx
    have hb02:=zpx hbw (ycp hb2)
    have hkz:=HKZ.out
    rw [← hb02.cell (p:=⟨kg,_,none⟩) hkg] at hkz
    clear hb2'
    go_wp2_with fail
    exact ⟨⟨k+1,by omega,by go_num,HST,hbel.out.trans ((ycp hb2).mono hbs)⟩,by simp [intOf];omega⟩
   ·have b3:(sa1 != z)=true:=by simp [he]
    have H:=Lib.hid (show yik r kinds=false by rw [H0.out,zdp k hlt (by rw [HGX.out,HEQ.out];simpa using he)])
    clear he
    go_wp2_with fail
    refine (zvq _ _ x.val kinds false sa1 sb1 _ (by omega) (HT.out.below (hbw.alloc (by omega) _)) (HK.out.below (hbw.alloc (by omega) _)) HSAB.out).mono ?_
    rintro e w2 ⟨rfl,hb2'⟩
    have hb2:Below (wr.heap.size+1) (wr.alloc (.cells #[.int .i64 (q:Int),.slice xa x.val.length xcap] 272)) w2:=by simpa using hb2'
    have hbx:=ykj hb2 0
    simp at hbx
    have hb02:=zpx hbw (ycp hb2)
    have hkz:=HKZ.out
    rw [← hb02.cell (p:=⟨kg,_,none⟩) hkg] at hkz
    clear hb2'
    go_wp2_with fail
    go_ret
    exact ⟨yak H.out.symm,hb02⟩
  ·obtain rfl:k=r.sets.length:=by omega
   have H2:=Lib.hid (show yik r kinds=true by rw [H0.out,zdq hall.out])
   go_wp2_with fail
   go_ret
   exact ⟨yak H2.out.symm,hbw⟩
end
section
open Go.RowKit Go.Maps
def zfx (p:ProgD):Prop:=p.vars.length≤1000∧p.rules.length≤1000∧∀ r∈p.rules,zrg r
theorem yml {p:ProgD} (h:p.vars.length=0∨6 < p.vars.length∨12 < p.rules.length):ydu p=3:=by unfold ydu;rw [if_pos h]
theorem zbj {p:ProgD} (h:¬ (p.vars.length=0∨6 < p.vars.length∨12 < p.rules.length)) (h1:yeq p=false):ydu p=5:=by unfold ydu;rw [if_neg h,if_pos h1]
theorem zgn {p:ProgD} (h:¬ (p.vars.length=0∨6 < p.vars.length∨12 < p.rules.length)) (h1:yeq p=true) (h2:p.vars.all yur=false):ydu p=2:=by unfold ydu;rw [if_neg h,if_neg (by simp [h1]),if_pos h2]
theorem check_form {p:ProgD} (h:¬ (p.vars.length=0∨6 < p.vars.length∨12 < p.rules.length)) (h1:yeq p=true) (h2:p.vars.all yur=true) (h3:p.rules.all (ydc · p.vars.length)=false):ydu p=7:=by unfold ydu;rw [if_neg h,if_neg (by simp [h1]),if_neg (by simp [h2]),if_pos h3]
theorem check_type {p:ProgD} (h:¬ (p.vars.length=0∨6 < p.vars.length∨12 < p.rules.length)) (h1:yeq p=true) (h2:p.vars.all yur=true) (h3:p.rules.all (ydc · p.vars.length)=true) (h4:p.rules.all (yik · (ycm p))=false):ydu p=6:=by unfold ydu;rw [if_neg h,if_neg (by simp [h1]),if_neg (by simp [h2]),if_neg (by simp [h3]),if_pos h4]
theorem zmn {p:ProgD} (h:¬ (p.vars.length=0∨6 < p.vars.length∨12 < p.rules.length)) (h1:yeq p=true) (h2:p.vars.all yur=true) (h3:p.rules.all (ydc · p.vars.length)=true) (h4:p.rules.all (yik · (ycm p))=true):ydu p=0:=by unfold ydu;rw [if_neg h,if_neg (by simp [h1]),if_neg (by simp [h2]),if_neg (by simp [h3]),if_neg (by simp [h4])]
theorem formed_vars {r:RuleD} {n:Nat} (h:ydc r n=true):∀ s∈r.sets,0≤s.var∧s.var < n:=by
 rw [ylu] at h
 simp only [Bool.and_eq_true,ywk,List.all_eq_true,zxd,yft,decide_eq_true_eq] at h
 intro s hs
 have:=(h.2.2.2.1 s hs).1
 omega
theorem zrv {w:World} {p:ProgD} {a0 a1:Option Addr} {cap0 cap1:Nat} (h:yqd w (.agg #[.string p.name,.slice a0 p.vars.length cap0,.slice a1 p.rules.length cap1]) p):yqd (w.alloc (.cells #[.string p.name,.slice a0 p.vars.length cap0,.slice a1 p.rules.length cap1] 25)) (.agg #[.string p.name,.slice a0 p.vars.length cap0,.slice a1 p.rules.length cap1]) p:=h.below ((Below.refl _ _).alloc (Nat.le_refl _) _)
set_option maxHeartbeats 16000000 in
theorem check_any (v:Value) (p:ProgD) (w:World) (hv:yqd w v p) (hin:zbc p) (hlight:zfx p) :
  Calls Tryz.prog 69 #[v] w fun e w'=>e=.returned (.int .i64 (ydu p))∧Below w.heap.size w w':=by
 obtain ⟨hp1,hp2,hp3⟩:=hlight
 have HLR:=Lib.hid hp3
 have HP:=Lib.hid hv
 have HIN:=Lib.hid hin
 obtain ⟨vv,rv,rfl,hvv,hrv⟩:=hv
 obtain ⟨a0,cap0,rfl,i1,i2,i3⟩:=hvv.open
 obtain ⟨a1,cap1,rfl,j1,j2,j3⟩:=hrv.open
 have HVC:=Lib.hid i3
 have HRC:=Lib.hid j3
 clear i3 j3 hvv hrv hp3 hin
 by_cases h0:p.vars.length=0
 ·have b0:((p.vars.length:Int) == 0)=true:=by simp [h0]
  have H:=Lib.hid (yml (.inl h0))
  have h0':p.vars.length < 1:=by omega
  clear h0
  go_enter Tryz.func69,Tryz.ntmps69
  go_wp2_with fail
  go_ret
  exact ⟨yci H.out.symm,(Below.refl _ _).alloc (Nat.le_refl _) _⟩
 have b0:((p.vars.length:Int) == 0)=false:=beq_eq_false_iff_ne.2 (by omega)
 by_cases h6:6 < p.vars.length
 ·have H:=Lib.hid (yml (.inr (.inl h6)))
  go_enter Tryz.func69,Tryz.ntmps69
  go_wp2_with fail
  go_ret
  exact ⟨yci H.out.symm,(Below.refl _ _).alloc (Nat.le_refl _) _⟩
 have b6:decide (6 < p.vars.length)=false:=by simp;omega
 have b6':decide (6 < (p.vars.length:Int))=false:=by simp;omega
 by_cases h12:12 < p.rules.length
 ·have H:=Lib.hid (yml (.inr (.inr h12)))
  go_enter Tryz.func69,Tryz.ntmps69
  go_wp2_with fail
  go_ret
  exact ⟨yci H.out.symm,(Below.refl _ _).alloc (Nat.le_refl _) _⟩
 have b12:decide (12 < p.rules.length)=false:=by simp;omega
 have b12':decide (12 < (p.rules.length:Int))=false:=by simp;omega
 have HLIM:=Lib.hid (show ¬ (p.vars.length=0∨6 < p.vars.length∨12 < p.rules.length) by omega)
 have HN0:=Lib.hid h0
 have h0':0 < p.vars.length:=by omega
 clear h0
 rcases Bool.eq_false_or_eq_true (yeq p) with qn|qn
 rotate_left
 ·have H:=Lib.hid (zbj HLIM.out qn)
  go_enter Tryz.func69,Tryz.ntmps69
  go_wp2_with fail
  refine (yzc _ p _ (by exact zrv HP.out) HIN.out (by omega) (by omega)).mono ?_
  rintro e w1 ⟨rfl,hb1⟩
  go_wp2_with fail
  go_ret
  exact ⟨yci H.out.symm,ycp (by simpa using hb1)⟩
 go_enter Tryz.func69,Tryz.ntmps69
 go_wp2_with fail
 refine (yzc _ p _ (by exact zrv HP.out) HIN.out (by omega) (by omega)).mono ?_
 rintro e w1 ⟨rfl,hb1'⟩
 have hb1:Below (w.heap.size+1) (w.alloc (.cells #[.string p.name,.slice a0 p.vars.length cap0,.slice a1 p.rules.length cap1] 25)) w1:=by simpa using hb1'
 have hbox:=ykj hb1 1
 simp at hbox
 clear hb1'
 go_wp2_with fail
 clear hbox
 go_loopw [4,32] (fun _ i wr=>∃ k:Nat,k≤p.vars.length∧i=.int .i64 k∧Hid ((p.vars.take k).all yur=true)∧Hid (Below (w.heap.size+1) (w.alloc (.cells #[.string p.name,.slice a0 p.vars.length cap0,.slice a1 p.rules.length cap1] 25)) wr)) (fun _ i _=>p.vars.length - (intOf i).toNat)
 case atStart=>exact ⟨0,by omega,rfl,rfl,hb1⟩
 case round=>
  clear hb1
  obtain ⟨k,hk,rfl,hall,hbel⟩:=hrel
  have hbw:=ycp hbel.out
  have hbs:=yhv hbel.out
  have hbox:=ykj hbel.out 1
  have hbox2:=ykj hbel.out 2
  simp at hbox hbox2
  by_cases hlt:k < p.vars.length
  ·obtain ⟨g,o,rfl,hg,hc⟩:=HVC.out (by omega)
   obtain ⟨x,hx⟩:∃ x,p.vars[k]?=some x:=⟨_,List.getElem?_eq_getElem hlt⟩
   obtain ⟨c0,c1,c2,c3,c4,c5⟩:=hc k x hx
   rw [← hbw.cell (p:=⟨g,_,none⟩) hg] at c0 c1 c2 c3 c4 c5
   have HGX:Hid (p.vars[k]=x):=(List.getElem?_eq_some_iff.1 hx).2
   clear hc hx
   rcases Bool.eq_false_or_eq_true (yur x) with q1|q1
   ·have HST:=Lib.hid (ywq k hlt hall.out (by rw [HGX.out];exact q1))
    go_wp2_with (go_at_call 129;refine (yzj x _).mono ?_;rintro e w2 ⟨rfl,hb2⟩)
    exact ⟨⟨k+1,by omega,by go_num,HST,(hbel.out.alloc hbs _).trans (hb2.mono (by simp;omega))⟩,by simp [intOf];omega⟩
   ·have H:=Lib.hid (zgn HLIM.out qn (zdp k hlt (by rw [HGX.out];exact q1)))
    go_wp2_with (go_at_call 129;refine (yzj x _).mono ?_;rintro e w2 ⟨rfl,hb2⟩)
    go_ret
    exact ⟨yci H.out.symm,(hbw.alloc (by omega) _).trans (hb2.mono (by simp;omega))⟩
  ·obtain rfl:k=p.vars.length:=by omega
   have hnum:p.vars.all yur=true:=zdq hall.out
   have HNUM:=Lib.hid hnum
   clear hnum
   obtain ⟨wo,rfl⟩:∃ wo:World,wo=wr:=⟨_,rfl⟩
   go_wp2_with fail
   go_loopw [6,43] (fun _ i wr=>∃ k:Nat,k≤p.rules.length∧i=.int .i64 k∧Hid ((p.rules.take k).all (ydc · p.vars.length)=true)∧Hid (Below (w.heap.size+1) (w.alloc (.cells #[.string p.name,.slice a0 p.vars.length cap0,.slice a1 p.rules.length cap1] 25)) wr)) (fun _ i _=>p.rules.length - (intOf i).toNat)
   case atStart=>exact ⟨0,by omega,rfl,rfl,hbel⟩
   case round=>
    clear hbel hbw hbs hbox hbox2 hall
    obtain ⟨k,hk,rfl,hall,hbel⟩:=hrel
    have hbw:=ycp hbel.out
    have hbs:=yhv hbel.out
    have hbox:=ykj hbel.out 1
    have hbox2:=ykj hbel.out 2
    simp at hbox hbox2
    by_cases hlt:k < p.rules.length
    ·obtain ⟨g,o,rfl,hg,hc⟩:=HRC.out (by omega)
     obtain ⟨x,hx⟩:∃ x,p.rules[k]?=some x:=⟨_,List.getElem?_eq_getElem hlt⟩
     obtain ⟨gv,sv,ht,hs,c0,c1,c2⟩:=hc k x hx
     have HT:=Lib.hid ht
     have HS:=Lib.hid hs
     obtain ⟨ga,gcap,rfl,_,_,_⟩:=ht.open
     obtain ⟨sa,scap,rfl,_,_,_⟩:=yok hs
     rw [← hbw.cell (p:=⟨g,_,none⟩) hg] at c0 c1 c2
     have HGX:Hid (p.rules[k]=x):=(List.getElem?_eq_some_iff.1 hx).2
     have HXI:=Lib.hid (HIN.out.2.2 x (List.mem_of_getElem? hx))
     have HXL:=Lib.hid (HLR.out x (List.mem_of_getElem? hx))
     have HXM:=Lib.hid (List.mem_of_getElem? hx)
     clear hc hx ht hs
     have hlt0:w.heap.size < wr.heap.size:=by omega
     have hne0:w.heap.size≠wr.heap.size:=by omega
     rcases Bool.eq_false_or_eq_true (ydc x p.vars.length) with q1|q1
     ·have HST:=Lib.hid (ywq (f:=fun r:RuleD=>ydc r p.vars.length) k hlt hall.out (by rw [HGX.out];exact q1))
      go_wp2_with fail
      refine (yug _ _ x p.vars.length _ (by exact HT.out.below (hbw.alloc (by omega) _)) (by exact HS.out.below (hbw.alloc (by omega) _) fun _ _=>ytv.below (hbw.alloc (by omega) _)) HXI.out HXL.out (by omega)).mono ?_
      rintro e w2 ⟨rfl,hb2⟩
      go_wp2_with fail
      exact ⟨⟨k+1,by omega,by go_num,HST,(hbel.out.alloc hbs _).trans (hb2.mono (by simp;omega))⟩,by simp [intOf];omega⟩
     ·have H:=Lib.hid (check_form HLIM.out qn HNUM.out (zdp k hlt (by rw [HGX.out];exact q1)))
      go_wp2_with fail
      refine (yug _ _ x p.vars.length _ (by exact HT.out.below (hbw.alloc (by omega) _)) (by exact HS.out.below (hbw.alloc (by omega) _) fun _ _=>ytv.below (hbw.alloc (by omega) _)) HXI.out HXL.out (by omega)).mono ?_
      rintro e w2 ⟨rfl,hb2⟩
      go_wp2_with fail
      go_ret
      exact ⟨yci H.out.symm,(hbw.alloc (by omega) _).trans (hb2.mono (by simp;omega))⟩
    ·obtain rfl:k=p.rules.length:=by omega
     have hform:p.rules.all (ydc · p.vars.length)=true:=zdq hall.out
     have HFORM:=Lib.hid hform
     clear hform
     obtain ⟨wo2,rfl⟩:∃ wo2:World,wo2=wr:=⟨_,rfl⟩
     have hbox0:=ykj hbel.out 0
     simp at hbox0
     have HKL:=Lib.hid (show (ycm p).length=p.vars.length by simp [ycm])
     go_wp2_with fail
     refine (kinds_any _ p _ (by exact HP.out.below hbw) (by omega)).mono ?_
     rintro e w3 ⟨kv,rfl,hkv,hb3⟩
     have HKV:=Lib.hid hkv
     have hbel3:Hid (Below (w.heap.size+1) (w.alloc (.cells #[.string p.name,.slice a0 p.vars.length cap0,.slice a1 p.rules.length cap1] 25)) w3):=hbel.out.trans (hb3.mono hbs)
     clear hkv hbel hb3 hbw hbs hbox hbox2 hall hbox0
     have hbox2:=ykj hbel3.out 2
     simp at hbox2
     go_wp2_with fail
     clear hbox2
     go_loopw [9,59] (fun _ i wr=>∃ k:Nat,k≤p.rules.length∧i=.int .i64 k∧Hid ((p.rules.take k).all (yik · (ycm p))=true)∧Hid (Below w3.heap.size w3 wr)∧Hid (Below (w.heap.size+1) (w.alloc (.cells #[.string p.name,.slice a0 p.vars.length cap0,.slice a1 p.rules.length cap1] 25)) wr)) (fun _ i _=>p.rules.length - (intOf i).toNat)
     case atStart=>exact ⟨0,by omega,rfl,rfl,Below.refl _ _,hbel3⟩
     case round=>
      clear hbel3
      obtain ⟨k,hk,rfl,hall,hb3,hbel⟩:=hrel
      have hbw:=ycp hbel.out
      have hbs:=yhv hbel.out
      by_cases hlt:k < p.rules.length
      ·obtain ⟨g,o,rfl,hg,hc⟩:=HRC.out (by omega)
       obtain ⟨x,hx⟩:∃ x,p.rules[k]?=some x:=⟨_,List.getElem?_eq_getElem hlt⟩
       obtain ⟨gv,sv,ht,hs,c0,c1,c2⟩:=hc k x hx
       have HT:=Lib.hid ht
       have HS:=Lib.hid hs
       obtain ⟨ga,gcap,rfl,_,_,_⟩:=ht.open
       obtain ⟨sa,scap,rfl,_,_,_⟩:=yok hs
       rw [← hbw.cell (p:=⟨g,_,none⟩) hg] at c0 c1 c2
       have HGX:Hid (p.rules[k]=x):=(List.getElem?_eq_some_iff.1 hx).2
       have HXI:=Lib.hid (HIN.out.2.2 x (List.mem_of_getElem? hx))
       have HXL:=Lib.hid (HLR.out x (List.mem_of_getElem? hx))
       have HXM:=Lib.hid (List.mem_of_getElem? hx)
       clear hc hx ht hs
       have HVAR:=Lib.hid (formed_vars (n:=p.vars.length) (List.all_eq_true.1 HFORM.out x HXM.out))
       rcases Bool.eq_false_or_eq_true (yik x (ycm p)) with q1|q1
       ·have HST:=Lib.hid (ywq (f:=fun r:RuleD=>yik r (ycm p)) k hlt hall.out (by rw [HGX.out];exact q1))
        go_wp2_with fail
        refine (zjj _ _ _ x (ycm p) _ (by exact HT.out.below (hbw.alloc (by omega) _)) (by exact HS.out.below (hbw.alloc (by omega) _) fun _ _=>ytv.below (hbw.alloc (by omega) _)) (by exact HKV.out.below (hb3.out.alloc hb3.out.size _)) HXL.out (by rw [HKL.out];exact HVAR.out)).mono ?_
        rintro e w4 ⟨rfl,hb4⟩
        go_wp2_with fail
        exact ⟨⟨k+1,by omega,by go_num,HST,(hb3.out.alloc hb3.out.size _).trans (hb4.mono (by have:=hb3.out.size;simp;omega)),(hbel.out.alloc hbs _).trans (hb4.mono (by simp;omega))⟩,by simp [intOf];omega⟩
       ·have H:=Lib.hid (check_type HLIM.out qn HNUM.out HFORM.out (zdp k hlt (by rw [HGX.out];exact q1)))
        go_wp2_with fail
        refine (zjj _ _ _ x (ycm p) _ (by exact HT.out.below (hbw.alloc (by omega) _)) (by exact HS.out.below (hbw.alloc (by omega) _) fun _ _=>ytv.below (hbw.alloc (by omega) _)) (by exact HKV.out.below (hb3.out.alloc hb3.out.size _)) HXL.out (by rw [HKL.out];exact HVAR.out)).mono ?_
        rintro e w4 ⟨rfl,hb4⟩
        go_wp2_with fail
        go_ret
        exact ⟨yci H.out.symm,(hbw.alloc (by omega) _).trans (hb4.mono (by simp;omega))⟩
      ·obtain rfl:k=p.rules.length:=by omega
       have H:=Lib.hid (zmn HLIM.out qn HNUM.out HFORM.out (zdq hall.out))
       go_wp2_with fail
       go_ret
       exact ⟨yci H.out.symm,hbw⟩
theorem validP_any (v:Value) (p:ProgD) (w:World) (hv:yqd w v p) (hin:zbc p) (hlight:zfx p) :
  Calls Tryz.prog 110 #[v] w fun e w'=>e=.returned (.bool (ydu p == 0))∧Below w.heap.size w w':=by
 have HP:=Lib.hid hv
 have HIN:=Lib.hid hin
 have HL:=Lib.hid hlight
 obtain ⟨vv,rv,rfl,hvv,hrv⟩:=hv
 obtain ⟨a0,cap0,rfl,i1,i2,i3⟩:=hvv.open
 obtain ⟨a1,cap1,rfl,j1,j2,j3⟩:=hrv.open
 clear i3 j3 hvv hrv hin hlight
 go_enter Tryz.func110,Tryz.ntmps110
 go_wp2_with fail
 refine (check_any _ p _ (by exact zrv HP.out) HIN.out HL.out).mono ?_
 rintro e w1 ⟨rfl,hb1⟩
 go_wp2_with fail
 go_ret
 exact ⟨rfl,ycp (by simpa using hb1)⟩
end
section
def ybz (l:List Int):Int:=l.foldl max 0
theorem ylf (l:List Int) (k:Nat) (x:Int) (h:l[k]?=some x):ybz (l.take (k+1))=if x > ybz (l.take k) then x else ybz (l.take k):=by
 unfold ybz
 rw [List.take_add_one,h]
 simp only [Option.toList_some,List.foldl_append,List.foldl_cons,List.foldl_nil]
 omega
theorem yvn {l:List Int} (h:∀ x∈l,x≤255):0≤ybz l∧ybz l≤255:=by
 unfold ybz
 have:∀ (l:List Int) (a:Int),(∀ x∈l,x≤255)→0≤a→a≤255→0≤l.foldl max a∧l.foldl max a≤255:=by
  intro l
  induction l with
  | nil=>intro a _ h1 h2;exact ⟨h1,h2⟩
  | cons y l ih=>
   intro a hl h1 h2
   have:=hl y (by simp)
   exact ih (max a y) (fun x hx=>hl x (by simp [hx])) (by omega) (by omega)
 exact this l 0 h (by omega) (by omega)
instance:Inhabited VarD:=⟨⟨ByteArray.empty,0,0,0,0,0⟩⟩
theorem yju {x:VarD} (h:yur x=true):(x.kind=1∨x.kind=2∨x.kind=3)∧0≤x.lo∧x.lo≤4096∧-4096≤x.hi∧x.hi≤4096∧0≤x.perNode∧x.perNode≤255∧0≤x.perID∧x.perID≤255:=by
 unfold yur at h
 rw [Bool.and_eq_true] at h
 obtain ⟨h1,h2⟩:=h
 have hk:x.kind=1∨x.kind=2∨x.kind=3:=by simp [ywh] at h1;omega
 refine ⟨hk,?_⟩
 split at h2
 ·simp at h2;omega
 ·simp only [yft,Bool.and_eq_true,decide_eq_true_eq] at h2
  obtain ⟨g1,g2,g3,g4⟩:=h2
  split at g4 <;> simp at g4 <;> omega
theorem yfe {p:ProgD} (h:ydu p=0):1≤p.vars.length∧p.vars.length≤6∧p.rules.length≤12∧∀ x∈p.vars,yur x=true:=by
 by_cases h1:p.vars.length=0∨6 < p.vars.length∨12 < p.rules.length
 ·rw [yml h1] at h;omega
 by_cases h2:yeq p=true
 ·by_cases h3:p.vars.all yur=true
  ·exact ⟨by omega,by omega,by omega,fun x hx=>List.all_eq_true.1 h3 x hx⟩
  ·rw [zgn h1 h2 (by simpa using h3)] at h;omega
 ·rw [zbj h1 (by simpa using h2)] at h;omega
def yba (x:VarD) (g:GraphD) (deg:Int):Int × Int:=
 if x.kind=2 then (0,1) else if x.kind=3 then (-1,deg - 1) else (x.lo,x.hi+x.perNode * g.ports.length+x.perID * ybz g.ids)
def there (p:ProgD) (g:GraphD) (v x:Int):Bool:=decide (0≤v) && decide (v < g.ports.length) && (decide (0≤x) && decide (x < p.vars.length))
def zki (g:GraphD) (x:VarD):Bool:=!(x.kind == 1) || (decide ((yba x g 0).1≤(yba x g 0).2) && decide ((yba x g 0).2 - (yba x g 0).1+1≤4096))
def ygf (p:ProgD) (g:GraphD):Int:=if ydu p=0 then if ycy g=true then if p.vars.all (zki g)=true then 0 else 9 else 1 else 8
def ylq (kind lo hi value:Int):Int:=if lo≤value∧value≤hi then value else if kind=3 then -1 else if value < lo then lo else hi
theorem ygx {p:ProgD} {g:GraphD}:ygf p g=0↔ydu p=0∧ycy g=true∧∀ x∈p.vars,zki g x=true:=by
 unfold ygf
 constructor
 ·intro h
  split at h
  ·split at h
   ·split at h
    ·rename_i h1 h2 h3;exact ⟨h1,h2,List.all_eq_true.1 h3⟩
    ·omega
   ·omega
  ·omega
 ·rintro ⟨h1,h2,h3⟩
  rw [if_pos h1,if_pos h2,if_pos (List.all_eq_true.2 h3)]
theorem valid_greatest {g:GraphD} (h:ycy g=true):0≤ybz g.ids∧ybz g.ids≤255:=yvn fun x hx=>((yca h).2.2.2.1 x hx).2
theorem zws {a b A B:Int} (h0:0≤a) (h1:a≤A) (h2:0≤b) (h3:b≤B):0≤a * b∧a * b≤A * B:=⟨Int.mul_nonneg h0 h2,Int.mul_le_mul h1 h3 h2 (by omega)⟩
theorem zpi {x:VarD} {g:GraphD} (hx:yur x=true) (hg:ycy g=true):0≤x.perNode * (g.ports.length:Int)∧x.perNode * (g.ports.length:Int)≤255 * 24∧0≤x.perID * ybz g.ids∧x.perID * ybz g.ids≤255 * 255:=by
 have h1:=yju hx
 have h2:=yca hg
 have h3:=valid_greatest hg
 have m1:=zws (a:=x.perNode) (b:=(g.ports.length:Int)) (A:=255) (B:=24) (by omega) (by omega) (by omega) (by omega)
 have m2:=zws (a:=x.perID) (b:=ybz g.ids) (A:=255) (B:=255) (by omega) (by omega) (by omega) (by omega)
 omega
theorem zgj {x:VarD} {g:GraphD} {deg:Int} (hx:yur x=true) (hg:ycy g=true) (hd:0≤deg∧deg≤30):-1≤(yba x g deg).1∧(yba x g deg).1≤4096∧-4096≤(yba x g deg).2∧(yba x g deg).2≤100000:=by
 have h1:=yju hx
 have h2:=zpi hx hg
 unfold yba
 split
 ·simp
 ·split
  ·simp only;omega
  ·simp only;omega
theorem fit_bd {x:VarD} {g:GraphD} {deg:Int} (hf:zki g x=true) (hx:yur x=true) (hd:0≤deg∧deg≤30):(yba x g deg).1≤(yba x g deg).2+(if x.kind=3 then 1 else 0)∧(yba x g deg).2 - (yba x g deg).1+1≤4096:=by
 have h1:=yju hx
 unfold zki at hf
 unfold yba at hf ⊢
 rcases h1.1 with hk|hk|hk
 ·simp [hk] at hf ⊢;omega
 ·simp [hk]
 ·simp [hk];omega
end
section
def ygp:Int:=1073741824
def zll (a:Int):Int:=max (-ygp) (min a ygp)
def InV (a:Int):Prop:=-ygp≤a∧a≤ygp
theorem zuh (a:Int):InV (zll a):=by unfold zll InV ygp;omega
theorem zug {a:Int} (h:InV a):zll a=a:=by unfold zll InV ygp at *;omega
def yto (b:Bool):Int:=if b then 1 else 0
theorem zad (b:Bool):InV (yto b):=by unfold yto InV ygp;split <;> omega
def zof (a b:Int):Int:=if b=0 then 0 else a.fdiv b
theorem zwy {a b:Int} (hb:b≠0):(if a.tmod b≠0∧(decide (a < 0) != decide (b < 0))=true then a.tdiv b - 1 else a.tdiv b)=zof a b:=by
 unfold zof
 rw [if_neg hb,Int.fdiv_eq_tdiv]
 by_cases hd:b ∣ a
 ·rw [if_pos hd,if_neg (fun h=>h.1 (Int.dvd_iff_tmod_eq_zero.1 hd))];omega
 ·have hm:a.tmod b≠0:=fun h=>hd (Int.dvd_iff_tmod_eq_zero.2 h)
  rw [if_neg hd]
  rcases Int.lt_or_le a 0 with ha|ha <;> rcases Int.lt_or_le b 0 with hl|hl
  ·rw [if_neg (by simp [ha,hl]),if_neg (by omega),if_neg (by omega),Int.sign_eq_neg_one_of_neg hl];omega
  ·rw [if_pos ⟨hm,by simp [ha];omega⟩,if_neg (by omega),if_pos hl,Int.sign_eq_one_of_pos (by omega)]
  ·rw [if_pos ⟨hm,by simp [hl];omega⟩,if_pos ha,if_neg (by omega)]
  ·rw [if_neg (fun h=>by have:=h.2;simp at this;omega),if_pos ha,if_pos hl];omega
def unV (op a:Int):Int:=if op=18 then -a else yto (a == 0)
def exV (op a b:Int):Int:=
 if op=30 then a * b else if op=31 then zof a b else if op=32 then (if b=0 then 0 else a - b * zof a b) else if op=33 then a+b else if op=34 then a - b
 else if op=35 then yto (a == b) else if op=36 then yto (a != b) else if op=37 then yto (decide (a < b)) else if op=38 then yto (decide (a≤b)) else if op=39 then yto (decide (b < a)) else if op=40 then yto (decide (b≤a))
 else if op=41 then yto (a != 0 && b != 0) else yto (a != 0 || b != 0)
def biV (op a b:Int):Int:=zll (exV op a b)
def zvh (l:List Int):Nat:=(l.filter (· != 0)).length
def znh:List Int→Nat→Int
 | [],_=>-1
 | a::l,k=>if a≠0 then k else znh l (k+1)
def yvq (l:List Int):Int:=l.foldl min ygp
def greatV (l:List Int):Int:=l.foldl max (-ygp)
def zde:List Int→Int × Int→Int × Int
 | [],q=>q
 | a::l,q=>zde l (max q.1 a,max q.2 (min q.1 a))
def zqf (l:List Int):Nat→Nat→Nat
 | 0,k=>k
 | n+1,k=>if (k:Int)∈l then zqf l n (k+1) else k
def zsj (op:Int) (l:List Int):Int:=
 if op=20 then yto (zvh l == l.length) else if op=21 then yto (decide (0 < zvh l)) else if op=22 then zvh l else if op=23 then znh l 0 else if op=24 then yvq l else if op=25 then greatV l
 else if op=26 then zll l.sum else if op=27 then zqf l (l.length+1) 0 else if op=28 then (zde l (-ygp,-ygp)).2 else l.headD 0
structure Scn where
 g:GraphD
 c:List (List Int)
 v:Nat
def Scn.deg (s:Scn):Nat:=(s.g.ports.getD s.v []).length
def Scn.link (s:Scn) (port:Int):Lk:=(s.g.ports.getD s.v []).getD port.toNat (0,0)
def Scn.get (s:Scn) (u:Nat) (x:Int):Int:=(s.c.getD u []).getD x.toNat 0
def Scn.leaf (s:Scn) (port:Int) (t:Tm):Int:=
 if t.1=1 then t.2 else if t.1=2 then 1 else if t.1=3 then 0 else if t.1=4 then -1 else if t.1=5 then s.get s.v t.2 else if t.1=6 then s.g.ids.length else if t.1=7 then ybz s.g.ids
 else if t.1=8 then s.g.ids.getD s.v 0 else if t.1=9 then s.deg else if t.1=10 then yto (s.v == 0) else if t.1=11 then port else if t.1=12 then s.get (s.link port).1.toNat t.2
 else if t.1=13 then s.g.ids.getD (s.link port).1.toNat 0 else if t.1=14 then (s.g.ports.getD (s.link port).1.toNat []).length else if t.1=15 then yto ((s.link port).1 == 0) else if t.1=16 then (s.link port).2
 else yid (s.g.ports.getD (s.link port).1.toNat []) s.v
def Scn.val (s:Scn):Int→Ex→Int
 | port,.lf t=>s.leaf port t
 | port,.un t a=>if yts t.1 then zsj t.1 ((List.range s.deg).map fun (k:Nat)=>s.val (k:Int) a) else unV t.1 (s.val port a)
 | port,.bi t a b=>biV t.1 (s.val port a) (s.val port b)
 | port,.tr t a b c=>if s.val port a≠0 then s.val port b else s.val port c
end
section
theorem zur {α:Type} {l:List α} {k:Nat} {x:α} (hx:l[k]?=some x):l.take (k+1)=l.take k++[x]:=by
 obtain ⟨hk,rfl⟩:=List.getElem?_eq_some_iff.1 hx
 exact List.take_succ_eq_append_getElem hk
theorem zrz (l:List Int) (a:Int):zvh (l++[a])=zvh l+(if a≠0 then 1 else 0):=by
 unfold zvh
 rw [List.filter_append,List.length_append]
 by_cases h:a=0 <;> simp [h]
theorem zwh (l:List Int):zvh l≤l.length:=List.length_filter_le _ _
theorem zsp:∀ (l:List Int) (k:Nat),znh l k=-1∨((k:Int)≤znh l k∧znh l k < ((k+l.length:Nat):Int))
 | [],k=>.inl rfl
 | b::l,k=>by
  simp only [znh]
  by_cases hb:b=0
  ·simp only [hb,ne_eq,not_true_eq_false,if_false,List.length_cons]
   rcases zsp l (k+1) with h|⟨h1,h2⟩
   ·exact .inl h
   ·exact .inr ⟨by omega,by omega⟩
  ·simp only [ne_eq,hb,not_false_eq_true,if_true,List.length_cons]
   exact .inr ⟨by omega,by omega⟩
theorem zso:∀ {l:List Int} {k i:Nat} {a:Int},l[i]?=some a→a≠0→(∀ j b,j < i→l[j]?=some b→b=0)→znh l k=((k+i:Nat):Int)
 | b::l,k,0,a,h,ha,_=>by
  simp only [List.getElem?_cons_zero,Option.some.injEq] at h
  subst h
  simp [znh,ha]
 | b::l,k,i+1,a,h,ha,hall=>by
  have hb:=hall 0 b (by omega) rfl
  simp only [znh,hb,ne_eq,not_true_eq_false,if_false]
  rw [zso (l:=l) (k:=k+1) (i:=i) (by simpa using h) ha (fun j c hj hc=>hall (j+1) c (by omega) (by simpa using hc))]
  rw [show k+1+i=k+(i+1) by omega]
theorem zec:∀ {l:List Int} {k:Nat},(∀ a∈l,a=0)→znh l k=-1
 | [],k,_=>rfl
 | b::l,k,h=>by
  simp only [znh,h b (by simp),ne_eq,not_true_eq_false,if_false]
  exact zec fun a ha=>h a (by simp [ha])
theorem least_app (l:List Int) (a:Int):yvq (l++[a])=min (yvq l) a:=by unfold yvq;rw [List.foldl_append];rfl
theorem zuu:∀ (l:List Int) (a:Int) (q:Int × Int),zde (l++[a]) q=(max (zde l q).1 a,max (zde l q).2 (min (zde l q).1 a))
 | [],a,q=>rfl
 | b::l,a,q=>by simp only [List.cons_append,zde,zuu l a]
theorem zji:∀ (l:List Int) (q:Int × Int),(zde l q).1=l.foldl max q.1
 | [],q=>rfl
 | b::l,q=>by simp only [zde,List.foldl_cons,zji l]
theorem zxm:∀ (l:List Int) (q:Int × Int),q.2≤q.1→(zde l q).2≤(zde l q).1
 | [],q,h=>h
 | b::l,q,h=>by
  simp only [zde]
  exact zxm l _ (by simp only;omega)
theorem two_step {g s a:Int} (h:s≤g):(max g a,max s (min g a))=if g < a then (a,g) else (g,max s a):=by
 split
 ·rw [show max g a=a by omega,show max s (min g a)=g by omega]
 ·rw [show max g a=g by omega,show min g a=a by omega]
theorem sum_app (l:List Int) (a:Int):(l++[a]).sum=l.sum+a:=by simp
theorem zxi:∀ {l:List Int},(∀ a∈l,InV a)→-(ygp * l.length)≤l.sum∧l.sum≤ygp * l.length
 | [],_=>by simp
 | b::l,h=>by
  have h1:=zxi (l:=l) fun a ha=>h a (by simp [ha])
  have h2:=h b (by simp)
  unfold InV ygp at *
  simp only [List.sum_cons,List.length_cons]
  omega
theorem zey:∀ (k:Nat) (l:List Int),(∀ j,j < k→((j:Nat):Int)∈l)→k≤l.length
 | 0,l,_=>Nat.zero_le _
 | k+1,l,h=>by
  have hk:=h k (by omega)
  have h1:=zey k (l.erase (k:Int)) fun j hj=>by
   rw [List.mem_erase_of_ne (by omega)]
   exact h j (by omega)
  have h2:=List.length_erase_of_mem hk
  have h3:0 < l.length:=List.length_pos_of_mem hk
  omega
theorem mex_stop {l:List Int}:∀ {n k:Nat},¬ ((k:Int)∈l)→zqf l n k=k
 | 0,k,_=>rfl
 | n+1,k,h=>by simp only [zqf];rw [if_neg h]
theorem mex_next {l:List Int} {n k:Nat} (h:(k:Int)∈l):zqf l (n+1) k=zqf l n (k+1):=by simp only [zqf];rw [if_pos h]
theorem mex_run {l:List Int} {k:Nat} (h:∀ j,j < k→((j:Nat):Int)∈l):zqf l (l.length+1) 0=zqf l (l.length+1 - k) k:=by
 induction k with
 | zero=>rfl
 | succ k ih=>
  rw [ih fun j hj=>h j (by omega)]
  have h1:=zey (k+1) l h
  rw [show l.length+1 - k=(l.length+1 - (k+1))+1 by omega,mex_next (h k (by omega))]
theorem zwq {l:List Int}:∀ (n k:Nat),zqf l n k≤k+n
 | 0,k=>by simp [zqf]
 | n+1,k=>by
  simp only [zqf]
  split
  ·have:=zwq (l:=l) n (k+1);omega
  ·omega
theorem zdy {f:Int→Int→Int} (hf:∀ a b,InV a→InV b→InV (f a b)):∀ {l:List Int} {q:Int},InV q→(∀ a∈l,InV a)→InV (l.foldl f q)
 | [],q,hq,_=>hq
 | a::l,q,hq,h=>zdy (l:=l) hf (hf q a hq (h a (by simp))) fun b hb=>h b (by simp [hb])
theorem zxl:∀ {l:List Int} {q:Int × Int},InV q.1→InV q.2→(∀ a∈l,InV a)→InV (zde l q).2
 | [],q,_,h2,_=>h2
 | a::l,q,h1,h2,h=>by
  have ha:=h a (by simp)
  refine zxl (l:=l) ?_ ?_ fun b hb=>h b (by simp [hb])
  ·unfold InV at *;simp only;omega
  ·unfold InV at *;simp only;omega
theorem fold_in {op:Int} {l:List Int} (hl:l.length≤1000) (h:∀ a∈l,InV a):InV (zsj op l):=by
 have hb:InV ygp:=by unfold InV ygp;omega
 have hn:InV (-ygp):=by unfold InV ygp;omega
 have hsm:∀ n:Nat,n≤3000→InV (n:Int):=fun n hn=>by unfold InV ygp;omega
 unfold zsj
 repeat' split
 ·exact zad _
 ·exact zad _
 ·exact hsm _ (by have:=zwh l;omega)
 ·rcases zsp l 0 with e|⟨e1,e2⟩
  ·rw [e];unfold InV ygp;omega
  ·unfold InV ygp;omega
 ·exact zdy (fun a b h1 h2=>by unfold InV at *;omega) hb h
 ·exact zdy (fun a b h1 h2=>by unfold InV at *;omega) hn h
 ·exact zuh _
 ·exact hsm _ (by have:=zwq (l:=l) (l.length+1) 0;omega)
 ·exact zxl (q:=(-ygp,-ygp)) hn hn h
 ·cases l with
  | nil=>unfold InV ygp;simp
  | cons a l=>exact h a (by simp)
end
section
structure ScnOk (s:Scn):Prop where
 ids:∀ a∈s.g.ids,0≤a∧a≤255
 few:s.g.ids.length≤24
 links:∀ ls∈s.g.ports,ls.length≤24∧∀ l∈ls,0≤l.2∧l.2≤15
 vals:∀ r∈s.c,∀ a∈r,InV a
theorem zsq {l:List Int} {k:Nat} (h:∀ a∈l,InV a):InV (l.getD k 0):=by
 rw [List.getD_eq_getElem?_getD]
 cases hk:l[k]? with
 | none=>unfold InV ygp;simp
 | some a=>exact h a (List.mem_of_getElem? hk)
theorem zed {α:Type} {l:List (List α)} {k:Nat}:l.getD k []=[]∨l.getD k []∈l:=by
 rw [List.getD_eq_getElem?_getD]
 cases hk:l[k]? with
 | none=>exact .inl rfl
 | some a=>exact .inr (List.mem_of_getElem? hk)
theorem get_in {s:Scn} (h:ScnOk s) (u:Nat) (x:Int):InV (s.get u x):=by
 unfold Scn.get
 rcases zed (l:=s.c) (k:=u) with e|e
 ·rw [e];unfold InV ygp;simp
 ·exact zsq (h.vals _ e)
theorem yzr {s:Scn} (h:ScnOk s) (u:Nat):(s.g.ports.getD u []).length≤24:=by
 rcases zed (l:=s.g.ports) (k:=u) with e|e
 ·rw [e];simp
 ·exact (h.links _ e).1
theorem link_in {s:Scn} (h:ScnOk s) (p:Int):InV (s.link p).2:=by
 unfold Scn.link
 rcases zed (l:=s.g.ports) (k:=s.v) with e|e
 ·rw [e];unfold InV ygp;simp
 ·rw [List.getD_eq_getElem?_getD]
  cases hk:(s.g.ports.getD s.v [])[p.toNat]? with
  | none=>unfold InV ygp;simp
  | some l=>
   have:=(h.links _ e).2 l (List.mem_of_getElem? hk)
   unfold InV ygp
   show _≤l.2∧l.2≤_
   omega
theorem port_bd (ls:List Lk) (u:Int):-1≤yid ls u∧yid ls u < ls.length+1:=by
 rcases yoc ls u with ⟨h,_⟩|⟨k,x,h,hx,_⟩
 ·omega
 ·have:=(List.getElem?_eq_some_iff.1 hx).1;omega
theorem yxm {n:Int} (h0:-1≤n) (h1:n≤1000000):InV n:=by unfold InV ygp;omega
theorem ite_in {c:Prop} [Decidable c] {a b:Int} (h1:InV a) (h2:InV b):InV (if c then a else b):=by split <;> assumption
theorem leaf_in {s:Scn} (hS:ScnOk s) {port:Int} (hp:InV port) {t:Tm} {vars:Int} (ha:yxu vars t=true):InV (s.leaf port t):=by
 have hid:∀ a∈s.g.ids,InV a:=fun a hm=>by have:=hS.ids a hm;exact yxm (by omega) (by omega)
 unfold Scn.leaf
 by_cases e1:t.1=1
 ·rw [if_pos e1]
  unfold yxu at ha
  rw [if_pos e1] at ha
  simp only [Bool.and_eq_true,decide_eq_true_eq] at ha
  unfold InV ygp;omega
 rw [if_neg e1]
 have l1:=yzr hS s.v
 have l2:=yzr hS (s.link port).1.toNat
 have l3:=port_bd (s.g.ports.getD (s.link port).1.toNat []) s.v
 have l5:=yvn (l:=s.g.ids) fun a hm=>(hS.ids a hm).2
 have l4:=hS.few
 repeat' refine ite_in ?_ ?_
 all_goals first
  | exact yxm (by omega) (by omega)
  | exact get_in hS _ _
  | exact zad _
  | exact hp
  | exact zsq hid
  | exact link_in hS _
  | exact yxm (by unfold Scn.deg;omega) (by unfold Scn.deg;omega)
theorem un_in {op a:Int} (h:InV a):InV (unV op a):=by
 unfold unV
 split
 ·unfold InV at *;omega
 ·exact zad _
theorem zae {s:Scn} (h:ScnOk s) {vars:Int}:∀ (E:Ex),(∀ t∈E.fl,yxu vars t=true)→∀ {port:Int},InV port→InV (s.val port E)
 | .lf t,ha,port,hp=>leaf_in h hp (ha t (by simp [Ex.fl]))
 | .un t a,ha,port,hp=>by
  have ih:=fun {q:Int} (hq:InV q)=>zae h a (fun x hx=>ha x (by simp [Ex.fl,hx])) hq
  simp only [Scn.val]
  have hd:s.deg≤24:=yzr h s.v
  split
  ·refine fold_in (by simp;omega) fun x hx=>?_
   obtain ⟨k,hk,rfl⟩:=List.mem_map.1 hx
   have:=List.mem_range.1 hk
   exact ih (yxm (by omega) (by omega))
  ·exact un_in (ih hp)
 | .bi t a b,ha,port,hp=>zuh _
 | .tr t a b c,ha,port,hp=>by
  simp only [Scn.val]
  split
  ·exact zae h b (fun x hx=>ha x (by simp [Ex.fl,hx])) hp
  ·exact zae h c (fun x hx=>ha x (by simp [Ex.fl,hx])) hp
def biP (op a b:Int):Int:=
 if op=30 then zll (a * b) else if op=31 then zll (zof a b) else if op=32 then (if b=0 then 0 else zll (a - b * zof a b)) else if op=33 then zll (a+b) else if op=34 then zll (a - b)
 else if op=41 then yto (a != 0 && b != 0) else if op=42 then yto (a != 0 || b != 0)
 else yto (if op=35 then a == b else if op=36 then a != b else if op=37 then decide (a < b) else if op=38 then decide (a≤b) else if op=39 then decide (b < a) else decide (b≤a))
theorem biP_eq {op a b:Int} (h:30≤op∧op≤42):biP op a b=biV op a b:=by
 have ht:∀ c,zll (yto c)=yto c:=fun c=>zug (zad c)
 have h0:zll 0=0:=zug (by unfold InV ygp;omega)
 have:op=30∨op=31∨op=32∨op=33∨op=34∨op=35∨op=36∨op=37∨op=38∨op=39∨op=40∨op=41∨op=42:=by omega
 rcases this with rfl|rfl|rfl|rfl|rfl|rfl|rfl|rfl|rfl|rfl|rfl|rfl|rfl <;> simp [biP,biV,exV,ht]
 split <;> simp [h0]
end
section
def GN:Nat:=0+1
def zvu:List Int:=[0,1,28,2,29,14,24,3,30,22,20,15,25,17,4,8,31,27,13,23,21,19,16,7,26,12,18,6,11,5,10,9]
def ywf (w : World) : Prop := Lib.TabIs Tryz.prog w "math/bits.deBruijn32tab" .u8 zvu
theorem zni : Tryz.prog.globalNamed "math/bits.deBruijn32tab" = some 0 := by kernel_rfl
theorem ywf.keep {w w':World} (h:ywf w) (hk:∀ k,k < GN→w'.heap[k]?=w.heap[k]?) (_:w.heap.size≤w'.heap.size):ywf w':=by
 unfold ywf Lib.TabIs World.var? at *
 rw [zni] at *
 simp only [Option.bind_some] at *
 rw [hk _ (by decide)]
 exact h
theorem ywf.size {w:World} (h:ywf w):GN≤w.heap.size:=by
 have h2:0 < w.heap.size:=by
  rcases Nat.lt_or_ge 0 w.heap.size with h'|h'
  ·exact h'
  ·simp [ywf,Lib.TabIs,World.var?,zni,Array.getElem?_eq_none h'] at h
 show 0+1≤w.heap.size
 omega
end
end Go.Proofs.YtfhejdcijbgikaaGreatDoor
