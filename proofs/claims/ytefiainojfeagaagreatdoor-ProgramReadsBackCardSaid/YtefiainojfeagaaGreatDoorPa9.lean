/- Part 9 of the texts under ProgramFormats,ProgramReadsBack,ProgramTellsProgramsApart,ProgramGrowsByLines,ProgramIgnoresBlanks: joined, with what it needs alone. -/
import Derived.Deep.LoopGhost
import Derived.Deep.QuietTactic
import Derived.BigQuiet
import Derived.Deep.AppendLies
import Derived.Deep.RegionLaw
import Derived.Deep.RegionHeld3
import Derived.Test.YtefiainojfeagaaGreatDoorPa8
set_option maxRecDepth 100000
namespace Go.Proofs.YtefiainojfeagaaGreatDoor
section
open Go.RowKit
set_option maxHeartbeats 1000000 in
theorem rtoken_word (s : ByteArray) (a : Nat) (w : World) (hs : s.size ≤ 20000) (ha : a < s.size) (hl : ycp s[a] = true) :
  Calls Tryz.prog 32 #[.string s, .int .i64 a] w (yzv s a w) := by
 have HW : Hid (yej ydu s a = yej ydu s (a + 1)) := Lib.hid (ylr ydu s a ha (by simp [ydu, hl]))
 go_enter Tryz.func32, Tryz.ntmps32
 go_wp2_with (first | (go_at_call 60; refine (yht _ _).mono ?_; rintro e w' ⟨rfl, rfl⟩))
 go_loopg [] (s.size - (a + 1)) (fun m wr => ∃ k : Nat, a < k ∧ k ≤ s.size ∧ Hid (m = s.size - k) ∧ Hid (yej ydu s a = yej ydu s k) ∧ wr = (w.alloc (.cells #[.int .i64 0, .int .i64 0, .int .i64 0, .int .i64 0] 39)).alloc (.cells #[.int .i64 1, .int .i64 a, .int .i64 k, .int .i64 0] 39))
 case atStart => exact ⟨a + 1, by omega, by omega, rfl, HW, rfl⟩
 case round =>
  obtain ⟨k, hk, hk', hm, hk2, rfl⟩ := hrel
  by_cases hlt : k < s.size
  ·cases hp : ydu s[k]
   ·have HE : Hid (yej ydu s a = k) := Lib.hid (hk2.out.trans (yzi _ s k hlt hp))
    by_cases h24 : 24 < k - a
    ·go_wp2_with (first | (go_at_call 61; refine (yjk _ _).mono ?_; rintro e w' ⟨rfl, rfl⟩))
     refine bodyPost_ret (v := .tuple #[.agg #[.int .i64 0, .int .i64 0, .int .i64 0, .int .i64 0], .int .i64 5]) (by simp [results, Tryz.results32, go_sem]) rfl ⟨?_, .inr ⟨5, yqk s a ha hl (by rw [HE.out]; omega), by omega, by omega, rfl⟩⟩
     repeat (first | exact Below.refl _ _ | refine Below.setCell ?_ (by simp) _ | refine Below.alloc ?_ (by simp) _)
    ·go_wp2_with (first | (go_at_call 61; refine (yjk _ _).mono ?_; rintro e w' ⟨rfl, rfl⟩))
     refine bodyPost_ret (v := .tuple #[.agg #[.int .i64 1, .int .i64 a, .int .i64 k, .int .i64 0], .int .i64 0]) (by simp [results, Tryz.results32, go_sem]) rfl ⟨?_, .inl ⟨1, _, 0, zgx s a ha hl (by rw [HE.out]; omega), ?_⟩⟩
     ·repeat (first | exact Below.refl _ _ | refine Below.setCell ?_ (by simp) _ | refine Below.alloc ?_ (by simp) _)
     ·rw [HE.out, show a + (k - a) = k by omega]; rfl
   ·go_wp2_with (first | (go_at_call 61; refine (yjk _ _).mono ?_; rintro e w' ⟨rfl, rfl⟩))
    go_roundg (s.size - (k + 1))
    case measure => have := hm.out; omega
    case rel => exact ⟨k + 1, by omega, by omega, rfl, hk2.out.trans (ylr _ s k hlt hp), by go_num⟩
  ·have HE : Hid (yej ydu s a = k) := Lib.hid (hk2.out.trans (yuw _ s k (by omega)))
   by_cases h24 : 24 < k - a
   ·go_wp2_with (first | (go_at_call 61; refine (yjk _ _).mono ?_; rintro e w' ⟨rfl, rfl⟩))
    refine bodyPost_ret (v := .tuple #[.agg #[.int .i64 0, .int .i64 0, .int .i64 0, .int .i64 0], .int .i64 5]) (by simp [results, Tryz.results32, go_sem]) rfl ⟨?_, .inr ⟨5, yqk s a ha hl (by rw [HE.out]; omega), by omega, by omega, rfl⟩⟩
    repeat (first | exact Below.refl _ _ | refine Below.setCell ?_ (by simp) _ | refine Below.alloc ?_ (by simp) _)
   ·go_wp2_with (first | (go_at_call 61; refine (yjk _ _).mono ?_; rintro e w' ⟨rfl, rfl⟩))
    refine bodyPost_ret (v := .tuple #[.agg #[.int .i64 1, .int .i64 a, .int .i64 k, .int .i64 0], .int .i64 0]) (by simp [results, Tryz.results32, go_sem]) rfl ⟨?_, .inl ⟨1, _, 0, zgx s a ha hl (by rw [HE.out]; omega), ?_⟩⟩
    ·repeat (first | exact Below.refl _ _ | refine Below.setCell ?_ (by simp) _ | refine Below.alloc ?_ (by simp) _)
    ·rw [HE.out, show a + (k - a) = k by omega]; rfl
set_option maxHeartbeats 1000000 in
theorem rtoken_num (s : ByteArray) (a : Nat) (w : World) (hs : s.size ≤ 20000) (ha : a < s.size) (hl : ycp s[a] = false) (hd : yba s[a] = true) :
  Calls Tryz.prog 32 #[.string s, .int .i64 a] w (yzv s a w) := by
 have HW : Hid (yej yba s a = yej yba s (a + 1)) := Lib.hid (ylr yba s a ha hd)
 go_enter Tryz.func32, Tryz.ntmps32
 go_wp2_with (first | (go_at_call 60; refine (yht _ _).mono ?_; rintro e w' ⟨rfl, rfl⟩) | (go_at_call 62; refine (yjj _ _).mono ?_; rintro e w' ⟨rfl, rfl⟩))
 go_loopg [] (s.size - (a + 1)) (fun m wr => ∃ k : Nat, a < k ∧ k ≤ s.size ∧ Hid (m = s.size - k) ∧ Hid (yej yba s a = yej yba s k) ∧ wr = (w.alloc (.cells #[.int .i64 0, .int .i64 0, .int .i64 0, .int .i64 0] 39)).alloc (.cells #[.int .i64 2, .int .i64 a, .int .i64 k, .int .i64 0] 39))
 case atStart => exact ⟨a + 1, by omega, by omega, rfl, HW, rfl⟩
 case round =>
  obtain ⟨k, hk, hk', hm, hk2, rfl⟩ := hrel
  by_cases hlt : k < s.size
  ·cases hp : yba s[k]
   ·have HE : Hid (yej yba s a = k) := Lib.hid (hk2.out.trans (yzi _ s k hlt hp))
    have hz : 0 < (s.extract a k).size := by rw [size_extract _ _ _ (by omega)]; omega
    have hz2 : (s.extract a k).size ≤ 20000 := by rw [size_extract _ _ _ (by omega)]; omega
    have HD : Hid (∀ c ∈ yad (s.extract a k) 0, yba c = true) := by have := zaf s a; rw [HE.out] at this; exact this
    go_wp2_with (first | (go_at_call 62; refine (yjj _ _).mono ?_; rintro e w' ⟨rfl, rfl⟩) | (go_at_call 63; refine (zcb _ _ hz2 hz HD).mono ?_; rintro e w' ⟨rfl, ⟨v, hv, rfl⟩ | ⟨v, hv, rfl⟩⟩ <;> have HV := Lib.hid hv <;> clear hv))
    ·have hn := zlg s a v ha hl hd (by rw [HE.out]; exact HV.out)
     refine bodyPost_ret (v := .tuple #[.agg #[.int .i64 2, .int .i64 a, .int .i64 k, .int .i64 v], .int .i64 0]) (by simp [results, Tryz.results32, go_sem]) rfl ⟨?_, .inl ⟨2, _, v, hn, ?_⟩⟩
     ·repeat (first | exact Below.refl _ _ | refine Below.setCell ?_ (by simp) _ | refine Below.alloc ?_ (by simp) _)
     ·rw [HE.out, show a + (k - a) = k by omega]; rfl
    ·have hn := ytg s a ha hl hd (by rw [HE.out]; exact HV.out)
     refine bodyPost_ret (v := .tuple #[.agg #[.int .i64 0, .int .i64 0, .int .i64 0, .int .i64 0], .int .i64 2]) (by simp [results, Tryz.results32, go_sem]) rfl ⟨?_, .inr ⟨2, hn, by omega, by omega, rfl⟩⟩
     repeat (first | exact Below.refl _ _ | refine Below.setCell ?_ (by simp) _ | refine Below.alloc ?_ (by simp) _)
   ·go_wp2_with (first | (go_at_call 62; refine (yjj _ _).mono ?_; rintro e w' ⟨rfl, rfl⟩))
    go_roundg (s.size - (k + 1))
    case measure => have := hm.out; omega
    case rel => exact ⟨k + 1, by omega, by omega, rfl, hk2.out.trans (ylr _ s k hlt hp), by go_num⟩
  ·have HE : Hid (yej yba s a = k) := Lib.hid (hk2.out.trans (yuw _ s k (by omega)))
   have hz : 0 < (s.extract a k).size := by rw [size_extract _ _ _ (by omega)]; omega
   have hz2 : (s.extract a k).size ≤ 20000 := by rw [size_extract _ _ _ (by omega)]; omega
   have HD : Hid (∀ c ∈ yad (s.extract a k) 0, yba c = true) := by have := zaf s a; rw [HE.out] at this; exact this
   go_wp2_with (first | (go_at_call 62; refine (yjj _ _).mono ?_; rintro e w' ⟨rfl, rfl⟩) | (go_at_call 63; refine (zcb _ _ hz2 hz HD).mono ?_; rintro e w' ⟨rfl, ⟨v, hv, rfl⟩ | ⟨v, hv, rfl⟩⟩ <;> have HV := Lib.hid hv <;> clear hv))
   ·have hn := zlg s a v ha hl hd (by rw [HE.out]; exact HV.out)
    refine bodyPost_ret (v := .tuple #[.agg #[.int .i64 2, .int .i64 a, .int .i64 k, .int .i64 v], .int .i64 0]) (by simp [results, Tryz.results32, go_sem]) rfl ⟨?_, .inl ⟨2, _, v, hn, ?_⟩⟩
    ·repeat (first | exact Below.refl _ _ | refine Below.setCell ?_ (by simp) _ | refine Below.alloc ?_ (by simp) _)
    ·rw [HE.out, show a + (k - a) = k by omega]; rfl
   ·have hn := ytg s a ha hl hd (by rw [HE.out]; exact HV.out)
    refine bodyPost_ret (v := .tuple #[.agg #[.int .i64 0, .int .i64 0, .int .i64 0, .int .i64 0], .int .i64 2]) (by simp [results, Tryz.results32, go_sem]) rfl ⟨?_, .inr ⟨2, hn, by omega, by omega, rfl⟩⟩
    repeat (first | exact Below.refl _ _ | refine Below.setCell ?_ (by simp) _ | refine Below.alloc ?_ (by simp) _)
set_option maxHeartbeats 1000000 in
theorem rtoken_sign (s : ByteArray) (a : Nat) (w : World) (hs : s.size ≤ 20000) (ha : a < s.size) (hl : ycp s[a] = false) (hd : yba s[a] = false) :
  Calls Tryz.prog 32 #[.string s, .int .i64 a] w (yzv s a w) := by
 have hsl := zgu (yad s a)
 rw [ycb] at hsl
 by_cases h0 : yes (yad s a) = 0
 ·have h1 : ¬ 0 < yes (yad s a) := by omega
  have H0 := Lib.hid h0
  clear h0
  go_enter Tryz.func32, Tryz.ntmps32
  go_wp2_with (first | (go_at_call 60; refine (yht _ _).mono ?_; rintro e w' ⟨rfl, rfl⟩) | (go_at_call 62; refine (yjj _ _).mono ?_; rintro e w' ⟨rfl, rfl⟩) | (go_at_call 64; refine (zjh s a _ hs ha).mono ?_; rintro e w' ⟨rfl, rfl⟩))
  refine bodyPost_ret (v := .tuple #[.agg #[.int .i64 0, .int .i64 0, .int .i64 0, .int .i64 0], .int .i64 4]) (by simp [results, Tryz.results32, go_sem]) rfl ⟨?_, .inr ⟨4, yyd s a ha hl hd H0.out, by omega, by omega, rfl⟩⟩
  repeat (first | exact Below.refl _ _ | refine Below.setCell ?_ (by simp) _ | refine Below.alloc ?_ (by simp) _)
 ·have h1 : 0 < yes (yad s a) := by omega
  have H0 := Lib.hid h0
  clear h0
  go_enter Tryz.func32, Tryz.ntmps32
  go_wp2_with (first | (go_at_call 60; refine (yht _ _).mono ?_; rintro e w' ⟨rfl, rfl⟩) | (go_at_call 62; refine (yjj _ _).mono ?_; rintro e w' ⟨rfl, rfl⟩) | (go_at_call 64; refine (zjh s a _ hs ha).mono ?_; rintro e w' ⟨rfl, rfl⟩))
  refine bodyPost_ret (v := .tuple #[.agg #[.int .i64 3, .int .i64 a, .int .i64 ((a + yes (yad s a) : Nat) : Int), .int .i64 0], .int .i64 0]) (by simp [results, Tryz.results32, go_sem]) rfl ⟨?_, .inl ⟨3, _, 0, zod s a ha hl hd H0.out, ?_⟩⟩
  ·repeat (first | exact Below.refl _ _ | refine Below.setCell ?_ (by simp) _ | refine Below.alloc ?_ (by simp) _)
  ·rfl
theorem rtoken_any (s : ByteArray) (a : Nat) (w : World) (hs : s.size ≤ 20000) (ha : a < s.size) :
  Calls Tryz.prog 32 #[.string s, .int .i64 a] w (yzv s a w) := by
 cases hl : ycp s[a]
 ·cases hd : yba s[a]
  ·exact rtoken_sign s a w hs ha hl hd
  ·exact rtoken_num s a w hs ha hl hd
 ·exact rtoken_word s a w hs ha hl
end
section
open Go.RowKit
def yeq (ts : List Tok) : List Value := ts.flatMap fun t => [.int .i64 t.kind, .int .i64 t.from_, .int .i64 t.to, .int .i64 t.num]
theorem yvd (ts : List Tok) (t : Tok) : yeq (ts ++ [t]) = yeq ts ++ [.int .i64 t.kind, .int .i64 t.from_, .int .i64 t.to, .int .i64 t.num] := by
 simp [yeq]
def zkk (s : ByteArray) (w : World) (e : Ending) (w' : World) : Prop :=
 Below w.heap.size w w' ∧
 ((∃ (ts : List Tok) (v : Value), yfr s = .ok ts ∧ ts.length ≤ 4096 ∧ e = .returned (.tuple #[v, .int .i64 0, .int .i64 0]) ∧ w'.ownsRow w.heap.size 39 4 v ts.length (yeq ts)) ∨
  (∃ p x : Nat, yfr s = .error (p, x) ∧ p ≤ s.size ∧ 1 ≤ x ∧ x ≤ 5 ∧ e = .returned (.tuple #[.slice none 0 0, .int .i64 p, .int .i64 x])))
theorem zqf : (Tryz.prog.info? 39).map (fun i => (i.zero, i.size, i.bytes)) = some (some (.agg #[.int .i64 0, .int .i64 0, .int .i64 0, .int .i64 0]), 4, 32) := by kernel_rfl
set_option maxHeartbeats 1000000 in
theorem scan_any (s : ByteArray) (w : World) (hs : s.size ≤ 9223372036854775807) :
  Calls Tryz.prog 23 #[.string s] w (zkk s w) := by
 by_cases h16 : 16384 < s.size
 ·go_enter Tryz.func23, Tryz.ntmps23
  go_wp2
  go_ret3
  exact ⟨Below.refl _ _, .inr ⟨0, 3, by unfold yfr; rw [if_pos h16], by omega, by omega, by omega, rfl⟩⟩
 ·have HF := Lib.hid (yrw s (by omega))
  obtain ⟨i0, hi, hz0, hz1, hz2⟩ := info_parts zqf
  have Hi := Lib.hid hi
  have Hz0 := Lib.hid hz0
  have Hz1 := Lib.hid hz1
  have Hz2 := Lib.hid hz2
  clear hi hz0 hz1 hz2
  have hk0 := yis s false 0 (by omega)
  go_enter Tryz.func23, Tryz.ntmps23
  go_wp2_with (go_at_call 38; refine (znw s 0 _ (by omega) (by omega)).mono ?_; rintro e w' ⟨rfl, rfl⟩)
  go_loopw [5, 6, 7, 8] (fun v at_ _ _ wr => ∃ (p : Nat) (out : List Tok), p ≤ s.size ∧ at_ = .int .i64 (yay s false p) ∧ out.length ≤ 4096 ∧ Hid (yfr s = yfq s out p) ∧ wr.ownsRow w.heap.size 39 4 v out.length (yeq out) ∧ Below w.heap.size w wr) (fun _ at_ _ _ _ => s.size - (intOf at_).toNat)
  case atStart => exact ⟨0, [], by omega, rfl, by simp, HF, World.ownsRow_nil _ _ _ _, Below.refl _ _⟩
  case round =>
   obtain ⟨p, out, hp, rfl, hout, hrest, hown, hbel⟩ := hrel
   have hb := yis s false p hp
   by_cases hlt : yay s false p < s.size
   ·obtain ⟨sa, scap, rfl⟩ := ykb hown
    by_cases hfull : out.length = 4096
    ·have hf : ((out.length : Int) == 4096) = true := by simp; omega
     have HFu := Lib.hid hfull
     clear hfull
     go_wp2
     go_ret3
     exact ⟨hbel, .inr ⟨yay s false p, 3, by rw [hrest.out, yuu s out p hlt HFu.out], hb.2, by omega, by omega, rfl⟩⟩
    ·have hf : ((out.length : Int) == 4096) = false := by simp; omega
     go_wp2_with (first | (at_builtin; refine wpList_append_own _ rfl (.tmp 32) (.tmp 34) 35 rfl w.heap.size 39 i0 (.agg #[.int .i64 0, .int .i64 0, .int .i64 0, .int .i64 0]) 4 32 Tryz.underlying35 Hi.out Hz0.out Hz1.out Hz2.out rfl (by decide) _ _ _ rfl (((yfw hown hbl).alloc _).alloc _) ⟨w1.heap.size + 1, 0, none⟩ 1 1 [.int .i64 k, .int .i64 (yay s false p), .int .i64 ((yay s false p + n : Nat) : Int), .int .i64 v] rfl rfl ?c1 ?c2 ?c3 ?c4 ?c5 ?_) | (go_at_call 39; refine (next_any s (yay s false p) _ (by omega) hlt).mono ?_; rintro e w1 ⟨hbl, ⟨k, n, v, ht, rfl⟩ | ⟨x, ht, hx1, hx2, rfl⟩⟩ <;> have HT := Lib.hid ht <;> clear ht))
     case c1 => exact ynt (w1.alloc _) _ _ _ (by simp)
     case c2 => intro u hu; simp at hu; rcases hu with rfl | rfl | rfl | rfl <;> rfl
     case c3 => unfold maxLen; omega
     case c4 => omega
     case c5 => have h1 := hbel.size; have h2 := hbl.size; simp; omega
     ·have htb := zcq HT.out
      rw [ycb] at htb
      intro v' w' hown' hgrow _
      obtain ⟨q, hq⟩ : ∃ q : Nat, q = yay s false p + n := ⟨_, rfl⟩
      have hcell : w'.cell? ⟨w1.heap.size, 2, none⟩ = some (.int .i64 (q : Int)) := hgrow.cell (by rw [hq]; simp) (zsz hown _ hbl.size)
      have hb' : Below w.heap.size w w' := ((((hbel.trans (hbl.mono hbel.size)).alloc (Nat.le_trans hbel.size hbl.size) _).alloc (by have h1 := hbel.size; have h2 := hbl.size; simp; omega) _).grown hgrow (by have h1 := hbel.size; have h2 := hbl.size; simp; omega) (yxx hown))
      have hq1 : yay s false p < q := by omega
      have hq2 : q ≤ s.size := by omega
      have hs2 := yis s false q hq2
      have HR : Hid (yfr s = yfq s (out ++ [⟨k, yay s false p, q, v⟩]) q) := by rw [hq]; exact hrest.out.trans (yya s out p k n v hlt (by omega) HT.out)
      have HO : w'.ownsRow w.heap.size 39 4 v' (out ++ [(⟨k, yay s false p, q, v⟩ : Tok)]).length (yeq (out ++ [⟨k, yay s false p, q, v⟩])) := by
       rw [yvd, List.length_append]; rw [hq]; exact hown'
      clear hown' hgrow hq
      go_wp2_with (go_at_call 38; refine (znw s q _ (by omega) hq2).mono ?_; rintro e w' ⟨rfl, rfl⟩)
      exact ⟨⟨q, _, hq2, rfl, by rw [List.length_append]; simp; omega, HR, HO, hb'⟩, by simp [intOf]; omega⟩
     ·go_ret3
      exact ⟨(hbel.trans (hbl.mono hbel.size)).alloc (Nat.le_trans hbel.size hbl.size) _, .inr ⟨yay s false p, x, by rw [hrest.out, yxz s out p x hlt (by omega) HT.out], hb.2, hx1, hx2, rfl⟩⟩
   ·go_wp2
    go_ret3
    exact ⟨hbel, .inl ⟨out, u5, by rw [hrest.out, yxy s out p (by omega)], hout, rfl, hown⟩⟩
set_option maxHeartbeats 1000000 in
theorem rscan_any (s : ByteArray) (w : World) (hs : s.size ≤ 9223372036854775807) :
  Calls Tryz.prog 14 #[.string s] w (zkk s w) := by
 by_cases h16 : 16384 < s.size
 ·go_enter Tryz.func14, Tryz.ntmps14
  go_wp2
  go_ret3
  exact ⟨Below.refl _ _, .inr ⟨0, 3, by unfold yfr; rw [if_pos h16], by omega, by omega, by omega, rfl⟩⟩
 ·have HF := Lib.hid (yrw s (by omega))
  obtain ⟨i0, hi, hz0, hz1, hz2⟩ := info_parts zqf
  have Hi := Lib.hid hi
  have Hz0 := Lib.hid hz0
  have Hz1 := Lib.hid hz1
  have Hz2 := Lib.hid hz2
  clear hi hz0 hz1 hz2
  have hk0 := yis s false 0 (by omega)
  go_enter Tryz.func14, Tryz.ntmps14
  go_wp2_with (go_at_call 31; refine (zbv s 0 _ (by omega) (by omega)).mono ?_; rintro e w' ⟨rfl, rfl⟩)
  go_loopw [5, 6, 7, 8] (fun v at_ _ _ wr => ∃ (p : Nat) (out : List Tok), p ≤ s.size ∧ at_ = .int .i64 (yay s false p) ∧ out.length ≤ 4096 ∧ Hid (yfr s = yfq s out p) ∧ wr.ownsRow w.heap.size 39 4 v out.length (yeq out) ∧ Below w.heap.size w wr) (fun _ at_ _ _ _ => s.size - (intOf at_).toNat)
  case atStart => exact ⟨0, [], by omega, rfl, by simp, HF, World.ownsRow_nil _ _ _ _, Below.refl _ _⟩
  case round =>
   obtain ⟨p, out, hp, rfl, hout, hrest, hown, hbel⟩ := hrel
   have hb := yis s false p hp
   by_cases hlt : yay s false p < s.size
   ·obtain ⟨sa, scap, rfl⟩ := ykb hown
    by_cases hfull : out.length = 4096
    ·have hf : ((out.length : Int) == 4096) = true := by simp; omega
     have HFu := Lib.hid hfull
     clear hfull
     go_wp2
     go_ret3
     exact ⟨hbel, .inr ⟨yay s false p, 3, by rw [hrest.out, yuu s out p hlt HFu.out], hb.2, by omega, by omega, rfl⟩⟩
    ·have hf : ((out.length : Int) == 4096) = false := by simp; omega
     go_wp2_with (first | (at_builtin; refine wpList_append_own _ rfl (.tmp 35) (.tmp 37) 35 rfl w.heap.size 39 i0 (.agg #[.int .i64 0, .int .i64 0, .int .i64 0, .int .i64 0]) 4 32 Tryz.underlying35 Hi.out Hz0.out Hz1.out Hz2.out rfl (by decide) _ _ _ rfl (((yfw hown hbl).alloc _).alloc _) ⟨w1.heap.size + 1, 0, none⟩ 1 1 [.int .i64 k, .int .i64 (yay s false p), .int .i64 ((yay s false p + n : Nat) : Int), .int .i64 v] rfl rfl ?c1 ?c2 ?c3 ?c4 ?c5 ?_) | (go_at_call 32; refine (rtoken_any s (yay s false p) _ (by omega) hlt).mono ?_; rintro e w1 ⟨hbl, ⟨k, n, v, ht, rfl⟩ | ⟨x, ht, hx1, hx2, rfl⟩⟩ <;> have HT := Lib.hid ht <;> clear ht))
     case c1 => exact ynt (w1.alloc _) _ _ _ (by simp)
     case c2 => intro u hu; simp at hu; rcases hu with rfl | rfl | rfl | rfl <;> rfl
     case c3 => unfold maxLen; omega
     case c4 => omega
     case c5 => have h1 := hbel.size; have h2 := hbl.size; simp; omega
     ·have htb := zcq HT.out
      rw [ycb] at htb
      intro v' w' hown' hgrow _
      obtain ⟨q, hq⟩ : ∃ q : Nat, q = yay s false p + n := ⟨_, rfl⟩
      have hcell : w'.cell? ⟨w1.heap.size, 2, none⟩ = some (.int .i64 (q : Int)) := hgrow.cell (by rw [hq]; simp) (zsz hown _ hbl.size)
      have hb' : Below w.heap.size w w' := ((((hbel.trans (hbl.mono hbel.size)).alloc (Nat.le_trans hbel.size hbl.size) _).alloc (by have h1 := hbel.size; have h2 := hbl.size; simp; omega) _).grown hgrow (by have h1 := hbel.size; have h2 := hbl.size; simp; omega) (yxx hown))
      have hq1 : yay s false p < q := by omega
      have hq2 : q ≤ s.size := by omega
      have hs2 := yis s false q hq2
      have HR : Hid (yfr s = yfq s (out ++ [⟨k, yay s false p, q, v⟩]) q) := by rw [hq]; exact hrest.out.trans (yya s out p k n v hlt (by omega) HT.out)
      have HO : w'.ownsRow w.heap.size 39 4 v' (out ++ [(⟨k, yay s false p, q, v⟩ : Tok)]).length (yeq (out ++ [⟨k, yay s false p, q, v⟩])) := by
       rw [yvd, List.length_append]; rw [hq]; exact hown'
      clear hown' hgrow hq
      go_wp2_with (go_at_call 31; refine (zbv s q _ (by omega) hq2).mono ?_; rintro e w' ⟨rfl, rfl⟩)
      exact ⟨⟨q, _, hq2, rfl, by rw [List.length_append]; simp; omega, HR, HO, hb'⟩, by simp [intOf]; omega⟩
     ·go_ret3
      exact ⟨(hbel.trans (hbl.mono hbel.size)).alloc (Nat.le_trans hbel.size hbl.size) _, .inr ⟨yay s false p, x, by rw [hrest.out, yxz s out p x hlt (by omega) HT.out], hb.2, hx1, hx2, rfl⟩⟩
   ·go_wp2
    go_ret3
    exact ⟨hbel, .inl ⟨out, u5, by rw [hrest.out, yxy s out p (by omega)], hout, rfl, hown⟩⟩
end
section
open Go.RowKit
def Toks (w : World) (v : Value) (ts : List Tok) : Prop :=
 ∃ a cap, v = .slice a ts.length cap ∧ ts.length ≤ cap ∧ cap ≤ maxLen ∧
  (ts = [] ∨ ∃ g o, a = some ⟨g, o, none⟩ ∧ g < w.heap.size ∧ ∀ i t, ts[i]? = some t →
   w.cell? ⟨g, o + i * 4, none⟩ = some (.int .i64 t.kind) ∧ w.cell? ⟨g, o + i * 4 + 1, none⟩ = some (.int .i64 t.from_) ∧
   w.cell? ⟨g, o + i * 4 + 2, none⟩ = some (.int .i64 t.to) ∧ w.cell? ⟨g, o + i * 4 + 3, none⟩ = some (.int .i64 t.num))
theorem tokCells_get (ts : List Tok) : ∀ (i : Nat) (t : Tok), ts[i]? = some t →
  (yeq ts)[i * 4]? = some (.int .i64 t.kind) ∧ (yeq ts)[i * 4 + 1]? = some (.int .i64 t.from_) ∧ (yeq ts)[i * 4 + 2]? = some (.int .i64 t.to) ∧ (yeq ts)[i * 4 + 3]? = some (.int .i64 t.num) := by
 induction ts with
 | nil => intro i t h; simp at h
 | cons x ts ih =>
  intro i t h
  have e : yeq (x :: ts) = .int .i64 x.kind :: .int .i64 x.from_ :: .int .i64 x.to :: .int .i64 x.num :: yeq ts := by simp [yeq]
  rw [e]
  cases i with
  | zero => simp at h; subst h; simp
  | succ i =>
   have := ih i t (by simpa using h)
   rw [show (i + 1) * 4 = i * 4 + 1 + 1 + 1 + 1 by omega]
   simp only [List.getElem?_cons_succ]
   exact this
theorem toks_of_own {w : World} {B : Nat} {v : Value} {ts : List Tok} (h : w.ownsRow B 39 4 v ts.length (yeq ts)) : Toks w v ts := by
 obtain ⟨h1, h2⟩ := h
 rcases h2 with ⟨rfl, h2⟩ | ⟨g, cap, cur, hv, hg, hh, hle, hcap, hcs, htk⟩
 ·exact ⟨none, 0, by rw [h2], by omega, by simp [maxLen], .inl (List.length_eq_zero_iff.1 h2)⟩
 ·refine ⟨some ⟨g, 0, none⟩, cap, hv, hle, hcap, .inr ⟨g, 0, rfl, ?_, fun i t ht => ?_⟩⟩
  ·rcases Nat.lt_or_ge g w.heap.size with h | h
   ·exact h
   ·simp [Array.getElem?_eq_none h] at hh
  ·have hcell : ∀ j u, (yeq ts)[j]? = some u → w.cell? ⟨g, j, none⟩ = some u := by
    intro j u hu
    have hj : (cur.toList.take (ts.length * 4))[j]? = some u := by rw [htk]; exact hu
    rw [List.getElem?_take] at hj
    unfold World.cell?
    simp only [hh]
    split at hj
    ·simpa using hj
    ·cases hj
   obtain ⟨c0, c1, c2, c3⟩ := tokCells_get ts i t ht
   simp only [Nat.zero_add]
   exact ⟨hcell _ _ c0, hcell _ _ c1, hcell _ _ c2, hcell _ _ c3⟩
end
section
open Go.RowKit
theorem scan_len (left : Nat) : ∀ (p : Nat) (r : List UInt8) (ts : List Tok), yjm left p r = .ok ts → ts.length ≤ left := by
 induction left with
 | zero =>
  intro p r ts h
  rw [yjm] at h
  split at h <;> simp at h
  subst h; simp
 | succ left ih =>
  intro p r ts h
  rw [yjm] at h
  split at h
  ·simp at h; subst h; simp
  ·split at h
   ·simp at h
   ·rename_i k n v _
    generalize hq : yjm left (p + ycr false r + n) ((r.drop (ycr false r)).drop n) = q at h
    cases q with
    | error e => simp [ypm] at h
    | ok us =>
     simp [ypm] at h
     subst h
     have := ih _ _ _ hq
     simp; omega
theorem yux {s : ByteArray} {ts : List Tok} (h : yfr s = .ok ts) : ts.length ≤ 4096 := by
 unfold yfr at h
 split at h
 ·simp at h
 ·exact scan_len _ _ _ _ h
end
section
open Go.RowKit
theorem zhs (v : Value) (l : List Tm) (k : Nat) (w : World) (hl : l.length ≤ 1000) (hv : Hid (yei w v l)) (_hk : k ≤ 1000) :
  Calls Tryz.prog 103 #[v, .int .i64 k] w fun e w' => e = .returned (.int .i64 (ysi 1 k l)) ∧ w = w' := by
 by_cases h : k < l.length
 ·exact end_any_in v l k w hl hv h
 ·obtain ⟨a, cap, rfl, h1, h2, _⟩ := hv.out.open
  have H := Lib.hid (ytx 1 k l (by omega) (by omega))
  go_enter Tryz.func103, Tryz.ntmps103
  go_wp2
  go_ret
  exact ⟨yak H.out.symm, rfl⟩
theorem yqe (v : Value) (l : List Tm) (k : Nat) (w : World) (hl : l.length ≤ 1000) (hv : Hid (yei w v l)) (_hk : k ≤ 1000) :
  Calls Tryz.prog 83 #[v, .int .i64 k] w fun e w' => e = .returned (.int .i64 (ysi 1 k l)) ∧ w = w' := by
 by_cases h : k < l.length
 ·exact rend_any_in v l k w hl hv h
 ·obtain ⟨a, cap, rfl, h1, h2, _⟩ := hv.out.open
  have H := Lib.hid (ytx 1 k l (by omega) (by omega))
  go_enter Tryz.func83, Tryz.ntmps83
  go_wp2
  go_ret
  exact ⟨yak H.out.symm, rfl⟩
theorem zah (l : List Tm) : ysi 1 0 l = l.length ↔ ∃ E, yfx l = some E := by
 rw [parse_iff]
 unfold ysi
 rw [List.drop_zero]
 cases h : zke 1 l with
 | none => simp
 | some n => simp; omega
theorem depth1_any (op : Int) (g : Nat) (w : World) (hg : g ≤ 1000) : Calls Tryz.prog 132 #[.int .i64 op, .int .i64 g] w fun e w' => e = .returned (.int .i64 (yhx op g : Nat)) ∧ w = w' := by
 go_enter Tryz.func132, Tryz.ntmps132
 go_wp2
 go_ret
 exact ⟨yak (by unfold yhx; omega), rfl⟩
theorem nest1_any (op : Int) (g : Nat) (w : World) (hg : g ≤ 1000) : Calls Tryz.prog 133 #[.int .i64 op, .int .i64 g] w fun e w' => e = .returned (.int .i64 (yns op g : Nat)) ∧ w = w' := by
 cases ha : ymb op
 all_goals
  go_enter Tryz.func133, Tryz.ntmps133
  go_wp2_with (go_at_call 134; refine (yig _ _).mono ?_; rintro e w' ⟨rfl, rfl⟩)
  go_ret
  exact ⟨yak (by unfold yns; rw [ha]; simp), rfl⟩
theorem zst (f : Int → Nat → Nat) (hf : ∀ op g, f op g ≤ g + 1) (l : List Tm) : ∀ x ∈ lev f l, x ≤ l.length := by
 have hm : ∀ (xs : List Nat) (b : Nat), (∀ x ∈ xs, x ≤ b) → ypg xs ≤ b := by
  intro xs b
  induction xs with
  | nil => intro _; simp [ypg]
  | cons a xs ih =>
   intro h
   have h1 := h a (List.mem_cons_self ..)
   have h2 := ih (fun x hx => h x (List.mem_cons_of_mem _ hx))
   simp only [ypg]; omega
 induction l with
 | nil => intro x hx; simp [lev] at hx
 | cons t l ih =>
  intro x hx
  simp only [lev] at hx
  cases hx with
  | head =>
   have h1 := hm ((lev f l).take (ar t.1).toNat) l.length (fun x hx => ih x (List.mem_of_mem_take hx))
   have h2 := hf t.1 (ypg ((lev f l).take (ar t.1).toNat))
   simp only [List.length_cons]; omega
  | tail _ hx => have := ih x (List.mem_of_mem_drop hx); simp only [List.length_cons]; omega
theorem zqk (f : Int → Nat → Nat) (l : List Tm) : (lev f l).length ≤ l.length := by
 induction l with
 | nil => simp [lev]
 | cons t l ih => simp only [lev, List.length_cons, List.length_drop]; omega
theorem zbf (xs ys : List Nat) : ypg (xs ++ ys) = max (ypg xs) (ypg ys) := by
 induction xs with
 | nil => simp [ypg]
 | cons a xs ih => simp only [List.cons_append, ypg, ih]; omega
theorem maxl_reverse (xs : List Nat) : ypg xs.reverse = ypg xs := by
 induction xs with
 | nil => rfl
 | cons a xs ih => rw [List.reverse_cons, zbf, ih]; simp only [ypg]; omega
theorem yrv (xs : List Nat) (q : Nat) (x : Nat) (h : xs[q]? = some x) : ypg (xs.take (q + 1)) = max (ypg (xs.take q)) x := by
 obtain ⟨h1, h2⟩ := List.getElem?_eq_some_iff.1 h
 rw [List.take_succ_eq_append_getElem h1, zbf, h2]; simp [ypg]
def ydr (xs : List Nat) : List Value := xs.map fun (n : Nat) => Value.int .i64 n
theorem ymn (xs : List Nat) (i x : Nat) (h : xs[i]? = some x) : (ydr xs)[i]? = some (.int .i64 x) := by unfold ydr; rw [List.getElem?_map, h]; rfl
theorem ygn (xs : List Nat) : (ydr xs).length = xs.length := by simp [ydr]
theorem ydt (xs ys : List Nat) : ydr (xs ++ ys) = ydr xs ++ ydr ys := by simp [ydr]
theorem yzc {w : World} {B e cap n m : Nat} {a : Option Addr} {xs ys : List Value} (hm : ys.length = m)
  (h : w.ownsRow B e 1 (.slice a n cap) n (ys ++ xs)) : w.ownsRow B e 1 (.slice a m cap) m ys := by
 obtain ⟨h1, h2⟩ := h
 refine ⟨by omega, ?_⟩
 rw [List.length_append] at h1
 rcases h2 with ⟨h0, h3⟩ | ⟨g', cap', cur, hv, hg, hh, hn, hcap, hsz, htake⟩
 ·cases h0
  exact .inl ⟨by rw [show m = 0 by omega], by omega⟩
 ·cases hv
  refine .inr ⟨g', cap, cur, rfl, hg, hh, by omega, hcap, hsz, ?_⟩
  have h4 := congrArg (List.take m) htake
  rw [List.take_take, Nat.min_eq_left (by omega), ← hm, List.take_append_of_le_length (Nat.le_refl _), List.take_length] at h4
  rw [Nat.mul_one, ← hm]; exact h4
theorem zet {P : Program} {t : TypeId} (ht : P.underlying t = some (.slice (P.elem t))) (hs : ∀ w, (sizeOf (P.elem t)).run P w = .ok 1 w) (a : Option Addr) (n cap r m : Nat) (i : Int) (hi : i = r) (h : m + r = n) (hc : n ≤ cap) :
  ∃ sb capb, (∀ w, (Instr.slice t (.slice a n cap) (some (.int .i64 i)) none none).run P w = .ok (.slice sb m capb) w) ∧ m ≤ capb ∧ capb ≤ cap ∧ (∀ g o, a = some ⟨g, o, none⟩ → 0 < m → sb = some ⟨g, o + r, none⟩) := by
 subst hi
 refine ⟨if cap = r then a else a.map (·.add (r * 1)), cap - r, fun w => ?_, by omega, by omega, fun g o ha hr => ?_⟩
 ·rw [run_slice_l w t a n cap ht .i64 r (by omega) (by omega), hs]
  show Result.ok (sliced a r n cap 1) w = _
  unfold sliced
  rw [show n - r = m by omega]
 ·rw [if_neg (by omega), ha]
  simp only [Option.map_some, Nat.mul_one, Addr.add]
  split
  ·simp_all
  ·rfl
theorem yrh {P : Program} {t : TypeId} (ht : P.underlying t = some (.slice (P.elem t))) (hs : ∀ w, (sizeOf (P.elem t)).run P w = .ok 1 w) (a : Option Addr) (n cap r : Nat) (i : Int) (hi : i = r) (h : r ≤ cap) :
  ∀ w, (Instr.slice t (.slice a n cap) none (some (.int .i64 i)) none).run P w = .ok (.slice a r cap) w := by
 subst hi
 intro w
 rw [run_slice_h w t a n cap ht .i64 r (by omega) (by omega), hs]
 show Result.ok (sliced a 0 r cap 1) w = _
 unfold sliced
 by_cases h0 : cap = 0
 ·rw [if_pos h0]; rfl
 ·rw [if_neg h0]
  cases a <;> simp [Addr.add]
theorem ziv {w : World} {B e : Nat} {v x : Value} (h : w.ownsRow B e 1 v 1 [x]) : ∃ g cap, v = .slice (some ⟨g, 0, none⟩) 1 cap ∧ 1 ≤ cap ∧ cap ≤ 9223372036854775807 ∧ w.cell? ⟨g, 0, none⟩ = some x := by
 have h5 := h
 obtain ⟨h1, h2⟩ := h
 rcases h2 with ⟨h0, h3⟩ | ⟨g, cap, cur, rfl, hg, hh, hn, hcap, hsz, htake⟩
 ·omega
 ·unfold maxLen at hcap
  have hc := h5.cells (g := g) rfl 0 x rfl
  exact ⟨g, cap, rfl, hn, by omega, by simpa [Addr.add] using hc⟩
theorem ylq {w : World} {B e n cap : Nat} {a : Option Addr} {xs : List Value} (h : w.ownsRow B e 1 (.slice a n cap) n xs) : n ≤ cap ∧ cap ≤ 9223372036854775807 ∧ (0 < n → ∃ g, a = some ⟨g, 0, none⟩ ∧ ∀ j u, xs[j]? = some u → w.cell? ⟨g, j, none⟩ = some u) := by
 obtain ⟨a', cap', hv, h1, h2, h3, h4⟩ := (ywo h).open
 cases hv
 refine ⟨h1, h2, fun hn => ?_⟩
 rcases h.2 with ⟨h0, h5⟩ | ⟨g, cap, cur, hv, hg, hh, hn', hcap, hsz, htake⟩
 ·omega
 ·cases hv
  refine ⟨g, rfl, fun j u hu => ?_⟩
  have hc := h.cells (g := g) rfl j u hu
  have h0 : (⟨g, 0, none⟩ : Addr).add j = ⟨g, j, none⟩ := by unfold Addr.add; split <;> simp_all
  rw [h0] at hc; exact hc
theorem zba (f : Int → Nat → Nat) (l : List Tm) (E : Ex) (hf : yfd l = some [E]) (j : Nat) (hj : j < l.length) :
  0 ≤ ar l[j].1 ∧ ∃ lo seg : List Nat, (lev f (l.drop (j + 1))).reverse = lo ++ seg ∧ (seg.length : Int) = ar l[j].1 ∧ (lev f (l.drop j)).reverse = lo ++ [f l[j].1 (ypg seg)] := by
 obtain ⟨G', hG'⟩ := forest_suffix l j _ hf
 rw [List.drop_eq_getElem_cons hj] at hG'
 obtain ⟨G, hG, h0, hle, _⟩ := yub _ _ _ hG'
 have hlen : (lev f (l.drop (j + 1))).length = G.length := by rw [ywd f _ G hG, List.length_map]
 refine ⟨h0, ((lev f (l.drop (j + 1))).drop (ar l[j].1).toNat).reverse, ((lev f (l.drop (j + 1))).take (ar l[j].1).toNat).reverse, ?_, ?_, ?_⟩
 ·rw [← List.reverse_append, List.take_append_drop]
 ·rw [List.length_reverse, List.length_take, hlen]; omega
 ·rw [List.drop_eq_getElem_cons hj]
  simp only [lev, List.reverse_cons, maxl_reverse]
theorem zau : (Tryz.prog.info? 3).map (fun i => (i.zero, i.size, i.bytes)) = some (some (.int .i64 0), 1, 8) := by kernel_rfl
theorem zci (w : World) : (sizeOf (Tryz.prog.elem 96)).run Tryz.prog w = .ok 1 w := by kernel_rfl
theorem yql : Tryz.prog.underlying 96 = some (.slice (Tryz.prog.elem 96)) := by kernel_rfl
set_option maxHeartbeats 4000000 in
theorem levels_depth (v : Value) (l : List Tm) (E : Ex) (w : World) (hl : l.length ≤ 1000) (hv : Hid (yei w v l)) (hp : Hid (yfx l = some E)) :
  Calls Tryz.prog 131 #[v, .func (.func 132) #[] #[]] w fun e w' => e = .returned (.tuple #[.int .i64 (val yhx E : Nat), .bool true]) ∧ Below w.heap.size w w' := by
 obtain ⟨i0, hi, hz0, hz1, hz2⟩ := info_parts zau
 have Hi := Lib.hid hi
 have Hz0 := Lib.hid hz0
 have Hz1 := Lib.hid hz1
 have Hz2 := Lib.hid hz2
 clear hi hz0 hz1 hz2
 obtain ⟨hok, hfl⟩ := yfy hp.out
 have HF : Hid (yfd l = some [E]) := by rw [← hfl]; have := yuc E hok [] [] rfl; rw [List.append_nil] at this; exact this
 have hpos : 0 < l.length := by rw [← hfl]; exact E.fl_pos
 have HE := Lib.hid ((zah l).2 ⟨E, hp.out⟩)
 have hne : (ysi 1 0 l != (l.length : Int)) = false := by rw [HE.out]; simp
 clear hok hfl
 obtain ⟨a0, cap0, rfl, h1, h2, h3⟩ := hv.out.open
 obtain ⟨g0, o0, rfl, hg0, hc⟩ := h3 hpos
 have HC := Lib.hid hc
 clear h3 hc
 go_enter Tryz.func131, Tryz.ntmps131
 go_wp2_with (go_at_call 103; refine (zhs _ l 0 _ hl hv (by omega)).mono ?_; rintro e w' ⟨rfl, rfl⟩)
 go_loopg [6, 7, 8, 9, 11] l.length (fun m st i _ _ _ wr => m ≤ l.length ∧ i = .int .i64 ((m : Int) - 1) ∧ wr.ownsRow w.heap.size 3 1 st (lev yhx (l.drop m)).length (ydr (lev yhx (l.drop m)).reverse) ∧ Below w.heap.size w wr)
 case atStart =>
  refine ⟨Nat.le_refl _, rfl, ?_, Below.refl _ _⟩
  rw [List.drop_length]; exact World.ownsRow_nil _ _ _ _
 case round =>
  obtain ⟨hm, rfl, hown, hbel⟩ := hrel
  by_cases h0 : gk = 0
  ·subst h0
   rw [List.drop_zero, ywd yhx l [E] HF.out] at hown
   obtain ⟨g, cap, rfl, hc1, hc2, hcell⟩ := ziv hown
   go_wp2_with fail
   go_ret2
   exact ⟨rfl, hbel⟩
  ·obtain ⟨j, rfl⟩ : ∃ j, gk = j + 1 := ⟨gk - 1, by omega⟩
   have hj : j < l.length := by omega
   obtain ⟨ha0, lo, seg, hr1, hr2, hr3⟩ := zba yhx l E HF.out j hj
   have hlen : (lev yhx (l.drop (j + 1))).length = lo.length + seg.length := by rw [← List.length_reverse, hr1, List.length_append]
   have hsegb : ypg seg ≤ 1000 := by
    have h1 := zst yhx (by intro op g; simp only [yhx]; first | omega | (split <;> omega)) (l.drop (j + 1))
    have h2 : ∀ (xs : List Nat) (b : Nat), (∀ x ∈ xs, x ≤ b) → ypg xs ≤ b := by
     intro xs b
     induction xs with
     | nil => intro _; simp [ypg]
     | cons a xs ih =>
      intro h
      have h1 := h a (List.mem_cons_self ..)
      have h2 := ih (fun x hx => h x (List.mem_cons_of_mem _ hx))
      simp only [ypg]; omega
    refine Nat.le_trans (h2 seg (l.drop (j + 1)).length fun x hx => h1 x ?_) (by rw [List.length_drop]; omega)
    rw [← List.mem_reverse, hr1]; exact List.mem_append_right _ hx
   have e1 : ((j + 1 : Nat) : Int) - 1 = j := by omega
   rw [e1]
   rw [hr1, hlen] at hown
   have H3 := Lib.hid hr3
   obtain ⟨sa, scap, rfl⟩ := ykb hown
   obtain ⟨hn1, hn2, hn3⟩ := ylq hown
   obtain ⟨sb, capb, hsl, hb1, hb2, hb3⟩ := zet yql zci sa (lo.length + seg.length) scap lo.length seg.length (((lo.length + seg.length : Nat) : Int) - ar l[j].1) (by omega) (by omega) hn1
   have hsl2 := yrh yql zci sa (lo.length + seg.length) scap lo.length (((lo.length + seg.length : Nat) : Int) - ar l[j].1) (by omega) (by omega)
   obtain ⟨c0, c1⟩ := HC.out j _ (List.getElem?_eq_getElem hj)
   rw [← hbel.cell (p := ⟨g0, _, none⟩) hg0] at c0 c1
   have HR2 := Lib.hid hr2
   have hra : ar l[j].1 ≤ ((lo.length + seg.length : Nat) : Int) := by omega
   have hlo : lo.length + seg.length ≤ 1000 := by have h1 := zqk yhx (l.drop (j + 1)); rw [List.length_drop] at h1; omega
   have hnpos : (0 < seg.length → 0 < lo.length + seg.length) := by omega
   have hlo2 : lo.length ≤ scap := by omega
   have hlo3 : lo.length ≤ 1000 := by omega
   generalize hN : lo.length + seg.length = n at *
   have HN := Lib.hid hN
   clear hN
   clear hr1 hr2 hr3 hlen e1 h0
   go_wp2_with (go_at_call 130; refine (yik _ _).mono ?_; rintro e w' ⟨rfl, rfl⟩)
   go_loop [9, 11, 37] (fun gr _ q => ∃ k : Nat, k ≤ seg.length ∧ q = .int .i64 k ∧ gr = .int .i64 (ypg (seg.take k) : Nat)) (fun _ _ q => seg.length - (intOf q).toNat)
   case atStart => exact ⟨0, by omega, rfl, rfl⟩
   case round =>
    obtain ⟨k, hk, rfl, rfl⟩ := hrel
    by_cases hq : k < seg.length
    ·obtain ⟨g, rfl, hcs⟩ := hn3 (by have := HN.out; omega)
     obtain rfl := hb3 g 0 rfl (by omega)
     obtain ⟨x, hx⟩ : ∃ x, seg[k]? = some x := ⟨seg[k], List.getElem?_eq_getElem hq⟩
     have hcell := hcs (lo.length + k) _ (ymn (lo ++ seg) (lo.length + k) x (by rw [List.getElem?_append_right (by omega), Nat.add_sub_cancel_left]; exact hx))
     have HM := Lib.hid (yrv seg k x hx)
     clear hcs hx
     simp only [Nat.zero_add]
     generalize ypg (seg.take k) = mk at *
     go_wp2_with fail
     refine ⟨⟨k + 1, by omega, by go_num, ?_⟩, by simp [intOf]; omega⟩
     rw [HM.out]
     congr 1
     split <;> omega
    ·obtain rfl : k = seg.length := by omega
     rw [List.take_length]
     go_wp2_with fail
     have hown' : wr.ownsRow w.heap.size 3 1 (.slice sa lo.length scap) lo.length (ydr lo) := yzc (ygn lo) (by rw [ydt] at hown; exact hown)
     go_region_law (first | (go_simp; go_at_call 132; refine (depth1_any _ _ _ hsegb).mono ?_; rintro e w' ⟨rfl, rfl⟩; dsimp only) | (refine step_append_lies _ rfl (.tmp 47) (.tmp 56) 96 rfl w.heap.size 3 i0 (.int .i64 0) 1 8 Tryz.underlying96 Hi.out Hz0.out Hz1.out Hz2.out rfl (by decide) _ _ _ rfl (by exact yfw hown' (by repeat (first | exact Below.refl _ _ | apply Below.drew | refine Below.alloc ?_ (by simp) _))) ⟨wr.heap.size, 0, none⟩ 1 1 [.int .i64 (yhx l[j].1 (ypg seg) : Nat)] rfl rfl (by exact ynt _ _ _ _ (by simp)) (by simp [Value.oneCell']) (by decide) (by unfold maxLen; omega) (by omega) (by have := hbel.size; simp; omega) _ rfl ?_; intro g2 cap2 w2 hown2 hgrow2 _ _))
     have HO : w2.ownsRow w.heap.size 3 1 (.slice (some ⟨g2, 0, none⟩) (lo.length + 1) cap2) (lev yhx (l.drop j)).length (ydr (lev yhx (l.drop j)).reverse) := by
      have e5 := congrArg List.length H3.out
      rw [List.length_reverse, List.length_append] at e5
      rw [e5, H3.out, ydt]; exact hown2
     have HB : Below w.heap.size w w2 := Below.grown (by repeat (first | exact hbel | apply Below.drew | refine Below.alloc ?_ (by have := hbel.size; simp; omega) _)) hgrow2 (by have := hbel.size; simp; omega) (yxx hown')
     clear hown2 hgrow2 hown'
     go_wp2_with fail
     go_roundg j
     case measure => omega
     case rel => exact ⟨by omega, by go_num, HO, HB⟩
set_option maxHeartbeats 4000000 in
theorem levels_nest (v : Value) (l : List Tm) (E : Ex) (w : World) (hl : l.length ≤ 1000) (hv : Hid (yei w v l)) (hp : Hid (yfx l = some E)) :
  Calls Tryz.prog 131 #[v, .func (.func 133) #[] #[]] w fun e w' => e = .returned (.tuple #[.int .i64 (val yns E : Nat), .bool true]) ∧ Below w.heap.size w w' := by
 obtain ⟨i0, hi, hz0, hz1, hz2⟩ := info_parts zau
 have Hi := Lib.hid hi
 have Hz0 := Lib.hid hz0
 have Hz1 := Lib.hid hz1
 have Hz2 := Lib.hid hz2
 clear hi hz0 hz1 hz2
 obtain ⟨hok, hfl⟩ := yfy hp.out
 have HF : Hid (yfd l = some [E]) := by rw [← hfl]; have := yuc E hok [] [] rfl; rw [List.append_nil] at this; exact this
 have hpos : 0 < l.length := by rw [← hfl]; exact E.fl_pos
 have HE := Lib.hid ((zah l).2 ⟨E, hp.out⟩)
 have hne : (ysi 1 0 l != (l.length : Int)) = false := by rw [HE.out]; simp
 clear hok hfl
 obtain ⟨a0, cap0, rfl, h1, h2, h3⟩ := hv.out.open
 obtain ⟨g0, o0, rfl, hg0, hc⟩ := h3 hpos
 have HC := Lib.hid hc
 clear h3 hc
 go_enter Tryz.func131, Tryz.ntmps131
 go_wp2_with (go_at_call 103; refine (zhs _ l 0 _ hl hv (by omega)).mono ?_; rintro e w' ⟨rfl, rfl⟩)
 go_loopg [6, 7, 8, 9, 11] l.length (fun m st i _ _ _ wr => m ≤ l.length ∧ i = .int .i64 ((m : Int) - 1) ∧ wr.ownsRow w.heap.size 3 1 st (lev yns (l.drop m)).length (ydr (lev yns (l.drop m)).reverse) ∧ Below w.heap.size w wr)
 case atStart =>
  refine ⟨Nat.le_refl _, rfl, ?_, Below.refl _ _⟩
  rw [List.drop_length]; exact World.ownsRow_nil _ _ _ _
 case round =>
  obtain ⟨hm, rfl, hown, hbel⟩ := hrel
  by_cases h0 : gk = 0
  ·subst h0
   rw [List.drop_zero, ywd yns l [E] HF.out] at hown
   obtain ⟨g, cap, rfl, hc1, hc2, hcell⟩ := ziv hown
   go_wp2_with fail
   go_ret2
   exact ⟨rfl, hbel⟩
  ·obtain ⟨j, rfl⟩ : ∃ j, gk = j + 1 := ⟨gk - 1, by omega⟩
   have hj : j < l.length := by omega
   obtain ⟨ha0, lo, seg, hr1, hr2, hr3⟩ := zba yns l E HF.out j hj
   have hlen : (lev yns (l.drop (j + 1))).length = lo.length + seg.length := by rw [← List.length_reverse, hr1, List.length_append]
   have hsegb : ypg seg ≤ 1000 := by
    have h1 := zst yns (by intro op g; simp only [yns]; first | omega | (split <;> omega)) (l.drop (j + 1))
    have h2 : ∀ (xs : List Nat) (b : Nat), (∀ x ∈ xs, x ≤ b) → ypg xs ≤ b := by
     intro xs b
     induction xs with
     | nil => intro _; simp [ypg]
     | cons a xs ih =>
      intro h
      have h1 := h a (List.mem_cons_self ..)
      have h2 := ih (fun x hx => h x (List.mem_cons_of_mem _ hx))
      simp only [ypg]; omega
    refine Nat.le_trans (h2 seg (l.drop (j + 1)).length fun x hx => h1 x ?_) (by rw [List.length_drop]; omega)
    rw [← List.mem_reverse, hr1]; exact List.mem_append_right _ hx
   have e1 : ((j + 1 : Nat) : Int) - 1 = j := by omega
   rw [e1]
   rw [hr1, hlen] at hown
   have H3 := Lib.hid hr3
   obtain ⟨sa, scap, rfl⟩ := ykb hown
   obtain ⟨hn1, hn2, hn3⟩ := ylq hown
   obtain ⟨sb, capb, hsl, hb1, hb2, hb3⟩ := zet yql zci sa (lo.length + seg.length) scap lo.length seg.length (((lo.length + seg.length : Nat) : Int) - ar l[j].1) (by omega) (by omega) hn1
   have hsl2 := yrh yql zci sa (lo.length + seg.length) scap lo.length (((lo.length + seg.length : Nat) : Int) - ar l[j].1) (by omega) (by omega)
   obtain ⟨c0, c1⟩ := HC.out j _ (List.getElem?_eq_getElem hj)
   rw [← hbel.cell (p := ⟨g0, _, none⟩) hg0] at c0 c1
   have HR2 := Lib.hid hr2
   have hra : ar l[j].1 ≤ ((lo.length + seg.length : Nat) : Int) := by omega
   have hlo : lo.length + seg.length ≤ 1000 := by have h1 := zqk yns (l.drop (j + 1)); rw [List.length_drop] at h1; omega
   have hnpos : (0 < seg.length → 0 < lo.length + seg.length) := by omega
   have hlo2 : lo.length ≤ scap := by omega
   have hlo3 : lo.length ≤ 1000 := by omega
   generalize hN : lo.length + seg.length = n at *
   have HN := Lib.hid hN
   clear hN
   clear hr1 hr2 hr3 hlen e1 h0
   go_wp2_with (go_at_call 130; refine (yik _ _).mono ?_; rintro e w' ⟨rfl, rfl⟩)
   go_loop [9, 11, 37] (fun gr _ q => ∃ k : Nat, k ≤ seg.length ∧ q = .int .i64 k ∧ gr = .int .i64 (ypg (seg.take k) : Nat)) (fun _ _ q => seg.length - (intOf q).toNat)
   case atStart => exact ⟨0, by omega, rfl, rfl⟩
   case round =>
    obtain ⟨k, hk, rfl, rfl⟩ := hrel
    by_cases hq : k < seg.length
    ·obtain ⟨g, rfl, hcs⟩ := hn3 (by have := HN.out; omega)
     obtain rfl := hb3 g 0 rfl (by omega)
     obtain ⟨x, hx⟩ : ∃ x, seg[k]? = some x := ⟨seg[k], List.getElem?_eq_getElem hq⟩
     have hcell := hcs (lo.length + k) _ (ymn (lo ++ seg) (lo.length + k) x (by rw [List.getElem?_append_right (by omega), Nat.add_sub_cancel_left]; exact hx))
     have HM := Lib.hid (yrv seg k x hx)
     clear hcs hx
     simp only [Nat.zero_add]
     generalize ypg (seg.take k) = mk at *
     go_wp2_with fail
     refine ⟨⟨k + 1, by omega, by go_num, ?_⟩, by simp [intOf]; omega⟩
     rw [HM.out]
     congr 1
     split <;> omega
    ·obtain rfl : k = seg.length := by omega
     rw [List.take_length]
     go_wp2_with fail
     have hown' : wr.ownsRow w.heap.size 3 1 (.slice sa lo.length scap) lo.length (ydr lo) := yzc (ygn lo) (by rw [ydt] at hown; exact hown)
     go_region_law (first | (go_simp; go_at_call 133; refine (nest1_any _ _ _ hsegb).mono ?_; rintro e w' ⟨rfl, rfl⟩; dsimp only) | (refine step_append_lies _ rfl (.tmp 47) (.tmp 56) 96 rfl w.heap.size 3 i0 (.int .i64 0) 1 8 Tryz.underlying96 Hi.out Hz0.out Hz1.out Hz2.out rfl (by decide) _ _ _ rfl (by exact yfw hown' (by repeat (first | exact Below.refl _ _ | apply Below.drew | refine Below.alloc ?_ (by simp) _))) ⟨wr.heap.size, 0, none⟩ 1 1 [.int .i64 (yns l[j].1 (ypg seg) : Nat)] rfl rfl (by exact ynt _ _ _ _ (by simp)) (by simp [Value.oneCell']) (by decide) (by unfold maxLen; omega) (by omega) (by have := hbel.size; simp; omega) _ rfl ?_; intro g2 cap2 w2 hown2 hgrow2 _ _))
     have HO : w2.ownsRow w.heap.size 3 1 (.slice (some ⟨g2, 0, none⟩) (lo.length + 1) cap2) (lev yns (l.drop j)).length (ydr (lev yns (l.drop j)).reverse) := by
      have e5 := congrArg List.length H3.out
      rw [List.length_reverse, List.length_append] at e5
      rw [e5, H3.out, ydt]; exact hown2
     have HB : Below w.heap.size w w2 := Below.grown (by repeat (first | exact hbel | apply Below.drew | refine Below.alloc ?_ (by have := hbel.size; simp; omega) _)) hgrow2 (by have := hbel.size; simp; omega) (yxx hown')
     clear hown2 hgrow2 hown'
     go_wp2_with fail
     go_roundg j
     case measure => omega
     case rel => exact ⟨by omega, by go_num, HO, HB⟩
theorem zbb (v fv : Value) (l : List Tm) (w : World) (hl : l.length ≤ 1000) (hv : Hid (yei w v l)) (hp : Hid (yfx l = none)) :
  Calls Tryz.prog 131 #[v, fv] w fun e w' => e = .returned (.tuple #[.int .i64 0, .bool false]) ∧ w = w' := by
 have hne : (ysi 1 0 l != (l.length : Int)) = true := by
  rw [bne_iff_ne]
  intro h
  obtain ⟨E, hE⟩ := (zah l).1 h
  rw [hp.out] at hE; cases hE
 obtain ⟨a0, cap0, rfl, h1, h2, h3⟩ := hv.out.open
 clear h3
 go_enter Tryz.func131, Tryz.ntmps131
 go_wp2_with (go_at_call 103; refine (zhs _ l 0 _ hl hv (by omega)).mono ?_; rintro e w' ⟨rfl, rfl⟩)
 go_ret2
 exact ⟨rfl, rfl⟩
def yxm (l : List Tm) : Nat := match yfx l with | none => 0 | some E => E.dp
def zkz (l : List Tm) : Nat := match yfx l with | none => 0 | some E => E.ns
theorem depth_any (v : Value) (l : List Tm) (w : World) (hl : l.length ≤ 1000) (hv : Hid (yei w v l)) :
  Calls Tryz.prog 105 #[v] w fun e w' => e = .returned (.int .i64 (yxm l)) ∧ Below w.heap.size w w' := by
 cases hp : yfx l with
 | none =>
  have H : Hid (yxm l = 0) := by unfold yxm; rw [hp]; rfl
  have HP := Lib.hid hp
  clear hp
  go_enter Tryz.func105, Tryz.ntmps105
  go_wp2_with (go_at_call 131; refine (zbb _ _ l _ hl hv HP).mono ?_; rintro e w' ⟨rfl, rfl⟩)
  go_ret
  exact ⟨yak (by rw [H.out]; rfl), Below.refl _ _⟩
 | some E =>
  have H : Hid (yxm l = val yhx E) := by unfold yxm; rw [hp, val_depth]; rfl
  have HP := Lib.hid hp
  clear hp
  go_enter Tryz.func105, Tryz.ntmps105
  go_wp2_with (go_at_call 131; refine (levels_depth _ l E _ hl hv HP).mono ?_; rintro e w' ⟨rfl, hb⟩)
  go_ret
  exact ⟨yak (by rw [H.out]), hb⟩
theorem nest_any (v : Value) (l : List Tm) (w : World) (hl : l.length ≤ 1000) (hv : Hid (yei w v l)) :
  Calls Tryz.prog 106 #[v] w fun e w' => e = .returned (.int .i64 (zkz l)) ∧ Below w.heap.size w w' := by
 cases hp : yfx l with
 | none =>
  have H : Hid (zkz l = 0) := by unfold zkz; rw [hp]; rfl
  have HP := Lib.hid hp
  clear hp
  go_enter Tryz.func106, Tryz.ntmps106
  go_wp2_with (go_at_call 131; refine (zbb _ _ l _ hl hv HP).mono ?_; rintro e w' ⟨rfl, rfl⟩)
  go_ret
  exact ⟨yak (by rw [H.out]; rfl), Below.refl _ _⟩
 | some E =>
  have H : Hid (zkz l = val yns E) := by unfold zkz; rw [hp, val_nest E (yfy hp).1]; rfl
  have HP := Lib.hid hp
  clear hp
  go_enter Tryz.func106, Tryz.ntmps106
  go_wp2_with (go_at_call 131; refine (levels_nest _ l E _ hl hv HP).mono ?_; rintro e w' ⟨rfl, hb⟩)
  go_ret
  exact ⟨yak (by rw [H.out]), hb⟩
end
section
open Go.RowKit
def yhc (xs : List Bool) : List Value := xs.map Value.bool
theorem boolCells_get (xs : List Bool) (i : Nat) (x : Bool) (h : xs[i]? = some x) : (yhc xs)[i]? = some (.bool x) := by unfold yhc; rw [List.getElem?_map, h]; rfl
theorem yoy (xs ys : List Bool) : yhc (xs ++ ys) = yhc xs ++ yhc ys := by simp [yhc]
theorem boolCells_length (xs : List Bool) : (yhc xs).length = xs.length := by simp [yhc]
theorem zqs {w : World} {B B' e e' s s' n n' : Nat} {v v' : Value} {xs xs' : List Value} (h : w.ownsRow B e s v n xs) (h' : w.ownsRow B' e' s' v' n' xs') (hne : e ≠ e') : v.ownBlock = none ∨ v.ownBlock ≠ v'.ownBlock := by
 rcases h.2 with ⟨rfl, _⟩ | ⟨g, cap, cur, rfl, _, hh, _⟩
 ·exact .inl rfl
 ·rcases h'.2 with ⟨rfl, _⟩ | ⟨g', cap', cur', rfl, _, hh', _⟩
  ·right; simp [Value.ownBlock]
  ·right
   intro heq
   simp only [Value.ownBlock, Option.some.injEq] at heq
   rw [heq, hh'] at hh
   simp only [Option.some.injEq, Obj.cells.injEq] at hh
   exact hne hh.2.1.symm
def zgb (S : Open) : List Nat := (S.map (·.1)).reverse
def ype (S : Open) : List Bool := (S.map (·.2)).reverse
theorem ykw (k : Nat) (b : Bool) (S : Open) : zgb ((k, b) :: S) = zgb S ++ [k] := by simp [zgb]
theorem yqz (k : Nat) (b : Bool) (S : Open) : ype ((k, b) :: S) = ype S ++ [b] := by simp [ype]
theorem yka (S : Open) : (zgb S).length = S.length := by simp [zgb]
theorem ypz (S : Open) : (ype S).length = S.length := by simp [ype]
def zrz (bs : List Bool) : Nat := (bs.filter id).length
theorem zdp (S : Open) : zrz (ype S) = cnt S := by
 unfold zrz ype cnt
 rw [List.filter_reverse, List.length_reverse, List.filter_map, List.length_map]
 rfl
theorem cntB_take_succ (bs : List Bool) (q : Nat) (x : Bool) (h : bs[q]? = some x) : zrz (bs.take (q + 1)) = zrz (bs.take q) + (if x then 1 else 0) := by
 obtain ⟨h1, h2⟩ := List.getElem?_eq_some_iff.1 h
 unfold zrz
 rw [List.take_succ_eq_append_getElem h1, List.filter_append, List.length_append, h2]
 cases x <;> simp
theorem zpp (bs : List Bool) : zrz bs ≤ bs.length := List.length_filter_le _ _
def ynh : Open → Open
 | [] => []
 | (x, b) :: S => yhw x b S
def Pos (S : Open) : Prop := ∀ e ∈ S, 1 ≤ e.1 ∧ e.1 ≤ 3
theorem closeS_stop (x : Nat) (b : Bool) (S : Open) (h : x ≠ 0) : ynh ((x, b) :: S) = (x, b) :: S := yng x b S h
theorem closeS_last (b : Bool) : ynh [(0, b)] = [] := by simp [ynh, yhw]
theorem closeS_pop (b c : Bool) (x : Nat) (S : Open) : ynh ((0, b) :: (x, c) :: S) = ynh ((x - 1, c) :: S) := by simp [ynh, yhw]
theorem closeK_Pos (S : Open) : ∀ (k : Nat) (b : Bool), k ≤ 3 → Pos S → Pos (yhw k b S) := by
 induction S with
 | nil =>
  intro k b hk _
  simp only [yhw]
  split
  ·intro e he; cases he
  ·intro e he; simp at he; subst he; exact ⟨by omega, hk⟩
 | cons x S ih =>
  obtain ⟨x, c⟩ := x
  intro k b hk hS
  simp only [yhw]
  split
  ·exact ih _ _ (by have := hS (x, c) (List.mem_cons_self ..); omega) (fun e he => hS e (List.mem_cons_of_mem _ he))
  ·intro e he
   cases he with
   | head => exact ⟨by omega, hk⟩
   | tail _ he => exact hS e he
theorem closeK_len (S : Open) : ∀ (k : Nat) (b : Bool), (yhw k b S).length ≤ S.length + 1 := by
 induction S with
 | nil => intro k b; simp only [yhw]; split <;> simp
 | cons x S ih =>
  obtain ⟨x, c⟩ := x; intro k b; simp only [yhw]; split
  ·have := ih (x - 1) c; simp; omega
  ·simp
def zgc (l : List Tm) (k : Nat) : Lev := zsb ⟨[], 0, 0⟩ (l.take k)
theorem zig (l : List Tm) (k : Nat) (h : k < l.length) : zgc l (k + 1) = ylm (zgc l k) l[k] := by
 unfold zgc
 rw [List.take_succ_eq_append_getElem h, ysu]; rfl
theorem lev0_facts (l : List Tm) (k : Nat) (h : k ≤ l.length) : (zgc l k).S.length ≤ k ∧ Pos (zgc l k).S ∧ (zgc l k).d ≤ k ∧ (zgc l k).n ≤ k := by
 induction k with
 | zero => unfold zgc; simp [zsb]; intro e he; cases he
 | succ k ih =>
  obtain ⟨h1, h2, h3, h4⟩ := ih (by omega)
  rw [zig l k (by omega)]
  have hb := zhh l[k].1
  have h5 := closeK_len (zgc l k).S (ar l[k].1).toNat (ymb l[k].1)
  have h6 := closeK_Pos (zgc l k).S (ar l[k].1).toNat (ymb l[k].1) (by omega) h2
  have h7 : cnt (((ar l[k].1).toNat, ymb l[k].1) :: (zgc l k).S) ≤ k + 1 := by
   rw [← zdp]; have := zpp (ype (((ar l[k].1).toNat, ymb l[k].1) :: (zgc l k).S)); rw [ypz] at this; simp at this; omega
  unfold ylm
  refine ⟨by show (yhw _ _ _).length ≤ _; omega, h6, by show max _ _ ≤ _; omega, by show max _ _ ≤ _; omega⟩
theorem lev0_all (l : List Tm) (E : Ex) (h : yfx l = some E) : (zgc l l.length).d = E.dp ∧ (zgc l l.length).n = E.ns := by
 obtain ⟨h1, h2⟩ := yfy h
 unfold zgc
 rw [List.take_length, ← h2, levR_fl E h1]
 simp [cnt]
theorem zqr {w : World} {B e size n : Nat} {v : Value} {xs : List Value} (h : w.ownsRow B e size v n xs) {x : Nat} (hx : x < B) : some x ≠ v.ownBlock :=
 fun h1 => by have := (h.lt x h1.symm).1; omega
theorem yoj {w wr w' : World} {g o : Nat} {u : Value} (hg : g < w.heap.size) (hb : Below w.heap.size w wr) (hc : wr.cell? ⟨g, o, none⟩ = some u) (h : Below wr.heap.size wr w') : w'.cell? ⟨g, o, none⟩ = some u :=
 (h.cell (p := ⟨g, o, none⟩) (Nat.lt_of_lt_of_le hg hb.size)).trans hc
theorem own_frozen {w : World} {B e s n cap g : Nat} {xs : List Value} (h : w.ownsRow B e s (.slice (some ⟨g, 0, none⟩) n cap) n xs) (j : Nat) : w.frozen? ⟨g, j, none⟩ = false := by
 rcases h.2 with ⟨h0, _⟩ | ⟨g', cap', cur, hv, _, hh, _⟩
 ·cases h0
 ·cases hv
  unfold World.frozen?
  simp only [hh]
  simp
theorem lefts_dec (y : Nat) (c : Bool) (T : Open) (hy : 1 ≤ y) : (ydr (zgb ((y, c) :: T))).set T.length (.int .i64 ((y : Int) - 1)) = ydr (zgb ((y - 1, c) :: T)) := by
 rw [ykw, ykw, ydt, ydt, List.set_append_right _ _ (by rw [ygn, yka]; exact Nat.le_refl _), ygn, yka, Nat.sub_self]
 simp only [ydr, List.map_singleton, List.set_cons_zero]
 rw [show ((y - 1 : Nat) : Int) = (y : Int) - 1 by omega]
theorem infoBool : (Tryz.prog.info? 4).map (fun i => (i.zero, i.size, i.bytes)) = some (some (.bool false), 1, 1) := by kernel_rfl
theorem sizeBool (w : World) : (sizeOf (Tryz.prog.elem 162)).run Tryz.prog w = .ok 1 w := by kernel_rfl
theorem underBools : Tryz.prog.underlying 162 = some (.slice (Tryz.prog.elem 162)) := by kernel_rfl
def zhe (w0 w : World) (vl vo : Value) (S : Open) : Prop :=
 w.ownsRow w0.heap.size 3 1 vl S.length (ydr (zgb S)) ∧ w.ownsRow w0.heap.size 4 1 vo S.length (yhc (ype S)) ∧ Below w0.heap.size w0 w
set_option maxHeartbeats 4000000 in
set_option maxRecDepth 100000 in
theorem zca (v : Value) (l : List Tm) (E : Ex) (w : World) (hl : l.length ≤ 1000) (hv : Hid (yei w v l)) (hp : Hid (yfx l = some E)) :
  Calls Tryz.prog 147 #[v] w fun e w' => e = .returned (.tuple #[.int .i64 E.dp, .int .i64 E.ns]) ∧ Below w.heap.size w w' := by
 obtain ⟨i0, hi, hz0, hz1, hz2⟩ := info_parts zau
 obtain ⟨j0, hj, hy0, hy1, hy2⟩ := info_parts infoBool
 have Hi := Lib.hid hi
 have Hz0 := Lib.hid hz0
 have Hz1 := Lib.hid hz1
 have Hz2 := Lib.hid hz2
 have Hj := Lib.hid hj
 have Hy0 := Lib.hid hy0
 have Hy1 := Lib.hid hy1
 have Hy2 := Lib.hid hy2
 clear hi hz0 hz1 hz2 hj hy0 hy1 hy2
 obtain ⟨hok, hfl⟩ := yfy hp.out
 have HF : Hid (yfd l = some [E]) := by rw [← hfl]; have := yuc E hok [] [] rfl; rw [List.append_nil] at this; exact this
 have hpos : 0 < l.length := by rw [← hfl]; exact E.fl_pos
 clear hok hfl
 obtain ⟨a0, cap0, rfl, h1, h2, h3⟩ := hv.out.open
 obtain ⟨g0, o0, rfl, hg0, hc⟩ := h3 hpos
 have HC := Lib.hid hc
 clear h3 hc
 go_enter Tryz.func147, Tryz.ntmps147
 go_wp2_with fail
 go_loopw [4, 5, 6, 7, 8, 9, 10] (fun d n vl vo i _ _ wr => ∃ k : Nat, k ≤ l.length ∧ i = .int .i64 k ∧ d = .int .i64 (zgc l k).d ∧ n = .int .i64 (zgc l k).n ∧ Hid (zhe w wr vl vo (zgc l k).S)) (fun _ _ _ _ i _ _ _ => l.length - (intOf i).toNat)
 case atStart => exact ⟨0, by omega, rfl, rfl, rfl, World.ownsRow_nil _ _ _ _, World.ownsRow_nil _ _ _ _, Below.refl _ _⟩
 case round =>
  obtain ⟨k, hk, rfl, rfl, rfl, hst⟩ := hrel
  obtain ⟨q1, q2, q3, q4⟩ := lev0_facts l k hk
  by_cases hlt : k < l.length
  ·obtain ⟨ha0, _⟩ := zba yhx l E HF.out k hlt
   have ha1 := (zhh l[k].1).2
   obtain ⟨c0, c1⟩ := HC.out k _ (List.getElem?_eq_getElem hlt)
   have HS := Lib.hid (zig l k hlt)
   have HQ2 := Lib.hid q2
   clear q2
   generalize hL : zgc l k = L at *
   have HL := Lib.hid hL
   clear hL
   obtain ⟨hownL, hownO, hbel⟩ := hst.out
   rw [← hbel.cell (p := ⟨g0, _, none⟩) hg0] at c0 c1
   have hbs := hbel.size
   go_wp2_with fail
   go_region_held3 (fun w' => w'.cell? ⟨g0, o0 + k * 2, none⟩ = some (.int .i64 l[k].1)) (first | exact cB | exact cA | (refine yoj hg0 hbelA cA ?_; repeat (first | exact Below.refl _ _ | apply Below.drew | refine Below.alloc ?_ (by simp) _)) | exact c0 | (refine yoj hg0 hbel c0 ?_; repeat (first | exact Below.refl _ _ | apply Below.drew | refine Below.alloc ?_ (by simp) _)))
    (first | (go_at_call 84; refine (yff _ _).mono ?_; rintro e w' ⟨rfl, rfl⟩) | (go_at_call 44; refine (yna _ _).mono ?_; rintro e w' ⟨rfl, rfl⟩) | (refine step_append_lies _ rfl (.tmp 26) (.tmp 33) 162 rfl w.heap.size 4 j0 (.bool false) 1 1 Tryz.underlying162 Hj.out Hy0.out Hy1.out Hy2.out rfl (by decide) _ _ _ rfl (by exact yfw hownO2 (by repeat (first | exact Below.refl _ _ | apply Below.drew | refine Below.alloc ?_ (by simp) _))) ⟨wA.heap.size, 0, none⟩ 1 1 [.bool (ymb l[k].1)] rfl rfl (by exact ynt _ _ _ _ (by simp)) (by simp [Value.oneCell']) (by decide) (by unfold maxLen; omega) (by omega) (by simp; omega) _ rfl ?_; intro gB capB wB hownB hgrowB _ _; have cB : wB.cell? ⟨g0, o0 + k * 2, none⟩ = some (.int .i64 l[k].1) := hgrowB.cell (yoj hg0 hbelA cA (by repeat (first | exact Below.refl _ _ | apply Below.drew | refine Below.alloc ?_ (by first | exact Nat.le_refl _ | exact hbsA | (simp; omega) | simp) _))) (zqr hownO2 hg0)) | (refine step_append_lies _ rfl (.tmp 17) (.tmp 24) 96 rfl w.heap.size 3 i0 (.int .i64 0) 1 8 Tryz.underlying96 Hi.out Hz0.out Hz1.out Hz2.out rfl (by decide) _ _ _ rfl (by exact yfw hownL (by repeat (first | exact Below.refl _ _ | apply Below.drew | refine Below.alloc ?_ (by simp) _))) ⟨wr.heap.size, 0, none⟩ 1 1 [.int .i64 (ar l[k].1)] rfl rfl (by exact ynt _ _ _ _ (by simp)) (by simp [Value.oneCell']) (by decide) (by unfold maxLen; omega) (by omega) (by simp; omega) _ rfl ?_; intro gA capA wA hownA hgrowA _ _; have hownO2 := (yfw hownO (by repeat (first | exact Below.refl _ _ | apply Below.drew | refine Below.alloc ?_ (by simp) _))).kept hgrowA (zqs hownO hownL (by decide)); have cA : wA.cell? ⟨g0, o0 + k * 2, none⟩ = some (.int .i64 l[k].1) := hgrowA.cell (yoj hg0 hbel c0 (by repeat (first | exact Below.refl _ _ | apply Below.drew | refine Below.alloc ?_ (by first | exact Nat.le_refl _ | exact hbs | (simp; omega) | simp) _))) (zqr hownL hg0); have hbelA : Below w.heap.size w wA := Below.grown (by repeat (first | exact hbel | apply Below.drew | refine Below.alloc ?_ (by first | exact Nat.le_refl _ | exact hbs | (simp; omega) | simp) _)) hgrowA (by simp; omega) (yxx hownL); have hbsA := hbelA.size))
   have harn : ((ar l[k].1).toNat : Int) = ar l[k].1 := by omega
   have HST : Hid (zhe w wB (.slice (some ⟨gA, 0, none⟩) (L.S.length + 1) capA) (.slice (some ⟨gB, 0, none⟩) (L.S.length + 1) capB) (((ar l[k].1).toNat, ymb l[k].1) :: L.S)) := by
    refine ⟨?_, ?_, Below.grown (by repeat (first | exact hbelA | apply Below.drew | refine Below.alloc ?_ (by first | exact hbsA | (simp; omega)) _)) hgrowB (by simp; omega) (yxx hownO2)⟩
    ·rw [ykw, ydt, ydr, ydr, List.map_singleton, harn]
     exact (yfw hownA (by repeat (first | exact Below.refl _ _ | apply Below.drew | refine Below.alloc ?_ (by simp) _))).kept hgrowB (zqs hownA hownO2 (by decide))
    ·rw [yqz, yoy]; exact hownB
   clear hownA hownB hgrowA hgrowB hownO2 cA cB hbelA hbsA hownL hownO harn c0 c1 hbs
   obtain ⟨S1, hS1⟩ : ∃ S1, S1 = ((ar l[k].1).toNat, ymb l[k].1) :: L.S := ⟨_, rfl⟩
   have hlen1 : L.S.length + 1 = S1.length := by rw [hS1]; rfl
   have hP1 : Hid (Pos S1.tail) := by rw [hS1]; exact HQ2
   have hclose : Hid (yhw (ar l[k].1).toNat (ymb l[k].1) L.S = ynh S1) := by rw [hS1]; rfl
   have hcnt : Hid (cnt (((ar l[k].1).toNat, ymb l[k].1) :: L.S) = zrz (ype S1)) := by rw [hS1, zdp]; rfl
   have hol : Hid ((ype S1).length = S1.length) := ypz S1
   rw [← hS1] at HST
   rw [hlen1] at HST ⊢
   have hn1 : S1.length ≤ 1000 := by omega
   have HL1 := Lib.hid hlen1
   clear hS1 hlen1
   obtain ⟨hoL, hoO, hbB⟩ := HST.out
   obtain ⟨o1, o2, o3⟩ := ylq hoO
   obtain ⟨p1, p2, p3⟩ := ylq hoL
   go_wp2_with fail
   go_loop [9, 10] (fun c q => ∃ j : Nat, j ≤ S1.length ∧ q = .int .i64 j ∧ c = .int .i64 (zrz ((ype S1).take j) : Nat)) (fun _ q => S1.length - (intOf q).toNat)
   case atStart => exact ⟨0, by omega, rfl, rfl⟩
   case round =>
    obtain ⟨j, hj, rfl, rfl⟩ := hrel
    by_cases hq : j < S1.length
    ·obtain ⟨g, hge, hcs⟩ := o3 (by omega)
     simp only [Option.some.injEq, Addr.mk.injEq] at hge
     obtain ⟨rfl, _⟩ := hge
     obtain ⟨x, hx⟩ : ∃ x, (ype S1)[j]? = some x := ⟨(ype S1)[j]'(by rw [hol.out]; exact hq), List.getElem?_eq_getElem _⟩
     have hcell := hcs j _ (boolCells_get _ j x hx)
     have HM := Lib.hid (cntB_take_succ (ype S1) j x hx)
     have hcb := zpp ((ype S1).take j)
     rw [List.length_take, hol.out] at hcb
     clear hcs hx
     generalize zrz ((ype S1).take j) = cj at *
     cases x
     all_goals
      go_wp2_with fail
      refine ⟨⟨j + 1, by omega, by go_num, ?_⟩, by simp [intOf]; omega⟩
      rw [HM.out]; simp
    ·obtain rfl : j = S1.length := by omega
     rw [List.take_of_length_le (by rw [hol.out]; exact Nat.le_refl _), ← hcnt.out]
     generalize hc1 : cnt (((ar l[k].1).toNat, ymb l[k].1) :: L.S) = c1 at *
     obtain ⟨d1, hd1⟩ : ∃ d1 : Nat, d1 = max L.d S1.length := ⟨_, rfl⟩
     obtain ⟨n1, hn1e⟩ : ∃ n1 : Nat, n1 = max L.n c1 := ⟨_, rfl⟩
     have hm1 : (if L.d < S1.length then (S1.length : Int) else (L.d : Int)) = (d1 : Int) := by rw [hd1]; split <;> omega
     have hm2 : (if L.n < c1 then (c1 : Int) else (L.n : Int)) = (n1 : Int) := by rw [hn1e]; split <;> omega
     have HN : Hid (ylm L l[k] = ⟨ynh S1, d1, n1⟩) := by
      unfold ylm; rw [hc1, hclose.out, hd1, hn1e, ← HL1.out]; rfl
     clear hd1 hn1e hc1 hcnt hclose
     go_wp2_with fail
     clear hm1 hm2 o3 p3 hoL hoO
     go_loopg [6, 7] S1.length (fun m vl vo wy => ∃ S : Open, Hid (S.length = m) ∧ m ≤ S1.length ∧ Hid (ynh S1 = ynh S) ∧ Hid (zhe w wy vl vo S) ∧ Hid (Pos S.tail))
     case atStart => exact ⟨S1, rfl, Nat.le_refl _, rfl, HST, hP1⟩
     case round =>
      obtain ⟨S, hSl, hSm, hSc, hSt, hSp⟩ := hrel
      obtain ⟨wy, rfl⟩ : ∃ wy : World, wy = wr := ⟨_, rfl⟩
      obtain ⟨hoL, hoO, hbY⟩ := hSt.out
      rcases S with _ | ⟨⟨x, b⟩, T⟩
      ·obtain ⟨la, lcap, rfl⟩ := ykb (n := 0) hoL
       obtain ⟨oa, ocap, rfl⟩ := ykb (n := 0) hoO
       go_wp2_with fail
       exact ⟨⟨k + 1, by omega, by go_num, by rw [HS.out, HN.out], by rw [HS.out, HN.out], by rw [HS.out, HN.out]; show zhe w _ _ _ (ynh S1); rw [hSc.out, show ynh [] = [] from rfl]; exact hSt⟩, by simp [intOf]; omega⟩
      ·obtain ⟨la, lcap, rfl⟩ := ykb (n := T.length + 1) hoL
       obtain ⟨oa, ocap, rfl⟩ := ykb (n := T.length + 1) hoO
       have hTl : T.length + 1 ≤ 1000 := by have := hSl.out; simp only [List.length_cons] at this; omega
       obtain ⟨o1', o2', o3⟩ := ylq (n := T.length + 1) hoO
       obtain ⟨p1', p2', p3⟩ := ylq (n := T.length + 1) hoL
       obtain ⟨g, rfl, hcs⟩ := p3 (by omega)
       have hcx := hcs T.length _ (ymn _ T.length x (by rw [ykw, ← yka T, List.getElem?_append_right (Nat.le_refl _), Nat.sub_self]; rfl))
       have eT : (((T.length + 1 : Nat) : Int) - 1) = (T.length : Int) := by omega
       by_cases hx : x = 0
       ·subst hx
        have hsl1 := yrh yql zci (some ⟨g, 0, none⟩) (T.length + 1) lcap T.length (((T.length + 1 : Nat) : Int) - 1) (by omega) (by omega)
        have hsl2 := yrh underBools sizeBool oa (T.length + 1) ocap T.length (((T.length + 1 : Nat) : Int) - 1) (by omega) (by omega)
        have hsl1' : ∀ w, (Instr.slice 96 (.slice (some ⟨g, 0, none⟩) (T.length + 1) lcap) none (some (.int .i64 (T.length : Int))) none).run Tryz.prog w = .ok (.slice (some ⟨g, 0, none⟩) T.length lcap) w := by intro w; have := hsl1 w; rw [eT] at this; exact this
        have hsl2' : ∀ w, (Instr.slice 162 (.slice oa (T.length + 1) ocap) none (some (.int .i64 (T.length : Int))) none).run Tryz.prog w = .ok (.slice oa T.length ocap) w := by intro w; have := hsl2 w; rw [eT] at this; exact this
        have HoL : wy.ownsRow w.heap.size 3 1 (.slice (some ⟨g, 0, none⟩) T.length lcap) T.length (ydr (zgb T)) := yzc (by rw [ygn, yka]) (by rw [ykw, ydt] at hoL; exact hoL)
        have HoO : wy.ownsRow w.heap.size 4 1 (.slice oa T.length ocap) T.length (yhc (ype T)) := yzc (by rw [boolCells_length, ypz]) (by rw [yqz, yoy] at hoO; exact hoO)
        have hx0 : ((0 : Int) == 0) = true := by simp
        have hT : (T.length = 0 ∧ Hid (T = [])) ∨ ∃ y c T', Hid (T = (y, c) :: T') ∧ 0 < T.length ∧ 1 ≤ y ∧ y ≤ 3 ∧ wy.cell? ⟨g, T.length - 1, none⟩ = some (.int .i64 (y : Nat)) := by
         rcases T with _ | ⟨⟨y, c⟩, T'⟩
         ·exact .inl ⟨rfl, rfl⟩
         ·have hy := hSp.out (y, c) (List.mem_cons_self ..)
          refine .inr ⟨y, c, T', rfl, by simp, hy.1, hy.2, ?_⟩
          obtain ⟨_, _, q3⟩ := ylq HoL
          obtain ⟨g', hg', hq⟩ := q3 (by simp)
          cases hg'
          exact hq _ _ (ymn _ _ y (by rw [ykw, List.length_cons, Nat.add_sub_cancel, ← yka T', List.getElem?_append_right (Nat.le_refl _), Nat.sub_self]; rfl))
        have hfz := own_frozen HoL (T.length - 1)
        have hSl2 : Hid (T.length + 1 = gk) := hSl.out
        have hSp2 : Hid (Pos T) := hSp.out
        clear hsl1 hsl2 hcs p3 o3 hoL hoO
        generalize htn : T.length = tn at *
        have HTN := Lib.hid htn
        clear htn
        rcases hT with ⟨ht0, hTe⟩ | ⟨y, c, T', hTe, ht0, hy1, hy2, hcy⟩
        ·have HT0 := Lib.hid ht0
         have ht1 : tn < 1 := by omega
         clear ht0
         go_wp2_with fail
         go_quiet (fail)
         go_wp2_with fail
         go_roundg tn
         case measure => have := hSl2.out; omega
         case rel =>
          refine ⟨T, HTN, by have := hSl2.out; omega, ?_, ⟨?_, ?_, below_drewN hbY _⟩, ?_⟩
          ·rw [hSc.out, hTe.out]; exact closeS_last b
          ·rw [HTN.out]; exact yfw HoL (zrw (Below.refl _ _) _)
          ·rw [HTN.out]; exact yfw HoO (zrw (Below.refl _ _) _)
          ·rw [hTe.out]; intro e he; cases he
        ·have i1 : (1 : Int) ≤ (tn : Int) := by omega
         go_wp2_with fail
         go_quiet (fail)
         go_wp2_with fail
         have hs := HoL.stored (tn - 1) (.int .i64 ((y : Int) - 1))
         have hk := HoO.kept hs.2 (zqs HoO HoL (by decide))
         have hTl' : T'.length = tn - 1 := by have h1 := HTN.out; rw [hTe.out, List.length_cons] at h1; omega
         go_roundg tn
         case measure => have := hSl2.out; omega
         case rel =>
          refine ⟨(y - 1, c) :: T', by show T'.length + 1 = tn; omega, by have := hSl2.out; omega, ?_, ⟨?_, ?_, below_drewN (hbY.setCell (yxx HoL g rfl) _) _⟩, ?_⟩
          ·rw [hSc.out, hTe.out]; exact closeS_pop b c y T'
          ·show World.ownsRow _ _ _ _ _ (T'.length + 1) _
           rw [show T'.length + 1 = tn by omega, ← lefts_dec y c T' hy1, hTl', ← hTe.out]
           exact yfw hs.1 (zrw (Below.refl _ _) _)
          ·show World.ownsRow _ _ _ _ _ (T'.length + 1) _
           rw [show T'.length + 1 = tn by omega, yqz, ← yqz y c T', ← hTe.out]
           exact yfw hk (zrw (Below.refl _ _) _)
          ·intro e he; exact hSp2.out e (by rw [hTe.out]; exact List.mem_cons_of_mem _ he)
       ·have hxb : ((x : Int) == 0) = false := by simp; omega
        go_wp2_with fail
        exact ⟨⟨k + 1, by omega, by go_num, by rw [HS.out, HN.out], by rw [HS.out, HN.out], by rw [HS.out, HN.out]; show zhe w _ _ _ (ynh S1); rw [hSc.out, closeS_stop x b T hx]; exact hSt⟩, by simp [intOf]; omega⟩
  ·obtain rfl : k = l.length := by omega
   have HA := Lib.hid (lev0_all l E hp.out)
   go_wp2_with fail
   go_ret2
   exact ⟨by rw [HA.out.1, HA.out.2]; rfl, hst.out.2.2⟩
end
section
open Go.RowKit
def zor (l : List Tm) : Bool := (yfx l).isSome
theorem zva (l : List Tm) (E : Ex) (h : yfx l = some E) : (ysi 1 0 l != (l.length : Int)) = false ∧ (ysi 1 0 l == (l.length : Int)) = true := by
 rw [(zah l).2 ⟨E, h⟩]; simp
theorem zuz (l : List Tm) (h : yfx l = none) : (ysi 1 0 l != (l.length : Int)) = true ∧ (ysi 1 0 l == (l.length : Int)) = false := by
 have : ysi 1 0 l ≠ (l.length : Int) := fun hq => by
  obtain ⟨E, hE⟩ := (zah l).1 hq
  rw [h] at hE; cases hE
 simp [this]
theorem ywe (v : Value) (l : List Tm) (w : World) (hl : l.length ≤ 1000) (hv : Hid (yei w v l)) :
  Calls Tryz.prog 119 #[v] w fun e w' => e = .returned (.bool (zor l)) ∧ w = w' := by
 obtain ⟨a0, cap0, rfl, h1, h2, h3⟩ := hv.out.open
 clear h3
 cases hp : yfx l with
 | none =>
  have H : Hid (zor l = false) := by unfold zor; rw [hp]; rfl
  obtain ⟨_, he⟩ := zuz l hp
  clear hp
  by_cases h0 : 0 < l.length
  all_goals
   go_enter Tryz.func119, Tryz.ntmps119
   go_wp2_with (go_at_call 83; refine (yqe _ l 0 _ hl hv (by omega)).mono ?_; rintro e w' ⟨rfl, rfl⟩)
   go_ret
   exact ⟨yae H.out.symm, rfl⟩
 | some E =>
  have H : Hid (zor l = true) := by unfold zor; rw [hp]; rfl
  have h0 : 0 < l.length := by rw [← (yfy hp).2]; exact E.fl_pos
  obtain ⟨_, he⟩ := zva l E hp
  clear hp
  go_enter Tryz.func119, Tryz.ntmps119
  go_wp2_with (go_at_call 83; refine (yqe _ l 0 _ hl hv (by omega)).mono ?_; rintro e w' ⟨rfl, rfl⟩)
  go_ret
  exact ⟨yae H.out.symm, rfl⟩
theorem ywl (v : Value) (l : List Tm) (E : Ex) (w : World) (hl : l.length ≤ 1000) (hv : Hid (yei w v l)) (hp : Hid (yfx l = some E)) :
  Calls Tryz.prog 120 #[v] w fun e w' => e = .returned (.int .i64 E.dp) ∧ Below w.heap.size w w' := by
 have H : zor l = true := by unfold zor; rw [hp.out]; rfl
 go_enter Tryz.func120, Tryz.ntmps120
 go_wp2_with (first | (go_at_call 119; refine (ywe _ l _ hl hv).mono ?_; rintro e w' ⟨rfl, rfl⟩) | (go_at_call 147; refine (zca _ l E _ hl hv hp).mono ?_; rintro e w' ⟨rfl, hb⟩))
 go_ret
 exact ⟨rfl, hb⟩
theorem zje (v : Value) (l : List Tm) (E : Ex) (w : World) (hl : l.length ≤ 1000) (hv : Hid (yei w v l)) (hp : Hid (yfx l = some E)) :
  Calls Tryz.prog 121 #[v] w fun e w' => e = .returned (.int .i64 E.ns) ∧ Below w.heap.size w w' := by
 have H : zor l = true := by unfold zor; rw [hp.out]; rfl
 go_enter Tryz.func121, Tryz.ntmps121
 go_wp2_with (first | (go_at_call 119; refine (ywe _ l _ hl hv).mono ?_; rintro e w' ⟨rfl, rfl⟩) | (go_at_call 147; refine (zca _ l E _ hl hv hp).mono ?_; rintro e w' ⟨rfl, hb⟩))
 go_ret
 exact ⟨rfl, hb⟩
theorem zex {l : List Tm} (vars : Int) (h : yfx l = none) : yco l vars = false := by unfold yco; rw [h]
theorem ywz {l : List Tm} (vars : Int) (h : 200 < l.length) : yco l vars = false := by
 unfold yco
 cases yfx l with
 | none => rfl
 | some E => simp; omega
theorem zkb {l : List Tm} (vars : Int) (k : Nat) (hk : k < l.length) (h : yhl vars l[k] = false) : yco l vars = false := by
 unfold yco
 cases yfx l with
 | none => rfl
 | some E =>
  have : l.all (yhl vars) = false := by rw [List.all_eq_false]; exact ⟨l[k], List.getElem_mem hk, by simp [h]⟩
  simp only [this, Bool.false_and, Bool.and_false]
theorem zey {l : List Tm} (vars : Int) (E : Ex) (hp : yfx l = some E) (h : l.length ≤ 200) (ha : (l.take l.length).all (yhl vars) = true) : yco l vars = (decide (E.dp ≤ 24) && decide (E.ns ≤ 2)) := by
 rw [List.take_length] at ha
 unfold yco; rw [hp]; simp [ha, h]
theorem zew {l : List Tm} (vars : Int) (E : Ex) (hp : yfx l = some E) (h : 24 < E.dp ∨ 2 < E.ns) : yco l vars = false := by
 unfold yco; rw [hp]
 rcases h with h | h <;> simp <;> omega
theorem zhi (l : List Tm) (vars : Int) (k : Nat) (h : k < l.length) (ha : (l.take k).all (yhl vars) = true) (hw : yhl vars l[k] = true) : (l.take (k + 1)).all (yhl vars) = true := by
 rw [List.take_succ_eq_append_getElem h, List.all_append, ha]; simp [hw]
set_option maxHeartbeats 2000000 in
theorem ykg (v : Value) (l : List Tm) (vars : Int) (w : World) (hl : l.length ≤ 1000) (hv : Hid (yei w v l)) :
  Calls Tryz.prog 74 #[v, .int .i64 vars] w fun e w' => e = .returned (.bool (yco l vars)) ∧ Below w.heap.size w w' := by
 obtain ⟨a0, cap0, rfl, h1, h2, h3⟩ := hv.out.open
 have HC := Lib.hid h3
 clear h3
 by_cases h200 : 200 < l.length
 ·have H := Lib.hid (ywz vars h200)
  go_enter Tryz.func74, Tryz.ntmps74
  go_wp2_with fail
  go_ret
  exact ⟨yae H.out.symm, Below.refl _ _⟩
 cases hp : yfx l with
 | none =>
  have H := Lib.hid (zex vars hp)
  obtain ⟨he, _⟩ := zuz l hp
  clear hp
  go_enter Tryz.func74, Tryz.ntmps74
  go_wp2_with (go_at_call 103; refine (zhs _ l 0 _ hl hv (by omega)).mono ?_; rintro e w' ⟨rfl, rfl⟩)
  go_ret
  exact ⟨yae H.out.symm, Below.refl _ _⟩
 | some E =>
  have HP := Lib.hid hp
  obtain ⟨he, _⟩ := zva l E hp
  clear hp
  go_enter Tryz.func74, Tryz.ntmps74
  go_wp2_with (go_at_call 103; refine (zhs _ l 0 _ hl hv (by omega)).mono ?_; rintro e w' ⟨rfl, rfl⟩)
  go_loopw [6, 19] (fun _ i wr => ∃ k : Nat, k ≤ l.length ∧ i = .int .i64 k ∧ Hid ((l.take k).all (yhl vars) = true) ∧ Below w.heap.size w wr) (fun _ i _ => l.length - (intOf i).toNat)
  case atStart => exact ⟨0, by omega, rfl, rfl, Below.refl _ _⟩
  case round =>
   obtain ⟨k, hk, rfl, ha, hbel⟩ := hrel
   by_cases hlt : k < l.length
   ·obtain ⟨g, o, rfl, hg, hc⟩ := HC.out (by omega)
    obtain ⟨c0, c1⟩ := hc k _ (List.getElem?_eq_getElem hlt)
    rw [← hbel.cell (p := ⟨g, _, none⟩) hg] at c0 c1
    clear hc
    have hbs := hbel.size
    rcases Bool.eq_false_or_eq_true (yhl vars l[k]) with hw | hw
    ·have H := Lib.hid (zhi l vars k hlt ha.out hw)
     go_wp2_with (go_at_call 104; refine (yxi l[k] vars _).mono ?_; rintro e w1 ⟨rfl, hb1⟩)
     exact ⟨⟨k + 1, by omega, by go_num, H, (hbel.alloc hbs _).trans (hb1.mono (by simp; omega))⟩, by simp [intOf]; omega⟩
    ·have H := Lib.hid (zkb vars k hlt hw)
     go_wp2_with (go_at_call 104; refine (yxi l[k] vars _).mono ?_; rintro e w1 ⟨rfl, hb1⟩)
     go_ret
     exact ⟨yae H.out.symm, (hbel.alloc hbs _).trans (hb1.mono (by simp; omega))⟩
   ·obtain rfl : k = l.length := by omega
    have H := Lib.hid (zey vars E HP.out (by omega) ha.out)
    have HD : Hid (yxm l = E.dp) := by unfold yxm; rw [HP.out]; rfl
    have HN : Hid (zkz l = E.ns) := by unfold zkz; rw [HP.out]; rfl
    by_cases hd : yxm l ≤ 24
    all_goals
     go_wp2_with (first | (go_at_call 105; refine (depth_any _ l _ hl (hv.out.below hbel)).mono ?_; rintro e w1 ⟨rfl, hb1⟩) | (go_at_call 106; refine (nest_any _ l _ hl (hv.out.below (yfm hbel hb1))).mono ?_; rintro e w2 ⟨rfl, hb2⟩))
     go_ret
    ·refine ⟨yae ?_, yfm (yfm hbel hb1) hb2⟩
     rw [H.out, ← HD.out, ← HN.out]; simp [hd]; omega
    ·refine ⟨yae ?_, yfm hbel hb1⟩
     rw [H.out, ← HD.out]; simp; omega
set_option maxHeartbeats 2000000 in
theorem yre (v : Value) (l : List Tm) (vars : Int) (w : World) (hl : l.length ≤ 1000) (hv : Hid (yei w v l)) :
  Calls Tryz.prog 99 #[v, .int .i64 vars] w fun e w' => e = .returned (.bool (yco l vars)) ∧ Below w.heap.size w w' := by
 obtain ⟨a0, cap0, rfl, h1, h2, h3⟩ := hv.out.open
 have HC := Lib.hid h3
 clear h3
 by_cases h200 : 200 < l.length
 ·have H := Lib.hid (ywz vars h200)
  go_enter Tryz.func99, Tryz.ntmps99
  go_wp2_with fail
  go_ret
  exact ⟨yae H.out.symm, Below.refl _ _⟩
 cases hp : yfx l with
 | none =>
  have H := Lib.hid (zex vars hp)
  have h1 : zor l = false := by unfold zor; rw [hp]; rfl
  clear hp
  go_enter Tryz.func99, Tryz.ntmps99
  go_wp2_with (go_at_call 119; refine (ywe _ l _ hl hv).mono ?_; rintro e w' ⟨rfl, rfl⟩)
  go_ret
  exact ⟨yae H.out.symm, Below.refl _ _⟩
 | some E =>
  have HP := Lib.hid hp
  have h1 : zor l = true := by unfold zor; rw [hp]; rfl
  clear hp
  by_cases hd : 24 < E.dp
  ·have H := Lib.hid (zew vars E HP.out (.inl hd))
   go_enter Tryz.func99, Tryz.ntmps99
   go_wp2_with (first | (go_at_call 119; refine (ywe _ l _ hl hv).mono ?_; rintro e w' ⟨rfl, rfl⟩) | (go_at_call 120; refine (ywl _ l E _ hl hv HP).mono ?_; rintro e w1 ⟨rfl, hb1⟩))
   go_ret
   exact ⟨yae H.out.symm, hb1⟩
  by_cases hn : 2 < E.ns
  ·have H := Lib.hid (zew vars E HP.out (.inr hn))
   go_enter Tryz.func99, Tryz.ntmps99
   go_wp2_with (first | (go_at_call 119; refine (ywe _ l _ hl hv).mono ?_; rintro e w' ⟨rfl, rfl⟩) | (go_at_call 120; refine (ywl _ l E _ hl hv HP).mono ?_; rintro e w1 ⟨rfl, hb1⟩) | (go_at_call 121; refine (zje _ l E _ hl (hv.out.below hb1) HP).mono ?_; rintro e w2 ⟨rfl, hb2⟩))
   go_ret
   exact ⟨yae H.out.symm, yfm hb1 hb2⟩
  have b1 : decide (24 < E.dp) = false := by simp; omega
  have b2 : decide (2 < E.ns) = false := by simp; omega
  have b3 : decide (24 < (E.dp : Int)) = false := by simp; omega
  have b4 : decide (2 < (E.ns : Int)) = false := by simp; omega
  have b5 : decide (200 < (l.length : Int)) = false := by simp; omega
  go_enter Tryz.func99, Tryz.ntmps99
  go_wp2_with (first | (go_at_call 119; refine (ywe _ l _ hl hv).mono ?_; rintro e w' ⟨rfl, rfl⟩) | (go_at_call 120; refine (ywl _ l E _ hl hv HP).mono ?_; rintro e w1 ⟨rfl, hb1⟩) | (go_at_call 121; refine (zje _ l E _ hl (hv.out.below hb1) HP).mono ?_; rintro e w2 ⟨rfl, hb2⟩))
  have hb := yfm hb1 hb2
  go_loopw [5] (fun i wr => ∃ k : Nat, k ≤ l.length ∧ i = .int .i64 k ∧ Hid ((l.take k).all (yhl vars) = true) ∧ Below w.heap.size w wr) (fun i _ => l.length - (intOf i).toNat)
  case atStart => exact ⟨0, by omega, rfl, rfl, hb⟩
  case round =>
   obtain ⟨k, hk, rfl, ha, hbel⟩ := hrel
   by_cases hlt : k < l.length
   ·obtain ⟨g, o, rfl, hg, hc⟩ := HC.out (by omega)
    obtain ⟨c0, c1⟩ := hc k _ (List.getElem?_eq_getElem hlt)
    rw [← hbel.cell (p := ⟨g, _, none⟩) hg] at c0 c1
    clear hc
    have hbs := hbel.size
    rcases Bool.eq_false_or_eq_true (yhl vars l[k]) with hw | hw
    ·have H := Lib.hid (zhi l vars k hlt ha.out hw)
     go_wp2_with (go_at_call 122; refine (yur l[k] vars _).mono ?_; rintro e w3 ⟨rfl, hb3⟩)
     exact ⟨⟨k + 1, by omega, by go_num, H, yfm hbel hb3⟩, by simp [intOf]; omega⟩
    ·have H := Lib.hid (zkb vars k hlt hw)
     go_wp2_with (go_at_call 122; refine (yur l[k] vars _).mono ?_; rintro e w3 ⟨rfl, hb3⟩)
     go_ret
     exact ⟨yae H.out.symm, yfm hbel hb3⟩
   ·obtain rfl : k = l.length := by omega
    have H := Lib.hid (zey vars E HP.out (by omega) ha.out)
    go_wp2_with fail
    go_ret
    refine ⟨yae ?_, hbel⟩
    rw [H.out]; simp; omega
end
set_option linter.unusedVariables false
set_option maxHeartbeats 4000000
section
open Go.RowKit
def yws (s : ByteArray) : AV := match yfr s with
 | .ok ts => .tup [.sl 4 (ts.map yce), i64 0, i64 0]
 | .error (p, e) => .tup [.sl 4 [], i64 p, i64 e]
theorem own_rel {ok : Nat → Prop} {w : World} {lv : Live} {B : Nat} {v : Value} {ts : List Tok} (h : w.ownsRow B 39 4 v ts.length (yeq ts)) (hok : ∀ g, B ≤ g → g < w.heap.size → ok g) : Rel ok w lv (.sl 4 (ts.map yce)) v := by
 have ht := toks_of_own h
 rcases h.2 with ⟨rfl, h0⟩ | ⟨g, cap, cur, rfl, hB, hh, hn, hc, _⟩
 ·obtain rfl : ts = [] := List.eq_nil_of_length_eq_zero h0
  exact .sl none 0 (fun _ _ => undef) 0 0 (by simp) (by simp) (fun _ => rfl) (fun row hr => by cases hr) (fun h => absurd rfl h) (fun i j row c hi => by simp at hi) (fun i j row c hi => by simp at hi)
 ·obtain ⟨a, cap', hv, h1, h2, h3⟩ := ht
  simp only [Value.slice.injEq] at hv
  obtain ⟨rfl, _, rfl⟩ := hv
  have hg : g < w.heap.size := (Array.getElem?_eq_some_iff.1 hh).1
  have hcells : ∀ i t, ts[i]? = some t → w.cell? ⟨g, 0 + i * 4, none⟩ = some (.int .i64 t.kind) ∧ w.cell? ⟨g, 0 + i * 4 + 1, none⟩ = some (.int .i64 t.from_) ∧ w.cell? ⟨g, 0 + i * 4 + 2, none⟩ = some (.int .i64 t.to) ∧ w.cell? ⟨g, 0 + i * 4 + 3, none⟩ = some (.int .i64 t.num) := by
   intro i t hi
   rcases h3 with rfl | ⟨g', o', ha, _, hcl⟩
   ·simp at hi
   ·simp only [Option.some.injEq, Addr.mk.injEq] at ha
    obtain ⟨rfl, rfl, _⟩ := ha
    exact hcl i t hi
  have hrow : ∀ (i : Nat) (row : List AV), (ts.map yce)[i]? = some row → ∃ t, ts[i]? = some t ∧ row = yce t := fun i row hi => by
   rw [List.getElem?_map] at hi
   cases hq : ts[i]? with
   | none => rw [hq] at hi; cases hi
   | some t => rw [hq] at hi; simp only [Option.map_some, Option.some.injEq] at hi; exact ⟨t, rfl, hi.symm⟩
  have hlen : (ts.map yce).length = ts.length := by simp
  rw [← hlen]
  refine .sl (some ⟨g, 0, none⟩) cap (fun i j => match ts[i]? with | some t => (match j with | 0 => .int .i64 t.kind | 1 => .int .i64 t.from_ | 2 => .int .i64 t.to | _ => .int .i64 t.num) | none => undef) g 0 (by rw [hlen]; exact hn) hc (fun h => by cases h) (fun row hr => ?_) (fun _ => ⟨rfl, hok g hB hg⟩) (fun i j row c hi hj => ?_) (fun i j row c hi hj => ?_)
  ·obtain ⟨t, _, rfl⟩ := List.mem_map.1 hr; rfl
  ·obtain ⟨t, hti, rfl⟩ := hrow i row hi
   obtain ⟨c0, c1, c2, c3⟩ := hcells i t hti
   simp only [hti]
   match j, hj with
   | 0, hj => simp only [yce, List.getElem?_cons_zero, Option.some.injEq] at hj; subst hj; exact ⟨by simpa using c0, rfl⟩
   | 1, hj => simp only [yce, List.getElem?_cons_succ, List.getElem?_cons_zero, Option.some.injEq] at hj; subst hj; exact ⟨c1, rfl⟩
   | 2, hj => simp only [yce, List.getElem?_cons_succ, List.getElem?_cons_zero, Option.some.injEq] at hj; subst hj; exact ⟨c2, rfl⟩
   | 3, hj => simp only [yce, List.getElem?_cons_succ, List.getElem?_cons_zero, Option.some.injEq] at hj; subst hj; exact ⟨c3, rfl⟩
   | j + 4, hj => simp [yce] at hj
  ·obtain ⟨t, hti, rfl⟩ := hrow i row hi
   simp only [hti]
   match j, hj with
   | 0, hj => simp only [yce, List.getElem?_cons_zero, Option.some.injEq] at hj; subst hj; exact .v _
   | 1, hj => simp only [yce, List.getElem?_cons_succ, List.getElem?_cons_zero, Option.some.injEq] at hj; subst hj; exact .v _
   | 2, hj => simp only [yce, List.getElem?_cons_succ, List.getElem?_cons_zero, Option.some.injEq] at hj; subst hj; exact .v _
   | 3, hj => simp only [yce, List.getElem?_cons_succ, List.getElem?_cons_zero, Option.some.injEq] at hj; subst hj; exact .v _
   | j + 4, hj => simp [yce] at hj
theorem zof {ok : Nat → Prop} {w : World} {lv : Live} {x : AV} {u : Value} {a b : Int} (h : Rel ok w lv x u) : Rel ok w lv (.tup [x, i64 a, i64 b]) (.tuple #[u, .int .i64 a, .int .i64 b]) := by
 refine .tup [u, .int .i64 a, .int .i64 b] rfl fun i c v hc hv => ?_
 match i with
 | 0 => simp only [List.getElem?_cons_zero, Option.some.injEq] at hc hv; subst hc hv; exact h
 | 1 => simp only [List.getElem?_cons_succ, List.getElem?_cons_zero, Option.some.injEq] at hc hv; subst hc hv; exact .v _
 | 2 => simp only [List.getElem?_cons_succ, List.getElem?_cons_zero, Option.some.injEq] at hc hv; subst hc hv; exact .v _
 | i + 3 => simp at hc
theorem scan_pure (s : ByteArray) : ybc (yws s) = true := by unfold yws; split <;> rfl
theorem zjm (f : FuncId) (hb : ypi Tryz.prog f) (h : ∀ (s : ByteArray) (w : World), s.size ≤ 9223372036854775807 → Calls Tryz.prog f #[.string s] w (zkk s w)) (s : ByteArray) (hs : s.size ≤ 9223372036854775807) : Con Tryz.prog f [ycj s] (yws s) := by
 refine ⟨hb, scan_pure s, fun ok0 w us hG hok hr => ?_⟩
 obtain ⟨u, rfl, h1⟩ := ynb hr
 cases h1
 refine (h s w hs).mono ?_
 rintro e w' ⟨hb, ⟨ts, v, h1, h2, rfl, h4⟩ | ⟨p, x, h1, _, _, _, rfl⟩⟩
 ·refine ⟨_, rfl, ?_, hb⟩
  rw [yws, h1]
  exact zof (own_rel h4 fun g g1 g2 => ⟨.inr g1, g2⟩)
 ·refine ⟨_, rfl, ?_, hb⟩
  rw [yws, h1]
  refine zof ?_
  exact .sl none 0 (fun _ _ => undef) 0 0 (by simp) (by simp) (fun _ => rfl) (fun row hr => by cases hr) (fun h => absurd rfl h) (fun i j row c hi => by simp at hi) (fun i j row c hi => by simp at hi)
theorem znr (s : ByteArray) (hs : s.size ≤ 9223372036854775807) : Con Tryz.prog 23 [ycj s] (yws s) := zjm _ ⟨_, Tryz.func23, rfl, rfl⟩ scan_any s hs
theorem zjg (s : ByteArray) (hs : s.size ≤ 9223372036854775807) : Con Tryz.prog 14 [ycj s] (yws s) := zjm _ ⟨_, Tryz.func14, rfl, rfl⟩ rscan_any s hs
theorem xvalid_con (l : List Tm) (vars : Int) (hl : l.length ≤ 1000000) : Con Tryz.prog 74 [ybk l, i64 vars] (ygx (yco l vars)) := by
 by_cases h : 200 < l.length
 ·rw [ywz vars h]
  refine ycs Tryz.func74 rfl rfl Tryz.ntmps74 Tryz.results74 rfl rfl ?_
  (try refine zy ?_)
  refine ybu 10 rfl (fun h2 => ?_) (fun h2 => ?_)
  ·(try refine zy ?_)
   refine yal ?_; refine ⟨_, rfl, ?_⟩
   exact Frz.pure
  ·simp at h2
   omega
 exact yee ⟨_, Tryz.func74, rfl, rfl⟩ fun w us ok hok hr => by
  obtain ⟨u, v, rfl, h1, h2⟩ := zgj hr
  cases h2
  exact ykg u l vars w (by omega) (Lib.hid (ymr h1 hok))
end
section
open Go.RowKit
def yst (k : Int) : Bool := decide (k = 1) || (decide (k = 2) || decide (k = 3))
theorem yeh (k : Int) (w : World) : Calls Tryz.prog 94 #[.int .i64 k] w fun e w' => e = .returned (.bool (yst k)) ∧ w = w' := by
 go_enter Tryz.func94, Tryz.ntmps94
 go_wp2
 all_goals go_ret
 all_goals refine ⟨yae ?_, rfl⟩
 all_goals (rw [Bool.eq_iff_iff]; simp [yst]; try omega)
theorem ynr (k : Int) (w : World) : Calls Tryz.prog 98 #[.int .i64 k] w fun e w' => e = .returned (.bool (yst k)) ∧ w = w' := by
 go_enter Tryz.func98, Tryz.ntmps98
 go_wp2
 all_goals go_ret
 all_goals refine ⟨yae ?_, rfl⟩
 all_goals (rw [Bool.eq_iff_iff]; simp [yst]; try omega)
theorem ifTrue_any (c : Bool) (k : Int) (w : World) : Calls Tryz.prog 156 #[.bool c, .int .i64 k] w fun e w' => e = .returned (.int .i64 (if c = true then k else 0)) ∧ w = w' := by
 cases c
 all_goals
  go_enter Tryz.func156, Tryz.ntmps156
  go_wp2
  go_ret
  exact ⟨yak (by simp), rfl⟩
def zjd (op a b c : Int) : Int := if ar op = 1 then ty1 op a else if ar op = 2 then ty2 op a b else ty3 a b c
set_option maxHeartbeats 4000000 in
theorem ywn (op a b c : Int) (w : World) (h1 : 18 ≤ op) (h2 : op ≤ 43) :
  Calls Tryz.prog 146 #[.int .i64 op, .agg #[.int .i64 a, .int .i64 b, .int .i64 c]] w fun e w' => e = .returned (.int .i64 (zjd op a b c)) ∧ Below w.heap.size w w' := by
 have hop : op = 18 ∨ op = 19 ∨ op = 20 ∨ op = 21 ∨ op = 22 ∨ op = 23 ∨ op = 24 ∨ op = 25 ∨ op = 26 ∨ op = 27 ∨ op = 28 ∨ op = 29 ∨ op = 30 ∨ op = 31 ∨ op = 32 ∨ op = 33 ∨ op = 34 ∨ op = 35 ∨ op = 36 ∨ op = 37 ∨ op = 38 ∨ op = 39 ∨ op = 40 ∨ op = 41 ∨ op = 42 ∨ op = 43 := by omega
 rcases hop with rfl | rfl | rfl | rfl | rfl | rfl | rfl | rfl | rfl | rfl | rfl | rfl | rfl | rfl | rfl | rfl | rfl | rfl | rfl | rfl | rfl | rfl | rfl | rfl | rfl | rfl
 all_goals
  clear h1 h2
  go_enter Tryz.func146, Tryz.ntmps146
  go_wp2_with fail
  go_quiet (fail)
  go_wp2_with (go_at_call 156; refine (ifTrue_any _ _ _).mono ?_; rintro e w' ⟨rfl, rfl⟩)
  all_goals go_ret
  all_goals refine ⟨yak ?_, below_drewN ((Below.refl _ _).alloc (Nat.le_refl _) _) _⟩
  all_goals try simp only [beq_iff_eq, beq_eq_false_iff_ne, bne_iff_ne, bne_eq_false_iff_eq, ne_eq] at *
  all_goals (simp [zjd, ar, ty1, ty2, ty3, *]; try omega)
theorem yvx (kinds : List Int) (i : Nat) (h : i < kinds.length) : kinds[i]? = some (kinds.getD i 0) := by
 rw [List.getD_eq_getElem?_getD, List.getElem?_eq_getElem h]; rfl
set_option maxHeartbeats 4000000 in
theorem leaf_any (ev kv : Value) (kinds : List Int) (op x : Int) (w : World) (hk : Hid (yti .i64 w kv kinds)) (h1 : 1 ≤ op) (h2 : op ≤ 17) (hx : op = 5 ∨ op = 12 → 0 ≤ x ∧ x < kinds.length) :
  Calls Tryz.prog 145 #[.agg #[ev, kv], .agg #[.int .i64 op, .int .i64 x]] w fun e w' => e = .returned (.int .i64 (ymj kinds (op, x))) ∧ Below w.heap.size w w' := by
 obtain ⟨a, cap, rfl, i1, i2, i3, i4⟩ := hk.out.open
 have HC := Lib.hid i4
 have HX := Lib.hid hx
 clear i4 hx i3
 have hop : op = 1 ∨ op = 2 ∨ op = 3 ∨ op = 4 ∨ op = 5 ∨ op = 6 ∨ op = 7 ∨ op = 8 ∨ op = 9 ∨ op = 10 ∨ op = 11 ∨ op = 12 ∨ op = 13 ∨ op = 14 ∨ op = 15 ∨ op = 16 ∨ op = 17 := by omega
 rcases hop with rfl | rfl | rfl | rfl | rfl | rfl | rfl | rfl | rfl | rfl | rfl | rfl | rfl | rfl | rfl | rfl | rfl
 all_goals clear h1 h2
 case inr.inr.inr.inr.inl =>
  obtain ⟨x0, x1⟩ := HX.out (by omega)
  obtain ⟨x, rfl⟩ := Int.eq_ofNat_of_zero_le x0
  obtain ⟨g, o, rfl, hg, hc⟩ := HC.out (by omega)
  have c0 := hc x _ (yvx kinds x (by omega))
  have hxl : x < kinds.length := by omega
  have HL := Lib.hid (show ymj kinds (5, (x : Int)) = kinds.getD x 0 by simp [ymj])
  clear hc x0 x1
  generalize kinds.getD x 0 = kx at *
  go_enter Tryz.func145, Tryz.ntmps145
  go_wp2_with fail
  go_ret
  refine ⟨yak HL.out.symm, ?_⟩
  repeat (first | exact Below.refl _ _ | refine Below.alloc ?_ (by simp) _)
 case inr.inr.inr.inr.inr.inr.inr.inr.inr.inr.inr.inl =>
  obtain ⟨x0, x1⟩ := HX.out (by omega)
  obtain ⟨x, rfl⟩ := Int.eq_ofNat_of_zero_le x0
  obtain ⟨g, o, rfl, hg, hc⟩ := HC.out (by omega)
  have c0 := hc x _ (yvx kinds x (by omega))
  have hxl : x < kinds.length := by omega
  have HL := Lib.hid (show ymj kinds (12, (x : Int)) = kinds.getD x 0 by simp [ymj])
  clear hc x0 x1
  generalize kinds.getD x 0 = kx at *
  go_enter Tryz.func145, Tryz.ntmps145
  go_wp2_with fail
  go_ret
  refine ⟨yak HL.out.symm, ?_⟩
  repeat (first | exact Below.refl _ _ | refine Below.alloc ?_ (by simp) _)
 all_goals
  go_enter Tryz.func145, Tryz.ntmps145
  go_wp2_with fail
  go_ret
  refine ⟨yak (by simp [ymj]), ?_⟩
  repeat (first | exact Below.refl _ _ | refine Below.alloc ?_ (by simp) _)
set_option maxHeartbeats 4000000 in
theorem rsingle_any (op a : Int) (w : World) (h1 : 18 ≤ op) (h2 : op ≤ 29) :
  Calls Tryz.prog 124 #[.int .i64 op, .int .i64 a] w fun e w' => e = .returned (.int .i64 (ty1 op a)) ∧ w = w' := by
 have hop : op = 18 ∨ op = 19 ∨ op = 20 ∨ op = 21 ∨ op = 22 ∨ op = 23 ∨ op = 24 ∨ op = 25 ∨ op = 26 ∨ op = 27 ∨ op = 28 ∨ op = 29 := by omega
 rcases hop with rfl | rfl | rfl | rfl | rfl | rfl | rfl | rfl | rfl | rfl | rfl | rfl
 all_goals
  clear h1 h2
  go_enter Tryz.func124, Tryz.ntmps124
  go_wp2
  all_goals go_ret
  all_goals refine ⟨yak ?_, rfl⟩
  all_goals try simp only [bne_iff_ne, bne_eq_false_iff_eq, ne_eq] at *
  all_goals (simp [ty1, *]; try omega)
set_option maxHeartbeats 4000000 in
theorem rdouble_any (op a b : Int) (w : World) (h1 : 30 ≤ op) (h2 : op ≤ 42) :
  Calls Tryz.prog 125 #[.int .i64 op, .int .i64 a, .int .i64 b] w fun e w' => e = .returned (.int .i64 (ty2 op a b)) ∧ w = w' := by
 have hop : op = 30 ∨ op = 31 ∨ op = 32 ∨ op = 33 ∨ op = 34 ∨ op = 35 ∨ op = 36 ∨ op = 37 ∨ op = 38 ∨ op = 39 ∨ op = 40 ∨ op = 41 ∨ op = 42 := by omega
 rcases hop with rfl | rfl | rfl | rfl | rfl | rfl | rfl | rfl | rfl | rfl | rfl | rfl | rfl
 all_goals
  clear h1 h2
  go_enter Tryz.func125, Tryz.ntmps125
  go_wp2
  all_goals go_ret
  all_goals refine ⟨yak ?_, rfl⟩
  all_goals try simp only [beq_iff_eq, beq_eq_false_iff_ne, bne_iff_ne, bne_eq_false_iff_eq, ne_eq] at *
  all_goals (simp [ty2, *]; try omega)
set_option maxHeartbeats 4000000 in
theorem rleaf_any (kv : Value) (kinds : List Int) (op x : Int) (bound : Bool) (w : World) (hk : Hid (yti .i64 w kv kinds)) (h1 : 1 ≤ op) (h2 : op ≤ 17) (hx : op = 5 ∨ op = 12 → 0 ≤ x ∧ x < kinds.length) :
  Calls Tryz.prog 123 #[.agg #[.int .i64 op, .int .i64 x], kv, .bool bound] w fun e w' => e = .returned (.int .i64 (if zoq op && !bound then 0 else ymj kinds (op, x))) ∧ Below w.heap.size w w' := by
 obtain ⟨a, cap, rfl, i1, i2, i3, i4⟩ := hk.out.open
 have HC := Lib.hid i4
 have HX := Lib.hid hx
 clear i4 hx i3
 have hop : op = 1 ∨ op = 2 ∨ op = 3 ∨ op = 4 ∨ op = 5 ∨ op = 6 ∨ op = 7 ∨ op = 8 ∨ op = 9 ∨ op = 10 ∨ op = 11 ∨ op = 12 ∨ op = 13 ∨ op = 14 ∨ op = 15 ∨ op = 16 ∨ op = 17 := by omega
 rcases hop with rfl | rfl | rfl | rfl | rfl | rfl | rfl | rfl | rfl | rfl | rfl | rfl | rfl | rfl | rfl | rfl | rfl
 all_goals clear h1 h2
 case inr.inr.inr.inr.inl =>
  obtain ⟨x0, x1⟩ := HX.out (by omega)
  obtain ⟨x, rfl⟩ := Int.eq_ofNat_of_zero_le x0
  obtain ⟨g, o, rfl, hg, hc⟩ := HC.out (by omega)
  have c0 := hc x _ (yvx kinds x (by omega))
  have hxl : x < kinds.length := by omega
  have HL := Lib.hid (show ymj kinds (5, (x : Int)) = kinds.getD x 0 by simp [ymj])
  clear hc x0 x1
  generalize kinds.getD x 0 = kx at *
  cases bound
  all_goals
   go_enter Tryz.func123, Tryz.ntmps123
   go_wp2_with fail
   go_ret
   refine ⟨yak (by simp [HL.out]), ?_⟩
   repeat (first | exact Below.refl _ _ | refine Below.alloc ?_ (by simp) _)
 case inr.inr.inr.inr.inr.inr.inr.inr.inr.inr.inr.inl =>
  obtain ⟨x0, x1⟩ := HX.out (by omega)
  obtain ⟨x, rfl⟩ := Int.eq_ofNat_of_zero_le x0
  obtain ⟨g, o, rfl, hg, hc⟩ := HC.out (by omega)
  have c0 := hc x _ (yvx kinds x (by omega))
  have hxl : x < kinds.length := by omega
  have HL := Lib.hid (show ymj kinds (12, (x : Int)) = kinds.getD x 0 by simp [ymj])
  clear hc x0 x1
  generalize kinds.getD x 0 = kx at *
  cases bound
  all_goals
   go_enter Tryz.func123, Tryz.ntmps123
   go_wp2_with fail
   go_ret
   refine ⟨yak (by simp [HL.out]), ?_⟩
   repeat (first | exact Below.refl _ _ | refine Below.alloc ?_ (by simp) _)
 all_goals
  cases bound
  all_goals
   go_enter Tryz.func123, Tryz.ntmps123
   go_wp2_with fail
   go_ret
   refine ⟨yak (by simp [ymj]), ?_⟩
   repeat (first | exact Below.refl _ _ | refine Below.alloc ?_ (by simp) _)
end
section
open Go.RowKit
theorem zpi {op : Int} (h : ar op = 0) : 1 ≤ op ∧ op ≤ 17 := by
 unfold ar at h; (repeat' split at h) <;> omega
theorem zsj {op : Int} (h : ar op = 1) : 18 ≤ op ∧ op ≤ 29 := by
 unfold ar at h; (repeat' split at h) <;> omega
theorem zsk {op : Int} (h : ar op = 2) : 30 ≤ op ∧ op ≤ 42 := by
 unfold ar at h; (repeat' split at h) <;> omega
theorem ar_three {op : Int} (h : ar op = 3) : op = 43 := by
 unfold ar at h; (repeat' split at h) <;> omega
theorem zlw {kinds : List Int} {t : Tm} (h : yhl kinds.length t = true) : t.1 = 5 ∨ t.1 = 12 → 0 ≤ t.2 ∧ t.2 < kinds.length := by
 intro h5
 unfold yhl at h
 rw [if_neg (by omega), if_pos h5] at h
 simpa using h
theorem yjp {l : List Tm} {p : Nat} {t : Tm} {r : List Tm} (h : l.drop p = t :: r) : p < l.length ∧ l[p]? = some t ∧ l.drop (p + 1) = r := by
 have h1 : p < l.length := by
  rcases Nat.lt_or_ge p l.length with h1 | h1
  ·exact h1
  ·rw [List.drop_eq_nil_of_le h1] at h; cases h
 rw [List.drop_eq_getElem_cons h1] at h
 simp only [List.cons.injEq] at h
 exact ⟨h1, by rw [List.getElem?_eq_getElem h1, h.1], h.2⟩
def ReadRet (kinds : List Int) (bound : Bool) (E : Ex) (p : Nat) (w : World) (e : Ending) (w' : World) : Prop :=
 e = .returned (.tuple #[.int .i64 (ty kinds bound E), .int .i64 ((p + E.fl.length : Nat) : Int)]) ∧ Below w.heap.size w w'
def ylf (ev kv : Value) (l : List Tm) (kinds : List Int) (E : Ex) : Prop :=
 ∀ (p : Nat) (r : List Tm) (bound : Bool) (w : World), l.drop p = E.fl ++ r → yei w ev l → yti .i64 w kv kinds →
  Calls Tryz.prog 117 #[.agg #[ev, kv], .int .i64 p, .bool bound] w (ReadRet kinds bound E p w)
set_option maxHeartbeats 1000000 in
theorem read_leaf (ev kv : Value) (l : List Tm) (kinds : List Int) (t : Tm) (hl : l.length ≤ 1000) (h0 : ar t.1 = 0) (ha : Hid (yhl kinds.length t = true)) : ylf ev kv l kinds (.lf t) := by
 intro p r bound w hd ht hk
 obtain ⟨a0, cap0, rfl, h1, h2, h3⟩ := ht.open
 obtain ⟨hp, hpt, _⟩ := yjp hd
 obtain ⟨g, o, rfl, hg, hc⟩ := h3 (by omega)
 obtain ⟨c0, c1⟩ := hc p t hpt
 obtain ⟨h11, h17⟩ := zpi h0
 have HT := Lib.hid ht
 have HK := Lib.hid hk
 have HR : Hid (ty kinds bound (.lf t) = if zoq t.1 && !bound then 0 else ymj kinds t) := rfl
 have hz : (ar t.1 == 0) = true := by rw [h0]; rfl
 have hlen : Hid ((Ex.lf t).fl.length = 1) := rfl
 clear hc h3 hpt hd ht hk h0
 obtain ⟨op, x⟩ := t
 simp only at *
 rcases Bool.eq_false_or_eq_true (zoq op) with hn | hn <;> cases bound
 all_goals
  go_enter Tryz.func117, Tryz.ntmps117
  go_wp2_with (first | (go_at_call 130; refine (yik _ _).mono ?_; rintro e w' ⟨rfl, rfl⟩) | (go_at_call 144; refine (near_any _ _).mono ?_; rintro e w' ⟨rfl, rfl⟩) | (go_at_call 145; refine (leaf_any _ _ kinds op x _ (by exact yti.below HK.out (by repeat (first | exact Below.refl _ _ | refine Below.alloc ?_ (by simp) _))) h11 h17 (zlw ha.out)).mono ?_; rintro e w1 ⟨rfl, hb1⟩))
  go_ret2
  refine ⟨by rw [HR.out, hlen.out]; simp [hn], ?_⟩
  first | exact Below.trans (by repeat (first | exact Below.refl _ _ | refine Below.alloc ?_ (by simp) _)) (hb1.mono (by simp; omega)) | (repeat (first | exact Below.refl _ _ | refine Below.alloc ?_ (by simp) _))
set_option maxHeartbeats 2000000 in
theorem read_un (ev kv : Value) (l : List Tm) (kinds : List Int) (t : Tm) (A : Ex) (hl : l.length ≤ 1000) (h0 : ar t.1 = 1) (ihA : ylf ev kv l kinds A) : ylf ev kv l kinds (.un t A) := by
 intro p r bound w hd ht hk
 obtain ⟨a0, cap0, rfl, h1, h2, h3⟩ := ht.open
 simp only [Ex.fl, List.cons_append] at hd
 obtain ⟨hp, hpt, hd1⟩ := yjp hd
 obtain ⟨g, o, rfl, hg, hc⟩ := h3 (by omega)
 obtain ⟨c0, c1⟩ := hc p t hpt
 obtain ⟨h18, h29⟩ := zsj h0
 have HT := Lib.hid ht
 have HK := Lib.hid hk
 have HD1 := Lib.hid hd1
 have HIA := Lib.hid ihA
 have HR : Hid (ty kinds bound (.un t A) = zjd t.1 (ty kinds (bound || ymb t.1) A) 0 0) := by unfold zjd; rw [if_pos h0]; rfl
 have hz : (ar t.1 == 0) = false := by rw [h0]; rfl
 have hlen := Lib.hid (show (Ex.un t A).fl.length = 1 + A.fl.length by simp [Ex.fl]; omega)
 have hpl : p + 1 ≤ 1000 := by omega
 clear hc h3 hpt hd ht hk hd1 ihA
 obtain ⟨op, x⟩ := t
 simp only at *
 rcases Bool.eq_false_or_eq_true (ymb op) with hn | hn <;> cases bound
 all_goals
  simp only [hn, Bool.or_true, Bool.or_false] at HR
  go_enter Tryz.func117, Tryz.ntmps117
  go_wp2_with (first | (go_at_call 130; refine (yik _ _).mono ?_; rintro e w' ⟨rfl, rfl⟩) | (go_at_call 134; refine (yig _ _).mono ?_; rintro e w' ⟨rfl, rfl⟩))
  refine wp_loop_rounds 2 ?_
  rw [rounds_succ]
  go_wp2_with fail
  rw [show ((p : Int) + 1) = ((p + 1 : Nat) : Int) by omega]
  refine (HIA.out (p + 1) r _ _ HD1.out (by exact yei.below HT.out (by repeat (first | exact Below.refl _ _ | refine Below.alloc ?_ (by first | (simp; done) | (simp; omega)) _))) (by exact yti.below HK.out (by repeat (first | exact Below.refl _ _ | refine Below.alloc ?_ (by first | (simp; done) | (simp; omega)) _)))).mono ?_
  rintro e w1 ⟨rfl, hb1⟩
  obtain ⟨hcl, hfz⟩ := zkm hb1
  have hsz := hb1.size
  simp at hsz
  generalize ty kinds _ A = ta at *
  go_wp2_with fail
  rw [rounds_succ]
  go_wp2_with (first | (go_at_call 146; refine (ywn _ _ _ _ _ (by omega) (by omega)).mono ?_; rintro e w2 ⟨rfl, hb2⟩))
  have B1 : Below w.heap.size w w1 := Below.trans (by repeat (first | exact Below.refl _ _ | refine Below.alloc ?_ (by first | (simp; done) | (simp; omega)) _)) (hb1.mono (by simp; omega))
  have B2 := B1.size
  go_ret2
  refine ⟨by rw [HR.out, hlen.out]; simp; omega, Below.trans (B1.setCell ?_ _) (hb2.mono ?_)⟩
  ·simp; omega
  ·simp; omega
set_option maxHeartbeats 4000000 in
theorem read_bi (ev kv : Value) (l : List Tm) (kinds : List Int) (t : Tm) (A B : Ex) (hl : l.length ≤ 1000) (h0 : ar t.1 = 2) (ihA : ylf ev kv l kinds A) (ihB : ylf ev kv l kinds B) : ylf ev kv l kinds (.bi t A B) := by
 intro p r bound w hd ht hk
 obtain ⟨a0, cap0, rfl, h1, h2, h3⟩ := ht.open
 simp only [Ex.fl, List.cons_append, List.append_assoc] at hd
 obtain ⟨hp, hpt, hd1⟩ := yjp hd
 obtain ⟨g, o, rfl, hg, hc⟩ := h3 (by omega)
 obtain ⟨c0, c1⟩ := hc p t hpt
 have h18 : 18 ≤ t.1 ∧ t.1 ≤ 43 := by have := zsk h0; omega
 have h18a := h18.1
 have h18b := h18.2
 have HT := Lib.hid ht
 have HK := Lib.hid hk
 have HDA := Lib.hid hd1
 have hdB : l.drop (p + 1 + A.fl.length) = B.fl ++ r := by rw [← List.drop_drop, hd1, List.drop_append_of_le_length (Nat.le_refl _), List.drop_length, List.nil_append]
 have HDB := Lib.hid hdB
 have HIA := Lib.hid ihA
 have HIB := Lib.hid ihB
 have HR : Hid (ty kinds bound (.bi t A B) = zjd t.1 (ty kinds bound A) (ty kinds bound B) 0) := by unfold zjd; rw [if_neg (by omega), if_pos h0]; rfl
 have hz : (ar t.1 == 0) = false := by rw [h0]; rfl
 have hn : ymb t.1 = false := yxg (by omega)
 have hlen := Lib.hid (show (Ex.bi t A B).fl.length = 1 + A.fl.length + B.fl.length by simp [Ex.fl]; omega)
 have hll : Hid (l.length - p = 1 + A.fl.length + B.fl.length + r.length) := by
  have := congrArg List.length hd
  rw [List.length_drop] at this
  simp at this
  unfold Hid; omega
 clear hc h3 hpt hd ht hk hd1 ihA ihB hdB h18
 obtain ⟨op, x⟩ := t
 simp only at *
 cases bound
 all_goals
  go_enter Tryz.func117, Tryz.ntmps117
  go_wp2_with (first | (go_at_call 130; refine (yik _ _).mono ?_; rintro e w' ⟨rfl, rfl⟩) | (go_at_call 134; refine (yig _ _).mono ?_; rintro e w' ⟨rfl, rfl⟩))
  refine wp_loop_rounds 3 ?_
  rw [rounds_succ]
  go_wp2_with fail
  rw [show ((p : Int) + 1) = ((p + 1 : Nat) : Int) by omega]
  refine (HIA.out (p + 1) _ _ _ HDA.out (by exact yei.below HT.out (by repeat (first | exact Below.refl _ _ | refine Below.alloc ?_ (by first | (simp; done) | (simp; omega)) _))) (by exact yti.below HK.out (by repeat (first | exact Below.refl _ _ | refine Below.alloc ?_ (by first | (simp; done) | (simp; omega)) _)))).mono ?_
  rintro e w1 ⟨rfl, hb1⟩
  obtain ⟨hcl1, hfz1⟩ := zkm hb1
  have hsz1 := hb1.size
  simp at hsz1
  have B1 : Below w.heap.size w w1 := Below.trans (by repeat (first | exact Below.refl _ _ | refine Below.alloc ?_ (by first | (simp; done) | (simp; omega)) _)) (hb1.mono (by simp; omega))
  have B1s := B1.size
  have z1a : w.heap.size < w1.heap.size := by omega
  have z1b : w.heap.size + 1 < w1.heap.size := by omega
  have z1c : w.heap.size + 1 + 1 < w1.heap.size := by omega
  generalize ty kinds _ A = ta at *
  generalize hq1 : p + 1 + A.fl.length = q1 at *
  have HQ1 := Lib.hid hq1
  clear hq1
  have hqb2 : q1 ≤ 1000 := by have e1 := HQ1.out; have e2 := hll.out; omega
  go_wp2_with fail
  rw [rounds_succ]
  go_wp2_with fail
  refine (HIB.out q1 _ _ _ HDB.out (by exact yei.below HT.out (B1.setCell (by first | (simp; done) | (simp; omega)) _)) (by exact yti.below HK.out (B1.setCell (by first | (simp; done) | (simp; omega)) _))).mono ?_
  rintro e w2 ⟨rfl, hb2⟩
  obtain ⟨hcl2, hfz2⟩ := zkm hb2
  have hsz2 := hb2.size
  simp at hsz2
  have B2 : Below w.heap.size w w2 := Below.trans (B1.setCell (by first | (simp; done) | (simp; omega)) _) (hb2.mono (by simp; omega))
  have B2s := B2.size
  have z2a : w.heap.size < w2.heap.size := by omega
  have z2b : w.heap.size + 1 < w2.heap.size := by omega
  have z2c : w.heap.size + 1 + 1 < w2.heap.size := by omega
  generalize ty kinds _ B = tb at *
  generalize hq2 : q1 + B.fl.length = q2 at *
  have HQ2 := Lib.hid hq2
  clear hq2
  have hqe : q2 ≤ 1000 := by have e1 := HQ1.out; have e2 := hll.out; have e3 := HQ2.out; omega
  go_wp2_with fail
  rw [rounds_succ]
  go_wp2_with (first | (go_at_call 146; refine (ywn _ _ _ _ _ (by omega) (by omega)).mono ?_; rintro e wz ⟨rfl, hbz⟩))
  go_ret2
  refine ⟨?_, Below.trans (B2.setCell ?_ _) (hbz.mono ?_)⟩
  ·rw [HR.out, hlen.out, show p + (1 + A.fl.length + B.fl.length) = q2 by have e1 := HQ1.out; have e3 := HQ2.out; omega]; rfl
  ·first | (simp; done) | (simp; omega)
  ·simp; omega
set_option maxHeartbeats 4000000 in
theorem read_tr (ev kv : Value) (l : List Tm) (kinds : List Int) (t : Tm) (A B C : Ex) (hl : l.length ≤ 1000) (h0 : ar t.1 = 3) (ihA : ylf ev kv l kinds A) (ihB : ylf ev kv l kinds B) (ihC : ylf ev kv l kinds C) : ylf ev kv l kinds (.tr t A B C) := by
 intro p r bound w hd ht hk
 obtain ⟨a0, cap0, rfl, h1, h2, h3⟩ := ht.open
 simp only [Ex.fl, List.cons_append, List.append_assoc] at hd
 obtain ⟨hp, hpt, hd1⟩ := yjp hd
 obtain ⟨g, o, rfl, hg, hc⟩ := h3 (by omega)
 obtain ⟨c0, c1⟩ := hc p t hpt
 have h18 : 18 ≤ t.1 ∧ t.1 ≤ 43 := by have := ar_three h0; omega
 have h18a := h18.1
 have h18b := h18.2
 have HT := Lib.hid ht
 have HK := Lib.hid hk
 have HDA := Lib.hid hd1
 have hdB : l.drop (p + 1 + A.fl.length) = B.fl ++ (C.fl ++ r) := by rw [← List.drop_drop, hd1, List.drop_append_of_le_length (Nat.le_refl _), List.drop_length, List.nil_append]
 have HDB := Lib.hid hdB
 have hdC : l.drop (p + 1 + A.fl.length + B.fl.length) = C.fl ++ r := by rw [← List.drop_drop, hdB, List.drop_append_of_le_length (Nat.le_refl _), List.drop_length, List.nil_append]
 have HDC := Lib.hid hdC
 have HIA := Lib.hid ihA
 have HIB := Lib.hid ihB
 have HIC := Lib.hid ihC
 have HR : Hid (ty kinds bound (.tr t A B C) = zjd t.1 (ty kinds bound A) (ty kinds bound B) (ty kinds bound C)) := by unfold zjd; rw [if_neg (by omega), if_neg (by omega)]; rfl
 have hz : (ar t.1 == 0) = false := by rw [h0]; rfl
 have hn : ymb t.1 = false := yxg (by omega)
 have hlen := Lib.hid (show (Ex.tr t A B C).fl.length = 1 + A.fl.length + B.fl.length + C.fl.length by simp [Ex.fl]; omega)
 have hll : Hid (l.length - p = 1 + A.fl.length + B.fl.length + C.fl.length + r.length) := by
  have := congrArg List.length hd
  rw [List.length_drop] at this
  simp at this
  unfold Hid; omega
 clear hc h3 hpt hd ht hk hd1 ihA ihB ihC hdB hdC h18
 obtain ⟨op, x⟩ := t
 simp only at *
 cases bound
 all_goals
  go_enter Tryz.func117, Tryz.ntmps117
  go_wp2_with (first | (go_at_call 130; refine (yik _ _).mono ?_; rintro e w' ⟨rfl, rfl⟩) | (go_at_call 134; refine (yig _ _).mono ?_; rintro e w' ⟨rfl, rfl⟩))
  refine wp_loop_rounds 4 ?_
  rw [rounds_succ]
  go_wp2_with fail
  rw [show ((p : Int) + 1) = ((p + 1 : Nat) : Int) by omega]
  refine (HIA.out (p + 1) _ _ _ HDA.out (by exact yei.below HT.out (by repeat (first | exact Below.refl _ _ | refine Below.alloc ?_ (by first | (simp; done) | (simp; omega)) _))) (by exact yti.below HK.out (by repeat (first | exact Below.refl _ _ | refine Below.alloc ?_ (by first | (simp; done) | (simp; omega)) _)))).mono ?_
  rintro e w1 ⟨rfl, hb1⟩
  obtain ⟨hcl1, hfz1⟩ := zkm hb1
  have hsz1 := hb1.size
  simp at hsz1
  have B1 : Below w.heap.size w w1 := Below.trans (by repeat (first | exact Below.refl _ _ | refine Below.alloc ?_ (by first | (simp; done) | (simp; omega)) _)) (hb1.mono (by simp; omega))
  have B1s := B1.size
  have z1a : w.heap.size < w1.heap.size := by omega
  have z1b : w.heap.size + 1 < w1.heap.size := by omega
  have z1c : w.heap.size + 1 + 1 < w1.heap.size := by omega
  generalize ty kinds _ A = ta at *
  generalize hq1 : p + 1 + A.fl.length = q1 at *
  have HQ1 := Lib.hid hq1
  clear hq1
  have hqb2 : q1 ≤ 1000 := by have e1 := HQ1.out; have e2 := hll.out; omega
  go_wp2_with fail
  rw [rounds_succ]
  go_wp2_with fail
  refine (HIB.out q1 _ _ _ HDB.out (by exact yei.below HT.out (B1.setCell (by first | (simp; done) | (simp; omega)) _)) (by exact yti.below HK.out (B1.setCell (by first | (simp; done) | (simp; omega)) _))).mono ?_
  rintro e w2 ⟨rfl, hb2⟩
  obtain ⟨hcl2, hfz2⟩ := zkm hb2
  have hsz2 := hb2.size
  simp at hsz2
  have B2 : Below w.heap.size w w2 := Below.trans (B1.setCell (by first | (simp; done) | (simp; omega)) _) (hb2.mono (by simp; omega))
  have B2s := B2.size
  have z2a : w.heap.size < w2.heap.size := by omega
  have z2b : w.heap.size + 1 < w2.heap.size := by omega
  have z2c : w.heap.size + 1 + 1 < w2.heap.size := by omega
  generalize ty kinds _ B = tb at *
  generalize hq2 : q1 + B.fl.length = q2 at *
  have HQ2 := Lib.hid hq2
  clear hq2
  have hqb3 : q2 ≤ 1000 := by have e1 := HQ1.out; have e2 := hll.out; have e3 := HQ2.out; omega
  go_wp2_with fail
  rw [rounds_succ]
  go_wp2_with fail
  refine (HIC.out q2 _ _ _ HDC.out (by exact yei.below HT.out (B2.setCell (by first | (simp; done) | (simp; omega)) _)) (by exact yti.below HK.out (B2.setCell (by first | (simp; done) | (simp; omega)) _))).mono ?_
  rintro e w3 ⟨rfl, hb3⟩
  obtain ⟨hcl3, hfz3⟩ := zkm hb3
  have hsz3 := hb3.size
  simp at hsz3
  have B3 : Below w.heap.size w w3 := Below.trans (B2.setCell (by first | (simp; done) | (simp; omega)) _) (hb3.mono (by simp; omega))
  have B3s := B3.size
  have z3a : w.heap.size < w3.heap.size := by omega
  have z3b : w.heap.size + 1 < w3.heap.size := by omega
  have z3c : w.heap.size + 1 + 1 < w3.heap.size := by omega
  generalize ty kinds _ C = tc at *
  generalize hq3 : q2 + C.fl.length = q3 at *
  have HQ3 := Lib.hid hq3
  clear hq3
  have hqe : q3 ≤ 1000 := by have e1 := HQ1.out; have e2 := hll.out; have e3 := HQ2.out; have e4 := HQ3.out; omega
  go_wp2_with fail
  rw [rounds_succ]
  go_wp2_with (first | (go_at_call 146; refine (ywn _ _ _ _ _ (by omega) (by omega)).mono ?_; rintro e wz ⟨rfl, hbz⟩))
  go_ret2
  refine ⟨?_, Below.trans (B3.setCell ?_ _) (hbz.mono ?_)⟩
  ·rw [HR.out, hlen.out, show p + (1 + A.fl.length + B.fl.length + C.fl.length) = q3 by have e1 := HQ1.out; have e3 := HQ2.out; have e4 := HQ3.out; omega]; rfl
  ·first | (simp; done) | (simp; omega)
  ·simp; omega
theorem read_any (ev kv : Value) (l : List Tm) (kinds : List Int) (hl : l.length ≤ 1000) (E : Ex) : E.ok → (∀ t ∈ E.fl, yhl kinds.length t = true) → ylf ev kv l kinds E := by
 induction E with
 | lf t => intro h ha; exact read_leaf ev kv l kinds t hl h (ha t (by simp [Ex.fl]))
 | un t a iha => intro h ha; exact read_un ev kv l kinds t a hl h.1 (iha h.2 fun t ht => ha t (by simp [Ex.fl, ht]))
 | bi t a b iha ihb => intro h ha; exact read_bi ev kv l kinds t a b hl h.1 (iha h.2.1 fun t ht => ha t (by simp [Ex.fl, ht])) (ihb h.2.2 fun t ht => ha t (by simp [Ex.fl, ht]))
 | tr t a b c iha ihb ihc => intro h ha; exact read_tr ev kv l kinds t a b c hl h.1 (iha h.2.1 fun t ht => ha t (by simp [Ex.fl, ht])) (ihb h.2.2.1 fun t ht => ha t (by simp [Ex.fl, ht])) (ihc h.2.2.2 fun t ht => ha t (by simp [Ex.fl, ht]))
end
section
open Go.RowKit
theorem zht {l : List Tm} {q : Nat} {X : Ex} {r : List Tm} (h : l.drop q = X.fl ++ r) (ho : X.ok) : ysi 1 q l = ((q + X.fl.length : Nat) : Int) := by
 unfold ysi
 rw [h, zkt X ho 0 r, ypp]
 simp
theorem ypo {l : List Tm} {q : Nat} {X : Ex} {r : List Tm} (h : l.drop q = X.fl ++ r) : l.drop (q + X.fl.length) = r := by
 rw [← List.drop_drop, h, List.drop_append_of_le_length (Nat.le_refl _), List.drop_length, List.nil_append]
set_option maxHeartbeats 2000000 in
theorem zjf (v : Value) (l : List Tm) (p : Nat) (E A : Ex) (t : Tm) (r r1 : List Tm) (w : World) (hl : l.length ≤ 1000) (hv : Hid (yei w v l)) (hE : Hid (l.drop p = E.fl ++ r)) (ho : Hid E.ok) (hA : Hid (l.drop p = t :: (A.fl ++ r1))) (hoA : Hid A.ok) (har : 2 ≤ ar t.1) :
  Calls Tryz.prog 45 #[v, .int .i64 p, .int .i64 1] w fun e w' => e = .returned (.int .i64 ((p + 1 + A.fl.length : Nat) : Int)) ∧ w = w' := by
 obtain ⟨hp, hpt, hd1⟩ := yjp hA.out
 obtain ⟨a0, cap0, rfl, h1, h2, h3⟩ := hv.out.open
 obtain ⟨g, o, rfl, hg, hc⟩ := h3 (by omega)
 obtain ⟨c0, c1⟩ := hc p t hpt
 have HE1 := Lib.hid (zht hE.out ho.out)
 have HE2 := Lib.hid (zht hd1 hoA.out)
 have hb := zhh t.1
 have hb2 := hb.2
 clear hc h3 hpt hd1 hb
 go_enter Tryz.func45, Tryz.ntmps45
 go_wp2_with fail
 refine (yqe _ l p _ hl hv (by omega)).mono ?_
 rintro e w' ⟨rfl, rfl⟩
 rw [HE1.out]
 go_wp2_with (go_at_call 84; refine (yff _ _).mono ?_; rintro e w' ⟨rfl, rfl⟩)
 refine wp_loop_rounds 2 ?_
 rw [rounds_succ]
 go_wp2_with fail
 rw [show ((p : Int) + 1) = ((p + 1 : Nat) : Int) by omega]
 refine (yqe _ l (p + 1) _ hl hv (by omega)).mono ?_
 rintro e w' ⟨rfl, rfl⟩
 rw [HE2.out]
 go_wp2_with fail
 rw [rounds_succ]
 go_wp2_with fail
 go_ret
 exact ⟨rfl, rfl⟩
set_option maxHeartbeats 2000000 in
theorem roperand2 (v : Value) (l : List Tm) (p : Nat) (E A B : Ex) (t : Tm) (r r1 : List Tm) (w : World) (hl : l.length ≤ 1000) (hv : Hid (yei w v l)) (hE : Hid (l.drop p = E.fl ++ r)) (ho : Hid E.ok) (hA : Hid (l.drop p = t :: (A.fl ++ (B.fl ++ r1)))) (hoA : Hid A.ok) (hoB : Hid B.ok) (har : 3 ≤ ar t.1) :
  Calls Tryz.prog 45 #[v, .int .i64 p, .int .i64 2] w fun e w' => e = .returned (.int .i64 ((p + 1 + A.fl.length + B.fl.length : Nat) : Int)) ∧ w = w' := by
 obtain ⟨hp, hpt, hd1⟩ := yjp hA.out
 obtain ⟨a0, cap0, rfl, h1, h2, h3⟩ := hv.out.open
 obtain ⟨g, o, rfl, hg, hc⟩ := h3 (by omega)
 obtain ⟨c0, c1⟩ := hc p t hpt
 have HE1 := Lib.hid (zht hE.out ho.out)
 have HE2 := Lib.hid (zht hd1 hoA.out)
 have hd2 := ypo hd1
 have HE3 := Lib.hid (zht hd2 hoB.out)
 have hq : p + 1 + A.fl.length ≤ l.length := by
  have h5 := congrArg List.length hA.out
  rw [List.length_drop] at h5
  simp at h5
  omega
 have hb := zhh t.1
 have hb2 := hb.2
 clear hc h3 hpt hd1 hd2 hb
 go_enter Tryz.func45, Tryz.ntmps45
 go_wp2_with fail
 refine (yqe _ l p _ hl hv (by omega)).mono ?_
 rintro e w' ⟨rfl, rfl⟩
 rw [HE1.out]
 go_wp2_with (go_at_call 84; refine (yff _ _).mono ?_; rintro e w' ⟨rfl, rfl⟩)
 refine wp_loop_rounds 3 ?_
 rw [rounds_succ]
 go_wp2_with fail
 rw [show ((p : Int) + 1) = ((p + 1 : Nat) : Int) by omega]
 refine (yqe _ l (p + 1) _ hl hv (by omega)).mono ?_
 rintro e w' ⟨rfl, rfl⟩
 rw [HE2.out]
 generalize hqe : p + 1 + A.fl.length = q at *
 have HQ := Lib.hid hqe
 clear hqe
 go_wp2_with fail
 rw [rounds_succ]
 go_wp2_with fail
 refine (yqe _ l q _ hl hv (by omega)).mono ?_
 rintro e w' ⟨rfl, rfl⟩
 rw [HE3.out]
 go_wp2_with fail
 rw [rounds_succ]
 go_wp2_with fail
 go_ret
 exact ⟨yak (by have := HQ.out; simp; omega), rfl⟩
end
end Go.Proofs.YtefiainojfeagaaGreatDoor
