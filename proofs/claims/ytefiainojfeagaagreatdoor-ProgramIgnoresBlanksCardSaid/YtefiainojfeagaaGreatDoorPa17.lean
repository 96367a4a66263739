/- Part 17 of the texts under ProgramFormats,ProgramReadsBack,ProgramTellsProgramsApart,ProgramGrowsByLines,ProgramIgnoresBlanks: joined, with what it needs alone. -/
import Derived.Test.YtefiainojfeagaaGreatDoorPa14
import Derived.Test.YtefiainojfeagaaGreatDoorPa15
set_option linter.unusedVariables false
set_option maxRecDepth 100000
set_option maxHeartbeats 8000000
namespace Go.Proofs.YtefiainojfeagaaGreatDoor
set_option maxRecDepth 100000
set_option linter.unusedVariables false
set_option maxHeartbeats 4000000
section
open Go.ChangeShapes Go.WideShapes Go.RowKit
def ztw : Bs := [35, 32, 114, 117, 108, 101, 32, 97, 58, 32, 98, 59, 10]
def zpm (ws : List Int) (i : Nat) : Bs := match ws[i]? with
 | none => [32]
 | some b => if b % 4 = 0 then [10] else if b % 4 = 1 then [9, 32, 13] else if b % 4 = 2 then ztw else [32, 32]
theorem zqu (c : UInt8) (l : List UInt8) (hc : yix c = true) (h : ∀ x, ycr false ((c :: l) ++ x) = (c :: l).length + ycr false x) (hl : l.length ≤ 12) : zdg (c :: l) := ⟨⟨c, l, rfl, hc⟩, h, by simp; omega⟩
theorem ysd (ws : List Int) (i : Nat) : zdg (zpm ws i) := by
 unfold zpm ztw
 split
 ·refine zqu _ _ (by decide) (fun x => ?_) (by decide)
  simp [ycr]
 ·repeat' split
  all_goals
   refine zqu _ _ (by decide) (fun x => ?_) (by decide)
   simp [ycr]
   try omega
theorem blkW_len (ws : List Int) (i : Nat) : (zpm ws i).length ≤ 16 := (ysd ws i).2.2
def zuy (ws : List Int) : AV := .sl 1 (ws.map fun b => [.v (.int .u8 b)])
theorem blank08_con (ws : List Int) (i : Nat) (hw : ∀ b ∈ ws, 0 ≤ b ∧ b ≤ 255) (hi : i ≤ 1000000) : Con Tryz.prog 15 [zuy ws, i64 i] (ycj (ba (zpm ws i))) := by
 refine ycs Tryz.func15 rfl rfl Tryz.ntmps15 Tryz.results15 rfl rfl ?_
 (try refine zy ?_)
 refine yag rfl (fun h1 => ?_) (fun h1 => ?_)
 ·have h1 : ws.length ≤ i := by simpa using h1
  (try refine zy ?_)
  refine yal ?_; refine ⟨_, rfl, ?_⟩
  refine yca ?_
  rw [zpm, List.getElem?_eq_none h1]; rfl
 have h1 : i < ws.length := by simpa using h1
 obtain ⟨b, hb⟩ := yxq h1
 have hbb := hw b (List.mem_of_getElem? hb)
 (repeat (first | refine zy ?_ | refine yas tok rfl rfl rfl (by omega) (ybo hb) rfl rfl ?_))
 have hm : b.tmod 4 = b % 4 := Int.tmod_eq_emod_of_nonneg hbb.1
 rw [hm]
 have h4 : 0 ≤ b % 4 ∧ b % 4 < 4 := ⟨Int.emod_nonneg _ (by decide), Int.emod_lt_of_pos _ (by decide)⟩
 have hW : zpm ws i = if b % 4 = 0 then [10] else if b % 4 = 1 then [9, 32, 13] else if b % 4 = 2 then ztw else [32, 32] := by rw [zpm, hb]
 generalize b % 4 = m at *
 rw [hW]
 refine yag rfl (fun g0 => ?_) (fun g0 => ?_)
 ·have g0 : m = 0 := by simpa using g0
  (try refine zy ?_)
  refine yal ?_; refine ⟨_, rfl, ?_⟩
  refine yca ?_
  rw [if_pos g0]; rfl
 have g0 : ¬ m = 0 := by simpa using g0
 rw [if_neg g0]
 (try refine zy ?_)
 refine yag rfl (fun g1 => ?_) (fun g1 => ?_)
 ·have g1 : m = 1 := by simpa using g1
  (try refine zy ?_)
  refine yal ?_; refine ⟨_, rfl, ?_⟩
  refine yca ?_
  rw [if_pos g1]; rfl
 have g1 : ¬ m = 1 := by simpa using g1
 rw [if_neg g1]
 (try refine zy ?_)
 refine yag rfl (fun g2 => ?_) (fun g2 => ?_)
 ·have g2 : m = 2 := by simpa using g2
  (try refine zy ?_)
  refine yal ?_; refine ⟨_, rfl, ?_⟩
  refine yca ?_
  rw [if_pos g2]; rfl
 have g2 : ¬ m = 2 := by simpa using g2
 rw [if_neg g2]
 (try refine zy ?_)
 refine yal ?_; refine ⟨_, rfl, ?_⟩
 exact yca rfl
theorem zav (s : ByteArray) (b : Nat → List UInt8) : ∀ (l m : List Tok) (i : Nat), yfu s b i (l ++ m) = yfu s b i l ++ yfu s b (i + l.length) m
 | [], m, i => rfl
 | t :: l, m, i => by
  simp only [List.cons_append, yfu, zav s b l m (i + 1), List.append_assoc, List.length_cons]
  rw [show i + 1 + l.length = i + (l.length + 1) by omega]
theorem joinT_next {s : ByteArray} {b : Nat → List UInt8} {ts : List Tok} {i : Nat} {t : Tok} (h : ts[i]? = some t) : yfu s b 0 (ts.take (i + 1)) = yfu s b 0 (ts.take i) ++ (ylt s t ++ b i) := by
 have hl := (List.getElem?_eq_some_iff.1 h).1
 rw [ydy h, zav, List.length_take, Nat.zero_add, Nat.min_eq_left (by omega)]
 simp [yfu]
theorem joinT_take_len (s : ByteArray) (b : Nat → List UInt8) (ts : List Tok) (i : Nat) : (yfu s b 0 (ts.take i)).length ≤ (yfu s b 0 ts).length := by
 have e := zav s b (ts.take i) (ts.drop i) 0
 rw [List.take_append_drop] at e
 rw [e, List.length_append]; omega
theorem pIgnores_con (p : ProgD) (ws : List Int) (hin : yet p) (hw : ∀ b ∈ ws, 0 ≤ b ∧ b ≤ 255) : Con Tryz.prog 5 [zfo p, zuy ws] (ygx true) := by
 refine ycs Tryz.func5 rfl rfl Tryz.ntmps5 Tryz.results5 rfl rfl ?_
 (repeat (first | refine zy ?_ | refine yah rfl rfl (yky p hin) rfl rfl ?_))
 refine yag rfl (fun h1 => ?_) (fun h1 => ?_)
 ·(repeat (first | refine zy ?_ | refine yah rfl rfl ycd rfl rfl ?_))
  refine yal ?_; refine ⟨_, rfl, ?_⟩
  exact ybn rfl
 have hlb : yex p = true := by simpa using h1
 have hl := yjr hlb
 have hf := ykc p hin hl
 rcases yin p with ⟨ts, hc, hs, hq⟩ | hq
 case inr =>
  have hq : ∃ e : Int, ydm p = ([], e) ∧ e ≠ 0 := by
   rcases hq with hq | hq
   ·exact ⟨3, hq, by decide⟩
   ·exact ⟨8, hq.1, by decide⟩
  obtain ⟨e, hq, he⟩ := hq
  rw [hq] at hf
  (repeat (first | refine zy ?_ | refine yah rfl rfl hf rfl rfl ?_))
  refine ybu 26 rfl (fun _ => ?_) (fun h9 => absurd h9 (by simp [he]))
  (repeat (first | refine zy ?_ | refine yah rfl rfl ycd rfl rfl ?_))
  refine yal ?_; refine ⟨_, rfl, ?_⟩
  exact ybn rfl
 rw [hq] at hf
 change Con _ _ _ (.tup [ycj (ba (yer p)), i64 0]) at hf
 (repeat (first | refine zy ?_ | refine yah rfl rfl hf rfl rfl ?_))
 refine yag rfl (fun h2 => ?_) (fun h2 => ?_)
 ·(repeat (first | refine zy ?_ | refine yah rfl rfl ycd rfl rfl ?_))
  refine yal ?_; refine ⟨_, rfl, ?_⟩
  exact ybn rfl
 have h2 : (ba (yer p)).size ≤ 2000 := by simp at h2; omega
 have hsn := zjg (ba (yer p)) (by omega)
 rw [yws, hs] at hsn
 have hwd := ypt hc hs
 have hg := zkw _ ts hs
 have htl := yux hs
 have hjl := join_len _ (zpm ws) (ysd ws) ts 0 0 hg
 generalize hS : ba (yer p) = s at *
 (repeat (first | refine zy ?_ | refine yah rfl rfl hsn rfl rfl ?_))
 refine yiv (α := Nat) (fun i => [(11, i64 i), (10, ycj (ba (yfu s (zpm ws) 0 (ts.take i)))), (7, .sl 4 (ts.map yce)), (5, ycj s), (1, zuy ws), (2, .lp 2 0)]) (fun i => [(2, some (ygv p))]) (fun i => ts.length - i) (fun i => i ≤ ts.length) 0 (by omega) (by exact zs) (by exact zh) ?_
 intro i hi
 have hil := joinT_take_len s (zpm ws) ts i
 (try refine zy ?_)
 refine yag rfl (fun h3 => ?_) (fun h3 => ?_)
 ·have h3 : i < ts.length := by simpa using h3
  obtain ⟨t, ht⟩ := yxq h3
  obtain ⟨t1, _, t3, t4, _⟩ := hg.mem t (List.mem_of_getElem? ht)
  have hbl := blkW_len ws i
  have htk : (ylt s t).length ≤ 2000 := by
   unfold ylt
   rw [List.length_take]; omega
  (repeat (first | refine zy ?_ | refine yas tok rfl rfl rfl (by omega) (ybo ht) rfl rfl ?_ | refine ytm tok rfl rfl rfl rfl (by show (0 : Int) ≤ (t.from_ : Int); omega) (by show (t.from_ : Int) ≤ (t.to : Int); omega) (by show (t.to : Int) ≤ (s.size : Int); omega) rfl rfl ?_))
  refine yrq 56 (y := ycj (ba (ylt s t))) rfl ?_ ?_
  ·show AV.v (.string (s.extract t.from_ t.to)) = _
   rw [ypq (by omega) t4]; rfl
  (repeat (first | refine zy ?_ | refine yah rfl rfl (blank08_con ws i hw (by omega)) rfl rfl ?_))
  refine ybq rfl rfl (by omega) rfl rfl ?_
  refine ybq rfl rfl (by rw [List.length_append]; omega) rfl rfl ?_
  rw [← joinT_next ht]
  (try refine zy ?_)
  exact rnd (i + 1) (by omega) (by omega) (by exact zs) (by exact zh)
 have h3 : ¬ i < ts.length := by simpa using h3
 obtain rfl : i = ts.length := by omega
 rw [List.take_length]
 (try refine zy ?_)
 refine yag rfl (fun h4 => ?_) (fun h4 => ?_)
 ·(repeat (first | refine zy ?_ | refine yah rfl rfl ycd rfl rfl ?_))
  refine yal ?_; refine ⟨_, rfl, ?_⟩
  exact ybn rfl
 have h4 : (ba (yfu s (zpm ws) 0 ts)).size ≤ 16384 := by simp at h4; omega
 obtain ⟨us, hus, hum⟩ := join_words (ysd ws) hs (yde _) h4
 have hp := ywi hus (hum.trans hwd) hc hin hl
 (repeat (first | refine zy ?_ | refine yah rfl rfl hp rfl rfl ?_ | refine yah rfl rfl ycd rfl rfl ?_ | refine yah rfl rfl (zbt p p hlb true (by simp)) rfl rfl ?_))
 refine yal ?_; refine ⟨_, rfl, ?_⟩
 exact ybn rfl
section
variable {H : Type} {enc : TypeId × Value → H} {w : World} {v : Value} {base : Nat} {d : DataW H} {ps : List MemPlace}
abbrev U8 := { x : Int // 0 ≤ x ∧ x ≤ 255 }
def U8s (w : World) (v : Value) (l : List U8) : Prop := Seq (fun cs (x : U8) => cs = [.int .u8 x.1]) 1 w v l
theorem open_u8s (hv : Value.okWide Tryz.prog w .any base 34 v) (h : DataW.Trod enc Tryz.prog w 0 (fun _ => true) true 34 v d ps) : ∃ l, U8s w v l := by
 refine open_seq_arg (R := fun cs (x : U8) => cs = [.int .u8 x.1]) Tryz.underlying34 (by kernel_rfl) (Nat.succ_pos 0) (fun cs h => ?_) hv h
 obtain ⟨n, hn, hwf⟩ := ztc Tryz.underlying5 h
 exact ⟨⟨n, wf_u8 hwf⟩, hn⟩
theorem u8s_rel {lv : Live} {l : List U8} (h : U8s w v l) : Rel (okW w) w lv (zuy (l.map (·.1))) v := by
 have := yrc (f := fun x : U8 => [AV.v (.int .u8 x.1)]) (lv := lv) h (fun _ => rfl) (fun x c hc => by simp at hc; subst hc; rfl) fun x _ cs hc => by
  subst hc
  exact yct (.v _) ygs
 rw [zuy, List.map_map]
 exact this
end
theorem yhj (v0 : Value) (z0 : ProgD) (v1 : Value) (z1 : List U8) (w : World) (h0 : ygi w v0 z0 ∧ yet z0) (h1 : U8s w v1 z1) (hG : zcw w) :
  Calls Tryz.prog 5 #[v0, v1] w fun e w' => e = .returned (.bool true) ∧ Below w.heap.size w w' :=
 yjv (pIgnores_con z0 (z1.map (·.1)) h0.2 fun b hb => by obtain ⟨x, _, rfl⟩ := List.mem_map.1 hb; exact x.2) hG (zit w) (yct (yra h0.1) (yct (u8s_rel h1) ygs))
end
end Go.Proofs.YtefiainojfeagaaGreatDoor
