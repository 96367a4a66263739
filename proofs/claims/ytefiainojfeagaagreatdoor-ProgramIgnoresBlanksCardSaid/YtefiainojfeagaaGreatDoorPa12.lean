/- Part 12 of the texts under ProgramFormats,ProgramReadsBack,ProgramTellsProgramsApart,ProgramGrowsByLines,ProgramIgnoresBlanks: joined, with what it needs alone. -/
import Derived.Test.YtefiainojfeagaaGreatDoorPa6
import Derived.Test.YtefiainojfeagaaGreatDoorPa8
import Derived.Test.YtefiainojfeagaaGreatDoorPa9
import Derived.Test.YtefiainojfeagaaGreatDoorPa11
set_option linter.unusedVariables false
set_option maxRecDepth 100000
set_option maxHeartbeats 4000000
namespace Go.Proofs.YtefiainojfeagaaGreatDoor
section
open Go.RowKit
section
variable {s : ByteArray} {ts : List Tok} {names : List Bs} {us : List Value}
theorem neighbour_rd (h : ydd s ts) (hl : names.length ≤ 1000) (hs : s.size ≤ 1000000000) {res : Res} (hr : ypd nmW names (ts.map (pwT s)) = res) : yyi 159 [] s names us ts res := by
 subst hr
 by_cases h1 : ybd (ts.map (pwT s)) = [46]
 ·have e1 : (ts.map (pwT s)).tail = ts.tail.map (pwT s) := (List.map_tail).symm
  have hst : ts.tail <:+ ts := List.tail_suffix ts
  have ht := h.suf hst
  by_cases h2 : yko (ybd (ts.tail.map (pwT s))) = 0
  ·have e : ypd nmW names (ts.map (pwT s)) = yzp nmW names 12 (ts.tail.map (pwT s)) := by rw [ypd, if_pos h1, e1, if_pos h2]
   rw [e]
   cases hv : yzp nmW names 12 (ts.tail.map (pwT s)) with
   | bad c rest =>
    have hrl : ts.tail.length = rest.length := by
     have := zoh hv
     rw [this, List.length_map]
    refine yby Tryz.func159 rfl rfl Tryz.ntmps159 Tryz.results159 rfl rfl ?_
    refine zt ?_; refine yac (lf := lfT) rfl ?_
    (try refine zo ?_)
    refine zt ?_; refine yac (lf := lfT) rfl ?_
    (repeat (first | refine zo ?_ | refine qd 1001 (ycy h h1 (by simp)) ?_))
    refine zt ?_
    refine zE ?_
    refine zt ?_; refine yac (lf := lfT) rfl ?_
    (repeat (first | refine zo ?_ | refine qd 1001 (ydn ht) ?_ | refine yah rfl rfl (ysk (ybd (ts.tail.map (pwT s)))) rfl rfl ?_))
    rw [h2]
    (try refine zo ?_)
    refine zt ?_; refine yac (lf := lfT) rfl ?_
    (try refine zo ?_)
    refine zt ?_
    refine zE ?_
    refine zt ?_; refine yaz (lf := lfT) 1 rfl rfl rfl ?_
    (try refine zo ?_)
    exact ⟨rfl, yyo 1001 (yqn ht hl hs hv) rfl rfl rfl rfl (ydi hst hrl)⟩
   | ok x rest =>
    obtain ⟨t, r, i, hts, hw, hi, rfl, rfl⟩ := ztm hv
    have hrs : r <:+ ts := (List.suffix_cons t r).trans (hts ▸ hst)
    refine yby Tryz.func159 rfl rfl Tryz.ntmps159 Tryz.results159 rfl rfl ?_
    (repeat (first | refine zy ?_ | refine qd 1001 (ycy h h1 (by simp)) ?_ | refine qd 1001 (ydn ht) ?_ | refine yah rfl rfl (ysk (ybd (ts.tail.map (pwT s)))) rfl rfl ?_))
    rw [h2]
    rw [hts] at ht ⊢
    (repeat (first | refine zy ?_ | refine qd 1001 (yth ht hl hs hw hi) ?_ | refine yah rfl rfl (yqv 12 (i : Int)) rfl rfl ?_))
    refine yal ?_
    exact yep hrs (by simp) rfl rfl rfl
  ·have e : ypd nmW names (ts.map (pwT s)) = .ok [(yko (ybd (ts.tail.map (pwT s))), 0)] ((ts.tail.map (pwT s)).tail) := by rw [ypd, if_pos h1, e1, if_neg h2]
   rw [e]
   obtain ⟨t, r, hts⟩ : ∃ t r, ts.tail = t :: r := by
    cases hq : ts.tail with
    | nil => rw [hq] at h2; exact absurd rfl h2
    | cons t r => exact ⟨t, r, rfl⟩
   have hrs : r <:+ ts := (List.suffix_cons t r).trans (hts ▸ hst)
   refine yby Tryz.func159 rfl rfl Tryz.ntmps159 Tryz.results159 rfl rfl ?_
   (repeat (first | refine zy ?_ | refine qd 1001 (ycy h h1 (by simp)) ?_ | refine qd 1001 (ydn ht) ?_ | refine yah rfl rfl (ysk (ybd (ts.tail.map (pwT s)))) rfl rfl ?_))
   refine yag rfl (fun h3 => ?_) (fun h3 => ?_)
   ·rw [hts]
    (repeat (first | refine zy ?_ | refine qd 1001 (yjt t r) ?_ | refine yah rfl rfl (yqv (yko (ybd ((t :: r).map (pwT s)))) 0) rfl rfl ?_))
    refine yal ?_
    exact yep hrs (by simp) rfl rfl rfl
   ·exact absurd (by simpa using h3) h2
 ·have e : ypd nmW names (ts.map (pwT s)) = .ok [(11, 0)] (ts.map (pwT s)) := by rw [ypd, if_neg h1]
  rw [e]
  refine yby Tryz.func159 rfl rfl Tryz.ntmps159 Tryz.results159 rfl rfl ?_
  (repeat (first | refine zy ?_ | refine qd 1001 (ycc h h1) ?_ | refine yah rfl rfl (yqv 11 0) rfl rfl ?_))
  refine yal ?_
  exact yep (List.suffix_refl _) (by simp) rfl rfl rfl
structure IHp (f : Nat) (s : ByteArray) (names : List Bs) (us : List Value) : Prop where
 choice : ∀ (ts : List Tok) (res : Res), ydd s ts → ts.length ≤ 100000 → PP nmW names f .choice (ts.map (pwT s)) = some res → yyi 92 [] s names us ts res
 bin : ∀ (l : Nat), 1 ≤ l → l ≤ 6 → ∀ (ts : List Tok) (res : Res), ydd s ts → ts.length ≤ 100000 → PP nmW names f (.bin l) (ts.map (pwT s)) = some res → yyi 114 [i64 l] s names us ts res
 unary : ∀ (ts : List Tok) (res : Res), ydd s ts → ts.length ≤ 100000 → PP nmW names f .unary (ts.map (pwT s)) = some res → yyi 141 [] s names us ts res
 prim : ∀ (ts : List Tok) (res : Res), ydd s ts → ts.length ≤ 100000 → PP nmW names f .prim (ts.map (pwT s)) = some res → yyi 154 [] s names us ts res
theorem ywk {f : FuncId} {args : List AV} {ts1 : List Tok} {x : List Tm} (h : yyi f args s names us ts (.ok x (ts1.map (pwT s)))) (hs : ts1 <:+ ts) : yhb Tryz.prog f (.lp 1001 0 :: args) (yaf (rdH s ts names us)) (ybk x) (yaf (rdH s ts1 names us)) := by
 have h' : yhb Tryz.prog f (.lp 1001 0 :: args) (yaf (rdH s ts names us)) (ybk x) (yaf (rdH s (zde ts (ts1.map (pwT s)).length) names us)) := h
 rw [List.length_map, yos hs] at h'
 exact h'
theorem ypa {f : FuncId} {args : List AV} {ts1 : List Tok} {c : Int} (h : yyi f args s names us ts (.bad c (ts1.map (pwT s)))) (hs : ts1 <:+ ts) : zrn Tryz.prog f (.lp 1001 0 :: args) (yaf (rdH s ts names us)) (zfq (yum s ts1) c) := by
 have h' : zrn Tryz.prog f (.lp 1001 0 :: args) (yaf (rdH s ts names us)) (zfq (yum s (zde ts (ts1.map (pwT s)).length)) c) := h
 rw [List.length_map, yos hs] at h'
 exact h'
theorem yeb {r : List PW} (h : r <:+ ts.map (pwT s)) : ∃ ts1, ts1 <:+ ts ∧ r = ts1.map (pwT s) := ⟨_, (zcl h).1, (zcl h).2.symm⟩
theorem yml {ts1 : List Tok} {t : PW} {r : List PW} (h : ts1.map (pwT s) = t :: r) : ∃ t' ts2, ts1 = t' :: ts2 ∧ pwT s t' = t ∧ r = ts2.map (pwT s) := by
 cases ts1 with
 | nil => cases h
 | cons t' ts2 => simp only [List.map_cons, List.cons.injEq] at h; exact ⟨t', ts2, rfl, h.1, h.2.symm⟩
theorem zgz {w : Bs} {ts1 : List PW} (h0 : w ≠ []) (h : ybd ts1 ≠ w ∨ ts1 = []) : ybd ts1 ≠ w := by
 rcases h with h | rfl
 ·exact h
 ·exact fun e => h0 e.symm
theorem ywv {ts1 : List Tok} (h : ts1 <:+ ts) : ts1.length ≤ ts.length := h.length_le
theorem yzm {ts1 : List Tok} : (ts1.map (pwT s)).tail = ts1.tail.map (pwT s) := (List.map_tail).symm
theorem choice_step {f : Nat} (ih : IHp f s names us) (h : ydd s ts) (hlen : ts.length ≤ 100000) {res : Res} (hp : PP nmW names (f + 1) .choice (ts.map (pwT s)) = some res) : yyi 92 [] s names us ts res := by
 rw [PP] at hp
 rcases ydg hp with ⟨c, r, h1, h2⟩ | ⟨c, r, h1, rfl⟩
 ·have sp1 := yly _ _ _ _ h1
  obtain ⟨ts1, hs1, rfl⟩ := yeb sp1.1
  have c1 := ywk (ih.bin 1 (by omega) (by omega) ts _ h hlen h1) hs1
  have g1 := h.suf hs1
  have l1 := ywv hs1
  by_cases hq : ybd (ts1.map (pwT s)) = [63]
  ·rw [if_pos hq, yzm] at h2
   have hst : ts1.tail <:+ ts := (List.tail_suffix ts1).trans hs1
   have gt := h.suf hst
   have lt := ywv hst
   rcases ydg h2 with ⟨y, r2, h3, h4⟩ | ⟨c', r2, h3, rfl⟩
   ·have sp2 := yly _ _ _ _ h3
    obtain ⟨ts2, hs2, rfl⟩ := yeb sp2.1
    have c2 := ywk (ih.choice ts1.tail _ gt (by omega) h3) hs2
    have hs2' := hs2.trans hst
    have g2 := h.suf hs2'
    have l2 := ywv hs2'
    rcases yoe h4 with ⟨t, r3, ht, htw, h5⟩ | ⟨hne, rfl⟩
    ·obtain ⟨t', ts3, rfl, rfl, rfl⟩ := yml ht
     have hs3 : ts3 <:+ ts := (List.suffix_cons t' ts3).trans hs2'
     have g3 := h.suf hs3
     have l3 := ywv hs3
     rcases ydg h5 with ⟨z, r4, h6, h7⟩ | ⟨c', r4, h6, rfl⟩
     ·have sp4 := yly _ _ _ _ h6
      obtain ⟨ts4, hs4, rfl⟩ := yeb sp4.1
      have c4 := ywk (ih.choice ts3 _ g3 (by omega) h6) hs4
      simp only [Option.some.injEq] at h7
      subst h7
      have hb : [c, y, z].flatten.length ≤ 1000000 := by
       have b1 := sp1.2.1
       have b2 := sp2.2.1
       have b4 := sp4.2.1
       simp only [List.length_map, NT.had, List.length_tail, List.length_cons] at b1 b2 b4 l1 l2 l3
       simp only [List.flatten_cons, List.flatten_nil, List.length_append, List.length_nil]
       omega
      refine yby Tryz.func92 rfl rfl Tryz.ntmps92 Tryz.results92 rfl rfl ?_
      (repeat (first | refine zy ?_ | refine qd 1001 (c1) ?_ | refine qd 1001 (ycy g1 hq (by simp)) ?_ | refine qd 1001 (c2) ?_ | refine qd 1001 (yjc g2 htw (by simp)) ?_ | refine qd 1001 (c4) ?_ | refine yah rfl rfl (yip 43 [c, y, z] (by simp) hb) rfl rfl ?_))
      refine yal ?_
      exact yep (hs4.trans hs3) (by simp) rfl (by simp [ybk]) rfl
     ·have sp4 := yly _ _ _ _ h6
      obtain ⟨ts4, hs4, rfl⟩ := yeb sp4.1
      have c4 := ypa (ih.choice ts3 _ g3 (by omega) h6) hs4
      refine yby Tryz.func92 rfl rfl Tryz.ntmps92 Tryz.results92 rfl rfl ?_
      refine zt ?_; refine yac (lf := lfT) rfl ?_
      (try refine zo ?_)
      refine zt ?_; refine yac (lf := lfT) rfl ?_
      (repeat (first | refine zo ?_ | refine qd 1001 (c1) ?_))
      refine zt ?_; refine yac (lf := lfT) rfl ?_
      (repeat (first | refine zo ?_ | refine qd 1001 (ycy g1 hq (by simp)) ?_))
      refine zt ?_
      refine zE ?_
      refine zt ?_; refine yac (lf := lfT) rfl ?_
      (repeat (first | refine zo ?_ | refine qd 1001 (c2) ?_))
      refine zt ?_; refine yac (lf := lfT) rfl ?_
      (repeat (first | refine zo ?_ | refine qd 1001 (yjc g2 htw (by simp)) ?_))
      refine zt ?_; refine yaz (lf := lfT) 3 rfl rfl rfl ?_
      (try refine zo ?_)
      exact ⟨rfl, yyo 1001 c4 rfl rfl rfl rfl (ydi (hs4.trans hs3) (by simp))⟩
    ·refine yby Tryz.func92 rfl rfl Tryz.ntmps92 Tryz.results92 rfl rfl ?_
     refine zt ?_; refine yac (lf := lfT) rfl ?_
     (try refine zo ?_)
     refine zt ?_; refine yac (lf := lfT) rfl ?_
     (repeat (first | refine zo ?_ | refine qd 1001 (c1) ?_))
     refine zt ?_; refine yac (lf := lfT) rfl ?_
     (repeat (first | refine zo ?_ | refine qd 1001 (ycy g1 hq (by simp)) ?_))
     refine zt ?_
     refine zE ?_
     refine zt ?_; refine yac (lf := lfT) rfl ?_
     (repeat (first | refine zo ?_ | refine qd 1001 (c2) ?_))
     refine zt ?_; refine yaz (lf := lfT) 1 rfl rfl rfl ?_
     (try refine zo ?_)
     exact ⟨rfl, yyo 1001 (yty g2 (zgz (by simp) hne)) rfl rfl rfl rfl (ydi hs2' (by simp))⟩
   ·have sp2 := yly _ _ _ _ h3
    obtain ⟨ts2, hs2, rfl⟩ := yeb sp2.1
    have c2 := ypa (ih.choice ts1.tail _ gt (by omega) h3) hs2
    refine yby Tryz.func92 rfl rfl Tryz.ntmps92 Tryz.results92 rfl rfl ?_
    refine zt ?_; refine yac (lf := lfT) rfl ?_
    (try refine zo ?_)
    refine zt ?_; refine yac (lf := lfT) rfl ?_
    (repeat (first | refine zo ?_ | refine qd 1001 (c1) ?_))
    refine zt ?_; refine yac (lf := lfT) rfl ?_
    (repeat (first | refine zo ?_ | refine qd 1001 (ycy g1 hq (by simp)) ?_))
    refine zt ?_
    refine zE ?_
    refine zt ?_; refine yaz (lf := lfT) 1 rfl rfl rfl ?_
    (try refine zo ?_)
    exact ⟨rfl, yyo 1001 c2 rfl rfl rfl rfl (ydi (hs2.trans hst) (by simp))⟩
  ·rw [if_neg hq] at h2
   simp only [Option.some.injEq] at h2
   subst h2
   refine yby Tryz.func92 rfl rfl Tryz.ntmps92 Tryz.results92 rfl rfl ?_
   (repeat (first | refine zy ?_ | refine qd 1001 (c1) ?_ | refine qd 1001 (ycc g1 hq) ?_))
   refine yal ?_
   exact yep hs1 (by simp) rfl rfl rfl
 ·have sp1 := yly _ _ _ _ h1
  obtain ⟨ts1, hs1, rfl⟩ := yeb sp1.1
  have c1 := ypa (ih.bin 1 (by omega) (by omega) ts _ h hlen h1) hs1
  refine yby Tryz.func92 rfl rfl Tryz.ntmps92 Tryz.results92 rfl rfl ?_
  refine zt ?_; refine yac (lf := lfT) rfl ?_
  (try refine zo ?_)
  refine zt ?_; refine yaz (lf := lfT) 1 rfl rfl rfl ?_
  (try refine zo ?_)
  exact ⟨rfl, yyo 1001 c1 rfl rfl rfl rfl (ydi hs1 (by simp))⟩
theorem unary_step {f : Nat} (ih : IHp f s names us) (h : ydd s ts) (hlen : ts.length ≤ 100000) {res : Res} (hp : PP nmW names (f + 1) .unary (ts.map (pwT s)) = some res) : yyi 141 [] s names us ts res := by
 rw [PP] at hp
 have hst : ts.tail <:+ ts := List.tail_suffix ts
 have gt := h.suf hst
 have lt := ywv hst
 by_cases hq : ybd (ts.map (pwT s)) = [45]
 ·rw [if_pos hq, yzm] at hp
  rcases ydg hp with ⟨x, r, h1, h2⟩ | ⟨c, r, h1, rfl⟩
  ·have sp1 := yly _ _ _ _ h1
   obtain ⟨ts1, hs1, rfl⟩ := yeb sp1.1
   have c1 := ywk (ih.unary _ _ gt (by omega) h1) hs1
   simp only [Option.some.injEq] at h2
   subst h2
   have hb : [x].flatten.length ≤ 1000000 := by
    have b1 := sp1.2.1
    simp only [List.length_map, NT.had] at b1
    simp only [List.flatten_cons, List.flatten_nil, List.length_append, List.length_nil]
    omega
   refine yby Tryz.func141 rfl rfl Tryz.ntmps141 Tryz.results141 rfl rfl ?_
   (repeat (first | refine zy ?_ | refine qd 1001 (ycy h hq (by simp)) ?_ | refine qd 1001 (c1) ?_ | refine yah rfl rfl (yip 18 [x] (by simp) hb) rfl rfl ?_))
   refine yal ?_
   exact yep (hs1.trans hst) (by simp) rfl (by simp [ybk]) rfl
  ·have sp1 := yly _ _ _ _ h1
   obtain ⟨ts1, hs1, rfl⟩ := yeb sp1.1
   have c1 := ypa (ih.unary _ _ gt (by omega) h1) hs1
   refine yby Tryz.func141 rfl rfl Tryz.ntmps141 Tryz.results141 rfl rfl ?_
   refine zt ?_; refine yac (lf := lfT) rfl ?_
   (try refine zo ?_)
   refine zt ?_; refine yac (lf := lfT) rfl ?_
   (repeat (first | refine zo ?_ | refine qd 1001 (ycy h hq (by simp)) ?_))
   refine zt ?_
   refine zT ?_
   refine zt ?_; refine yaz (lf := lfT) 1 rfl rfl rfl ?_
   (try refine zo ?_)
   exact ⟨rfl, yyo 1001 c1 rfl rfl rfl rfl (ydi (hs1.trans hst) (by simp))⟩
 rw [if_neg hq] at hp
 by_cases hq2 : ybd (ts.map (pwT s)) = [33]
 ·rw [if_pos hq2, yzm] at hp
  rcases ydg hp with ⟨x, r, h1, h2⟩ | ⟨c, r, h1, rfl⟩
  ·have sp1 := yly _ _ _ _ h1
   obtain ⟨ts1, hs1, rfl⟩ := yeb sp1.1
   have c1 := ywk (ih.unary _ _ gt (by omega) h1) hs1
   simp only [Option.some.injEq] at h2
   subst h2
   have hb : [x].flatten.length ≤ 1000000 := by
    have b1 := sp1.2.1
    simp only [List.length_map, NT.had] at b1
    simp only [List.flatten_cons, List.flatten_nil, List.length_append, List.length_nil]
    omega
   refine yby Tryz.func141 rfl rfl Tryz.ntmps141 Tryz.results141 rfl rfl ?_
   (repeat (first | refine zy ?_ | refine qd 1001 (ycc h hq) ?_ | refine qd 1001 (ycy h hq2 (by simp)) ?_ | refine qd 1001 (c1) ?_ | refine yah rfl rfl (yip 19 [x] (by simp) hb) rfl rfl ?_))
   refine yal ?_
   exact yep (hs1.trans hst) (by simp) rfl (by simp [ybk]) rfl
  ·have sp1 := yly _ _ _ _ h1
   obtain ⟨ts1, hs1, rfl⟩ := yeb sp1.1
   have c1 := ypa (ih.unary _ _ gt (by omega) h1) hs1
   refine yby Tryz.func141 rfl rfl Tryz.ntmps141 Tryz.results141 rfl rfl ?_
   refine zt ?_; refine yac (lf := lfT) rfl ?_
   (try refine zo ?_)
   refine zt ?_; refine yac (lf := lfT) rfl ?_
   (repeat (first | refine zo ?_ | refine qd 1001 (ycc h hq) ?_))
   refine zt ?_
   refine zE ?_
   refine zt ?_; refine yac (lf := lfT) rfl ?_
   (repeat (first | refine zo ?_ | refine qd 1001 (ycy h hq2 (by simp)) ?_))
   refine zt ?_
   refine zT ?_
   refine zt ?_; refine yaz (lf := lfT) 1 rfl rfl rfl ?_
   (try refine zo ?_)
   exact ⟨rfl, yyo 1001 c1 rfl rfl rfl rfl (ydi (hs1.trans hst) (by simp))⟩
 rw [if_neg hq2] at hp
 have ihp := ih.prim _ _ h hlen hp
 cases res with
 | ok x r =>
  have sp1 := yly _ _ _ _ hp
  obtain ⟨ts1, hs1, rfl⟩ := yeb sp1.1
  have c1 := ywk ihp hs1
  refine yby Tryz.func141 rfl rfl Tryz.ntmps141 Tryz.results141 rfl rfl ?_
  (repeat (first | refine zy ?_ | refine qd 1001 (ycc h hq) ?_ | refine qd 1001 (ycc h hq2) ?_ | refine qd 1001 (c1) ?_))
  refine yal ?_
  exact yep hs1 (by simp) rfl rfl rfl
 | bad c r =>
  have sp1 := yly _ _ _ _ hp
  obtain ⟨ts1, hs1, rfl⟩ := yeb sp1.1
  have c1 := ypa ihp hs1
  refine yby Tryz.func141 rfl rfl Tryz.ntmps141 Tryz.results141 rfl rfl ?_
  refine zt ?_; refine yac (lf := lfT) rfl ?_
  (try refine zo ?_)
  refine zt ?_; refine yac (lf := lfT) rfl ?_
  (repeat (first | refine zo ?_ | refine qd 1001 (ycc h hq) ?_))
  refine zt ?_
  refine zE ?_
  refine zt ?_; refine yac (lf := lfT) rfl ?_
  (repeat (first | refine zo ?_ | refine qd 1001 (ycc h hq2) ?_))
  refine zt ?_
  refine zE ?_
  refine zt ?_; refine yaz (lf := lfT) 1 rfl rfl rfl ?_
  (try refine zo ?_)
  exact ⟨rfl, yyo 1001 c1 rfl rfl rfl rfl (ydi hs1 (by simp))⟩
theorem znb {nm : Bs → Bool} {names : List Bs} {ts : List PW} {res : Res} (h : ypd nm names ts = res) : res.rest <:+ ts := (tame_near (nm := nm) (names := names) ts res (congrArg some h)).1
theorem prim_step {f : Nat} (ih : IHp f s names us) (hl : names.length ≤ 1000) (hs : s.size ≤ 1000000000) (h : ydd s ts) (hlen : ts.length ≤ 100000) {res : Res} (hp : PP nmW names (f + 1) .prim (ts.map (pwT s)) = some res) : yyi 154 [] s names us ts res := by
 cases ts with
 | nil =>
  have hv : yzp nmW names 5 (List.map (pwT s) []) = .bad 4 [] := rfl
  simp only [List.map_nil, PP, Option.some.injEq] at hp
  subst hp
  refine yby Tryz.func154 rfl rfl Tryz.ntmps154 Tryz.results154 rfl rfl ?_
  refine zt ?_; refine yac (lf := lfT) rfl ?_
  (try refine zo ?_)
  refine zt ?_; refine yac (lf := lfT) rfl ?_
  (repeat (first | refine zo ?_ | refine qd 1001 (ydn h) ?_))
  refine zt ?_; refine yac (lf := lfT) rfl ?_
  (repeat (first | refine zo ?_ | refine qd 1001 (yfc h) ?_))
  refine zt ?_
  refine zE ?_
  refine zt ?_; refine yac (lf := lfT) rfl ?_
  (repeat (first | refine zo ?_ | refine qd 1001 (ycc h (w := [40]) (by simp [ybd])) ?_))
  refine zt ?_
  refine zE ?_
  refine zt ?_; refine yac (lf := lfT) rfl ?_
  (repeat (first | refine zo ?_ | refine qd 1001 (ycc h (w := [113]) (by simp [ybd])) ?_))
  refine zt ?_
  refine zE ?_
  refine zt ?_; refine yac (lf := lfT) rfl ?_
  (repeat (first | refine zo ?_ | refine yah rfl rfl (yef []) rfl rfl ?_))
  refine zt ?_; refine yac (lf := lfT) rfl ?_
  (try refine zo ?_)
  refine zt ?_
  refine zE ?_
  refine zt ?_; refine yac (lf := lfT) rfl ?_
  (repeat (first | refine zo ?_ | refine yah rfl rfl (yel []) rfl rfl ?_))
  refine zt ?_; refine yac (lf := lfT) rfl ?_
  (try refine zo ?_)
  refine zt ?_
  refine zE ?_
  refine zt ?_; refine yaz (lf := lfT) 1 rfl rfl rfl ?_
  (try refine zo ?_)
  exact ⟨rfl, yyo 1001 (yqn h hl hs hv) rfl rfl rfl rfl (ydi (List.suffix_refl _) rfl)⟩
 | cons t r =>
  have hr : r <:+ t :: r := List.suffix_cons t r
  have gr := h.suf hr
  have lr : r.length ≤ 100000 := by simp only [List.length_cons] at hlen; omega
  simp only [List.map_cons, PP] at hp
  by_cases hk2 : t.kind = 2
  ·rw [if_pos (show (pwT s t).k = 2 from hk2)] at hp
   simp only [Option.some.injEq] at hp
   subst hp
   refine yby Tryz.func154 rfl rfl Tryz.ntmps154 Tryz.results154 rfl rfl ?_
   refine zt ?_; refine yac (lf := lfT) rfl ?_
   (try refine zo ?_)
   refine zt ?_; refine yac (lf := lfT) rfl ?_
   (repeat (first | refine zo ?_ | refine qd 1001 (ydn h) ?_))
   refine zt ?_; refine yac (lf := lfT) rfl ?_
   (repeat (first | refine zo ?_ | refine qd 1001 (yfc h) ?_))
   refine zt ?_
   refine yag rfl (fun _ => ?_) (fun h9 => absurd h9 (by simp [ygp, hk2]))
   (repeat (first | refine zy ?_ | refine qd 1001 (yjt t _) ?_ | refine yah rfl rfl (yqv 1 t.num) rfl rfl ?_))
   refine yal ?_
   exact yep hr (by simp) rfl rfl rfl
  rw [if_neg (show ¬ (pwT s t).k = 2 from hk2)] at hp
  by_cases hp1 : (pwT s t).w = [40]
  ·rw [if_pos hp1] at hp
   rcases ydg hp with ⟨x, r2, h1, h2⟩ | ⟨c, r2, h1, rfl⟩
   ·have sp1 := yly _ _ _ _ h1
    obtain ⟨ts1, hs1, rfl⟩ := yeb sp1.1
    have c1 := ywk (ih.choice _ _ gr lr h1) hs1
    have g1 := gr.suf hs1
    rcases yoe h2 with ⟨t', r3, ht, htw, h5⟩ | ⟨hne, rfl⟩
    ·obtain ⟨t', ts2, rfl, rfl, rfl⟩ := yml ht
     simp only [Option.some.injEq] at h5
     subst h5
     refine yby Tryz.func154 rfl rfl Tryz.ntmps154 Tryz.results154 rfl rfl ?_
     refine zt ?_; refine yac (lf := lfT) rfl ?_
     (try refine zo ?_)
     refine zt ?_; refine yac (lf := lfT) rfl ?_
     (repeat (first | refine zo ?_ | refine qd 1001 (ydn h) ?_))
     refine zt ?_; refine yac (lf := lfT) rfl ?_
     (repeat (first | refine zo ?_ | refine qd 1001 (yfc h) ?_))
     refine zt ?_
     refine yag rfl (fun h9 => absurd h9 (by simp [ygp]; omega)) (fun _ => ?_)
     refine zt ?_; refine yac (lf := lfT) rfl ?_
     (repeat (first | refine zo ?_ | refine qd 1001 (ycy h hp1 (by simp)) ?_))
     refine zt ?_
     refine zT ?_
     (repeat (first | refine zy ?_ | refine qd 1001 (c1) ?_ | refine qd 1001 (yjc g1 htw (by simp)) ?_))
     refine yal ?_
     exact yep (((List.suffix_cons t' ts2).trans hs1).trans hr) (by simp) rfl rfl rfl
    ·refine yby Tryz.func154 rfl rfl Tryz.ntmps154 Tryz.results154 rfl rfl ?_
     refine zt ?_; refine yac (lf := lfT) rfl ?_
     (try refine zo ?_)
     refine zt ?_; refine yac (lf := lfT) rfl ?_
     (repeat (first | refine zo ?_ | refine qd 1001 (ydn h) ?_))
     refine zt ?_; refine yac (lf := lfT) rfl ?_
     (repeat (first | refine zo ?_ | refine qd 1001 (yfc h) ?_))
     refine zt ?_
     refine yag rfl (fun h9 => absurd h9 (by simp [ygp]; omega)) (fun _ => ?_)
     refine zt ?_; refine yac (lf := lfT) rfl ?_
     (repeat (first | refine zo ?_ | refine qd 1001 (ycy h hp1 (by simp)) ?_))
     refine zt ?_
     refine zT ?_
     refine zt ?_; refine yac (lf := lfT) rfl ?_
     (repeat (first | refine zo ?_ | refine qd 1001 (c1) ?_))
     refine zt ?_; refine yaz (lf := lfT) 1 rfl rfl rfl ?_
     (try refine zo ?_)
     exact ⟨rfl, yyo 1001 (yty g1 (zgz (by simp) hne)) rfl rfl rfl rfl (ydi (hs1.trans hr) (by simp))⟩
   ·have sp1 := yly _ _ _ _ h1
    obtain ⟨ts1, hs1, rfl⟩ := yeb sp1.1
    have c1 := ypa (ih.choice _ _ gr lr h1) hs1
    refine yby Tryz.func154 rfl rfl Tryz.ntmps154 Tryz.results154 rfl rfl ?_
    refine zt ?_; refine yac (lf := lfT) rfl ?_
    (try refine zo ?_)
    refine zt ?_; refine yac (lf := lfT) rfl ?_
    (repeat (first | refine zo ?_ | refine qd 1001 (ydn h) ?_))
    refine zt ?_; refine yac (lf := lfT) rfl ?_
    (repeat (first | refine zo ?_ | refine qd 1001 (yfc h) ?_))
    refine zt ?_
    refine yag rfl (fun h9 => absurd h9 (by simp [ygp]; omega)) (fun _ => ?_)
    refine zt ?_; refine yac (lf := lfT) rfl ?_
    (repeat (first | refine zo ?_ | refine qd 1001 (ycy h hp1 (by simp)) ?_))
    refine zt ?_
    refine zT ?_
    refine zt ?_; refine yaz (lf := lfT) 1 rfl rfl rfl ?_
    (try refine zo ?_)
    exact ⟨rfl, yyo 1001 (c1) rfl rfl rfl rfl (ydi (hs1.trans hr) (by simp))⟩
  rw [if_neg hp1] at hp
  by_cases hp2 : (pwT s t).w = [113]
  ·rw [if_pos hp2] at hp
   simp only [Option.some.injEq] at hp
   have hn := neighbour_rd (us := us) gr hl hs hp
   have spn : Sp .prim (r.map (pwT s)) res ∨ True := .inr trivial
   cases res with
   | ok x rest =>
    obtain ⟨ts1, hs1, rfl⟩ := yeb (znb hp)
    have c1 := ywk hn hs1
    refine yby Tryz.func154 rfl rfl Tryz.ntmps154 Tryz.results154 rfl rfl ?_
    refine zt ?_; refine yac (lf := lfT) rfl ?_
    (try refine zo ?_)
    refine zt ?_; refine yac (lf := lfT) rfl ?_
    (repeat (first | refine zo ?_ | refine qd 1001 (ydn h) ?_))
    refine zt ?_; refine yac (lf := lfT) rfl ?_
    (repeat (first | refine zo ?_ | refine qd 1001 (yfc h) ?_))
    refine zt ?_
    refine yag rfl (fun h9 => absurd h9 (by simp [ygp]; omega)) (fun _ => ?_)
    refine zt ?_; refine yac (lf := lfT) rfl ?_
    (repeat (first | refine zo ?_ | refine qd 1001 (ycc h (w := [40]) hp1) ?_))
    refine zt ?_
    refine zE ?_
    refine zt ?_; refine yac (lf := lfT) rfl ?_
    (repeat (first | refine zo ?_ | refine qd 1001 (ycy h hp2 (by simp)) ?_))
    refine zt ?_
    refine zT ?_
    (repeat (first | refine zy ?_ | refine qd 1001 (c1) ?_))
    refine yal ?_
    exact yep (hs1.trans hr) (by simp) rfl rfl rfl
   | bad c rest =>
    obtain ⟨ts1, hs1, rfl⟩ := yeb (znb hp)
    have c1 := ypa hn hs1
    refine yby Tryz.func154 rfl rfl Tryz.ntmps154 Tryz.results154 rfl rfl ?_
    refine zt ?_; refine yac (lf := lfT) rfl ?_
    (try refine zo ?_)
    refine zt ?_; refine yac (lf := lfT) rfl ?_
    (repeat (first | refine zo ?_ | refine qd 1001 (ydn h) ?_))
    refine zt ?_; refine yac (lf := lfT) rfl ?_
    (repeat (first | refine zo ?_ | refine qd 1001 (yfc h) ?_))
    refine zt ?_
    refine yag rfl (fun h9 => absurd h9 (by simp [ygp]; omega)) (fun _ => ?_)
    refine zt ?_; refine yac (lf := lfT) rfl ?_
    (repeat (first | refine zo ?_ | refine qd 1001 (ycc h (w := [40]) hp1) ?_))
    refine zt ?_
    refine zE ?_
    refine zt ?_; refine yac (lf := lfT) rfl ?_
    (repeat (first | refine zo ?_ | refine qd 1001 (ycy h hp2 (by simp)) ?_))
    refine zt ?_
    refine zT ?_
    refine zt ?_; refine yaz (lf := lfT) 1 rfl rfl rfl ?_
    (try refine zo ?_)
    exact ⟨rfl, yyo 1001 (c1) rfl rfl rfl rfl (ydi (hs1.trans hr) (by simp))⟩
  rw [if_neg hp2] at hp
  by_cases hc : yiy (pwT s t).w = 0
  case neg =>
   rw [if_pos hc] at hp
   simp only [Option.some.injEq] at hp
   subst hp
   refine yby Tryz.func154 rfl rfl Tryz.ntmps154 Tryz.results154 rfl rfl ?_
   refine zt ?_; refine yac (lf := lfT) rfl ?_
   (try refine zo ?_)
   refine zt ?_; refine yac (lf := lfT) rfl ?_
   (repeat (first | refine zo ?_ | refine qd 1001 (ydn h) ?_))
   refine zt ?_; refine yac (lf := lfT) rfl ?_
   (repeat (first | refine zo ?_ | refine qd 1001 (yfc h) ?_))
   refine zt ?_
   refine yag rfl (fun h9 => absurd h9 (by simp [ygp]; omega)) (fun _ => ?_)
   refine zt ?_; refine yac (lf := lfT) rfl ?_
   (repeat (first | refine zo ?_ | refine qd 1001 (ycc h (w := [40]) hp1) ?_))
   refine zt ?_
   refine zE ?_
   refine zt ?_; refine yac (lf := lfT) rfl ?_
   (repeat (first | refine zo ?_ | refine qd 1001 (ycc h (w := [113]) hp2) ?_))
   refine zt ?_
   refine zE ?_
   refine zt ?_; refine yac (lf := lfT) rfl ?_
   (repeat (first | refine zo ?_ | refine yah rfl rfl (yef (pwT s t).w) rfl rfl ?_))
   refine zt ?_; refine yac (lf := lfT) rfl ?_
   (try refine zo ?_)
   refine zt ?_
   refine yag rfl (fun _ => ?_) (fun h9 => absurd h9 (by simp [hc]))
   (repeat (first | refine zy ?_ | refine qd 1001 (yjt t _) ?_ | refine yah rfl rfl (yqv (yiy (pwT s t).w) 0) rfl rfl ?_))
   refine yal ?_
   exact yep hr (by simp) rfl rfl rfl
  rw [if_neg (by simp [hc])] at hp
  by_cases ha : zkl (pwT s t).w = 0
  case neg =>
   rw [if_pos ha] at hp
   rcases yoe hp with ⟨t1, r1, ht, htw, h1⟩ | ⟨hne, rfl⟩
   ·obtain ⟨t1, ts1, rfl, rfl, rfl⟩ := yml ht
    have hs1 : ts1 <:+ t :: t1 :: ts1 := (List.suffix_cons t1 ts1).trans hr
    have g1 := h.suf hs1
    have l1 : ts1.length ≤ 100000 := by simp only [List.length_cons] at lr; omega
    rcases ydg h1 with ⟨x, r2, h2, h3⟩ | ⟨c, r2, h2, rfl⟩
    ·have sp2 := yly _ _ _ _ h2
     obtain ⟨ts2, hs2, rfl⟩ := yeb sp2.1
     have c1 := ywk (ih.choice _ _ g1 l1 h2) hs2
     have g2 := g1.suf hs2
     rcases yoe h3 with ⟨t3, r3, ht, htw2, h5⟩ | ⟨hne, rfl⟩
     ·obtain ⟨t3, ts3, rfl, rfl, rfl⟩ := yml ht
      simp only [Option.some.injEq] at h5
      subst h5
      have hb : [x].flatten.length ≤ 1000000 := by
       have b1 := sp2.2.1
       simp only [List.length_map, NT.had] at b1
       simp only [List.flatten_cons, List.flatten_nil, List.length_append, List.length_nil]
       omega
      refine yby Tryz.func154 rfl rfl Tryz.ntmps154 Tryz.results154 rfl rfl ?_
      refine zt ?_; refine yac (lf := lfT) rfl ?_
      (try refine zo ?_)
      refine zt ?_; refine yac (lf := lfT) rfl ?_
      (repeat (first | refine zo ?_ | refine qd 1001 (ydn h) ?_))
      refine zt ?_; refine yac (lf := lfT) rfl ?_
      (repeat (first | refine zo ?_ | refine qd 1001 (yfc h) ?_))
      refine zt ?_
      refine yag rfl (fun h9 => absurd h9 (by simp [ygp]; omega)) (fun _ => ?_)
      refine zt ?_; refine yac (lf := lfT) rfl ?_
      (repeat (first | refine zo ?_ | refine qd 1001 (ycc h (w := [40]) hp1) ?_))
      refine zt ?_
      refine zE ?_
      refine zt ?_; refine yac (lf := lfT) rfl ?_
      (repeat (first | refine zo ?_ | refine qd 1001 (ycc h (w := [113]) hp2) ?_))
      refine zt ?_
      refine zE ?_
      refine zt ?_; refine yac (lf := lfT) rfl ?_
      (repeat (first | refine zo ?_ | refine yah rfl rfl (yef (pwT s t).w) rfl rfl ?_))
      refine zt ?_; refine yac (lf := lfT) rfl ?_
      (try refine zo ?_)
      refine zt ?_
      refine yag rfl (fun h9 => absurd h9 (by simp [hc])) (fun _ => ?_)
      refine zt ?_; refine yac (lf := lfT) rfl ?_
      (repeat (first | refine zo ?_ | refine yah rfl rfl (yel (pwT s t).w) rfl rfl ?_))
      refine zt ?_; refine yac (lf := lfT) rfl ?_
      (try refine zo ?_)
      refine zt ?_
      refine yag rfl (fun _ => ?_) (fun h9 => absurd h9 (by simp [ha]))
      (repeat (first | refine zy ?_ | refine qd 1001 (yjt t _) ?_ | refine qd 1001 (yjc gr htw (by simp)) ?_ | refine qd 1001 (c1) ?_ | refine qd 1001 (yjc g2 htw2 (by simp)) ?_ | refine yah rfl rfl (yip (zkl (pwT s t).w) [x] (by simp) hb) rfl rfl ?_))
      refine yal ?_
      exact yep (((List.suffix_cons t3 ts3).trans hs2).trans hs1) (by simp) rfl (by simp [ybk]) rfl
     ·refine yby Tryz.func154 rfl rfl Tryz.ntmps154 Tryz.results154 rfl rfl ?_
      refine zt ?_; refine yac (lf := lfT) rfl ?_
      (try refine zo ?_)
      refine zt ?_; refine yac (lf := lfT) rfl ?_
      (repeat (first | refine zo ?_ | refine qd 1001 (ydn h) ?_))
      refine zt ?_; refine yac (lf := lfT) rfl ?_
      (repeat (first | refine zo ?_ | refine qd 1001 (yfc h) ?_))
      refine zt ?_
      refine yag rfl (fun h9 => absurd h9 (by simp [ygp]; omega)) (fun _ => ?_)
      refine zt ?_; refine yac (lf := lfT) rfl ?_
      (repeat (first | refine zo ?_ | refine qd 1001 (ycc h (w := [40]) hp1) ?_))
      refine zt ?_
      refine zE ?_
      refine zt ?_; refine yac (lf := lfT) rfl ?_
      (repeat (first | refine zo ?_ | refine qd 1001 (ycc h (w := [113]) hp2) ?_))
      refine zt ?_
      refine zE ?_
      refine zt ?_; refine yac (lf := lfT) rfl ?_
      (repeat (first | refine zo ?_ | refine yah rfl rfl (yef (pwT s t).w) rfl rfl ?_))
      refine zt ?_; refine yac (lf := lfT) rfl ?_
      (try refine zo ?_)
      refine zt ?_
      refine yag rfl (fun h9 => absurd h9 (by simp [hc])) (fun _ => ?_)
      refine zt ?_; refine yac (lf := lfT) rfl ?_
      (repeat (first | refine zo ?_ | refine yah rfl rfl (yel (pwT s t).w) rfl rfl ?_))
      refine zt ?_; refine yac (lf := lfT) rfl ?_
      (try refine zo ?_)
      refine zt ?_
      refine yag rfl (fun _ => ?_) (fun h9 => absurd h9 (by simp [ha]))
      refine zt ?_; refine yac (lf := lfT) rfl ?_
      (repeat (first | refine zo ?_ | refine qd 1001 (yjt t _) ?_))
      refine zt ?_; refine yac (lf := lfT) rfl ?_
      (repeat (first | refine zo ?_ | refine qd 1001 (yjc gr htw (by simp)) ?_))
      refine zt ?_; refine yac (lf := lfT) rfl ?_
      (repeat (first | refine zo ?_ | refine qd 1001 (c1) ?_))
      refine zt ?_; refine yaz (lf := lfT) 1 rfl rfl rfl ?_
      (try refine zo ?_)
      exact ⟨rfl, yyo 1001 (yty g2 (zgz (by simp) hne)) rfl rfl rfl rfl (ydi (hs2.trans hs1) (by simp))⟩
    ·have sp2 := yly _ _ _ _ h2
     obtain ⟨ts2, hs2, rfl⟩ := yeb sp2.1
     have c1 := ypa (ih.choice _ _ g1 l1 h2) hs2
     refine yby Tryz.func154 rfl rfl Tryz.ntmps154 Tryz.results154 rfl rfl ?_
     refine zt ?_; refine yac (lf := lfT) rfl ?_
     (try refine zo ?_)
     refine zt ?_; refine yac (lf := lfT) rfl ?_
     (repeat (first | refine zo ?_ | refine qd 1001 (ydn h) ?_))
     refine zt ?_; refine yac (lf := lfT) rfl ?_
     (repeat (first | refine zo ?_ | refine qd 1001 (yfc h) ?_))
     refine zt ?_
     refine yag rfl (fun h9 => absurd h9 (by simp [ygp]; omega)) (fun _ => ?_)
     refine zt ?_; refine yac (lf := lfT) rfl ?_
     (repeat (first | refine zo ?_ | refine qd 1001 (ycc h (w := [40]) hp1) ?_))
     refine zt ?_
     refine zE ?_
     refine zt ?_; refine yac (lf := lfT) rfl ?_
     (repeat (first | refine zo ?_ | refine qd 1001 (ycc h (w := [113]) hp2) ?_))
     refine zt ?_
     refine zE ?_
     refine zt ?_; refine yac (lf := lfT) rfl ?_
     (repeat (first | refine zo ?_ | refine yah rfl rfl (yef (pwT s t).w) rfl rfl ?_))
     refine zt ?_; refine yac (lf := lfT) rfl ?_
     (try refine zo ?_)
     refine zt ?_
     refine yag rfl (fun h9 => absurd h9 (by simp [hc])) (fun _ => ?_)
     refine zt ?_; refine yac (lf := lfT) rfl ?_
     (repeat (first | refine zo ?_ | refine yah rfl rfl (yel (pwT s t).w) rfl rfl ?_))
     refine zt ?_; refine yac (lf := lfT) rfl ?_
     (try refine zo ?_)
     refine zt ?_
     refine yag rfl (fun _ => ?_) (fun h9 => absurd h9 (by simp [ha]))
     refine zt ?_; refine yac (lf := lfT) rfl ?_
     (repeat (first | refine zo ?_ | refine qd 1001 (yjt t _) ?_))
     refine zt ?_; refine yac (lf := lfT) rfl ?_
     (repeat (first | refine zo ?_ | refine qd 1001 (yjc gr htw (by simp)) ?_))
     refine zt ?_; refine yaz (lf := lfT) 1 rfl rfl rfl ?_
     (try refine zo ?_)
     exact ⟨rfl, yyo 1001 (c1) rfl rfl rfl rfl (ydi (hs2.trans hs1) (by simp))⟩
   ·refine yby Tryz.func154 rfl rfl Tryz.ntmps154 Tryz.results154 rfl rfl ?_
    refine zt ?_; refine yac (lf := lfT) rfl ?_
    (try refine zo ?_)
    refine zt ?_; refine yac (lf := lfT) rfl ?_
    (repeat (first | refine zo ?_ | refine qd 1001 (ydn h) ?_))
    refine zt ?_; refine yac (lf := lfT) rfl ?_
    (repeat (first | refine zo ?_ | refine qd 1001 (yfc h) ?_))
    refine zt ?_
    refine yag rfl (fun h9 => absurd h9 (by simp [ygp]; omega)) (fun _ => ?_)
    refine zt ?_; refine yac (lf := lfT) rfl ?_
    (repeat (first | refine zo ?_ | refine qd 1001 (ycc h (w := [40]) hp1) ?_))
    refine zt ?_
    refine zE ?_
    refine zt ?_; refine yac (lf := lfT) rfl ?_
    (repeat (first | refine zo ?_ | refine qd 1001 (ycc h (w := [113]) hp2) ?_))
    refine zt ?_
    refine zE ?_
    refine zt ?_; refine yac (lf := lfT) rfl ?_
    (repeat (first | refine zo ?_ | refine yah rfl rfl (yef (pwT s t).w) rfl rfl ?_))
    refine zt ?_; refine yac (lf := lfT) rfl ?_
    (try refine zo ?_)
    refine zt ?_
    refine yag rfl (fun h9 => absurd h9 (by simp [hc])) (fun _ => ?_)
    refine zt ?_; refine yac (lf := lfT) rfl ?_
    (repeat (first | refine zo ?_ | refine yah rfl rfl (yel (pwT s t).w) rfl rfl ?_))
    refine zt ?_; refine yac (lf := lfT) rfl ?_
    (try refine zo ?_)
    refine zt ?_
    refine yag rfl (fun _ => ?_) (fun h9 => absurd h9 (by simp [ha]))
    refine zt ?_; refine yac (lf := lfT) rfl ?_
    (repeat (first | refine zo ?_ | refine qd 1001 (yjt t _) ?_))
    refine zt ?_; refine yaz (lf := lfT) 1 rfl rfl rfl ?_
    (try refine zo ?_)
    exact ⟨rfl, yyo 1001 (yty gr (zgz (by simp) hne)) rfl rfl rfl rfl (ydi hr (by simp))⟩
  rw [if_neg (by simp [ha])] at hp
  simp only [Option.some.injEq] at hp
  cases res with
  | ok x rest =>
   obtain ⟨t1, r1, i, hts, hw, hi, rfl, rfl⟩ := ztm (s := s) (ts := t :: r) hp
   simp only [List.cons.injEq] at hts
   obtain ⟨rfl, rfl⟩ := hts
   refine yby Tryz.func154 rfl rfl Tryz.ntmps154 Tryz.results154 rfl rfl ?_
   refine zt ?_; refine yac (lf := lfT) rfl ?_
   (try refine zo ?_)
   refine zt ?_; refine yac (lf := lfT) rfl ?_
   (repeat (first | refine zo ?_ | refine qd 1001 (ydn h) ?_))
   refine zt ?_; refine yac (lf := lfT) rfl ?_
   (repeat (first | refine zo ?_ | refine qd 1001 (yfc h) ?_))
   refine zt ?_
   refine yag rfl (fun h9 => absurd h9 (by simp [ygp]; omega)) (fun _ => ?_)
   refine zt ?_; refine yac (lf := lfT) rfl ?_
   (repeat (first | refine zo ?_ | refine qd 1001 (ycc h (w := [40]) hp1) ?_))
   refine zt ?_
   refine zE ?_
   refine zt ?_; refine yac (lf := lfT) rfl ?_
   (repeat (first | refine zo ?_ | refine qd 1001 (ycc h (w := [113]) hp2) ?_))
   refine zt ?_
   refine zE ?_
   refine zt ?_; refine yac (lf := lfT) rfl ?_
   (repeat (first | refine zo ?_ | refine yah rfl rfl (yef (pwT s t).w) rfl rfl ?_))
   refine zt ?_; refine yac (lf := lfT) rfl ?_
   (try refine zo ?_)
   refine zt ?_
   refine yag rfl (fun h9 => absurd h9 (by simp [hc])) (fun _ => ?_)
   refine zt ?_; refine yac (lf := lfT) rfl ?_
   (repeat (first | refine zo ?_ | refine yah rfl rfl (yel (pwT s t).w) rfl rfl ?_))
   refine zt ?_; refine yac (lf := lfT) rfl ?_
   (try refine zo ?_)
   refine zt ?_
   refine yag rfl (fun h9 => absurd h9 (by simp [ha])) (fun _ => ?_)
   (repeat (first | refine zy ?_ | refine qd 1001 (yth h hl hs hw hi) ?_ | refine yah rfl rfl (yqv 5 (i : Int)) rfl rfl ?_))
   refine yal ?_
   exact yep hr (by simp) rfl rfl rfl
  | bad c rest =>
   have hrest := zoh hp
   refine yby Tryz.func154 rfl rfl Tryz.ntmps154 Tryz.results154 rfl rfl ?_
   refine zt ?_; refine yac (lf := lfT) rfl ?_
   (try refine zo ?_)
   refine zt ?_; refine yac (lf := lfT) rfl ?_
   (repeat (first | refine zo ?_ | refine qd 1001 (ydn h) ?_))
   refine zt ?_; refine yac (lf := lfT) rfl ?_
   (repeat (first | refine zo ?_ | refine qd 1001 (yfc h) ?_))
   refine zt ?_
   refine yag rfl (fun h9 => absurd h9 (by simp [ygp]; omega)) (fun _ => ?_)
   refine zt ?_; refine yac (lf := lfT) rfl ?_
   (repeat (first | refine zo ?_ | refine qd 1001 (ycc h (w := [40]) hp1) ?_))
   refine zt ?_
   refine zE ?_
   refine zt ?_; refine yac (lf := lfT) rfl ?_
   (repeat (first | refine zo ?_ | refine qd 1001 (ycc h (w := [113]) hp2) ?_))
   refine zt ?_
   refine zE ?_
   refine zt ?_; refine yac (lf := lfT) rfl ?_
   (repeat (first | refine zo ?_ | refine yah rfl rfl (yef (pwT s t).w) rfl rfl ?_))
   refine zt ?_; refine yac (lf := lfT) rfl ?_
   (try refine zo ?_)
   refine zt ?_
   refine yag rfl (fun h9 => absurd h9 (by simp [hc])) (fun _ => ?_)
   refine zt ?_; refine yac (lf := lfT) rfl ?_
   (repeat (first | refine zo ?_ | refine yah rfl rfl (yel (pwT s t).w) rfl rfl ?_))
   refine zt ?_; refine yac (lf := lfT) rfl ?_
   (try refine zo ?_)
   refine zt ?_
   refine yag rfl (fun h9 => absurd h9 (by simp [ha])) (fun _ => ?_)
   refine zt ?_; refine yaz (lf := lfT) 1 rfl rfl rfl ?_
   (try refine zo ?_)
   exact ⟨rfl, yyo 1001 (yqn (ts := t :: r) h hl hs hp) rfl rfl rfl rfl (ydi (List.suffix_refl _) (by rw [hrest]; simp))⟩
theorem binary_step {f : Nat} (ih : ∀ g, g ≤ f → IHp g s names us) {l : Nat} (h1l : 1 ≤ l) (hl6 : l ≤ 6) (h : ydd s ts) (hlen : ts.length ≤ 100000) {res : Res} (hp : PP nmW names (f + 1) (.bin l) (ts.map (pwT s)) = some res) : yyi 114 [i64 l] s names us ts res := by
 rw [PP] at hp
 by_cases h6 : 6 ≤ l
 ·obtain rfl : l = 6 := by omega
  rw [if_pos h6] at hp
  have ihu := (ih f (Nat.le_refl _)).unary _ _ h hlen hp
  have sp1 := yly _ _ _ _ hp
  cases res with
  | ok x r =>
   obtain ⟨ts1, hs1, rfl⟩ := yeb sp1.1
   have c1 := ywk ihu hs1
   refine yby Tryz.func114 rfl rfl Tryz.ntmps114 Tryz.results114 rfl rfl ?_
   (repeat (first | refine zy ?_ | refine qd 1001 (c1) ?_))
   refine yal ?_
   exact yep hs1 (by simp) rfl rfl rfl
  | bad c r =>
   obtain ⟨ts1, hs1, rfl⟩ := yeb sp1.1
   have c1 := ypa ihu hs1
   refine yby Tryz.func114 rfl rfl Tryz.ntmps114 Tryz.results114 rfl rfl ?_
   refine zt ?_; refine yac (lf := lfT) rfl ?_
   (try refine zo ?_)
   refine zt ?_; refine yac (lf := lfT) rfl ?_
   (try refine zo ?_)
   refine zt ?_
   refine zT ?_
   refine zt ?_; refine yaz (lf := lfT) 1 rfl rfl rfl ?_
   (try refine zo ?_)
   exact ⟨rfl, yyo 1001 c1 rfl rfl rfl rfl (ydi hs1 (by simp))⟩
 rw [if_neg h6] at hp
 rcases ydg hp with ⟨left0, r0, q1, q2⟩ | ⟨c, r0, q1, rfl⟩
 ·have sp0 := yly _ _ _ _ q1
  obtain ⟨ts0, hs0, rfl⟩ := yeb sp0.1
  have c0 := ywk ((ih f (Nat.le_refl _)).bin (l + 1) (by omega) (by omega) _ _ h hlen q1) hs0
  have b0 := sp0.2.1
  simp only [List.length_map, NT.had] at b0
  refine yby Tryz.func114 rfl rfl Tryz.ntmps114 Tryz.results114 rfl rfl ?_
  refine zt ?_; refine yac (lf := lfT) rfl ?_
  (try refine zo ?_)
  refine zt ?_; refine yac (lf := lfT) rfl ?_
  (try refine zo ?_)
  refine zt ?_
  refine yag rfl (fun h9 => absurd h9 (by simp; omega)) (fun _ => ?_)
  refine zt ?_; refine yac (lf := lfT) rfl ?_
  (repeat (first | refine zo ?_ | refine qd 1001 (c0) ?_))
  refine zt ?_
  refine yiv (α := Nat × List Tm × List Tok) (fun q => [(0, .lp 1001 0), (1, i64 l), (5, ybk q.2.1)]) (fun q => [(1001, some (rdO s q.2.2 names us))]) (fun q => q.1) (fun q => q.1 ≤ f ∧ PP nmW names q.1 (.tail l q.2.1) (q.2.2.map (pwT s)) = some res ∧ q.2.2 <:+ ts ∧ q.2.1.length + q.2.2.length ≤ ts.length) (f, left0, ts0) ⟨Nat.le_refl _, q2, hs0, by simpa using b0⟩ (by exact zs) (yab rfl yai) ?_
  rintro ⟨g, left, ts1⟩ ⟨hg, ht, hs1, hb⟩
  simp only at hg ht hs1 hb
  have g1 := h.suf hs1
  obtain ⟨g, rfl⟩ : ∃ k, g = k + 1 := by
   cases g with
   | zero => cases ht
   | succ k => exact ⟨k, rfl⟩
  rw [PP] at ht
  refine zt ?_; refine yac (lf := lfT) rfl ?_
  (repeat (first | refine zo ?_ | refine qd 1001 (ydn g1) ?_ | refine yah rfl rfl (binaryOp_con (ybd (ts1.map (pwT s)))) rfl rfl ?_))
  refine zt ?_; refine yac (lf := lfT) rfl ?_
  (try refine zo ?_)
  by_cases hd : ymf (ybd (ts1.map (pwT s))) = 0 ∨ yfg (ymf (ybd (ts1.map (pwT s)))) ≠ l
  ·rw [if_pos hd] at ht
   simp only [Option.some.injEq] at ht
   subst ht
   refine ybu 20 rfl (fun h2 => ?_) (fun h2 => ?_)
   ·(try refine zo ?_)
    refine zt ?_
    refine zT ?_
    (try refine zy ?_)
    refine yal ?_
    exact yep hs1 (by simp) rfl rfl rfl
   ·(repeat (first | refine zo ?_ | refine yah rfl rfl (yea (ymf (ybd (_)))) rfl rfl ?_))
    have h2 : ymf (ybd (ts1.map (pwT s))) ≠ 0 := by simpa using h2
    have hd2 : yfg (ymf (ybd (ts1.map (pwT s)))) ≠ l := by rcases hd with hd | hd; exact absurd hd h2; exact hd
    refine zt ?_
    refine yag rfl (fun _ => ?_) (fun h9 => absurd h9 (by simp; omega))
    (try refine zy ?_)
    refine yal ?_
    exact yep hs1 (by simp) rfl rfl rfl
  ·rw [if_neg hd, yzm] at ht
   obtain ⟨hd1, hd2⟩ := not_or.1 hd
   have hd2 : yfg (ymf (ybd (ts1.map (pwT s)))) = l := Classical.not_not.1 hd2
   obtain ⟨t, r, rfl⟩ : ∃ t r, ts1 = t :: r := by
    cases ts1 with
    | nil => exact absurd rfl hd1
    | cons t r => exact ⟨t, r, rfl⟩
   have hsr : r <:+ ts := (List.suffix_cons t r).trans hs1
   have gr := h.suf hsr
   have lr := ywv hsr
   simp only [List.length_cons] at hb
   refine ybu 20 rfl (fun h2 => ?_) (fun h2 => ?_)
   ·exact absurd h2 (by simpa using hd1)
   (repeat (first | refine zo ?_ | refine yah rfl rfl (yea (ymf (ybd (_)))) rfl rfl ?_))
   refine zt ?_
   refine yag rfl (fun h9 => absurd h9 (by rw [hd2]; simp)) (fun _ => ?_)
   refine zt ?_; refine yac (lf := lfT) rfl ?_
   (repeat (first | refine zo ?_ | refine qd 1001 (yjt t r) ?_))
   rcases ydg ht with ⟨right, r2, q3, q4⟩ | ⟨c, r2, q3, rfl⟩
   ·have sp2 := yly _ _ _ _ q3
    obtain ⟨ts2, hs2, rfl⟩ := yeb sp2.1
    have c2 := ywk ((ih g (by omega)).bin (l + 1) (by omega) (by omega) _ _ gr (by omega) q3) hs2
    have b2 := sp2.2.1
    simp only [List.length_map, NT.had, List.tail_cons] at b2
    have hb2 : [left, right].flatten.length ≤ 1000000 := by
     simp only [List.flatten_cons, List.flatten_nil, List.length_append, List.length_nil]
     omega
    have ef : (ymf (ybd ((t :: r).map (pwT s))), (0 : Int)) :: [left, right].flatten = (ymf (ybd ((t :: r).map (pwT s))), 0) :: (left ++ right) := by simp
    refine zt ?_; refine yac (lf := lfT) rfl ?_
    (repeat (first | refine zo ?_ | refine qd 1001 (c2) ?_ | refine yah rfl rfl (yip (ymf (ybd ((t :: r).map (pwT s)))) [left, right] (by simp) hb2) rfl rfl ?_))
    rw [ef]
    refine zt ?_; refine yac (lf := lfT) rfl ?_
    (try refine zo ?_)
    refine zt ?_
    by_cases h3 : l = 3
    ·rw [if_pos h3] at q4
     simp only [Option.some.injEq] at q4
     subst q4
     refine yag rfl (fun _ => ?_) (fun h9 => absurd h9 (by simp; omega))
     (try refine zy ?_)
     refine yal ?_
     exact yep (hs2.trans hsr) (by simp) rfl rfl rfl
    ·rw [if_neg h3] at q4
     refine yag rfl (fun h9 => absurd h9 (by simp; omega)) (fun _ => ?_)
     refine zt ?_
     exact rnd (g, (ymf (ybd ((t :: r).map (pwT s))), 0) :: (left ++ right), ts2) ⟨by simp only; omega, q4, hs2.trans hsr, by simp only [List.length_cons, List.length_append]; omega⟩ (by simp only; omega) (by exact zs) (yab rfl yai)
   ·have sp2 := yly _ _ _ _ q3
    obtain ⟨ts2, hs2, rfl⟩ := yeb sp2.1
    have c2 := ypa ((ih g (by omega)).bin (l + 1) (by omega) (by omega) _ _ gr (by omega) q3) hs2
    refine zt ?_; refine yaz (lf := lfT) 5 rfl rfl rfl ?_
    (try refine zo ?_)
    exact ⟨rfl, yyo 1001 c2 rfl rfl rfl rfl (ydi (hs2.trans hsr) (by simp))⟩
 ·have sp0 := yly _ _ _ _ q1
  obtain ⟨ts0, hs0, rfl⟩ := yeb sp0.1
  have c0 := ypa ((ih f (Nat.le_refl _)).bin (l + 1) (by omega) (by omega) _ _ h hlen q1) hs0
  refine yby Tryz.func114 rfl rfl Tryz.ntmps114 Tryz.results114 rfl rfl ?_
  refine zt ?_; refine yac (lf := lfT) rfl ?_
  (try refine zo ?_)
  refine zt ?_; refine yac (lf := lfT) rfl ?_
  (try refine zo ?_)
  refine zt ?_
  refine yag rfl (fun h9 => absurd h9 (by simp; omega)) (fun _ => ?_)
  refine zt ?_; refine yaz (lf := lfT) 3 rfl rfl rfl ?_
  (try refine zo ?_)
  exact ⟨rfl, yyo 1001 c0 rfl rfl rfl rfl (ydi hs0 (by simp))⟩
theorem ziw (hl : names.length ≤ 1000) (hs : s.size ≤ 1000000000) : ∀ (n f : Nat), f ≤ n → IHp f s names us
 | n, 0, _ => ⟨fun ts res _ _ h => (by cases h), fun l _ _ ts res _ _ h => (by cases h), fun ts res _ _ h => (by cases h), fun ts res _ _ h => (by cases h)⟩
 | 0, f + 1, h => by omega
 | n + 1, f + 1, h => by
  have ih : ∀ g, g ≤ f → IHp g s names us := fun g hg => ziw hl hs n g (by omega)
  have i0 := ih f (Nat.le_refl _)
  exact ⟨fun ts res h1 h2 h3 => choice_step i0 h1 h2 h3, fun l h4 h5 ts res h1 h2 h3 => binary_step ih h4 h5 h1 h2 h3, fun ts res h1 h2 h3 => unary_step i0 h1 h2 h3, fun ts res h1 h2 h3 => prim_step i0 hl hs h1 h2 h3⟩
end
end
section
open Go.RowKit
theorem recovered_nil : Con Tryz.prog 47 [.v .nilIface] (.tup [.agg [i64 0, i64 0], ygx false]) := by
 refine zpq tok Tryz.func47 rfl rfl Tryz.ntmps47 Tryz.results47 rfl rfl ?_
 (repeat (first | refine zy ?_ | refine ycf (yield_eqNilYes (by kernel_rfl) rfl rfl) rfl rfl ?_))
 refine yal ?_; refine ⟨_, rfl, ?_⟩
 exact Frz.pure
def zux (p e : Int) : List (Nat × Option LObj) := [(1002, some (.cells [i64 p])), (1003, some (.cells [i64 e]))]
theorem cat_cl {p e p' e' : Int} : ∀ id o, yaf (zux p' e') id = some o → isC o = true → 14 ≤ id ∧ ∃ o', yaf (zux p e) id = some o' ∧ isC o' = true := by
 intro id o ho hc
 simp only [zux, yaf] at ho ⊢
 cases h1 : Nat.beq id 1002 with
 | true => have := Nat.eq_of_beq_eq_true h1; exact ⟨by omega, _, rfl, rfl⟩
 | false =>
  simp only [h1] at ho
  cases h2 : Nat.beq id 1003 with
  | true => have := Nat.eq_of_beq_eq_true h2; exact ⟨by omega, _, rfl, rfl⟩
  | false => simp only [h2] at ho; cases ho
theorem yxl (p e : Int) : ztq (KD Tryz.prog 46 .returning .returning) [.lp 1002 0, .lp 1003 0] (yaf (zux p e)) (.tup []) (yaf (zux p e)) := by
 refine conKD_recover (lf := lfT) tok Tryz.func46 rfl Tryz.ntmps46 Tryz.results46 rfl cat_cl rfl rfl rfl (by decide) rfl .idle ?_
 show Lex _ _ _ _ _ _ (S _ _)
 (repeat (first | refine zy ?_ | refine yah rfl rfl recovered_nil rfl rfl ?_))
 exact ⟨_, rfl, yam _, yaj (yab rfl (yab rfl yai))⟩
section
variable {g : FuncId} {caps : List AV} {hs hs' : List (Nat × Option LObj)}
structure CatMem (g : FuncId) (caps : List AV) (hs hs' : List (Nat × Option LObj)) : Prop where
 keys : ∀ i ∈ ygb (hs ++ hs'), 1000 ≤ i
 caps : ∀ i, i < 1000 → ment.mentL i caps = false
 fresh : ∀ i, i < 1000 → yen i hs = true
 fresh2 : ∀ i, i < 1000 → yen i hs' = true
 only : ∀ id o, yaf hs' id = some o → ywf (ygb (hs ++ hs')) o = true
theorem zhf {p e : Int} (h : ∀ i ∈ ygb hs, 1000 ≤ i) : Ahead [(3, some (.cells [i64 e])), (2, some (.cells [i64 p]))] hs := by
 refine ⟨fun i hi hm => ?_, fun j ob hj i hi => ?_⟩
 ·have := h i hi
  simp [ygb] at hm
  omega
 ·have : ob = .cells [i64 e] ∨ ob = .cells [i64 p] := by
   simp only [yaf] at hj
   split at hj
   ·cases hj; exact .inl rfl
   ·split at hj
    ·cases hj; exact .inr rfl
    ·cases hj
  rcases this with rfl | rfl <;> rfl
theorem zsq {i : Nat} (h : i ∈ ycv [(1002, 2), (1003, 3)]) : i < 1000 := by simp [ycv] at h; omega
theorem catch_ok (hc : yhb Tryz.prog g caps (yaf hs) (.tup []) (yaf hs')) (hm : CatMem g caps hs hs') : yhb Tryz.prog 27 [.fn g caps] (yaf hs) (.tup [i64 0, i64 0]) (yaf hs') := by
 refine ytr tok Tryz.func27 rfl rfl Tryz.ntmps27 Tryz.results27 rfl (fun id o ho hi => ⟨?_, hc.2.1 id o ho hi⟩) ?_
 ·have := hm.keys id (by simp only [ygb, List.map_append, List.mem_append]; exact .inr (yhz (by rw [ho]; rfl)))
  omega
 show AF _ _ _ _ (S _ _)
 have f1 : yfe 2 (yid 0 [AV.fn g caps]) = true := by
  show yfe 2 [(0, .fn g caps)] = true
  simp [yfe, ment, hm.caps 2 (by omega)]
 have f2 : yfe 3 ((2, .lp 2 0) :: yid 0 [AV.fn g caps]) = true := by
  show yfe 3 [(2, .lp 2 0), (0, .fn g caps)] = true
  simp [yfe, ment, hm.caps 3 (by omega)]
 refine ygu (ygf ?_)
 refine yac (lf := lfT) rfl ?_
 refine zA (h1 := f1) (h2 := hm.fresh 2 (by omega)) ?_
 refine zA (h1 := f2) (h2 := yvw rfl rfl (hm.fresh 3 (by omega))) ?_
 refine yoh ?_
 show AF _ _ _ _ (S _ _)
 refine ygu ?_
 refine ygg (lf := lfT) 1 rfl rfl rfl rfl rfl rfl (fun d h => by cases h) ?_
 refine zF ?_
 refine yoh ⟨rfl, _, _, _, ⟨_, Tryz.func46, rfl, rfl⟩, rfl, rfl, fun x hx => ?_, ?_⟩
 ·have : ∀ y, look ((4, .fn 46 [.lp 2 0, .lp 3 0]) :: (3, .lp 3 0) :: (2, .lp 2 0) :: yid 0 [AV.fn g caps]) x ≠ some y := fun y hy => by
   simp only [look, yid] at hy
   (repeat' split at hy)
   all_goals first | (rename_i hb; have := Nat.eq_of_beq_eq_true hb; omega) | cases hy
  cases hq : look ((4, .fn 46 [.lp 2 0, .lp 3 0]) :: (3, .lp 3 0) :: (2, .lp 2 0) :: yid 0 [AV.fn g caps]) x with
  | none => exact hq
  | some y => exact absurd hq (this y)
 show Lex _ _ _ _ _ [] _
 refine .nil ?_
 show A _ _ _ _ _
 refine yzr (s' := S [(0, .fn g caps), (2, .lp 2 0), (3, .lp 3 0), (1000000, .lp 2 0), (1000001, .lp 3 0)] _) ?_ ⟨yoc ⟨rfl, rfl, rfl, rfl, rfl, trivial⟩, fun id x h => h⟩
 have hk0 := hm.keys
 have hbig : ∀ i, i < 1000 → ∀ j ∈ ygb (hs ++ hs'), Nat.beq i j = false := fun i hi j hj => ygk (by have := hk0 j hj; omega)
 refine yvj ?_
 refine yac (lf := lfT) rfl ?_
 refine zC ?_
 refine L_callI (pre := [_, _]) (xs := []) (t' := [(2, .lp 2 0), (3, .lp 3 0), (1000000, .lp 2 0), (1000001, .lp 3 0)]) hc rfl rfl rfl (zhf hk0) hm.only (fun x y hy => ⟨yqh (by exact zs) x y hy, fun i hi => ?_⟩) rfl rfl rfl ?_
 ·simp only [look] at hy
  (repeat' split at hy)
  all_goals first | (cases hy; exact hbig _ (by omega) i hi) | cases hy
 (try refine zy ?_)
 refine yal ?_
 refine ynl (h' := hs') (args0 := [.lp 1002 0, .lp 1003 0]) [(1002, 2), (1003, 3)] rfl rfl rfl ⟨rfl, rfl, trivial⟩ (yxl 0 0) rfl rfl rfl rfl (yab rfl (yab rfl yai)) rfl (fun j ob hj hob => ⟨fun i hi => (yjf (hm.fresh2 i (zsq hi))).2 j ob hob, ob, ?_, .inl rfl⟩) rfl (yam _) (fun id o ho => ?_)
 ·refine (ynp (f := [(3, _), (2, _), (3, _), (2, _)]) ?_).trans hob
  simp [ygb, ycv] at hj ⊢
  omega
 ·refine (ynp (f := ylz _ _ _) ?_).trans ho
  have := hk0 id (by simp only [ygb, List.map_append, List.mem_append]; exact .inr (yhz (by rw [ho]; rfl)))
  simp [ygb, ylz]
  omega
theorem catchm_ok (hc : yhb Tryz.prog g caps (yaf hs) (.tup []) (yaf hs')) (hm : CatMem g caps hs hs') : yhb Tryz.prog 27 [.fm g caps] (yaf hs) (.tup [i64 0, i64 0]) (yaf hs') := by
 refine ytr tok Tryz.func27 rfl rfl Tryz.ntmps27 Tryz.results27 rfl (fun id o ho hi => ⟨?_, hc.2.1 id o ho hi⟩) ?_
 ·have := hm.keys id (by simp only [ygb, List.map_append, List.mem_append]; exact .inr (yhz (by rw [ho]; rfl)))
  omega
 show AF _ _ _ _ (S _ _)
 have f1 : yfe 2 (yid 0 [AV.fm g caps]) = true := by
  show yfe 2 [(0, .fm g caps)] = true
  simp [yfe, ment, hm.caps 2 (by omega)]
 have f2 : yfe 3 ((2, .lp 2 0) :: yid 0 [AV.fm g caps]) = true := by
  show yfe 3 [(2, .lp 2 0), (0, .fm g caps)] = true
  simp [yfe, ment, hm.caps 3 (by omega)]
 refine ygu (ygf ?_)
 refine yac (lf := lfT) rfl ?_
 refine zA (h1 := f1) (h2 := hm.fresh 2 (by omega)) ?_
 refine zA (h1 := f2) (h2 := yvw rfl rfl (hm.fresh 3 (by omega))) ?_
 refine yoh ?_
 show AF _ _ _ _ (S _ _)
 refine ygu ?_
 refine ygg (lf := lfT) 1 rfl rfl rfl rfl rfl rfl (fun d h => by cases h) ?_
 refine zF ?_
 refine yoh ⟨rfl, _, _, _, ⟨_, Tryz.func46, rfl, rfl⟩, rfl, rfl, fun x hx => ?_, ?_⟩
 ·have : ∀ y, look ((4, .fn 46 [.lp 2 0, .lp 3 0]) :: (3, .lp 3 0) :: (2, .lp 2 0) :: yid 0 [AV.fm g caps]) x ≠ some y := fun y hy => by
   simp only [look, yid] at hy
   (repeat' split at hy)
   all_goals first | (rename_i hb; have := Nat.eq_of_beq_eq_true hb; omega) | cases hy
  cases hq : look ((4, .fn 46 [.lp 2 0, .lp 3 0]) :: (3, .lp 3 0) :: (2, .lp 2 0) :: yid 0 [AV.fm g caps]) x with
  | none => exact hq
  | some y => exact absurd hq (this y)
 show Lex _ _ _ _ _ [] _
 refine .nil ?_
 show A _ _ _ _ _
 refine yzr (s' := S [(0, .fm g caps), (2, .lp 2 0), (3, .lp 3 0), (1000000, .lp 2 0), (1000001, .lp 3 0)] _) ?_ ⟨yoc ⟨rfl, rfl, rfl, rfl, rfl, trivial⟩, fun id x h => h⟩
 have hk0 := hm.keys
 have hbig : ∀ i, i < 1000 → ∀ j ∈ ygb (hs ++ hs'), Nat.beq i j = false := fun i hi j hj => ygk (by have := hk0 j hj; omega)
 refine yvj ?_
 refine yac (lf := lfT) rfl ?_
 refine zC ?_
 refine L_callIm (pre := [_, _]) (t' := [(2, .lp 2 0), (3, .lp 3 0), (1000000, .lp 2 0), (1000001, .lp 3 0)]) hc rfl rfl (zhf hk0) hm.only (fun x y hy => ⟨yqh (by exact zs) x y hy, fun i hi => ?_⟩) rfl rfl rfl ?_
 ·simp only [look] at hy
  (repeat' split at hy)
  all_goals first | (cases hy; exact hbig _ (by omega) i hi) | cases hy
 (try refine zy ?_)
 refine yal ?_
 refine ynl (h' := hs') (args0 := [.lp 1002 0, .lp 1003 0]) [(1002, 2), (1003, 3)] rfl rfl rfl ⟨rfl, rfl, trivial⟩ (yxl 0 0) rfl rfl rfl rfl (yab rfl (yab rfl yai)) rfl (fun j ob hj hob => ⟨fun i hi => (yjf (hm.fresh2 i (zsq hi))).2 j ob hob, ob, ?_, .inl rfl⟩) rfl (yam _) (fun id o ho => ?_)
 ·refine (ynp (f := [(3, _), (2, _), (3, _), (2, _)]) ?_).trans hob
  simp [ygb, ycv] at hj ⊢
  omega
 ·refine (ynp (f := ylz _ _ _) ?_).trans ho
  have := hk0 id (by simp only [ygb, List.map_append, List.mem_append]; exact .inr (yhz (by rw [ho]; rfl)))
  simp [ygb, ylz]
  omega
end
end
section
open Go.RowKit
theorem tokIn_scan {s : ByteArray} {ts : List Tok} (h : yfr s = .ok ts) : ydd s ts := by
 intro t ht
 obtain ⟨h1, h2, h3, h4, _⟩ := (zkw s ts h).mem t ht
 refine ⟨h3, h4, fun hn => ?_⟩
 obtain ⟨_, _, c, x, hc, hl⟩ := (ydw hn).1
 simp only [pwT] at hc
 have : ∃ r, yad s t.from_ = c :: r := by
  cases hb : yad s t.from_ with
  | nil => rw [hb] at hc; simp at hc
  | cons d r =>
   rw [hb] at hc
   obtain ⟨k, hk⟩ : ∃ k, t.to - t.from_ = k + 1 := ⟨t.to - t.from_ - 1, by omega⟩
   rw [hk] at hc
   simp only [List.take_succ_cons, List.cons.injEq] at hc
   rw [hc.1]
   exact ⟨r, rfl⟩
 obtain ⟨r, hr⟩ := this
 rw [hr] at h2
 simp only [yms, hl, if_true] at h2
 split at h2
 ·cases h2
 ·simp only [Except.ok.injEq, Prod.mk.injEq] at h2
  exact h2.1.symm
section
variable {s : ByteArray} {ts : List Tok} {names : List Bs} {us : List Value}
end
end
section
open Go.RowKit
def yme (n : Nat) : List AV → List (Nat × AV)
 | [] => []
 | y :: l => (n, y) :: yme (n + 1) l
theorem yhp : ∀ (l : List AV) (n : Nat) (t : List (Nat × AV)) (x : Nat), look (yme n l ++ t) x = if n ≤ x ∧ x < n + l.length then l[x - n]? else look t x
 | [], n, t, x => by
  have : ¬ (n ≤ x ∧ x < n + ([] : List AV).length) := by simp
  rw [if_neg this]; rfl
 | y :: l, n, t, x => by
  show look ((n, y) :: (yme (n + 1) l ++ t)) x = _
  simp only [look]
  cases hb : Nat.beq x n with
  | true =>
   have e := Nat.eq_of_beq_eq_true hb
   subst e
   simp
  | false =>
   have e : x ≠ n := fun e => by subst e; simp at hb
   simp only
   rw [yhp l (n + 1) t x]
   by_cases h : n + 1 ≤ x ∧ x < n + 1 + l.length
   ·rw [if_pos h, if_pos (by simp; omega), show x - n = (x - (n + 1)) + 1 by omega, List.getElem?_cons_succ]
   ·rw [if_neg h, if_neg (by simp; omega)]
theorem LoudAt_aside {P : Program} {N : Nat} {o : Oper} {t t' : List (Nat × AV)} {h h' : List (Nat × Option LObj)} {id : Nat} {xs xs' tail : List AV} (hb : yaf h id = some (.cells (xs ++ tail))) (ht : yto 1000000 t = true) (ht' : yto 1000000 t' = true)
  (hin : ∀ us : List Value, us.length = tail.length → yif P N o (S (yme 1000000 tail ++ t) ((id, some (.cells (xs ++ us.map .v))) :: h)) (· = S (yme 1000000 tail ++ t') ((id, some (.cells (xs' ++ us.map .v))) :: h'))) :
  yif P N o (S t h) (· = S t' ((id, some (.cells (xs' ++ tail))) :: h')) := by
 intro B ok0 lv a w hs Q
 obtain ⟨bo, n, g1, g2⟩ := hs.inv.obj id _ hb
 cases bo with
 | none => simp [yle] at g2
 | some b =>
 obtain ⟨q1, q2, c, e, q3, q4, q5, q6, q7⟩ := g2
 have hcl : xs.length + tail.length ≤ c.size := by rw [List.length_append] at q5; omega
 obtain ⟨us, hus, husv⟩ : ∃ us : List Value, us.length = tail.length ∧ ∀ k, k < tail.length → us[k]? = c[xs.length + k]? := by
  refine ⟨(c.toList.drop xs.length).take tail.length, by simp; omega, fun k hk => ?_⟩
  rw [List.getElem?_take, if_pos hk, List.getElem?_drop, Array.getElem?_toList]
 have hval : ∀ (k : Nat) (y : AV), tail[k]? = some y → ∃ u, us[k]? = some u ∧ c[xs.length + k]? = some u ∧ Rel (ybt B ok0 lv w) w lv y u := by
  intro k y hy
  have hk := (List.getElem?_eq_some_iff.1 hy).1
  have hc : c[xs.length + k]? = some (c[xs.length + k]'(by omega)) := Array.getElem?_eq_getElem (by omega)
  refine ⟨_, (husv k hk).trans hc, hc, q7 (xs.length + k) y _ ?_ hc⟩
  rw [List.getElem?_append_right (by omega), Nat.add_sub_cancel_left, hy]
 have hcellv : ∀ (k : Nat) (u : Value), us[k]? = some u → u.oneCell' = true := by
  intro k u hu
  have hk : k < tail.length := by have := (List.getElem?_eq_some_iff.1 hu).1; omega
  obtain ⟨u', h1, _, h2⟩ := hval k _ (List.getElem?_eq_getElem hk)
  rw [hu] at h1
  cases h1
  exact h2.oneCell (q6 _ (by simp [List.getElem_mem]))
 let B' : Bse := ⟨B.w, B.lent, B.pin, B.rd, B.dl, fun x => us.getD (x - 1000000) undef⟩
 have hI : Inv B' ok0 (yaf h) lv w := hs.inv.pinned B.pin B.rd B.dl _ hs.inv.base.rdok
 have hI2 : Inv B' ok0 (yaf ((id, some (.cells (xs ++ us.map .v))) :: h)) lv w := by
  refine ⟨hI.base, hI.ok0lt, fun j hj => ?_, hI.inj, fun j x hj => ?_⟩
  ·refine hI.dom j ?_
   simp only [yaf] at hj
   split at hj
   ·cases hj
   ·exact hj
  ·simp only [yaf] at hj
   split at hj
   ·rename_i hbq
    have hjj := Nat.eq_of_beq_eq_true hbq
    subst hjj
    cases hj
    refine ⟨some b, n, g1, q1, q2, c, e, q3, q4, by simp [hus]; omega, fun x hx => ?_, fun i x u hi hu => ?_⟩
    ·rcases List.mem_append.1 hx with hx | hx
     ·exact q6 x (by simp [hx])
     ·obtain ⟨u, hu, rfl⟩ := List.mem_map.1 hx
      obtain ⟨k, hk⟩ := List.getElem?_of_mem hu
      exact hcellv k u hk
    ·by_cases hix : i < xs.length
     ·rw [List.getElem?_append_left hix] at hi
      exact q7 i x u (by rw [List.getElem?_append_left hix]; exact hi) hu
     ·rw [List.getElem?_append_right (by omega), List.getElem?_map] at hi
      cases hk : us[i - xs.length]? with
      | none => rw [hk] at hi; cases hi
      | some v =>
       rw [hk] at hi
       cases hi
       have hlt : i - xs.length < tail.length := by have := (List.getElem?_eq_some_iff.1 hk).1; omega
       have := husv _ hlt
       rw [show xs.length + (i - xs.length) = i by omega, hk, hu] at this
       cases this
       exact .v _
   ·exact hI.obj j x hj
 have hs' : Sim B' ok0 N (S (yme 1000000 tail ++ t) ((id, some (.cells (xs ++ us.map .v))) :: h)) lv a w := by
  refine ⟨hI2, hs.size, fun x y hx => ?_, hs.defers, hs.big, fun j b' o' hN hj hc hb' => ?_⟩
  ·simp only [S] at hx
   rw [yhp] at hx
   split at hx
   ·rename_i hr
    refine ⟨.inr hr.1, ?_⟩
    obtain ⟨u, h1, _, h2⟩ := hval _ y hx
    have e : yfi B' a x = u := by
     simp only [yfi, if_neg (show ¬ x < 1000000 by omega)]
     show us.getD (x - 1000000) undef = u
     simp [h1]
    rw [e]
    exact h2
   ·have hlt := ynf ht x y hx
    obtain ⟨h1, h2⟩ := hs.frame x y hx
    refine ⟨h1, ?_⟩
    simp only [yfi, if_pos hlt] at h2 ⊢
    exact h2
  ·simp only [S, yaf] at hj
   split at hj
   ·rename_i hbq
    have hjj := Nat.eq_of_beq_eq_true hbq
    subst hjj
    exact hs.pin j b' _ hN hb rfl hb'
   ·exact hs.pin j b' o' hN hj hc hb'
 refine Oper.wp_mono (fun a' w' hq => ?_) (hin us hus B' ok0 lv a w hs' Q)
 obtain ⟨s', lv', rfl, hs2⟩ := hq
 refine ⟨_, lv', rfl, ?_⟩
 have hfr : ∀ (k : Nat) (y : AV), tail[k]? = some y → ∃ u, us[k]? = some u ∧ Rel (ybt B ok0 lv' w') w' lv' y u := by
  intro k y hy
  have hk := (List.getElem?_eq_some_iff.1 hy).1
  obtain ⟨u, h1, _, _⟩ := hval k y hy
  refine ⟨u, h1, ?_⟩
  have h2 := (hs2.frame (1000000 + k) y (by simp only [S]; rw [yhp, if_pos (by omega), Nat.add_sub_cancel_left]; exact hy)).2
  have e : yfi B' a' (1000000 + k) = u := by
   simp only [yfi, if_neg (show ¬ 1000000 + k < 1000000 by omega)]
   show us.getD (1000000 + k - 1000000) undef = u
   rw [Nat.add_sub_cancel_left]
   simp [h1]
  rw [e] at h2
  exact h2
 have hJ : Inv B ok0 (yaf ((id, some (.cells (xs' ++ us.map .v))) :: h')) lv' w' := hs2.inv.pinned B.pin B.rd B.dl B.gv hs2.inv.base.rdok
 refine ⟨⟨hJ.base, hJ.ok0lt, fun j hj => ?_, hJ.inj, fun j x hj => ?_⟩, hs2.size, fun x y hx => ?_, hs2.defers, hs2.big, fun j b' o' hN hj hc hb' => ?_⟩
 ·refine hJ.dom j ?_
  simp only [S, yaf] at hj ⊢
  split at hj
  ·cases hj
  ·exact hj
 ·simp only [S, yaf] at hj
  split at hj
  ·rename_i hbq
   have hjj := Nat.eq_of_beq_eq_true hbq
   subst hjj
   cases hj
   obtain ⟨bo2, n2, k1, k2⟩ := hJ.obj j (.cells (xs' ++ us.map .v)) (by simp [yaf])
   cases bo2 with
   | none => simp [yle] at k2
   | some b2 =>
   obtain ⟨r1, r2, c2, e2, r3, r4, r5, r6, r7⟩ := k2
   refine ⟨some b2, n2, k1, r1, r2, c2, e2, r3, r4, by simp [hus] at r5; simp; omega, fun x hx => ?_, fun i x u hi hu => ?_⟩
   ·rcases List.mem_append.1 hx with hx | hx
    ·exact r6 x (by simp [hx])
    ·exact q6 x (by simp [hx])
   ·by_cases hix : i < xs'.length
    ·rw [List.getElem?_append_left hix] at hi
     exact r7 i x u (by rw [List.getElem?_append_left hix]; exact hi) hu
    ·rw [List.getElem?_append_right (by omega)] at hi
     obtain ⟨v, h1, h2⟩ := hfr _ x hi
     have h3 := r7 i (.v v) u (by rw [List.getElem?_append_right (by omega), List.getElem?_map, h1]; rfl) hu
     have := yfp h3
     subst this
     exact h2
  ·refine hJ.obj j x ?_
   simp only [yaf]
   rename_i hbq
   rw [hbq]
   exact hj
 ·simp only [S] at hx
  have hlt := ynf ht' x y hx
  obtain ⟨h1, h2⟩ := hs2.frame x y (by simp only [S]; rw [yhp, if_neg (by omega)]; exact hx)
  refine ⟨h1, ?_⟩
  simp only [yfi, if_pos hlt] at h2 ⊢
  exact h2
 ·simp only [S, yaf] at hj
  split at hj
  ·rename_i hbq
   have hjj := Nat.eq_of_beq_eq_true hbq
   subst hjj
   exact hs2.pin j b' (.cells (xs' ++ us.map .v)) hN (by simp [S, yaf]) rfl hb'
  ·rename_i hbq
   exact hs2.pin j b' o' hN (by simp only [S, yaf]; rw [hbq]; exact hj) hc hb'
section
variable {P : Program} {N : Nat} {ops : Array Oper} {lf : Oper → Bool} {Q : SS → Prop} {t : List (Nat × AV)} {h : List (Nat × Option LObj)} {rest : List Oper} {d : Nat} {ty : TypeId} {pos : String} {af : Array Edge} {gd : Option (Nat × Bool)} {r : AV}
theorem Y_callM (sg : List (Nat × Nat)) {g : Operand} {args : List Operand} {ats : Array TypeId} {f : FuncId} {caps xs args0 : List AV} {hs hs' h' : List (Nat × Option LObj)} (hc : yhb P f args0 (yaf hs) r (yaf hs')) (hg : evF (look t) g = some (.fn f caps)) (hx : evL (evF (look t)) args = some xs) (hargs : xs ++ caps = args0.map (ygc (yey sg)))
  (hk : yfv (ybv sg) = true) (hv : yfv (ycv sg) = true) (hd1 : ytv (ybv sg) hs = true) (hd2 : ytv (ybv sg) hs' = true) (hsub : zdd h (zot sg hs)) (hr : ygz (ybv sg) r = true) (ho : ymo (ybv sg) hs' = true) (hh : yim (ycv sg) (ynj (ycv sg) h) = some h')
  (hd : Nat.blt d N = true) : yif P N ⟨some d, .call { callee := .value g, args := args.toArray, argTypes := ats }, ty, pos, af, gd⟩ (S t h) (· = S ((d, ygc (yey sg) r) :: yhd sg hs' t) (ylz sg hs' sg ++ h')) := by
 refine yvt (σ := yey sg) (ids := ybv sg) rfl rfl (by simpa using hd) (.inl hg) hx hargs hc (yvc hv) (yhy hd1) (yhy hd2) (yrd hsub) hr (ylp ho) (fun x y hy => ?_) (fun i hi => yyq hk hv i hi) (fun j ob' hj hob => ?_)
 ·simp only [S, look] at hy
  cases hb : Nat.beq x d with
  | true => simp only [hb, Option.some.injEq] at hy; exact .inl ⟨Nat.eq_of_beq_eq_true hb, hy.symm⟩
  | false =>
   simp only [hb] at hy
   refine .inr ⟨fun e => by subst e; simp at hb, ?_⟩
   rcases yjd hy with hq | ⟨h1, h2⟩
   ·exact .inl hq
   ·exact .inr ⟨h1, ywc hk h2⟩
 ·have hjv : j ∉ ycv sg := fun hm => by
   obtain ⟨i, h1, h2⟩ := ywt hm hk
   exact hj i h1 h2
  simp only [S, yoi hjv] at hob
  obtain ⟨h1, h2⟩ := ysp hh j ob' hob
  rw [yyu hjv] at h2
  exact ⟨fun i hi => h1 _ (yls hi), h2⟩
theorem zmh {l : List AV} (ht : yto 1000000 t = true) {x : Operand} {y : AV} (h : evF (look t) x = some y) : evF (look (yme 1000000 l ++ t)) x = some y := by
 cases x with
 | tmp s =>
  simp only [evF] at h ⊢
  cases hb : Nat.ble 1000000 s with
  | true => rw [hb] at h; cases h
  | false =>
   rw [hb] at h
   have := ynf ht s y h
   simp only
   rw [yhp, if_neg (by omega)]
   exact h
 | _ => exact h
theorem zhu {l : List AV} (ht : yto 1000000 t = true) : ∀ {xs : List Operand} {ys : List AV}, evL (evF (look t)) xs = some ys → evL (evF (look (yme 1000000 l ++ t))) xs = some ys
 | [], ys, h => h
 | x :: xs, ys, h => by
  simp only [evL] at h ⊢
  cases h1 : evF (look t) x with
  | none => rw [h1] at h; cases h
  | some y =>
   rw [h1] at h
   rw [zmh ht h1]
   cases h2 : evL (evF (look t)) xs with
   | none => rw [h2] at h; cases h
   | some zs =>
    rw [h2] at h
    rw [zhu ht h2]
    exact h
end
def rdX (s : ByteArray) (ts : List Tok) (pre : List AV) (us : List Value) : List (Nat × Option LObj) := [(1001, some (.cells (ycj s :: .sl 4 (ts.map yce) :: (pre ++ us.map .v))))]
theorem znh (σ : Nat → Nat) : ∀ (a b : List AV), ygc.renL σ (a ++ b) = ygc.renL σ a ++ ygc.renL σ b
 | [], b => rfl
 | x :: a, b => by simp only [List.cons_append, ygc.renL, znh σ a b]
theorem zbn (ids : List Nat) : ∀ (a b : List AV), ygz.onlyL ids (a ++ b) = (ygz.onlyL ids a && ygz.onlyL ids b)
 | [], b => by simp [ygz.onlyL]
 | x :: a, b => by simp only [List.cons_append, ygz.onlyL, zbn ids a b, Bool.and_assoc]
theorem yzh (σ : Nat → Nat) (s : ByteArray) (ts : List Tok) {pre : List AV} (us : List Value) (hp : ybc.pureL pre = true) : yzf σ (.cells (ycj s :: .sl 4 (ts.map yce) :: (pre ++ us.map .v))) = .cells (ycj s :: .sl 4 (ts.map yce) :: (pre ++ us.map .v)) := by
 simp only [yzf, ygc.renL, znh, ztd, yhf.rows hp]; rfl
section
variable {s : ByteArray} {ts ts' : List Tok} {us : List Value} {pre : List AV}
theorem zfy (b : Nat) : ∀ {t : List (Nat × AV)}, yjh b t = true → yhd [(1001, b)] (rdX s ts pre us) t = t
 | [], _ => rfl
 | (x, y) :: t, h => by
  simp only [yjh] at h
  cases ho : zaw b y with
  | true =>
   rw [ho] at h
   simp only [yhd, zif (hs' := rdX s ts pre us) rfl ho]
   rw [zfy b h]
  | false => rw [ho] at h; cases h
variable {P : Program} {N : Nat} {ops : Array Oper} {lf : Oper → Bool} {Q : SS → Prop} {t : List (Nat × AV)} {h : List (Nat × Option LObj)} {rest : List Oper} {d : Nat} {ty : TypeId} {pos : String} {af : Array Edge} {gd : Option (Nat × Bool)}
theorem zur (b : Nat) {tail : List AV} {g : Operand} {args : List Operand} {ats : Array TypeId} {f : FuncId} {args0 : List AV} {r : AV} {h' : List (Nat × Option LObj)} (hc : ∀ us : List Value, us.length = tail.length → yhb P f (.lp 1001 0 :: args0) (yaf (rdX s ts pre us)) r (yaf (rdX s ts' pre us))) (hpp : ybc.pureL pre = true) (hp : ybc.pureL args0 = true) (hpr : ybc r = true) (hg : evF (look t) g = some (.fn f [])) (hx : evL (evF (look t)) args = some (.lp b 0 :: args0))
  (hb : yaf h b = some (.cells (ycj s :: .sl 4 (ts.map yce) :: (pre ++ tail)))) (ht : yto 1000000 t = true) (hd1 : Nat.blt d 1000000 = true) (hk : yjh b (yme 1000000 tail ++ t) = true) (hh : yim [b] (ynj [b] h) = some h') (hl : lf ⟨some d, .call { callee := .value g, args := args.toArray, argTypes := ats }, ty, pos, af, gd⟩ = true) (hw : yan ops (look t) ⟨some d, .call { callee := .value g, args := args.toArray, argTypes := ats }, ty, pos, af, gd⟩ = some true) (hd : Nat.blt d N = true)
  (k : Lex P N ops lf Q rest (S ((d, r) :: t) ((b, some (.cells (ycj s :: .sl 4 (ts'.map yce) :: (pre ++ tail)))) :: h'))) : Lex P N ops lf Q (⟨some d, .call { callee := .value g, args := args.toArray, argTypes := ats }, ty, pos, af, gd⟩ :: rest) (S t h) := by
 have ht2 : yto 1000000 ((d, r) :: t) = true := by simp only [yto, hd1, ht, Bool.and_self]
 refine ykn hl hw (LoudAt_aside (xs := ycj s :: .sl 4 (ts.map yce) :: pre) (xs' := ycj s :: .sl 4 (ts'.map yce) :: pre) hb ht ht2 fun us hus => ?_) k
 have hy := Y_callM (N := N) (d := d) (ty := ty) (pos := pos) (af := af) (gd := gd) (ats := ats) [(1001, b)] (hc us hus) (zmh (l := tail) ht hg) (zhu (l := tail) ht hx) (h := (b, some (.cells ((ycj s :: .sl 4 (ts.map yce) :: pre) ++ us.map .v))) :: h) (h' := h') ?_ rfl rfl rfl rfl (yab ?_ yai) (ynu hpr) ?_ ?_ hd
 ·rw [zfy b hk, yhf hpr] at hy
  have e1 : ylz [(1001, b)] (rdX s ts' pre us) [(1001, b)] ++ h' = (b, some (.cells ((ycj s :: .sl 4 (ts'.map yce) :: pre) ++ us.map .v))) :: h' := by
   simp only [ylz, rdX, yaf, yzh _ _ _ _ hpp]
   rfl
  rw [e1] at hy
  have e2 : S ((d, r) :: (yme 1000000 tail ++ t)) ((b, some (.cells ((ycj s :: .sl 4 (ts'.map yce) :: pre) ++ us.map .v))) :: h') = S (yme 1000000 tail ++ (d, r) :: t) ((b, some (.cells ((ycj s :: .sl 4 (ts'.map yce) :: pre) ++ us.map .v))) :: h') := by
   simp only [S, SS.mk.injEq, and_true]
   funext x
   rw [yhp]
   simp only [look]
   cases hbq : Nat.beq x d with
   | true =>
    have e := Nat.eq_of_beq_eq_true hbq
    have : d < 1000000 := by simpa using hd1
    rw [if_neg (by omega)]
   | false => simp only; rw [yhp]
  rw [e2] at hy
  exact hy
 ·simp only [List.append_nil, List.map_cons, ygc, yey]
  congr 1
  rw [← ycu, yhf.rows hp]
 ·have e : yaf ((b, some (.cells ((ycj s :: .sl 4 (ts.map yce) :: pre) ++ us.map .v))) :: h) b = some (.cells (ycj s :: .sl 4 (ts.map yce) :: (pre ++ us.map .v))) := by simp only [yaf, zio]; rfl
  exact e.trans (congrArg some (yzh _ _ _ _ hpp).symm)
 ·simp only [ymo, rdX, ywf, ygz.onlyL, zbn, zlb, ynu.rows hpp]; rfl
 ·simp only [ycv, ynj, zmx, zio]
  exact hh
theorem qa {tail : List AV} {g : Operand} {args : List Operand} {ats : Array TypeId} {f : FuncId} {args0 : List AV} {r : AV} {h' : List (Nat × Option LObj)} (b : Nat) (hc : ∀ us : List Value, us.length = tail.length → yhb P f (.lp 1001 0 :: args0) (yaf (rdX s ts pre us)) r (yaf (rdX s ts' pre us))) (k : Lex P N ops lf Q rest (S ((d, r) :: t) ((b, some (.cells (ycj s :: .sl 4 (ts'.map yce) :: (pre ++ tail)))) :: h'))) (hpp : ybc.pureL pre = true := by rfl) (hp : ybc.pureL args0 = true := by rfl) (hpr : ybc r = true := by rfl) (hg : evF (look t) g = some (.fn f []) := by rfl) (hx : evL (evF (look t)) args = some (.lp b 0 :: args0) := by rfl) (hb : yaf h b = some (.cells (ycj s :: .sl 4 (ts.map yce) :: (pre ++ tail))) := by rfl) (ht : yto 1000000 t = true := by rfl) (hd1 : Nat.blt d 1000000 = true := by rfl) (hk : yjh b (yme 1000000 tail ++ t) = true := by rfl) (hh : yim [b] (ynj [b] h) = some h' := by rfl) (hl : lf ⟨some d, .call { callee := .value g, args := args.toArray, argTypes := ats }, ty, pos, af, gd⟩ = true := by rfl) (hw : yan ops (look t) ⟨some d, .call { callee := .value g, args := args.toArray, argTypes := ats }, ty, pos, af, gd⟩ = some true := by rfl) (hd : Nat.blt d N = true := by rfl) : Lex P N ops lf Q (⟨some d, .call { callee := .value g, args := args.toArray, argTypes := ats }, ty, pos, af, gd⟩ :: rest) (S t h) :=
 zur b hc hpp hp hpr hg hx hb ht hd1 hk hh hl hw hd k
end
end
section
open Go.RowKit
theorem yqc {s : ByteArray} {ts ts' : List Tok} {pre : List AV} {us : List Value} {N : Nat} (hN : Nat.ble N 1001 = true) : ∀ id o, yaf (rdX s ts' pre us) id = some o → isC o = true → N ≤ id ∧ ∃ o', yaf (rdX s ts pre us) id = some o' ∧ isC o' = true := by
 intro id o ho hc
 simp only [rdX, yaf] at ho ⊢
 cases h1 : Nat.beq id 1001 with
 | true => have := Nat.eq_of_beq_eq_true h1; exact ⟨by simp only [Nat.ble_eq] at hN; omega, _, rfl, rfl⟩
 | false => simp only [h1] at ho; cases ho
theorem zib {d : Nat} {s : ByteArray} {ts : List Tok} {us : List Value} {h : List (Nat × Option LObj)} (hd : Nat.beq d 1001 = false) (hf : yen d h = true) : yen d ((1001, some (.cells (ycj s :: .sl 4 (ts.map yce) :: ([] ++ us.map .v)))) :: h) = true := by
 simp [yen, hd, hf, ygr, ment.mentL, zqm, ment, ycj]
section
variable {s : ByteArray} {ts ts' : List Tok} {us : List Value} {pre : List AV}
variable {P : Program} {N : Nat} {ops : Array Oper} {lf : Oper → Bool} {Q : SS → Prop} {t : List (Nat × AV)} {h : List (Nat × Option LObj)} {rest : List Oper} {d : Nat} {ty : TypeId} {pos : String} {af : Array Edge} {gd : Option (Nat × Bool)}
theorem L_rdT0 (b : Nat) {y : AV} {tail : List AV} {g : Operand} {args : List Operand} {ats : Array TypeId} {f : FuncId} {args0 : List AV} {r : AV} {h' : List (Nat × Option LObj)} (hc : ∀ (u0 : Value) (us : List Value), yhb P f (.lp 1001 0 :: args0) (yaf (rdX s ts [] (u0 :: us))) r (yaf (rdX s ts' [] (u0 :: us)))) (hp : ybc.pureL args0 = true) (hpr : ybc r = true) (hg : evF (look t) g = some (.fn f [])) (hx : evL (evF (look t)) args = some (.lp b 0 :: args0))
  (hb : yaf h b = some (.cells (ycj s :: .sl 4 (ts.map yce) :: y :: tail))) (ht : yto 1000000 t = true) (hd1 : Nat.blt d 1000000 = true) (hk : yjh b (yme 1000000 (y :: tail) ++ t) = true) (hh : yim [b] (ynj [b] h) = some h') (hl : lf ⟨some d, .call { callee := .value g, args := args.toArray, argTypes := ats }, ty, pos, af, gd⟩ = true) (hw : yan ops (look t) ⟨some d, .call { callee := .value g, args := args.toArray, argTypes := ats }, ty, pos, af, gd⟩ = some true) (hd : Nat.blt d N = true)
  (k : Lex P N ops lf Q rest (S ((d, r) :: t) ((b, some (.cells (ycj s :: .sl 4 (ts'.map yce) :: y :: tail))) :: h'))) : Lex P N ops lf Q (⟨some d, .call { callee := .value g, args := args.toArray, argTypes := ats }, ty, pos, af, gd⟩ :: rest) (S t h) :=
 zur b (pre := []) (tail := y :: tail) (fun us hus => match us, hus with
  | [], hus => by simp at hus
  | u0 :: us, _ => hc u0 us) rfl hp hpr hg hx hb ht hd1 hk hh hl hw hd k
theorem qt {y : AV} {tail : List AV} {g : Operand} {args : List Operand} {ats : Array TypeId} {f : FuncId} {args0 : List AV} {r : AV} {h' : List (Nat × Option LObj)} (b : Nat) (hc : ∀ (u0 : Value) (us : List Value), yhb P f (.lp 1001 0 :: args0) (yaf (rdX s ts [] (u0 :: us))) r (yaf (rdX s ts' [] (u0 :: us)))) (k : Lex P N ops lf Q rest (S ((d, r) :: t) ((b, some (.cells (ycj s :: .sl 4 (ts'.map yce) :: y :: tail))) :: h'))) (hp : ybc.pureL args0 = true := by rfl) (hpr : ybc r = true := by rfl) (hg : evF (look t) g = some (.fn f []) := by rfl) (hx : evL (evF (look t)) args = some (.lp b 0 :: args0) := by rfl) (hb : yaf h b = some (.cells (ycj s :: .sl 4 (ts.map yce) :: y :: tail)) := by rfl) (ht : yto 1000000 t = true := by rfl) (hd1 : Nat.blt d 1000000 = true := by rfl) (hk : yjh b (yme 1000000 (y :: tail) ++ t) = true := by rfl) (hh : yim [b] (ynj [b] h) = some h' := by rfl) (hl : lf ⟨some d, .call { callee := .value g, args := args.toArray, argTypes := ats }, ty, pos, af, gd⟩ = true := by rfl) (hw : yan ops (look t) ⟨some d, .call { callee := .value g, args := args.toArray, argTypes := ats }, ty, pos, af, gd⟩ = some true := by rfl) (hd : Nat.blt d N = true := by rfl) : Lex P N ops lf Q (⟨some d, .call { callee := .value g, args := args.toArray, argTypes := ats }, ty, pos, af, gd⟩ :: rest) (S t h) :=
 L_rdT0 b hc hp hpr hg hx hb ht hd1 hk hh hl hw hd k
theorem L_rdU (b : Nat) {g : Operand} {args : List Operand} {ats : Array TypeId} {f : FuncId} {args0 : List AV} {r : AV} {h' : List (Nat × Option LObj)} (hc : yhb P f (.lp 1001 0 :: args0) (yaf (rdX s ts [] us)) r (yaf (rdX s ts' [] us))) (hp : ybc.pureL args0 = true) (hpr : ybc r = true) (hg : evF (look t) g = some (.fn f [])) (hx : evL (evF (look t)) args = some (.lp b 0 :: args0))
  (hb : yaf h b = some (.cells (ycj s :: .sl 4 (ts.map yce) :: ([] ++ us.map .v)))) (hk : yjh b t = true) (hh : yim [b] (ynj [b] h) = some h') (hl : lf ⟨some d, .call { callee := .value g, args := args.toArray, argTypes := ats }, ty, pos, af, gd⟩ = true) (hw : yan ops (look t) ⟨some d, .call { callee := .value g, args := args.toArray, argTypes := ats }, ty, pos, af, gd⟩ = some true) (hd : Nat.blt d N = true)
  (k : Lex P N ops lf Q rest (S ((d, r) :: t) ((b, some (.cells (ycj s :: .sl 4 (ts'.map yce) :: ([] ++ us.map .v)))) :: h'))) : Lex P N ops lf Q (⟨some d, .call { callee := .value g, args := args.toArray, argTypes := ats }, ty, pos, af, gd⟩ :: rest) (S t h) := by
 refine yek [(1001, b)] hc hg hx ?_ rfl rfl rfl rfl (yab ?_ yai) (ynu hpr) ?_ hh hl hw hd ?_
 ·simp only [List.append_nil, List.map_cons, ygc, yey]
  congr 1
  rw [← ycu, yhf.rows hp]
 ·rw [yzh _ _ _ _ rfl]; exact hb
 ·simp only [ymo, rdX, ywf, ygz.onlyL, zbn, zlb]; rfl
 ·rw [zfy b hk, yhf hpr]
  simp only [ylz, rdX, yaf, yzh _ _ _ _ (show ybc.pureL [] = true from rfl)]
  exact k
theorem qu {g : Operand} {args : List Operand} {ats : Array TypeId} {f : FuncId} {args0 : List AV} {r : AV} {h' : List (Nat × Option LObj)} (b : Nat) (hc : yhb P f (.lp 1001 0 :: args0) (yaf (rdX s ts [] us)) r (yaf (rdX s ts' [] us))) (k : Lex P N ops lf Q rest (S ((d, r) :: t) ((b, some (.cells (ycj s :: .sl 4 (ts'.map yce) :: ([] ++ us.map .v)))) :: h'))) (hp : ybc.pureL args0 = true := by rfl) (hpr : ybc r = true := by rfl) (hg : evF (look t) g = some (.fn f []) := by rfl) (hx : evL (evF (look t)) args = some (.lp b 0 :: args0) := by rfl) (hb : yaf h b = some (.cells (ycj s :: .sl 4 (ts.map yce) :: ([] ++ us.map .v))) := by rfl) (hk : yjh b t = true := by rfl) (hh : yim [b] (ynj [b] h) = some h' := by rfl) (hl : lf ⟨some d, .call { callee := .value g, args := args.toArray, argTypes := ats }, ty, pos, af, gd⟩ = true := by rfl) (hw : yan ops (look t) ⟨some d, .call { callee := .value g, args := args.toArray, argTypes := ats }, ty, pos, af, gd⟩ = some true := by rfl) (hd : Nat.blt d N = true := by rfl) : Lex P N ops lf Q (⟨some d, .call { callee := .value g, args := args.toArray, argTypes := ats }, ty, pos, af, gd⟩ :: rest) (S t h) :=
 L_rdU b hc hp hpr hg hx hb hk hh hl hw hd k
end
section
variable {s : ByteArray} {ts : List Tok} {u0 : Value} {us : List Value}
theorem zbq (h : ydd s ts) : yhb Tryz.prog 86 [.lp 1001 0] (yaf (rdX s ts [] (u0 :: us))) (ycj (ba (ybd (ts.map (pwT s))))) (yaf (rdX s ts [] (u0 :: us))) := by
 refine ybb tok Tryz.func86 rfl rfl Tryz.ntmps86 Tryz.results86 rfl (yqc rfl) ?_
 show A _ _ _ _ (S _ _)
 cases ts with
 | nil =>
  (try refine zy ?_)
  refine yal ?_
  exact ⟨_, rfl, yam _, yaj (yab rfl yai)⟩
 | cons t r =>
  obtain ⟨h1, h2, _⟩ := h t (by simp)
  (repeat (first | refine zy ?_ | refine yas tok rfl rfl rfl (by omega) rfl rfl rfl ?_ | refine ytm tok rfl rfl rfl rfl (by show (0 : Int) ≤ (t.from_ : Int); omega) (by show (t.from_ : Int) ≤ (t.to : Int); omega) (by show (t.to : Int) ≤ (s.size : Int); omega) rfl rfl ?_))
  refine yal ?_
  refine ⟨_, rfl, ?_, yaj (yab rfl yai)⟩
  rw [← zfu h]
  exact yam _
theorem yjz (h : ydd s ts) : yhb Tryz.prog 87 [.lp 1001 0] (yaf (rdX s ts [] (u0 :: us))) (i64 (ygp ts)) (yaf (rdX s ts [] (u0 :: us))) := by
 refine ybb tok Tryz.func87 rfl rfl Tryz.ntmps87 Tryz.results87 rfl (yqc rfl) ?_
 show A _ _ _ _ (S _ _)
 cases ts with
 | nil =>
  (try refine zy ?_)
  refine yal ?_
  exact ⟨_, rfl, yam _, yaj (yab rfl yai)⟩
 | cons t r =>
  (repeat (first | refine zy ?_ | refine yas tok rfl rfl rfl (by omega) rfl rfl rfl ?_))
  refine yal ?_
  exact ⟨_, rfl, yam _, yaj (yab rfl yai)⟩
theorem done_X : yhb Tryz.prog 53 [.lp 1001 0] (yaf (rdX s ts [] (u0 :: us))) (ygx ts.isEmpty) (yaf (rdX s ts [] (u0 :: us))) := by
 refine ybb tok Tryz.func53 rfl rfl Tryz.ntmps53 Tryz.results53 rfl (yqc rfl) ?_
 show A _ _ _ _ (S _ _)
 cases ts with
 | nil =>
  (try refine zy ?_)
  refine yal ?_
  exact ⟨_, rfl, yam _, yaj (yab rfl yai)⟩
 | cons t r =>
  (try refine zy ?_)
  refine yal ?_
  exact ⟨_, rfl, yam _, yaj (yab rfl yai)⟩
theorem zcn (t : Tok) (r : List Tok) : yhb Tryz.prog 89 [.lp 1001 0] (yaf (rdX s (t :: r) [] (u0 :: us))) (.agg (yce t)) (yaf (rdX s r [] (u0 :: us))) := by
 refine ybb tok Tryz.func89 rfl rfl Tryz.ntmps89 Tryz.results89 rfl (yqc rfl) ?_
 show A _ _ _ _ (S _ _)
 (repeat (first | refine zy ?_ | refine zA (h2 := zib rfl rfl) ?_ | refine zA (h2 := yvw rfl rfl (zib rfl rfl)) ?_ | refine yas tok rfl rfl rfl (by omega) rfl rfl rfl ?_ | refine ytl tok rfl rfl rfl rfl (by show (0 : Int) ≤ 1; omega) (by show (1 : Int) ≤ ((List.map yce (t :: r)).length : Int); simp; omega) (Int.le_refl _) rfl rfl ?_))
 refine yal ?_
 refine ⟨_, rfl, yam _, yaj (yab ?_ yai)⟩
 have e : List.drop ((some (1 : Int)).getD 0).toNat (List.take ((none : Option Int).getD ((List.map yce (t :: r)).length : Int)).toNat (List.map yce (t :: r))) = r.map yce := by simp [List.take_of_length_le]
 rw [e]
 rfl
theorem yaw (h : ydd s ts) {w : Bs} (hw : ybd (ts.map (pwT s)) = w) (h0 : w ≠ []) : yhb Tryz.prog 85 [.lp 1001 0, ycj (ba w)] (yaf (rdX s ts [] (u0 :: us))) (ygx true) (yaf (rdX s ts.tail [] (u0 :: us))) := by
 refine ybb tok Tryz.func85 rfl rfl Tryz.ntmps85 Tryz.results85 rfl (yqc rfl) ?_
 show A _ _ _ _ (S _ _)
 cases ts with
 | nil => exact absurd hw.symm h0
 | cons t r =>
  (repeat (first | refine zy ?_ | refine qu 1001 (zbq h) ?_))
  refine yag rfl (fun h2 => ?_) (fun h2 => ?_)
  ·rw [hw] at h2; simp at h2
  (repeat (first | refine zy ?_ | refine qu 1001 (zcn t r) ?_))
  refine yal ?_
  exact ⟨_, rfl, yam _, yaj (yab rfl yai)⟩
theorem ybx (h : ydd s ts) {w : Bs} (hw : ybd (ts.map (pwT s)) ≠ w) : yhb Tryz.prog 85 [.lp 1001 0, ycj (ba w)] (yaf (rdX s ts [] (u0 :: us))) (ygx false) (yaf (rdX s ts [] (u0 :: us))) := by
 refine ybb tok Tryz.func85 rfl rfl Tryz.ntmps85 Tryz.results85 rfl (yqc rfl) ?_
 show A _ _ _ _ (S _ _)
 (repeat (first | refine zy ?_ | refine qu 1001 (zbq h) ?_))
 refine yag rfl (fun h2 => ?_) (fun h2 => ?_)
 ·(try refine zy ?_)
  refine yal ?_
  exact ⟨_, rfl, yam _, yaj (yab rfl yai)⟩
 ·simp [ydk, hw] at h2
theorem ych (h : ydd s ts) {w : Bs} (hw : ybd (ts.map (pwT s)) = w) (h0 : w ≠ []) : yhb Tryz.prog 48 [.lp 1001 0, ycj (ba w)] (yaf (rdX s ts [] (u0 :: us))) (.tup []) (yaf (rdX s ts.tail [] (u0 :: us))) := by
 refine ybb tok Tryz.func48 rfl rfl Tryz.ntmps48 Tryz.results48 rfl (yqc rfl) ?_
 show A _ _ _ _ (S _ _)
 (repeat (first | refine zy ?_ | refine qu 1001 (yaw h hw h0) ?_))
 exact ⟨_, rfl, yam _, yaj (yab rfl yai)⟩
end
end
section
open Go.RowKit
theorem yao {s : ByteArray} {ts : List Tok} {p : PW} {R : List PW} (h : ts.map (pwT s) = p :: R) : ∃ t r, ts = t :: r ∧ pwT s t = p ∧ r.map (pwT s) = R := by
 cases ts with
 | nil => cases h
 | cons t r => simp only [List.map_cons, List.cons.injEq] at h; exact ⟨t, r, rfl, h.1, h.2⟩
theorem ydd.tail {s : ByteArray} {t : Tok} {r : List Tok} (h : ydd s (t :: r)) : ydd s r := fun u hu => h u (by simp [hu])
section
variable {s : ByteArray} {ts : List Tok} {u0 : Value} {us : List Value}
theorem yio {t : Tok} {r : List Tok} {n : Nat} {lo hi : Int} (h : ydd s (t :: r)) (ht : pwT s t = pwV n) (h1 : lo ≤ n) (h2 : (n : Int) ≤ hi) : yhb Tryz.prog 90 [.lp 1001 0, i64 lo, i64 hi] (yaf (rdX s (t :: r) [] (u0 :: us))) (i64 n) (yaf (rdX s r [] (u0 :: us))) := by
 have hk : t.kind = 2 := congrArg PW.k ht
 have hn : t.num = n := congrArg PW.v ht
 refine ybb tok Tryz.func90 rfl rfl Tryz.ntmps90 Tryz.results90 rfl (yqc rfl) ?_
 show A _ _ _ _ (S _ _)
 (repeat (first | refine zy ?_ | refine qu 1001 (yjz h) ?_))
 refine yag rfl (fun h9 => absurd h9 (by simp [ygp, hk])) (fun _ => ?_)
 (repeat (first | refine zy ?_ | refine yas tok rfl rfl rfl (by omega) rfl rfl rfl ?_))
 refine ybu 28 rfl (fun h9 => absurd h9 (by simp; omega)) (fun _ => ?_)
 (try refine zy ?_)
 refine yag rfl (fun h9 => absurd h9 (by simp; omega)) (fun _ => ?_)
 (repeat (first | refine zy ?_ | refine qu 1001 (zcn t r) ?_))
 refine yal ?_
 refine ⟨_, rfl, ?_, yaj (yab rfl yai)⟩
 rw [hn]
 exact yam _
def zud : List PW → Bool
 | _ :: p :: _ => decide (p.w = [42])
 | _ => false
theorem starred_X (h : ydd s ts) : yhb Tryz.prog 140 [.lp 1001 0] (yaf (rdX s ts [] (u0 :: us))) (ygx (zud (ts.map (pwT s)))) (yaf (rdX s ts [] (u0 :: us))) := by
 refine ybb tok Tryz.func140 rfl rfl Tryz.ntmps140 Tryz.results140 rfl (yqc rfl) ?_
 show A _ _ _ _ (S _ _)
 match ts, h with
 | [], h =>
  (try refine zy ?_)
  refine yal ?_
  exact ⟨_, rfl, yam _, yaj (yab rfl yai)⟩
 | [t], h =>
  (try refine zy ?_)
  refine yal ?_
  exact ⟨_, rfl, yam _, yaj (yab rfl yai)⟩
 | t0 :: t :: r, h =>
  obtain ⟨h1, h2, _⟩ := h t (by simp)
  have hl : (t0 :: t :: r).length > 1 := by simp
  (try refine zy ?_)
  refine ybu 10 rfl (fun _ => ?_) (fun h9 => absurd h9 (by simp; omega))
  (repeat (first | refine zy ?_ | refine yas tok rfl rfl rfl (by omega) rfl rfl rfl ?_ | refine ytm tok rfl rfl rfl rfl (by show (0 : Int) ≤ (t.from_ : Int); omega) (by show (t.from_ : Int) ≤ (t.to : Int); omega) (by show (t.to : Int) ≤ (s.size : Int); omega) rfl rfl ?_))
  refine yal ?_
  refine ⟨_, rfl, ?_, yaj (yab rfl yai)⟩
  have e := zfu (r := r) (h.tail)
  show Wk (ygx ((s.extract t.from_ t.to).toList == (ba [42]).toList)) (ygx (decide ((pwT s t).w = [42])))
  have e2 : ((s.extract t.from_ t.to).toList == (ba [42]).toList) = decide ((pwT s t).w = [42]) := by
   rw [e, ydk, ydk, Bool.eq_iff_iff]
   simp [ybd]
  rw [e2]
  exact yam _
theorem ysl {t : Tok} {r : List Tok} {n : Nat} (h : ydd s (t :: r)) (ht : pwT s t = pwV n) (h1 : n ≤ 4096) (h2 : zud ((t :: r).map (pwT s)) = true → 1 ≤ n ∧ n ≤ 255) : yhb Tryz.prog 113 [.lp 1001 0] (yaf (rdX s (t :: r) [] (u0 :: us))) (i64 n) (yaf (rdX s r [] (u0 :: us))) := by
 refine ybb tok Tryz.func113 rfl rfl Tryz.ntmps113 Tryz.results113 rfl (yqc rfl) ?_
 show A _ _ _ _ (S _ _)
 (repeat (first | refine zy ?_ | refine qu 1001 (starred_X h) ?_))
 refine yag rfl (fun h3 => ?_) (fun h3 => ?_)
 ·obtain ⟨h4, h5⟩ := h2 h3
  (repeat (first | refine zy ?_ | refine qu 1001 (yio (lo := 1) (hi := 255) h ht (by omega) (by omega)) ?_))
  refine yal ?_
  exact ⟨_, rfl, yam _, yaj (yab rfl yai)⟩
 ·(repeat (first | refine zy ?_ | refine qu 1001 (yio (lo := 0) (hi := 4096) h ht (by omega) (by omega)) ?_))
  refine yal ?_
  exact ⟨_, rfl, yam _, yaj (yab rfl yai)⟩
theorem name_X0 {t : Tok} {r : List Tok} {w : Bs} (h : ydd s (t :: r)) (ht : pwT s t = pwN w) (hw : nmW w = true) : yhb Tryz.prog 49 [.lp 1001 0, .v (.slice none 0 0)] (yaf (rdX s (t :: r) [] (u0 :: us))) (ycj (ba w)) (yaf (rdX s r [] (u0 :: us))) := by
 have hk : t.kind = 1 := congrArg PW.k ht
 have hn : ybd ((t :: r).map (pwT s)) = w := congrArg PW.w ht
 have hp := zbq (u0 := u0) (us := us) h
 rw [hn] at hp
 refine ybb tok Tryz.func49 rfl rfl Tryz.ntmps49 Tryz.results49 rfl (yqc rfl) ?_
 show A _ _ _ _ (S _ _)
 (repeat (first | refine zy ?_ | refine qu 1001 hp ?_ | refine qu 1001 (yjz h) ?_))
 refine ybu 17 rfl (fun h9 => absurd h9 (by simp [ygp, hk])) (fun _ => ?_)
 (repeat (first | refine zy ?_ | refine yah rfl rfl (yqw w (by have := (ydw hw).1.1; omega)) rfl rfl ?_))
 refine yag rfl (fun h9 => absurd h9 (by simp [hw])) (fun _ => ?_)
 (try refine zy ?_)
 refine yiv (α := Unit) (fun _ => [(28, i64 0), (27, i64 0), (5, ycj (ba w)), (0, .lp 1001 0)]) (fun _ => rdX s (t :: r) [] (u0 :: us)) (fun _ => 0) (fun _ => True) () trivial (by exact zs) (yab rfl yai) ?_
 rintro ⟨⟩ _
 (try refine zy ?_)
 (repeat (first | refine zy ?_ | refine qu 1001 (zcn t r) ?_))
 refine yal ?_
 exact ⟨_, rfl, yam _, yaj (yab rfl yai)⟩
end
end
set_option maxHeartbeats 8000000
section
open Go.RowKit
def zrq : AV := .v (.slice none 0 0)
def zdc (ns : List Bs) : List AV := ns.map fun w => ycj (ba w)
def vmC (s : ByteArray) (ts : List Tok) (nm : AV) (k : Nat) : LObj := .cells [ycj s, .sl 4 (ts.map yce), .ls 1010 1 k, nm, .ls 1011 6 k, zrq, zrq]
def vmH (s : ByteArray) (ts : List Tok) (nm : Bs) (ns : List Bs) (k : Nat) (vs : List AV) : List (Nat × Option LObj) := [(1001, some (vmC s ts (ycj (ba nm)) k)), (1010, some (.vec (zdc ns))), (1011, some (.vec vs))]
def rmC (s : ByteArray) (ts : List Tok) (names : List Bs) (nm : AV) (vars : List (List AV)) (n k : Nat) : LObj := .cells [ycj s, .sl 4 (ts.map yce), ybh names, nm, .sl 6 vars, .ls 1013 3 n, .ls 1012 1 k]
def rmH (s : ByteArray) (ts : List Tok) (names : List Bs) (nm : Bs) (vars : List (List AV)) (ns : List Bs) (n k : Nat) (vs : List AV) : List (Nat × Option LObj) := [(1001, some (rmC s ts names (ycj (ba nm)) vars n k)), (1012, some (.vec (zdc ns))), (1013, some (.vec vs))]
theorem zox {s : ByteArray} {ts ts' : List Tok} {nm nm' : Bs} {ns ns' : List Bs} {k k' : Nat} {vs vs' : List AV} {N : Nat} (hN : Nat.ble N 1001 = true) : ∀ id o, yaf (vmH s ts' nm' ns' k' vs') id = some o → isC o = true → N ≤ id ∧ ∃ o', yaf (vmH s ts nm ns k vs) id = some o' ∧ isC o' = true := by
 intro id o ho hc
 simp only [vmH, yaf] at ho ⊢
 cases h1 : Nat.beq id 1001 with
 | true => have := Nat.eq_of_beq_eq_true h1; exact ⟨by simp only [Nat.ble_eq] at hN; omega, _, rfl, rfl⟩
 | false =>
  simp only [h1] at ho
  split at ho
  ·cases ho; cases hc
  ·split at ho
   ·cases ho; cases hc
   ·cases ho
theorem zuc {s : ByteArray} {ts ts' : List Tok} {names : List Bs} {nm nm' : Bs} {vars : List (List AV)} {ns ns' : List Bs} {n n' k k' : Nat} {vs vs' : List AV} {N : Nat} (hN : Nat.ble N 1001 = true) : ∀ id o, yaf (rmH s ts' names nm' vars ns' n' k' vs') id = some o → isC o = true → N ≤ id ∧ ∃ o', yaf (rmH s ts names nm vars ns n k vs) id = some o' ∧ isC o' = true := by
 intro id o ho hc
 simp only [rmH, yaf] at ho ⊢
 cases h1 : Nat.beq id 1001 with
 | true => have := Nat.eq_of_beq_eq_true h1; exact ⟨by simp only [Nat.ble_eq] at hN; omega, _, rfl, rfl⟩
 | false =>
  simp only [h1] at ho
  split at ho
  ·cases ho; cases hc
  ·split at ho
   ·cases ho; cases hc
   ·cases ho
theorem znz {ns : List Bs} {i : Nat} {w : Bs} (h : ns[i]? = some w) : (zdc ns)[i]? = some (ycj (ba w)) := by simp [zdc, h]
theorem yge (ns : List Bs) (w : Bs) : zdc ns ++ [ycj (ba w)] = zdc (ns ++ [w]) := by simp [zdc]
section
variable {s : ByteArray} {nm : Bs} {ns : List Bs}
theorem zqn {vs : List AV} {t : Tok} {r : List Tok} {w : Bs} (h : ydd s (t :: r)) (ht : pwT s t = pwN w) (hw : nmW w = true) (hn : w ∉ ns) (hl : ns.length ≤ 1000) : yhb Tryz.prog 49 [.lp 1001 0, .ls 1010 1 ns.length] (yaf (vmH s (t :: r) nm ns ns.length vs)) (ycj (ba w)) (yaf (vmH s r nm ns ns.length vs)) := by
 have hk : t.kind = 1 := congrArg PW.k ht
 have hw2 : ybd ((t :: r).map (pwT s)) = w := congrArg PW.w ht
 have hp := fun (u0 : Value) (us : List Value) => zbq (u0 := u0) (us := us) h
 rw [hw2] at hp
 refine ybb tok Tryz.func49 rfl rfl Tryz.ntmps49 Tryz.results49 rfl (zox rfl) ?_
 show A _ _ _ _ (S _ _)
 (repeat (first | refine zy ?_ | refine qt 1001 (hp) ?_ | refine qt 1001 (fun _ _ => yjz h) ?_))
 refine ybu 17 rfl (fun h9 => absurd h9 (by simp [ygp, hk])) (fun _ => ?_)
 (repeat (first | refine zy ?_ | refine yah rfl rfl (yqw w (by have := (ydw hw).1.1; omega)) rfl rfl ?_))
 refine yag rfl (fun h9 => absurd h9 (by simp [hw])) (fun _ => ?_)
 (try refine zy ?_)
 refine yiv (α := Nat) (fun i => [(28, i64 i), (27, i64 ns.length), (26, .ls 1010 1 ns.length), (5, ycj (ba w)), (0, .lp 1001 0)]) (fun _ => vmH s (t :: r) nm ns ns.length vs) (fun i => ns.length - i) (fun i => i ≤ ns.length) 0 (by omega) (by exact zs) (by exact zh) ?_
 intro i hi
 (try refine zy ?_)
 refine yag rfl (fun h2 => ?_) (fun h2 => ?_)
 ·have h2 : i < ns.length := by simpa using h2
  obtain ⟨x, hx⟩ := yxq h2
  have hne : x ≠ w := fun e => hn (e ▸ List.mem_of_getElem? hx)
  (repeat (first | refine zy ?_ | refine yvl tok rfl rfl rfl rfl (by omega) (by omega) rfl rfl ?_ | refine zpe tok rfl rfl rfl rfl (by simpa using znz hx) rfl rfl ?_))
  refine yag rfl (fun h9 => absurd h9 (by simp [ydk, hne])) (fun _ => ?_)
  (try refine zy ?_)
  exact rnd (i + 1) (by omega) (by omega) (by exact zs) (by exact zh)
 ·(repeat (first | refine zy ?_ | refine qt 1001 (fun _ _ => zcn t r) ?_))
  refine yal ?_
  exact ⟨_, rfl, yam _, yaj (by exact zh)⟩
theorem name_R {vs : List AV} {names : List Bs} {vars : List (List AV)} {n : Nat} {t : Tok} {r : List Tok} {w : Bs} (h : ydd s (t :: r)) (ht : pwT s t = pwN w) (hw : nmW w = true) (hn : w ∉ ns) (hl : ns.length ≤ 1000) : yhb Tryz.prog 49 [.lp 1001 0, .ls 1012 1 ns.length] (yaf (rmH s (t :: r) names nm vars ns n ns.length vs)) (ycj (ba w)) (yaf (rmH s r names nm vars ns n ns.length vs)) := by
 have hk : t.kind = 1 := congrArg PW.k ht
 have hw2 : ybd ((t :: r).map (pwT s)) = w := congrArg PW.w ht
 have hp := fun (u0 : Value) (us : List Value) => zbq (u0 := u0) (us := us) h
 rw [hw2] at hp
 refine ybb tok Tryz.func49 rfl rfl Tryz.ntmps49 Tryz.results49 rfl (zuc rfl) ?_
 show A _ _ _ _ (S _ _)
 (repeat (first | refine zy ?_ | refine qt 1001 (hp) ?_ | refine qt 1001 (fun _ _ => yjz h) ?_))
 refine ybu 17 rfl (fun h9 => absurd h9 (by simp [ygp, hk])) (fun _ => ?_)
 (repeat (first | refine zy ?_ | refine yah rfl rfl (yqw w (by have := (ydw hw).1.1; omega)) rfl rfl ?_))
 refine yag rfl (fun h9 => absurd h9 (by simp [hw])) (fun _ => ?_)
 (try refine zy ?_)
 refine yiv (α := Nat) (fun i => [(28, i64 i), (27, i64 ns.length), (26, .ls 1012 1 ns.length), (5, ycj (ba w)), (0, .lp 1001 0)]) (fun _ => rmH s (t :: r) names nm vars ns n ns.length vs) (fun i => ns.length - i) (fun i => i ≤ ns.length) 0 (by omega) (by exact zs) (by exact zh) ?_
 intro i hi
 (try refine zy ?_)
 refine yag rfl (fun h2 => ?_) (fun h2 => ?_)
 ·have h2 : i < ns.length := by simpa using h2
  obtain ⟨x, hx⟩ := yxq h2
  have hne : x ≠ w := fun e => hn (e ▸ List.mem_of_getElem? hx)
  (repeat (first | refine zy ?_ | refine yvl tok rfl rfl rfl rfl (by omega) (by omega) rfl rfl ?_ | refine zpe tok rfl rfl rfl rfl (by simpa using znz hx) rfl rfl ?_))
  refine yag rfl (fun h9 => absurd h9 (by simp [ydk, hne])) (fun _ => ?_)
  (try refine zy ?_)
  exact rnd (i + 1) (by omega) (by omega) (by exact zs) (by exact zh)
 ·(repeat (first | refine zy ?_ | refine qt 1001 (fun _ _ => zcn t r) ?_))
  refine yal ?_
  exact ⟨_, rfl, yam _, yaj (by exact zh)⟩
end
end
end Go.Proofs.YtefiainojfeagaaGreatDoor
