/- Part 16 of the texts under ProgramFormats,ProgramReadsBack,ProgramTellsProgramsApart,ProgramGrowsByLines,ProgramIgnoresBlanks: joined, with what it needs alone. -/
import Derived.Test.YtefiainojfeagaaGreatDoorPa15
set_option linter.unusedVariables false
set_option maxRecDepth 100000
set_option maxHeartbeats 8000000
namespace Go.Proofs.YtefiainojfeagaaGreatDoor
set_option maxRecDepth 100000
set_option linter.unusedVariables false
set_option maxHeartbeats 4000000
section
open Go.RowKit
theorem fewer_in {p : ProgD} (h : yet p) : yet (yfj p) := ⟨h.1, h.2.1, fun r hr => h.2.2 r (List.mem_of_mem_take hr)⟩
theorem fewer_light {p : ProgD} (h : yne p) : yne (yfj p) := by
 obtain ⟨h1, h2, h3⟩ := h
 refine ⟨h1, ?_, fun r hr => h3 r (List.mem_of_mem_take hr)⟩
 have : (yfj p).rules.length ≤ p.rules.length := by simp only [yfj, List.length_take]; omega
 omega
theorem last_line {p : ProgD} (hc : ycn p = 0) (h0 : 0 < p.rules.length) : ∃ L : Bs, yer p = yer (yfj p) ++ (L ++ [10]) ∧ (10 : UInt8) ∉ L ∧ ∃ M : Bs, yer (yfj p) = M ++ [10] := by
 obtain ⟨u, hu, e, _⟩ := zdq h0
 have hp := ykj hc
 have hg : ∀ w ∈ yap p, ydo w := by
  intro w hw
  obtain ⟨x, hx, rfl⟩ := List.mem_map.1 hw
  exact (ydw (hp.vnames x hx)).1
 refine ⟨zov (yap p) u, by rw [e, zjk], rule_nl hg (hp.rules u (List.mem_of_getElem? hu)), ?_⟩
 generalize yfj p = q
 by_cases hr : q.rules = []
 ·by_cases hv : q.vars = []
  ·exact ⟨yrl ++ (32 :: (bl q.name ++ [59])), by simp [yer, yss, hr, hv]⟩
  ·obtain ⟨l, x, hx⟩ : ∃ l x, q.vars = l ++ [x] := ⟨_, _, (List.dropLast_concat_getLast hv).symm⟩
   refine ⟨yss q ++ (l.flatMap zkg ++ (yve ++ (32 :: (bl x.name ++ (32 :: 58 :: 32 :: (ypw x ++ [59])))))), ?_⟩
   simp [yer, hr, hx, zkg]
 ·obtain ⟨l, x, hx⟩ : ∃ l x, q.rules = l ++ [x] := ⟨_, _, (List.dropLast_concat_getLast hr).symm⟩
  refine ⟨yss q ++ (q.vars.flatMap zkg ++ (l.flatMap (ynw (yap q)) ++ zov (yap q) x)), ?_⟩
  simp [yer, hx, zjk]
theorem ztv {l : Bs} {k : Nat} {c : UInt8} (h : l[k]? = some c) : (ba l)[k]? = some c := by
 have hk := (List.getElem?_eq_some_iff.1 h).1
 obtain ⟨_, rfl⟩ := List.getElem?_eq_some_iff.1 h
 rw [getElem?_pos (ba l) k (by show k < (ba l).size; rw [yar]; exact hk)]
 rfl
theorem bytes_ba (l : Bs) : yad (ba l) 0 = l := yde l
theorem pGrows_con (p : ProgD) (hin : yet p) : Con Tryz.prog 6 [zfo p] (ygx true) := by
 refine ycs Tryz.func6 rfl rfl Tryz.ntmps6 Tryz.results6 rfl rfl ?_
 (repeat (first | refine zy ?_ | refine yah rfl rfl (yky p hin) rfl rfl ?_))
 refine ybu 12 rfl (fun h1 => ?_) (fun h1 => ?_)
 ·(repeat (first | refine zy ?_ | refine yah rfl rfl ycd rfl rfl ?_))
  refine yal ?_; refine ⟨_, rfl, ?_⟩
  exact ybn rfl
 have hlb : yex p = true := by simpa using h1
 have hl := yjr hlb
 obtain ⟨lv, lr, lt⟩ := zii hlb
 (repeat (first | refine zy ?_ | refine yah rfl rfl (zcc p hin hl) rfl rfl ?_))
 refine ybu 17 rfl (fun h2 => ?_) (fun h2 => ?_)
 ·(repeat (first | refine zy ?_ | refine yah rfl rfl ycd rfl rfl ?_))
  refine yal ?_; refine ⟨_, rfl, ?_⟩
  exact ybn rfl
 have hc : ycn p = 0 := by simpa using h2
 (try refine zy ?_)
 refine yag rfl (fun h3 => ?_) (fun h3 => ?_)
 ·(repeat (first | refine zy ?_ | refine yah rfl rfl ycd rfl rfl ?_))
  refine yal ?_; refine ⟨_, rfl, ?_⟩
  exact ybn rfl
 have h0 : 0 < p.rules.length := by
  have : ¬ p.rules.length = 0 := by simpa using h3
  omega
 (repeat (first | refine zy ?_ | refine ytl tok rfl rfl rfl rfl (by show (0 : Int) ≤ 0; omega) (by show (0 : Int) ≤ (p.rules.length : Int) - 1; omega) (by show (p.rules.length : Int) - 1 ≤ ((p.rules.map ybl).length : Int); rw [List.length_map]; omega) rfl rfl ?_))
 have e1 : List.drop ((none : Option Int).getD 0).toNat (List.take ((some ((p.rules.length : Int) - 1)).getD ((p.rules.map ybl).length : Int)).toNat (p.rules.map ybl)) = (yfj p).rules.map ybl := by
  show List.drop 0 (List.take ((p.rules.length : Int) - 1).toNat (p.rules.map ybl)) = _
  rw [List.drop_zero, show ((p.rules.length : Int) - 1).toNat = p.rules.length - 1 by omega, ← List.map_take]
  rfl
 refine yrq 31 (y := .sl 3 ((yfj p).rules.map ybl)) rfl (congrArg _ e1) ?_
 have hfl : (yfj p).rules.length ≤ 16 := by simp only [yfj, List.length_take]; omega
 refine L_appendNil tok rfl rfl rfl ?_ (by rw [List.length_map]; omega) rfl rfl rfl rfl rfl ?_
 ·intro c hc
  obtain ⟨row, hr, hcr⟩ := List.mem_flatten.1 hc
  obtain ⟨r, _, rfl⟩ := List.mem_map.1 hr
  exact ybf (show ybc.pureL (ybl r) = true from rfl) c hcr
 (try refine zo ?_)
 refine zt ?_
 refine ylc 3 2 ((yfj p).rules.map ybl) rfl rfl rfl rfl (fun row hr => by obtain ⟨y, _, rfl⟩ := List.mem_map.1 hr; rfl) rfl rfl rfl rfl rfl ?_
 have hf := yhs p hin hl
 have hg := yhs (yfj p) (fewer_in hin) (fewer_light hl)
 rcases yin p with ⟨ts, _, hs, hq⟩ | hq
 case inr =>
  have hq : ydm p = ([], 3) := by
   rcases hq with hq | hq
   ·exact hq
   ·exact absurd hc hq.2
  rw [hq] at hf
  (repeat (first | refine zy ?_ | refine yah rfl rfl hf rfl rfl ?_ | refine yah rfl rfl hg rfl rfl ?_ | refine yah rfl rfl ycd rfl rfl ?_))
  refine yal ?_; refine ⟨_, rfl, ?_⟩
  exact ybn (beq_self_eq_true (ba []).toList)
 rw [hq] at hf
 obtain ⟨us, hus⟩ := fewer_scan hc h0 hs
 have hq2 : ydm (yfj p) = (yer (yfj p), 0) := by rw [ydm, if_pos (zaj hc), hus]
 rw [hq2] at hg
 obtain ⟨L, e2, e3, M, e4⟩ := last_line hc h0
 have hlen := progT_len hc
 have hlen2 : (yer p).length = (yer (yfj p)).length + (L.length + 1) := by rw [e2]; simp
 have hlen3 : (yer (yfj p)).length = M.length + 1 := by rw [e4]; simp
 generalize yer p = s at *
 generalize yer (yfj p) = t at *
 change Con _ _ _ (.tup [ycj (ba s), i64 0]) at hf
 change Con _ _ _ (.tup [ycj (ba t), i64 0]) at hg
 have hss : (ba s).size = s.length := yar s
 have hts : (ba t).size = t.length := yar t
 (repeat (first | refine zy ?_ | refine yah rfl rfl hf rfl rfl ?_ | refine yah rfl rfl hg rfl rfl ?_))
 refine ybu 62 rfl (fun h9 => absurd (beq_iff_eq.1 h9) (by show ¬ (((ba t).size : Int) = 0); omega)) (fun _ => ?_)
 (try refine zy ?_)
 refine ybu 69 rfl (fun h9 => absurd (of_decide_eq_true h9) (by show ¬ (((ba t).size : Int) ≥ ((ba s).size : Int)); omega)) (fun _ => ?_)
 (try refine zy ?_)
 refine ytm (bl := none) (bh := some ((ba t).size : Int)) tok rfl rfl rfl rfl (by simp) (by simp only [Option.getD_none, Option.getD_some]; omega) (by simp only [Option.getD_some]; omega) rfl rfl ?_
 refine yrq 73 (y := ycj (ba t)) rfl ?_ ?_
 ·show AV.v (.string ((ba s).extract 0 (ba t).size)) = _
  rw [ypq (by omega) (by omega), bytes_ba, Nat.sub_zero, hts, e2, List.take_left]
  rfl
 (try refine zy ?_)
 refine ybu 77 rfl (fun h9 => absurd h9 (by simp)) (fun _ => ?_)
 have g1 : (ba t)[(((ba t).size : Int) - 1).toNat]? = some (10 : UInt8) := by
  apply ztv
  rw [e4, show (((ba (M ++ [10])).size : Int) - 1).toNat = M.length by rw [yar, List.length_append, List.length_singleton]; omega]
  simp
 have g2 : (ba s)[(((ba s).size : Int) - 1).toNat]? = some (10 : UInt8) := by
  apply ztv
  rw [hss, hlen2, show (((t.length + (L.length + 1) : Nat) : Int) - 1).toNat = t.length + L.length by omega, e2]
  rw [List.getElem?_append_right (by omega), List.getElem?_append_right (by omega)]
  simp
 (repeat (first | refine zy ?_ | refine zfd tok rfl rfl rfl (by omega) g1 rfl rfl ?_ | refine zfd tok rfl rfl rfl (by omega) g2 rfl rfl ?_))
 refine yiv (α := Nat) (fun i => [(8, i64 i), (4, ycj (ba s))]) (fun i => []) (fun i => s.length - i) (fun i => t.length ≤ i ∧ i ≤ s.length - 1) t.length ⟨by omega, by omega⟩ (yke (zgv rfl (by rw [hts]; rfl)) (by exact zs)) yai ?_
 rintro i ⟨hi1, hi2⟩
 (try refine zy ?_)
 refine yag rfl (fun h5 => ?_) (fun h5 => ?_)
 ·have h5 : i < s.length - 1 := by simp at h5; omega
  obtain ⟨c, hcs, hcb⟩ : ∃ c : UInt8, (ba s)[((i : Nat) : Int).toNat]? = some c ∧ c ≠ 10 := by
   obtain ⟨c, hc⟩ := yxq (show i < s.length by omega)
   refine ⟨c, ztv (by simpa using hc), fun e => e3 ?_⟩
   subst e
   rw [e2, List.getElem?_append_right hi1, List.getElem?_append_left (by omega)] at hc
   exact List.mem_of_getElem? hc
  have hcn : ¬ ((c.toNat : Int) = 10) := fun e => hcb (UInt8.toNat_inj.1 (by simpa using (show c.toNat = 10 by omega)))
  (repeat (first | refine zy ?_ | refine zfd tok rfl rfl rfl (by omega) hcs rfl rfl ?_))
  refine yag rfl (fun h9 => absurd h9 (by simp; omega)) (fun _ => ?_)
  (try refine zy ?_)
  exact rnd (i + 1) ⟨by omega, by omega⟩ (by omega) (by exact zs) yai
 ·(repeat (first | refine zy ?_ | refine yah rfl rfl ycd rfl rfl ?_))
  refine yal ?_; refine ⟨_, rfl, ?_⟩
  exact ybn rfl
theorem yib (v0 : Value) (z0 : ProgD) (w : World) (h0 : ygi w v0 z0 ∧ yet z0) (hG : zcw w) :
  Calls Tryz.prog 6 #[v0] w fun e w' => e = .returned (.bool true) ∧ Below w.heap.size w w' :=
 yjv (pGrows_con z0 h0.2) hG (zit w) (yct (yra h0.1) ygs)
end
end Go.Proofs.YtefiainojfeagaaGreatDoor
