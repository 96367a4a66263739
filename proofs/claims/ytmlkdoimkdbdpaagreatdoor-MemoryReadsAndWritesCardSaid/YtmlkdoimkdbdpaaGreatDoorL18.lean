/- Part 18 of the texts under MemoryReadsAndWrites,MemoryReadsBack: joined, with what it needs alone. -/
import Derived.Test.YtmlkdoimkdbdpaaGreatDoorL8
import Derived.Test.YtmlkdoimkdbdpaaGreatDoorL10
import Derived.Test.YtmlkdoimkdbdpaaGreatDoorL17
set_option linter.unusedVariables false
set_option maxRecDepth 100000
set_option maxHeartbeats 8000000
namespace Go.Proofs.YtmlkdoimkdbdpaaGreatDoor
open Go.RowKit
def yds (l : List (Int × Int)) : List AV := (l.map encRg).flatten
theorem flatR_len (l : List (Int × Int)) : (yds l).length = 2 * l.length := by
  unfold yds
  rw [rows_len (k := 2) (fun x => rfl)]
  omega
theorem flatR_set : ∀ {l : List (Int × Int)} {i : Nat} {y : Int × Int}, i < l.length → ((yds l).set (i * 2) (i64 y.1)).set (i * 2 + 1) (i64 y.2) = yds (l.set i y)
  | [], i, y, h => by simp at h
  | (a, b) :: l, 0, y, h => by simp [yds, encRg]
  | (a, b) :: l, i + 1, y, h => by
    have ih := flatR_set (l := l) (i := i) (y := y) (by simpa using h)
    have e : yds ((a, b) :: l) = i64 a :: i64 b :: yds l := by simp [yds, encRg]
    rw [List.set_cons_succ, e, show (i + 1) * 2 = i * 2 + 1 + 1 by omega, show i * 2 + 1 + 1 + 1 = i * 2 + 1 + 1 + 1 from rfl]
    simp only [List.set_cons_succ]
    rw [ih]
    simp [yds, encRg]
theorem rep2 : ∀ n : Nat, repA n [i64 0, i64 0] = yds (List.replicate n (0, 0))
  | 0 => rfl
  | n + 1 => by simp [repA, rep2 n, List.replicate_succ, yds, encRg]
def ybc (p : ProgD) (g : GraphD) : List (List (Int × Int)) := g.ports.map fun ls => p.vars.map fun y => ybe y g ls.length
def tF (p : ProgD) (g : GraphD) : List (Nat × Option LObj) := [(3, some (.cells [ybk g.ids, ybz g.ports])), (2, some (.cells [yfd p.name, .sl 6 (p.vars.map ydi), .sl 3 (p.rules.map ydw)]))]
def tF8 (p : ProgD) (g : GraphD) (y : VarD) : List (Nat × Option LObj) := (8, some (.cells (ydi y))) :: tF p g
theorem A_subS {P : Program} {N : Nat} {c : Code} {Q : Exit → SS → Prop} {t t' : List (Nat × AV)} {h h' : List (Nat × Option LObj)} (k : A P N c Q (S t' h')) (h1 : subT t t') (h2 : ∀ id o, yap h' id = some o → yap h id = some o) : A P N c Q (S t h) := A_weak k ⟨yce h1, h2⟩
theorem A_midM {P : Program} {N : Nat} {x : Code} {Q : Exit → SS → Prop} {s : SS} (t0 : List (Nat × AV)) (h0 : List (Nat × Option LObj)) (k1 : A P N x (Mid t0 h0) s) (k2 : ∀ s', Sub (S t0 h0) s' → Q .normal s') : A P N x Q s :=
  k1.mono fun e s ⟨he, hs⟩ => by subst he; exact k2 s hs
theorem table_con (p : ProgD) (g : GraphD) (hf : Fair p g) (h0 : ydl p g = 0) : Con Tryz.prog 25 [encP p, encG g] (yfj (ybc p g)) := by
  have hgl := hf.glen
  have hvl := hf.vlen
  obtain ⟨hc0, hg, hfit⟩ := fits_zero.1 h0
  have hvf := ycy hg
  have htl : (ybc p g).length = g.ids.length := by simp [ybc]; omega
  refine ybs Tryz.func25 rfl rfl Tryz.ntmps25 Tryz.results25 rfl rfl ?_
  (repeat (first | refine zI ?_ | refine zL ?_ | refine zC ?_ | refine yai ?_ | refine yaj ?_ | refine zR ?_ | refine zD ?_ | refine zK ?_ | refine zB ?_ | refine zA ?_ | refine zS ?_ | refine zU ?_ | refine zV ?_ | refine zF ?_ | with_reducible refine yac ?_ | with_reducible refine yag ?_ | refine yad ?_ | refine yae ?_ | refine yaf ?_ | refine zT ?_ | refine zE ?_ | refine zX ?_ | refine L_make tok rfl rfl rfl rfl (by constructor <;> omega) rfl rfl rfl rfl rfl ?_))
  refine A_asMat 12 (List.replicate g.ids.length nilA) rfl (rep1 _ _) ?_
  refine A_invS (α := Nat) (fun k => [(15, i64 k), (14, i64 g.ids.length), (5, .ls 12 1 g.ids.length), (2, .lp 2 0), (3, .lp 3 0)]) (fun k => tF p g ++ yei 12 2 ((ybc p g).take k |>.map yds) (List.replicate (g.ids.length - k) nilA)) (fun k => g.ids.length - k) (fun k => k ≤ g.ids.length) 0 (by omega) (by (repeat (first | exact yan | refine yak rfl ?_))) (yen (by simp only [List.take_zero, List.map_nil, yei, matC, famL, List.nil_append, Nat.sub_zero]; first | exact yab | exact yaa rfl yab | exact yaa rfl (yaa rfl yab) | exact yaa rfl (yaa rfl (yaa rfl yab)) | exact yaa rfl (yaa rfl (yaa rfl (yaa rfl yab))))) ?_
  intro k hk
  (repeat (first | refine zI ?_ | refine zL ?_ | refine zC ?_ | refine yai ?_ | refine yaj ?_ | refine zR ?_ | refine zD ?_ | refine zK ?_ | refine zB ?_ | refine zA ?_ | refine zS ?_ | refine zU ?_ | refine zV ?_ | refine zF ?_ | with_reducible refine yac ?_ | with_reducible refine yag ?_ | refine yad ?_ | refine yae ?_ | refine yaf ?_ | refine zT ?_ | refine zE ?_ | refine zX ?_))
  refine yaq rfl (fun h => ?_) (fun h => ?_)
  · simp at h
    obtain ⟨ls, hls⟩ := yeh (show k < g.ports.length by omega)
    have hll := hgl.2.2 ls (List.mem_of_getElem? hls)
    have htk : (((ybc p g).take k).map yds).length = k := by simp; omega
    (repeat (first | refine zI ?_ | refine zL ?_ | refine zC ?_ | refine yai ?_ | refine yaj ?_ | refine zR ?_ | refine zD ?_ | refine zK ?_ | refine zB ?_ | refine zA ?_ | refine zS ?_ | refine zU ?_ | refine zV ?_ | refine zF ?_ | with_reducible refine yac ?_ | with_reducible refine yag ?_ | refine yad ?_ | refine yae ?_ | refine yaf ?_ | refine zT ?_ | refine zE ?_ | refine zX ?_ | refine L_makeI tok (fam 12 k) rfl rfl rfl rfl (by constructor <;> omega) (fresh_fam (f := tF p g) rfl rfl rfl htk.symm (low_rep nilA rfl _)) rfl rfl rfl ?_))
    refine ybb tok rfl rfl (by rw [ybp (yee (by omega))]; exact ybf rfl) rfl (by omega) (by omega) rfl rfl ?_
    refine L_storeM tok rfl rfl rfl rfl rfl (by rw [ybp (yee (by omega))]; exact ybf rfl) (by rw [List.length_append, matC_len, htk, List.length_replicate]; simp; omega) rfl rfl ?_
    refine L_hs (h' := tF p g ++ yei 12 2 (((ybc p g).take k).map yds ++ [yds (List.replicate p.vars.length (0, 0))]) (List.replicate (g.ids.length - (k + 1)) nilA)) ?_ ?_
    · have hrep : repA p.vars.length (vMap [Value.int .i64 0, Value.int .i64 0]) = yds (List.replicate p.vars.length (0, 0)) := rep2 _
      have hex : List.replicate (g.ids.length - k) nilA = nilA :: List.replicate (g.ids.length - (k + 1)) nilA := by rw [← List.replicate_succ]; congr 1; omega
      rw [show ((k : Int).toNat * 1) = k by simp]
      exact mat_new (M := 12) (sz := 2) (f := tF p g) (a := nilA) rfl rfl rfl htk.symm (by rw [hrep, flatR_len]; simp) hex (by rw [hrep])
    (repeat (first | refine zI ?_ | refine zL ?_ | refine zC ?_ | refine yai ?_ | refine yaj ?_ | refine zR ?_ | refine zD ?_ | refine zK ?_ | refine zB ?_ | refine zA ?_ | refine zS ?_ | refine zU ?_ | refine zV ?_ | refine zF ?_ | with_reducible refine yac ?_ | with_reducible refine yag ?_ | refine yad ?_ | refine yae ?_ | refine yaf ?_ | refine zT ?_ | refine zE ?_ | refine zX ?_))
    refine A_invS (α := Nat) (fun j => [(28, i64 j), (27, i64 p.vars.length), (26, .sl 6 (p.vars.map ydi)), (6, i64 k), (15, i64 k), (14, i64 g.ids.length), (5, .ls 12 1 g.ids.length), (2, .lp 2 0), (3, .lp 3 0)]) (fun j => tF p g ++ yei 12 2 (((ybc p g).take k).map yds ++ [yds ((p.vars.map fun y => ybe y g ls.length).take j ++ List.replicate (p.vars.length - j) (0, 0))]) (List.replicate (g.ids.length - (k + 1)) nilA)) (fun j => p.vars.length - j) (fun j => j ≤ p.vars.length) 0 (by omega) (by (repeat (first | exact yan | refine yak rfl ?_))) (hsE (by simp)) ?_
    intro j hj
    (repeat (first | refine zI ?_ | refine zL ?_ | refine zC ?_ | refine yai ?_ | refine yaj ?_ | refine zR ?_ | refine zD ?_ | refine zK ?_ | refine zB ?_ | refine zA ?_ | refine zS ?_ | refine zU ?_ | refine zV ?_ | refine zF ?_ | with_reducible refine yac ?_ | with_reducible refine yag ?_ | refine yad ?_ | refine yae ?_ | refine yaf ?_ | refine zT ?_ | refine zE ?_ | refine zX ?_))
    refine yaq rfl (fun h2 => ?_) (fun h2 => ?_)
    · simp at h2
      obtain ⟨y, hy⟩ := yeh (show j < p.vars.length by omega)
      (repeat (first | refine zI ?_ | refine zL ?_ | refine zC ?_ | refine yai ?_ | refine yaj ?_ | refine zR ?_ | refine zK ?_ | refine zB ?_ | refine zA ?_ | refine zS ?_ | refine zU ?_ | refine zV ?_ | refine zF ?_ | with_reducible refine yac ?_ | with_reducible refine yag ?_ | refine yad ?_ | refine yae ?_ | refine yaf ?_ | refine zT ?_ | refine zE ?_ | refine zX ?_ | refine L_alloc tok rfl rfl rfl (freshM (f := tF p g) rfl rfl rfl (ment_rep _ _ rfl _)) rfl rfl rfl ?_))
      -- ROUND
      have hyn : numB y = true := (yde hc0).2.2.2 y (List.mem_of_getElem? hy)
      obtain ⟨hlow8, houter⟩ : lowH (tF8 p g y) = true ∧ ((tF8 p g y).all fun x => !Nat.beq x.1 12) = true := ⟨rfl, rfl⟩
      obtain ⟨flat, hflat⟩ : ∃ flat, yds ((p.vars.map fun y => ybe y g ls.length).take j ++ List.replicate (p.vars.length - j) (0, 0)) = flat := ⟨_, rfl⟩
      have hpart : (((ybc p g).take k).map yds ++ [yds ((p.vars.map fun y => ybe y g ls.length).take j ++ List.replicate (p.vars.length - j) (0, 0))])[k]? = some flat := by
        rw [List.getElem?_append_right (by omega), htk, Nat.sub_self, ← hflat]; rfl
      have hpl : flat.length = 2 * p.vars.length := by rw [← hflat, flatR_len]; simp; omega
      have hfin : ∀ (a b : Nat), a = j * 2 → b = j * 2 + 1 → yap ((fam 12 k, some (.vec ((flat.set a (i64 (ybe y g ls.length).1)).set b (i64 (ybe y g ls.length).2)))) :: (fam 12 k, some (.vec (flat.set a (i64 (ybe y g ls.length).1)))) :: (tF8 p g y ++ yei 12 2 (((ybc p g).take k).map yds ++ [yds ((p.vars.map fun y => ybe y g ls.length).take j ++ List.replicate (p.vars.length - j) (0, 0))]) (List.replicate (g.ids.length - (k + 1)) nilA))) = yap (tF8 p g y ++ yei 12 2 (((ybc p g).take k).map yds ++ [yds ((p.vars.map fun y => ybe y g ls.length).take (j + 1) ++ List.replicate (p.vars.length - (j + 1)) (0, 0))]) (List.replicate (g.ids.length - (k + 1)) nilA)) := by
        rintro _ _ rfl rfl
        have e : (flat.set (j * 2) (i64 (ybe y g ls.length).1)).set (j * 2 + 1) (i64 (ybe y g ls.length).2) = yds ((p.vars.map fun y => ybe y g ls.length).take (j + 1) ++ List.replicate (p.vars.length - (j + 1)) (0, 0)) := by
          rw [← hflat, flatR_set (by simp; omega), set_fill (by simp) (by rw [List.getElem?_map, hy]; rfl)]
        rw [e, hlook_dup]
        refine (mat_upd hlow8 (by omega) hpart (by rw [hpl, flatR_len]; simp; omega)).trans ?_
        rw [set_last htk]
      have hcO : ycn (yap (tF8 p g y ++ yei 12 2 (((ybc p g).take k).map yds ++ [yds ((p.vars.map fun y => ybe y g ls.length).take j ++ List.replicate (p.vars.length - j) (0, 0))]) (List.replicate (g.ids.length - (k + 1)) nilA)) 12) = some (matC 12 2 0 (((ybc p g).take k).map yds ++ [yds ((p.vars.map fun y => ybe y g ls.length).take j ++ List.replicate (p.vars.length - j) (0, 0))]) ++ (List.replicate (g.ids.length - (k + 1)) nilA)) := by rw [ybf houter]; exact cellsO_matO _
      have hcell : (matC 12 2 0 (((ybc p g).take k).map yds ++ [yds ((p.vars.map fun y => ybe y g ls.length).take j ++ List.replicate (p.vars.length - j) (0, 0))]) ++ (List.replicate (g.ids.length - (k + 1)) nilA))[(k : Int).toNat * 1]? = some (.ls (fam 12 k) 2 p.vars.length) := by
        rw [show ((k : Int).toNat * 1) = k by simp, List.getElem?_append_left (by rw [matC_len]; simp; omega), matC_get, hpart]
        simp only [Option.map_some, hpl, Nat.zero_add]
        congr 2
        omega
      have hpne : flat ≠ [] := by intro h0; rw [h0] at hpl; simp at hpl; omega
      refine A_subS (t' := [(7, i64 j), (8, .lp 8 0), (6, i64 k), (5, .ls 12 1 g.ids.length), (28, i64 j), (27, i64 p.vars.length), (26, .sl 6 (p.vars.map ydi)), (15, i64 k), (14, i64 g.ids.length), (2, .lp 2 0), (3, .lp 3 0)]) (h' := tF8 p g y ++ yei 12 2 (((ybc p g).take k).map yds ++ [yds ((p.vars.map fun y => ybe y g ls.length).take j ++ List.replicate (p.vars.length - j) (0, 0))]) (List.replicate (g.ids.length - (k + 1)) nilA)) ?_ (by (repeat (first | exact yan | refine yak rfl ?_))) (hsE hlook_dup)
      refine A_midM [(7, i64 j), (8, .lp 8 0), (6, i64 k), (5, .ls 12 1 g.ids.length), (28, i64 j), (27, i64 p.vars.length), (26, .sl 6 (p.vars.map ydi)), (15, i64 k), (14, i64 g.ids.length), (2, .lp 2 0), (3, .lp 3 0)] (tF8 p g y ++ yei 12 2 (((ybc p g).take k).map yds ++ [yds ((p.vars.map fun y => ybe y g ls.length).take (j + 1) ++ List.replicate (p.vars.length - (j + 1)) (0, 0))]) (List.replicate (g.ids.length - (k + 1)) nilA)) ?_ fun s2 hs2 => A_weak ?_ hs2
      focus
        refine A_region_any (lf := lf0) mixed rfl ?_
        refine any_pre [0, 1, 2, 3, 4, 5, 6, 7, 8, 10, 11, 12, 13, 14, 15, 17, 18] 6 (yat rfl (yat rfl (yat rfl (yat rfl (yat rfl (yat rfl (yat rfl (yat rfl (yat rfl (yat rfl (yat rfl (yat rfl (yat rfl (yat rfl (yat rfl (yat rfl (yat rfl yek))))))))))))))))) rfl (by kernel_rfl) ?_
        (repeat (first | refine zI ?_ | refine zL ?_ | refine zC ?_ | refine zK ?_ | refine zB ?_ | refine zA ?_ | refine zS ?_ | refine zU ?_ | refine zV ?_ | refine zF ?_ | refine zX ?_ | refine yai ?_ | refine ybb tok rfl rfl (by first | exact yao | exact yaw hlow8 (by omega) hpart | exact ybf houter) rfl (by omega) (by omega) rfl rfl ?_ | refine ycg (r := .ls (fam 12 k) 2 p.vars.length) tok rfl rfl rfl hcO hcell rfl rfl ?_ | refine yar rfl rfl (ybj y g k ls hyn hg (by omega) (by simpa using hls) (by omega)) rfl rfl ?_ | refine ybg tok rfl rfl (by first | (rw [yao]; rfl) | (rw [yaw hlow8 (by omega) hpart]; rfl)) (by first | exact hpne | (intro h0; exact hpne (by simpa using h0))) rfl (by decide) (by decide) rfl rfl ?_ | refine ybu tok rfl rfl rfl rfl rfl (by first | exact yao | exact yaw hlow8 (by omega) hpart) (by first | omega | (rw [List.length_set]; omega)) rfl rfl rfl ?_))
        refine any_fork [9, 16, 19] 5 rfl (by kernel_rfl) (by simp) ⟨⟨_, rfl, ?_⟩, ⟨_, rfl, ?_⟩, ⟨_, rfl, ?_⟩, trivial⟩
        · (repeat (first | refine zI ?_ | refine zL ?_ | refine zC ?_ | refine zK ?_ | refine zB ?_ | refine zA ?_ | refine zS ?_ | refine zU ?_ | refine zV ?_ | refine zF ?_ | refine zX ?_ | refine yai ?_ | refine ybb tok rfl rfl (by first | exact yao | exact yaw hlow8 (by omega) hpart | exact ybf houter) rfl (by omega) (by omega) rfl rfl ?_ | refine ycg (r := .ls (fam 12 k) 2 p.vars.length) tok rfl rfl rfl hcO hcell rfl rfl ?_ | refine yar rfl rfl (ybj y g k ls hyn hg (by omega) (by simpa using hls) (by omega)) rfl rfl ?_ | refine ybg tok rfl rfl (by first | (rw [yao]; rfl) | (rw [yaw hlow8 (by omega) hpart]; rfl)) (by first | exact hpne | (intro h0; exact hpne (by simpa using h0))) rfl (by decide) (by decide) rfl rfl ?_ | refine ybu tok rfl rfl rfl rfl rfl (by first | exact yao | exact yaw hlow8 (by omega) hpart) (by first | omega | (rw [List.length_set]; omega)) rfl rfl rfl ?_))
          refine any_fork [16, 19, 20] 4 rfl (by kernel_rfl) (by simp) ⟨⟨_, rfl, ?_⟩, ⟨_, rfl, ?_⟩, ⟨_, rfl, ?_⟩, trivial⟩
          · (repeat (first | refine zI ?_ | refine zL ?_ | refine zC ?_ | refine zK ?_ | refine zB ?_ | refine zA ?_ | refine zS ?_ | refine zU ?_ | refine zV ?_ | refine zF ?_ | refine zX ?_ | refine yai ?_ | refine ybb tok rfl rfl (by first | exact yao | exact yaw hlow8 (by omega) hpart | exact ybf houter) rfl (by omega) (by omega) rfl rfl ?_ | refine ycg (r := .ls (fam 12 k) 2 p.vars.length) tok rfl rfl rfl hcO hcell rfl rfl ?_ | refine yar rfl rfl (ybj y g k ls hyn hg (by omega) (by simpa using hls) (by omega)) rfl rfl ?_ | refine ybg tok rfl rfl (by first | (rw [yao]; rfl) | (rw [yaw hlow8 (by omega) hpart]; rfl)) (by first | exact hpne | (intro h0; exact hpne (by simpa using h0))) rfl (by decide) (by decide) rfl rfl ?_ | refine ybu tok rfl rfl rfl rfl rfl (by first | exact yao | exact yaw hlow8 (by omega) hpart) (by first | omega | (rw [List.length_set]; omega)) rfl rfl rfl ?_))
            refine any_fork [19, 20] 3 rfl (by kernel_rfl) (by simp) ⟨⟨_, rfl, ?_⟩, ⟨_, rfl, ?_⟩, trivial⟩
            · (repeat (first | refine zI ?_ | refine zL ?_ | refine zC ?_ | refine zK ?_ | refine zB ?_ | refine zA ?_ | refine zS ?_ | refine zU ?_ | refine zV ?_ | refine zF ?_ | refine zX ?_ | refine yai ?_ | refine ybb tok rfl rfl (by first | exact yao | exact yaw hlow8 (by omega) hpart | exact ybf houter) rfl (by omega) (by omega) rfl rfl ?_ | refine ycg (r := .ls (fam 12 k) 2 p.vars.length) tok rfl rfl rfl hcO hcell rfl rfl ?_ | refine yar rfl rfl (ybj y g k ls hyn hg (by omega) (by simpa using hls) (by omega)) rfl rfl ?_ | refine ybg tok rfl rfl (by first | (rw [yao]; rfl) | (rw [yaw hlow8 (by omega) hpart]; rfl)) (by first | exact hpne | (intro h0; exact hpne (by simpa using h0))) rfl (by decide) (by decide) rfl rfl ?_ | refine ybu tok rfl rfl rfl rfl rfl (by first | exact yao | exact yaw hlow8 (by omega) hpart) (by first | omega | (rw [List.length_set]; omega)) rfl rfl rfl ?_))
              refine any_rest [20, 21, 22] (yat rfl (yat rfl (yat rfl yek))) rfl (by kernel_rfl) ?_
              (repeat (first | refine zI ?_ | refine zL ?_ | refine zC ?_ | refine zK ?_ | refine zB ?_ | refine zA ?_ | refine zS ?_ | refine zU ?_ | refine zV ?_ | refine zF ?_ | refine zX ?_ | refine yai ?_ | refine ybb tok rfl rfl (by first | exact yao | exact yaw hlow8 (by omega) hpart | exact ybf houter) rfl (by omega) (by omega) rfl rfl ?_ | refine ycg (r := .ls (fam 12 k) 2 p.vars.length) tok rfl rfl rfl hcO hcell rfl rfl ?_ | refine yar rfl rfl (ybj y g k ls hyn hg (by omega) (by simpa using hls) (by omega)) rfl rfl ?_ | refine ybg tok rfl rfl (by first | (rw [yao]; rfl) | (rw [yaw hlow8 (by omega) hpart]; rfl)) (by first | exact hpne | (intro h0; exact hpne (by simpa using h0))) rfl (by decide) (by decide) rfl rfl ?_ | refine ybu tok rfl rfl rfl rfl rfl (by first | exact yao | exact yaw hlow8 (by omega) hpart) (by first | omega | (rw [List.length_set]; omega)) rfl rfl rfl ?_))
              exact ⟨rfl, yce (by (repeat (first | exact yan | refine yak rfl ?_))), hsE (hfin _ _ (by simp) (by simp))⟩
            · (repeat (first | refine zI ?_ | refine zL ?_ | refine zC ?_ | refine zK ?_ | refine zB ?_ | refine zA ?_ | refine zS ?_ | refine zU ?_ | refine zV ?_ | refine zF ?_ | refine zX ?_ | refine yai ?_ | refine ybb tok rfl rfl (by first | exact yao | exact yaw hlow8 (by omega) hpart | exact ybf houter) rfl (by omega) (by omega) rfl rfl ?_ | refine ycg (r := .ls (fam 12 k) 2 p.vars.length) tok rfl rfl rfl hcO hcell rfl rfl ?_ | refine yar rfl rfl (ybj y g k ls hyn hg (by omega) (by simpa using hls) (by omega)) rfl rfl ?_ | refine ybg tok rfl rfl (by first | (rw [yao]; rfl) | (rw [yaw hlow8 (by omega) hpart]; rfl)) (by first | exact hpne | (intro h0; exact hpne (by simpa using h0))) rfl (by decide) (by decide) rfl rfl ?_ | refine ybu tok rfl rfl rfl rfl rfl (by first | exact yao | exact yaw hlow8 (by omega) hpart) (by first | omega | (rw [List.length_set]; omega)) rfl rfl rfl ?_))
              refine any_rest [19, 21, 22] (yat rfl (yat rfl (yat rfl yek))) rfl (by kernel_rfl) ?_
              (repeat (first | refine zI ?_ | refine zL ?_ | refine zC ?_ | refine zK ?_ | refine zB ?_ | refine zA ?_ | refine zS ?_ | refine zU ?_ | refine zV ?_ | refine zF ?_ | refine zX ?_ | refine yai ?_ | refine ybb tok rfl rfl (by first | exact yao | exact yaw hlow8 (by omega) hpart | exact ybf houter) rfl (by omega) (by omega) rfl rfl ?_ | refine ycg (r := .ls (fam 12 k) 2 p.vars.length) tok rfl rfl rfl hcO hcell rfl rfl ?_ | refine yar rfl rfl (ybj y g k ls hyn hg (by omega) (by simpa using hls) (by omega)) rfl rfl ?_ | refine ybg tok rfl rfl (by first | (rw [yao]; rfl) | (rw [yaw hlow8 (by omega) hpart]; rfl)) (by first | exact hpne | (intro h0; exact hpne (by simpa using h0))) rfl (by decide) (by decide) rfl rfl ?_ | refine ybu tok rfl rfl rfl rfl rfl (by first | exact yao | exact yaw hlow8 (by omega) hpart) (by first | omega | (rw [List.length_set]; omega)) rfl rfl rfl ?_))
              exact ⟨rfl, yce (by (repeat (first | exact yan | refine yak rfl ?_))), hsE (hfin _ _ (by simp) (by simp))⟩
          · (repeat (first | refine zI ?_ | refine zL ?_ | refine zC ?_ | refine zK ?_ | refine zB ?_ | refine zA ?_ | refine zS ?_ | refine zU ?_ | refine zV ?_ | refine zF ?_ | refine zX ?_ | refine yai ?_ | refine ybb tok rfl rfl (by first | exact yao | exact yaw hlow8 (by omega) hpart | exact ybf houter) rfl (by omega) (by omega) rfl rfl ?_ | refine ycg (r := .ls (fam 12 k) 2 p.vars.length) tok rfl rfl rfl hcO hcell rfl rfl ?_ | refine yar rfl rfl (ybj y g k ls hyn hg (by omega) (by simpa using hls) (by omega)) rfl rfl ?_ | refine ybg tok rfl rfl (by first | (rw [yao]; rfl) | (rw [yaw hlow8 (by omega) hpart]; rfl)) (by first | exact hpne | (intro h0; exact hpne (by simpa using h0))) rfl (by decide) (by decide) rfl rfl ?_ | refine ybu tok rfl rfl rfl rfl rfl (by first | exact yao | exact yaw hlow8 (by omega) hpart) (by first | omega | (rw [List.length_set]; omega)) rfl rfl rfl ?_))
            refine any_rest [16, 20, 21, 22] (yat rfl (yat rfl (yat rfl (yat rfl yek)))) rfl (by kernel_rfl) ?_
            (repeat (first | refine zI ?_ | refine zL ?_ | refine zC ?_ | refine zK ?_ | refine zB ?_ | refine zA ?_ | refine zS ?_ | refine zU ?_ | refine zV ?_ | refine zF ?_ | refine zX ?_ | refine yai ?_ | refine ybb tok rfl rfl (by first | exact yao | exact yaw hlow8 (by omega) hpart | exact ybf houter) rfl (by omega) (by omega) rfl rfl ?_ | refine ycg (r := .ls (fam 12 k) 2 p.vars.length) tok rfl rfl rfl hcO hcell rfl rfl ?_ | refine yar rfl rfl (ybj y g k ls hyn hg (by omega) (by simpa using hls) (by omega)) rfl rfl ?_ | refine ybg tok rfl rfl (by first | (rw [yao]; rfl) | (rw [yaw hlow8 (by omega) hpart]; rfl)) (by first | exact hpne | (intro h0; exact hpne (by simpa using h0))) rfl (by decide) (by decide) rfl rfl ?_ | refine ybu tok rfl rfl rfl rfl rfl (by first | exact yao | exact yaw hlow8 (by omega) hpart) (by first | omega | (rw [List.length_set]; omega)) rfl rfl rfl ?_))
            exact ⟨rfl, yce (by (repeat (first | exact yan | refine yak rfl ?_))), hsE (hfin _ _ (by simp) (by simp))⟩
          · (repeat (first | refine zI ?_ | refine zL ?_ | refine zC ?_ | refine zK ?_ | refine zB ?_ | refine zA ?_ | refine zS ?_ | refine zU ?_ | refine zV ?_ | refine zF ?_ | refine zX ?_ | refine yai ?_ | refine ybb tok rfl rfl (by first | exact yao | exact yaw hlow8 (by omega) hpart | exact ybf houter) rfl (by omega) (by omega) rfl rfl ?_ | refine ycg (r := .ls (fam 12 k) 2 p.vars.length) tok rfl rfl rfl hcO hcell rfl rfl ?_ | refine yar rfl rfl (ybj y g k ls hyn hg (by omega) (by simpa using hls) (by omega)) rfl rfl ?_ | refine ybg tok rfl rfl (by first | (rw [yao]; rfl) | (rw [yaw hlow8 (by omega) hpart]; rfl)) (by first | exact hpne | (intro h0; exact hpne (by simpa using h0))) rfl (by decide) (by decide) rfl rfl ?_ | refine ybu tok rfl rfl rfl rfl rfl (by first | exact yao | exact yaw hlow8 (by omega) hpart) (by first | omega | (rw [List.length_set]; omega)) rfl rfl rfl ?_))
            refine any_fork [16, 19] 3 rfl (by kernel_rfl) (by simp) ⟨⟨_, rfl, ?_⟩, ⟨_, rfl, ?_⟩, trivial⟩
            · (repeat (first | refine zI ?_ | refine zL ?_ | refine zC ?_ | refine zK ?_ | refine zB ?_ | refine zA ?_ | refine zS ?_ | refine zU ?_ | refine zV ?_ | refine zF ?_ | refine zX ?_ | refine yai ?_ | refine ybb tok rfl rfl (by first | exact yao | exact yaw hlow8 (by omega) hpart | exact ybf houter) rfl (by omega) (by omega) rfl rfl ?_ | refine ycg (r := .ls (fam 12 k) 2 p.vars.length) tok rfl rfl rfl hcO hcell rfl rfl ?_ | refine yar rfl rfl (ybj y g k ls hyn hg (by omega) (by simpa using hls) (by omega)) rfl rfl ?_ | refine ybg tok rfl rfl (by first | (rw [yao]; rfl) | (rw [yaw hlow8 (by omega) hpart]; rfl)) (by first | exact hpne | (intro h0; exact hpne (by simpa using h0))) rfl (by decide) (by decide) rfl rfl ?_ | refine ybu tok rfl rfl rfl rfl rfl (by first | exact yao | exact yaw hlow8 (by omega) hpart) (by first | omega | (rw [List.length_set]; omega)) rfl rfl rfl ?_))
              refine any_rest [19, 21, 22] (yat rfl (yat rfl (yat rfl yek))) rfl (by kernel_rfl) ?_
              (repeat (first | refine zI ?_ | refine zL ?_ | refine zC ?_ | refine zK ?_ | refine zB ?_ | refine zA ?_ | refine zS ?_ | refine zU ?_ | refine zV ?_ | refine zF ?_ | refine zX ?_ | refine yai ?_ | refine ybb tok rfl rfl (by first | exact yao | exact yaw hlow8 (by omega) hpart | exact ybf houter) rfl (by omega) (by omega) rfl rfl ?_ | refine ycg (r := .ls (fam 12 k) 2 p.vars.length) tok rfl rfl rfl hcO hcell rfl rfl ?_ | refine yar rfl rfl (ybj y g k ls hyn hg (by omega) (by simpa using hls) (by omega)) rfl rfl ?_ | refine ybg tok rfl rfl (by first | (rw [yao]; rfl) | (rw [yaw hlow8 (by omega) hpart]; rfl)) (by first | exact hpne | (intro h0; exact hpne (by simpa using h0))) rfl (by decide) (by decide) rfl rfl ?_ | refine ybu tok rfl rfl rfl rfl rfl (by first | exact yao | exact yaw hlow8 (by omega) hpart) (by first | omega | (rw [List.length_set]; omega)) rfl rfl rfl ?_))
              exact ⟨rfl, yce (by (repeat (first | exact yan | refine yak rfl ?_))), hsE (hfin _ _ (by simp) (by simp))⟩
            · (repeat (first | refine zI ?_ | refine zL ?_ | refine zC ?_ | refine zK ?_ | refine zB ?_ | refine zA ?_ | refine zS ?_ | refine zU ?_ | refine zV ?_ | refine zF ?_ | refine zX ?_ | refine yai ?_ | refine ybb tok rfl rfl (by first | exact yao | exact yaw hlow8 (by omega) hpart | exact ybf houter) rfl (by omega) (by omega) rfl rfl ?_ | refine ycg (r := .ls (fam 12 k) 2 p.vars.length) tok rfl rfl rfl hcO hcell rfl rfl ?_ | refine yar rfl rfl (ybj y g k ls hyn hg (by omega) (by simpa using hls) (by omega)) rfl rfl ?_ | refine ybg tok rfl rfl (by first | (rw [yao]; rfl) | (rw [yaw hlow8 (by omega) hpart]; rfl)) (by first | exact hpne | (intro h0; exact hpne (by simpa using h0))) rfl (by decide) (by decide) rfl rfl ?_ | refine ybu tok rfl rfl rfl rfl rfl (by first | exact yao | exact yaw hlow8 (by omega) hpart) (by first | omega | (rw [List.length_set]; omega)) rfl rfl rfl ?_))
              refine any_rest [16, 21, 22] (yat rfl (yat rfl (yat rfl yek))) rfl (by kernel_rfl) ?_
              (repeat (first | refine zI ?_ | refine zL ?_ | refine zC ?_ | refine zK ?_ | refine zB ?_ | refine zA ?_ | refine zS ?_ | refine zU ?_ | refine zV ?_ | refine zF ?_ | refine zX ?_ | refine yai ?_ | refine ybb tok rfl rfl (by first | exact yao | exact yaw hlow8 (by omega) hpart | exact ybf houter) rfl (by omega) (by omega) rfl rfl ?_ | refine ycg (r := .ls (fam 12 k) 2 p.vars.length) tok rfl rfl rfl hcO hcell rfl rfl ?_ | refine yar rfl rfl (ybj y g k ls hyn hg (by omega) (by simpa using hls) (by omega)) rfl rfl ?_ | refine ybg tok rfl rfl (by first | (rw [yao]; rfl) | (rw [yaw hlow8 (by omega) hpart]; rfl)) (by first | exact hpne | (intro h0; exact hpne (by simpa using h0))) rfl (by decide) (by decide) rfl rfl ?_ | refine ybu tok rfl rfl rfl rfl rfl (by first | exact yao | exact yaw hlow8 (by omega) hpart) (by first | omega | (rw [List.length_set]; omega)) rfl rfl rfl ?_))
              exact ⟨rfl, yce (by (repeat (first | exact yan | refine yak rfl ?_))), hsE (hfin _ _ (by simp) (by simp))⟩
        · (repeat (first | refine zI ?_ | refine zL ?_ | refine zC ?_ | refine zK ?_ | refine zB ?_ | refine zA ?_ | refine zS ?_ | refine zU ?_ | refine zV ?_ | refine zF ?_ | refine zX ?_ | refine yai ?_ | refine ybb tok rfl rfl (by first | exact yao | exact yaw hlow8 (by omega) hpart | exact ybf houter) rfl (by omega) (by omega) rfl rfl ?_ | refine ycg (r := .ls (fam 12 k) 2 p.vars.length) tok rfl rfl rfl hcO hcell rfl rfl ?_ | refine yar rfl rfl (ybj y g k ls hyn hg (by omega) (by simpa using hls) (by omega)) rfl rfl ?_ | refine ybg tok rfl rfl (by first | (rw [yao]; rfl) | (rw [yaw hlow8 (by omega) hpart]; rfl)) (by first | exact hpne | (intro h0; exact hpne (by simpa using h0))) rfl (by decide) (by decide) rfl rfl ?_ | refine ybu tok rfl rfl rfl rfl rfl (by first | exact yao | exact yaw hlow8 (by omega) hpart) (by first | omega | (rw [List.length_set]; omega)) rfl rfl rfl ?_))
          refine any_fork [9, 19] 4 rfl (by kernel_rfl) (by simp) ⟨⟨_, rfl, ?_⟩, ⟨_, rfl, ?_⟩, trivial⟩
          · (repeat (first | refine zI ?_ | refine zL ?_ | refine zC ?_ | refine zK ?_ | refine zB ?_ | refine zA ?_ | refine zS ?_ | refine zU ?_ | refine zV ?_ | refine zF ?_ | refine zX ?_ | refine yai ?_ | refine ybb tok rfl rfl (by first | exact yao | exact yaw hlow8 (by omega) hpart | exact ybf houter) rfl (by omega) (by omega) rfl rfl ?_ | refine ycg (r := .ls (fam 12 k) 2 p.vars.length) tok rfl rfl rfl hcO hcell rfl rfl ?_ | refine yar rfl rfl (ybj y g k ls hyn hg (by omega) (by simpa using hls) (by omega)) rfl rfl ?_ | refine ybg tok rfl rfl (by first | (rw [yao]; rfl) | (rw [yaw hlow8 (by omega) hpart]; rfl)) (by first | exact hpne | (intro h0; exact hpne (by simpa using h0))) rfl (by decide) (by decide) rfl rfl ?_ | refine ybu tok rfl rfl rfl rfl rfl (by first | exact yao | exact yaw hlow8 (by omega) hpart) (by first | omega | (rw [List.length_set]; omega)) rfl rfl rfl ?_))
            refine any_fork [19, 20] 3 rfl (by kernel_rfl) (by simp) ⟨⟨_, rfl, ?_⟩, ⟨_, rfl, ?_⟩, trivial⟩
            · (repeat (first | refine zI ?_ | refine zL ?_ | refine zC ?_ | refine zK ?_ | refine zB ?_ | refine zA ?_ | refine zS ?_ | refine zU ?_ | refine zV ?_ | refine zF ?_ | refine zX ?_ | refine yai ?_ | refine ybb tok rfl rfl (by first | exact yao | exact yaw hlow8 (by omega) hpart | exact ybf houter) rfl (by omega) (by omega) rfl rfl ?_ | refine ycg (r := .ls (fam 12 k) 2 p.vars.length) tok rfl rfl rfl hcO hcell rfl rfl ?_ | refine yar rfl rfl (ybj y g k ls hyn hg (by omega) (by simpa using hls) (by omega)) rfl rfl ?_ | refine ybg tok rfl rfl (by first | (rw [yao]; rfl) | (rw [yaw hlow8 (by omega) hpart]; rfl)) (by first | exact hpne | (intro h0; exact hpne (by simpa using h0))) rfl (by decide) (by decide) rfl rfl ?_ | refine ybu tok rfl rfl rfl rfl rfl (by first | exact yao | exact yaw hlow8 (by omega) hpart) (by first | omega | (rw [List.length_set]; omega)) rfl rfl rfl ?_))
              refine any_rest [20, 21, 22] (yat rfl (yat rfl (yat rfl yek))) rfl (by kernel_rfl) ?_
              (repeat (first | refine zI ?_ | refine zL ?_ | refine zC ?_ | refine zK ?_ | refine zB ?_ | refine zA ?_ | refine zS ?_ | refine zU ?_ | refine zV ?_ | refine zF ?_ | refine zX ?_ | refine yai ?_ | refine ybb tok rfl rfl (by first | exact yao | exact yaw hlow8 (by omega) hpart | exact ybf houter) rfl (by omega) (by omega) rfl rfl ?_ | refine ycg (r := .ls (fam 12 k) 2 p.vars.length) tok rfl rfl rfl hcO hcell rfl rfl ?_ | refine yar rfl rfl (ybj y g k ls hyn hg (by omega) (by simpa using hls) (by omega)) rfl rfl ?_ | refine ybg tok rfl rfl (by first | (rw [yao]; rfl) | (rw [yaw hlow8 (by omega) hpart]; rfl)) (by first | exact hpne | (intro h0; exact hpne (by simpa using h0))) rfl (by decide) (by decide) rfl rfl ?_ | refine ybu tok rfl rfl rfl rfl rfl (by first | exact yao | exact yaw hlow8 (by omega) hpart) (by first | omega | (rw [List.length_set]; omega)) rfl rfl rfl ?_))
              exact ⟨rfl, yce (by (repeat (first | exact yan | refine yak rfl ?_))), hsE (hfin _ _ (by simp) (by simp))⟩
            · (repeat (first | refine zI ?_ | refine zL ?_ | refine zC ?_ | refine zK ?_ | refine zB ?_ | refine zA ?_ | refine zS ?_ | refine zU ?_ | refine zV ?_ | refine zF ?_ | refine zX ?_ | refine yai ?_ | refine ybb tok rfl rfl (by first | exact yao | exact yaw hlow8 (by omega) hpart | exact ybf houter) rfl (by omega) (by omega) rfl rfl ?_ | refine ycg (r := .ls (fam 12 k) 2 p.vars.length) tok rfl rfl rfl hcO hcell rfl rfl ?_ | refine yar rfl rfl (ybj y g k ls hyn hg (by omega) (by simpa using hls) (by omega)) rfl rfl ?_ | refine ybg tok rfl rfl (by first | (rw [yao]; rfl) | (rw [yaw hlow8 (by omega) hpart]; rfl)) (by first | exact hpne | (intro h0; exact hpne (by simpa using h0))) rfl (by decide) (by decide) rfl rfl ?_ | refine ybu tok rfl rfl rfl rfl rfl (by first | exact yao | exact yaw hlow8 (by omega) hpart) (by first | omega | (rw [List.length_set]; omega)) rfl rfl rfl ?_))
              refine any_rest [19, 21, 22] (yat rfl (yat rfl (yat rfl yek))) rfl (by kernel_rfl) ?_
              (repeat (first | refine zI ?_ | refine zL ?_ | refine zC ?_ | refine zK ?_ | refine zB ?_ | refine zA ?_ | refine zS ?_ | refine zU ?_ | refine zV ?_ | refine zF ?_ | refine zX ?_ | refine yai ?_ | refine ybb tok rfl rfl (by first | exact yao | exact yaw hlow8 (by omega) hpart | exact ybf houter) rfl (by omega) (by omega) rfl rfl ?_ | refine ycg (r := .ls (fam 12 k) 2 p.vars.length) tok rfl rfl rfl hcO hcell rfl rfl ?_ | refine yar rfl rfl (ybj y g k ls hyn hg (by omega) (by simpa using hls) (by omega)) rfl rfl ?_ | refine ybg tok rfl rfl (by first | (rw [yao]; rfl) | (rw [yaw hlow8 (by omega) hpart]; rfl)) (by first | exact hpne | (intro h0; exact hpne (by simpa using h0))) rfl (by decide) (by decide) rfl rfl ?_ | refine ybu tok rfl rfl rfl rfl rfl (by first | exact yao | exact yaw hlow8 (by omega) hpart) (by first | omega | (rw [List.length_set]; omega)) rfl rfl rfl ?_))
              exact ⟨rfl, yce (by (repeat (first | exact yan | refine yak rfl ?_))), hsE (hfin _ _ (by simp) (by simp))⟩
          · (repeat (first | refine zI ?_ | refine zL ?_ | refine zC ?_ | refine zK ?_ | refine zB ?_ | refine zA ?_ | refine zS ?_ | refine zU ?_ | refine zV ?_ | refine zF ?_ | refine zX ?_ | refine yai ?_ | refine ybb tok rfl rfl (by first | exact yao | exact yaw hlow8 (by omega) hpart | exact ybf houter) rfl (by omega) (by omega) rfl rfl ?_ | refine ycg (r := .ls (fam 12 k) 2 p.vars.length) tok rfl rfl rfl hcO hcell rfl rfl ?_ | refine yar rfl rfl (ybj y g k ls hyn hg (by omega) (by simpa using hls) (by omega)) rfl rfl ?_ | refine ybg tok rfl rfl (by first | (rw [yao]; rfl) | (rw [yaw hlow8 (by omega) hpart]; rfl)) (by first | exact hpne | (intro h0; exact hpne (by simpa using h0))) rfl (by decide) (by decide) rfl rfl ?_ | refine ybu tok rfl rfl rfl rfl rfl (by first | exact yao | exact yaw hlow8 (by omega) hpart) (by first | omega | (rw [List.length_set]; omega)) rfl rfl rfl ?_))
            refine any_rest [9, 20, 21, 22] (yat rfl (yat rfl (yat rfl (yat rfl yek)))) rfl (by kernel_rfl) ?_
            (repeat (first | refine zI ?_ | refine zL ?_ | refine zC ?_ | refine zK ?_ | refine zB ?_ | refine zA ?_ | refine zS ?_ | refine zU ?_ | refine zV ?_ | refine zF ?_ | refine zX ?_ | refine yai ?_ | refine ybb tok rfl rfl (by first | exact yao | exact yaw hlow8 (by omega) hpart | exact ybf houter) rfl (by omega) (by omega) rfl rfl ?_ | refine ycg (r := .ls (fam 12 k) 2 p.vars.length) tok rfl rfl rfl hcO hcell rfl rfl ?_ | refine yar rfl rfl (ybj y g k ls hyn hg (by omega) (by simpa using hls) (by omega)) rfl rfl ?_ | refine ybg tok rfl rfl (by first | (rw [yao]; rfl) | (rw [yaw hlow8 (by omega) hpart]; rfl)) (by first | exact hpne | (intro h0; exact hpne (by simpa using h0))) rfl (by decide) (by decide) rfl rfl ?_ | refine ybu tok rfl rfl rfl rfl rfl (by first | exact yao | exact yaw hlow8 (by omega) hpart) (by first | omega | (rw [List.length_set]; omega)) rfl rfl rfl ?_))
            exact ⟨rfl, yce (by (repeat (first | exact yan | refine yak rfl ?_))), hsE (hfin _ _ (by simp) (by simp))⟩
        · (repeat (first | refine zI ?_ | refine zL ?_ | refine zC ?_ | refine zK ?_ | refine zB ?_ | refine zA ?_ | refine zS ?_ | refine zU ?_ | refine zV ?_ | refine zF ?_ | refine zX ?_ | refine yai ?_ | refine ybb tok rfl rfl (by first | exact yao | exact yaw hlow8 (by omega) hpart | exact ybf houter) rfl (by omega) (by omega) rfl rfl ?_ | refine ycg (r := .ls (fam 12 k) 2 p.vars.length) tok rfl rfl rfl hcO hcell rfl rfl ?_ | refine yar rfl rfl (ybj y g k ls hyn hg (by omega) (by simpa using hls) (by omega)) rfl rfl ?_ | refine ybg tok rfl rfl (by first | (rw [yao]; rfl) | (rw [yaw hlow8 (by omega) hpart]; rfl)) (by first | exact hpne | (intro h0; exact hpne (by simpa using h0))) rfl (by decide) (by decide) rfl rfl ?_ | refine ybu tok rfl rfl rfl rfl rfl (by first | exact yao | exact yaw hlow8 (by omega) hpart) (by first | omega | (rw [List.length_set]; omega)) rfl rfl rfl ?_))
          refine any_rest [9, 16, 20, 21, 22] (yat rfl (yat rfl (yat rfl (yat rfl (yat rfl yek))))) rfl (by kernel_rfl) ?_
          (repeat (first | refine zI ?_ | refine zL ?_ | refine zC ?_ | refine zK ?_ | refine zB ?_ | refine zA ?_ | refine zS ?_ | refine zU ?_ | refine zV ?_ | refine zF ?_ | refine zX ?_ | refine yai ?_ | refine ybb tok rfl rfl (by first | exact yao | exact yaw hlow8 (by omega) hpart | exact ybf houter) rfl (by omega) (by omega) rfl rfl ?_ | refine ycg (r := .ls (fam 12 k) 2 p.vars.length) tok rfl rfl rfl hcO hcell rfl rfl ?_ | refine yar rfl rfl (ybj y g k ls hyn hg (by omega) (by simpa using hls) (by omega)) rfl rfl ?_ | refine ybg tok rfl rfl (by first | (rw [yao]; rfl) | (rw [yaw hlow8 (by omega) hpart]; rfl)) (by first | exact hpne | (intro h0; exact hpne (by simpa using h0))) rfl (by decide) (by decide) rfl rfl ?_ | refine ybu tok rfl rfl rfl rfl rfl (by first | exact yao | exact yaw hlow8 (by omega) hpart) (by first | omega | (rw [List.length_set]; omega)) rfl rfl rfl ?_))
          exact ⟨rfl, yce (by (repeat (first | exact yan | refine yak rfl ?_))), hsE (hfin _ _ (by simp) (by simp))⟩
      (repeat (first | refine zI ?_ | refine zL ?_ | refine zC ?_ | refine yai ?_ | refine yaj ?_ | refine zR ?_ | refine zD ?_ | refine zK ?_ | refine zB ?_ | refine zA ?_ | refine zS ?_ | refine zU ?_ | refine zV ?_ | refine zF ?_ | with_reducible refine yac ?_ | with_reducible refine yag ?_ | refine yad ?_ | refine yae ?_ | refine yaf ?_ | refine zT ?_ | refine zE ?_ | refine zX ?_))
      exact rndS (j + 1) (by omega) (by omega) (by (repeat (first | exact yan | refine yak rfl ?_))) (hsM (f := tF8 p g y) (f' := tF p g) (yaa rfl (yaa rfl yab)) hlow8 rfl houter)
    · simp at h2
      obtain rfl : j = p.vars.length := by omega
      (repeat (first | refine zI ?_ | refine zL ?_ | refine zC ?_ | refine yai ?_ | refine yaj ?_ | refine zR ?_ | refine zD ?_ | refine zK ?_ | refine zB ?_ | refine zA ?_ | refine zS ?_ | refine zU ?_ | refine zV ?_ | refine zF ?_ | with_reducible refine yac ?_ | with_reducible refine yag ?_ | refine yad ?_ | refine yae ?_ | refine yaf ?_ | refine zT ?_ | refine zE ?_ | refine zX ?_))
      refine rndS (k + 1) (by omega) (by omega) (by (repeat (first | exact yan | refine yak rfl ?_))) (hsE ?_)
      have hrow : (ybc p g)[k]? = some (p.vars.map fun y => ybe y g ls.length) := by simp [ybc, hls]
      rw [ych hrow]
      simp [List.take_of_length_le]
  · simp at h
    obtain rfl : k = g.ids.length := by omega
    (repeat (first | refine zI ?_ | refine zL ?_ | refine zC ?_ | refine yai ?_ | refine yaj ?_ | refine zR ?_ | refine zD ?_ | refine zK ?_ | refine zB ?_ | refine zA ?_ | refine zS ?_ | refine zU ?_ | refine zV ?_ | refine zF ?_ | with_reducible refine yac ?_ | with_reducible refine yag ?_ | refine yad ?_ | refine yae ?_ | refine yaf ?_ | refine zT ?_ | refine zE ?_ | refine zX ?_))
    refine yas ?_; refine ⟨_, rfl, ?_⟩
    have e1 : (ybc p g).take g.ids.length = ybc p g := List.take_of_length_le (by omega)
    have e2 : List.replicate (g.ids.length - g.ids.length) nilA = [] := by simp
    rw [e1, e2]
    have := Frz.mat (f := tF p g) (M := 12) (sz := 2) (rows := (ybc p g).map yds) (els := (ybc p g).map fun r => r.map encRg) rfl rfl rfl (by omega) (by intro r hr e he; obtain ⟨r0, _, rfl⟩ := List.mem_map.1 hr; obtain ⟨q, _, rfl⟩ := List.mem_map.1 he; rfl) (n := g.ids.length) (by simp [htl]) (by simp [yds, Function.comp_def])
    simpa [S, yfj, List.map_map, Function.comp_def] using this
end Go.Proofs.YtmlkdoimkdbdpaaGreatDoor
set_option linter.unusedVariables false
set_option maxRecDepth 100000
set_option maxHeartbeats 8000000
namespace Go.Proofs.YtmlkdoimkdbdpaaGreatDoor
open Go.RowKit
def inRg (r : Int × Int) (v : Int) : Bool := decide (r.1 ≤ v) && decide (v ≤ r.2)
def yef (rs : List (Int × Int)) (vs : List Int) : Bool := vs.length == rs.length && (rs.zip vs).all fun x => inRg x.1 x.2
theorem zip_get {α β : Type} {l : List α} {m : List β} {k : Nat} {a : α} {b : β} (h1 : l[k]? = some a) (h2 : m[k]? = some b) : (l.zip m)[k]? = some (a, b) := by
  rw [List.getElem?_zip_eq_some]; exact ⟨h1, h2⟩
theorem allM_snoc {α : Type} {l : List α} {f : α → Bool} {k : Nat} {x : α} (hx : l[k]? = some x) (h : (l.take k).all f = true) (hf : f x = true) : (l.take (k + 1)).all f = true := by
  rw [ych hx, List.all_append, h]; simp [hf]
theorem allM_bad {α : Type} {l : List α} {f : α → Bool} {k : Nat} {x : α} (hx : l[k]? = some x) (hf : f x = false) : l.all f = false := by
  rw [List.all_eq_false]; exact ⟨x, List.mem_of_getElem? hx, by simp [hf]⟩
theorem state_con (rs : List (Int × Int)) (vs : List Int) (hv : vs.length ≤ 1000000) : Con Tryz.prog 50 [.sl 2 (rs.map encRg), ybk vs] (yfp (yef rs vs)) := by
  refine ybs Tryz.func50 rfl rfl Tryz.ntmps50 Tryz.results50 rfl rfl ?_
  (repeat (first | refine zI ?_ | refine zL ?_ | refine zC ?_ | refine yai ?_ | refine yaj ?_ | refine zR ?_ | refine zD ?_ | refine zK ?_ | refine zB ?_ | refine zA ?_ | refine zS ?_ | refine zU ?_ | refine zV ?_ | refine zF ?_ | with_reducible refine yac ?_ | with_reducible refine yag ?_ | refine yad ?_ | refine yae ?_ | refine yaf ?_ | refine zT ?_ | refine zE ?_ | refine zX ?_))
  refine yaq rfl (fun h => ?_) (fun h => ?_)
  · (repeat (first | refine zI ?_ | refine zL ?_ | refine zC ?_ | refine yai ?_ | refine yaj ?_ | refine zR ?_ | refine zD ?_ | refine zK ?_ | refine zB ?_ | refine zA ?_ | refine zS ?_ | refine zU ?_ | refine zV ?_ | refine zF ?_ | with_reducible refine yac ?_ | with_reducible refine yag ?_ | refine yad ?_ | refine yae ?_ | refine yaf ?_ | refine zT ?_ | refine zE ?_ | refine zX ?_))
    refine yas ?_; refine ⟨_, rfl, ?_⟩
    refine yau ?_
    have : vs.length ≠ rs.length := by intro e; simp [e] at h
    simp [yef, this]
  have hl : vs.length = rs.length := by simp at h; omega
  (repeat (first | refine zI ?_ | refine zL ?_ | refine zC ?_ | refine yai ?_ | refine yaj ?_ | refine zR ?_ | refine zD ?_ | refine zK ?_ | refine zB ?_ | refine zA ?_ | refine zS ?_ | refine zU ?_ | refine zV ?_ | refine zF ?_ | with_reducible refine yac ?_ | with_reducible refine yag ?_ | refine yad ?_ | refine yae ?_ | refine yaf ?_ | refine zT ?_ | refine zE ?_ | refine zX ?_))
  refine ydp (α := Nat) (fun k => [(14, i64 k), (13, i64 vs.length), (12, ybk vs), (0, .sl 2 (rs.map encRg))]) (fun k => []) (fun k => vs.length - k) (fun k => k ≤ vs.length ∧ ((rs.zip vs).take k).all (fun x => inRg x.1 x.2) = true) 0 ⟨by omega, rfl⟩ (by (repeat (first | exact yan | refine yak rfl ?_))) (by first | exact yab | exact yaa rfl yab | exact yaa rfl (yaa rfl yab) | exact yaa rfl (yaa rfl (yaa rfl yab)) | exact yaa rfl (yaa rfl (yaa rfl (yaa rfl yab)))) ?_
  intro k ⟨hk, hok⟩
  (repeat (first | refine zI ?_ | refine zL ?_ | refine zC ?_ | refine yai ?_ | refine yaj ?_ | refine zR ?_ | refine zD ?_ | refine zK ?_ | refine zB ?_ | refine zA ?_ | refine zS ?_ | refine zU ?_ | refine zV ?_ | refine zF ?_ | with_reducible refine yac ?_ | with_reducible refine yag ?_ | refine yad ?_ | refine yae ?_ | refine yaf ?_ | refine zT ?_ | refine zE ?_ | refine zX ?_))
  refine yaq rfl (fun h1 => ?_) (fun h1 => ?_)
  · simp at h1
    obtain ⟨v, hvk⟩ := yeh (show k < vs.length by omega)
    obtain ⟨r, hrk⟩ := yeh (show k < rs.length by omega)
    have hz := zip_get hrk hvk
    (repeat (first | refine zI ?_ | refine zL ?_ | refine zC ?_ | refine yai ?_ | refine yaj ?_ | refine zR ?_ | refine zD ?_ | refine zK ?_ | refine zB ?_ | refine zA ?_ | refine zS ?_ | refine zU ?_ | refine zV ?_ | refine zF ?_ | with_reducible refine yac ?_ | with_reducible refine yag ?_ | refine yad ?_ | refine yae ?_ | refine yaf ?_ | refine zT ?_ | refine zE ?_ | refine zX ?_))
    refine ybm 26 rfl (fun h2 => ?_) (fun h2 => ?_)
    · (repeat (first | refine zI ?_ | refine zL ?_ | refine zC ?_ | refine yai ?_ | refine yaj ?_ | refine zR ?_ | refine zD ?_ | refine zK ?_ | refine zB ?_ | refine zA ?_ | refine zS ?_ | refine zU ?_ | refine zV ?_ | refine zF ?_ | with_reducible refine yac ?_ | with_reducible refine yag ?_ | refine yad ?_ | refine yae ?_ | refine yaf ?_ | refine zT ?_ | refine zE ?_ | refine zX ?_))
      refine yas ?_; refine ⟨_, rfl, ?_⟩
      refine yau ?_
      simp at h2
      rw [yef, allM_bad hz (by simp [inRg]; omega), Bool.and_false]
    · (repeat (first | refine zI ?_ | refine zL ?_ | refine zC ?_ | refine yai ?_ | refine yaj ?_ | refine zR ?_ | refine zD ?_ | refine zK ?_ | refine zB ?_ | refine zA ?_ | refine zS ?_ | refine zU ?_ | refine zV ?_ | refine zF ?_ | with_reducible refine yac ?_ | with_reducible refine yag ?_ | refine yad ?_ | refine yae ?_ | refine yaf ?_ | refine zT ?_ | refine zE ?_ | refine zX ?_))
      refine yaq rfl (fun h3 => ?_) (fun h3 => ?_)
      · (repeat (first | refine zI ?_ | refine zL ?_ | refine zC ?_ | refine yai ?_ | refine yaj ?_ | refine zR ?_ | refine zD ?_ | refine zK ?_ | refine zB ?_ | refine zA ?_ | refine zS ?_ | refine zU ?_ | refine zV ?_ | refine zF ?_ | with_reducible refine yac ?_ | with_reducible refine yag ?_ | refine yad ?_ | refine yae ?_ | refine yaf ?_ | refine zT ?_ | refine zE ?_ | refine zX ?_))
        refine yas ?_; refine ⟨_, rfl, ?_⟩
        refine yau ?_
        simp at h2 h3
        rw [yef, allM_bad hz (by simp [inRg]; omega), Bool.and_false]
      · (repeat (first | refine zI ?_ | refine zL ?_ | refine zC ?_ | refine yai ?_ | refine yaj ?_ | refine zR ?_ | refine zD ?_ | refine zK ?_ | refine zB ?_ | refine zA ?_ | refine zS ?_ | refine zU ?_ | refine zV ?_ | refine zF ?_ | with_reducible refine yac ?_ | with_reducible refine yag ?_ | refine yad ?_ | refine yae ?_ | refine yaf ?_ | refine zT ?_ | refine zE ?_ | refine zX ?_))
        simp at h2 h3
        exact rnd (k + 1) ⟨by omega, allM_snoc hz hok (by simp [inRg]; omega)⟩ (by omega) (by (repeat (first | exact yan | refine yak rfl ?_))) (by first | exact yab | exact yaa rfl yab | exact yaa rfl (yaa rfl yab) | exact yaa rfl (yaa rfl (yaa rfl yab)) | exact yaa rfl (yaa rfl (yaa rfl (yaa rfl yab))))
  · simp at h1
    obtain rfl : k = vs.length := by omega
    (repeat (first | refine zI ?_ | refine zL ?_ | refine zC ?_ | refine yai ?_ | refine yaj ?_ | refine zR ?_ | refine zD ?_ | refine zK ?_ | refine zB ?_ | refine zA ?_ | refine zS ?_ | refine zU ?_ | refine zV ?_ | refine zF ?_ | with_reducible refine yac ?_ | with_reducible refine yag ?_ | refine yad ?_ | refine yae ?_ | refine yaf ?_ | refine zT ?_ | refine zE ?_ | refine zX ?_))
    refine yas ?_; refine ⟨_, rfl, ?_⟩
    refine yau ?_
    rw [List.take_of_length_le (by simp; omega)] at hok
    simp [yef, hl, hok]
def yfi (tbl : List (List (Int × Int))) (c : List (List Int)) : Bool := c.length == tbl.length && (tbl.zip c).all fun x => yef x.1 x.2
def CfgIn (c : List (List Int)) : Prop := c.length ≤ 1000000 ∧ ∀ r ∈ c, r.length ≤ 1000000
theorem within_con (tbl : List (List (Int × Int))) (c : List (List Int)) (hc : CfgIn c) (ht : tbl.length ≤ 1000000) : Con Tryz.prog 40 [yfj tbl, encC c] (yfp (yfi tbl c)) := by
  have hcl := hc.1
  refine ybs Tryz.func40 rfl rfl Tryz.ntmps40 Tryz.results40 rfl rfl ?_
  (repeat (first | refine zI ?_ | refine zL ?_ | refine zC ?_ | refine yai ?_ | refine yaj ?_ | refine zR ?_ | refine zD ?_ | refine zK ?_ | refine zB ?_ | refine zA ?_ | refine zS ?_ | refine zU ?_ | refine zV ?_ | refine zF ?_ | with_reducible refine yac ?_ | with_reducible refine yag ?_ | refine yad ?_ | refine yae ?_ | refine yaf ?_ | refine zT ?_ | refine zE ?_ | refine zX ?_))
  refine yaq rfl (fun h => ?_) (fun h => ?_)
  · (repeat (first | refine zI ?_ | refine zL ?_ | refine zC ?_ | refine yai ?_ | refine yaj ?_ | refine zR ?_ | refine zD ?_ | refine zK ?_ | refine zB ?_ | refine zA ?_ | refine zS ?_ | refine zU ?_ | refine zV ?_ | refine zF ?_ | with_reducible refine yac ?_ | with_reducible refine yag ?_ | refine yad ?_ | refine yae ?_ | refine yaf ?_ | refine zT ?_ | refine zE ?_ | refine zX ?_))
    refine yas ?_; refine ⟨_, rfl, ?_⟩
    refine yau ?_
    have : c.length ≠ tbl.length := by intro e; simp [e] at h
    simp [yfi, this]
  have hl : c.length = tbl.length := by simp at h; omega
  (repeat (first | refine zI ?_ | refine zL ?_ | refine zC ?_ | refine yai ?_ | refine yaj ?_ | refine zR ?_ | refine zD ?_ | refine zK ?_ | refine zB ?_ | refine zA ?_ | refine zS ?_ | refine zU ?_ | refine zV ?_ | refine zF ?_ | with_reducible refine yac ?_ | with_reducible refine yag ?_ | refine yad ?_ | refine yae ?_ | refine yaf ?_ | refine zT ?_ | refine zE ?_ | refine zX ?_))
  refine ydp (α := Nat) (fun k => [(14, i64 k), (13, i64 tbl.length), (12, yfj tbl), (1, encC c)]) (fun k => []) (fun k => tbl.length - k) (fun k => k ≤ tbl.length ∧ ((tbl.zip c).take k).all (fun x => yef x.1 x.2) = true) 0 ⟨by omega, rfl⟩ (by (repeat (first | exact yan | refine yak rfl ?_))) (by first | exact yab | exact yaa rfl yab | exact yaa rfl (yaa rfl yab) | exact yaa rfl (yaa rfl (yaa rfl yab)) | exact yaa rfl (yaa rfl (yaa rfl (yaa rfl yab)))) ?_
  intro k ⟨hk, hok⟩
  (repeat (first | refine zI ?_ | refine zL ?_ | refine zC ?_ | refine yai ?_ | refine yaj ?_ | refine zR ?_ | refine zD ?_ | refine zK ?_ | refine zB ?_ | refine zA ?_ | refine zS ?_ | refine zU ?_ | refine zV ?_ | refine zF ?_ | with_reducible refine yac ?_ | with_reducible refine yag ?_ | refine yad ?_ | refine yae ?_ | refine yaf ?_ | refine zT ?_ | refine zE ?_ | refine zX ?_))
  refine yaq rfl (fun h1 => ?_) (fun h1 => ?_)
  · simp at h1
    obtain ⟨r, hrk⟩ := yeh (show k < tbl.length by omega)
    obtain ⟨v, hvk⟩ := yeh (show k < c.length by omega)
    have hz := zip_get hrk hvk
    (repeat (first | refine zI ?_ | refine zL ?_ | refine zC ?_ | refine yai ?_ | refine yaj ?_ | refine zR ?_ | refine zD ?_ | refine zK ?_ | refine zB ?_ | refine zA ?_ | refine zS ?_ | refine zU ?_ | refine zV ?_ | refine zF ?_ | with_reducible refine yac ?_ | with_reducible refine yag ?_ | refine yad ?_ | refine yae ?_ | refine yaf ?_ | refine zT ?_ | refine zE ?_ | refine zX ?_ | refine yar rfl rfl (state_con r v (hc.2 v (List.mem_of_getElem? hvk))) rfl rfl ?_))
    refine yaq rfl (fun h2 => ?_) (fun h2 => ?_)
    · (repeat (first | refine zI ?_ | refine zL ?_ | refine zC ?_ | refine yai ?_ | refine yaj ?_ | refine zR ?_ | refine zD ?_ | refine zK ?_ | refine zB ?_ | refine zA ?_ | refine zS ?_ | refine zU ?_ | refine zV ?_ | refine zF ?_ | with_reducible refine yac ?_ | with_reducible refine yag ?_ | refine yad ?_ | refine yae ?_ | refine yaf ?_ | refine zT ?_ | refine zE ?_ | refine zX ?_))
      refine yas ?_; refine ⟨_, rfl, ?_⟩
      refine yau ?_
      simp at h2
      rw [yfi, allM_bad hz h2, Bool.and_false]
    · (repeat (first | refine zI ?_ | refine zL ?_ | refine zC ?_ | refine yai ?_ | refine yaj ?_ | refine zR ?_ | refine zD ?_ | refine zK ?_ | refine zB ?_ | refine zA ?_ | refine zS ?_ | refine zU ?_ | refine zV ?_ | refine zF ?_ | with_reducible refine yac ?_ | with_reducible refine yag ?_ | refine yad ?_ | refine yae ?_ | refine yaf ?_ | refine zT ?_ | refine zE ?_ | refine zX ?_))
      simp at h2
      exact rnd (k + 1) ⟨by omega, allM_snoc hz hok h2⟩ (by omega) (by (repeat (first | exact yan | refine yak rfl ?_))) (by first | exact yab | exact yaa rfl yab | exact yaa rfl (yaa rfl yab) | exact yaa rfl (yaa rfl (yaa rfl yab)) | exact yaa rfl (yaa rfl (yaa rfl (yaa rfl yab))))
  · simp at h1
    obtain rfl : k = tbl.length := by omega
    (repeat (first | refine zI ?_ | refine zL ?_ | refine zC ?_ | refine yai ?_ | refine yaj ?_ | refine zR ?_ | refine zD ?_ | refine zK ?_ | refine zB ?_ | refine zA ?_ | refine zS ?_ | refine zU ?_ | refine zV ?_ | refine zF ?_ | with_reducible refine yac ?_ | with_reducible refine yag ?_ | refine yad ?_ | refine yae ?_ | refine yaf ?_ | refine zT ?_ | refine zE ?_ | refine zX ?_))
    refine yas ?_; refine ⟨_, rfl, ?_⟩
    refine yau ?_
    rw [List.take_of_length_le (by simp; omega)] at hok
    simp [yfi, hl, hok]
theorem cfg_of_fair {p : ProgD} {g : GraphD} (hf : Fair p g) : (ybc p g).length ≤ 1000000 ∧ ∀ r ∈ ybc p g, r.length ≤ 1000 := by
  have h1 := hf.glen.2.1
  have h2 := hf.vlen
  refine ⟨by simp [ybc]; omega, fun r hr => ?_⟩
  obtain ⟨ls, _, rfl⟩ := List.mem_map.1 hr
  simpa using h2
def yet (p : ProgD) (g : GraphD) (c : List (List Int)) : Int := if ydl p g = 0 then if yfi (ybc p g) c = true then 0 else 10 else ydl p g
theorem mcheck_con (p : ProgD) (g : GraphD) (c : List (List Int)) (hf : Fair p g) (hc : CfgIn c) : Con Tryz.prog 19 [encP p, encG g, encC c] (i64 (yet p g c)) := by
  refine ybs Tryz.func19 rfl rfl Tryz.ntmps19 Tryz.results19 rfl rfl ?_
  (repeat (first | refine zI ?_ | refine zL ?_ | refine zC ?_ | refine yai ?_ | refine yaj ?_ | refine zR ?_ | refine zD ?_ | refine zK ?_ | refine zB ?_ | refine zA ?_ | refine zS ?_ | refine zU ?_ | refine zV ?_ | refine zF ?_ | with_reducible refine yac ?_ | with_reducible refine yag ?_ | refine yad ?_ | refine yae ?_ | refine yaf ?_ | refine zT ?_ | refine zE ?_ | refine zX ?_ | refine yar rfl rfl (fits_con p g hf) rfl rfl ?_))
  refine yaq rfl (fun h => ?_) (fun h => ?_)
  · (repeat (first | refine zI ?_ | refine zL ?_ | refine zC ?_ | refine yai ?_ | refine yaj ?_ | refine zR ?_ | refine zD ?_ | refine zK ?_ | refine zB ?_ | refine zA ?_ | refine zS ?_ | refine zU ?_ | refine zV ?_ | refine zF ?_ | with_reducible refine yac ?_ | with_reducible refine yag ?_ | refine yad ?_ | refine yae ?_ | refine yaf ?_ | refine zT ?_ | refine zE ?_ | refine zX ?_))
    refine yas ?_; refine ⟨_, rfl, ?_⟩
    have : ydl p g ≠ 0 := by simpa using h
    exact ydb (by simp [yet, this])
  have h0 : ydl p g = 0 := by simpa using h
  (repeat (first | refine zI ?_ | refine zL ?_ | refine zC ?_ | refine yai ?_ | refine yaj ?_ | refine zR ?_ | refine zD ?_ | refine zK ?_ | refine zB ?_ | refine zA ?_ | refine zS ?_ | refine zU ?_ | refine zV ?_ | refine zF ?_ | with_reducible refine yac ?_ | with_reducible refine yag ?_ | refine yad ?_ | refine yae ?_ | refine yaf ?_ | refine zT ?_ | refine zE ?_ | refine zX ?_ | refine yar rfl rfl (table_con p g hf h0) rfl rfl ?_ | refine yar rfl rfl (within_con (ybc p g) c hc (cfg_of_fair hf).1) rfl rfl ?_))
  refine yaq rfl (fun h1 => ?_) (fun h1 => ?_)
  · simp at h1
    (repeat (first | refine zI ?_ | refine zL ?_ | refine zC ?_ | refine yai ?_ | refine yaj ?_ | refine zR ?_ | refine zD ?_ | refine zK ?_ | refine zB ?_ | refine zA ?_ | refine zS ?_ | refine zU ?_ | refine zV ?_ | refine zF ?_ | with_reducible refine yac ?_ | with_reducible refine yag ?_ | refine yad ?_ | refine yae ?_ | refine yaf ?_ | refine zT ?_ | refine zE ?_ | refine zX ?_))
    refine yas ?_; refine ⟨_, rfl, ?_⟩
    exact ydb (by simp [yet, h0, h1])
  · simp at h1
    (repeat (first | refine zI ?_ | refine zL ?_ | refine zC ?_ | refine yai ?_ | refine yaj ?_ | refine zR ?_ | refine zD ?_ | refine zK ?_ | refine zB ?_ | refine zA ?_ | refine zS ?_ | refine zU ?_ | refine zV ?_ | refine zF ?_ | with_reducible refine yac ?_ | with_reducible refine yag ?_ | refine yad ?_ | refine yae ?_ | refine yaf ?_ | refine zT ?_ | refine zE ?_ | refine zX ?_))
    refine yas ?_; refine ⟨_, rfl, ?_⟩
    exact ydb (by simp [yet, h0, h1])
end Go.Proofs.YtmlkdoimkdbdpaaGreatDoor
set_option linter.unusedVariables false
set_option maxRecDepth 100000
set_option maxHeartbeats 8000000
namespace Go.Proofs.YtmlkdoimkdbdpaaGreatDoor
open Go.RowKit
def cntL : Int → List (Int × Int) → Option Int
  | n, [] => some n
  | n, r :: rs => if 32768 < n * (r.2 - r.1 + 1) then none else cntL (n * (r.2 - r.1 + 1)) rs
theorem cntL_app : ∀ (n : Int) (a b : List (Int × Int)), cntL n (a ++ b) = (cntL n a).bind fun m => cntL m b
  | n, [], b => rfl
  | n, r :: rs, b => by
    simp only [List.cons_append, cntL]
    split
    · rfl
    · exact cntL_app _ rs b
def countF (tbl : List (List (Int × Int))) : Int × Int := match cntL 1 tbl.flatten with
  | some n => (n, 0)
  | none => (0, 3)
def RgOk (q : Int × Int) : Prop := -1 ≤ q.1 ∧ q.1 ≤ q.2 ∧ q.2 ≤ 1000000
def TabIn (tbl : List (List (Int × Int))) : Prop := tbl.length ≤ 1000 ∧ ∀ r ∈ tbl, r.length ≤ 1000 ∧ ∀ q ∈ r, RgOk q
theorem mulM_bd {n w : Int} (h1 : 1 ≤ n) (h2 : n ≤ 32768) (h3 : 1 ≤ w) (h4 : w ≤ 1000002) : 1 ≤ n * w ∧ n * w ≤ 32768 * 1000002 :=
  ⟨by have := Int.mul_le_mul h1 h3 (by omega) (by omega); simpa using this, Int.mul_le_mul h2 h4 (by omega) (by omega)⟩
def pairI (q : Int × Int) : AV := .tup [i64 q.1, i64 q.2]
theorem count_con (tbl : List (List (Int × Int))) (ht : TabIn tbl) : Con Tryz.prog 35 [yfj tbl] (pairI (countF tbl)) := by
  have htl := ht.1
  refine ybs Tryz.func35 rfl rfl Tryz.ntmps35 Tryz.results35 rfl rfl ?_
  (repeat (first | refine zI ?_ | refine zL ?_ | refine zC ?_ | refine yai ?_ | refine yaj ?_ | refine zR ?_ | refine zD ?_ | refine zK ?_ | refine zB ?_ | refine zA ?_ | refine zS ?_ | refine zU ?_ | refine zV ?_ | refine zF ?_ | with_reducible refine yac ?_ | with_reducible refine yag ?_ | refine yad ?_ | refine yae ?_ | refine yaf ?_ | refine zT ?_ | refine zE ?_ | refine zX ?_))
  refine ydp (α := Nat × Int) (fun q => [(11, i64 q.1), (10, i64 tbl.length), (9, yfj tbl), (4, i64 q.2)]) (fun q => []) (fun q => tbl.length - q.1) (fun q => q.1 ≤ tbl.length ∧ 1 ≤ q.2 ∧ q.2 ≤ 32768 ∧ cntL 1 (tbl.take q.1).flatten = some q.2) (0, 1) ⟨by simp, by simp, by simp, rfl⟩ (by (repeat (first | exact yan | refine yak rfl ?_))) (by first | exact yab | exact yaa rfl yab | exact yaa rfl (yaa rfl yab) | exact yaa rfl (yaa rfl (yaa rfl yab)) | exact yaa rfl (yaa rfl (yaa rfl (yaa rfl yab)))) ?_
  rintro ⟨k, n⟩ ⟨hk, hn1, hn2, hn⟩
  simp only at hk hn1 hn2 hn ⊢
  (repeat (first | refine zI ?_ | refine zL ?_ | refine zC ?_ | refine yai ?_ | refine yaj ?_ | refine zR ?_ | refine zD ?_ | refine zK ?_ | refine zB ?_ | refine zA ?_ | refine zS ?_ | refine zU ?_ | refine zV ?_ | refine zF ?_ | with_reducible refine yac ?_ | with_reducible refine yag ?_ | refine yad ?_ | refine yae ?_ | refine yaf ?_ | refine zT ?_ | refine zE ?_ | refine zX ?_))
  refine yaq rfl (fun h1 => ?_) (fun h1 => ?_)
  · simp at h1
    obtain ⟨r, hrk⟩ := yeh (show k < tbl.length by omega)
    obtain ⟨hrl, hrq⟩ := ht.2 r (List.mem_of_getElem? hrk)
    (repeat (first | refine zI ?_ | refine zL ?_ | refine zC ?_ | refine yai ?_ | refine yaj ?_ | refine zR ?_ | refine zD ?_ | refine zK ?_ | refine zB ?_ | refine zA ?_ | refine zS ?_ | refine zU ?_ | refine zV ?_ | refine zF ?_ | with_reducible refine yac ?_ | with_reducible refine yag ?_ | refine yad ?_ | refine yae ?_ | refine yaf ?_ | refine zT ?_ | refine zE ?_ | refine zX ?_))
    refine ydp (α := Nat × Int) (fun q => [(17, i64 q.1), (16, i64 r.length), (15, .sl 2 (r.map encRg)), (4, i64 q.2), (11, i64 k), (10, i64 tbl.length), (9, yfj tbl)]) (fun q => []) (fun q => r.length - q.1) (fun q => q.1 ≤ r.length ∧ 1 ≤ q.2 ∧ q.2 ≤ 32768 ∧ cntL n (r.take q.1) = some q.2) (0, n) ⟨by simp, hn1, hn2, rfl⟩ (by (repeat (first | exact yan | refine yak rfl ?_))) (by first | exact yab | exact yaa rfl yab | exact yaa rfl (yaa rfl yab) | exact yaa rfl (yaa rfl (yaa rfl yab)) | exact yaa rfl (yaa rfl (yaa rfl (yaa rfl yab)))) ?_
    rintro ⟨j, m⟩ ⟨hj, hm1, hm2, hm⟩
    simp only at hj hm1 hm2 hm ⊢
    (repeat (first | refine zI ?_ | refine zL ?_ | refine zC ?_ | refine yai ?_ | refine yaj ?_ | refine zR ?_ | refine zD ?_ | refine zK ?_ | refine zB ?_ | refine zA ?_ | refine zS ?_ | refine zU ?_ | refine zV ?_ | refine zF ?_ | with_reducible refine yac ?_ | with_reducible refine yag ?_ | refine yad ?_ | refine yae ?_ | refine yaf ?_ | refine zT ?_ | refine zE ?_ | refine zX ?_))
    refine yaq rfl (fun h2 => ?_) (fun h2 => ?_)
    · simp at h2
      obtain ⟨q, hqj⟩ := yeh (show j < r.length by omega)
      obtain ⟨q1, q2, q3⟩ := hrq q (List.mem_of_getElem? hqj)
      have hbd := mulM_bd (w := q.2 - q.1 + 1) hm1 hm2 (by omega) (by omega)
      (repeat (first | refine zI ?_ | refine zL ?_ | refine zC ?_ | refine yai ?_ | refine yaj ?_ | refine zR ?_ | refine zD ?_ | refine zK ?_ | refine zB ?_ | refine zA ?_ | refine zS ?_ | refine zU ?_ | refine zV ?_ | refine zF ?_ | with_reducible refine yac ?_ | with_reducible refine yag ?_ | refine yad ?_ | refine yae ?_ | refine yaf ?_ | refine zT ?_ | refine zE ?_ | refine zX ?_))
      have hstep : cntL n (r.take (j + 1)) = cntL m [q] := by rw [ych hqj, cntL_app, hm]; rfl
      refine yaq rfl (fun h3 => ?_) (fun h3 => ?_)
      · (repeat (first | refine zI ?_ | refine zL ?_ | refine zC ?_ | refine yai ?_ | refine yaj ?_ | refine zR ?_ | refine zD ?_ | refine zK ?_ | refine zB ?_ | refine zA ?_ | refine zS ?_ | refine zU ?_ | refine zV ?_ | refine zF ?_ | with_reducible refine yac ?_ | with_reducible refine yag ?_ | refine yad ?_ | refine yae ?_ | refine yaf ?_ | refine zT ?_ | refine zE ?_ | refine zX ?_))
        refine yas ?_; refine ⟨_, rfl, ?_⟩
        simp at h3
        have e : cntL 1 tbl.flatten = none := by
          have hsplit : tbl.flatten = (tbl.take k).flatten ++ (r.take (j + 1) ++ (r.drop (j + 1) ++ (tbl.drop (k + 1)).flatten)) := by
            conv => lhs; rw [← List.take_append_drop (k + 1) tbl, ych hrk]
            rw [List.flatten_append, List.flatten_append, List.append_assoc]
            congr 1
            rw [← List.append_assoc, List.take_append_drop]
            simp
          rw [hsplit, cntL_app, hn, Option.bind_some, cntL_app, hstep]
          simp [cntL, h3]
        simp only [countF, e]
        exact Frz.pure
      · (repeat (first | refine zI ?_ | refine zL ?_ | refine zC ?_ | refine yai ?_ | refine yaj ?_ | refine zR ?_ | refine zD ?_ | refine zK ?_ | refine zB ?_ | refine zA ?_ | refine zS ?_ | refine zU ?_ | refine zV ?_ | refine zF ?_ | with_reducible refine yac ?_ | with_reducible refine yag ?_ | refine yad ?_ | refine yae ?_ | refine yaf ?_ | refine zT ?_ | refine zE ?_ | refine zX ?_))
        simp at h3
        refine rnd (j + 1, m * (q.2 - q.1 + 1)) ⟨by simp only; omega, hbd.1, by simp only; omega, ?_⟩ (by simp only; omega) (by (repeat (first | exact yan | refine yak rfl ?_))) (by first | exact yab | exact yaa rfl yab | exact yaa rfl (yaa rfl yab) | exact yaa rfl (yaa rfl (yaa rfl yab)) | exact yaa rfl (yaa rfl (yaa rfl (yaa rfl yab))))
        rw [hstep]
        simp only [cntL]
        rw [if_neg (by omega)]
    · simp at h2
      obtain rfl : j = r.length := by omega
      (repeat (first | refine zI ?_ | refine zL ?_ | refine zC ?_ | refine yai ?_ | refine yaj ?_ | refine zR ?_ | refine zD ?_ | refine zK ?_ | refine zB ?_ | refine zA ?_ | refine zS ?_ | refine zU ?_ | refine zV ?_ | refine zF ?_ | with_reducible refine yac ?_ | with_reducible refine yag ?_ | refine yad ?_ | refine yae ?_ | refine yaf ?_ | refine zT ?_ | refine zE ?_ | refine zX ?_))
      refine rnd (k + 1, m) ⟨by simp only; omega, hm1, hm2, ?_⟩ (by simp only; omega) (by (repeat (first | exact yan | refine yak rfl ?_))) (by first | exact yab | exact yaa rfl yab | exact yaa rfl (yaa rfl yab) | exact yaa rfl (yaa rfl (yaa rfl yab)) | exact yaa rfl (yaa rfl (yaa rfl (yaa rfl yab))))
      rw [List.take_length] at hm
      simp only
      rw [ych hrk, List.flatten_append, cntL_app, hn]
      simpa using hm
  · simp at h1
    obtain rfl : k = tbl.length := by omega
    (repeat (first | refine zI ?_ | refine zL ?_ | refine zC ?_ | refine yai ?_ | refine yaj ?_ | refine zR ?_ | refine zD ?_ | refine zK ?_ | refine zB ?_ | refine zA ?_ | refine zS ?_ | refine zU ?_ | refine zV ?_ | refine zF ?_ | with_reducible refine yac ?_ | with_reducible refine yag ?_ | refine yad ?_ | refine yae ?_ | refine yaf ?_ | refine zT ?_ | refine zE ?_ | refine zX ?_))
    refine yas ?_; refine ⟨_, rfl, ?_⟩
    rw [List.take_length] at hn
    simp only [countF, hn]
    exact Frz.pure

theorem table_in {p : ProgD} {g : GraphD} (hf : Fair p g) (h0 : ydl p g = 0) : TabIn (ybc p g) := by
  obtain ⟨hc0, hg, hfit⟩ := fits_zero.1 h0
  have hvf := ycy hg
  refine ⟨by simp [ybc]; omega, fun r hr => ?_⟩
  obtain ⟨ls, hls, rfl⟩ := List.mem_map.1 hr
  have hll := hf.glen.2.2 ls hls
  refine ⟨by simpa using hf.vlen, fun q hq => ?_⟩
  obtain ⟨y, hy, rfl⟩ := List.mem_map.1 hq
  have hn := (yde hc0).2.2.2 y hy
  have hb := bounds_bd (deg := ls.length) hn hg (by omega)
  have hl := fit_bd (deg := ls.length) (hfit y hy) hn (by omega)
  refine ⟨hb.1, ?_, by omega⟩
  by_cases hk : y.kind = 3
  · rw [bounds_three hk]; simp only; omega
  · rw [if_neg hk] at hl; omega
def countM (p : ProgD) (g : GraphD) : Int × Int := if ydl p g = 0 then countF (ybc p g) else (0, ydl p g)
theorem mcount_con (p : ProgD) (g : GraphD) (hf : Fair p g) : Con Tryz.prog 17 [encP p, encG g] (pairI (countM p g)) := by
  refine ybs Tryz.func17 rfl rfl Tryz.ntmps17 Tryz.results17 rfl rfl ?_
  (repeat (first | refine zI ?_ | refine zL ?_ | refine zC ?_ | refine yai ?_ | refine yaj ?_ | refine zR ?_ | refine zD ?_ | refine zK ?_ | refine zB ?_ | refine zA ?_ | refine zS ?_ | refine zU ?_ | refine zV ?_ | refine zF ?_ | with_reducible refine yac ?_ | with_reducible refine yag ?_ | refine yad ?_ | refine yae ?_ | refine yaf ?_ | refine zT ?_ | refine zE ?_ | refine zX ?_ | refine yar rfl rfl (fits_con p g hf) rfl rfl ?_))
  refine yaq rfl (fun h => ?_) (fun h => ?_)
  · (repeat (first | refine zI ?_ | refine zL ?_ | refine zC ?_ | refine yai ?_ | refine yaj ?_ | refine zR ?_ | refine zD ?_ | refine zK ?_ | refine zB ?_ | refine zA ?_ | refine zS ?_ | refine zU ?_ | refine zV ?_ | refine zF ?_ | with_reducible refine yac ?_ | with_reducible refine yag ?_ | refine yad ?_ | refine yae ?_ | refine yaf ?_ | refine zT ?_ | refine zE ?_ | refine zX ?_))
    refine yas ?_; refine ⟨_, rfl, ?_⟩
    have : ydl p g ≠ 0 := by simpa using h
    rw [countM, if_neg this]
    exact Frz.pure
  have h0 : ydl p g = 0 := by simpa using h
  (repeat (first | refine zI ?_ | refine zL ?_ | refine zC ?_ | refine yai ?_ | refine yaj ?_ | refine zR ?_ | refine zD ?_ | refine zK ?_ | refine zB ?_ | refine zA ?_ | refine zS ?_ | refine zU ?_ | refine zV ?_ | refine zF ?_ | with_reducible refine yac ?_ | with_reducible refine yag ?_ | refine yad ?_ | refine yae ?_ | refine yaf ?_ | refine zT ?_ | refine zE ?_ | refine zX ?_ | refine yar rfl rfl (table_con p g hf h0) rfl rfl ?_ | refine yar rfl rfl (count_con (ybc p g) (table_in hf h0)) rfl rfl ?_))
  refine yas ?_; refine ⟨_, rfl, ?_⟩
  rw [countM, if_pos h0]
  exact Frz.pure
end Go.Proofs.YtmlkdoimkdbdpaaGreatDoor
set_option linter.unusedVariables false
set_option maxHeartbeats 4000000
namespace Go.Proofs.YtmlkdoimkdbdpaaGreatDoor
open Go.RowKit
theorem box_to_dp {h : Nat → Option LObj} {id off : Nat} {xs : List AV} {B : Bse} {ok0 : Nat → Prop} {lv : Live} {w : World} {u : Value} (hi : Inv B ok0 h lv w) (hx : h id = some (.cells xs)) (hr : Rel (ybo B ok0 lv w) w lv (.lp id off) u) (hp : ybl.pureL xs = true) (ok' : Nat → Prop) (hk1 : ∀ g, ybo B ok0 lv w g → ok' g) (hk2 : ∀ b n, lv id = some (some b, n) → ok' b) : Rel ok' w (fun _ => none) (.dp xs off) u := by
  obtain ⟨b, n, h1, rfl, h2⟩ := ycp hi (by rw [hx]; rfl) (.inr hx) hr
  have := Rel.dp (ok := ok') (w := w) (lv := fun _ => none) (row := xs) (off := off) b 0 (fun j => (w.cell? ⟨b, 0 + j, none⟩).getD undef) (hk2 b n h1) (fun j c hc => ?_) (fun j c hc => ?_)
  · rwa [Nat.zero_add] at this
  · obtain ⟨q1, v, q2, _⟩ := h2 j c hc
    exact ⟨by rw [q2]; rfl, q1⟩
  · obtain ⟨_, v, q2, q3⟩ := h2 j c hc
    rw [q2]
    exact (q3.relive fun id b n hb _ => by cases hb).keep fun g hg => ⟨hk1 g hg, rfl⟩
theorem Frz.box {h : Nat → Option LObj} {id off : Nat} {xs : List AV} (hx : h id = some (.cells xs)) (hp : ybl.pureL xs = true) : Frz h (.lp id off) (.dp xs off) :=
  fun B ok0 lv w u hi hr => box_to_dp hi hx hr hp _ (fun g hg => ⟨hg.1, hg.2.1⟩) fun b n hb => by obtain ⟨_, _, h1, h2, _⟩ := hi.lvat hb; exact ⟨.inr h1, h2⟩
theorem Frz.fn {h : Nat → Option LObj} {f : Nat} {xs ys : List AV} (hl : xs.length = ys.length) (hf : ∀ (i : Nat) (x y : AV), xs[i]? = some x → ys[i]? = some y → Frz h x y) : Frz h (.fn f xs) (.fn f ys) := by
  intro B ok0 lv w u hi hr
  cases hr with
  | fn vs hvl hrr =>
    refine .fn vs (hvl.trans hl) fun i c v hc hv => ?_
    obtain ⟨x, hx⟩ : ∃ x, xs[i]? = some x := ⟨_, List.getElem?_eq_getElem (by have := (List.getElem?_eq_some_iff.1 hc).1; omega)⟩
    exact hf i x c hx hc B ok0 lv w v hi (hrr i x v hx hv)
theorem Frz.fn1 {h : Nat → Option LObj} {f : Nat} {x y : AV} (hf : Frz h x y) : Frz h (.fn f [x]) (.fn f [y]) :=
  Frz.fn rfl fun i a b ha hb => by
    match i with
    | 0 => simp only [List.getElem?_cons_zero, Option.some.injEq] at ha hb; subst ha hb; exact hf
    | i + 1 => simp at ha
variable {P : Program} {N : Nat} {t : List (Nat × AV)} {h : List (Nat × Option LObj)}
theorem Sim.freezeBox {B : Bse} {ok0 : Nat → Prop} {s : SS} {lv : Live} {a : Act} {w : World} (hs : Sim B ok0 N s lv a w) {d id off : Nat} {xs : List AV} (hd : s.t d = some (.lp id off)) (hx : s.h id = some (.cells xs)) (hp : ybl.pureL xs = true)
    {s' : SS} (ht : ∀ x y, s'.t x = some y → y = .any ∨ s.t x = some y) (hlt : ∀ x y, s'.t x = some y → ∃ z, s.t x = some z) (hid : s'.h id = none) (hh : ∀ j ob', s'.h j = some ob' → ∃ ob, s.h j = some ob ∧ ForgO ob ob') : ∃ lv', Sim B ok0 N ⟨yfq s'.t (some d) (.dp xs off), s'.h⟩ lv' a w := by
  obtain ⟨lv', h1, h2, h3, h4⟩ := hs.forg ht hlt hh
  refine ⟨lv', ?_⟩
  have hdN := (hs.frame d _ hd).1
  have hr := box_to_dp hs.inv hx (hs.frame d _ hd).2 hp (ybo B ok0 lv' w) h4 (fun b n hb => ?_)
  · have hrl : Rel (ybo B ok0 lv' w) w lv' (.dp xs off) (yfo B a d) := hr.relive fun i b n _ hm => by simp [ment] at hm
    refine ⟨h1.inv, h1.size, fun x y hy => ?_, h1.defers, h1.big, h1.pin⟩
    simp only [yfq] at hy
    split at hy
    · rename_i e
      subst e
      simp only [Option.some.injEq] at hy
      subst hy
      exact ⟨hdN, hrl⟩
    · exact h1.frame x y hy
  · obtain ⟨_, _, g1, g2, _⟩ := hs.inv.lvat hb
    refine ⟨.inr g1, g2, fun j b' m hj he => ?_⟩
    subst he
    have := hs.inv.inj j id b' m n (h2 j _ m hj) hb
    subst this
    rw [h1.inv.dom j hid] at hj
    cases hj
theorem A_freezeBox {c : Code} {Q : Exit → SS → Prop} {t' : List (Nat × AV)} {h' : List (Nat × Option LObj)} (d : Nat) {id off : Nat} {xs : List AV} (hd : look t d = some (.lp id off)) (hx : yap h id = some (.cells xs)) (hp : ybl.pureL xs = true)
    (ht : forgT id t = some t') (hh : forgH id h = some h') (k : A P N c Q (S ((d, .dp xs off) :: t') ((id, none) :: h'))) : A P N c Q (S t h) := by
  intro B ok0 lv a w hs
  obtain ⟨g1, g2⟩ := forgT_spec ht
  obtain ⟨lv', hs'⟩ := hs.freezeBox (s' := S t' ((id, none) :: h')) hd hx hp (fun x y hy => (g1 x y hy).imp (fun h => h) And.left) g2 (by simp [S, yap]) (fun j ob' hj => by
    simp only [S, yap] at hj
    split at hj
    · cases hj
    · exact (forgH_spec hh j ob' hj).2)
  rw [show (⟨yfq (S t' ((id, none) :: h')).t (some d) (.dp xs off), (S t' ((id, none) :: h')).h⟩ : SS) = S ((d, .dp xs off) :: t') ((id, none) :: h') by unfold S; rw [ydx]] at hs'
  exact k B ok0 lv' a w hs'
end Go.Proofs.YtmlkdoimkdbdpaaGreatDoor
