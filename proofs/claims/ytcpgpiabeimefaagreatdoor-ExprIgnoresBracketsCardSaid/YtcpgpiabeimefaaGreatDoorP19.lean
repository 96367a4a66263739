/- Part 19 of the texts under ExprParses,ExprIsStable,ExprReadsBack,ExprIgnoresBrackets,ExprFormats,ExprBracketsEverything: joined, with what it needs alone. -/
import Derived.Test.YtcpgpiabeimefaaGreatDoorP17
import Derived.Test.YtcpgpiabeimefaaGreatDoorP18
set_option linter.unusedVariables false
set_option maxRecDepth 100000
set_option maxHeartbeats 4000000
namespace Go.Proofs.YtcpgpiabeimefaaGreatDoor
open Go.RowKit
section
variable {s : ByteArray} {names : List Bs} {ts : List Tok} {a : Nat} {err pl : Int}
theorem yfn {f : FuncId} {args : List AV} {x y : Int} (h : Con Tryz.prog f args (i64 x)) (e : x = y) : Con Tryz.prog f args (i64 y) := e ▸ h
def RfDead (f : FuncId) (args : List AV) (s : ByteArray) (names : List Bs) (ts : List Tok) : Prop := ∀ (a : Nat) (err pl : Int), a ≤ ts.length → err ≠ 0 → ConM Tryz.prog f (.lp 1001 0 :: args) (yaq (rfH s names ts a err pl)) (yay []) (yaq (rfH s names ts a err pl))
theorem rfW_dead (he : err ≠ 0) : rfW s ts a err = [] := by rw [rfW, if_neg he]
theorem ne_dead (he : err ≠ 0) {w : Bs} (h0 : w ≠ []) : rfW s ts a err ≠ w := by rw [rfW_dead he]; exact fun e => h0 e.symm
theorem prim_dead (h : ydl s ts) : RfDead 111 [] s names ts := by
  intro a err pl ha he
  refine yaz tok Tryz.func111 rfl rfl Tryz.ntmps111 Tryz.results111 rfl (ydw rfl) ?_
  show A _ _ _ _ (S _ _)
  (repeat (first | refine zI ?_ | refine zL ?_ | refine zC ?_ | refine yag ?_ | refine yaf ?_ | refine zR ?_ | refine zD ?_ | refine zK ?_ | refine zB ?_ | refine zA ?_ | refine zS ?_ | refine zU ?_ | refine zV ?_ | refine zF ?_ | with_reducible refine yab ?_ | with_reducible refine yad ?_ | refine yaa ?_ | refine yac ?_ | refine yae ?_ | refine zT ?_ | refine zE ?_ | refine zX ?_ | refine yaw (yau (args := []) rfl rfl rfl rfl rfl (ycl h)) rfl rfl ?_))
  rw [rfW_dead he]
  (repeat (first | refine zI ?_ | refine zL ?_ | refine zC ?_ | refine yag ?_ | refine yaf ?_ | refine zR ?_ | refine zD ?_ | refine zK ?_ | refine zB ?_ | refine zA ?_ | refine zS ?_ | refine zU ?_ | refine zV ?_ | refine zF ?_ | with_reducible refine yab ?_ | with_reducible refine yad ?_ | refine yaa ?_ | refine yac ?_ | refine yae ?_ | refine zT ?_ | refine zE ?_ | refine zX ?_ | refine yaw (yau (args := []) rfl rfl rfl rfl rfl yfd) rfl rfl ?_))
  rw [show rfK ts a err = 0 by rw [rfK, if_neg he]]
  (repeat (first | refine zI ?_ | refine zL ?_ | refine zC ?_ | refine yag ?_ | refine yaf ?_ | refine zR ?_ | refine zD ?_ | refine zK ?_ | refine zB ?_ | refine zA ?_ | refine zS ?_ | refine zU ?_ | refine zV ?_ | refine zF ?_ | with_reducible refine yab ?_ | with_reducible refine yad ?_ | refine yaa ?_ | refine yac ?_ | refine yae ?_ | refine zT ?_ | refine zE ?_ | refine zX ?_ | refine yak rfl rfl (yfp []) rfl rfl ?_ | refine yak rfl rfl (yci []) rfl rfl ?_ | refine ybl 1001 (ybs h (w := [40]) (ne_dead he (by simp))) rfl rfl rfl rfl rfl rfl rfl rfl rfl rfl rfl rfl ?_ | refine ybl 1001 (ybs h (w := [113]) (ne_dead he (by simp))) rfl rfl rfl rfl rfl rfl rfl rfl rfl rfl rfl rfl ?_ | refine ybl 1001 (rvar_dead 5 h he) rfl rfl rfl rfl rfl rfl rfl rfl rfl rfl rfl rfl ?_))
  refine yar ?_
  exact ⟨_, rfl, yav _, yap (yai rfl yan)⟩
theorem unary_dead (h : ydl s ts) : RfDead 98 [] s names ts := by
  intro a err pl ha he
  refine yaz tok Tryz.func98 rfl rfl Tryz.ntmps98 Tryz.results98 rfl (ydw rfl) ?_
  show A _ _ _ _ (S _ _)
  (repeat (first | refine zI ?_ | refine zL ?_ | refine zC ?_ | refine yag ?_ | refine yaf ?_ | refine zR ?_ | refine zD ?_ | refine zK ?_ | refine zB ?_ | refine zA ?_ | refine zS ?_ | refine zU ?_ | refine zV ?_ | refine zF ?_ | with_reducible refine yab ?_ | with_reducible refine yad ?_ | refine yaa ?_ | refine yac ?_ | refine yae ?_ | refine zT ?_ | refine zE ?_ | refine zX ?_ | refine ybl 1001 (ybs h (w := [45]) (ne_dead he (by simp))) rfl rfl rfl rfl rfl rfl rfl rfl rfl rfl rfl rfl ?_ | refine ybl 1001 (ybs h (w := [33]) (ne_dead he (by simp))) rfl rfl rfl rfl rfl rfl rfl rfl rfl rfl rfl rfl ?_ | refine ybl 1001 (prim_dead h a err pl ha he) rfl rfl rfl rfl rfl rfl rfl rfl rfl rfl rfl rfl ?_))
  refine yar ?_
  exact ⟨_, rfl, yav _, yap (yai rfl yan)⟩
theorem bin7_dead (h : ydl s ts) : RfDead 57 [i64 7] s names ts := by
  intro a err pl ha he
  refine yaz tok Tryz.func57 rfl rfl Tryz.ntmps57 Tryz.results57 rfl (ydw rfl) ?_
  show A _ _ _ _ (S _ _)
  (repeat (first | refine zI ?_ | refine zL ?_ | refine zC ?_ | refine yag ?_ | refine yaf ?_ | refine zR ?_ | refine zD ?_ | refine zK ?_ | refine zB ?_ | refine zA ?_ | refine zS ?_ | refine zU ?_ | refine zV ?_ | refine zF ?_ | with_reducible refine yab ?_ | with_reducible refine yad ?_ | refine yaa ?_ | refine yac ?_ | refine yae ?_ | refine zT ?_ | refine zE ?_ | refine zX ?_ | refine ybl 1001 (unary_dead h a err pl ha he) rfl rfl rfl rfl rfl rfl rfl rfl rfl rfl rfl rfl ?_))
  refine yar ?_
  exact ⟨_, rfl, yav _, yap (yai rfl yan)⟩
theorem bin_dead (h : ydl s ts) {l : Nat} (hl : l ≤ 6) (hn : RfDead 57 [i64 (l + 1 : Nat)] s names ts) : RfDead 57 [i64 l] s names ts := by
  intro a err pl ha he
  refine yaz tok Tryz.func57 rfl rfl Tryz.ntmps57 Tryz.results57 rfl (ydw rfl) ?_
  show A _ _ _ _ (S _ _)
  (repeat (first | refine zI ?_ | refine zL ?_ | refine zC ?_ | refine yag ?_ | refine yaf ?_ | refine zR ?_ | refine zD ?_ | refine zK ?_ | refine zB ?_ | refine zA ?_ | refine zS ?_ | refine zU ?_ | refine zV ?_ | refine zF ?_ | with_reducible refine yab ?_ | with_reducible refine yad ?_ | refine yaa ?_ | refine yac ?_ | refine yae ?_ | refine zT ?_ | refine zE ?_ | refine zX ?_))
  refine yam rfl (fun h9 => absurd h9 (by simp; omega)) (fun _ => ?_)
  (repeat (first | refine zI ?_ | refine zL ?_ | refine zC ?_ | refine yag ?_ | refine yaf ?_ | refine zR ?_ | refine zD ?_ | refine zK ?_ | refine zB ?_ | refine zA ?_ | refine zS ?_ | refine zU ?_ | refine zV ?_ | refine zF ?_ | with_reducible refine yab ?_ | with_reducible refine yad ?_ | refine yaa ?_ | refine yac ?_ | refine yae ?_ | refine zT ?_ | refine zE ?_ | refine zX ?_ | refine ybl 1001 (hn a err pl ha he) rfl rfl rfl rfl rfl rfl rfl rfl rfl rfl rfl rfl ?_))
  refine A_inv (α := Unit) (fun _ => [(0, .lp 1001 0), (1, i64 l), (5, yay [])]) (fun _ => [(1001, some (.cells (rfC s names ts a err pl)))]) (fun _ => 0) (fun _ => True) () trivial (by (repeat (first | exact ycd | refine ybn rfl ?_))) (yai rfl yan) ?_
  intro _ _
  (repeat (first | refine zI ?_ | refine zL ?_ | refine zC ?_ | refine yag ?_ | refine yaf ?_ | refine zR ?_ | refine zD ?_ | refine zK ?_ | refine zB ?_ | refine zA ?_ | refine zS ?_ | refine zU ?_ | refine zV ?_ | refine zF ?_ | with_reducible refine yab ?_ | with_reducible refine yad ?_ | refine yaa ?_ | refine yac ?_ | refine yae ?_ | refine zT ?_ | refine zE ?_ | refine zX ?_ | refine yaw (yau (args := []) rfl rfl rfl rfl rfl (ycl h)) rfl rfl ?_))
  rw [rfW_dead he]
  (repeat (first | refine zI ?_ | refine zL ?_ | refine zC ?_ | refine yag ?_ | refine yaf ?_ | refine zR ?_ | refine zD ?_ | refine zK ?_ | refine zB ?_ | refine zA ?_ | refine zS ?_ | refine zU ?_ | refine zV ?_ | refine zF ?_ | with_reducible refine yab ?_ | with_reducible refine yad ?_ | refine yaa ?_ | refine yac ?_ | refine yae ?_ | refine zT ?_ | refine zE ?_ | refine zX ?_ | refine yak rfl rfl (sign_rf []) rfl rfl ?_))
  refine yar ?_
  exact ⟨_, rfl, yav _, yap (yai rfl yan)⟩
theorem bins_dead (h : ydl s ts) : ∀ l : Nat, 2 ≤ l → l ≤ 7 → RfDead 57 [i64 l] s names ts := by
  have h7 := bin7_dead (names := names) h
  have h6 := bin_dead (l := 6) h (by omega) h7
  have h5 := bin_dead (l := 5) h (by omega) h6
  have h4 := bin_dead (l := 4) h (by omega) h5
  have h3 := bin_dead (l := 3) h (by omega) h4
  have h2 := bin_dead (l := 2) h (by omega) h3
  intro l g1 g2
  obtain rfl | rfl | rfl | rfl | rfl | rfl : l = 2 ∨ l = 3 ∨ l = 4 ∨ l = 5 ∨ l = 6 ∨ l = 7 := by omega
  · exact h2
  · exact h3
  · exact h4
  · exact h5
  · exact h6
  · exact h7
theorem choice_dead (h : ydl s ts) : RfDead 29 [] s names ts := by
  intro a err pl ha he
  refine yaz tok Tryz.func29 rfl rfl Tryz.ntmps29 Tryz.results29 rfl (ydw rfl) ?_
  show A _ _ _ _ (S _ _)
  (repeat (first | refine zI ?_ | refine zL ?_ | refine zC ?_ | refine yag ?_ | refine yaf ?_ | refine zR ?_ | refine zD ?_ | refine zK ?_ | refine zB ?_ | refine zA ?_ | refine zS ?_ | refine zU ?_ | refine zV ?_ | refine zF ?_ | with_reducible refine yab ?_ | with_reducible refine yad ?_ | refine yaa ?_ | refine yac ?_ | refine yae ?_ | refine zT ?_ | refine zE ?_ | refine zX ?_ | refine ybl 1001 (bins_dead h 2 (by omega) (by omega) a err pl ha he) rfl rfl rfl rfl rfl rfl rfl rfl rfl rfl rfl rfl ?_ | refine ybl 1001 (ybs h (w := [63]) (ne_dead he (by simp))) rfl rfl rfl rfl rfl rfl rfl rfl rfl rfl rfl rfl ?_))
  refine yar ?_
  exact ⟨_, rfl, yav _, yap (yai rfl yan)⟩
def RfRes (f : FuncId) (args : List AV) (s : ByteArray) (names : List Bs) (ts : List Tok) (a : Nat) (pl : Int) (res : Res) : Prop := match res with
  | .ok x rest => ConM Tryz.prog f (.lp 1001 0 :: args) (yaq (rfH s names ts a 0 pl)) (yay x) (yaq (rfH s names ts (ts.length - rest.length) 0 pl))
  | .bad c rest => ∃ (x : List Tm) (a' : Nat), a ≤ a' ∧ a' ≤ ts.length ∧ x.length + (ts.length - a') ≤ ts.length - a ∧ ConM Tryz.prog f (.lp 1001 0 :: args) (yaq (rfH s names ts a 0 pl)) (yay x) (yaq (rfH s names ts a' c (yez s (ts.drop (ts.length - rest.length)))))
theorem rf_ok {f : FuncId} {args : List AV} {a1 : Nat} {x : List Tm} (h : RfRes f args s names ts a pl (.ok x ((ts.drop a1).map (pwT s)))) (h1 : a1 ≤ ts.length) : ConM Tryz.prog f (.lp 1001 0 :: args) (yaq (rfH s names ts a 0 pl)) (yay x) (yaq (rfH s names ts a1 0 pl)) := by
  simp only [RfRes, List.length_map, List.length_drop] at h
  rwa [show ts.length - (ts.length - a1) = a1 by omega] at h
theorem rf_bad {f : FuncId} {args : List AV} {a1 : Nat} {c : Int} (h : RfRes f args s names ts a pl (.bad c ((ts.drop a1).map (pwT s)))) (h1 : a1 ≤ ts.length) : ∃ (x : List Tm) (a' : Nat), a ≤ a' ∧ a' ≤ ts.length ∧ x.length + (ts.length - a') ≤ ts.length - a ∧ ConM Tryz.prog f (.lp 1001 0 :: args) (yaq (rfH s names ts a 0 pl)) (yay x) (yaq (rfH s names ts a' c (yez s (ts.drop a1)))) := by
  simp only [RfRes, List.length_map, List.length_drop] at h
  rwa [show ts.length - (ts.length - a1) = a1 by omega] at h
theorem yes {f : FuncId} {args : List AV} {a1 : Nat} {x : List Tm} (h1 : a1 ≤ ts.length) (h : ConM Tryz.prog f (.lp 1001 0 :: args) (yaq (rfH s names ts a 0 pl)) (yay x) (yaq (rfH s names ts a1 0 pl))) : RfRes f args s names ts a pl (.ok x ((ts.drop a1).map (pwT s))) := by
  simp only [RfRes, List.length_map, List.length_drop]
  rwa [show ts.length - (ts.length - a1) = a1 by omega]
theorem ycz {f : FuncId} {args : List AV} {a1 a' : Nat} {c : Int} {x : List Tm} (h1 : a1 ≤ ts.length) (h2 : a ≤ a') (h3 : a' ≤ ts.length) (h4 : x.length + (ts.length - a') ≤ ts.length - a) (h : ConM Tryz.prog f (.lp 1001 0 :: args) (yaq (rfH s names ts a 0 pl)) (yay x) (yaq (rfH s names ts a' c (yez s (ts.drop a1))))) : RfRes f args s names ts a pl (.bad c ((ts.drop a1).map (pwT s))) := by
  simp only [RfRes, List.length_map, List.length_drop]
  rw [show ts.length - (ts.length - a1) = a1 by omega]
  exact ⟨x, a', h2, h3, h4, h⟩
theorem ydi {r : List PW} (h : r <:+ (ts.drop a).map (pwT s)) (ha : a ≤ ts.length) : ∃ a1, a ≤ a1 ∧ a1 ≤ ts.length ∧ r = (ts.drop a1).map (pwT s) ∧ r.length = ts.length - a1 := by
  obtain ⟨ts1, h1, rfl⟩ := ydc h
  obtain ⟨p, hp⟩ := h1
  have hl : p.length + ts1.length = ts.length - a := by have := congrArg List.length hp; simpa using this
  refine ⟨a + p.length, by omega, by omega, ?_, by rw [List.length_map]; omega⟩
  rw [← List.drop_drop, ← hp]
  simp
theorem tail_rf : ((ts.drop a).map (pwT s)).tail = (ts.drop (a + 1)).map (pwT s) := by rw [← List.map_tail, List.tail_drop]
theorem cons_rf {t : PW} {r : List PW} (h : (ts.drop a).map (pwT s) = t :: r) : a < ts.length ∧ (∃ t', ts[a]? = some t' ∧ ts.drop a = t' :: ts.drop (a + 1) ∧ pwT s t' = t) ∧ r = (ts.drop (a + 1)).map (pwT s) := by
  have ha : a < ts.length := by
    rcases Nat.lt_or_ge a ts.length with h' | h'
    · exact h'
    · rw [List.drop_eq_nil_of_le h'] at h; cases h
  obtain ⟨t', h1, h2⟩ := drop_here ha
  rw [h2] at h
  simp only [List.map_cons, List.cons.injEq] at h
  exact ⟨ha, ⟨t', h1, h2, h.1⟩, h.2.symm⟩
theorem ycc : rfW s ts a 0 = ybg ((ts.drop a).map (pwT s)) := if_pos rfl
theorem head_lt {w : Bs} (h : ybg ((ts.drop a).map (pwT s)) = w) (h0 : w ≠ []) : a < ts.length := by
  rcases Nat.lt_or_ge a ts.length with h' | h'
  · exact h'
  · rw [List.drop_eq_nil_of_le h'] at h; exact absurd h.symm h0
structure IHr (f : Nat) (s : ByteArray) (names : List Bs) (ts : List Tok) : Prop where
  choice : ∀ (a : Nat) (pl : Int) (res : Res), a ≤ ts.length → PP nmW names f .choice ((ts.drop a).map (pwT s)) = some res → RfRes 29 [] s names ts a pl res
  bin : ∀ (l : Nat), 1 ≤ l → l ≤ 6 → ∀ (a : Nat) (pl : Int) (res : Res), a ≤ ts.length → PP nmW names f (.bin l) ((ts.drop a).map (pwT s)) = some res → RfRes 57 [i64 (l + 1 : Nat)] s names ts a pl res
  unary : ∀ (a : Nat) (pl : Int) (res : Res), a ≤ ts.length → PP nmW names f .unary ((ts.drop a).map (pwT s)) = some res → RfRes 98 [] s names ts a pl res
  prim : ∀ (a : Nat) (pl : Int) (res : Res), a ≤ ts.length → PP nmW names f .prim ((ts.drop a).map (pwT s)) = some res → RfRes 111 [] s names ts a pl res
theorem bad_ne {nt : NT} {ts : List PW} {c : Int} {r : List PW} (h : Sp nt ts (.bad c r)) : c ≠ 0 := by
  rcases h.2.1 with rfl | rfl <;> decide
theorem rchoice_step {f : Nat} (ih : IHr f s names ts) (h : ydl s ts) (hb : ts.length ≤ 100000) (ha : a ≤ ts.length) {res : Res} (hp : PP nmW names (f + 1) .choice ((ts.drop a).map (pwT s)) = some res) : RfRes 29 [] s names ts a pl res := by
  rw [PP] at hp
  rcases ybz hp with ⟨c, r, h1, h2⟩ | ⟨c, r, h1, rfl⟩
  · have sp1 := ydo _ _ _ _ h1
    obtain ⟨a1, g1, k1, rfl, e1⟩ := ydi sp1.1 ha
    have c1 := rf_ok (ih.bin 1 (by omega) (by omega) a pl _ ha h1) k1
    have b1 := sp1.2.1
    rw [e1] at b1
    simp only [List.length_map, NT.had, List.length_drop] at b1
    by_cases hq : ybg ((ts.drop a1).map (pwT s)) = [63]
    · rw [if_pos hq, tail_rf] at h2
      have hlt := head_lt hq (by simp)
      rcases ybz h2 with ⟨y, r2, h3, h4⟩ | ⟨c', r2, h3, rfl⟩
      · have sp2 := ydo _ _ _ _ h3
        obtain ⟨a2, g2, k2, rfl, e2⟩ := ydi sp2.1 (by omega)
        have c2 := rf_ok (ih.choice (a1 + 1) pl _ (by omega) h3) k2
        have b2 := sp2.2.1
        rw [e2] at b2
        simp only [List.length_map, NT.had, List.length_drop] at b2
        rcases yfk h4 with ⟨t, r3, ht, htw, h5⟩ | ⟨hne, rfl⟩
        · obtain ⟨k3, ⟨t', _, hd, rfl⟩, rfl⟩ := cons_rf ht
          have hw2 : rfW s ts a2 0 = [58] := by rw [rfW_cons hd]; exact htw
          rcases ybz h5 with ⟨z, r4, h6, h7⟩ | ⟨c', r4, h6, rfl⟩
          · have sp4 := ydo _ _ _ _ h6
            obtain ⟨a4, g4, k4, rfl, e4⟩ := ydi sp4.1 (by omega)
            have c4 := rf_ok (ih.choice (a2 + 1) pl _ (by omega) h6) k4
            have b4 := sp4.2.1
            rw [e4] at b4
            simp only [List.length_map, NT.had, List.length_drop] at b4
            simp only [Option.some.injEq] at h7
            subst h7
            have hbs : [c, y, z].flatten.length ≤ 1000000 := by simp only [List.flatten_cons, List.flatten_nil, List.length_append, List.length_nil]; omega
            have ef : ((43 : Int), (0 : Int)) :: [c, y, z].flatten = (43, 0) :: (c ++ (y ++ z)) := by simp
            refine yes k4 ?_
            rw [← ef]
            refine yaz tok Tryz.func29 rfl rfl Tryz.ntmps29 Tryz.results29 rfl (ydw rfl) ?_
            show A _ _ _ _ (S _ _)
            (repeat (first | refine zI ?_ | refine zL ?_ | refine zC ?_ | refine yag ?_ | refine yaf ?_ | refine zR ?_ | refine zD ?_ | refine zK ?_ | refine zB ?_ | refine zA ?_ | refine zS ?_ | refine zU ?_ | refine zV ?_ | refine zF ?_ | with_reducible refine yab ?_ | with_reducible refine yad ?_ | refine yaa ?_ | refine yac ?_ | refine yae ?_ | refine zT ?_ | refine zE ?_ | refine zX ?_ | refine ybl 1001 (c1) rfl rfl rfl rfl rfl rfl rfl rfl rfl rfl rfl rfl ?_ | refine ybl 1001 (yce h k1 (w := [63]) (by rw [ycc]; exact hq) (by simp) hb) rfl rfl rfl rfl rfl rfl rfl rfl rfl rfl rfl rfl ?_ | refine ybl 1001 (c2) rfl rfl rfl rfl rfl rfl rfl rfl rfl rfl rfl rfl ?_ | refine ybl 1001 (want_rf_yes h k2 hw2 (by simp) hb) rfl rfl rfl rfl rfl rfl rfl rfl rfl rfl rfl rfl ?_ | refine ybl 1001 (c4) rfl rfl rfl rfl rfl rfl rfl rfl rfl rfl rfl rfl ?_ | refine yak rfl rfl (ybx 43 [c, y, z] (by simp) hbs) rfl rfl ?_))
            refine yar ?_
            exact ⟨_, rfl, yav _, yap (yai rfl yan)⟩
          · have sp4 := ydo _ _ _ _ h6
            obtain ⟨a4, g4, k4, rfl, e4⟩ := ydi sp4.1 (by omega)
            obtain ⟨z, a5, q1, q2, q3, c4⟩ := rf_bad (ih.choice (a2 + 1) pl _ (by omega) h6) k4
            have hbs : [c, y, z].flatten.length ≤ 1000000 := by simp only [List.flatten_cons, List.flatten_nil, List.length_append, List.length_nil]; omega
            refine ycz (x := (43, 0) :: [c, y, z].flatten) k4 (by omega) q2 (by simp only [List.flatten_cons, List.flatten_nil, List.length_append, List.length_nil, List.length_cons]; omega) ?_
            refine yaz tok Tryz.func29 rfl rfl Tryz.ntmps29 Tryz.results29 rfl (ydw rfl) ?_
            show A _ _ _ _ (S _ _)
            (repeat (first | refine zI ?_ | refine zL ?_ | refine zC ?_ | refine yag ?_ | refine yaf ?_ | refine zR ?_ | refine zD ?_ | refine zK ?_ | refine zB ?_ | refine zA ?_ | refine zS ?_ | refine zU ?_ | refine zV ?_ | refine zF ?_ | with_reducible refine yab ?_ | with_reducible refine yad ?_ | refine yaa ?_ | refine yac ?_ | refine yae ?_ | refine zT ?_ | refine zE ?_ | refine zX ?_ | refine ybl 1001 (c1) rfl rfl rfl rfl rfl rfl rfl rfl rfl rfl rfl rfl ?_ | refine ybl 1001 (yce h k1 (w := [63]) (by rw [ycc]; exact hq) (by simp) hb) rfl rfl rfl rfl rfl rfl rfl rfl rfl rfl rfl rfl ?_ | refine ybl 1001 (c2) rfl rfl rfl rfl rfl rfl rfl rfl rfl rfl rfl rfl ?_ | refine ybl 1001 (want_rf_yes h k2 hw2 (by simp) hb) rfl rfl rfl rfl rfl rfl rfl rfl rfl rfl rfl rfl ?_ | refine ybl 1001 (c4) rfl rfl rfl rfl rfl rfl rfl rfl rfl rfl rfl rfl ?_ | refine yak rfl rfl (ybx 43 [c, y, z] (by simp) hbs) rfl rfl ?_))
            refine yar ?_
            exact ⟨_, rfl, yav _, yap (yai rfl yan)⟩
        · have hw2 : rfW s ts a2 0 ≠ [58] := by rw [ycc]; exact want_no (by simp) hne
          have cd := choice_dead (names := names) h a2 4 (yez s (ts.drop a2)) k2 (by decide)
          have hbs : [c, y, []].flatten.length ≤ 1000000 := by simp only [List.flatten_cons, List.flatten_nil, List.length_append, List.length_nil]; omega
          refine ycz (x := (43, 0) :: [c, y, []].flatten) k2 (by omega) k2 (by simp only [List.flatten_cons, List.flatten_nil, List.length_append, List.length_nil, List.length_cons]; omega) ?_
          refine yaz tok Tryz.func29 rfl rfl Tryz.ntmps29 Tryz.results29 rfl (ydw rfl) ?_
          show A _ _ _ _ (S _ _)
          (repeat (first | refine zI ?_ | refine zL ?_ | refine zC ?_ | refine yag ?_ | refine yaf ?_ | refine zR ?_ | refine zD ?_ | refine zK ?_ | refine zB ?_ | refine zA ?_ | refine zS ?_ | refine zU ?_ | refine zV ?_ | refine zF ?_ | with_reducible refine yab ?_ | with_reducible refine yad ?_ | refine yaa ?_ | refine yac ?_ | refine yae ?_ | refine zT ?_ | refine zE ?_ | refine zX ?_ | refine ybl 1001 (c1) rfl rfl rfl rfl rfl rfl rfl rfl rfl rfl rfl rfl ?_ | refine ybl 1001 (yce h k1 (w := [63]) (by rw [ycc]; exact hq) (by simp) hb) rfl rfl rfl rfl rfl rfl rfl rfl rfl rfl rfl rfl ?_ | refine ybl 1001 (c2) rfl rfl rfl rfl rfl rfl rfl rfl rfl rfl rfl rfl ?_ | refine ybl 1001 (want_rf_no h k2 hw2) rfl rfl rfl rfl rfl rfl rfl rfl rfl rfl rfl rfl ?_ | refine ybl 1001 (cd) rfl rfl rfl rfl rfl rfl rfl rfl rfl rfl rfl rfl ?_ | refine yak rfl rfl (ybx 43 [c, y, []] (by simp) hbs) rfl rfl ?_))
          refine yar ?_
          exact ⟨_, rfl, yav _, yap (yai rfl yan)⟩
      · have sp2 := ydo _ _ _ _ h3
        have hc0 := bad_ne sp2
        obtain ⟨a2, g2, k2, rfl, e2⟩ := ydi sp2.1 (by omega)
        obtain ⟨y, a3, q1, q2, q3, c2⟩ := rf_bad (ih.choice (a1 + 1) pl _ (by omega) h3) k2
        have cd := choice_dead (names := names) h a3 c' (yez s (ts.drop a2)) q2 hc0
        have hbs : [c, y, []].flatten.length ≤ 1000000 := by simp only [List.flatten_cons, List.flatten_nil, List.length_append, List.length_nil]; omega
        refine ycz (x := (43, 0) :: [c, y, []].flatten) k2 (by omega) q2 (by simp only [List.flatten_cons, List.flatten_nil, List.length_append, List.length_nil, List.length_cons]; omega) ?_
        refine yaz tok Tryz.func29 rfl rfl Tryz.ntmps29 Tryz.results29 rfl (ydw rfl) ?_
        show A _ _ _ _ (S _ _)
        (repeat (first | refine zI ?_ | refine zL ?_ | refine zC ?_ | refine yag ?_ | refine yaf ?_ | refine zR ?_ | refine zD ?_ | refine zK ?_ | refine zB ?_ | refine zA ?_ | refine zS ?_ | refine zU ?_ | refine zV ?_ | refine zF ?_ | with_reducible refine yab ?_ | with_reducible refine yad ?_ | refine yaa ?_ | refine yac ?_ | refine yae ?_ | refine zT ?_ | refine zE ?_ | refine zX ?_ | refine ybl 1001 (c1) rfl rfl rfl rfl rfl rfl rfl rfl rfl rfl rfl rfl ?_ | refine ybl 1001 (yce h k1 (w := [63]) (by rw [ycc]; exact hq) (by simp) hb) rfl rfl rfl rfl rfl rfl rfl rfl rfl rfl rfl rfl ?_ | refine ybl 1001 (c2) rfl rfl rfl rfl rfl rfl rfl rfl rfl rfl rfl rfl ?_ | refine ybl 1001 (want_rf_dead h (w := [58]) (by simp) hc0) rfl rfl rfl rfl rfl rfl rfl rfl rfl rfl rfl rfl ?_ | refine ybl 1001 (cd) rfl rfl rfl rfl rfl rfl rfl rfl rfl rfl rfl rfl ?_ | refine yak rfl rfl (ybx 43 [c, y, []] (by simp) hbs) rfl rfl ?_))
        refine yar ?_
        exact ⟨_, rfl, yav _, yap (yai rfl yan)⟩
    · rw [if_neg hq] at h2
      simp only [Option.some.injEq] at h2
      subst h2
      have hw1 : rfW s ts a1 0 ≠ [63] := by rw [ycc]; exact hq
      refine yes k1 ?_
      refine yaz tok Tryz.func29 rfl rfl Tryz.ntmps29 Tryz.results29 rfl (ydw rfl) ?_
      show A _ _ _ _ (S _ _)
      (repeat (first | refine zI ?_ | refine zL ?_ | refine zC ?_ | refine yag ?_ | refine yaf ?_ | refine zR ?_ | refine zD ?_ | refine zK ?_ | refine zB ?_ | refine zA ?_ | refine zS ?_ | refine zU ?_ | refine zV ?_ | refine zF ?_ | with_reducible refine yab ?_ | with_reducible refine yad ?_ | refine yaa ?_ | refine yac ?_ | refine yae ?_ | refine zT ?_ | refine zE ?_ | refine zX ?_ | refine ybl 1001 (c1) rfl rfl rfl rfl rfl rfl rfl rfl rfl rfl rfl rfl ?_ | refine ybl 1001 (ybs h hw1) rfl rfl rfl rfl rfl rfl rfl rfl rfl rfl rfl rfl ?_))
      refine yar ?_
      exact ⟨_, rfl, yav _, yap (yai rfl yan)⟩
  · have sp1 := ydo _ _ _ _ h1
    have hc0 := bad_ne sp1
    obtain ⟨a1, g1, k1, rfl, e1⟩ := ydi sp1.1 ha
    obtain ⟨x, a2, q1, q2, q3, c1⟩ := rf_bad (ih.bin 1 (by omega) (by omega) a pl _ ha h1) k1
    refine ycz k1 q1 q2 q3 ?_
    refine yaz tok Tryz.func29 rfl rfl Tryz.ntmps29 Tryz.results29 rfl (ydw rfl) ?_
    show A _ _ _ _ (S _ _)
    (repeat (first | refine zI ?_ | refine zL ?_ | refine zC ?_ | refine yag ?_ | refine yaf ?_ | refine zR ?_ | refine zD ?_ | refine zK ?_ | refine zB ?_ | refine zA ?_ | refine zS ?_ | refine zU ?_ | refine zV ?_ | refine zF ?_ | with_reducible refine yab ?_ | with_reducible refine yad ?_ | refine yaa ?_ | refine yac ?_ | refine yae ?_ | refine zT ?_ | refine zE ?_ | refine zX ?_ | refine ybl 1001 (c1) rfl rfl rfl rfl rfl rfl rfl rfl rfl rfl rfl rfl ?_ | refine ybl 1001 (ybs h (w := [63]) (ne_dead hc0 (by simp))) rfl rfl rfl rfl rfl rfl rfl rfl rfl rfl rfl rfl ?_))
    refine yar ?_
    exact ⟨_, rfl, yav _, yap (yai rfl yan)⟩
theorem runary_step {f : Nat} (ih : IHr f s names ts) (h : ydl s ts) (hb : ts.length ≤ 100000) (ha : a ≤ ts.length) {res : Res} (hp : PP nmW names (f + 1) .unary ((ts.drop a).map (pwT s)) = some res) : RfRes 98 [] s names ts a pl res := by
  rw [PP] at hp
  by_cases hq : ybg ((ts.drop a).map (pwT s)) = [45]
  · rw [if_pos hq, tail_rf] at hp
    have hlt := head_lt hq (by simp)
    rcases ybz hp with ⟨x, r, h1, h2⟩ | ⟨c, r, h1, rfl⟩
    · have sp1 := ydo _ _ _ _ h1
      obtain ⟨a1, g1, k1, rfl, e1⟩ := ydi sp1.1 (by omega)
      have c1 := rf_ok (ih.unary (a + 1) pl _ (by omega) h1) k1
      have b1 := sp1.2.1
      rw [e1] at b1
      simp only [List.length_map, NT.had, List.length_drop] at b1
      simp only [Option.some.injEq] at h2
      subst h2
      have hbs : [x].flatten.length ≤ 1000000 := by simp only [List.flatten_cons, List.flatten_nil, List.length_append, List.length_nil]; omega
      have ef : ((18 : Int), (0 : Int)) :: [x].flatten = (18, 0) :: x := by simp
      refine yes k1 ?_
      rw [← ef]
      refine yaz tok Tryz.func98 rfl rfl Tryz.ntmps98 Tryz.results98 rfl (ydw rfl) ?_
      show A _ _ _ _ (S _ _)
      (repeat (first | refine zI ?_ | refine zL ?_ | refine zC ?_ | refine yag ?_ | refine yaf ?_ | refine zR ?_ | refine zD ?_ | refine zK ?_ | refine zB ?_ | refine zA ?_ | refine zS ?_ | refine zU ?_ | refine zV ?_ | refine zF ?_ | with_reducible refine yab ?_ | with_reducible refine yad ?_ | refine yaa ?_ | refine yac ?_ | refine yae ?_ | refine zT ?_ | refine zE ?_ | refine zX ?_ | refine ybl 1001 (yce h ha (w := [45]) (by rw [ycc]; exact hq) (by simp) hb) rfl rfl rfl rfl rfl rfl rfl rfl rfl rfl rfl rfl ?_ | refine ybl 1001 (c1) rfl rfl rfl rfl rfl rfl rfl rfl rfl rfl rfl rfl ?_ | refine yak rfl rfl (ybx 18 [x] (by simp) hbs) rfl rfl ?_))
      refine yar ?_
      exact ⟨_, rfl, yav _, yap (yai rfl yan)⟩
    · have sp1 := ydo _ _ _ _ h1
      obtain ⟨a1, g1, k1, rfl, e1⟩ := ydi sp1.1 (by omega)
      obtain ⟨x, a2, q1, q2, q3, c1⟩ := rf_bad (ih.unary (a + 1) pl _ (by omega) h1) k1
      have hbs : [x].flatten.length ≤ 1000000 := by simp only [List.flatten_cons, List.flatten_nil, List.length_append, List.length_nil]; omega
      refine ycz (x := (18, 0) :: [x].flatten) k1 (by omega) q2 (by simp only [List.flatten_cons, List.flatten_nil, List.length_append, List.length_nil, List.length_cons]; omega) ?_
      refine yaz tok Tryz.func98 rfl rfl Tryz.ntmps98 Tryz.results98 rfl (ydw rfl) ?_
      show A _ _ _ _ (S _ _)
      (repeat (first | refine zI ?_ | refine zL ?_ | refine zC ?_ | refine yag ?_ | refine yaf ?_ | refine zR ?_ | refine zD ?_ | refine zK ?_ | refine zB ?_ | refine zA ?_ | refine zS ?_ | refine zU ?_ | refine zV ?_ | refine zF ?_ | with_reducible refine yab ?_ | with_reducible refine yad ?_ | refine yaa ?_ | refine yac ?_ | refine yae ?_ | refine zT ?_ | refine zE ?_ | refine zX ?_ | refine ybl 1001 (yce h ha (w := [45]) (by rw [ycc]; exact hq) (by simp) hb) rfl rfl rfl rfl rfl rfl rfl rfl rfl rfl rfl rfl ?_ | refine ybl 1001 (c1) rfl rfl rfl rfl rfl rfl rfl rfl rfl rfl rfl rfl ?_ | refine yak rfl rfl (ybx 18 [x] (by simp) hbs) rfl rfl ?_))
      refine yar ?_
      exact ⟨_, rfl, yav _, yap (yai rfl yan)⟩
  rw [if_neg hq] at hp
  by_cases hq2 : ybg ((ts.drop a).map (pwT s)) = [33]
  · rw [if_pos hq2, tail_rf] at hp
    have hlt := head_lt hq2 (by simp)
    rcases ybz hp with ⟨x, r, h1, h2⟩ | ⟨c, r, h1, rfl⟩
    · have sp1 := ydo _ _ _ _ h1
      obtain ⟨a1, g1, k1, rfl, e1⟩ := ydi sp1.1 (by omega)
      have c1 := rf_ok (ih.unary (a + 1) pl _ (by omega) h1) k1
      have b1 := sp1.2.1
      rw [e1] at b1
      simp only [List.length_map, NT.had, List.length_drop] at b1
      simp only [Option.some.injEq] at h2
      subst h2
      have hbs : [x].flatten.length ≤ 1000000 := by simp only [List.flatten_cons, List.flatten_nil, List.length_append, List.length_nil]; omega
      have ef : ((19 : Int), (0 : Int)) :: [x].flatten = (19, 0) :: x := by simp
      refine yes k1 ?_
      rw [← ef]
      refine yaz tok Tryz.func98 rfl rfl Tryz.ntmps98 Tryz.results98 rfl (ydw rfl) ?_
      show A _ _ _ _ (S _ _)
      (repeat (first | refine zI ?_ | refine zL ?_ | refine zC ?_ | refine yag ?_ | refine yaf ?_ | refine zR ?_ | refine zD ?_ | refine zK ?_ | refine zB ?_ | refine zA ?_ | refine zS ?_ | refine zU ?_ | refine zV ?_ | refine zF ?_ | with_reducible refine yab ?_ | with_reducible refine yad ?_ | refine yaa ?_ | refine yac ?_ | refine yae ?_ | refine zT ?_ | refine zE ?_ | refine zX ?_ | refine ybl 1001 (ybs h (w := [45]) (by rw [ycc]; exact hq)) rfl rfl rfl rfl rfl rfl rfl rfl rfl rfl rfl rfl ?_ | refine ybl 1001 (yce h ha (w := [33]) (by rw [ycc]; exact hq2) (by simp) hb) rfl rfl rfl rfl rfl rfl rfl rfl rfl rfl rfl rfl ?_ | refine ybl 1001 (c1) rfl rfl rfl rfl rfl rfl rfl rfl rfl rfl rfl rfl ?_ | refine yak rfl rfl (ybx 19 [x] (by simp) hbs) rfl rfl ?_))
      refine yar ?_
      exact ⟨_, rfl, yav _, yap (yai rfl yan)⟩
    · have sp1 := ydo _ _ _ _ h1
      obtain ⟨a1, g1, k1, rfl, e1⟩ := ydi sp1.1 (by omega)
      obtain ⟨x, a2, q1, q2, q3, c1⟩ := rf_bad (ih.unary (a + 1) pl _ (by omega) h1) k1
      have hbs : [x].flatten.length ≤ 1000000 := by simp only [List.flatten_cons, List.flatten_nil, List.length_append, List.length_nil]; omega
      refine ycz (x := (19, 0) :: [x].flatten) k1 (by omega) q2 (by simp only [List.flatten_cons, List.flatten_nil, List.length_append, List.length_nil, List.length_cons]; omega) ?_
      refine yaz tok Tryz.func98 rfl rfl Tryz.ntmps98 Tryz.results98 rfl (ydw rfl) ?_
      show A _ _ _ _ (S _ _)
      (repeat (first | refine zI ?_ | refine zL ?_ | refine zC ?_ | refine yag ?_ | refine yaf ?_ | refine zR ?_ | refine zD ?_ | refine zK ?_ | refine zB ?_ | refine zA ?_ | refine zS ?_ | refine zU ?_ | refine zV ?_ | refine zF ?_ | with_reducible refine yab ?_ | with_reducible refine yad ?_ | refine yaa ?_ | refine yac ?_ | refine yae ?_ | refine zT ?_ | refine zE ?_ | refine zX ?_ | refine ybl 1001 (ybs h (w := [45]) (by rw [ycc]; exact hq)) rfl rfl rfl rfl rfl rfl rfl rfl rfl rfl rfl rfl ?_ | refine ybl 1001 (yce h ha (w := [33]) (by rw [ycc]; exact hq2) (by simp) hb) rfl rfl rfl rfl rfl rfl rfl rfl rfl rfl rfl rfl ?_ | refine ybl 1001 (c1) rfl rfl rfl rfl rfl rfl rfl rfl rfl rfl rfl rfl ?_ | refine yak rfl rfl (ybx 19 [x] (by simp) hbs) rfl rfl ?_))
      refine yar ?_
      exact ⟨_, rfl, yav _, yap (yai rfl yan)⟩
  rw [if_neg hq2] at hp
  have ihp := ih.prim a pl _ ha hp
  have sp1 := ydo _ _ _ _ hp
  cases res with
  | ok x r =>
    obtain ⟨a1, g1, k1, rfl, e1⟩ := ydi sp1.1 ha
    have c1 := rf_ok ihp k1
    refine yes k1 ?_
    refine yaz tok Tryz.func98 rfl rfl Tryz.ntmps98 Tryz.results98 rfl (ydw rfl) ?_
    show A _ _ _ _ (S _ _)
    (repeat (first | refine zI ?_ | refine zL ?_ | refine zC ?_ | refine yag ?_ | refine yaf ?_ | refine zR ?_ | refine zD ?_ | refine zK ?_ | refine zB ?_ | refine zA ?_ | refine zS ?_ | refine zU ?_ | refine zV ?_ | refine zF ?_ | with_reducible refine yab ?_ | with_reducible refine yad ?_ | refine yaa ?_ | refine yac ?_ | refine yae ?_ | refine zT ?_ | refine zE ?_ | refine zX ?_ | refine ybl 1001 (ybs h (w := [45]) (by rw [ycc]; exact hq)) rfl rfl rfl rfl rfl rfl rfl rfl rfl rfl rfl rfl ?_ | refine ybl 1001 (ybs h (w := [33]) (by rw [ycc]; exact hq2)) rfl rfl rfl rfl rfl rfl rfl rfl rfl rfl rfl rfl ?_ | refine ybl 1001 (c1) rfl rfl rfl rfl rfl rfl rfl rfl rfl rfl rfl rfl ?_))
    refine yar ?_
    exact ⟨_, rfl, yav _, yap (yai rfl yan)⟩
  | bad c r =>
    obtain ⟨a1, g1, k1, rfl, e1⟩ := ydi sp1.1 ha
    obtain ⟨x, a2, q1, q2, q3, c1⟩ := rf_bad ihp k1
    refine ycz k1 q1 q2 q3 ?_
    refine yaz tok Tryz.func98 rfl rfl Tryz.ntmps98 Tryz.results98 rfl (ydw rfl) ?_
    show A _ _ _ _ (S _ _)
    (repeat (first | refine zI ?_ | refine zL ?_ | refine zC ?_ | refine yag ?_ | refine yaf ?_ | refine zR ?_ | refine zD ?_ | refine zK ?_ | refine zB ?_ | refine zA ?_ | refine zS ?_ | refine zU ?_ | refine zV ?_ | refine zF ?_ | with_reducible refine yab ?_ | with_reducible refine yad ?_ | refine yaa ?_ | refine yac ?_ | refine yae ?_ | refine zT ?_ | refine zE ?_ | refine zX ?_ | refine ybl 1001 (ybs h (w := [45]) (by rw [ycc]; exact hq)) rfl rfl rfl rfl rfl rfl rfl rfl rfl rfl rfl rfl ?_ | refine ybl 1001 (ybs h (w := [33]) (by rw [ycc]; exact hq2)) rfl rfl rfl rfl rfl rfl rfl rfl rfl rfl rfl rfl ?_ | refine ybl 1001 (c1) rfl rfl rfl rfl rfl rfl rfl rfl rfl rfl rfl rfl ?_))
    refine yar ?_
    exact ⟨_, rfl, yav _, yap (yai rfl yan)⟩
theorem findL_pos {first : Int} {l : List Bs} {w : Bs} (h0 : 0 < first) (h : findL first l w ≠ 0) : 0 < findL first l w := by
  unfold findL at h ⊢
  by_cases hw : w = []
  · rw [if_pos hw] at h; exact absurd rfl h
  · rw [if_neg hw] at h ⊢
    cases hi : idxW l w with
    | none => rw [hi] at h; exact absurd rfl h
    | some i => simp only; omega
theorem const_paren : yeu [40] = 0 ∧ aggO [40] = 0 ∧ yeu [113] = 0 ∧ aggO [113] = 0 := by decide
theorem rprim_step {f : Nat} (ih : IHr f s names ts) (hl : names.length ≤ 1000) (hs : s.size ≤ 1000000000) (h : ydl s ts) (hb : ts.length ≤ 100000) (ha : a ≤ ts.length) {res : Res} (hp : PP nmW names (f + 1) .prim ((ts.drop a).map (pwT s)) = some res) : RfRes 111 [] s names ts a pl res := by
  rcases Nat.lt_or_ge a ts.length with hlt | hge
  case inr =>
    have hnil : (ts.drop a).map (pwT s) = [] := by rw [List.drop_eq_nil_of_le hge]; rfl
    rw [hnil] at hp
    simp only [PP, Option.some.injEq] at hp
    subst hp
    have hv : varR nmW names 5 ((ts.drop a).map (pwT s)) = .bad 4 [] := by rw [hnil]; rfl
    have hw : rfW s ts a 0 = [] := by rw [ycc, hnil]; rfl
    have hk : rfK ts a 0 = 0 := by rw [rfK, if_pos rfl, List.drop_eq_nil_of_le hge]; rfl
    rw [← hnil]
    refine ycz (x := []) ha (Nat.le_refl _) ha (by simp) ?_
    refine yaz tok Tryz.func111 rfl rfl Tryz.ntmps111 Tryz.results111 rfl (ydw rfl) ?_
    show A _ _ _ _ (S _ _)
    (repeat (first | refine zI ?_ | refine zL ?_ | refine zC ?_ | refine yag ?_ | refine yaf ?_ | refine zR ?_ | refine zD ?_ | refine zK ?_ | refine zB ?_ | refine zA ?_ | refine zS ?_ | refine zU ?_ | refine zV ?_ | refine zF ?_ | with_reducible refine yab ?_ | with_reducible refine yad ?_ | refine yaa ?_ | refine yac ?_ | refine yae ?_ | refine zT ?_ | refine zE ?_ | refine zX ?_ | refine yaw (yau (args := []) rfl rfl rfl rfl rfl (ycl h)) rfl rfl ?_))
    rw [hw]
    (repeat (first | refine zI ?_ | refine zL ?_ | refine zC ?_ | refine yag ?_ | refine yaf ?_ | refine zR ?_ | refine zD ?_ | refine zK ?_ | refine zB ?_ | refine zA ?_ | refine zS ?_ | refine zU ?_ | refine zV ?_ | refine zF ?_ | with_reducible refine yab ?_ | with_reducible refine yad ?_ | refine yaa ?_ | refine yac ?_ | refine yae ?_ | refine zT ?_ | refine zE ?_ | refine zX ?_ | refine yaw (yau (args := []) rfl rfl rfl rfl rfl yfd) rfl rfl ?_))
    rw [hk]
    (repeat (first | refine zI ?_ | refine zL ?_ | refine zC ?_ | refine yag ?_ | refine yaf ?_ | refine zR ?_ | refine zD ?_ | refine zK ?_ | refine zB ?_ | refine zA ?_ | refine zS ?_ | refine zU ?_ | refine zV ?_ | refine zF ?_ | with_reducible refine yab ?_ | with_reducible refine yad ?_ | refine yaa ?_ | refine yac ?_ | refine yae ?_ | refine zT ?_ | refine zE ?_ | refine zX ?_ | refine yak rfl rfl (yfp []) rfl rfl ?_ | refine yak rfl rfl (yci []) rfl rfl ?_ | refine ybl 1001 (ybs h (w := [40]) (by rw [hw]; simp)) rfl rfl rfl rfl rfl rfl rfl rfl rfl rfl rfl rfl ?_ | refine ybl 1001 (ybs h (w := [113]) (by rw [hw]; simp)) rfl rfl rfl rfl rfl rfl rfl rfl rfl rfl rfl rfl ?_ | refine ybl 1001 (rvar_bad h hb ha hl hs hv) rfl rfl rfl rfl rfl rfl rfl rfl rfl rfl rfl rfl ?_))
    refine yar ?_
    exact ⟨_, rfl, yav _, yap (yai rfl yan)⟩
  obtain ⟨t, ht, hd⟩ := drop_here hlt
  have hw : rfW s ts a 0 = (pwT s t).w := rfW_cons hd
  have hk : rfK ts a 0 = t.kind := by rw [rfK, if_pos rfl, hd]; rfl
  have e1 : (ts.drop (a + 1)).map (pwT s) = (ts.drop (a + 1)).map (pwT s) := rfl
  rw [hd] at hp
  simp only [List.map_cons, PP] at hp
  have ht1 : ts[((a : Int) + 1 - 1).toNat]? = some t := by rw [show ((a : Int) + 1 - 1).toNat = a by omega]; exact ht
  by_cases hk2 : t.kind = 2
  · rw [if_pos (show (pwT s t).k = 2 from hk2)] at hp
    simp only [Option.some.injEq] at hp
    subst hp
    refine yes (show a + 1 ≤ ts.length by omega) ?_
    refine yaz tok Tryz.func111 rfl rfl Tryz.ntmps111 Tryz.results111 rfl (ydw rfl) ?_
    show A _ _ _ _ (S _ _)
    (repeat (first | refine zI ?_ | refine zL ?_ | refine zC ?_ | refine yag ?_ | refine yaf ?_ | refine zR ?_ | refine zD ?_ | refine zK ?_ | refine zB ?_ | refine zA ?_ | refine zS ?_ | refine zU ?_ | refine zV ?_ | refine zF ?_ | with_reducible refine yab ?_ | with_reducible refine yad ?_ | refine yaa ?_ | refine yac ?_ | refine yae ?_ | refine zT ?_ | refine zE ?_ | refine zX ?_ | refine yaw (yau (args := []) rfl rfl rfl rfl rfl (ycl h)) rfl rfl ?_))
    rw [hw]
    (repeat (first | refine zI ?_ | refine zL ?_ | refine zC ?_ | refine yag ?_ | refine yaf ?_ | refine zR ?_ | refine zD ?_ | refine zK ?_ | refine zB ?_ | refine zA ?_ | refine zS ?_ | refine zU ?_ | refine zV ?_ | refine zF ?_ | with_reducible refine yab ?_ | with_reducible refine yad ?_ | refine yaa ?_ | refine yac ?_ | refine yae ?_ | refine zT ?_ | refine zE ?_ | refine zX ?_ | refine yaw (yau (args := []) rfl rfl rfl rfl rfl yfd) rfl rfl ?_))
    rw [hk]
    (repeat (first | refine zI ?_ | refine zL ?_ | refine zC ?_ | refine yag ?_ | refine yaf ?_ | refine zR ?_ | refine zD ?_ | refine zK ?_ | refine zB ?_ | refine zA ?_ | refine zS ?_ | refine zU ?_ | refine zV ?_ | refine zF ?_ | with_reducible refine yab ?_ | with_reducible refine yad ?_ | refine yaa ?_ | refine yac ?_ | refine yae ?_ | refine zT ?_ | refine zE ?_ | refine zX ?_))
    refine yam rfl (fun _ => ?_) (fun h9 => absurd h9 (by simp [hk2]))
    (repeat (first | refine zI ?_ | refine zL ?_ | refine zC ?_ | refine yag ?_ | refine yaf ?_ | refine zR ?_ | refine zD ?_ | refine zK ?_ | refine zB ?_ | refine zA ?_ | refine zS ?_ | refine zU ?_ | refine zV ?_ | refine zF ?_ | with_reducible refine yab ?_ | with_reducible refine yad ?_ | refine yaa ?_ | refine yac ?_ | refine yae ?_ | refine zT ?_ | refine zE ?_ | refine zX ?_ | refine yao rfl rfl rfl rfl ?_ | refine ybm tok rfl rfl rfl (by omega) (yej ht1) rfl rfl ?_))
    refine yar ?_
    exact ⟨_, rfl, yav _, yap (yai rfl yan)⟩
  rw [if_neg (show ¬ (pwT s t).k = 2 from hk2)] at hp
  by_cases hp1 : (pwT s t).w = [40]
  · rw [if_pos hp1] at hp
    have hc : yeu (pwT s t).w = 0 := by rw [hp1]; exact const_paren.1
    have hag : aggO (pwT s t).w = 0 := by rw [hp1]; exact const_paren.2.1
    rcases ybz hp with ⟨x, r2, h1, h2⟩ | ⟨c, r2, h1, rfl⟩
    · have sp1 := ydo _ _ _ _ h1
      obtain ⟨a1, g1, k1, rfl, e1⟩ := ydi sp1.1 (by omega)
      have c1 := rf_ok (ih.choice (a + 1) pl _ (by omega) h1) k1
      have b1 := sp1.2.1
      rw [e1] at b1
      simp only [List.length_map, NT.had, List.length_drop] at b1
      rcases yfk h2 with ⟨t', r3, ht', htw, h5⟩ | ⟨hne, rfl⟩
      · obtain ⟨k3, ⟨t', _, hd2, rfl⟩, rfl⟩ := cons_rf ht'
        simp only [Option.some.injEq] at h5
        subst h5
        have hw2 : rfW s ts a1 0 = [41] := by rw [rfW_cons hd2]; exact htw
        refine yes (show a1 + 1 ≤ ts.length by omega) ?_
        refine yaz tok Tryz.func111 rfl rfl Tryz.ntmps111 Tryz.results111 rfl (ydw rfl) ?_
        show A _ _ _ _ (S _ _)
        (repeat (first | refine zI ?_ | refine zL ?_ | refine zC ?_ | refine yag ?_ | refine yaf ?_ | refine zR ?_ | refine zD ?_ | refine zK ?_ | refine zB ?_ | refine zA ?_ | refine zS ?_ | refine zU ?_ | refine zV ?_ | refine zF ?_ | with_reducible refine yab ?_ | with_reducible refine yad ?_ | refine yaa ?_ | refine yac ?_ | refine yae ?_ | refine zT ?_ | refine zE ?_ | refine zX ?_ | refine yaw (yau (args := []) rfl rfl rfl rfl rfl (ycl h)) rfl rfl ?_))
        rw [hw]
        (repeat (first | refine zI ?_ | refine zL ?_ | refine zC ?_ | refine yag ?_ | refine yaf ?_ | refine zR ?_ | refine zD ?_ | refine zK ?_ | refine zB ?_ | refine zA ?_ | refine zS ?_ | refine zU ?_ | refine zV ?_ | refine zF ?_ | with_reducible refine yab ?_ | with_reducible refine yad ?_ | refine yaa ?_ | refine yac ?_ | refine yae ?_ | refine zT ?_ | refine zE ?_ | refine zX ?_ | refine yaw (yau (args := []) rfl rfl rfl rfl rfl yfd) rfl rfl ?_))
        rw [hk]
        (repeat (first | refine zI ?_ | refine zL ?_ | refine zC ?_ | refine yag ?_ | refine yaf ?_ | refine zR ?_ | refine zD ?_ | refine zK ?_ | refine zB ?_ | refine zA ?_ | refine zS ?_ | refine zU ?_ | refine zV ?_ | refine zF ?_ | with_reducible refine yab ?_ | with_reducible refine yad ?_ | refine yaa ?_ | refine yac ?_ | refine yae ?_ | refine zT ?_ | refine zE ?_ | refine zX ?_))
        refine yam rfl (fun h9 => absurd h9 (by simp; omega)) (fun _ => ?_)
        (repeat (first | refine zI ?_ | refine zL ?_ | refine zC ?_ | refine yag ?_ | refine yaf ?_ | refine zR ?_ | refine zD ?_ | refine zK ?_ | refine zB ?_ | refine zA ?_ | refine zS ?_ | refine zU ?_ | refine zV ?_ | refine zF ?_ | with_reducible refine yab ?_ | with_reducible refine yad ?_ | refine yaa ?_ | refine yac ?_ | refine yae ?_ | refine zT ?_ | refine zE ?_ | refine zX ?_ | refine yak rfl rfl (yfn (yfp (pwT s t).w) hc) rfl rfl ?_ | refine yak rfl rfl (yfn (yci (pwT s t).w) hag) rfl rfl ?_ | refine ybl 1001 (yce h ha (w := [40]) (by rw [hw]; exact hp1) (by simp) hb) rfl rfl rfl rfl rfl rfl rfl rfl rfl rfl rfl rfl ?_ | refine ybl 1001 (c1) rfl rfl rfl rfl rfl rfl rfl rfl rfl rfl rfl rfl ?_ | refine ybl 1001 (want_rf_yes h k1 (w := [41]) hw2 (by simp) hb) rfl rfl rfl rfl rfl rfl rfl rfl rfl rfl rfl rfl ?_))
        refine yar ?_
        exact ⟨_, rfl, yav _, yap (yai rfl yan)⟩
      · have hw2 : rfW s ts a1 0 ≠ [41] := by rw [ycc]; exact want_no (by simp) hne
        refine ycz (x := x) k1 (by omega) k1 (by omega) ?_
        refine yaz tok Tryz.func111 rfl rfl Tryz.ntmps111 Tryz.results111 rfl (ydw rfl) ?_
        show A _ _ _ _ (S _ _)
        (repeat (first | refine zI ?_ | refine zL ?_ | refine zC ?_ | refine yag ?_ | refine yaf ?_ | refine zR ?_ | refine zD ?_ | refine zK ?_ | refine zB ?_ | refine zA ?_ | refine zS ?_ | refine zU ?_ | refine zV ?_ | refine zF ?_ | with_reducible refine yab ?_ | with_reducible refine yad ?_ | refine yaa ?_ | refine yac ?_ | refine yae ?_ | refine zT ?_ | refine zE ?_ | refine zX ?_ | refine yaw (yau (args := []) rfl rfl rfl rfl rfl (ycl h)) rfl rfl ?_))
        rw [hw]
        (repeat (first | refine zI ?_ | refine zL ?_ | refine zC ?_ | refine yag ?_ | refine yaf ?_ | refine zR ?_ | refine zD ?_ | refine zK ?_ | refine zB ?_ | refine zA ?_ | refine zS ?_ | refine zU ?_ | refine zV ?_ | refine zF ?_ | with_reducible refine yab ?_ | with_reducible refine yad ?_ | refine yaa ?_ | refine yac ?_ | refine yae ?_ | refine zT ?_ | refine zE ?_ | refine zX ?_ | refine yaw (yau (args := []) rfl rfl rfl rfl rfl yfd) rfl rfl ?_))
        rw [hk]
        (repeat (first | refine zI ?_ | refine zL ?_ | refine zC ?_ | refine yag ?_ | refine yaf ?_ | refine zR ?_ | refine zD ?_ | refine zK ?_ | refine zB ?_ | refine zA ?_ | refine zS ?_ | refine zU ?_ | refine zV ?_ | refine zF ?_ | with_reducible refine yab ?_ | with_reducible refine yad ?_ | refine yaa ?_ | refine yac ?_ | refine yae ?_ | refine zT ?_ | refine zE ?_ | refine zX ?_))
        refine yam rfl (fun h9 => absurd h9 (by simp; omega)) (fun _ => ?_)
        (repeat (first | refine zI ?_ | refine zL ?_ | refine zC ?_ | refine yag ?_ | refine yaf ?_ | refine zR ?_ | refine zD ?_ | refine zK ?_ | refine zB ?_ | refine zA ?_ | refine zS ?_ | refine zU ?_ | refine zV ?_ | refine zF ?_ | with_reducible refine yab ?_ | with_reducible refine yad ?_ | refine yaa ?_ | refine yac ?_ | refine yae ?_ | refine zT ?_ | refine zE ?_ | refine zX ?_ | refine yak rfl rfl (yfn (yfp (pwT s t).w) hc) rfl rfl ?_ | refine yak rfl rfl (yfn (yci (pwT s t).w) hag) rfl rfl ?_ | refine ybl 1001 (yce h ha (w := [40]) (by rw [hw]; exact hp1) (by simp) hb) rfl rfl rfl rfl rfl rfl rfl rfl rfl rfl rfl rfl ?_ | refine ybl 1001 (c1) rfl rfl rfl rfl rfl rfl rfl rfl rfl rfl rfl rfl ?_ | refine ybl 1001 (want_rf_no h k1 (w := [41]) hw2) rfl rfl rfl rfl rfl rfl rfl rfl rfl rfl rfl rfl ?_))
        refine yar ?_
        exact ⟨_, rfl, yav _, yap (yai rfl yan)⟩
    · have sp1 := ydo _ _ _ _ h1
      have hc0 := bad_ne sp1
      obtain ⟨a1, g1, k1, rfl, e1⟩ := ydi sp1.1 (by omega)
      obtain ⟨x, a2, q1, q2, q3, c1⟩ := rf_bad (ih.choice (a + 1) pl _ (by omega) h1) k1
      refine ycz (x := x) k1 (by omega) q2 (by omega) ?_
      refine yaz tok Tryz.func111 rfl rfl Tryz.ntmps111 Tryz.results111 rfl (ydw rfl) ?_
      show A _ _ _ _ (S _ _)
      (repeat (first | refine zI ?_ | refine zL ?_ | refine zC ?_ | refine yag ?_ | refine yaf ?_ | refine zR ?_ | refine zD ?_ | refine zK ?_ | refine zB ?_ | refine zA ?_ | refine zS ?_ | refine zU ?_ | refine zV ?_ | refine zF ?_ | with_reducible refine yab ?_ | with_reducible refine yad ?_ | refine yaa ?_ | refine yac ?_ | refine yae ?_ | refine zT ?_ | refine zE ?_ | refine zX ?_ | refine yaw (yau (args := []) rfl rfl rfl rfl rfl (ycl h)) rfl rfl ?_))
      rw [hw]
      (repeat (first | refine zI ?_ | refine zL ?_ | refine zC ?_ | refine yag ?_ | refine yaf ?_ | refine zR ?_ | refine zD ?_ | refine zK ?_ | refine zB ?_ | refine zA ?_ | refine zS ?_ | refine zU ?_ | refine zV ?_ | refine zF ?_ | with_reducible refine yab ?_ | with_reducible refine yad ?_ | refine yaa ?_ | refine yac ?_ | refine yae ?_ | refine zT ?_ | refine zE ?_ | refine zX ?_ | refine yaw (yau (args := []) rfl rfl rfl rfl rfl yfd) rfl rfl ?_))
      rw [hk]
      (repeat (first | refine zI ?_ | refine zL ?_ | refine zC ?_ | refine yag ?_ | refine yaf ?_ | refine zR ?_ | refine zD ?_ | refine zK ?_ | refine zB ?_ | refine zA ?_ | refine zS ?_ | refine zU ?_ | refine zV ?_ | refine zF ?_ | with_reducible refine yab ?_ | with_reducible refine yad ?_ | refine yaa ?_ | refine yac ?_ | refine yae ?_ | refine zT ?_ | refine zE ?_ | refine zX ?_))
      refine yam rfl (fun h9 => absurd h9 (by simp; omega)) (fun _ => ?_)
      (repeat (first | refine zI ?_ | refine zL ?_ | refine zC ?_ | refine yag ?_ | refine yaf ?_ | refine zR ?_ | refine zD ?_ | refine zK ?_ | refine zB ?_ | refine zA ?_ | refine zS ?_ | refine zU ?_ | refine zV ?_ | refine zF ?_ | with_reducible refine yab ?_ | with_reducible refine yad ?_ | refine yaa ?_ | refine yac ?_ | refine yae ?_ | refine zT ?_ | refine zE ?_ | refine zX ?_ | refine yak rfl rfl (yfn (yfp (pwT s t).w) hc) rfl rfl ?_ | refine yak rfl rfl (yfn (yci (pwT s t).w) hag) rfl rfl ?_ | refine ybl 1001 (yce h ha (w := [40]) (by rw [hw]; exact hp1) (by simp) hb) rfl rfl rfl rfl rfl rfl rfl rfl rfl rfl rfl rfl ?_ | refine ybl 1001 (c1) rfl rfl rfl rfl rfl rfl rfl rfl rfl rfl rfl rfl ?_ | refine ybl 1001 (want_rf_dead h (w := [41]) (by simp) hc0) rfl rfl rfl rfl rfl rfl rfl rfl rfl rfl rfl rfl ?_))
      refine yar ?_
      exact ⟨_, rfl, yav _, yap (yai rfl yan)⟩
  rw [if_neg hp1] at hp
  by_cases hp2 : (pwT s t).w = [113]
  · rw [if_pos hp2] at hp
    have hc : yeu (pwT s t).w = 0 := by rw [hp2]; exact const_paren.2.2.1
    have hag : aggO (pwT s t).w = 0 := by rw [hp2]; exact const_paren.2.2.2
    simp only [Option.some.injEq] at hp
    have ha1 : a + 1 ≤ ts.length := by omega
    by_cases hq1 : ybg ((ts.drop (a + 1)).map (pwT s)) = [46]
    · have hlt2 := head_lt hq1 (by simp)
      by_cases hq2 : fieldO (ybg ((ts.drop (a + 2)).map (pwT s))) = 0
      · have e : nearR nmW names ((ts.drop (a + 1)).map (pwT s)) = varR nmW names 12 ((ts.drop (a + 2)).map (pwT s)) := by rw [nearR, if_pos hq1, tail_rf, if_pos hq2]
        rw [e] at hp
        cases res with
        | ok x rest =>
          obtain ⟨t2, r2, i, hts, hw2, hi, rfl, rfl⟩ := var_ok hp
          have hlt3 : a + 2 < ts.length := by
            rcases Nat.lt_or_ge (a + 2) ts.length with h' | h'
            · exact h'
            · rw [List.drop_eq_nil_of_le h'] at hts; cases hts
          obtain ⟨t3, _, hd3⟩ := drop_here hlt3
          rw [hd3] at hts
          simp only [List.cons.injEq] at hts
          obtain ⟨rfl, rfl⟩ := hts
          refine yes (show a + 3 ≤ ts.length by omega) ?_
          refine yaz tok Tryz.func111 rfl rfl Tryz.ntmps111 Tryz.results111 rfl (ydw rfl) ?_
          show A _ _ _ _ (S _ _)
          (repeat (first | refine zI ?_ | refine zL ?_ | refine zC ?_ | refine yag ?_ | refine yaf ?_ | refine zR ?_ | refine zD ?_ | refine zK ?_ | refine zB ?_ | refine zA ?_ | refine zS ?_ | refine zU ?_ | refine zV ?_ | refine zF ?_ | with_reducible refine yab ?_ | with_reducible refine yad ?_ | refine yaa ?_ | refine yac ?_ | refine yae ?_ | refine zT ?_ | refine zE ?_ | refine zX ?_ | refine yaw (yau (args := []) rfl rfl rfl rfl rfl (ycl h)) rfl rfl ?_))
          rw [hw]
          (repeat (first | refine zI ?_ | refine zL ?_ | refine zC ?_ | refine yag ?_ | refine yaf ?_ | refine zR ?_ | refine zD ?_ | refine zK ?_ | refine zB ?_ | refine zA ?_ | refine zS ?_ | refine zU ?_ | refine zV ?_ | refine zF ?_ | with_reducible refine yab ?_ | with_reducible refine yad ?_ | refine yaa ?_ | refine yac ?_ | refine yae ?_ | refine zT ?_ | refine zE ?_ | refine zX ?_ | refine yaw (yau (args := []) rfl rfl rfl rfl rfl yfd) rfl rfl ?_))
          rw [hk]
          (repeat (first | refine zI ?_ | refine zL ?_ | refine zC ?_ | refine yag ?_ | refine yaf ?_ | refine zR ?_ | refine zD ?_ | refine zK ?_ | refine zB ?_ | refine zA ?_ | refine zS ?_ | refine zU ?_ | refine zV ?_ | refine zF ?_ | with_reducible refine yab ?_ | with_reducible refine yad ?_ | refine yaa ?_ | refine yac ?_ | refine yae ?_ | refine zT ?_ | refine zE ?_ | refine zX ?_))
          refine yam rfl (fun h9 => absurd h9 (by simp; omega)) (fun _ => ?_)
          (repeat (first | refine zI ?_ | refine zL ?_ | refine zC ?_ | refine yag ?_ | refine yaf ?_ | refine zR ?_ | refine zD ?_ | refine zK ?_ | refine zB ?_ | refine zA ?_ | refine zS ?_ | refine zU ?_ | refine zV ?_ | refine zF ?_ | with_reducible refine yab ?_ | with_reducible refine yad ?_ | refine yaa ?_ | refine yac ?_ | refine yae ?_ | refine zT ?_ | refine zE ?_ | refine zX ?_ | refine yak rfl rfl (yfn (yfp (pwT s t).w) hc) rfl rfl ?_ | refine yak rfl rfl (yfn (yci (pwT s t).w) hag) rfl rfl ?_ | refine ybl 1001 (ybs h (w := [40]) (by rw [hw]; exact hp1)) rfl rfl rfl rfl rfl rfl rfl rfl rfl rfl rfl rfl ?_ | refine ybl 1001 (yce h ha (w := [113]) (by rw [hw]; exact hp2) (by simp) hb) rfl rfl rfl rfl rfl rfl rfl rfl rfl rfl rfl rfl ?_ | refine ybl 1001 (yce h ha1 (w := [46]) (by rw [ycc]; exact hq1) (by simp) hb) rfl rfl rfl rfl rfl rfl rfl rfl rfl rfl rfl rfl ?_))
          (repeat (first | refine zI ?_ | refine zL ?_ | refine zC ?_ | refine yag ?_ | refine yaf ?_ | refine zR ?_ | refine zD ?_ | refine zK ?_ | refine zB ?_ | refine zA ?_ | refine zS ?_ | refine zU ?_ | refine zV ?_ | refine zF ?_ | with_reducible refine yab ?_ | with_reducible refine yad ?_ | refine yaa ?_ | refine yac ?_ | refine yae ?_ | refine zT ?_ | refine zE ?_ | refine zX ?_ | refine yaw (yau (args := []) rfl rfl rfl rfl rfl (ycl h)) rfl rfl ?_))
          rw [ycc]
          (repeat (first | refine zI ?_ | refine zL ?_ | refine zC ?_ | refine yag ?_ | refine yaf ?_ | refine zR ?_ | refine zD ?_ | refine zK ?_ | refine zB ?_ | refine zA ?_ | refine zS ?_ | refine zU ?_ | refine zV ?_ | refine zF ?_ | with_reducible refine yab ?_ | with_reducible refine yad ?_ | refine yaa ?_ | refine yac ?_ | refine yae ?_ | refine zT ?_ | refine zE ?_ | refine zX ?_ | refine yak rfl rfl (field_rf (ybg ((ts.drop (a + 2)).map (pwT s)))) rfl rfl ?_))
          rw [hq2]
          (repeat (first | refine zI ?_ | refine zL ?_ | refine zC ?_ | refine yag ?_ | refine yaf ?_ | refine zR ?_ | refine zD ?_ | refine zK ?_ | refine zB ?_ | refine zA ?_ | refine zS ?_ | refine zU ?_ | refine zV ?_ | refine zF ?_ | with_reducible refine yab ?_ | with_reducible refine yad ?_ | refine yaa ?_ | refine yac ?_ | refine yae ?_ | refine zT ?_ | refine zE ?_ | refine zX ?_ | refine ybl 1001 (rvar_ok (op := 12) h hb hl hs hd3 hw2 hi) rfl rfl rfl rfl rfl rfl rfl rfl rfl rfl rfl rfl ?_))
          refine yar ?_
          exact ⟨_, rfl, yav _, yap (yai rfl yan)⟩
        | bad c rest =>
          have hrest := var_rest hp
          subst hrest
          refine ycz (x := []) (show a + 2 ≤ ts.length by omega) (show a ≤ a + 2 by omega) (by omega) (by simp only [List.length_nil]; omega) ?_
          refine yaz tok Tryz.func111 rfl rfl Tryz.ntmps111 Tryz.results111 rfl (ydw rfl) ?_
          show A _ _ _ _ (S _ _)
          (repeat (first | refine zI ?_ | refine zL ?_ | refine zC ?_ | refine yag ?_ | refine yaf ?_ | refine zR ?_ | refine zD ?_ | refine zK ?_ | refine zB ?_ | refine zA ?_ | refine zS ?_ | refine zU ?_ | refine zV ?_ | refine zF ?_ | with_reducible refine yab ?_ | with_reducible refine yad ?_ | refine yaa ?_ | refine yac ?_ | refine yae ?_ | refine zT ?_ | refine zE ?_ | refine zX ?_ | refine yaw (yau (args := []) rfl rfl rfl rfl rfl (ycl h)) rfl rfl ?_))
          rw [hw]
          (repeat (first | refine zI ?_ | refine zL ?_ | refine zC ?_ | refine yag ?_ | refine yaf ?_ | refine zR ?_ | refine zD ?_ | refine zK ?_ | refine zB ?_ | refine zA ?_ | refine zS ?_ | refine zU ?_ | refine zV ?_ | refine zF ?_ | with_reducible refine yab ?_ | with_reducible refine yad ?_ | refine yaa ?_ | refine yac ?_ | refine yae ?_ | refine zT ?_ | refine zE ?_ | refine zX ?_ | refine yaw (yau (args := []) rfl rfl rfl rfl rfl yfd) rfl rfl ?_))
          rw [hk]
          (repeat (first | refine zI ?_ | refine zL ?_ | refine zC ?_ | refine yag ?_ | refine yaf ?_ | refine zR ?_ | refine zD ?_ | refine zK ?_ | refine zB ?_ | refine zA ?_ | refine zS ?_ | refine zU ?_ | refine zV ?_ | refine zF ?_ | with_reducible refine yab ?_ | with_reducible refine yad ?_ | refine yaa ?_ | refine yac ?_ | refine yae ?_ | refine zT ?_ | refine zE ?_ | refine zX ?_))
          refine yam rfl (fun h9 => absurd h9 (by simp; omega)) (fun _ => ?_)
          (repeat (first | refine zI ?_ | refine zL ?_ | refine zC ?_ | refine yag ?_ | refine yaf ?_ | refine zR ?_ | refine zD ?_ | refine zK ?_ | refine zB ?_ | refine zA ?_ | refine zS ?_ | refine zU ?_ | refine zV ?_ | refine zF ?_ | with_reducible refine yab ?_ | with_reducible refine yad ?_ | refine yaa ?_ | refine yac ?_ | refine yae ?_ | refine zT ?_ | refine zE ?_ | refine zX ?_ | refine yak rfl rfl (yfn (yfp (pwT s t).w) hc) rfl rfl ?_ | refine yak rfl rfl (yfn (yci (pwT s t).w) hag) rfl rfl ?_ | refine ybl 1001 (ybs h (w := [40]) (by rw [hw]; exact hp1)) rfl rfl rfl rfl rfl rfl rfl rfl rfl rfl rfl rfl ?_ | refine ybl 1001 (yce h ha (w := [113]) (by rw [hw]; exact hp2) (by simp) hb) rfl rfl rfl rfl rfl rfl rfl rfl rfl rfl rfl rfl ?_ | refine ybl 1001 (yce h ha1 (w := [46]) (by rw [ycc]; exact hq1) (by simp) hb) rfl rfl rfl rfl rfl rfl rfl rfl rfl rfl rfl rfl ?_))
          (repeat (first | refine zI ?_ | refine zL ?_ | refine zC ?_ | refine yag ?_ | refine yaf ?_ | refine zR ?_ | refine zD ?_ | refine zK ?_ | refine zB ?_ | refine zA ?_ | refine zS ?_ | refine zU ?_ | refine zV ?_ | refine zF ?_ | with_reducible refine yab ?_ | with_reducible refine yad ?_ | refine yaa ?_ | refine yac ?_ | refine yae ?_ | refine zT ?_ | refine zE ?_ | refine zX ?_ | refine yaw (yau (args := []) rfl rfl rfl rfl rfl (ycl h)) rfl rfl ?_))
          rw [ycc]
          (repeat (first | refine zI ?_ | refine zL ?_ | refine zC ?_ | refine yag ?_ | refine yaf ?_ | refine zR ?_ | refine zD ?_ | refine zK ?_ | refine zB ?_ | refine zA ?_ | refine zS ?_ | refine zU ?_ | refine zV ?_ | refine zF ?_ | with_reducible refine yab ?_ | with_reducible refine yad ?_ | refine yaa ?_ | refine yac ?_ | refine yae ?_ | refine zT ?_ | refine zE ?_ | refine zX ?_ | refine yak rfl rfl (field_rf (ybg ((ts.drop (a + 2)).map (pwT s)))) rfl rfl ?_))
          rw [hq2]
          (repeat (first | refine zI ?_ | refine zL ?_ | refine zC ?_ | refine yag ?_ | refine yaf ?_ | refine zR ?_ | refine zD ?_ | refine zK ?_ | refine zB ?_ | refine zA ?_ | refine zS ?_ | refine zU ?_ | refine zV ?_ | refine zF ?_ | with_reducible refine yab ?_ | with_reducible refine yad ?_ | refine yaa ?_ | refine yac ?_ | refine yae ?_ | refine zT ?_ | refine zE ?_ | refine zX ?_ | refine ybl 1001 (rvar_bad h hb (show a + 2 ≤ ts.length by omega) hl hs hp) rfl rfl rfl rfl rfl rfl rfl rfl rfl rfl rfl rfl ?_))
          refine yar ?_
          exact ⟨_, rfl, yav _, yap (yai rfl yan)⟩
      · have e : nearR nmW names ((ts.drop (a + 1)).map (pwT s)) = .ok [(fieldO (ybg ((ts.drop (a + 2)).map (pwT s))), 0)] ((ts.drop (a + 3)).map (pwT s)) := by rw [nearR, if_pos hq1, tail_rf, if_neg hq2, tail_rf]
        rw [e] at hp
        subst hp
        have hlt3 : a + 2 < ts.length := by
          rcases Nat.lt_or_ge (a + 2) ts.length with h' | h'
          · exact h'
          · rw [List.drop_eq_nil_of_le h'] at hq2; exact absurd rfl hq2
        have hpos := findL_pos (by omega) hq2
        refine yes (show a + 3 ≤ ts.length by omega) ?_
        refine yaz tok Tryz.func111 rfl rfl Tryz.ntmps111 Tryz.results111 rfl (ydw rfl) ?_
        show A _ _ _ _ (S _ _)
        (repeat (first | refine zI ?_ | refine zL ?_ | refine zC ?_ | refine yag ?_ | refine yaf ?_ | refine zR ?_ | refine zD ?_ | refine zK ?_ | refine zB ?_ | refine zA ?_ | refine zS ?_ | refine zU ?_ | refine zV ?_ | refine zF ?_ | with_reducible refine yab ?_ | with_reducible refine yad ?_ | refine yaa ?_ | refine yac ?_ | refine yae ?_ | refine zT ?_ | refine zE ?_ | refine zX ?_ | refine yaw (yau (args := []) rfl rfl rfl rfl rfl (ycl h)) rfl rfl ?_))
        rw [hw]
        (repeat (first | refine zI ?_ | refine zL ?_ | refine zC ?_ | refine yag ?_ | refine yaf ?_ | refine zR ?_ | refine zD ?_ | refine zK ?_ | refine zB ?_ | refine zA ?_ | refine zS ?_ | refine zU ?_ | refine zV ?_ | refine zF ?_ | with_reducible refine yab ?_ | with_reducible refine yad ?_ | refine yaa ?_ | refine yac ?_ | refine yae ?_ | refine zT ?_ | refine zE ?_ | refine zX ?_ | refine yaw (yau (args := []) rfl rfl rfl rfl rfl yfd) rfl rfl ?_))
        rw [hk]
        (repeat (first | refine zI ?_ | refine zL ?_ | refine zC ?_ | refine yag ?_ | refine yaf ?_ | refine zR ?_ | refine zD ?_ | refine zK ?_ | refine zB ?_ | refine zA ?_ | refine zS ?_ | refine zU ?_ | refine zV ?_ | refine zF ?_ | with_reducible refine yab ?_ | with_reducible refine yad ?_ | refine yaa ?_ | refine yac ?_ | refine yae ?_ | refine zT ?_ | refine zE ?_ | refine zX ?_))
        refine yam rfl (fun h9 => absurd h9 (by simp; omega)) (fun _ => ?_)
        (repeat (first | refine zI ?_ | refine zL ?_ | refine zC ?_ | refine yag ?_ | refine yaf ?_ | refine zR ?_ | refine zD ?_ | refine zK ?_ | refine zB ?_ | refine zA ?_ | refine zS ?_ | refine zU ?_ | refine zV ?_ | refine zF ?_ | with_reducible refine yab ?_ | with_reducible refine yad ?_ | refine yaa ?_ | refine yac ?_ | refine yae ?_ | refine zT ?_ | refine zE ?_ | refine zX ?_ | refine yak rfl rfl (yfn (yfp (pwT s t).w) hc) rfl rfl ?_ | refine yak rfl rfl (yfn (yci (pwT s t).w) hag) rfl rfl ?_ | refine ybl 1001 (ybs h (w := [40]) (by rw [hw]; exact hp1)) rfl rfl rfl rfl rfl rfl rfl rfl rfl rfl rfl rfl ?_ | refine ybl 1001 (yce h ha (w := [113]) (by rw [hw]; exact hp2) (by simp) hb) rfl rfl rfl rfl rfl rfl rfl rfl rfl rfl rfl rfl ?_ | refine ybl 1001 (yce h ha1 (w := [46]) (by rw [ycc]; exact hq1) (by simp) hb) rfl rfl rfl rfl rfl rfl rfl rfl rfl rfl rfl rfl ?_))
        (repeat (first | refine zI ?_ | refine zL ?_ | refine zC ?_ | refine yag ?_ | refine yaf ?_ | refine zR ?_ | refine zD ?_ | refine zK ?_ | refine zB ?_ | refine zA ?_ | refine zS ?_ | refine zU ?_ | refine zV ?_ | refine zF ?_ | with_reducible refine yab ?_ | with_reducible refine yad ?_ | refine yaa ?_ | refine yac ?_ | refine yae ?_ | refine zT ?_ | refine zE ?_ | refine zX ?_ | refine yaw (yau (args := []) rfl rfl rfl rfl rfl (ycl h)) rfl rfl ?_))
        rw [ycc]
        (repeat (first | refine zI ?_ | refine zL ?_ | refine zC ?_ | refine yag ?_ | refine yaf ?_ | refine zR ?_ | refine zD ?_ | refine zK ?_ | refine zB ?_ | refine zA ?_ | refine zS ?_ | refine zU ?_ | refine zV ?_ | refine zF ?_ | with_reducible refine yab ?_ | with_reducible refine yad ?_ | refine yaa ?_ | refine yac ?_ | refine yae ?_ | refine zT ?_ | refine zE ?_ | refine zX ?_ | refine yak rfl rfl (field_rf (ybg ((ts.drop (a + 2)).map (pwT s)))) rfl rfl ?_))
        (repeat (first | refine zI ?_ | refine zL ?_ | refine zC ?_ | refine yag ?_ | refine yaf ?_ | refine zR ?_ | refine zD ?_ | refine zK ?_ | refine zB ?_ | refine zA ?_ | refine zS ?_ | refine zU ?_ | refine zV ?_ | refine zF ?_ | with_reducible refine yab ?_ | with_reducible refine yad ?_ | refine yaa ?_ | refine yac ?_ | refine yae ?_ | refine zT ?_ | refine zE ?_ | refine zX ?_))
        refine yam rfl (fun _ => ?_) (fun h9 => absurd hpos (of_decide_eq_false h9))
        (repeat (first | refine zI ?_ | refine zL ?_ | refine zC ?_ | refine yag ?_ | refine yaf ?_ | refine zR ?_ | refine zD ?_ | refine zK ?_ | refine zB ?_ | refine zA ?_ | refine zS ?_ | refine zU ?_ | refine zV ?_ | refine zF ?_ | with_reducible refine yab ?_ | with_reducible refine yad ?_ | refine yaa ?_ | refine yac ?_ | refine yae ?_ | refine zT ?_ | refine zE ?_ | refine zX ?_ | refine yao rfl rfl rfl rfl ?_))
        refine yar ?_
        exact ⟨_, rfl, yav _, yap (yai rfl yan)⟩
    · have e : nearR nmW names ((ts.drop (a + 1)).map (pwT s)) = .ok [(11, 0)] ((ts.drop (a + 1)).map (pwT s)) := by rw [nearR, if_neg hq1]
      rw [e] at hp
      subst hp
      refine yes ha1 ?_
      refine yaz tok Tryz.func111 rfl rfl Tryz.ntmps111 Tryz.results111 rfl (ydw rfl) ?_
      show A _ _ _ _ (S _ _)
      (repeat (first | refine zI ?_ | refine zL ?_ | refine zC ?_ | refine yag ?_ | refine yaf ?_ | refine zR ?_ | refine zD ?_ | refine zK ?_ | refine zB ?_ | refine zA ?_ | refine zS ?_ | refine zU ?_ | refine zV ?_ | refine zF ?_ | with_reducible refine yab ?_ | with_reducible refine yad ?_ | refine yaa ?_ | refine yac ?_ | refine yae ?_ | refine zT ?_ | refine zE ?_ | refine zX ?_ | refine yaw (yau (args := []) rfl rfl rfl rfl rfl (ycl h)) rfl rfl ?_))
      rw [hw]
      (repeat (first | refine zI ?_ | refine zL ?_ | refine zC ?_ | refine yag ?_ | refine yaf ?_ | refine zR ?_ | refine zD ?_ | refine zK ?_ | refine zB ?_ | refine zA ?_ | refine zS ?_ | refine zU ?_ | refine zV ?_ | refine zF ?_ | with_reducible refine yab ?_ | with_reducible refine yad ?_ | refine yaa ?_ | refine yac ?_ | refine yae ?_ | refine zT ?_ | refine zE ?_ | refine zX ?_ | refine yaw (yau (args := []) rfl rfl rfl rfl rfl yfd) rfl rfl ?_))
      rw [hk]
      (repeat (first | refine zI ?_ | refine zL ?_ | refine zC ?_ | refine yag ?_ | refine yaf ?_ | refine zR ?_ | refine zD ?_ | refine zK ?_ | refine zB ?_ | refine zA ?_ | refine zS ?_ | refine zU ?_ | refine zV ?_ | refine zF ?_ | with_reducible refine yab ?_ | with_reducible refine yad ?_ | refine yaa ?_ | refine yac ?_ | refine yae ?_ | refine zT ?_ | refine zE ?_ | refine zX ?_))
      refine yam rfl (fun h9 => absurd h9 (by simp; omega)) (fun _ => ?_)
      (repeat (first | refine zI ?_ | refine zL ?_ | refine zC ?_ | refine yag ?_ | refine yaf ?_ | refine zR ?_ | refine zD ?_ | refine zK ?_ | refine zB ?_ | refine zA ?_ | refine zS ?_ | refine zU ?_ | refine zV ?_ | refine zF ?_ | with_reducible refine yab ?_ | with_reducible refine yad ?_ | refine yaa ?_ | refine yac ?_ | refine yae ?_ | refine zT ?_ | refine zE ?_ | refine zX ?_ | refine yak rfl rfl (yfn (yfp (pwT s t).w) hc) rfl rfl ?_ | refine yak rfl rfl (yfn (yci (pwT s t).w) hag) rfl rfl ?_ | refine ybl 1001 (ybs h (w := [40]) (by rw [hw]; exact hp1)) rfl rfl rfl rfl rfl rfl rfl rfl rfl rfl rfl rfl ?_ | refine ybl 1001 (yce h ha (w := [113]) (by rw [hw]; exact hp2) (by simp) hb) rfl rfl rfl rfl rfl rfl rfl rfl rfl rfl rfl rfl ?_ | refine ybl 1001 (ybs h (w := [46]) (by rw [ycc]; exact hq1)) rfl rfl rfl rfl rfl rfl rfl rfl rfl rfl rfl rfl ?_))
      refine yar ?_
      exact ⟨_, rfl, yav _, yap (yai rfl yan)⟩
  rw [if_neg hp2] at hp
  by_cases hc : yeu (pwT s t).w = 0
  case neg =>
    rw [if_pos hc] at hp
    simp only [Option.some.injEq] at hp
    subst hp
    have hpos := findL_pos (by omega) hc
    refine yes (show a + 1 ≤ ts.length by omega) ?_
    refine yaz tok Tryz.func111 rfl rfl Tryz.ntmps111 Tryz.results111 rfl (ydw rfl) ?_
    show A _ _ _ _ (S _ _)
    (repeat (first | refine zI ?_ | refine zL ?_ | refine zC ?_ | refine yag ?_ | refine yaf ?_ | refine zR ?_ | refine zD ?_ | refine zK ?_ | refine zB ?_ | refine zA ?_ | refine zS ?_ | refine zU ?_ | refine zV ?_ | refine zF ?_ | with_reducible refine yab ?_ | with_reducible refine yad ?_ | refine yaa ?_ | refine yac ?_ | refine yae ?_ | refine zT ?_ | refine zE ?_ | refine zX ?_ | refine yaw (yau (args := []) rfl rfl rfl rfl rfl (ycl h)) rfl rfl ?_))
    rw [hw]
    (repeat (first | refine zI ?_ | refine zL ?_ | refine zC ?_ | refine yag ?_ | refine yaf ?_ | refine zR ?_ | refine zD ?_ | refine zK ?_ | refine zB ?_ | refine zA ?_ | refine zS ?_ | refine zU ?_ | refine zV ?_ | refine zF ?_ | with_reducible refine yab ?_ | with_reducible refine yad ?_ | refine yaa ?_ | refine yac ?_ | refine yae ?_ | refine zT ?_ | refine zE ?_ | refine zX ?_ | refine yaw (yau (args := []) rfl rfl rfl rfl rfl yfd) rfl rfl ?_))
    rw [hk]
    (repeat (first | refine zI ?_ | refine zL ?_ | refine zC ?_ | refine yag ?_ | refine yaf ?_ | refine zR ?_ | refine zD ?_ | refine zK ?_ | refine zB ?_ | refine zA ?_ | refine zS ?_ | refine zU ?_ | refine zV ?_ | refine zF ?_ | with_reducible refine yab ?_ | with_reducible refine yad ?_ | refine yaa ?_ | refine yac ?_ | refine yae ?_ | refine zT ?_ | refine zE ?_ | refine zX ?_))
    refine yam rfl (fun h9 => absurd h9 (by simp; omega)) (fun _ => ?_)
    (repeat (first | refine zI ?_ | refine zL ?_ | refine zC ?_ | refine yag ?_ | refine yaf ?_ | refine zR ?_ | refine zD ?_ | refine zK ?_ | refine zB ?_ | refine zA ?_ | refine zS ?_ | refine zU ?_ | refine zV ?_ | refine zF ?_ | with_reducible refine yab ?_ | with_reducible refine yad ?_ | refine yaa ?_ | refine yac ?_ | refine yae ?_ | refine zT ?_ | refine zE ?_ | refine zX ?_ | refine yak rfl rfl (yfp (pwT s t).w) rfl rfl ?_))
    refine yam rfl (fun _ => ?_) (fun h9 => absurd hpos (of_decide_eq_false h9))
    (repeat (first | refine zI ?_ | refine zL ?_ | refine zC ?_ | refine yag ?_ | refine yaf ?_ | refine zR ?_ | refine zD ?_ | refine zK ?_ | refine zB ?_ | refine zA ?_ | refine zS ?_ | refine zU ?_ | refine zV ?_ | refine zF ?_ | with_reducible refine yab ?_ | with_reducible refine yad ?_ | refine yaa ?_ | refine yac ?_ | refine yae ?_ | refine zT ?_ | refine zE ?_ | refine zX ?_ | refine yao rfl rfl rfl rfl ?_))
    refine yar ?_
    exact ⟨_, rfl, yav _, yap (yai rfl yan)⟩
  rw [if_neg (by simp [hc])] at hp
  by_cases hag : aggO (pwT s t).w = 0
  case neg =>
    rw [if_pos hag] at hp
    have hpos := findL_pos (by omega) hag
    rcases yfk hp with ⟨t1, r1, ht1', htw, h1⟩ | ⟨hne, rfl⟩
    · obtain ⟨k3, ⟨t1, _, hd2, rfl⟩, rfl⟩ := cons_rf ht1'
      have hw1 : rfW s ts (a + 1) 0 = [40] := by rw [rfW_cons hd2]; exact htw
      rcases ybz h1 with ⟨x, r2, h2, h3⟩ | ⟨c, r2, h2, rfl⟩
      · have sp2 := ydo _ _ _ _ h2
        obtain ⟨a2, g2, k2, rfl, e2⟩ := ydi sp2.1 (by omega)
        have c1 := rf_ok (ih.choice (a + 1 + 1) pl _ (by omega) h2) k2
        have b2 := sp2.2.1
        rw [e2] at b2
        simp only [List.length_map, NT.had, List.length_drop] at b2
        have hbs : [x].flatten.length ≤ 1000000 := by simp only [List.flatten_cons, List.flatten_nil, List.length_append, List.length_nil]; omega
        rcases yfk h3 with ⟨t3, r3, ht3, htw2, h5⟩ | ⟨hne, rfl⟩
        · obtain ⟨k4, ⟨t3, _, hd3, rfl⟩, rfl⟩ := cons_rf ht3
          simp only [Option.some.injEq] at h5
          subst h5
          have hw2 : rfW s ts a2 0 = [41] := by rw [rfW_cons hd3]; exact htw2
          have ef : (aggO (pwT s t).w, (0 : Int)) :: [x].flatten = (aggO (pwT s t).w, 0) :: x := by simp
          refine yes (show a2 + 1 ≤ ts.length by omega) ?_
          rw [← ef]
          refine yaz tok Tryz.func111 rfl rfl Tryz.ntmps111 Tryz.results111 rfl (ydw rfl) ?_
          show A _ _ _ _ (S _ _)
          (repeat (first | refine zI ?_ | refine zL ?_ | refine zC ?_ | refine yag ?_ | refine yaf ?_ | refine zR ?_ | refine zD ?_ | refine zK ?_ | refine zB ?_ | refine zA ?_ | refine zS ?_ | refine zU ?_ | refine zV ?_ | refine zF ?_ | with_reducible refine yab ?_ | with_reducible refine yad ?_ | refine yaa ?_ | refine yac ?_ | refine yae ?_ | refine zT ?_ | refine zE ?_ | refine zX ?_ | refine yaw (yau (args := []) rfl rfl rfl rfl rfl (ycl h)) rfl rfl ?_))
          rw [hw]
          (repeat (first | refine zI ?_ | refine zL ?_ | refine zC ?_ | refine yag ?_ | refine yaf ?_ | refine zR ?_ | refine zD ?_ | refine zK ?_ | refine zB ?_ | refine zA ?_ | refine zS ?_ | refine zU ?_ | refine zV ?_ | refine zF ?_ | with_reducible refine yab ?_ | with_reducible refine yad ?_ | refine yaa ?_ | refine yac ?_ | refine yae ?_ | refine zT ?_ | refine zE ?_ | refine zX ?_ | refine yaw (yau (args := []) rfl rfl rfl rfl rfl yfd) rfl rfl ?_))
          rw [hk]
          (repeat (first | refine zI ?_ | refine zL ?_ | refine zC ?_ | refine yag ?_ | refine yaf ?_ | refine zR ?_ | refine zD ?_ | refine zK ?_ | refine zB ?_ | refine zA ?_ | refine zS ?_ | refine zU ?_ | refine zV ?_ | refine zF ?_ | with_reducible refine yab ?_ | with_reducible refine yad ?_ | refine yaa ?_ | refine yac ?_ | refine yae ?_ | refine zT ?_ | refine zE ?_ | refine zX ?_))
          refine yam rfl (fun h9 => absurd h9 (by simp; omega)) (fun _ => ?_)
          (repeat (first | refine zI ?_ | refine zL ?_ | refine zC ?_ | refine yag ?_ | refine yaf ?_ | refine zR ?_ | refine zD ?_ | refine zK ?_ | refine zB ?_ | refine zA ?_ | refine zS ?_ | refine zU ?_ | refine zV ?_ | refine zF ?_ | with_reducible refine yab ?_ | with_reducible refine yad ?_ | refine yaa ?_ | refine yac ?_ | refine yae ?_ | refine zT ?_ | refine zE ?_ | refine zX ?_ | refine yak rfl rfl (yfn (yfp (pwT s t).w) hc) rfl rfl ?_ | refine yak rfl rfl (yci (pwT s t).w) rfl rfl ?_))
          refine yam rfl (fun _ => ?_) (fun h9 => absurd hpos (of_decide_eq_false h9))
          (repeat (first | refine zI ?_ | refine zL ?_ | refine zC ?_ | refine yag ?_ | refine yaf ?_ | refine zR ?_ | refine zD ?_ | refine zK ?_ | refine zB ?_ | refine zA ?_ | refine zS ?_ | refine zU ?_ | refine zV ?_ | refine zF ?_ | with_reducible refine yab ?_ | with_reducible refine yad ?_ | refine yaa ?_ | refine yac ?_ | refine yae ?_ | refine zT ?_ | refine zE ?_ | refine zX ?_ | refine yao rfl rfl rfl rfl ?_ | refine ybl 1001 (want_rf_yes h (show a + 1 ≤ ts.length by omega) (w := [40]) hw1 (by simp) hb) rfl rfl rfl rfl rfl rfl rfl rfl rfl rfl rfl rfl ?_ | refine ybl 1001 (c1) rfl rfl rfl rfl rfl rfl rfl rfl rfl rfl rfl rfl ?_ | refine ybl 1001 (want_rf_yes h k2 (w := [41]) hw2 (by simp) hb) rfl rfl rfl rfl rfl rfl rfl rfl rfl rfl rfl rfl ?_ | refine yak rfl rfl (ybx (aggO (pwT s t).w) [x] (by simp) hbs) rfl rfl ?_))
          refine yar ?_
          exact ⟨_, rfl, yav _, yap (yai rfl yan)⟩
        · have hw2 : rfW s ts a2 0 ≠ [41] := by rw [ycc]; exact want_no (by simp) hne
          refine ycz (x := (aggO (pwT s t).w, 0) :: [x].flatten) k2 (by omega) k2 (by simp only [List.flatten_cons, List.flatten_nil, List.length_append, List.length_nil, List.length_cons]; omega) ?_
          refine yaz tok Tryz.func111 rfl rfl Tryz.ntmps111 Tryz.results111 rfl (ydw rfl) ?_
          show A _ _ _ _ (S _ _)
          (repeat (first | refine zI ?_ | refine zL ?_ | refine zC ?_ | refine yag ?_ | refine yaf ?_ | refine zR ?_ | refine zD ?_ | refine zK ?_ | refine zB ?_ | refine zA ?_ | refine zS ?_ | refine zU ?_ | refine zV ?_ | refine zF ?_ | with_reducible refine yab ?_ | with_reducible refine yad ?_ | refine yaa ?_ | refine yac ?_ | refine yae ?_ | refine zT ?_ | refine zE ?_ | refine zX ?_ | refine yaw (yau (args := []) rfl rfl rfl rfl rfl (ycl h)) rfl rfl ?_))
          rw [hw]
          (repeat (first | refine zI ?_ | refine zL ?_ | refine zC ?_ | refine yag ?_ | refine yaf ?_ | refine zR ?_ | refine zD ?_ | refine zK ?_ | refine zB ?_ | refine zA ?_ | refine zS ?_ | refine zU ?_ | refine zV ?_ | refine zF ?_ | with_reducible refine yab ?_ | with_reducible refine yad ?_ | refine yaa ?_ | refine yac ?_ | refine yae ?_ | refine zT ?_ | refine zE ?_ | refine zX ?_ | refine yaw (yau (args := []) rfl rfl rfl rfl rfl yfd) rfl rfl ?_))
          rw [hk]
          (repeat (first | refine zI ?_ | refine zL ?_ | refine zC ?_ | refine yag ?_ | refine yaf ?_ | refine zR ?_ | refine zD ?_ | refine zK ?_ | refine zB ?_ | refine zA ?_ | refine zS ?_ | refine zU ?_ | refine zV ?_ | refine zF ?_ | with_reducible refine yab ?_ | with_reducible refine yad ?_ | refine yaa ?_ | refine yac ?_ | refine yae ?_ | refine zT ?_ | refine zE ?_ | refine zX ?_))
          refine yam rfl (fun h9 => absurd h9 (by simp; omega)) (fun _ => ?_)
          (repeat (first | refine zI ?_ | refine zL ?_ | refine zC ?_ | refine yag ?_ | refine yaf ?_ | refine zR ?_ | refine zD ?_ | refine zK ?_ | refine zB ?_ | refine zA ?_ | refine zS ?_ | refine zU ?_ | refine zV ?_ | refine zF ?_ | with_reducible refine yab ?_ | with_reducible refine yad ?_ | refine yaa ?_ | refine yac ?_ | refine yae ?_ | refine zT ?_ | refine zE ?_ | refine zX ?_ | refine yak rfl rfl (yfn (yfp (pwT s t).w) hc) rfl rfl ?_ | refine yak rfl rfl (yci (pwT s t).w) rfl rfl ?_))
          refine yam rfl (fun _ => ?_) (fun h9 => absurd hpos (of_decide_eq_false h9))
          (repeat (first | refine zI ?_ | refine zL ?_ | refine zC ?_ | refine yag ?_ | refine yaf ?_ | refine zR ?_ | refine zD ?_ | refine zK ?_ | refine zB ?_ | refine zA ?_ | refine zS ?_ | refine zU ?_ | refine zV ?_ | refine zF ?_ | with_reducible refine yab ?_ | with_reducible refine yad ?_ | refine yaa ?_ | refine yac ?_ | refine yae ?_ | refine zT ?_ | refine zE ?_ | refine zX ?_ | refine yao rfl rfl rfl rfl ?_ | refine ybl 1001 (want_rf_yes h (show a + 1 ≤ ts.length by omega) (w := [40]) hw1 (by simp) hb) rfl rfl rfl rfl rfl rfl rfl rfl rfl rfl rfl rfl ?_ | refine ybl 1001 (c1) rfl rfl rfl rfl rfl rfl rfl rfl rfl rfl rfl rfl ?_ | refine ybl 1001 (want_rf_no h k2 (w := [41]) hw2) rfl rfl rfl rfl rfl rfl rfl rfl rfl rfl rfl rfl ?_ | refine yak rfl rfl (ybx (aggO (pwT s t).w) [x] (by simp) hbs) rfl rfl ?_))
          refine yar ?_
          exact ⟨_, rfl, yav _, yap (yai rfl yan)⟩
      · have sp2 := ydo _ _ _ _ h2
        have hc0 := bad_ne sp2
        obtain ⟨a2, g2, k2, rfl, e2⟩ := ydi sp2.1 (by omega)
        obtain ⟨x, a3, q1, q2, q3, c1⟩ := rf_bad (ih.choice (a + 1 + 1) pl _ (by omega) h2) k2
        have hbs : [x].flatten.length ≤ 1000000 := by simp only [List.flatten_cons, List.flatten_nil, List.length_append, List.length_nil]; omega
        refine ycz (x := (aggO (pwT s t).w, 0) :: [x].flatten) k2 (by omega) q2 (by simp only [List.flatten_cons, List.flatten_nil, List.length_append, List.length_nil, List.length_cons]; omega) ?_
        refine yaz tok Tryz.func111 rfl rfl Tryz.ntmps111 Tryz.results111 rfl (ydw rfl) ?_
        show A _ _ _ _ (S _ _)
        (repeat (first | refine zI ?_ | refine zL ?_ | refine zC ?_ | refine yag ?_ | refine yaf ?_ | refine zR ?_ | refine zD ?_ | refine zK ?_ | refine zB ?_ | refine zA ?_ | refine zS ?_ | refine zU ?_ | refine zV ?_ | refine zF ?_ | with_reducible refine yab ?_ | with_reducible refine yad ?_ | refine yaa ?_ | refine yac ?_ | refine yae ?_ | refine zT ?_ | refine zE ?_ | refine zX ?_ | refine yaw (yau (args := []) rfl rfl rfl rfl rfl (ycl h)) rfl rfl ?_))
        rw [hw]
        (repeat (first | refine zI ?_ | refine zL ?_ | refine zC ?_ | refine yag ?_ | refine yaf ?_ | refine zR ?_ | refine zD ?_ | refine zK ?_ | refine zB ?_ | refine zA ?_ | refine zS ?_ | refine zU ?_ | refine zV ?_ | refine zF ?_ | with_reducible refine yab ?_ | with_reducible refine yad ?_ | refine yaa ?_ | refine yac ?_ | refine yae ?_ | refine zT ?_ | refine zE ?_ | refine zX ?_ | refine yaw (yau (args := []) rfl rfl rfl rfl rfl yfd) rfl rfl ?_))
        rw [hk]
        (repeat (first | refine zI ?_ | refine zL ?_ | refine zC ?_ | refine yag ?_ | refine yaf ?_ | refine zR ?_ | refine zD ?_ | refine zK ?_ | refine zB ?_ | refine zA ?_ | refine zS ?_ | refine zU ?_ | refine zV ?_ | refine zF ?_ | with_reducible refine yab ?_ | with_reducible refine yad ?_ | refine yaa ?_ | refine yac ?_ | refine yae ?_ | refine zT ?_ | refine zE ?_ | refine zX ?_))
        refine yam rfl (fun h9 => absurd h9 (by simp; omega)) (fun _ => ?_)
        (repeat (first | refine zI ?_ | refine zL ?_ | refine zC ?_ | refine yag ?_ | refine yaf ?_ | refine zR ?_ | refine zD ?_ | refine zK ?_ | refine zB ?_ | refine zA ?_ | refine zS ?_ | refine zU ?_ | refine zV ?_ | refine zF ?_ | with_reducible refine yab ?_ | with_reducible refine yad ?_ | refine yaa ?_ | refine yac ?_ | refine yae ?_ | refine zT ?_ | refine zE ?_ | refine zX ?_ | refine yak rfl rfl (yfn (yfp (pwT s t).w) hc) rfl rfl ?_ | refine yak rfl rfl (yci (pwT s t).w) rfl rfl ?_))
        refine yam rfl (fun _ => ?_) (fun h9 => absurd hpos (of_decide_eq_false h9))
        (repeat (first | refine zI ?_ | refine zL ?_ | refine zC ?_ | refine yag ?_ | refine yaf ?_ | refine zR ?_ | refine zD ?_ | refine zK ?_ | refine zB ?_ | refine zA ?_ | refine zS ?_ | refine zU ?_ | refine zV ?_ | refine zF ?_ | with_reducible refine yab ?_ | with_reducible refine yad ?_ | refine yaa ?_ | refine yac ?_ | refine yae ?_ | refine zT ?_ | refine zE ?_ | refine zX ?_ | refine yao rfl rfl rfl rfl ?_ | refine ybl 1001 (want_rf_yes h (show a + 1 ≤ ts.length by omega) (w := [40]) hw1 (by simp) hb) rfl rfl rfl rfl rfl rfl rfl rfl rfl rfl rfl rfl ?_ | refine ybl 1001 (c1) rfl rfl rfl rfl rfl rfl rfl rfl rfl rfl rfl rfl ?_ | refine ybl 1001 (want_rf_dead h (w := [41]) (by simp) hc0) rfl rfl rfl rfl rfl rfl rfl rfl rfl rfl rfl rfl ?_ | refine yak rfl rfl (ybx (aggO (pwT s t).w) [x] (by simp) hbs) rfl rfl ?_))
        refine yar ?_
        exact ⟨_, rfl, yav _, yap (yai rfl yan)⟩
    · have hw1 : rfW s ts (a + 1) 0 ≠ [40] := by rw [ycc]; exact want_no (by simp) hne
      have ha1 : a + 1 ≤ ts.length := by omega
      have cd := choice_dead (names := names) h (a + 1) 4 (yez s (ts.drop (a + 1))) ha1 (by decide)
      have wd := want_rf_dead (s := s) (names := names) (ts := ts) (a := a + 1) (pl := yez s (ts.drop (a + 1))) (err := 4) h (w := [41]) (by simp) (by decide)
      refine ycz (x := (aggO (pwT s t).w, 0) :: [([] : List Tm)].flatten) ha1 (by omega) ha1 (by simp only [List.flatten_cons, List.flatten_nil, List.length_append, List.length_nil, List.length_cons]; omega) ?_
      refine yaz tok Tryz.func111 rfl rfl Tryz.ntmps111 Tryz.results111 rfl (ydw rfl) ?_
      show A _ _ _ _ (S _ _)
      (repeat (first | refine zI ?_ | refine zL ?_ | refine zC ?_ | refine yag ?_ | refine yaf ?_ | refine zR ?_ | refine zD ?_ | refine zK ?_ | refine zB ?_ | refine zA ?_ | refine zS ?_ | refine zU ?_ | refine zV ?_ | refine zF ?_ | with_reducible refine yab ?_ | with_reducible refine yad ?_ | refine yaa ?_ | refine yac ?_ | refine yae ?_ | refine zT ?_ | refine zE ?_ | refine zX ?_ | refine yaw (yau (args := []) rfl rfl rfl rfl rfl (ycl h)) rfl rfl ?_))
      rw [hw]
      (repeat (first | refine zI ?_ | refine zL ?_ | refine zC ?_ | refine yag ?_ | refine yaf ?_ | refine zR ?_ | refine zD ?_ | refine zK ?_ | refine zB ?_ | refine zA ?_ | refine zS ?_ | refine zU ?_ | refine zV ?_ | refine zF ?_ | with_reducible refine yab ?_ | with_reducible refine yad ?_ | refine yaa ?_ | refine yac ?_ | refine yae ?_ | refine zT ?_ | refine zE ?_ | refine zX ?_ | refine yaw (yau (args := []) rfl rfl rfl rfl rfl yfd) rfl rfl ?_))
      rw [hk]
      (repeat (first | refine zI ?_ | refine zL ?_ | refine zC ?_ | refine yag ?_ | refine yaf ?_ | refine zR ?_ | refine zD ?_ | refine zK ?_ | refine zB ?_ | refine zA ?_ | refine zS ?_ | refine zU ?_ | refine zV ?_ | refine zF ?_ | with_reducible refine yab ?_ | with_reducible refine yad ?_ | refine yaa ?_ | refine yac ?_ | refine yae ?_ | refine zT ?_ | refine zE ?_ | refine zX ?_))
      refine yam rfl (fun h9 => absurd h9 (by simp; omega)) (fun _ => ?_)
      (repeat (first | refine zI ?_ | refine zL ?_ | refine zC ?_ | refine yag ?_ | refine yaf ?_ | refine zR ?_ | refine zD ?_ | refine zK ?_ | refine zB ?_ | refine zA ?_ | refine zS ?_ | refine zU ?_ | refine zV ?_ | refine zF ?_ | with_reducible refine yab ?_ | with_reducible refine yad ?_ | refine yaa ?_ | refine yac ?_ | refine yae ?_ | refine zT ?_ | refine zE ?_ | refine zX ?_ | refine yak rfl rfl (yfn (yfp (pwT s t).w) hc) rfl rfl ?_ | refine yak rfl rfl (yci (pwT s t).w) rfl rfl ?_))
      refine yam rfl (fun _ => ?_) (fun h9 => absurd hpos (of_decide_eq_false h9))
      (repeat (first | refine zI ?_ | refine zL ?_ | refine zC ?_ | refine yag ?_ | refine yaf ?_ | refine zR ?_ | refine zD ?_ | refine zK ?_ | refine zB ?_ | refine zA ?_ | refine zS ?_ | refine zU ?_ | refine zV ?_ | refine zF ?_ | with_reducible refine yab ?_ | with_reducible refine yad ?_ | refine yaa ?_ | refine yac ?_ | refine yae ?_ | refine zT ?_ | refine zE ?_ | refine zX ?_ | refine yao rfl rfl rfl rfl ?_ | refine ybl 1001 (want_rf_no h ha1 (w := [40]) hw1) rfl rfl rfl rfl rfl rfl rfl rfl rfl rfl rfl rfl ?_ | refine ybl 1001 (cd) rfl rfl rfl rfl rfl rfl rfl rfl rfl rfl rfl rfl ?_ | refine ybl 1001 (wd) rfl rfl rfl rfl rfl rfl rfl rfl rfl rfl rfl rfl ?_ | refine yak rfl rfl (ybx (aggO (pwT s t).w) [[]] (by simp) (by simp)) rfl rfl ?_))
      refine yar ?_
      exact ⟨_, rfl, yav _, yap (yai rfl yan)⟩
  rw [if_neg (by simp [hag])] at hp
  simp only [Option.some.injEq] at hp
  cases res with
  | ok x rest =>
    obtain ⟨t1, r1, i, hts, hw1, hi, rfl, rfl⟩ := var_ok (s := s) (ts := t :: ts.drop (a + 1)) hp
    simp only [List.cons.injEq] at hts
    obtain ⟨rfl, rfl⟩ := hts
    refine yes (show a + 1 ≤ ts.length by omega) ?_
    refine yaz tok Tryz.func111 rfl rfl Tryz.ntmps111 Tryz.results111 rfl (ydw rfl) ?_
    show A _ _ _ _ (S _ _)
    (repeat (first | refine zI ?_ | refine zL ?_ | refine zC ?_ | refine yag ?_ | refine yaf ?_ | refine zR ?_ | refine zD ?_ | refine zK ?_ | refine zB ?_ | refine zA ?_ | refine zS ?_ | refine zU ?_ | refine zV ?_ | refine zF ?_ | with_reducible refine yab ?_ | with_reducible refine yad ?_ | refine yaa ?_ | refine yac ?_ | refine yae ?_ | refine zT ?_ | refine zE ?_ | refine zX ?_ | refine yaw (yau (args := []) rfl rfl rfl rfl rfl (ycl h)) rfl rfl ?_))
    rw [hw]
    (repeat (first | refine zI ?_ | refine zL ?_ | refine zC ?_ | refine yag ?_ | refine yaf ?_ | refine zR ?_ | refine zD ?_ | refine zK ?_ | refine zB ?_ | refine zA ?_ | refine zS ?_ | refine zU ?_ | refine zV ?_ | refine zF ?_ | with_reducible refine yab ?_ | with_reducible refine yad ?_ | refine yaa ?_ | refine yac ?_ | refine yae ?_ | refine zT ?_ | refine zE ?_ | refine zX ?_ | refine yaw (yau (args := []) rfl rfl rfl rfl rfl yfd) rfl rfl ?_))
    rw [hk]
    (repeat (first | refine zI ?_ | refine zL ?_ | refine zC ?_ | refine yag ?_ | refine yaf ?_ | refine zR ?_ | refine zD ?_ | refine zK ?_ | refine zB ?_ | refine zA ?_ | refine zS ?_ | refine zU ?_ | refine zV ?_ | refine zF ?_ | with_reducible refine yab ?_ | with_reducible refine yad ?_ | refine yaa ?_ | refine yac ?_ | refine yae ?_ | refine zT ?_ | refine zE ?_ | refine zX ?_))
    refine yam rfl (fun h9 => absurd h9 (by simp; omega)) (fun _ => ?_)
    (repeat (first | refine zI ?_ | refine zL ?_ | refine zC ?_ | refine yag ?_ | refine yaf ?_ | refine zR ?_ | refine zD ?_ | refine zK ?_ | refine zB ?_ | refine zA ?_ | refine zS ?_ | refine zU ?_ | refine zV ?_ | refine zF ?_ | with_reducible refine yab ?_ | with_reducible refine yad ?_ | refine yaa ?_ | refine yac ?_ | refine yae ?_ | refine zT ?_ | refine zE ?_ | refine zX ?_ | refine yak rfl rfl (yfn (yfp (pwT s t).w) hc) rfl rfl ?_ | refine yak rfl rfl (yfn (yci (pwT s t).w) hag) rfl rfl ?_ | refine ybl 1001 (ybs h (w := [40]) (by rw [hw]; exact hp1)) rfl rfl rfl rfl rfl rfl rfl rfl rfl rfl rfl rfl ?_ | refine ybl 1001 (ybs h (w := [113]) (by rw [hw]; exact hp2)) rfl rfl rfl rfl rfl rfl rfl rfl rfl rfl rfl rfl ?_ | refine ybl 1001 (rvar_ok (op := 5) h hb hl hs hd hw1 hi) rfl rfl rfl rfl rfl rfl rfl rfl rfl rfl rfl rfl ?_))
    refine yar ?_
    exact ⟨_, rfl, yav _, yap (yai rfl yan)⟩
  | bad c rest =>
    have hrest := var_rest hp
    have hv : varR nmW names 5 ((ts.drop a).map (pwT s)) = .bad c rest := by rw [hd]; exact hp
    have e0 : rest = (ts.drop a).map (pwT s) := by rw [hrest, hd]; rfl
    rw [e0]
    refine ycz (x := []) ha (Nat.le_refl _) ha (by simp) ?_
    refine yaz tok Tryz.func111 rfl rfl Tryz.ntmps111 Tryz.results111 rfl (ydw rfl) ?_
    show A _ _ _ _ (S _ _)
    (repeat (first | refine zI ?_ | refine zL ?_ | refine zC ?_ | refine yag ?_ | refine yaf ?_ | refine zR ?_ | refine zD ?_ | refine zK ?_ | refine zB ?_ | refine zA ?_ | refine zS ?_ | refine zU ?_ | refine zV ?_ | refine zF ?_ | with_reducible refine yab ?_ | with_reducible refine yad ?_ | refine yaa ?_ | refine yac ?_ | refine yae ?_ | refine zT ?_ | refine zE ?_ | refine zX ?_ | refine yaw (yau (args := []) rfl rfl rfl rfl rfl (ycl h)) rfl rfl ?_))
    rw [hw]
    (repeat (first | refine zI ?_ | refine zL ?_ | refine zC ?_ | refine yag ?_ | refine yaf ?_ | refine zR ?_ | refine zD ?_ | refine zK ?_ | refine zB ?_ | refine zA ?_ | refine zS ?_ | refine zU ?_ | refine zV ?_ | refine zF ?_ | with_reducible refine yab ?_ | with_reducible refine yad ?_ | refine yaa ?_ | refine yac ?_ | refine yae ?_ | refine zT ?_ | refine zE ?_ | refine zX ?_ | refine yaw (yau (args := []) rfl rfl rfl rfl rfl yfd) rfl rfl ?_))
    rw [hk]
    (repeat (first | refine zI ?_ | refine zL ?_ | refine zC ?_ | refine yag ?_ | refine yaf ?_ | refine zR ?_ | refine zD ?_ | refine zK ?_ | refine zB ?_ | refine zA ?_ | refine zS ?_ | refine zU ?_ | refine zV ?_ | refine zF ?_ | with_reducible refine yab ?_ | with_reducible refine yad ?_ | refine yaa ?_ | refine yac ?_ | refine yae ?_ | refine zT ?_ | refine zE ?_ | refine zX ?_))
    refine yam rfl (fun h9 => absurd h9 (by simp; omega)) (fun _ => ?_)
    (repeat (first | refine zI ?_ | refine zL ?_ | refine zC ?_ | refine yag ?_ | refine yaf ?_ | refine zR ?_ | refine zD ?_ | refine zK ?_ | refine zB ?_ | refine zA ?_ | refine zS ?_ | refine zU ?_ | refine zV ?_ | refine zF ?_ | with_reducible refine yab ?_ | with_reducible refine yad ?_ | refine yaa ?_ | refine yac ?_ | refine yae ?_ | refine zT ?_ | refine zE ?_ | refine zX ?_ | refine yak rfl rfl (yfn (yfp (pwT s t).w) hc) rfl rfl ?_ | refine yak rfl rfl (yfn (yci (pwT s t).w) hag) rfl rfl ?_ | refine ybl 1001 (ybs h (w := [40]) (by rw [hw]; exact hp1)) rfl rfl rfl rfl rfl rfl rfl rfl rfl rfl rfl rfl ?_ | refine ybl 1001 (ybs h (w := [113]) (by rw [hw]; exact hp2)) rfl rfl rfl rfl rfl rfl rfl rfl rfl rfl rfl rfl ?_ | refine ybl 1001 (rvar_bad h hb ha hl hs hv) rfl rfl rfl rfl rfl rfl rfl rfl rfl rfl rfl rfl ?_))
    refine yar ?_
    exact ⟨_, rfl, yav _, yap (yai rfl yan)⟩
theorem lev_eq {p q : Nat} (h : ((p : Int) + 1 != ((q + 1 : Nat) : Int)) = false) : p = q := by
  simp at h
  omega
def loopIn : Code → Option Code
  | .loop c => some c
  | .seq a b => match loopIn a with
    | some c => some c
    | none => loopIn b
  | .block _ c => loopIn c
  | _ => none
noncomputable def binLoop : Option Code := match Tryz.f57.body with
  | some c => loopIn c
  | none => none
def LoopR (c : Code) (s : ByteArray) (names : List Bs) (ts : List Tok) (l : Nat) (left : List Tm) (a1 : Nat) (pl : Int) (x : List Tm) (a' : Nat) (e' p' : Int) : Prop :=
  LoopA Tryz.prog Tryz.f57.ntmps c (InBlk 0 (EndsM TT [ResultVar.tmp 4] (yay x) (yaq (rfH s names ts a' e' p')))) (S [(0, .lp 1001 0), (1, i64 (l + 1 : Nat)), (5, yay left)] (rfH s names ts a1 0 pl))
def TailRes (c : Code) (s : ByteArray) (names : List Bs) (ts : List Tok) (l a : Nat) (left : List Tm) (a1 : Nat) (pl : Int) (res : Res) : Prop := match res with
  | .ok x rest => LoopR c s names ts l left a1 pl x (ts.length - rest.length) 0 pl
  | .bad e rest => ∃ (x : List Tm) (a' : Nat), a1 ≤ a' ∧ a' ≤ ts.length ∧ x.length + (ts.length - a') ≤ ts.length - a ∧ LoopR c s names ts l left a1 pl x a' e (yez s (ts.drop (ts.length - rest.length)))
theorem rtail_step (h : ydl s ts) (hb : ts.length ≤ 100000) {l : Nat} (hl1 : 1 ≤ l) (hl5 : l ≤ 5) {c : Code} (hc : binLoop = some c) : ∀ (g : Nat), (∀ g', g' ≤ g → IHr g' s names ts) → ∀ (left : List Tm) (a1 : Nat) (res : Res), a1 ≤ ts.length → left.length + (ts.length - a1) ≤ ts.length - a → PP nmW names g (.tail l left) ((ts.drop a1).map (pwT s)) = some res → TailRes c s names ts l a left a1 pl res
  | 0, _, _, _, _, _, _, hp => by cases hp
  | g + 1, ih, left, a1, res, k1, hbd, hp => by
    rw [PP] at hp
    by_cases hd : binO (ybg ((ts.drop a1).map (pwT s))) = 0 ∨ yef (binO (ybg ((ts.drop a1).map (pwT s)))) ≠ l
    · rw [if_pos hd] at hp
      simp only [Option.some.injEq] at hp
      subst hp
      simp only [TailRes, List.length_map, List.length_drop]
      rw [show ts.length - (ts.length - a1) = a1 by omega]
      obtain rfl := Option.some.inj hc
      refine LoopA_step ?_
      (repeat (first | refine zI ?_ | refine zL ?_ | refine zC ?_ | refine yag ?_ | refine yaf ?_ | refine zR ?_ | refine zD ?_ | refine zK ?_ | refine zB ?_ | refine zA ?_ | refine zS ?_ | refine zU ?_ | refine zV ?_ | refine zF ?_ | with_reducible refine yab ?_ | with_reducible refine yad ?_ | refine yaa ?_ | refine yac ?_ | refine yae ?_ | refine zT ?_ | refine zE ?_ | refine zX ?_ | refine yaw (yau (args := []) rfl rfl rfl rfl rfl (ycl h)) rfl rfl ?_))
      rw [ycc]
      (repeat (first | refine zI ?_ | refine zL ?_ | refine zC ?_ | refine yag ?_ | refine yaf ?_ | refine zR ?_ | refine zD ?_ | refine zK ?_ | refine zB ?_ | refine zA ?_ | refine zS ?_ | refine zU ?_ | refine zV ?_ | refine zF ?_ | with_reducible refine yab ?_ | with_reducible refine yad ?_ | refine yaa ?_ | refine yac ?_ | refine yae ?_ | refine zT ?_ | refine zE ?_ | refine zX ?_ | refine yak rfl rfl (sign_rf (ybg ((ts.drop a1).map (pwT s)))) rfl rfl ?_))
      refine ych 25 rfl (fun h2 => ?_) (fun h2 => ?_)
      · (repeat (first | refine zI ?_ | refine zL ?_ | refine zC ?_ | refine yag ?_ | refine yaf ?_ | refine zR ?_ | refine zD ?_ | refine zK ?_ | refine zB ?_ | refine zA ?_ | refine zS ?_ | refine zU ?_ | refine zV ?_ | refine zF ?_ | with_reducible refine yab ?_ | with_reducible refine yad ?_ | refine yaa ?_ | refine yac ?_ | refine yae ?_ | refine zT ?_ | refine zE ?_ | refine zX ?_))
        refine yar ?_
        exact ⟨_, rfl, yav _, yap (yai rfl yan)⟩
      · have h2 : binO (ybg ((ts.drop a1).map (pwT s))) ≠ 0 := by simpa using h2
        have hd2 : yef (binO (ybg ((ts.drop a1).map (pwT s)))) ≠ l := by rcases hd with hd | hd; exact absurd hd h2; exact hd
        rw [if_neg h2]
        (repeat (first | refine zI ?_ | refine zL ?_ | refine zC ?_ | refine yag ?_ | refine yaf ?_ | refine zR ?_ | refine zD ?_ | refine zK ?_ | refine zB ?_ | refine zA ?_ | refine zS ?_ | refine zU ?_ | refine zV ?_ | refine zF ?_ | with_reducible refine yab ?_ | with_reducible refine yad ?_ | refine yaa ?_ | refine yac ?_ | refine yae ?_ | refine zT ?_ | refine zE ?_ | refine zX ?_))
        refine yam rfl (fun _ => ?_) (fun h9 => absurd (lev_eq h9) hd2)
        (repeat (first | refine zI ?_ | refine zL ?_ | refine zC ?_ | refine yag ?_ | refine yaf ?_ | refine zR ?_ | refine zD ?_ | refine zK ?_ | refine zB ?_ | refine zA ?_ | refine zS ?_ | refine zU ?_ | refine zV ?_ | refine zF ?_ | with_reducible refine yab ?_ | with_reducible refine yad ?_ | refine yaa ?_ | refine yac ?_ | refine yae ?_ | refine zT ?_ | refine zE ?_ | refine zX ?_))
        refine yar ?_
        exact ⟨_, rfl, yav _, yap (yai rfl yan)⟩
    · rw [if_neg hd, tail_rf] at hp
      obtain ⟨hd1, hd2⟩ := not_or.1 hd
      have hd2 : yef (binO (ybg ((ts.drop a1).map (pwT s)))) = l := Classical.not_not.1 hd2
      have hlt : a1 < ts.length := by
        rcases Nat.lt_or_ge a1 ts.length with h' | h'
        · exact h'
        · rw [List.drop_eq_nil_of_le h'] at hd1; exact absurd rfl hd1
      rcases ybz hp with ⟨right, r2, q3, q4⟩ | ⟨e, r2, q3, rfl⟩
      · have sp2 := ydo _ _ _ _ q3
        obtain ⟨a2, g2, k2, rfl, e2⟩ := ydi sp2.1 (by omega)
        have c2 := rf_ok ((ih g (by omega)).bin (l + 1) (by omega) (by omega) (a1 + 1) pl _ (by omega) q3) k2
        have b2 := sp2.2.1
        rw [e2] at b2
        simp only [List.length_map, NT.had, List.length_drop] at b2
        have hbs : [left, right].flatten.length ≤ 1000000 := by simp only [List.flatten_cons, List.flatten_nil, List.length_append, List.length_nil]; omega
        have ef : (binO (ybg ((ts.drop a1).map (pwT s))), (0 : Int)) :: [left, right].flatten = (binO (ybg ((ts.drop a1).map (pwT s))), 0) :: (left ++ right) := by simp
        by_cases h3 : l = 3
        · rw [if_pos h3] at q4
          simp only [Option.some.injEq] at q4
          subst q4
          rw [← ef]
          simp only [TailRes, List.length_map, List.length_drop]
          rw [show ts.length - (ts.length - a2) = a2 by omega]
          obtain rfl := Option.some.inj hc
          refine LoopA_step ?_
          (repeat (first | refine zI ?_ | refine zL ?_ | refine zC ?_ | refine yag ?_ | refine yaf ?_ | refine zR ?_ | refine zD ?_ | refine zK ?_ | refine zB ?_ | refine zA ?_ | refine zS ?_ | refine zU ?_ | refine zV ?_ | refine zF ?_ | with_reducible refine yab ?_ | with_reducible refine yad ?_ | refine yaa ?_ | refine yac ?_ | refine yae ?_ | refine zT ?_ | refine zE ?_ | refine zX ?_ | refine yaw (yau (args := []) rfl rfl rfl rfl rfl (ycl h)) rfl rfl ?_))
          rw [ycc]
          (repeat (first | refine zI ?_ | refine zL ?_ | refine zC ?_ | refine yag ?_ | refine yaf ?_ | refine zR ?_ | refine zD ?_ | refine zK ?_ | refine zB ?_ | refine zA ?_ | refine zS ?_ | refine zU ?_ | refine zV ?_ | refine zF ?_ | with_reducible refine yab ?_ | with_reducible refine yad ?_ | refine yaa ?_ | refine yac ?_ | refine yae ?_ | refine zT ?_ | refine zE ?_ | refine zX ?_ | refine yak rfl rfl (sign_rf (ybg ((ts.drop a1).map (pwT s)))) rfl rfl ?_))
          refine ych 25 rfl (fun h2 => ?_) (fun h2 => ?_)
          · exact absurd h2 (by simpa using hd1)
          rw [if_neg hd1]
          (repeat (first | refine zI ?_ | refine zL ?_ | refine zC ?_ | refine yag ?_ | refine yaf ?_ | refine zR ?_ | refine zD ?_ | refine zK ?_ | refine zB ?_ | refine zA ?_ | refine zS ?_ | refine zU ?_ | refine zV ?_ | refine zF ?_ | with_reducible refine yab ?_ | with_reducible refine yad ?_ | refine yaa ?_ | refine yac ?_ | refine yae ?_ | refine zT ?_ | refine zE ?_ | refine zX ?_))
          refine yam rfl (fun h9 => absurd h9 (by rw [hd2]; simp)) (fun _ => ?_)
          (repeat (first | refine zI ?_ | refine zL ?_ | refine zC ?_ | refine yag ?_ | refine yaf ?_ | refine zR ?_ | refine zD ?_ | refine zK ?_ | refine zB ?_ | refine zA ?_ | refine zS ?_ | refine zU ?_ | refine zV ?_ | refine zF ?_ | with_reducible refine yab ?_ | with_reducible refine yad ?_ | refine yaa ?_ | refine yac ?_ | refine yae ?_ | refine zT ?_ | refine zE ?_ | refine zX ?_ | refine yao rfl rfl rfl rfl ?_ | refine ybl 1001 (c2) rfl rfl rfl rfl rfl rfl rfl rfl rfl rfl rfl rfl ?_ | refine yak rfl rfl (ybx (binO (ybg ((ts.drop a1).map (pwT s)))) [left, right] (by simp) hbs) rfl rfl ?_))
          refine yam rfl (fun _ => ?_) (fun h9 => absurd h9 (by simp; omega))
          (repeat (first | refine zI ?_ | refine zL ?_ | refine zC ?_ | refine yag ?_ | refine yaf ?_ | refine zR ?_ | refine zD ?_ | refine zK ?_ | refine zB ?_ | refine zA ?_ | refine zS ?_ | refine zU ?_ | refine zV ?_ | refine zF ?_ | with_reducible refine yab ?_ | with_reducible refine yad ?_ | refine yaa ?_ | refine yac ?_ | refine yae ?_ | refine zT ?_ | refine zE ?_ | refine zX ?_))
          refine yar ?_
          exact ⟨_, rfl, yav _, yap (yai rfl yan)⟩
        · rw [if_neg h3] at q4
          have ht := rtail_step h hb hl1 hl5 hc g (fun g' hg => ih g' (by omega)) ((binO (ybg ((ts.drop a1).map (pwT s))), 0) :: (left ++ right)) a2 res k2 (by simp only [List.length_cons, List.length_append]; omega) q4
          rw [← ef] at ht
          have main : ∀ (x : List Tm) (a' : Nat) (e' p' : Int), LoopR c s names ts l ((binO (ybg ((ts.drop a1).map (pwT s))), 0) :: [left, right].flatten) a2 pl x a' e' p' → LoopR c s names ts l left a1 pl x a' e' p' := by
            intro x a' e' p' hL
            obtain rfl := Option.some.inj hc
            refine LoopA_step ?_
            (repeat (first | refine zI ?_ | refine zL ?_ | refine zC ?_ | refine yag ?_ | refine yaf ?_ | refine zR ?_ | refine zD ?_ | refine zK ?_ | refine zB ?_ | refine zA ?_ | refine zS ?_ | refine zU ?_ | refine zV ?_ | refine zF ?_ | with_reducible refine yab ?_ | with_reducible refine yad ?_ | refine yaa ?_ | refine yac ?_ | refine yae ?_ | refine zT ?_ | refine zE ?_ | refine zX ?_ | refine yaw (yau (args := []) rfl rfl rfl rfl rfl (ycl h)) rfl rfl ?_))
            rw [ycc]
            (repeat (first | refine zI ?_ | refine zL ?_ | refine zC ?_ | refine yag ?_ | refine yaf ?_ | refine zR ?_ | refine zD ?_ | refine zK ?_ | refine zB ?_ | refine zA ?_ | refine zS ?_ | refine zU ?_ | refine zV ?_ | refine zF ?_ | with_reducible refine yab ?_ | with_reducible refine yad ?_ | refine yaa ?_ | refine yac ?_ | refine yae ?_ | refine zT ?_ | refine zE ?_ | refine zX ?_ | refine yak rfl rfl (sign_rf (ybg ((ts.drop a1).map (pwT s)))) rfl rfl ?_))
            refine ych 25 rfl (fun h2 => ?_) (fun h2 => ?_)
            · exact absurd h2 (by simpa using hd1)
            rw [if_neg hd1]
            (repeat (first | refine zI ?_ | refine zL ?_ | refine zC ?_ | refine yag ?_ | refine yaf ?_ | refine zR ?_ | refine zD ?_ | refine zK ?_ | refine zB ?_ | refine zA ?_ | refine zS ?_ | refine zU ?_ | refine zV ?_ | refine zF ?_ | with_reducible refine yab ?_ | with_reducible refine yad ?_ | refine yaa ?_ | refine yac ?_ | refine yae ?_ | refine zT ?_ | refine zE ?_ | refine zX ?_))
            refine yam rfl (fun h9 => absurd h9 (by rw [hd2]; simp)) (fun _ => ?_)
            (repeat (first | refine zI ?_ | refine zL ?_ | refine zC ?_ | refine yag ?_ | refine yaf ?_ | refine zR ?_ | refine zD ?_ | refine zK ?_ | refine zB ?_ | refine zA ?_ | refine zS ?_ | refine zU ?_ | refine zV ?_ | refine zF ?_ | with_reducible refine yab ?_ | with_reducible refine yad ?_ | refine yaa ?_ | refine yac ?_ | refine yae ?_ | refine zT ?_ | refine zE ?_ | refine zX ?_ | refine yao rfl rfl rfl rfl ?_ | refine ybl 1001 (c2) rfl rfl rfl rfl rfl rfl rfl rfl rfl rfl rfl rfl ?_ | refine yak rfl rfl (ybx (binO (ybg ((ts.drop a1).map (pwT s)))) [left, right] (by simp) hbs) rfl rfl ?_))
            refine yam rfl (fun h9 => absurd h9 (by simp; omega)) (fun _ => ?_)
            (repeat (first | with_reducible refine yad ?_ | with_reducible refine yab ?_ | refine yac ?_ | refine yaf ?_ | refine yaa ?_))
            exact LoopA_sub hL (by (repeat (first | exact ycd | refine ybn rfl ?_))) (yai rfl yan)
          cases res with
          | ok x rest => exact main _ _ _ _ ht
          | bad e rest =>
            obtain ⟨x, a', p1, p2, p3, p4⟩ := ht
            exact ⟨x, a', by omega, p2, p3, main _ _ _ _ p4⟩
      · have sp2 := ydo _ _ _ _ q3
        have hc0 := bad_ne sp2
        obtain ⟨a2, g2, k2, rfl, e2⟩ := ydi sp2.1 (by omega)
        obtain ⟨right, a3, q5, q6, q7, c2⟩ := rf_bad ((ih g (by omega)).bin (l + 1) (by omega) (by omega) (a1 + 1) pl _ (by omega) q3) k2
        have hbs : [left, right].flatten.length ≤ 1000000 := by simp only [List.flatten_cons, List.flatten_nil, List.length_append, List.length_nil]; omega
        refine ⟨(binO (ybg ((ts.drop a1).map (pwT s))), 0) :: [left, right].flatten, a3, by omega, q6, by simp only [List.flatten_cons, List.flatten_nil, List.length_append, List.length_nil, List.length_cons]; omega, ?_⟩
        simp only [List.length_map, List.length_drop]
        rw [show ts.length - (ts.length - a2) = a2 by omega]
        obtain rfl := Option.some.inj hc
        refine LoopA_step ?_
        (repeat (first | refine zI ?_ | refine zL ?_ | refine zC ?_ | refine yag ?_ | refine yaf ?_ | refine zR ?_ | refine zD ?_ | refine zK ?_ | refine zB ?_ | refine zA ?_ | refine zS ?_ | refine zU ?_ | refine zV ?_ | refine zF ?_ | with_reducible refine yab ?_ | with_reducible refine yad ?_ | refine yaa ?_ | refine yac ?_ | refine yae ?_ | refine zT ?_ | refine zE ?_ | refine zX ?_ | refine yaw (yau (args := []) rfl rfl rfl rfl rfl (ycl h)) rfl rfl ?_))
        rw [ycc]
        (repeat (first | refine zI ?_ | refine zL ?_ | refine zC ?_ | refine yag ?_ | refine yaf ?_ | refine zR ?_ | refine zD ?_ | refine zK ?_ | refine zB ?_ | refine zA ?_ | refine zS ?_ | refine zU ?_ | refine zV ?_ | refine zF ?_ | with_reducible refine yab ?_ | with_reducible refine yad ?_ | refine yaa ?_ | refine yac ?_ | refine yae ?_ | refine zT ?_ | refine zE ?_ | refine zX ?_ | refine yak rfl rfl (sign_rf (ybg ((ts.drop a1).map (pwT s)))) rfl rfl ?_))
        refine ych 25 rfl (fun h2 => ?_) (fun h2 => ?_)
        · exact absurd h2 (by simpa using hd1)
        rw [if_neg hd1]
        (repeat (first | refine zI ?_ | refine zL ?_ | refine zC ?_ | refine yag ?_ | refine yaf ?_ | refine zR ?_ | refine zD ?_ | refine zK ?_ | refine zB ?_ | refine zA ?_ | refine zS ?_ | refine zU ?_ | refine zV ?_ | refine zF ?_ | with_reducible refine yab ?_ | with_reducible refine yad ?_ | refine yaa ?_ | refine yac ?_ | refine yae ?_ | refine zT ?_ | refine zE ?_ | refine zX ?_))
        refine yam rfl (fun h9 => absurd h9 (by rw [hd2]; simp)) (fun _ => ?_)
        (repeat (first | refine zI ?_ | refine zL ?_ | refine zC ?_ | refine yag ?_ | refine yaf ?_ | refine zR ?_ | refine zD ?_ | refine zK ?_ | refine zB ?_ | refine zA ?_ | refine zS ?_ | refine zU ?_ | refine zV ?_ | refine zF ?_ | with_reducible refine yab ?_ | with_reducible refine yad ?_ | refine yaa ?_ | refine yac ?_ | refine yae ?_ | refine zT ?_ | refine zE ?_ | refine zX ?_ | refine yao rfl rfl rfl rfl ?_ | refine ybl 1001 (c2) rfl rfl rfl rfl rfl rfl rfl rfl rfl rfl rfl rfl ?_ | refine yak rfl rfl (ybx (binO (ybg ((ts.drop a1).map (pwT s)))) [left, right] (by simp) hbs) rfl rfl ?_))
        refine yam rfl (fun _ => ?_) (fun _ => ?_)
        · (repeat (first | refine zI ?_ | refine zL ?_ | refine zC ?_ | refine yag ?_ | refine yaf ?_ | refine zR ?_ | refine zD ?_ | refine zK ?_ | refine zB ?_ | refine zA ?_ | refine zS ?_ | refine zU ?_ | refine zV ?_ | refine zF ?_ | with_reducible refine yab ?_ | with_reducible refine yad ?_ | refine yaa ?_ | refine yac ?_ | refine yae ?_ | refine zT ?_ | refine zE ?_ | refine zX ?_))
          refine yar ?_
          exact ⟨_, rfl, yav _, yap (yai rfl yan)⟩
        · (repeat (first | with_reducible refine yad ?_ | with_reducible refine yab ?_ | refine yac ?_ | refine yaf ?_ | refine yaa ?_))
          refine LoopA_step ?_
          (repeat (first | refine zI ?_ | refine zL ?_ | refine zC ?_ | refine yag ?_ | refine yaf ?_ | refine zR ?_ | refine zD ?_ | refine zK ?_ | refine zB ?_ | refine zA ?_ | refine zS ?_ | refine zU ?_ | refine zV ?_ | refine zF ?_ | with_reducible refine yab ?_ | with_reducible refine yad ?_ | refine yaa ?_ | refine yac ?_ | refine yae ?_ | refine zT ?_ | refine zE ?_ | refine zX ?_ | refine yaw (yau (args := []) rfl rfl rfl rfl rfl (ycl h)) rfl rfl ?_))
          rw [rfW_dead hc0]
          (repeat (first | refine zI ?_ | refine zL ?_ | refine zC ?_ | refine yag ?_ | refine yaf ?_ | refine zR ?_ | refine zD ?_ | refine zK ?_ | refine zB ?_ | refine zA ?_ | refine zS ?_ | refine zU ?_ | refine zV ?_ | refine zF ?_ | with_reducible refine yab ?_ | with_reducible refine yad ?_ | refine yaa ?_ | refine yac ?_ | refine yae ?_ | refine zT ?_ | refine zE ?_ | refine zX ?_ | refine yak rfl rfl (sign_rf []) rfl rfl ?_))
          refine yar ?_
          exact ⟨_, rfl, yav _, yap (yai rfl yan)⟩
theorem rbinary_step {f : Nat} (ih : ∀ g, g ≤ f → IHr g s names ts) {l : Nat} (hl1 : 1 ≤ l) (hl6 : l ≤ 6) (h : ydl s ts) (hb : ts.length ≤ 100000) (ha : a ≤ ts.length) {res : Res} (hp : PP nmW names (f + 1) (.bin l) ((ts.drop a).map (pwT s)) = some res) : RfRes 57 [i64 (l + 1 : Nat)] s names ts a pl res := by
  rw [PP] at hp
  by_cases h6 : 6 ≤ l
  · obtain rfl : l = 6 := by omega
    rw [if_pos h6] at hp
    have ihu := (ih f (Nat.le_refl _)).unary a pl _ ha hp
    have sp1 := ydo _ _ _ _ hp
    cases res with
    | ok x r =>
      obtain ⟨a1, g1, k1, rfl, e1⟩ := ydi sp1.1 ha
      have c1 := rf_ok ihu k1
      refine yes k1 ?_
      refine yaz tok Tryz.func57 rfl rfl Tryz.ntmps57 Tryz.results57 rfl (ydw rfl) ?_
      show A _ _ _ _ (S _ _)
      (repeat (first | refine zI ?_ | refine zL ?_ | refine zC ?_ | refine yag ?_ | refine yaf ?_ | refine zR ?_ | refine zD ?_ | refine zK ?_ | refine zB ?_ | refine zA ?_ | refine zS ?_ | refine zU ?_ | refine zV ?_ | refine zF ?_ | with_reducible refine yab ?_ | with_reducible refine yad ?_ | refine yaa ?_ | refine yac ?_ | refine yae ?_ | refine zT ?_ | refine zE ?_ | refine zX ?_ | refine ybl 1001 (c1) rfl rfl rfl rfl rfl rfl rfl rfl rfl rfl rfl rfl ?_))
      refine yar ?_
      exact ⟨_, rfl, yav _, yap (yai rfl yan)⟩
    | bad c r =>
      obtain ⟨a1, g1, k1, rfl, e1⟩ := ydi sp1.1 ha
      obtain ⟨x, a2, q1, q2, q3, c1⟩ := rf_bad ihu k1
      refine ycz k1 q1 q2 q3 ?_
      refine yaz tok Tryz.func57 rfl rfl Tryz.ntmps57 Tryz.results57 rfl (ydw rfl) ?_
      show A _ _ _ _ (S _ _)
      (repeat (first | refine zI ?_ | refine zL ?_ | refine zC ?_ | refine yag ?_ | refine yaf ?_ | refine zR ?_ | refine zD ?_ | refine zK ?_ | refine zB ?_ | refine zA ?_ | refine zS ?_ | refine zU ?_ | refine zV ?_ | refine zF ?_ | with_reducible refine yab ?_ | with_reducible refine yad ?_ | refine yaa ?_ | refine yac ?_ | refine yae ?_ | refine zT ?_ | refine zE ?_ | refine zX ?_ | refine ybl 1001 (c1) rfl rfl rfl rfl rfl rfl rfl rfl rfl rfl rfl rfl ?_))
      refine yar ?_
      exact ⟨_, rfl, yav _, yap (yai rfl yan)⟩
  rw [if_neg h6] at hp
  rcases ybz hp with ⟨left, r0, q1, q2⟩ | ⟨c, r0, q1, rfl⟩
  · have sp0 := ydo _ _ _ _ q1
    obtain ⟨a1, g1, k1, rfl, e1⟩ := ydi sp0.1 ha
    have c1 := rf_ok ((ih f (Nat.le_refl _)).bin (l + 1) (by omega) (by omega) a pl _ ha q1) k1
    have b0 := sp0.2.1
    rw [e1] at b0
    simp only [List.length_map, NT.had, List.length_drop] at b0
    have sp2 := ydo _ _ _ _ q2
    obtain ⟨c, hc⟩ : ∃ c, binLoop = some c := ⟨_, rfl⟩
    have ht := rtail_step (a := a) (pl := pl) h hb hl1 (by omega) hc f ih left a1 res k1 (by omega) q2
    have main : ∀ (x : List Tm) (a' : Nat) (e' p' : Int), LoopR c s names ts l left a1 pl x a' e' p' → ConM Tryz.prog 57 [.lp 1001 0, i64 (l + 1 : Nat)] (yaq (rfH s names ts a 0 pl)) (yay x) (yaq (rfH s names ts a' e' p')) := by
      intro x a' e' p' hL
      clear ht
      obtain rfl := Option.some.inj hc
      refine yaz tok Tryz.func57 rfl rfl Tryz.ntmps57 Tryz.results57 rfl (ydw rfl) ?_
      show A _ _ _ _ (S _ _)
      (repeat (first | refine zI ?_ | refine zL ?_ | refine zC ?_ | refine yag ?_ | refine yaf ?_ | refine zR ?_ | refine zD ?_ | refine zK ?_ | refine zB ?_ | refine zA ?_ | refine zS ?_ | refine zU ?_ | refine zV ?_ | refine zF ?_ | with_reducible refine yab ?_ | with_reducible refine yad ?_ | refine yaa ?_ | refine yac ?_ | refine yae ?_ | refine zT ?_ | refine zE ?_ | refine zX ?_))
      refine yam rfl (fun h9 => absurd h9 (by simp; omega)) (fun _ => ?_)
      (repeat (first | refine zI ?_ | refine zL ?_ | refine zC ?_ | refine yag ?_ | refine yaf ?_ | refine zR ?_ | refine zD ?_ | refine zK ?_ | refine zB ?_ | refine zA ?_ | refine zS ?_ | refine zU ?_ | refine zV ?_ | refine zF ?_ | with_reducible refine yab ?_ | with_reducible refine yad ?_ | refine yaa ?_ | refine yac ?_ | refine yae ?_ | refine zT ?_ | refine zE ?_ | refine zX ?_ | refine ybl 1001 (c1) rfl rfl rfl rfl rfl rfl rfl rfl rfl rfl rfl rfl ?_))
      exact A_loopU (LoopA_sub hL (by (repeat (first | exact ycd | refine ybn rfl ?_))) (yai rfl yan))
    cases res with
    | ok x rest =>
      obtain ⟨a2, g2, k2, rfl, e2⟩ := ydi sp2.1 k1
      have ht : LoopR c s names ts l left a1 pl x (ts.length - ((ts.drop a2).map (pwT s)).length) 0 pl := ht
      rw [e2, show ts.length - (ts.length - a2) = a2 by omega] at ht
      exact yes k2 (main _ _ _ _ ht)
    | bad e rest =>
      obtain ⟨a2, g2, k2, rfl, e2⟩ := ydi sp2.1 k1
      obtain ⟨x, a', p1, p2, p3, p4⟩ := ht
      rw [e2, show ts.length - (ts.length - a2) = a2 by omega] at p4
      exact ycz k2 (by omega) p2 p3 (main _ _ _ _ p4)
  · have sp0 := ydo _ _ _ _ q1
    have hc0 := bad_ne sp0
    obtain ⟨a1, g1, k1, rfl, e1⟩ := ydi sp0.1 ha
    obtain ⟨x, a2, q5, q6, q7, c1⟩ := rf_bad ((ih f (Nat.le_refl _)).bin (l + 1) (by omega) (by omega) a pl _ ha q1) k1
    refine ycz k1 q5 q6 q7 ?_
    refine yaz tok Tryz.func57 rfl rfl Tryz.ntmps57 Tryz.results57 rfl (ydw rfl) ?_
    show A _ _ _ _ (S _ _)
    (repeat (first | refine zI ?_ | refine zL ?_ | refine zC ?_ | refine yag ?_ | refine yaf ?_ | refine zR ?_ | refine zD ?_ | refine zK ?_ | refine zB ?_ | refine zA ?_ | refine zS ?_ | refine zU ?_ | refine zV ?_ | refine zF ?_ | with_reducible refine yab ?_ | with_reducible refine yad ?_ | refine yaa ?_ | refine yac ?_ | refine yae ?_ | refine zT ?_ | refine zE ?_ | refine zX ?_))
    refine yam rfl (fun h9 => absurd h9 (by simp; omega)) (fun _ => ?_)
    (repeat (first | refine zI ?_ | refine zL ?_ | refine zC ?_ | refine yag ?_ | refine yaf ?_ | refine zR ?_ | refine zD ?_ | refine zK ?_ | refine zB ?_ | refine zA ?_ | refine zS ?_ | refine zU ?_ | refine zV ?_ | refine zF ?_ | with_reducible refine yab ?_ | with_reducible refine yad ?_ | refine yaa ?_ | refine yac ?_ | refine yae ?_ | refine zT ?_ | refine zE ?_ | refine zX ?_ | refine ybl 1001 (c1) rfl rfl rfl rfl rfl rfl rfl rfl rfl rfl rfl rfl ?_))
    refine A_loopU (LoopA_step ?_)
    (repeat (first | refine zI ?_ | refine zL ?_ | refine zC ?_ | refine yag ?_ | refine yaf ?_ | refine zR ?_ | refine zD ?_ | refine zK ?_ | refine zB ?_ | refine zA ?_ | refine zS ?_ | refine zU ?_ | refine zV ?_ | refine zF ?_ | with_reducible refine yab ?_ | with_reducible refine yad ?_ | refine yaa ?_ | refine yac ?_ | refine yae ?_ | refine zT ?_ | refine zE ?_ | refine zX ?_ | refine yaw (yau (args := []) rfl rfl rfl rfl rfl (ycl h)) rfl rfl ?_))
    rw [rfW_dead hc0]
    (repeat (first | refine zI ?_ | refine zL ?_ | refine zC ?_ | refine yag ?_ | refine yaf ?_ | refine zR ?_ | refine zD ?_ | refine zK ?_ | refine zB ?_ | refine zA ?_ | refine zS ?_ | refine zU ?_ | refine zV ?_ | refine zF ?_ | with_reducible refine yab ?_ | with_reducible refine yad ?_ | refine yaa ?_ | refine yac ?_ | refine yae ?_ | refine zT ?_ | refine zE ?_ | refine zX ?_ | refine yak rfl rfl (sign_rf []) rfl rfl ?_))
    refine yar ?_
    exact ⟨_, rfl, yav _, yap (yai rfl yan)⟩
theorem rparser_rd (h : ydl s ts) (hb : ts.length ≤ 100000) (hl : names.length ≤ 1000) (hs : s.size ≤ 1000000000) : ∀ (n f : Nat), f ≤ n → IHr f s names ts
  | n, 0, _ => ⟨fun a pl res _ h => (by cases h), fun l _ _ a pl res _ h => (by cases h), fun a pl res _ h => (by cases h), fun a pl res _ h => (by cases h)⟩
  | 0, f + 1, h => by omega
  | n + 1, f + 1, hf => by
    have ih : ∀ g, g ≤ f → IHr g s names ts := fun g hg => rparser_rd h hb hl hs n g (by omega)
    have i0 := ih f (Nat.le_refl _)
    exact ⟨fun a pl res h2 h3 => rchoice_step i0 h hb h2 h3, fun l h4 h5 a pl res h2 h3 => rbinary_step ih h4 h5 h hb h2 h3, fun a pl res h2 h3 => runary_step i0 h hb h2 h3, fun a pl res h2 h3 => rprim_step i0 hl hs h hb h2 h3⟩
end
end Go.Proofs.YtcpgpiabeimefaaGreatDoor
