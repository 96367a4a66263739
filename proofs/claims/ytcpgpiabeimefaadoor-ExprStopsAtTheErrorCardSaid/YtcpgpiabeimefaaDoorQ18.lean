/- Part 18 of the texts under ExprStopsAtTheError: joined, with what it needs alone. -/
import Derived.Test.YtcpgpiabeimefaaDoorQ10
import Derived.Test.YtcpgpiabeimefaaDoorQ17
set_option linter.unusedVariables false
set_option maxRecDepth 100000
set_option maxHeartbeats 4000000
namespace Go.Proofs.YtcpgpiabeimefaaDoor
open Go.RowKit
def scR (s : ByteArray) : List Tok × Int × Int := match ydh s with
  | .ok ts => (ts, 0, 0)
  | .error (p, e) => ([], p, e)
theorem scanA_eq (s : ByteArray) : scanA s = .tup [.sl 4 ((scR s).1.map ydv), i64 (scR s).2.1, i64 (scR s).2.2] := by
  unfold scanA scR
  cases ydh s with
  | ok ts => rfl
  | error pe => rfl
theorem scR_ok {s : ByteArray} (h : (scR s).2.2 = 0) : ∃ ts, ydh s = .ok ts := by
  unfold scR at h
  split at h
  · rename_i ts hts; exact ⟨ts, hts⟩
  · rename_i p e hpe
    have := scan_pos hpe
    simp only at h
    omega
theorem rscanR_con (s : ByteArray) (hs : s.size ≤ 9223372036854775807) : Con Tryd.prog 6 [strA s] (.tup [.sl 4 ((scR s).1.map ydv), i64 (scR s).2.1, i64 (scR s).2.2]) := by
  rw [← scanA_eq]
  exact rscan_con s hs
theorem stops_facts {names : List Bs} {s m : ByteArray} (h1 : s.size ≤ 1000) (h2 : m.size ≤ 200) (hl : (scR s).2.2 = 0) (ho : (scR (s ++ ba [32, 10] ++ m)).2.2 = 0) (h : (yby nmW names s).2.2 = 4 ∨ (yby nmW names s).2.2 = 5) (hat : (yby nmW names s).2.1 ≠ s.size) :
    ∃ at_ : Nat, at_ ≤ s.size ∧ (yby nmW names s).2.1 = at_ ∧ (yby nmW names (s ++ ba [32, 10] ++ m)).2.1 = at_ ∧ (yby nmW names (s ++ ba [32, 10] ++ m)).2.2 = (yby nmW names s).2.2 ∧
      ((yby nmW names (s.extract 0 at_)).2.2 = 0 ∨ (yby nmW names (s.extract 0 at_)).2.2 = 3 ∨ (yby nmW names (s.extract 0 at_)).2.2 = 4 ∧ (yby nmW names (s.extract 0 at_)).2.1 = at_) := by
  have hg : yff nmW names = true := by
    cases hg : yff nmW names with
    | true => rfl
    | false => rw [parseX_bad hg] at h; simp at h
  have ea : s ++ ba [32, 10] ++ m = s ++ (ba [32, 10] ++ m) := ByteArray.append_assoc
  rw [ea] at ho ⊢
  have hsz : (s ++ (ba [32, 10] ++ m)).size ≤ 16384 := by
    rw [ByteArray.size_append, ByteArray.size_append, yau]; simp; omega
  obtain ⟨ts, hts⟩ := scR_ok hl
  obtain ⟨ts', hts'⟩ := scR_ok ho
  have hx : yah (ba [32, 10] ++ m) 0 = 32 :: 10 :: yah m 0 := by
    rw [bytes_append]; rfl
  rcases scanF_more hx (by decide) hsz hts with ⟨e, he⟩ | ⟨us, hus⟩
  · rw [hts'] at he; cases he
  exact parseX_stops (c := 0) (r := []) hg (by omega) hsz hts hus h hat
theorem exprStops_con (s : ByteArray) (names : List Bs) (m : ByteArray) : Con Tryd.prog 3 [strA s, ybu names, strA m] (boolA true) := by
  refine yed Tryd.func3 rfl rfl Tryd.ntmps3 Tryd.results3 rfl rfl ?_
  (repeat (first | refine zI ?_ | refine zL ?_ | refine zC ?_ | refine yaf ?_ | refine yae ?_ | refine zR ?_ | refine zD ?_ | refine zK ?_ | refine zB ?_ | refine zA ?_ | refine zS ?_ | refine zU ?_ | refine zV ?_ | refine zF ?_ | with_reducible refine yab ?_ | with_reducible refine yad ?_ | refine yaa ?_ | refine yac ?_ | refine yaj ?_ | refine zT ?_ | refine zE ?_ | refine zX ?_))
  refine ycm 25 rfl (fun h1 => ?_) (fun h1 => ?_)
  · (repeat (first | refine zI ?_ | refine zL ?_ | refine zC ?_ | refine yaf ?_ | refine yae ?_ | refine zR ?_ | refine zD ?_ | refine zK ?_ | refine zB ?_ | refine zA ?_ | refine zS ?_ | refine zU ?_ | refine zV ?_ | refine zF ?_ | with_reducible refine yab ?_ | with_reducible refine yad ?_ | refine yaa ?_ | refine yac ?_ | refine yaj ?_ | refine zT ?_ | refine zE ?_ | refine zX ?_ | refine yap rfl rfl ydk rfl rfl ?_))
    refine ybc ?_; refine ⟨_, rfl, ?_⟩
    exact ycj rfl
  have h1 : s.size ≤ 1000 := by simp at h1; omega
  (repeat (first | refine zI ?_ | refine zL ?_ | refine zC ?_ | refine yaf ?_ | refine yae ?_ | refine zR ?_ | refine zD ?_ | refine zK ?_ | refine zB ?_ | refine zA ?_ | refine zS ?_ | refine zU ?_ | refine zV ?_ | refine zF ?_ | with_reducible refine yab ?_ | with_reducible refine yad ?_ | refine yaa ?_ | refine yac ?_ | refine yaj ?_ | refine zT ?_ | refine zE ?_ | refine zX ?_))
  refine ycm 30 rfl (fun h2 => ?_) (fun h2 => ?_)
  · (repeat (first | refine zI ?_ | refine zL ?_ | refine zC ?_ | refine yaf ?_ | refine yae ?_ | refine zR ?_ | refine zD ?_ | refine zK ?_ | refine zB ?_ | refine zA ?_ | refine zS ?_ | refine zU ?_ | refine zV ?_ | refine zF ?_ | with_reducible refine yab ?_ | with_reducible refine yad ?_ | refine yaa ?_ | refine yac ?_ | refine yaj ?_ | refine zT ?_ | refine zE ?_ | refine zX ?_ | refine yap rfl rfl ydk rfl rfl ?_))
    refine ybc ?_; refine ⟨_, rfl, ?_⟩
    exact ycj rfl
  have h2 : m.size ≤ 200 := by simp at h2; omega
  (repeat (first | refine zI ?_ | refine zL ?_ | refine zC ?_ | refine yaf ?_ | refine yae ?_ | refine zR ?_ | refine zD ?_ | refine zK ?_ | refine zB ?_ | refine zA ?_ | refine zS ?_ | refine zU ?_ | refine zV ?_ | refine zF ?_ | with_reducible refine yab ?_ | with_reducible refine yad ?_ | refine yaa ?_ | refine yac ?_ | refine yaj ?_ | refine zT ?_ | refine zE ?_ | refine zX ?_ | refine yap rfl rfl (light06_con names) rfl rfl ?_))
  refine yas rfl (fun h3 => ?_) (fun h3 => ?_)
  · (repeat (first | refine zI ?_ | refine zL ?_ | refine zC ?_ | refine yaf ?_ | refine yae ?_ | refine zR ?_ | refine zD ?_ | refine zK ?_ | refine zB ?_ | refine zA ?_ | refine zS ?_ | refine zU ?_ | refine zV ?_ | refine zF ?_ | with_reducible refine yab ?_ | with_reducible refine yad ?_ | refine yaa ?_ | refine yac ?_ | refine yaj ?_ | refine zT ?_ | refine zE ?_ | refine zX ?_ | refine yap rfl rfl ydk rfl rfl ?_))
    refine ybc ?_; refine ⟨_, rfl, ?_⟩
    exact ycj rfl
  have h3 : lightN names = true := by simpa using h3
  obtain ⟨l1, l2⟩ := lightN_spec h3
  have hX : (s ++ ba [32, 10] ++ m).size ≤ 1202 := by rw [ByteArray.size_append, ByteArray.size_append, yau]; simp; omega
  have hn : ∀ x ∈ names, x.length ≤ 1000 := fun w hw => by have := l2 w hw; omega
  have hp := parse_con s names (by omega) (by omega) hn
  have hq := parse_con (s ++ ba [32, 10] ++ m) names (by omega) (by omega) hn
  (repeat (first | refine zI ?_ | refine zL ?_ | refine zC ?_ | refine yaf ?_ | refine yae ?_ | refine zR ?_ | refine zD ?_ | refine zK ?_ | refine zB ?_ | refine zA ?_ | refine zS ?_ | refine zU ?_ | refine zV ?_ | refine zF ?_ | with_reducible refine yab ?_ | with_reducible refine yad ?_ | refine yaa ?_ | refine yac ?_ | refine yaj ?_ | refine zT ?_ | refine zE ?_ | refine zX ?_ | refine yap rfl rfl (rscanR_con s (by omega)) rfl rfl ?_))
  refine ydj (b := ba [32, 10]) rfl rfl (by rw [yau]; simp; omega) rfl rfl ?_
  (repeat (first | refine zI ?_ | refine zL ?_ | refine zC ?_ | refine yaf ?_ | refine yae ?_ | refine zR ?_ | refine zD ?_ | refine zK ?_ | refine zB ?_ | refine zA ?_ | refine zS ?_ | refine zU ?_ | refine zV ?_ | refine zF ?_ | with_reducible refine yab ?_ | with_reducible refine yad ?_ | refine yaa ?_ | refine yac ?_ | refine yaj ?_ | refine zT ?_ | refine zE ?_ | refine zX ?_))
  refine ydj rfl rfl (by rw [ByteArray.size_append, yau]; simp; omega) rfl rfl ?_
  (repeat (first | refine zI ?_ | refine zL ?_ | refine zC ?_ | refine yaf ?_ | refine yae ?_ | refine zR ?_ | refine zD ?_ | refine zK ?_ | refine zB ?_ | refine zA ?_ | refine zS ?_ | refine zU ?_ | refine zV ?_ | refine zF ?_ | with_reducible refine yab ?_ | with_reducible refine yad ?_ | refine yaa ?_ | refine yac ?_ | refine yaj ?_ | refine zT ?_ | refine zE ?_ | refine zX ?_ | refine yap rfl rfl (rscanR_con (s ++ ba [32, 10] ++ m) (by omega)) rfl rfl ?_ | refine yap rfl rfl hp rfl rfl ?_))
  refine ycm 60 rfl (fun h4 => ?_) (fun h4 => ?_)
  · (repeat (first | refine zI ?_ | refine zL ?_ | refine zC ?_ | refine yaf ?_ | refine yae ?_ | refine zR ?_ | refine zD ?_ | refine zK ?_ | refine zB ?_ | refine zA ?_ | refine zS ?_ | refine zU ?_ | refine zV ?_ | refine zF ?_ | with_reducible refine yab ?_ | with_reducible refine yad ?_ | refine yaa ?_ | refine yac ?_ | refine yaj ?_ | refine zT ?_ | refine zE ?_ | refine zX ?_ | refine yap rfl rfl ydk rfl rfl ?_))
    refine ybc ?_; refine ⟨_, rfl, ?_⟩
    exact ycj rfl
  have h4 : (scR s).2.2 = 0 := by simpa using h4
  (repeat (first | refine zI ?_ | refine zL ?_ | refine zC ?_ | refine yaf ?_ | refine yae ?_ | refine zR ?_ | refine zD ?_ | refine zK ?_ | refine zB ?_ | refine zA ?_ | refine zS ?_ | refine zU ?_ | refine zV ?_ | refine zF ?_ | with_reducible refine yab ?_ | with_reducible refine yad ?_ | refine yaa ?_ | refine yac ?_ | refine yaj ?_ | refine zT ?_ | refine zE ?_ | refine zX ?_))
  refine ycm 64 rfl (fun h5 => ?_) (fun h5 => ?_)
  · (repeat (first | refine zI ?_ | refine zL ?_ | refine zC ?_ | refine yaf ?_ | refine yae ?_ | refine zR ?_ | refine zD ?_ | refine zK ?_ | refine zB ?_ | refine zA ?_ | refine zS ?_ | refine zU ?_ | refine zV ?_ | refine zF ?_ | with_reducible refine yab ?_ | with_reducible refine yad ?_ | refine yaa ?_ | refine yac ?_ | refine yaj ?_ | refine zT ?_ | refine zE ?_ | refine zX ?_ | refine yap rfl rfl ydk rfl rfl ?_))
    refine ybc ?_; refine ⟨_, rfl, ?_⟩
    exact ycj rfl
  have h5 : (scR (s ++ ba [32, 10] ++ m)).2.2 = 0 := by simpa using h5
  (repeat (first | refine zI ?_ | refine zL ?_ | refine zC ?_ | refine yaf ?_ | refine yae ?_ | refine zR ?_ | refine zD ?_ | refine zK ?_ | refine zB ?_ | refine zA ?_ | refine zS ?_ | refine zU ?_ | refine zV ?_ | refine zF ?_ | with_reducible refine yab ?_ | with_reducible refine yad ?_ | refine yaa ?_ | refine yac ?_ | refine yaj ?_ | refine zT ?_ | refine zE ?_ | refine zX ?_))
  by_cases h6 : (yby nmW names s).2.2 = 4 ∨ (yby nmW names s).2.2 = 5
  case neg =>
    refine ycm 67 rfl (fun _ => ?_) (fun h9 => absurd h9 (by simp; omega))
    (repeat (first | refine zI ?_ | refine zL ?_ | refine zC ?_ | refine yaf ?_ | refine yae ?_ | refine zR ?_ | refine zD ?_ | refine zK ?_ | refine zB ?_ | refine zA ?_ | refine zS ?_ | refine zU ?_ | refine zV ?_ | refine zF ?_ | with_reducible refine yab ?_ | with_reducible refine yad ?_ | refine yaa ?_ | refine yac ?_ | refine yaj ?_ | refine zT ?_ | refine zE ?_ | refine zX ?_))
    refine ycm 72 rfl (fun _ => ?_) (fun h9 => absurd h9 (by simp; omega))
    (repeat (first | refine zI ?_ | refine zL ?_ | refine zC ?_ | refine yaf ?_ | refine yae ?_ | refine zR ?_ | refine zD ?_ | refine zK ?_ | refine zB ?_ | refine zA ?_ | refine zS ?_ | refine zU ?_ | refine zV ?_ | refine zF ?_ | with_reducible refine yab ?_ | with_reducible refine yad ?_ | refine yaa ?_ | refine yac ?_ | refine yaj ?_ | refine zT ?_ | refine zE ?_ | refine zX ?_ | refine yap rfl rfl ydk rfl rfl ?_))
    refine ybc ?_; refine ⟨_, rfl, ?_⟩
    exact ycj rfl
  by_cases h7 : (yby nmW names s).2.1 = s.size
  · rcases h6 with h6 | h6
    · refine ycm 67 rfl (fun h9 => absurd h9 (by simp; omega)) (fun _ => ?_)
      (repeat (first | refine zI ?_ | refine zL ?_ | refine zC ?_ | refine yaf ?_ | refine yae ?_ | refine zR ?_ | refine zD ?_ | refine zK ?_ | refine zB ?_ | refine zA ?_ | refine zS ?_ | refine zU ?_ | refine zV ?_ | refine zF ?_ | with_reducible refine yab ?_ | with_reducible refine yad ?_ | refine yaa ?_ | refine yac ?_ | refine yaj ?_ | refine zT ?_ | refine zE ?_ | refine zX ?_))
      refine yas rfl (fun _ => ?_) (fun h9 => absurd h9 (by simp; omega))
      (repeat (first | refine zI ?_ | refine zL ?_ | refine zC ?_ | refine yaf ?_ | refine yae ?_ | refine zR ?_ | refine zD ?_ | refine zK ?_ | refine zB ?_ | refine zA ?_ | refine zS ?_ | refine zU ?_ | refine zV ?_ | refine zF ?_ | with_reducible refine yab ?_ | with_reducible refine yad ?_ | refine yaa ?_ | refine yac ?_ | refine yaj ?_ | refine zT ?_ | refine zE ?_ | refine zX ?_ | refine yap rfl rfl ydk rfl rfl ?_))
      refine ybc ?_; refine ⟨_, rfl, ?_⟩
      exact ycj rfl
    · refine ycm 67 rfl (fun _ => ?_) (fun h9 => absurd h9 (by simp; omega))
      (repeat (first | refine zI ?_ | refine zL ?_ | refine zC ?_ | refine yaf ?_ | refine yae ?_ | refine zR ?_ | refine zD ?_ | refine zK ?_ | refine zB ?_ | refine zA ?_ | refine zS ?_ | refine zU ?_ | refine zV ?_ | refine zF ?_ | with_reducible refine yab ?_ | with_reducible refine yad ?_ | refine yaa ?_ | refine yac ?_ | refine yaj ?_ | refine zT ?_ | refine zE ?_ | refine zX ?_))
      refine ycm 72 rfl (fun h9 => absurd h9 (by simp; omega)) (fun _ => ?_)
      (repeat (first | refine zI ?_ | refine zL ?_ | refine zC ?_ | refine yaf ?_ | refine yae ?_ | refine zR ?_ | refine zD ?_ | refine zK ?_ | refine zB ?_ | refine zA ?_ | refine zS ?_ | refine zU ?_ | refine zV ?_ | refine zF ?_ | with_reducible refine yab ?_ | with_reducible refine yad ?_ | refine yaa ?_ | refine yac ?_ | refine yaj ?_ | refine zT ?_ | refine zE ?_ | refine zX ?_))
      refine yas rfl (fun _ => ?_) (fun h9 => absurd h9 (by simp; omega))
      (repeat (first | refine zI ?_ | refine zL ?_ | refine zC ?_ | refine yaf ?_ | refine yae ?_ | refine zR ?_ | refine zD ?_ | refine zK ?_ | refine zB ?_ | refine zA ?_ | refine zS ?_ | refine zU ?_ | refine zV ?_ | refine zF ?_ | with_reducible refine yab ?_ | with_reducible refine yad ?_ | refine yaa ?_ | refine yac ?_ | refine yaj ?_ | refine zT ?_ | refine zE ?_ | refine zX ?_ | refine yap rfl rfl ydk rfl rfl ?_))
      refine ybc ?_; refine ⟨_, rfl, ?_⟩
      exact ycj rfl
  obtain ⟨k, hk, e1, e2, e3, e4⟩ := stops_facts h1 h2 h4 h5 h6 h7
  have hr := parse_con (s.extract 0 k) names (by rw [ByteArray.size_extract]; omega) (by omega) hn
  rcases h6 with h6 | h6
  case' inl =>
    refine ycm 67 rfl (fun h9 => absurd h9 (by simp; omega)) (fun _ => ?_)
  case' inr =>
    refine ycm 67 rfl (fun _ => ?_) (fun h9 => absurd h9 (by simp; omega))
    (repeat (first | refine zI ?_ | refine zL ?_ | refine zC ?_ | refine yaf ?_ | refine yae ?_ | refine zR ?_ | refine zD ?_ | refine zK ?_ | refine zB ?_ | refine zA ?_ | refine zS ?_ | refine zU ?_ | refine zV ?_ | refine zF ?_ | with_reducible refine yab ?_ | with_reducible refine yad ?_ | refine yaa ?_ | refine yac ?_ | refine yaj ?_ | refine zT ?_ | refine zE ?_ | refine zX ?_))
    refine ycm 72 rfl (fun h9 => absurd h9 (by simp; omega)) (fun _ => ?_)
  all_goals
    (repeat (first | refine zI ?_ | refine zL ?_ | refine zC ?_ | refine yaf ?_ | refine yae ?_ | refine zR ?_ | refine zD ?_ | refine zK ?_ | refine zB ?_ | refine zA ?_ | refine zS ?_ | refine zU ?_ | refine zV ?_ | refine zF ?_ | with_reducible refine yab ?_ | with_reducible refine yad ?_ | refine yaa ?_ | refine yac ?_ | refine yaj ?_ | refine zT ?_ | refine zE ?_ | refine zX ?_))
    refine yas rfl (fun h9 => absurd h9 (by simp; omega)) (fun _ => ?_)
    (repeat (first | refine zI ?_ | refine zL ?_ | refine zC ?_ | refine yaf ?_ | refine yae ?_ | refine zR ?_ | refine zD ?_ | refine zK ?_ | refine zB ?_ | refine zA ?_ | refine zS ?_ | refine zU ?_ | refine zV ?_ | refine zF ?_ | with_reducible refine yab ?_ | with_reducible refine yad ?_ | refine yaa ?_ | refine yac ?_ | refine yaj ?_ | refine zT ?_ | refine zE ?_ | refine zX ?_))
    refine ycm 81 rfl (fun h9 => absurd h9 (by simp; omega)) (fun _ => ?_)
    (repeat (first | refine zI ?_ | refine zL ?_ | refine zC ?_ | refine yaf ?_ | refine yae ?_ | refine zR ?_ | refine zD ?_ | refine zK ?_ | refine zB ?_ | refine zA ?_ | refine zS ?_ | refine zU ?_ | refine zV ?_ | refine zF ?_ | with_reducible refine yab ?_ | with_reducible refine yad ?_ | refine yaa ?_ | refine yac ?_ | refine yaj ?_ | refine zT ?_ | refine zE ?_ | refine zX ?_))
    refine yas rfl (fun h9 => absurd h9 (by simp; omega)) (fun _ => ?_)
    (repeat (first | refine zI ?_ | refine zL ?_ | refine zC ?_ | refine yaf ?_ | refine yae ?_ | refine zR ?_ | refine zD ?_ | refine zK ?_ | refine zB ?_ | refine zA ?_ | refine zS ?_ | refine zU ?_ | refine zV ?_ | refine zF ?_ | with_reducible refine yab ?_ | with_reducible refine yad ?_ | refine yaa ?_ | refine yac ?_ | refine yaj ?_ | refine zT ?_ | refine zE ?_ | refine zX ?_))
    refine L_sslice tok rfl rfl rfl rfl (by show (0 : Int) ≤ 0; omega) (by show (0 : Int) ≤ (yby nmW names s).2.1; omega) (by show (yby nmW names s).2.1 ≤ (s.size : Int); omega) rfl rfl ?_
    refine L_same 90 (y := strA (s.extract 0 k)) rfl ?_ ?_
    · show AV.v (.string (s.extract (0 : Int).toNat ((yby nmW names s).2.1).toNat)) = _
      rw [e1]; rfl
    (repeat (first | refine zI ?_ | refine zL ?_ | refine zC ?_ | refine yaf ?_ | refine yae ?_ | refine zR ?_ | refine zD ?_ | refine zK ?_ | refine zB ?_ | refine zA ?_ | refine zS ?_ | refine zU ?_ | refine zV ?_ | refine zF ?_ | with_reducible refine yab ?_ | with_reducible refine yad ?_ | refine yaa ?_ | refine yac ?_ | refine yaj ?_ | refine zT ?_ | refine zE ?_ | refine zX ?_ | refine yap rfl rfl hr rfl rfl ?_))
    refine ydj (b := ba [32, 10]) rfl rfl (by rw [yau]; simp; omega) rfl rfl ?_
    (repeat (first | refine zI ?_ | refine zL ?_ | refine zC ?_ | refine yaf ?_ | refine yae ?_ | refine zR ?_ | refine zD ?_ | refine zK ?_ | refine zB ?_ | refine zA ?_ | refine zS ?_ | refine zU ?_ | refine zV ?_ | refine zF ?_ | with_reducible refine yab ?_ | with_reducible refine yad ?_ | refine yaa ?_ | refine yac ?_ | refine yaj ?_ | refine zT ?_ | refine zE ?_ | refine zX ?_))
    refine ydj rfl rfl (by rw [ByteArray.size_append, yau]; simp; omega) rfl rfl ?_
    (repeat (first | refine zI ?_ | refine zL ?_ | refine zC ?_ | refine yaf ?_ | refine yae ?_ | refine zR ?_ | refine zD ?_ | refine zK ?_ | refine zB ?_ | refine zA ?_ | refine zS ?_ | refine zU ?_ | refine zV ?_ | refine zF ?_ | with_reducible refine yab ?_ | with_reducible refine yad ?_ | refine yaa ?_ | refine yac ?_ | refine yaj ?_ | refine zT ?_ | refine zE ?_ | refine zX ?_ | refine yap rfl rfl hq rfl rfl ?_ | refine yap rfl rfl ydk rfl rfl ?_))
    rcases e4 with e4 | e4 | ⟨e4, e5⟩
    · refine L_true 110 rfl (by simp [e4]) ?_
      (repeat (first | refine zI ?_ | refine zL ?_ | refine zC ?_ | refine yaf ?_ | refine yae ?_ | refine zR ?_ | refine zD ?_ | refine zK ?_ | refine zB ?_ | refine zA ?_ | refine zS ?_ | refine zU ?_ | refine zV ?_ | refine zF ?_ | with_reducible refine yab ?_ | with_reducible refine yad ?_ | refine yaa ?_ | refine yac ?_ | refine yaj ?_ | refine zT ?_ | refine zE ?_ | refine zX ?_))
      refine L_true 129 rfl (by simp [e3]) ?_
      (repeat (first | refine zI ?_ | refine zL ?_ | refine zC ?_ | refine yaf ?_ | refine yae ?_ | refine zR ?_ | refine zD ?_ | refine zK ?_ | refine zB ?_ | refine zA ?_ | refine zS ?_ | refine zU ?_ | refine zV ?_ | refine zF ?_ | with_reducible refine yab ?_ | with_reducible refine yad ?_ | refine yaa ?_ | refine yac ?_ | refine yaj ?_ | refine zT ?_ | refine zE ?_ | refine zX ?_))
      refine ybc ?_; refine ⟨_, rfl, ?_⟩
      exact ycj (by simp [e1, e2])
    · refine ycm 110 rfl (fun h9 => absurd h9 (by simp [e4])) (fun _ => ?_)
      (repeat (first | refine zI ?_ | refine zL ?_ | refine zC ?_ | refine yaf ?_ | refine yae ?_ | refine zR ?_ | refine zD ?_ | refine zK ?_ | refine zB ?_ | refine zA ?_ | refine zS ?_ | refine zU ?_ | refine zV ?_ | refine zF ?_ | with_reducible refine yab ?_ | with_reducible refine yad ?_ | refine yaa ?_ | refine yac ?_ | refine yaj ?_ | refine zT ?_ | refine zE ?_ | refine zX ?_))
      refine L_true 114 rfl (by simp [e4]) ?_
      (repeat (first | refine zI ?_ | refine zL ?_ | refine zC ?_ | refine yaf ?_ | refine yae ?_ | refine zR ?_ | refine zD ?_ | refine zK ?_ | refine zB ?_ | refine zA ?_ | refine zS ?_ | refine zU ?_ | refine zV ?_ | refine zF ?_ | with_reducible refine yab ?_ | with_reducible refine yad ?_ | refine yaa ?_ | refine yac ?_ | refine yaj ?_ | refine zT ?_ | refine zE ?_ | refine zX ?_))
      refine L_true 129 rfl (by simp [e3]) ?_
      (repeat (first | refine zI ?_ | refine zL ?_ | refine zC ?_ | refine yaf ?_ | refine yae ?_ | refine zR ?_ | refine zD ?_ | refine zK ?_ | refine zB ?_ | refine zA ?_ | refine zS ?_ | refine zU ?_ | refine zV ?_ | refine zF ?_ | with_reducible refine yab ?_ | with_reducible refine yad ?_ | refine yaa ?_ | refine yac ?_ | refine yaj ?_ | refine zT ?_ | refine zE ?_ | refine zX ?_))
      refine ybc ?_; refine ⟨_, rfl, ?_⟩
      exact ycj (by simp [e1, e2])
    · refine ycm 110 rfl (fun h9 => absurd h9 (by simp [e4])) (fun _ => ?_)
      (repeat (first | refine zI ?_ | refine zL ?_ | refine zC ?_ | refine yaf ?_ | refine yae ?_ | refine zR ?_ | refine zD ?_ | refine zK ?_ | refine zB ?_ | refine zA ?_ | refine zS ?_ | refine zU ?_ | refine zV ?_ | refine zF ?_ | with_reducible refine yab ?_ | with_reducible refine yad ?_ | refine yaa ?_ | refine yac ?_ | refine yaj ?_ | refine zT ?_ | refine zE ?_ | refine zX ?_))
      refine ycm 114 rfl (fun h9 => absurd h9 (by simp [e4])) (fun _ => ?_)
      (repeat (first | refine zI ?_ | refine zL ?_ | refine zC ?_ | refine yaf ?_ | refine yae ?_ | refine zR ?_ | refine zD ?_ | refine zK ?_ | refine zB ?_ | refine zA ?_ | refine zS ?_ | refine zU ?_ | refine zV ?_ | refine zF ?_ | with_reducible refine yab ?_ | with_reducible refine yad ?_ | refine yaa ?_ | refine yac ?_ | refine yaj ?_ | refine zT ?_ | refine zE ?_ | refine zX ?_))
      refine L_true 117 rfl (by simp [e4]) ?_
      (repeat (first | refine zI ?_ | refine zL ?_ | refine zC ?_ | refine yaf ?_ | refine yae ?_ | refine zR ?_ | refine zD ?_ | refine zK ?_ | refine zB ?_ | refine zA ?_ | refine zS ?_ | refine zU ?_ | refine zV ?_ | refine zF ?_ | with_reducible refine yab ?_ | with_reducible refine yad ?_ | refine yaa ?_ | refine yac ?_ | refine yaj ?_ | refine zT ?_ | refine zE ?_ | refine zX ?_))
      refine L_true 124 rfl (by simp [e5, e1]) ?_
      (repeat (first | refine zI ?_ | refine zL ?_ | refine zC ?_ | refine yaf ?_ | refine yae ?_ | refine zR ?_ | refine zD ?_ | refine zK ?_ | refine zB ?_ | refine zA ?_ | refine zS ?_ | refine zU ?_ | refine zV ?_ | refine zF ?_ | with_reducible refine yab ?_ | with_reducible refine yad ?_ | refine yaa ?_ | refine yac ?_ | refine yaj ?_ | refine zT ?_ | refine zE ?_ | refine zX ?_))
      refine L_true 129 rfl (by simp [e3]) ?_
      (repeat (first | refine zI ?_ | refine zL ?_ | refine zC ?_ | refine yaf ?_ | refine yae ?_ | refine zR ?_ | refine zD ?_ | refine zK ?_ | refine zB ?_ | refine zA ?_ | refine zS ?_ | refine zU ?_ | refine zV ?_ | refine zF ?_ | with_reducible refine yab ?_ | with_reducible refine yad ?_ | refine yaa ?_ | refine yac ?_ | refine yaj ?_ | refine zT ?_ | refine zE ?_ | refine zX ?_))
      refine ybc ?_; refine ⟨_, rfl, ?_⟩
      exact ycj (by simp [e1, e2])
theorem walk_ExprStopsAtTheError (s : ByteArray) (v1 : Value) (z1 : List Bs) (m : ByteArray) (w : World) (hs : s.size ≤ maxLen) (h1 : NamesOk w v1 z1) (hm : m.size ≤ maxLen) (hG : Glob w) :
    Calls Tryd.prog 3 #[.string s, v1, .string m] w fun e w' => e = .returned (.bool true) ∧ Below w.heap.size w w' :=
  calls_of_con (exprStops_con s z1 m) hG (okW_lt w) (relAll_cons (.v _) (relAll_cons (names_rel h1) (relAll_cons (.v _) relAll_nil)))
end Go.Proofs.YtcpgpiabeimefaaDoor
