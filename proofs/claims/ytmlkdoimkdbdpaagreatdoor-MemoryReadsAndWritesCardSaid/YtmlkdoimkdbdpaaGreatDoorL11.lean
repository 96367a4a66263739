/- Part 11 of the texts under MemoryReadsAndWrites,MemoryReadsBack: joined, with what it needs alone. -/
import Derived.WideKeyPair
import Derived.DeepKeys4
import Derived.Test.YtmlkdoimkdbdpaaGreatDoorL5
import Derived.Test.YtmlkdoimkdbdpaaGreatDoorL9
import Derived.Test.YtmlkdoimkdbdpaaGreatDoorL10
set_option linter.unusedVariables false
set_option maxRecDepth 100000
namespace Go.Proofs.YtmlkdoimkdbdpaaGreatDoor
open Go.RowKit

def inB (v lo hi : Int) : Bool := decide (lo ≤ v) && decide (v ≤ hi)
theorem in_con (v lo hi : Int) : Con Tryz.prog 33 [i64 v, i64 lo, i64 hi] (yfp (inB v lo hi)) := by
  refine ybs Tryz.func33 rfl rfl Tryz.ntmps33 Tryz.results33 rfl rfl ?_
  (repeat (first | refine zI ?_ | refine zL ?_ | refine zC ?_ | refine yai ?_ | refine yaj ?_ | refine zR ?_ | refine zD ?_ | refine zK ?_ | refine zB ?_ | refine zA ?_ | refine zS ?_ | refine zU ?_ | refine zV ?_ | refine zF ?_ | with_reducible refine yac ?_ | with_reducible refine yag ?_ | refine yad ?_ | refine yae ?_ | refine yaf ?_ | refine zT ?_ | refine zE ?_ | refine zX ?_))
  refine ybm 10 rfl (fun h => ?_) (fun h => ?_)
  · (repeat (first | refine zI ?_ | refine zL ?_ | refine zC ?_ | refine yai ?_ | refine yaj ?_ | refine zR ?_ | refine zD ?_ | refine zK ?_ | refine zB ?_ | refine zA ?_ | refine zS ?_ | refine zU ?_ | refine zV ?_ | refine zF ?_ | with_reducible refine yac ?_ | with_reducible refine yag ?_ | refine yad ?_ | refine yae ?_ | refine yaf ?_ | refine zT ?_ | refine zE ?_ | refine zX ?_))
    refine yas ?_; refine ⟨_, rfl, ?_⟩
    exact yau (by simp at h; simp [inB, h])
  · (repeat (first | refine zI ?_ | refine zL ?_ | refine zC ?_ | refine yai ?_ | refine yaj ?_ | refine zR ?_ | refine zD ?_ | refine zK ?_ | refine zB ?_ | refine zA ?_ | refine zS ?_ | refine zU ?_ | refine zV ?_ | refine zF ?_ | with_reducible refine yac ?_ | with_reducible refine yag ?_ | refine yad ?_ | refine yae ?_ | refine yaf ?_ | refine zT ?_ | refine zE ?_ | refine zX ?_))
    refine yas ?_; refine ⟨_, rfl, ?_⟩
    exact yau (by simp at h; simp [inB]; omega)

theorem differentIDs_con (ids : List Int) (hlen : ids.length ≤ 5000) : Con Tryz.prog 61 [ybk ids] (yfp (idsB ids)) := by
  refine ybs Tryz.func61 rfl rfl Tryz.ntmps61 Tryz.results61 rfl rfl ?_
  (repeat (first | refine zI ?_ | refine zL ?_ | refine zC ?_ | refine yai ?_ | refine yaj ?_ | refine zR ?_ | refine zD ?_ | refine zK ?_ | refine zB ?_ | refine zA ?_ | refine zS ?_ | refine zU ?_ | refine zV ?_ | refine zF ?_ | with_reducible refine yac ?_ | with_reducible refine yag ?_ | refine yad ?_ | refine yae ?_ | refine yaf ?_ | refine zT ?_ | refine zE ?_ | refine zX ?_))
  refine A_asVec 3 ((bits []).map yfp) rfl (by rw [bits_nil]; rfl) (by intro y hy; obtain ⟨b, _, rfl⟩ := List.mem_map.1 hy; rfl) ?_
  refine ydp (α := Nat) (fun k => [(8, i64 k), (7, i64 ids.length), (6, ybk ids), (3, .lp 3 0)]) (fun k => [(3, some (.vec ((bits (ids.take k)).map yfp)))]) (fun k => ids.length - k) (fun k => k ≤ ids.length ∧ idsB (ids.take k) = true) 0 ⟨by omega, rfl⟩ (by (repeat (first | exact yan | refine yak rfl ?_))) (by first | exact yab | exact yaa rfl yab | exact yaa rfl (yaa rfl yab) | exact yaa rfl (yaa rfl (yaa rfl yab)) | exact yaa rfl (yaa rfl (yaa rfl (yaa rfl yab)))) ?_
  intro k ⟨hk, hok⟩
  (repeat (first | refine zI ?_ | refine zL ?_ | refine zC ?_ | refine yai ?_ | refine yaj ?_ | refine zR ?_ | refine zD ?_ | refine zK ?_ | refine zB ?_ | refine zA ?_ | refine zS ?_ | refine zU ?_ | refine zV ?_ | refine zF ?_ | with_reducible refine yac ?_ | with_reducible refine yag ?_ | refine yad ?_ | refine yae ?_ | refine yaf ?_ | refine zT ?_ | refine zE ?_ | refine zX ?_))
  refine yaq rfl (fun h => ?_) (fun h => ?_)
  · simp at h
    obtain ⟨x, hx⟩ := yeh h
    (repeat (first | refine zI ?_ | refine zL ?_ | refine zC ?_ | refine yai ?_ | refine yaj ?_ | refine zR ?_ | refine zD ?_ | refine zK ?_ | refine zB ?_ | refine zA ?_ | refine zS ?_ | refine zU ?_ | refine zV ?_ | refine zF ?_ | with_reducible refine yac ?_ | with_reducible refine yag ?_ | refine yad ?_ | refine yae ?_ | refine yaf ?_ | refine zT ?_ | refine zE ?_ | refine zX ?_))
    refine ybm 14 rfl (fun h1 => ?_) (fun h1 => ?_)
    · simp at h1
      (repeat (first | refine zI ?_ | refine zL ?_ | refine zC ?_ | refine yai ?_ | refine yaj ?_ | refine zR ?_ | refine zD ?_ | refine zK ?_ | refine zB ?_ | refine zA ?_ | refine zS ?_ | refine zU ?_ | refine zV ?_ | refine zF ?_ | with_reducible refine yac ?_ | with_reducible refine yag ?_ | refine yad ?_ | refine yae ?_ | refine yaf ?_ | refine zT ?_ | refine zE ?_ | refine zX ?_))
      refine yas ?_; refine ⟨_, rfl, ?_⟩
      exact yau (idsB_bad hx (by simp [idB]; omega)).symm
    · simp at h1
      (repeat (first | refine zI ?_ | refine zL ?_ | refine zC ?_ | refine yai ?_ | refine yaj ?_ | refine zR ?_ | refine zD ?_ | refine zK ?_ | refine zB ?_ | refine zA ?_ | refine zS ?_ | refine zU ?_ | refine zV ?_ | refine zF ?_ | with_reducible refine yac ?_ | with_reducible refine yag ?_ | refine yad ?_ | refine yae ?_ | refine yaf ?_ | refine zT ?_ | refine zE ?_ | refine zX ?_))
      refine ybm 18 rfl (fun h2 => ?_) (fun h2 => ?_)
      · simp at h2
        (repeat (first | refine zI ?_ | refine zL ?_ | refine zC ?_ | refine yai ?_ | refine yaj ?_ | refine zR ?_ | refine zD ?_ | refine zK ?_ | refine zB ?_ | refine zA ?_ | refine zS ?_ | refine zU ?_ | refine zV ?_ | refine zF ?_ | with_reducible refine yac ?_ | with_reducible refine yag ?_ | refine yad ?_ | refine yae ?_ | refine yaf ?_ | refine zT ?_ | refine zE ?_ | refine zX ?_))
        refine yas ?_; refine ⟨_, rfl, ?_⟩
        exact yau (idsB_bad hx (by simp [idB]; omega)).symm
      · simp at h2
        (repeat (first | refine zI ?_ | refine zL ?_ | refine zC ?_ | refine yai ?_ | refine yaj ?_ | refine zR ?_ | refine zD ?_ | refine zK ?_ | refine zB ?_ | refine zA ?_ | refine zS ?_ | refine zU ?_ | refine zV ?_ | refine zF ?_ | with_reducible refine yac ?_ | with_reducible refine yag ?_ | refine yad ?_ | refine yae ?_ | refine yaf ?_ | refine zT ?_ | refine zE ?_ | refine zX ?_))
        refine ybg tok rfl rfl rfl (by simp [bits]) rfl (by omega) (by omega) rfl rfl ?_
        refine ycg (r := yfp (decide (x ∈ ids.take k))) tok rfl rfl rfl rfl (by simp [bits_get (ids.take k) x h1 h2]) rfl rfl ?_
        (repeat (first | refine zI ?_ | refine zL ?_ | refine zC ?_ | refine yai ?_ | refine yaj ?_ | refine zR ?_ | refine zD ?_ | refine zK ?_ | refine zB ?_ | refine zA ?_ | refine zS ?_ | refine zU ?_ | refine zV ?_ | refine zF ?_ | with_reducible refine yac ?_ | with_reducible refine yag ?_ | refine yad ?_ | refine yae ?_ | refine yaf ?_ | refine zT ?_ | refine zE ?_ | refine zX ?_))
        refine yaq rfl (fun h3 => ?_) (fun h3 => ?_)
        · simp at h3
          (repeat (first | refine zI ?_ | refine zL ?_ | refine zC ?_ | refine yai ?_ | refine yaj ?_ | refine zR ?_ | refine zD ?_ | refine zK ?_ | refine zB ?_ | refine zA ?_ | refine zS ?_ | refine zU ?_ | refine zV ?_ | refine zF ?_ | with_reducible refine yac ?_ | with_reducible refine yag ?_ | refine yad ?_ | refine yae ?_ | refine yaf ?_ | refine zT ?_ | refine zE ?_ | refine zX ?_))
          refine yas ?_; refine ⟨_, rfl, ?_⟩
          exact yau (idsB_twice hx h3).symm
        · simp at h3
          (repeat (first | refine zI ?_ | refine zL ?_ | refine zC ?_ | refine yai ?_ | refine yaj ?_ | refine zR ?_ | refine zD ?_ | refine zK ?_ | refine zB ?_ | refine zA ?_ | refine zS ?_ | refine zU ?_ | refine zV ?_ | refine zF ?_ | with_reducible refine yac ?_ | with_reducible refine yag ?_ | refine yad ?_ | refine yae ?_ | refine yaf ?_ | refine zT ?_ | refine zE ?_ | refine zX ?_))
          refine ybg tok rfl rfl rfl (by simp [bits]) rfl (by omega) (by omega) rfl rfl ?_
          refine ybu tok rfl rfl rfl rfl rfl rfl (by simp [bits_len]; omega) rfl rfl rfl ?_
          (repeat (first | refine zI ?_ | refine zL ?_ | refine zC ?_ | refine yai ?_ | refine yaj ?_ | refine zR ?_ | refine zD ?_ | refine zK ?_ | refine zB ?_ | refine zA ?_ | refine zS ?_ | refine zU ?_ | refine zV ?_ | refine zF ?_ | with_reducible refine yac ?_ | with_reducible refine yag ?_ | refine yad ?_ | refine yae ?_ | refine yaf ?_ | refine zT ?_ | refine zE ?_ | refine zX ?_))
          refine rnd (k + 1) ⟨by omega, idsB_step hx hok (by simp [idB]; omega) h3⟩ (by omega) (by (repeat (first | exact yan | refine yak rfl ?_))) ?_
          refine yaa ?_ yab
          rw [yeo hx, ← bits_set _ x h1 h2, List.map_set]
          simp [yap, yfp]
  · simp at h
    obtain rfl : k = ids.length := by omega
    (repeat (first | refine zI ?_ | refine zL ?_ | refine zC ?_ | refine yai ?_ | refine yaj ?_ | refine zR ?_ | refine zD ?_ | refine zK ?_ | refine zB ?_ | refine zA ?_ | refine zS ?_ | refine zU ?_ | refine zV ?_ | refine zF ?_ | with_reducible refine yac ?_ | with_reducible refine yag ?_ | refine yad ?_ | refine yae ?_ | refine yaf ?_ | refine zT ?_ | refine zE ?_ | refine zX ?_))
    refine yas ?_; refine ⟨_, rfl, ?_⟩
    rw [List.take_length] at hok
    exact yau hok.symm
end Go.Proofs.YtmlkdoimkdbdpaaGreatDoor

set_option linter.unusedVariables false
set_option maxRecDepth 100000
set_option maxHeartbeats 4000000
namespace Go.Proofs.YtmlkdoimkdbdpaaGreatDoor
open Go.RowKit

def lightG (g : GraphD) : Bool := decide (g.ids.length ≤ 30) && (decide (g.ports.length ≤ 30) && g.ports.all fun l => decide (l.length ≤ 30))
theorem lightG_iff (g : GraphD) : lightG g = true ↔ g.ids.length ≤ 30 ∧ g.ports.length ≤ 30 ∧ ∀ l ∈ g.ports, l.length ≤ 30 := by
  unfold lightG; simp
theorem lightGraph_con (g : GraphD) : Con Tryz.prog 14 [encG g] (yfp (lightG g)) := by
  refine ybs Tryz.func14 rfl rfl Tryz.ntmps14 Tryz.results14 rfl rfl ?_
  (repeat (first | refine zI ?_ | refine zL ?_ | refine zC ?_ | refine yai ?_ | refine yaj ?_ | refine zR ?_ | refine zD ?_ | refine zK ?_ | refine zB ?_ | refine zA ?_ | refine zS ?_ | refine zU ?_ | refine zV ?_ | refine zF ?_ | with_reducible refine yac ?_ | with_reducible refine yag ?_ | refine yad ?_ | refine yae ?_ | refine yaf ?_ | refine zT ?_ | refine zE ?_ | refine zX ?_))
  refine ybm 8 rfl (fun h1 => ?_) (fun h1 => ?_)
  · simp at h1
    (repeat (first | refine zI ?_ | refine zL ?_ | refine zC ?_ | refine yai ?_ | refine yaj ?_ | refine zR ?_ | refine zD ?_ | refine zK ?_ | refine zB ?_ | refine zA ?_ | refine zS ?_ | refine zU ?_ | refine zV ?_ | refine zF ?_ | with_reducible refine yac ?_ | with_reducible refine yag ?_ | refine yad ?_ | refine yae ?_ | refine yaf ?_ | refine zT ?_ | refine zE ?_ | refine zX ?_))
    refine yas ?_; refine ⟨_, rfl, ?_⟩
    exact yau (by rw [eq_comm, ← Bool.not_eq_true, lightG_iff]; omega)
  simp at h1
  (repeat (first | refine zI ?_ | refine zL ?_ | refine zC ?_ | refine yai ?_ | refine yaj ?_ | refine zR ?_ | refine zD ?_ | refine zK ?_ | refine zB ?_ | refine zA ?_ | refine zS ?_ | refine zU ?_ | refine zV ?_ | refine zF ?_ | with_reducible refine yac ?_ | with_reducible refine yag ?_ | refine yad ?_ | refine yae ?_ | refine yaf ?_ | refine zT ?_ | refine zE ?_ | refine zX ?_))
  refine yaq rfl (fun h2 => ?_) (fun h2 => ?_)
  · simp at h2
    (repeat (first | refine zI ?_ | refine zL ?_ | refine zC ?_ | refine yai ?_ | refine yaj ?_ | refine zR ?_ | refine zD ?_ | refine zK ?_ | refine zB ?_ | refine zA ?_ | refine zS ?_ | refine zU ?_ | refine zV ?_ | refine zF ?_ | with_reducible refine yac ?_ | with_reducible refine yag ?_ | refine yad ?_ | refine yae ?_ | refine yaf ?_ | refine zT ?_ | refine zE ?_ | refine zX ?_))
    refine yas ?_; refine ⟨_, rfl, ?_⟩
    exact yau (by rw [eq_comm, ← Bool.not_eq_true, lightG_iff]; omega)
  simp at h2
  (repeat (first | refine zI ?_ | refine zL ?_ | refine zC ?_ | refine yai ?_ | refine yaj ?_ | refine zR ?_ | refine zD ?_ | refine zK ?_ | refine zB ?_ | refine zA ?_ | refine zS ?_ | refine zU ?_ | refine zV ?_ | refine zF ?_ | with_reducible refine yac ?_ | with_reducible refine yag ?_ | refine yad ?_ | refine yae ?_ | refine yaf ?_ | refine zT ?_ | refine zE ?_ | refine zX ?_))
  refine ydp (α := Nat) (fun k => [(3, i64 k), (1, .lp 1 0)]) (fun k => [(1, some (.cells [ybk g.ids, ybz g.ports]))]) (fun k => g.ports.length - k) (fun k => k ≤ g.ports.length ∧ ∀ l ∈ g.ports.take k, l.length ≤ 30) 0 ⟨by omega, by simp⟩ (by (repeat (first | exact yan | refine yak rfl ?_))) (by first | exact yab | exact yaa rfl yab | exact yaa rfl (yaa rfl yab) | exact yaa rfl (yaa rfl (yaa rfl yab)) | exact yaa rfl (yaa rfl (yaa rfl (yaa rfl yab)))) ?_
  intro k ⟨hk, hok⟩
  (repeat (first | refine zI ?_ | refine zL ?_ | refine zC ?_ | refine yai ?_ | refine yaj ?_ | refine zR ?_ | refine zD ?_ | refine zK ?_ | refine zB ?_ | refine zA ?_ | refine zS ?_ | refine zU ?_ | refine zV ?_ | refine zF ?_ | with_reducible refine yac ?_ | with_reducible refine yag ?_ | refine yad ?_ | refine yae ?_ | refine yaf ?_ | refine zT ?_ | refine zE ?_ | refine zX ?_))
  refine yaq rfl (fun h => ?_) (fun h => ?_)
  · simp at h
    obtain ⟨x, hx⟩ := yeh h
    (repeat (first | refine zI ?_ | refine zL ?_ | refine zC ?_ | refine yai ?_ | refine yaj ?_ | refine zR ?_ | refine zD ?_ | refine zK ?_ | refine zB ?_ | refine zA ?_ | refine zS ?_ | refine zU ?_ | refine zV ?_ | refine zF ?_ | with_reducible refine yac ?_ | with_reducible refine yag ?_ | refine yad ?_ | refine yae ?_ | refine yaf ?_ | refine zT ?_ | refine zE ?_ | refine zX ?_))
    refine yaq rfl (fun h3 => ?_) (fun h3 => ?_)
    · simp at h3
      (repeat (first | refine zI ?_ | refine zL ?_ | refine zC ?_ | refine yai ?_ | refine yaj ?_ | refine zR ?_ | refine zD ?_ | refine zK ?_ | refine zB ?_ | refine zA ?_ | refine zS ?_ | refine zU ?_ | refine zV ?_ | refine zF ?_ | with_reducible refine yac ?_ | with_reducible refine yag ?_ | refine yad ?_ | refine yae ?_ | refine yaf ?_ | refine zT ?_ | refine zE ?_ | refine zX ?_))
      refine yas ?_; refine ⟨_, rfl, ?_⟩
      refine yau ?_
      rw [eq_comm, ← Bool.not_eq_true, lightG_iff]
      intro h4
      have := h4.2.2 x (List.mem_of_getElem? hx)
      omega
    · simp at h3
      (repeat (first | refine zI ?_ | refine zL ?_ | refine zC ?_ | refine yai ?_ | refine yaj ?_ | refine zR ?_ | refine zD ?_ | refine zK ?_ | refine zB ?_ | refine zA ?_ | refine zS ?_ | refine zU ?_ | refine zV ?_ | refine zF ?_ | with_reducible refine yac ?_ | with_reducible refine yag ?_ | refine yad ?_ | refine yae ?_ | refine yaf ?_ | refine zT ?_ | refine zE ?_ | refine zX ?_))
      refine rnd (k + 1) ⟨by omega, ?_⟩ (by omega) (by (repeat (first | exact yan | refine yak rfl ?_))) (by first | exact yab | exact yaa rfl yab | exact yaa rfl (yaa rfl yab) | exact yaa rfl (yaa rfl (yaa rfl yab)) | exact yaa rfl (yaa rfl (yaa rfl (yaa rfl yab))))
      intro l hl
      rw [yeo hx] at hl
      rcases List.mem_append.1 hl with hl | hl
      · exact hok l hl
      · simp at hl; subst hl; omega
  · simp at h
    obtain rfl : k = g.ports.length := by omega
    (repeat (first | refine zI ?_ | refine zL ?_ | refine zC ?_ | refine yai ?_ | refine yaj ?_ | refine zR ?_ | refine zD ?_ | refine zK ?_ | refine zB ?_ | refine zA ?_ | refine zS ?_ | refine zU ?_ | refine zV ?_ | refine zF ?_ | with_reducible refine yac ?_ | with_reducible refine yag ?_ | refine yad ?_ | refine yae ?_ | refine yaf ?_ | refine zT ?_ | refine zE ?_ | refine zX ?_))
    refine yas ?_; refine ⟨_, rfl, ?_⟩
    rw [List.take_length] at hok
    exact yau (by rw [eq_comm, lightG_iff]; exact ⟨by omega, by omega, hok⟩)

theorem linksValid_con (l : List Lk) (v n : Nat) (hlen : l.length ≤ 5000) (hn : n ≤ 5000) : Con Tryz.prog 71 [encLinks l, i64 v, i64 n] (yfp (yfk n v l)) := by
  refine ybs Tryz.func71 rfl rfl Tryz.ntmps71 Tryz.results71 rfl rfl ?_
  (repeat (first | refine zI ?_ | refine zL ?_ | refine zC ?_ | refine yai ?_ | refine yaj ?_ | refine zR ?_ | refine zD ?_ | refine zK ?_ | refine zB ?_ | refine zA ?_ | refine zS ?_ | refine zU ?_ | refine zV ?_ | refine zF ?_ | with_reducible refine yac ?_ | with_reducible refine yag ?_ | refine yad ?_ | refine yae ?_ | refine yaf ?_ | refine zT ?_ | refine zE ?_ | refine zX ?_))
  refine ydp (α := Nat) (fun k => [(7, i64 k), (0, encLinks l), (1, i64 v), (2, i64 n)]) (fun k => []) (fun k => l.length - k) (fun k => k ≤ l.length ∧ yfk n v (l.take k) = true) 0 ⟨by omega, rfl⟩ (by (repeat (first | exact yan | refine yak rfl ?_))) (by first | exact yab | exact yaa rfl yab | exact yaa rfl (yaa rfl yab) | exact yaa rfl (yaa rfl (yaa rfl yab)) | exact yaa rfl (yaa rfl (yaa rfl (yaa rfl yab)))) ?_
  intro k ⟨hk, hok⟩
  (repeat (first | refine zI ?_ | refine zL ?_ | refine zC ?_ | refine yai ?_ | refine yaj ?_ | refine zR ?_ | refine zD ?_ | refine zK ?_ | refine zB ?_ | refine zA ?_ | refine zS ?_ | refine zU ?_ | refine zV ?_ | refine zF ?_ | with_reducible refine yac ?_ | with_reducible refine yag ?_ | refine yad ?_ | refine yae ?_ | refine yaf ?_ | refine zT ?_ | refine zE ?_ | refine zX ?_))
  refine yaq rfl (fun h => ?_) (fun h => ?_)
  · simp at h
    obtain ⟨x, hx⟩ := yeh h
    (repeat (first | refine zI ?_ | refine zL ?_ | refine zC ?_ | refine yai ?_ | refine yaj ?_ | refine zR ?_ | refine zD ?_ | refine zK ?_ | refine zB ?_ | refine zA ?_ | refine zS ?_ | refine zU ?_ | refine zV ?_ | refine zF ?_ | with_reducible refine yac ?_ | with_reducible refine yag ?_ | refine yad ?_ | refine yae ?_ | refine yaf ?_ | refine zT ?_ | refine zE ?_ | refine zX ?_ | refine yar rfl rfl (in_con _ _ _) rfl rfl ?_))
    refine ybm 24 rfl (fun h1 => ?_) (fun h1 => ?_)
    · (repeat (first | refine zI ?_ | refine zL ?_ | refine zC ?_ | refine yai ?_ | refine yaj ?_ | refine zR ?_ | refine zD ?_ | refine zK ?_ | refine zB ?_ | refine zA ?_ | refine zS ?_ | refine zU ?_ | refine zV ?_ | refine zF ?_ | with_reducible refine yac ?_ | with_reducible refine yag ?_ | refine yad ?_ | refine yae ?_ | refine yaf ?_ | refine zT ?_ | refine zE ?_ | refine zX ?_))
      refine yas ?_; refine ⟨_, rfl, ?_⟩
      refine yau (yey hx ?_).symm
      rw [← Bool.not_eq_true, ycw]
      simp [inB] at h1
      omega
    · (repeat (first | refine zI ?_ | refine zL ?_ | refine zC ?_ | refine yai ?_ | refine yaj ?_ | refine zR ?_ | refine zD ?_ | refine zK ?_ | refine zB ?_ | refine zA ?_ | refine zS ?_ | refine zU ?_ | refine zV ?_ | refine zF ?_ | with_reducible refine yac ?_ | with_reducible refine yag ?_ | refine yad ?_ | refine yae ?_ | refine yaf ?_ | refine zT ?_ | refine zE ?_ | refine zX ?_))
      refine ybm 33 rfl (fun h2 => ?_) (fun h2 => ?_)
      · (repeat (first | refine zI ?_ | refine zL ?_ | refine zC ?_ | refine yai ?_ | refine yaj ?_ | refine zR ?_ | refine zD ?_ | refine zK ?_ | refine zB ?_ | refine zA ?_ | refine zS ?_ | refine zU ?_ | refine zV ?_ | refine zF ?_ | with_reducible refine yac ?_ | with_reducible refine yag ?_ | refine yad ?_ | refine yae ?_ | refine yaf ?_ | refine zT ?_ | refine zE ?_ | refine zX ?_))
        refine yas ?_; refine ⟨_, rfl, ?_⟩
        refine yau (yey hx ?_).symm
        rw [← Bool.not_eq_true, ycw]
        simp at h2
        omega
      · (repeat (first | refine zI ?_ | refine zL ?_ | refine zC ?_ | refine yai ?_ | refine yaj ?_ | refine zR ?_ | refine zD ?_ | refine zK ?_ | refine zB ?_ | refine zA ?_ | refine zS ?_ | refine zU ?_ | refine zV ?_ | refine zF ?_ | with_reducible refine yac ?_ | with_reducible refine yag ?_ | refine yad ?_ | refine yae ?_ | refine yaf ?_ | refine zT ?_ | refine zE ?_ | refine zX ?_ | refine yar rfl rfl (in_con _ _ _) rfl rfl ?_))
        refine yaq rfl (fun h3 => ?_) (fun h3 => ?_)
        · (repeat (first | refine zI ?_ | refine zL ?_ | refine zC ?_ | refine yai ?_ | refine yaj ?_ | refine zR ?_ | refine zD ?_ | refine zK ?_ | refine zB ?_ | refine zA ?_ | refine zS ?_ | refine zU ?_ | refine zV ?_ | refine zF ?_ | with_reducible refine yac ?_ | with_reducible refine yag ?_ | refine yad ?_ | refine yae ?_ | refine yaf ?_ | refine zT ?_ | refine zE ?_ | refine zX ?_))
          refine yas ?_; refine ⟨_, rfl, ?_⟩
          refine yau (yey hx ?_).symm
          rw [← Bool.not_eq_true, ycw]
          simp [inB] at h3
          omega
        · (repeat (first | refine zI ?_ | refine zL ?_ | refine zC ?_ | refine yai ?_ | refine yaj ?_ | refine zR ?_ | refine zD ?_ | refine zK ?_ | refine zB ?_ | refine zA ?_ | refine zS ?_ | refine zU ?_ | refine zV ?_ | refine zF ?_ | with_reducible refine yac ?_ | with_reducible refine yag ?_ | refine yad ?_ | refine yae ?_ | refine yaf ?_ | refine zT ?_ | refine zE ?_ | refine zX ?_))
          have hlk : linkB n v x = true := by
            rw [ycw]
            simp [inB] at h1 h2 h3
            omega
          refine ydp (α := Nat) (fun j => [(8, i64 j), (7, i64 k), (0, encLinks l), (1, i64 v), (2, i64 n)]) (fun k => []) (fun j => k - j) (fun j => j ≤ k ∧ ∀ (i : Nat) (y : Lk), i < j → l[i]? = some y → y.1 ≠ x.1) 0 ⟨by omega, by omega⟩ (by (repeat (first | exact yan | refine yak rfl ?_))) (by first | exact yab | exact yaa rfl yab | exact yaa rfl (yaa rfl yab) | exact yaa rfl (yaa rfl (yaa rfl yab)) | exact yaa rfl (yaa rfl (yaa rfl (yaa rfl yab)))) ?_
          intro j ⟨hj, hjo⟩
          (repeat (first | refine zI ?_ | refine zL ?_ | refine zC ?_ | refine yai ?_ | refine yaj ?_ | refine zR ?_ | refine zD ?_ | refine zK ?_ | refine zB ?_ | refine zA ?_ | refine zS ?_ | refine zU ?_ | refine zV ?_ | refine zF ?_ | with_reducible refine yac ?_ | with_reducible refine yag ?_ | refine yad ?_ | refine yae ?_ | refine yaf ?_ | refine zT ?_ | refine zE ?_ | refine zX ?_))
          refine yaq rfl (fun h4 => ?_) (fun h4 => ?_)
          · simp at h4
            obtain ⟨y, hy⟩ := yeh (show j < l.length by omega)
            (repeat (first | refine zI ?_ | refine zL ?_ | refine zC ?_ | refine yai ?_ | refine yaj ?_ | refine zR ?_ | refine zD ?_ | refine zK ?_ | refine zB ?_ | refine zA ?_ | refine zS ?_ | refine zU ?_ | refine zV ?_ | refine zF ?_ | with_reducible refine yac ?_ | with_reducible refine yag ?_ | refine yad ?_ | refine yae ?_ | refine yaf ?_ | refine zT ?_ | refine zE ?_ | refine zX ?_))
            refine yaq rfl (fun h5 => ?_) (fun h5 => ?_)
            · simp at h5
              (repeat (first | refine zI ?_ | refine zL ?_ | refine zC ?_ | refine yai ?_ | refine yaj ?_ | refine zR ?_ | refine zD ?_ | refine zK ?_ | refine zB ?_ | refine zA ?_ | refine zS ?_ | refine zU ?_ | refine zV ?_ | refine zF ?_ | with_reducible refine yac ?_ | with_reducible refine yag ?_ | refine yad ?_ | refine yae ?_ | refine yaf ?_ | refine zT ?_ | refine zE ?_ | refine zX ?_))
              refine yas ?_; refine ⟨_, rfl, ?_⟩
              exact yau (linksB_twice h4 hy hx h5).symm
            · simp at h5
              (repeat (first | refine zI ?_ | refine zL ?_ | refine zC ?_ | refine yai ?_ | refine yaj ?_ | refine zR ?_ | refine zD ?_ | refine zK ?_ | refine zB ?_ | refine zA ?_ | refine zS ?_ | refine zU ?_ | refine zV ?_ | refine zF ?_ | with_reducible refine yac ?_ | with_reducible refine yag ?_ | refine yad ?_ | refine yae ?_ | refine yaf ?_ | refine zT ?_ | refine zE ?_ | refine zX ?_))
              refine rnd (j + 1) ⟨by omega, fun i z hi hz => ?_⟩ (by omega) (by (repeat (first | exact yan | refine yak rfl ?_))) (by first | exact yab | exact yaa rfl yab | exact yaa rfl (yaa rfl yab) | exact yaa rfl (yaa rfl (yaa rfl yab)) | exact yaa rfl (yaa rfl (yaa rfl (yaa rfl yab))))
              rcases Nat.lt_or_ge i j with h6 | h6
              · exact hjo i z h6 hz
              · obtain rfl : i = j := by omega
                rw [hy] at hz; cases hz; exact h5
          · simp at h4
            obtain rfl : j = k := by omega
            (repeat (first | refine zI ?_ | refine zL ?_ | refine zC ?_ | refine yai ?_ | refine yaj ?_ | refine zR ?_ | refine zD ?_ | refine zK ?_ | refine zB ?_ | refine zA ?_ | refine zS ?_ | refine zU ?_ | refine zV ?_ | refine zF ?_ | with_reducible refine yac ?_ | with_reducible refine yag ?_ | refine yad ?_ | refine yae ?_ | refine yaf ?_ | refine zT ?_ | refine zE ?_ | refine zX ?_))
            refine rnd (j + 1) ⟨by omega, linksB_step hx hok hlk hjo⟩ (by omega) (by (repeat (first | exact yan | refine yak rfl ?_))) (by first | exact yab | exact yaa rfl yab | exact yaa rfl (yaa rfl yab) | exact yaa rfl (yaa rfl (yaa rfl yab)) | exact yaa rfl (yaa rfl (yaa rfl (yaa rfl yab))))
  · simp at h
    obtain rfl : k = l.length := by omega
    (repeat (first | refine zI ?_ | refine zL ?_ | refine zC ?_ | refine yai ?_ | refine yaj ?_ | refine zR ?_ | refine zD ?_ | refine zK ?_ | refine zB ?_ | refine zA ?_ | refine zS ?_ | refine zU ?_ | refine zV ?_ | refine zF ?_ | with_reducible refine yac ?_ | with_reducible refine yag ?_ | refine yad ?_ | refine yae ?_ | refine yaf ?_ | refine zT ?_ | refine zE ?_ | refine zX ?_))
    refine yas ?_; refine ⟨_, rfl, ?_⟩
    rw [List.take_length] at hok
    exact yau hok.symm

theorem port_con (g : GraphD) (v : Int) (u : Int) (ls : List Lk) (h0 : 0 ≤ v) (hv : g.ports[v.toNat]? = some ls) (hlen : ls.length ≤ 5000) : Con Tryz.prog 72 [encG g, i64 v, i64 u] (i64 (portTo ls u)) := by
  refine ybs Tryz.func72 rfl rfl Tryz.ntmps72 Tryz.results72 rfl rfl ?_
  (repeat (first | refine zI ?_ | refine zL ?_ | refine zC ?_ | refine yai ?_ | refine yaj ?_ | refine zR ?_ | refine zD ?_ | refine zK ?_ | refine zB ?_ | refine zA ?_ | refine zS ?_ | refine zU ?_ | refine zV ?_ | refine zF ?_ | with_reducible refine yac ?_ | with_reducible refine yag ?_ | refine yad ?_ | refine yae ?_ | refine yaf ?_ | refine zT ?_ | refine zE ?_ | refine zX ?_))
  refine ydp (α := Nat) (fun k => [(7, i64 k), (3, .lp 3 0), (1, i64 v), (2, i64 u)]) (fun k => [(3, some (.cells [ybk g.ids, ybz g.ports]))]) (fun k => ls.length - k) (fun k => k ≤ ls.length ∧ ∀ (j : Nat) (y : Lk), j < k → ls[j]? = some y → y.1 ≠ u) 0 ⟨by omega, by omega⟩ (by (repeat (first | exact yan | refine yak rfl ?_))) (by first | exact yab | exact yaa rfl yab | exact yaa rfl (yaa rfl yab) | exact yaa rfl (yaa rfl (yaa rfl yab)) | exact yaa rfl (yaa rfl (yaa rfl (yaa rfl yab)))) ?_
  intro k ⟨hk, hok⟩
  (repeat (first | refine zI ?_ | refine zL ?_ | refine zC ?_ | refine yai ?_ | refine yaj ?_ | refine zR ?_ | refine zD ?_ | refine zK ?_ | refine zB ?_ | refine zA ?_ | refine zS ?_ | refine zU ?_ | refine zV ?_ | refine zF ?_ | with_reducible refine yac ?_ | with_reducible refine yag ?_ | refine yad ?_ | refine yae ?_ | refine yaf ?_ | refine zT ?_ | refine zE ?_ | refine zX ?_))
  refine yaq rfl (fun h => ?_) (fun h => ?_)
  · simp at h
    obtain ⟨x, hx⟩ := yeh h
    (repeat (first | refine zI ?_ | refine zL ?_ | refine zC ?_ | refine yai ?_ | refine yaj ?_ | refine zR ?_ | refine zD ?_ | refine zK ?_ | refine zB ?_ | refine zA ?_ | refine zS ?_ | refine zU ?_ | refine zV ?_ | refine zF ?_ | with_reducible refine yac ?_ | with_reducible refine yag ?_ | refine yad ?_ | refine yae ?_ | refine yaf ?_ | refine zT ?_ | refine zE ?_ | refine zX ?_))
    refine yaq rfl (fun h1 => ?_) (fun h1 => ?_)
    · simp at h1
      (repeat (first | refine zI ?_ | refine zL ?_ | refine zC ?_ | refine yai ?_ | refine yaj ?_ | refine zR ?_ | refine zD ?_ | refine zK ?_ | refine zB ?_ | refine zA ?_ | refine zS ?_ | refine zU ?_ | refine zV ?_ | refine zF ?_ | with_reducible refine yac ?_ | with_reducible refine yag ?_ | refine yad ?_ | refine yae ?_ | refine yaf ?_ | refine zT ?_ | refine zE ?_ | refine zX ?_))
      refine yas ?_; refine ⟨_, rfl, ?_⟩
      exact ydb (portTo_some hx h1 hok).symm
    · simp at h1
      (repeat (first | refine zI ?_ | refine zL ?_ | refine zC ?_ | refine yai ?_ | refine yaj ?_ | refine zR ?_ | refine zD ?_ | refine zK ?_ | refine zB ?_ | refine zA ?_ | refine zS ?_ | refine zU ?_ | refine zV ?_ | refine zF ?_ | with_reducible refine yac ?_ | with_reducible refine yag ?_ | refine yad ?_ | refine yae ?_ | refine yaf ?_ | refine zT ?_ | refine zE ?_ | refine zX ?_))
      refine rnd (k + 1) ⟨by omega, fun j y hj hy => ?_⟩ (by omega) (by (repeat (first | exact yan | refine yak rfl ?_))) (by first | exact yab | exact yaa rfl yab | exact yaa rfl (yaa rfl yab) | exact yaa rfl (yaa rfl (yaa rfl yab)) | exact yaa rfl (yaa rfl (yaa rfl (yaa rfl yab))))
      rcases Nat.lt_or_ge j k with h6 | h6
      · exact hok j y h6 hy
      · obtain rfl : j = k := by omega
        rw [hx] at hy; cases hy; exact h1
  · simp at h
    obtain rfl : k = ls.length := by omega
    (repeat (first | refine zI ?_ | refine zL ?_ | refine zC ?_ | refine yai ?_ | refine yaj ?_ | refine zR ?_ | refine zD ?_ | refine zK ?_ | refine zB ?_ | refine zA ?_ | refine zS ?_ | refine zU ?_ | refine zV ?_ | refine zF ?_ | with_reducible refine yac ?_ | with_reducible refine yag ?_ | refine yad ?_ | refine yae ?_ | refine yaf ?_ | refine zT ?_ | refine zE ?_ | refine zX ?_))
    refine yas ?_; refine ⟨_, rfl, ?_⟩
    exact ydb (portTo_none fun j y hy => hok j y (List.getElem?_eq_some_iff.1 hy).1 hy).symm
end Go.Proofs.YtmlkdoimkdbdpaaGreatDoor

set_option linter.unusedVariables false
set_option maxRecDepth 100000
set_option maxHeartbeats 8000000
namespace Go.Proofs.YtmlkdoimkdbdpaaGreatDoor
open Go.RowKit

theorem valid_len {g : GraphD} (h : ¬ (1 ≤ g.ports.length ∧ g.ports.length ≤ 24 ∧ g.ids.length = g.ports.length)) : yeq g = false := by
  rw [← Bool.not_eq_true, validG_iff]; intro h1; exact h ⟨h1.1, h1.2.1, h1.2.2.1⟩
theorem valid_ids {g : GraphD} (h : idsB g.ids = false) : yeq g = false := by
  rw [← Bool.not_eq_true, validG_iff]; intro h1; rw [h1.2.2.2.1] at h; cases h
theorem valid_ports {g : GraphD} {v : Nat} {ls : List Lk} (hv : g.ports[v]? = some ls) (h : yfk g.ports.length v ls = false) : yeq g = false := by
  rw [← Bool.not_eq_true, validG_iff]; intro h1; rw [portsB_iff] at h1; rw [h1.2.2.2.2.1 v ls hv] at h; cases h
theorem valid_sym {g : GraphD} {v : Nat} {ls : List Lk} {l : Lk} (hv : g.ports[v]? = some ls) (hl : l ∈ ls) (h : yec (g.ports.getD l.1.toNat []) v ≠ l.2) : yeq g = false := by
  rw [← Bool.not_eq_true, validG_iff]; intro h1; rw [symB_iff] at h1; exact h (h1.2.2.2.2.2 v ls hv l hl)

def midG (g : GraphD) : Prop := g.ids.length ≤ 5000 ∧ g.ports.length ≤ 5000 ∧ ∀ l ∈ g.ports, l.length ≤ 5000
theorem midG_of {g : GraphD} (h : lightG g = true) : midG g := by
  obtain ⟨h1, h2, h3⟩ := (lightG_iff g).1 h
  exact ⟨by omega, by omega, fun l hl => by have := h3 l hl; omega⟩
theorem rvalid_con' (g : GraphD) (hl : midG g) : Con Tryz.prog 52 [encG g] (yfp (yeq g)) := by
  obtain ⟨hl1, hl2, hl3⟩ := hl
  refine ybs Tryz.func52 rfl rfl Tryz.ntmps52 Tryz.results52 rfl rfl ?_
  (repeat (first | refine zI ?_ | refine zL ?_ | refine zC ?_ | refine yai ?_ | refine yaj ?_ | refine zR ?_ | refine zD ?_ | refine zK ?_ | refine zB ?_ | refine zA ?_ | refine zS ?_ | refine zU ?_ | refine zV ?_ | refine zF ?_ | with_reducible refine yac ?_ | with_reducible refine yag ?_ | refine yad ?_ | refine yae ?_ | refine yaf ?_ | refine zT ?_ | refine zE ?_ | refine zX ?_ | refine yar rfl rfl (in_con _ _ _) rfl rfl ?_))
  refine ybm 16 rfl (fun h1 => ?_) (fun h1 => ?_)
  · (repeat (first | refine zI ?_ | refine zL ?_ | refine zC ?_ | refine yai ?_ | refine yaj ?_ | refine zR ?_ | refine zD ?_ | refine zK ?_ | refine zB ?_ | refine zA ?_ | refine zS ?_ | refine zU ?_ | refine zV ?_ | refine zF ?_ | with_reducible refine yac ?_ | with_reducible refine yag ?_ | refine yad ?_ | refine yae ?_ | refine yaf ?_ | refine zT ?_ | refine zE ?_ | refine zX ?_))
    refine yas ?_; refine ⟨_, rfl, ?_⟩
    exact yau (valid_len (by simp [inB] at h1; omega)).symm
  simp [inB] at h1
  (repeat (first | refine zI ?_ | refine zL ?_ | refine zC ?_ | refine yai ?_ | refine yaj ?_ | refine zR ?_ | refine zD ?_ | refine zK ?_ | refine zB ?_ | refine zA ?_ | refine zS ?_ | refine zU ?_ | refine zV ?_ | refine zF ?_ | with_reducible refine yac ?_ | with_reducible refine yag ?_ | refine yad ?_ | refine yae ?_ | refine yaf ?_ | refine zT ?_ | refine zE ?_ | refine zX ?_))
  refine yaq rfl (fun h2 => ?_) (fun h2 => ?_)
  · simp at h2
    (repeat (first | refine zI ?_ | refine zL ?_ | refine zC ?_ | refine yai ?_ | refine yaj ?_ | refine zR ?_ | refine zD ?_ | refine zK ?_ | refine zB ?_ | refine zA ?_ | refine zS ?_ | refine zU ?_ | refine zV ?_ | refine zF ?_ | with_reducible refine yac ?_ | with_reducible refine yag ?_ | refine yad ?_ | refine yae ?_ | refine yaf ?_ | refine zT ?_ | refine zE ?_ | refine zX ?_))
    refine yas ?_; refine ⟨_, rfl, ?_⟩
    exact yau (valid_len (by omega)).symm
  simp at h2
  (repeat (first | refine zI ?_ | refine zL ?_ | refine zC ?_ | refine yai ?_ | refine yaj ?_ | refine zR ?_ | refine zD ?_ | refine zK ?_ | refine zB ?_ | refine zA ?_ | refine zS ?_ | refine zU ?_ | refine zV ?_ | refine zF ?_ | with_reducible refine yac ?_ | with_reducible refine yag ?_ | refine yad ?_ | refine yae ?_ | refine yaf ?_ | refine zT ?_ | refine zE ?_ | refine zX ?_))
  refine ydp (α := Nat) (fun k => [(4, i64 k), (3, i64 g.ports.length), (1, .lp 1 0)]) (fun k => [(1, some (.cells [ybk g.ids, ybz g.ports]))]) (fun k => g.ports.length - k) (fun k => k ≤ g.ports.length ∧ idsB (g.ids.take k) = true ∧ ∀ (v : Nat) (ls : List Lk), v < k → g.ports[v]? = some ls → yfk g.ports.length v ls = true) 0 ⟨by omega, rfl, by omega⟩ (by (repeat (first | exact yan | refine yak rfl ?_))) (by first | exact yab | exact yaa rfl yab | exact yaa rfl (yaa rfl yab) | exact yaa rfl (yaa rfl (yaa rfl yab)) | exact yaa rfl (yaa rfl (yaa rfl (yaa rfl yab)))) ?_
  intro k ⟨hk, hok1, hok2⟩
  (repeat (first | refine zI ?_ | refine zL ?_ | refine zC ?_ | refine yai ?_ | refine yaj ?_ | refine zR ?_ | refine zD ?_ | refine zK ?_ | refine zB ?_ | refine zA ?_ | refine zS ?_ | refine zU ?_ | refine zV ?_ | refine zF ?_ | with_reducible refine yac ?_ | with_reducible refine yag ?_ | refine yad ?_ | refine yae ?_ | refine yaf ?_ | refine zT ?_ | refine zE ?_ | refine zX ?_))
  refine yaq rfl (fun h => ?_) (fun h => ?_)
  · simp at h
    obtain ⟨x, hx⟩ := yeh (show k < g.ids.length by omega)
    obtain ⟨ls, hls⟩ := yeh h
    have hll := hl3 ls (List.mem_of_getElem? hls)
    (repeat (first | refine zI ?_ | refine zL ?_ | refine zC ?_ | refine yai ?_ | refine yaj ?_ | refine zR ?_ | refine zD ?_ | refine zK ?_ | refine zB ?_ | refine zA ?_ | refine zS ?_ | refine zU ?_ | refine zV ?_ | refine zF ?_ | with_reducible refine yac ?_ | with_reducible refine yag ?_ | refine yad ?_ | refine yae ?_ | refine yaf ?_ | refine zT ?_ | refine zE ?_ | refine zX ?_ | refine yar rfl rfl (in_con _ _ _) rfl rfl ?_))
    refine ybm 35 rfl (fun h3 => ?_) (fun h3 => ?_)
    · (repeat (first | refine zI ?_ | refine zL ?_ | refine zC ?_ | refine yai ?_ | refine yaj ?_ | refine zR ?_ | refine zD ?_ | refine zK ?_ | refine zB ?_ | refine zA ?_ | refine zS ?_ | refine zU ?_ | refine zV ?_ | refine zF ?_ | with_reducible refine yac ?_ | with_reducible refine yag ?_ | refine yad ?_ | refine yae ?_ | refine yaf ?_ | refine zT ?_ | refine zE ?_ | refine zX ?_))
      refine yas ?_; refine ⟨_, rfl, ?_⟩
      exact yau (valid_ids (idsB_bad hx (by simp [inB] at h3; simp [idB]; omega))).symm
    simp [inB] at h3
    (repeat (first | refine zI ?_ | refine zL ?_ | refine zC ?_ | refine yai ?_ | refine yaj ?_ | refine zR ?_ | refine zD ?_ | refine zK ?_ | refine zB ?_ | refine zA ?_ | refine zS ?_ | refine zU ?_ | refine zV ?_ | refine zF ?_ | with_reducible refine yac ?_ | with_reducible refine yag ?_ | refine yad ?_ | refine yae ?_ | refine yaf ?_ | refine zT ?_ | refine zE ?_ | refine zX ?_))
    refine ybm 45 rfl (fun h4 => ?_) (fun h4 => ?_)
    · simp at h4
      (repeat (first | refine zI ?_ | refine zL ?_ | refine zC ?_ | refine yai ?_ | refine yaj ?_ | refine zR ?_ | refine zD ?_ | refine zK ?_ | refine zB ?_ | refine zA ?_ | refine zS ?_ | refine zU ?_ | refine zV ?_ | refine zF ?_ | with_reducible refine yac ?_ | with_reducible refine yag ?_ | refine yad ?_ | refine yae ?_ | refine yaf ?_ | refine zT ?_ | refine zE ?_ | refine zX ?_))
      refine yas ?_; refine ⟨_, rfl, ?_⟩
      refine yau (valid_ports hls ?_).symm
      rw [← Bool.not_eq_true]
      intro h5
      have := links_short h h5
      omega
    simp at h4
    (repeat (first | refine zI ?_ | refine zL ?_ | refine zC ?_ | refine yai ?_ | refine yaj ?_ | refine zR ?_ | refine zD ?_ | refine zK ?_ | refine zB ?_ | refine zA ?_ | refine zS ?_ | refine zU ?_ | refine zV ?_ | refine zF ?_ | with_reducible refine yac ?_ | with_reducible refine yag ?_ | refine yad ?_ | refine yae ?_ | refine yaf ?_ | refine zT ?_ | refine zE ?_ | refine zX ?_ | refine yar rfl rfl (linksValid_con ls k g.ports.length (by omega) (by omega)) rfl rfl ?_))
    refine yaq rfl (fun h5 => ?_) (fun h5 => ?_)
    · (repeat (first | refine zI ?_ | refine zL ?_ | refine zC ?_ | refine yai ?_ | refine yaj ?_ | refine zR ?_ | refine zD ?_ | refine zK ?_ | refine zB ?_ | refine zA ?_ | refine zS ?_ | refine zU ?_ | refine zV ?_ | refine zF ?_ | with_reducible refine yac ?_ | with_reducible refine yag ?_ | refine yad ?_ | refine yae ?_ | refine yaf ?_ | refine zT ?_ | refine zE ?_ | refine zX ?_))
      refine yas ?_; refine ⟨_, rfl, ?_⟩
      exact yau (valid_ports hls (by simpa using h5)).symm
    simp at h5
    (repeat (first | refine zI ?_ | refine zL ?_ | refine zC ?_ | refine yai ?_ | refine yaj ?_ | refine zR ?_ | refine zD ?_ | refine zK ?_ | refine zB ?_ | refine zA ?_ | refine zS ?_ | refine zU ?_ | refine zV ?_ | refine zF ?_ | with_reducible refine yac ?_ | with_reducible refine yag ?_ | refine yad ?_ | refine yae ?_ | refine yaf ?_ | refine zT ?_ | refine zE ?_ | refine zX ?_))
    refine ydp (α := Nat) (fun j => [(5, i64 j), (4, i64 k), (3, i64 g.ports.length), (1, .lp 1 0)]) (fun k => [(1, some (.cells [ybk g.ids, ybz g.ports]))]) (fun j => k - j) (fun j => j ≤ k ∧ x ∉ g.ids.take j) 0 ⟨by omega, by simp⟩ (by (repeat (first | exact yan | refine yak rfl ?_))) (by first | exact yab | exact yaa rfl yab | exact yaa rfl (yaa rfl yab) | exact yaa rfl (yaa rfl (yaa rfl yab)) | exact yaa rfl (yaa rfl (yaa rfl (yaa rfl yab)))) ?_
    intro j ⟨hj, hjo⟩
    (repeat (first | refine zI ?_ | refine zL ?_ | refine zC ?_ | refine yai ?_ | refine yaj ?_ | refine zR ?_ | refine zD ?_ | refine zK ?_ | refine zB ?_ | refine zA ?_ | refine zS ?_ | refine zU ?_ | refine zV ?_ | refine zF ?_ | with_reducible refine yac ?_ | with_reducible refine yag ?_ | refine yad ?_ | refine yae ?_ | refine yaf ?_ | refine zT ?_ | refine zE ?_ | refine zX ?_))
    refine yaq rfl (fun h6 => ?_) (fun h6 => ?_)
    · simp at h6
      obtain ⟨y, hy⟩ := yeh (show j < g.ids.length by omega)
      (repeat (first | refine zI ?_ | refine zL ?_ | refine zC ?_ | refine yai ?_ | refine yaj ?_ | refine zR ?_ | refine zD ?_ | refine zK ?_ | refine zB ?_ | refine zA ?_ | refine zS ?_ | refine zU ?_ | refine zV ?_ | refine zF ?_ | with_reducible refine yac ?_ | with_reducible refine yag ?_ | refine yad ?_ | refine yae ?_ | refine yaf ?_ | refine zT ?_ | refine zE ?_ | refine zX ?_))
      refine yaq rfl (fun h7 => ?_) (fun h7 => ?_)
      · simp at h7
        (repeat (first | refine zI ?_ | refine zL ?_ | refine zC ?_ | refine yai ?_ | refine yaj ?_ | refine zR ?_ | refine zD ?_ | refine zK ?_ | refine zB ?_ | refine zA ?_ | refine zS ?_ | refine zU ?_ | refine zV ?_ | refine zF ?_ | with_reducible refine yac ?_ | with_reducible refine yag ?_ | refine yad ?_ | refine yae ?_ | refine yaf ?_ | refine zT ?_ | refine zE ?_ | refine zX ?_))
        refine yas ?_; refine ⟨_, rfl, ?_⟩
        refine yau (valid_ids (idsB_twice hx ?_)).symm
        subst h7
        exact List.mem_of_getElem? (show (g.ids.take k)[j]? = some y by rw [List.getElem?_take, if_pos h6]; exact hy)
      · simp at h7
        (repeat (first | refine zI ?_ | refine zL ?_ | refine zC ?_ | refine yai ?_ | refine yaj ?_ | refine zR ?_ | refine zD ?_ | refine zK ?_ | refine zB ?_ | refine zA ?_ | refine zS ?_ | refine zU ?_ | refine zV ?_ | refine zF ?_ | with_reducible refine yac ?_ | with_reducible refine yag ?_ | refine yad ?_ | refine yae ?_ | refine yaf ?_ | refine zT ?_ | refine zE ?_ | refine zX ?_))
        refine rnd (j + 1) ⟨by omega, ?_⟩ (by omega) (by (repeat (first | exact yan | refine yak rfl ?_))) (by first | exact yab | exact yaa rfl yab | exact yaa rfl (yaa rfl yab) | exact yaa rfl (yaa rfl (yaa rfl yab)) | exact yaa rfl (yaa rfl (yaa rfl (yaa rfl yab))))
        rw [yeo hy]
        simp only [List.mem_append, List.mem_singleton, not_or]
        exact ⟨hjo, fun e => h7 e.symm⟩
    · simp at h6
      obtain rfl : j = k := by omega
      (repeat (first | refine zI ?_ | refine zL ?_ | refine zC ?_ | refine yai ?_ | refine yaj ?_ | refine zR ?_ | refine zD ?_ | refine zK ?_ | refine zB ?_ | refine zA ?_ | refine zS ?_ | refine zU ?_ | refine zV ?_ | refine zF ?_ | with_reducible refine yac ?_ | with_reducible refine yag ?_ | refine yad ?_ | refine yae ?_ | refine yaf ?_ | refine zT ?_ | refine zE ?_ | refine zX ?_))
      refine rnd (j + 1) ⟨by omega, idsB_step hx hok1 (by simp [idB]; omega) hjo, fun v ls' hv hls' => ?_⟩ (by omega) (by (repeat (first | exact yan | refine yak rfl ?_))) (by first | exact yab | exact yaa rfl yab | exact yaa rfl (yaa rfl yab) | exact yaa rfl (yaa rfl (yaa rfl yab)) | exact yaa rfl (yaa rfl (yaa rfl (yaa rfl yab))))
      rcases Nat.lt_or_ge v j with h8 | h8
      · exact hok2 v ls' h8 hls'
      · obtain rfl : v = j := by omega
        rw [hls] at hls'; cases hls'; exact h5
  · simp at h
    obtain rfl : k = g.ports.length := by omega
    have hids : idsB g.ids = true := by rw [show g.ports.length = g.ids.length by omega, List.take_length] at hok1; exact hok1
    have hports : portsB g.ports = true := by rw [portsB_iff]; exact fun v ls hv => hok2 v ls (List.getElem?_eq_some_iff.1 hv).1 hv
    clear hok1 hok2
    (repeat (first | refine zI ?_ | refine zL ?_ | refine zC ?_ | refine yai ?_ | refine yaj ?_ | refine zR ?_ | refine zD ?_ | refine zK ?_ | refine zB ?_ | refine zA ?_ | refine zS ?_ | refine zU ?_ | refine zV ?_ | refine zF ?_ | with_reducible refine yac ?_ | with_reducible refine yag ?_ | refine yad ?_ | refine yae ?_ | refine yaf ?_ | refine zT ?_ | refine zE ?_ | refine zX ?_))
    refine ydp (α := Nat) (fun k => [(6, i64 k), (3, i64 g.ports.length), (1, .lp 1 0)]) (fun k => [(1, some (.cells [ybk g.ids, ybz g.ports]))]) (fun k => g.ports.length - k) (fun k => k ≤ g.ports.length ∧ ∀ (v : Nat) (ls : List Lk), v < k → g.ports[v]? = some ls → ∀ l ∈ ls, yec (g.ports.getD l.1.toNat []) v = l.2) 0 ⟨by omega, by omega⟩ (by (repeat (first | exact yan | refine yak rfl ?_))) (by first | exact yab | exact yaa rfl yab | exact yaa rfl (yaa rfl yab) | exact yaa rfl (yaa rfl (yaa rfl yab)) | exact yaa rfl (yaa rfl (yaa rfl (yaa rfl yab)))) ?_
    intro k ⟨hk, hok⟩
    (repeat (first | refine zI ?_ | refine zL ?_ | refine zC ?_ | refine yai ?_ | refine yaj ?_ | refine zR ?_ | refine zD ?_ | refine zK ?_ | refine zB ?_ | refine zA ?_ | refine zS ?_ | refine zU ?_ | refine zV ?_ | refine zF ?_ | with_reducible refine yac ?_ | with_reducible refine yag ?_ | refine yad ?_ | refine yae ?_ | refine yaf ?_ | refine zT ?_ | refine zE ?_ | refine zX ?_))
    refine yaq rfl (fun h3 => ?_) (fun h3 => ?_)
    · simp at h3
      obtain ⟨ls, hls⟩ := yeh h3
      have hll := hl3 ls (List.mem_of_getElem? hls)
      (repeat (first | refine zI ?_ | refine zL ?_ | refine zC ?_ | refine yai ?_ | refine yaj ?_ | refine zR ?_ | refine zD ?_ | refine zK ?_ | refine zB ?_ | refine zA ?_ | refine zS ?_ | refine zU ?_ | refine zV ?_ | refine zF ?_ | with_reducible refine yac ?_ | with_reducible refine yag ?_ | refine yad ?_ | refine yae ?_ | refine yaf ?_ | refine zT ?_ | refine zE ?_ | refine zX ?_))
      refine ydp (α := Nat) (fun i => [(7, i64 i), (6, i64 k), (3, i64 g.ports.length), (1, .lp 1 0)]) (fun k => [(1, some (.cells [ybk g.ids, ybz g.ports]))]) (fun i => ls.length - i) (fun i => i ≤ ls.length ∧ ∀ l ∈ ls.take i, yec (g.ports.getD l.1.toNat []) k = l.2) 0 ⟨by omega, by simp⟩ (by (repeat (first | exact yan | refine yak rfl ?_))) (by first | exact yab | exact yaa rfl yab | exact yaa rfl (yaa rfl yab) | exact yaa rfl (yaa rfl (yaa rfl yab)) | exact yaa rfl (yaa rfl (yaa rfl (yaa rfl yab)))) ?_
      intro i ⟨hi, hio⟩
      (repeat (first | refine zI ?_ | refine zL ?_ | refine zC ?_ | refine yai ?_ | refine yaj ?_ | refine zR ?_ | refine zD ?_ | refine zK ?_ | refine zB ?_ | refine zA ?_ | refine zS ?_ | refine zU ?_ | refine zV ?_ | refine zF ?_ | with_reducible refine yac ?_ | with_reducible refine yag ?_ | refine yad ?_ | refine yae ?_ | refine yaf ?_ | refine zT ?_ | refine zE ?_ | refine zX ?_))
      refine yaq rfl (fun h4 => ?_) (fun h4 => ?_)
      · simp at h4
        obtain ⟨l, hlk⟩ := yeh h4
        have hlb := (ycw _ _ _).1 (((yez _ _ _).1 ((portsB_iff _).1 hports k ls hls)).1 l (List.mem_of_getElem? hlk))
        obtain ⟨os, hos⟩ := yeh (show l.1.toNat < g.ports.length by omega)
        have hol := hl3 os (List.mem_of_getElem? hos)
        have hgd : g.ports.getD l.1.toNat [] = os := by rw [List.getD_eq_getElem?_getD, hos]; rfl
        (repeat (first | refine zI ?_ | refine zL ?_ | refine zC ?_ | refine yai ?_ | refine yaj ?_ | refine zR ?_ | refine zD ?_ | refine zK ?_ | refine zB ?_ | refine zA ?_ | refine zS ?_ | refine zU ?_ | refine zV ?_ | refine zF ?_ | with_reducible refine yac ?_ | with_reducible refine yag ?_ | refine yad ?_ | refine yae ?_ | refine yaf ?_ | refine zT ?_ | refine zE ?_ | refine zX ?_ | refine yar rfl rfl (port_con g l.1 k os (by omega) hos (by omega)) rfl rfl ?_))
        rcases portTo_cases os k with ⟨hp, hpn⟩ | ⟨q, y, hp, hy, hyk, hfd⟩
        · refine ybm 102 rfl (fun h5 => ?_) (fun h5 => ?_)
          · (repeat (first | refine zI ?_ | refine zL ?_ | refine zC ?_ | refine yai ?_ | refine yaj ?_ | refine zR ?_ | refine zD ?_ | refine zK ?_ | refine zB ?_ | refine zA ?_ | refine zS ?_ | refine zU ?_ | refine zV ?_ | refine zF ?_ | with_reducible refine yac ?_ | with_reducible refine yag ?_ | refine yad ?_ | refine yae ?_ | refine yaf ?_ | refine zT ?_ | refine zE ?_ | refine zX ?_))
            refine yas ?_; refine ⟨_, rfl, ?_⟩
            refine yau (valid_sym hls (List.mem_of_getElem? hlk) ?_).symm
            rw [hgd, weight_none hpn]
            omega
          · rw [hp] at h5; simp at h5
        · have hwt := weight_some hfd
          refine ybm 102 rfl (fun h5 => ?_) (fun h5 => ?_)
          · rw [hp] at h5; simp at h5; omega
          · rw [hp]
            (repeat (first | refine zI ?_ | refine zL ?_ | refine zC ?_ | refine yai ?_ | refine yaj ?_ | refine zR ?_ | refine zD ?_ | refine zK ?_ | refine zB ?_ | refine zA ?_ | refine zS ?_ | refine zU ?_ | refine zV ?_ | refine zF ?_ | with_reducible refine yac ?_ | with_reducible refine yag ?_ | refine yad ?_ | refine yae ?_ | refine yaf ?_ | refine zT ?_ | refine zE ?_ | refine zX ?_))
            refine yaq rfl (fun h6 => ?_) (fun h6 => ?_)
            · (repeat (first | refine zI ?_ | refine zL ?_ | refine zC ?_ | refine yai ?_ | refine yaj ?_ | refine zR ?_ | refine zD ?_ | refine zK ?_ | refine zB ?_ | refine zA ?_ | refine zS ?_ | refine zU ?_ | refine zV ?_ | refine zF ?_ | with_reducible refine yac ?_ | with_reducible refine yag ?_ | refine yad ?_ | refine yae ?_ | refine yaf ?_ | refine zT ?_ | refine zE ?_ | refine zX ?_))
              refine yas ?_; refine ⟨_, rfl, ?_⟩
              refine yau (valid_sym hls (List.mem_of_getElem? hlk) ?_).symm
              rw [hgd, hwt]
              simpa using h6
            · simp at h6
              (repeat (first | refine zI ?_ | refine zL ?_ | refine zC ?_ | refine yai ?_ | refine yaj ?_ | refine zR ?_ | refine zD ?_ | refine zK ?_ | refine zB ?_ | refine zA ?_ | refine zS ?_ | refine zU ?_ | refine zV ?_ | refine zF ?_ | with_reducible refine yac ?_ | with_reducible refine yag ?_ | refine yad ?_ | refine yae ?_ | refine yaf ?_ | refine zT ?_ | refine zE ?_ | refine zX ?_))
              refine rnd (i + 1) ⟨by omega, fun z hz => ?_⟩ (by omega) (by (repeat (first | exact yan | refine yak rfl ?_))) (by first | exact yab | exact yaa rfl yab | exact yaa rfl (yaa rfl yab) | exact yaa rfl (yaa rfl (yaa rfl yab)) | exact yaa rfl (yaa rfl (yaa rfl (yaa rfl yab))))
              rw [yeo hlk] at hz
              rcases List.mem_append.1 hz with hz | hz
              · exact hio z hz
              · simp at hz; subst hz; rw [hgd, hwt, h6]
      · simp at h4
        obtain rfl : i = ls.length := by omega
        rw [List.take_length] at hio
        (repeat (first | refine zI ?_ | refine zL ?_ | refine zC ?_ | refine yai ?_ | refine yaj ?_ | refine zR ?_ | refine zD ?_ | refine zK ?_ | refine zB ?_ | refine zA ?_ | refine zS ?_ | refine zU ?_ | refine zV ?_ | refine zF ?_ | with_reducible refine yac ?_ | with_reducible refine yag ?_ | refine yad ?_ | refine yae ?_ | refine yaf ?_ | refine zT ?_ | refine zE ?_ | refine zX ?_))
        refine rnd (k + 1) ⟨by omega, fun v ls' hv hls' => ?_⟩ (by omega) (by (repeat (first | exact yan | refine yak rfl ?_))) (by first | exact yab | exact yaa rfl yab | exact yaa rfl (yaa rfl yab) | exact yaa rfl (yaa rfl (yaa rfl yab)) | exact yaa rfl (yaa rfl (yaa rfl (yaa rfl yab))))
        rcases Nat.lt_or_ge v k with h8 | h8
        · exact hok v ls' h8 hls'
        · obtain rfl : v = k := by omega
          rw [hls] at hls'; cases hls'; exact hio
    · simp at h3
      obtain rfl : k = g.ports.length := by omega
      (repeat (first | refine zI ?_ | refine zL ?_ | refine zC ?_ | refine yai ?_ | refine yaj ?_ | refine zR ?_ | refine zD ?_ | refine zK ?_ | refine zB ?_ | refine zA ?_ | refine zS ?_ | refine zU ?_ | refine zV ?_ | refine zF ?_ | with_reducible refine yac ?_ | with_reducible refine yag ?_ | refine yad ?_ | refine yae ?_ | refine yaf ?_ | refine zT ?_ | refine zE ?_ | refine zX ?_))
      refine yas ?_; refine ⟨_, rfl, ?_⟩
      refine yau ?_
      rw [eq_comm, validG_iff]
      exact ⟨by omega, by omega, by omega, hids, hports, (symB_iff _).2 fun v ls hv => hok v ls (List.getElem?_eq_some_iff.1 hv).1 hv⟩
end Go.Proofs.YtmlkdoimkdbdpaaGreatDoor

set_option linter.unusedVariables false
set_option maxRecDepth 100000
set_option maxHeartbeats 8000000
namespace Go.Proofs.YtmlkdoimkdbdpaaGreatDoor
open Go.RowKit Go.Maps Go.WideMaps

theorem laidB : laidOutB Tryz.prog = true := by kernel_rfl
theorem arr2 : ArrKey Tryz.prog 87 3 2 := ⟨Tryz.underlying87, by kernel_rfl, by kernel_rfl, by kernel_rfl⟩
theorem wide2 : (match Tryz.prog.underlying 87 with | some (.array _ _) | some (.struct _) => true | _ => false) = true := by rw [Tryz.underlying87]
theorem row2 : (87 : TypeId) < Tryz.prog.types.size := of_decide_eq_true (by kernel_rfl)
theorem keyed2 : Keyed Tryz.prog 87 := Keyed.of_law (deep_law_laid laidB (m := 2) (by omega) row2 (by kernel_rfl) wide2)
def keyV (v u : Int) : Value := .agg #[.int .i64 v, .int .i64 u]
theorem keyV_inj {a b c d : Int} (h : keyV a b = keyV c d) : a = c ∧ b = d := by
  unfold keyV at h; simpa using h
theorem typesPos : ∃ m, Tryz.prog.types.size = m + 1 := by
  have h : 0 < Tryz.prog.types.size := of_decide_eq_true (by kernel_rfl)
  exact ⟨Tryz.prog.types.size - 1, by omega⟩
theorem wf_small {x : Int} (h : 0 ≤ x ∧ x ≤ 5000) : (Lit.int .i64 x).wf = true := by
  have e1 : IntKind.i64.min = -9223372036854775808 := by decide
  have e2 : IntKind.i64.max = 9223372036854775807 := by decide
  simp only [Lit.wf, Bool.and_eq_true, decide_eq_true_eq]
  omega
theorem keyV_key {v u : Int} (hv : 0 ≤ v ∧ v ≤ 5000) (hu : 0 ≤ u ∧ u ≤ 5000) : ∃ l, keyOf Tryz.prog 87 (keyV v u) = some l :=
  ⟨_, keyOf_pair arr2 Tryz.underlying3 typesPos (wf_small hv) (wf_small hu)⟩
theorem zeroI : ∀ w, (zeroValue 3).run Tryz.prog w = .ok (.int .i64 0) w := fun w => by kernel_rfl

def EntOf (ports : List (List Lk)) (k i : Nat) (e : Value × Value) : Prop := ∃ (v j : Nat) (ls : List Lk) (l : Lk), ports[v]? = some ls ∧ ls[j]? = some l ∧ (v < k ∨ (v = k ∧ j < i)) ∧ e = (keyV v l.1, .int .i64 l.2)
theorem ent_next {ports : List (List Lk)} {k i : Nat} {ls : List Lk} {l : Lk} {es : List (Value × Value)} (hls : ports[k]? = some ls) (hl : ls[i]? = some l) (h : ∀ e, e ∈ es ↔ EntOf ports k i e) (e : Value × Value) : e ∈ es ++ [(keyV k l.1, .int .i64 l.2)] ↔ EntOf ports k (i + 1) e := by
  rw [List.mem_append, h e, List.mem_singleton]
  constructor
  · rintro (⟨v, j, ls', l', h1, h2, h3, h4⟩ | rfl)
    · exact ⟨v, j, ls', l', h1, h2, by omega, h4⟩
    · exact ⟨k, i, ls, l, hls, hl, .inr ⟨rfl, by omega⟩, rfl⟩
  · rintro ⟨v, j, ls', l', h1, h2, h3, h4⟩
    by_cases hvj : v = k ∧ j = i
    · obtain ⟨rfl, rfl⟩ := hvj
      rw [hls] at h1; cases h1
      rw [hl] at h2; cases h2
      exact .inr h4
    · exact .inl ⟨v, j, ls', l', h1, h2, by omega, h4⟩
theorem ent_row {ports : List (List Lk)} {k : Nat} {ls : List Lk} (hls : ports[k]? = some ls) (e : Value × Value) : EntOf ports k ls.length e ↔ EntOf ports (k + 1) 0 e := by
  constructor
  · rintro ⟨v, j, ls', l', h1, h2, h3, h4⟩
    exact ⟨v, j, ls', l', h1, h2, by omega, h4⟩
  · rintro ⟨v, j, ls', l', h1, h2, h3, h4⟩
    refine ⟨v, j, ls', l', h1, h2, ?_, h4⟩
    rcases Nat.lt_or_ge v k with h | h
    · exact .inl h
    · obtain rfl : v = k := by omega
      rw [hls] at h1; cases h1
      exact .inr ⟨rfl, (List.getElem?_eq_some_iff.1 h2).1⟩
theorem nodup_at {n v : Nat} {ls : List Lk} (h : yfk n v ls = true) {i j : Nat} {a b : Lk} (hi : ls[i]? = some a) (hj : ls[j]? = some b) (he : a.1 = b.1) : i = j := by
  have hn := ((yez _ _ _).1 h).2
  have g1 := List.getElem?_eq_some_iff.1 hi
  have g2 := List.getElem?_eq_some_iff.1 hj
  rcases Nat.lt_trichotomy i j with h1 | h1 | h1
  · have := (List.pairwise_iff_getElem.1 hn) i j (by simpa using g1.1) (by simpa using g2.1) h1
    simp [g1.2, g2.2, he] at this
  · exact h1
  · have := (List.pairwise_iff_getElem.1 hn) j i (by simpa using g2.1) (by simpa using g1.1) h1
    simp [g1.2, g2.2, he] at this

def symG (ports : List (List Lk)) : Bool := portsB ports && symB ports
theorem symG_ports {ports : List (List Lk)} {v : Nat} {ls : List Lk} (hv : ports[v]? = some ls) (h : yfk ports.length v ls = false) : symG ports = false := by
  unfold symG
  rw [← Bool.not_eq_true, Bool.and_eq_true, portsB_iff]; intro h1; rw [h1.1 v ls hv] at h; cases h
theorem symG_sym {ports : List (List Lk)} {v : Nat} {ls : List Lk} {l : Lk} (hv : ports[v]? = some ls) (hl : l ∈ ls) (h : yec (ports.getD l.1.toNat []) v ≠ l.2) : symG ports = false := by
  unfold symG
  rw [← Bool.not_eq_true, Bool.and_eq_true, symB_iff]; intro h1; exact h (h1.2 v ls hv l hl)

theorem symmetric_con (ports : List (List Lk)) (hn : ports.length ≤ 30) (hp : ∀ l ∈ ports, l.length ≤ 5000) : Con Tryz.prog 62 [ybz ports] (yfp (symG ports)) := by
  refine ybs Tryz.func62 rfl rfl Tryz.ntmps62 Tryz.results62 rfl rfl ?_
  (repeat (first | refine zI ?_ | refine zL ?_ | refine zC ?_ | refine yai ?_ | refine yaj ?_ | refine zR ?_ | refine zD ?_ | refine zK ?_ | refine zB ?_ | refine zA ?_ | refine zS ?_ | refine zU ?_ | refine zV ?_ | refine zF ?_ | with_reducible refine yac ?_ | with_reducible refine yag ?_ | refine yad ?_ | refine yae ?_ | refine yaf ?_ | refine zT ?_ | refine zE ?_ | refine zX ?_ | refine L_makeMap rfl rfl rfl rfl rfl ?_))
  refine ydp (α := Nat × List (Value × Value)) (fun s => [(16, i64 s.1), (15, i64 ports.length), (14, ybz ports), (0, ybz ports), (3, .mp 13)]) (fun s => [(13, some (.map s.2))]) (fun s => ports.length - s.1)
    (fun s => s.1 ≤ ports.length ∧ (∀ (v : Nat) (ls : List Lk), v < s.1 → ports[v]? = some ls → yfk ports.length v ls = true) ∧ ∀ e, e ∈ s.2 ↔ EntOf ports s.1 0 e) (0, []) ⟨by omega, by omega, fun e => by simp; rintro ⟨v, j, _, _, _, _, h, _⟩; omega⟩ (by (repeat (first | exact yan | refine yak rfl ?_))) (by first | exact yab | exact yaa rfl yab | exact yaa rfl (yaa rfl yab) | exact yaa rfl (yaa rfl (yaa rfl yab)) | exact yaa rfl (yaa rfl (yaa rfl (yaa rfl yab)))) ?_
  rintro ⟨k, es⟩ ⟨hk, hok, hes⟩
  simp only at hk hok hes
  (repeat (first | refine zI ?_ | refine zL ?_ | refine zC ?_ | refine yai ?_ | refine yaj ?_ | refine zR ?_ | refine zD ?_ | refine zK ?_ | refine zB ?_ | refine zA ?_ | refine zS ?_ | refine zU ?_ | refine zV ?_ | refine zF ?_ | with_reducible refine yac ?_ | with_reducible refine yag ?_ | refine yad ?_ | refine yae ?_ | refine yaf ?_ | refine zT ?_ | refine zE ?_ | refine zX ?_))
  refine yaq rfl (fun h => ?_) (fun h => ?_)
  · simp at h
    obtain ⟨ls, hls⟩ := yeh h
    have hll := hp ls (List.mem_of_getElem? hls)
    (repeat (first | refine zI ?_ | refine zL ?_ | refine zC ?_ | refine yai ?_ | refine yaj ?_ | refine zR ?_ | refine zD ?_ | refine zK ?_ | refine zB ?_ | refine zA ?_ | refine zS ?_ | refine zU ?_ | refine zV ?_ | refine zF ?_ | with_reducible refine yac ?_ | with_reducible refine yag ?_ | refine yad ?_ | refine yae ?_ | refine yaf ?_ | refine zT ?_ | refine zE ?_ | refine zX ?_))
    refine ydp (α := Nat × List (Value × Value)) (fun s => [(23, i64 s.1), (22, i64 ls.length), (21, encLinks ls), (4, i64 k), (16, i64 k), (15, i64 ports.length), (14, ybz ports), (0, ybz ports), (3, .mp 13)]) (fun s => [(13, some (.map s.2))]) (fun s => ls.length - s.1)
      (fun s => s.1 ≤ ls.length ∧ yfk ports.length k (ls.take s.1) = true ∧ ∀ e, e ∈ s.2 ↔ EntOf ports k s.1 e) (0, es) ⟨by omega, rfl, hes⟩ (by (repeat (first | exact yan | refine yak rfl ?_))) (by first | exact yab | exact yaa rfl yab | exact yaa rfl (yaa rfl yab) | exact yaa rfl (yaa rfl (yaa rfl yab)) | exact yaa rfl (yaa rfl (yaa rfl (yaa rfl yab)))) ?_
    rintro ⟨i, es'⟩ ⟨hi, hio, hes'⟩
    simp only at hi hio hes'
    (repeat (first | refine zI ?_ | refine zL ?_ | refine zC ?_ | refine yai ?_ | refine yaj ?_ | refine zR ?_ | refine zD ?_ | refine zK ?_ | refine zB ?_ | refine zA ?_ | refine zS ?_ | refine zU ?_ | refine zV ?_ | refine zF ?_ | with_reducible refine yac ?_ | with_reducible refine yag ?_ | refine yad ?_ | refine yae ?_ | refine yaf ?_ | refine zT ?_ | refine zE ?_ | refine zX ?_))
    refine yaq rfl (fun h1 => ?_) (fun h1 => ?_)
    · simp at h1
      obtain ⟨l, hl⟩ := yeh h1
      (repeat (first | refine zI ?_ | refine zL ?_ | refine zC ?_ | refine yai ?_ | refine yaj ?_ | refine zR ?_ | refine zD ?_ | refine zK ?_ | refine zB ?_ | refine zA ?_ | refine zS ?_ | refine zU ?_ | refine zV ?_ | refine zF ?_ | with_reducible refine yac ?_ | with_reducible refine yag ?_ | refine yad ?_ | refine yae ?_ | refine yaf ?_ | refine zT ?_ | refine zE ?_ | refine zX ?_))
      refine ybm 30 rfl (fun h2 => ?_) (fun h2 => ?_)
      · simp at h2
        (repeat (first | refine zI ?_ | refine zL ?_ | refine zC ?_ | refine yai ?_ | refine yaj ?_ | refine zR ?_ | refine zD ?_ | refine zK ?_ | refine zB ?_ | refine zA ?_ | refine zS ?_ | refine zU ?_ | refine zV ?_ | refine zF ?_ | with_reducible refine yac ?_ | with_reducible refine yag ?_ | refine yad ?_ | refine yae ?_ | refine yaf ?_ | refine zT ?_ | refine zE ?_ | refine zX ?_))
        refine yas ?_; refine ⟨_, rfl, ?_⟩
        exact yau (symG_ports hls (yey hl (by rw [← Bool.not_eq_true, ycw]; omega))).symm
      simp at h2
      (repeat (first | refine zI ?_ | refine zL ?_ | refine zC ?_ | refine yai ?_ | refine yaj ?_ | refine zR ?_ | refine zD ?_ | refine zK ?_ | refine zB ?_ | refine zA ?_ | refine zS ?_ | refine zU ?_ | refine zV ?_ | refine zF ?_ | with_reducible refine yac ?_ | with_reducible refine yag ?_ | refine yad ?_ | refine yae ?_ | refine yaf ?_ | refine zT ?_ | refine zE ?_ | refine zX ?_))
      refine ybm 37 rfl (fun h3 => ?_) (fun h3 => ?_)
      · simp at h3
        (repeat (first | refine zI ?_ | refine zL ?_ | refine zC ?_ | refine yai ?_ | refine yaj ?_ | refine zR ?_ | refine zD ?_ | refine zK ?_ | refine zB ?_ | refine zA ?_ | refine zS ?_ | refine zU ?_ | refine zV ?_ | refine zF ?_ | with_reducible refine yac ?_ | with_reducible refine yag ?_ | refine yad ?_ | refine yae ?_ | refine yaf ?_ | refine zT ?_ | refine zE ?_ | refine zX ?_))
        refine yas ?_; refine ⟨_, rfl, ?_⟩
        exact yau (symG_ports hls (yey hl (by rw [← Bool.not_eq_true, ycw]; omega))).symm
      simp at h3
      (repeat (first | refine zI ?_ | refine zL ?_ | refine zC ?_ | refine yai ?_ | refine yaj ?_ | refine zR ?_ | refine zD ?_ | refine zK ?_ | refine zB ?_ | refine zA ?_ | refine zS ?_ | refine zU ?_ | refine zV ?_ | refine zF ?_ | with_reducible refine yac ?_ | with_reducible refine yag ?_ | refine yad ?_ | refine yae ?_ | refine yaf ?_ | refine zT ?_ | refine zE ?_ | refine zX ?_))
      refine yaq rfl (fun h4 => ?_) (fun h4 => ?_)
      · simp at h4
        (repeat (first | refine zI ?_ | refine zL ?_ | refine zC ?_ | refine yai ?_ | refine yaj ?_ | refine zR ?_ | refine zD ?_ | refine zK ?_ | refine zB ?_ | refine zA ?_ | refine zS ?_ | refine zU ?_ | refine zV ?_ | refine zF ?_ | with_reducible refine yac ?_ | with_reducible refine yag ?_ | refine yad ?_ | refine yae ?_ | refine yaf ?_ | refine zT ?_ | refine zE ?_ | refine zX ?_))
        refine yas ?_; refine ⟨_, rfl, ?_⟩
        exact yau (symG_ports hls (yey hl (by rw [← Bool.not_eq_true, ycw]; omega))).symm
      simp at h4
      (repeat (first | refine zI ?_ | refine zL ?_ | refine zC ?_ | refine yai ?_ | refine yaj ?_ | refine zR ?_ | refine zD ?_ | refine zK ?_ | refine zB ?_ | refine zA ?_ | refine zS ?_ | refine zU ?_ | refine zV ?_ | refine zF ?_ | with_reducible refine yac ?_ | with_reducible refine yag ?_ | refine yad ?_ | refine yae ?_ | refine yaf ?_ | refine zT ?_ | refine zE ?_ | refine zX ?_))
      refine ybm 46 rfl (fun h5 => ?_) (fun h5 => ?_)
      · simp at h5
        (repeat (first | refine zI ?_ | refine zL ?_ | refine zC ?_ | refine yai ?_ | refine yaj ?_ | refine zR ?_ | refine zD ?_ | refine zK ?_ | refine zB ?_ | refine zA ?_ | refine zS ?_ | refine zU ?_ | refine zV ?_ | refine zF ?_ | with_reducible refine yac ?_ | with_reducible refine yag ?_ | refine yad ?_ | refine yae ?_ | refine yaf ?_ | refine zT ?_ | refine zE ?_ | refine zX ?_))
        refine yas ?_; refine ⟨_, rfl, ?_⟩
        exact yau (symG_ports hls (yey hl (by rw [← Bool.not_eq_true, ycw]; omega))).symm
      simp at h5
      (repeat (first | refine zI ?_ | refine zL ?_ | refine zC ?_ | refine yai ?_ | refine yaj ?_ | refine zR ?_ | refine zD ?_ | refine zK ?_ | refine zB ?_ | refine zA ?_ | refine zS ?_ | refine zU ?_ | refine zV ?_ | refine zF ?_ | with_reducible refine yac ?_ | with_reducible refine yag ?_ | refine yad ?_ | refine yae ?_ | refine yaf ?_ | refine zT ?_ | refine zE ?_ | refine zX ?_))
      refine yaq rfl (fun h6 => ?_) (fun h6 => ?_)
      · simp at h6
        (repeat (first | refine zI ?_ | refine zL ?_ | refine zC ?_ | refine yai ?_ | refine yaj ?_ | refine zR ?_ | refine zD ?_ | refine zK ?_ | refine zB ?_ | refine zA ?_ | refine zS ?_ | refine zU ?_ | refine zV ?_ | refine zF ?_ | with_reducible refine yac ?_ | with_reducible refine yag ?_ | refine yad ?_ | refine yae ?_ | refine yaf ?_ | refine zT ?_ | refine zE ?_ | refine zX ?_))
        refine yas ?_; refine ⟨_, rfl, ?_⟩
        exact yau (symG_ports hls (yey hl (by rw [← Bool.not_eq_true, ycw]; omega))).symm
      simp at h6
      have hlk : linkB ports.length k l = true := by rw [ycw]; omega
      have hks : ∀ e ∈ es', ∃ q, keyOf Tryz.prog 87 e.1 = some q := by
        intro e he
        obtain ⟨v, j, ls', l', g1, g2, g3, rfl⟩ := (hes' e).1 he
        have hv := (List.getElem?_eq_some_iff.1 g1).1
        have hl' : 0 ≤ l'.1 ∧ l'.1 < ports.length := by
          rcases g3 with g3 | ⟨rfl, g3⟩
          · have := (ycw _ _ _).1 (((yez _ _ _).1 (hok v ls' g3 g1)).1 l' (List.mem_of_getElem? g2))
            omega
          · rw [hls] at g1; cases g1
            have := (ycw _ _ _).1 (((yez _ _ _).1 hio).1 l' (List.mem_of_getElem? (show (ls.take i)[j]? = some l' by rw [List.getElem?_take, if_pos g3]; exact g2)))
            omega
        exact keyV_key (by omega) (by omega)
      obtain ⟨kl, hkl⟩ := keyV_key (v := k) (u := l.1) (by omega) (by omega)
      (repeat (first | refine zI ?_ | refine zL ?_ | refine zC ?_ | refine yai ?_ | refine yaj ?_ | refine zR ?_ | refine zD ?_ | refine zK ?_ | refine zB ?_ | refine zA ?_ | refine zS ?_ | refine zU ?_ | refine zV ?_ | refine zF ?_ | with_reducible refine yac ?_ | with_reducible refine yag ?_ | refine yad ?_ | refine yae ?_ | refine yaf ?_ | refine zT ?_ | refine zE ?_ | refine zX ?_))
      by_cases hdup : ∃ (j : Nat) (y : Lk), j < i ∧ ls[j]? = some y ∧ y.1 = l.1
      · obtain ⟨j, y, g1, g2, g3⟩ := hdup
        refine L_lookup_mp (v := .int .i64 y.2) (okb := true) Tryz.underlying127 keyed2 rfl rfl rfl rfl hks hkl zeroI ?_ rfl rfl ?_
        · refine .hit ⟨(keyV k y.1, .int .i64 y.2), (hes' _).2 ⟨k, j, ls, y, hls, g2, .inr ⟨rfl, g1⟩, rfl⟩, by rw [g3]; rfl⟩ ?_
          intro e he hek
          obtain ⟨v, j', ls', l', q1, q2, q3, rfl⟩ := (hes' e).1 he
          have := keyV_inj (show keyV v l'.1 = keyV k l.1 from hek)
          obtain rfl : v = k := by omega
          rw [hls] at q1; cases q1
          have hj' : j' < i := by omega
          have := nodup_at hio (show (ls.take i)[j']? = some l' by rw [List.getElem?_take, if_pos hj']; exact q2) (show (ls.take i)[j]? = some y by rw [List.getElem?_take, if_pos g1]; exact g2) (by omega)
          subst this
          rw [g2] at q2; cases q2; rfl
        (repeat (first | refine zI ?_ | refine zL ?_ | refine zC ?_ | refine yai ?_ | refine yaj ?_ | refine zR ?_ | refine zD ?_ | refine zK ?_ | refine zB ?_ | refine zA ?_ | refine zS ?_ | refine zU ?_ | refine zV ?_ | refine zF ?_ | with_reducible refine yac ?_ | with_reducible refine yag ?_ | refine yad ?_ | refine yae ?_ | refine yaf ?_ | refine zT ?_ | refine zE ?_ | refine zX ?_))
        refine yas ?_; refine ⟨_, rfl, ?_⟩
        exact yau (symG_ports hls (linksB_twice g1 g2 hl g3)).symm
      · have hmiss : ∀ e ∈ es', e.1 ≠ keyV k l.1 := by
          intro e he hek
          obtain ⟨v, j', ls', l', q1, q2, q3, rfl⟩ := (hes' e).1 he
          have := keyV_inj (show keyV v l'.1 = keyV k l.1 from hek)
          obtain rfl : v = k := by omega
          rw [hls] at q1; cases q1
          exact hdup ⟨j', l', by omega, q2, by omega⟩
        refine L_lookup_mp (v := .int .i64 0) (okb := false) Tryz.underlying127 keyed2 rfl rfl rfl rfl hks hkl zeroI (.miss hmiss) rfl rfl ?_
        (repeat (first | refine zI ?_ | refine zL ?_ | refine zC ?_ | refine yai ?_ | refine yaj ?_ | refine zR ?_ | refine zD ?_ | refine zK ?_ | refine zB ?_ | refine zA ?_ | refine zS ?_ | refine zU ?_ | refine zV ?_ | refine zF ?_ | with_reducible refine yac ?_ | with_reducible refine yag ?_ | refine yad ?_ | refine yae ?_ | refine yaf ?_ | refine zT ?_ | refine zE ?_ | refine zX ?_))
        refine L_mapUpdate Tryz.underlying127 keyed2 rfl rfl rfl rfl rfl rfl hks hkl hmiss rfl rfl ?_
        (repeat (first | refine zI ?_ | refine zL ?_ | refine zC ?_ | refine yai ?_ | refine yaj ?_ | refine zR ?_ | refine zD ?_ | refine zK ?_ | refine zB ?_ | refine zA ?_ | refine zS ?_ | refine zU ?_ | refine zV ?_ | refine zF ?_ | with_reducible refine yac ?_ | with_reducible refine yag ?_ | refine yad ?_ | refine yae ?_ | refine yaf ?_ | refine zT ?_ | refine zE ?_ | refine zX ?_))
        refine rnd (i + 1, es' ++ [(keyV k l.1, .int .i64 l.2)]) ⟨by simp only; omega, linksB_step hl hio hlk (fun j y hj hy he => hdup ⟨j, y, hj, hy, he⟩), ent_next hls hl hes'⟩ (by simp only; omega) (by (repeat (first | exact yan | refine yak rfl ?_))) (by first | exact yab | exact yaa rfl yab | exact yaa rfl (yaa rfl yab) | exact yaa rfl (yaa rfl (yaa rfl yab)) | exact yaa rfl (yaa rfl (yaa rfl (yaa rfl yab))))
    · simp at h1
      obtain rfl : i = ls.length := by omega
      rw [List.take_length] at hio
      (repeat (first | refine zI ?_ | refine zL ?_ | refine zC ?_ | refine yai ?_ | refine yaj ?_ | refine zR ?_ | refine zD ?_ | refine zK ?_ | refine zB ?_ | refine zA ?_ | refine zS ?_ | refine zU ?_ | refine zV ?_ | refine zF ?_ | with_reducible refine yac ?_ | with_reducible refine yag ?_ | refine yad ?_ | refine yae ?_ | refine yaf ?_ | refine zT ?_ | refine zE ?_ | refine zX ?_))
      refine rnd (k + 1, es') ⟨by simp only; omega, fun v ls' hv hls' => ?_, fun e => (hes' e).trans (ent_row hls e)⟩ (by simp only; omega) (by (repeat (first | exact yan | refine yak rfl ?_))) (by first | exact yab | exact yaa rfl yab | exact yaa rfl (yaa rfl yab) | exact yaa rfl (yaa rfl (yaa rfl yab)) | exact yaa rfl (yaa rfl (yaa rfl (yaa rfl yab))))
      simp only at hv
      rcases Nat.lt_or_ge v k with h8 | h8
      · exact hok v ls' h8 hls'
      · obtain rfl : v = k := by omega
        rw [hls] at hls'; cases hls'; exact hio
  · simp at h
    obtain rfl : k = ports.length := by omega
    have hports : portsB ports = true := by rw [portsB_iff]; exact fun v ls hv => hok v ls (List.getElem?_eq_some_iff.1 hv).1 hv
    have hent : ∀ e, e ∈ es ↔ ∃ (v : Nat) (ls : List Lk) (l : Lk), ports[v]? = some ls ∧ l ∈ ls ∧ e = (keyV v l.1, .int .i64 l.2) := by
      intro e
      rw [hes e]
      constructor
      · rintro ⟨v, j, ls, l, g1, g2, _, g4⟩; exact ⟨v, ls, l, g1, List.mem_of_getElem? g2, g4⟩
      · rintro ⟨v, ls, l, g1, g2, g3⟩
        obtain ⟨j, hj⟩ := List.getElem?_of_mem g2
        exact ⟨v, j, ls, l, g1, hj, .inl (List.getElem?_eq_some_iff.1 g1).1, g3⟩
    have hlb : ∀ (v : Nat) (ls : List Lk) (l : Lk), ports[v]? = some ls → l ∈ ls → 0 ≤ l.1 ∧ l.1 < ports.length ∧ 1 ≤ l.2 ∧ l.2 ≤ 15 := by
      intro v ls l hv hl
      have := (ycw _ _ _).1 (((yez _ _ _).1 ((portsB_iff _).1 hports v ls hv)).1 l hl)
      omega
    have hks : ∀ e ∈ es, ∃ q, keyOf Tryz.prog 87 e.1 = some q := by
      intro e he
      obtain ⟨v, ls, l, g1, g2, rfl⟩ := (hent e).1 he
      have := hlb v ls l g1 g2
      have hv := (List.getElem?_eq_some_iff.1 g1).1
      exact keyV_key (by omega) (by omega)
    clear hok hes
    repeat (first | refine yae ?_ | refine yaf ?_)
    refine A_freezeMap 3 rfl rfl rfl rfl ?_
    (repeat (first | refine zI ?_ | refine zL ?_ | refine zC ?_ | refine yai ?_ | refine yaj ?_ | refine zR ?_ | refine zD ?_ | refine zK ?_ | refine zB ?_ | refine zA ?_ | refine zS ?_ | refine zU ?_ | refine zV ?_ | refine zF ?_ | with_reducible refine yac ?_ | with_reducible refine yag ?_ | refine yad ?_ | refine yae ?_ | refine yaf ?_ | refine zT ?_ | refine zE ?_ | refine zX ?_ | refine L_range Tryz.underlying127 rfl rfl rfl rfl rfl rfl ?_))
    refine ydp (α := List (Value × Value) × Option (Value × Value)) (fun s => [(69, .lp 69 0), (3, .mv es)]) (fun s => [(69, some (.iter es s.1 s.2))]) (fun s => s.1.length)
      (fun s => (∀ p ∈ s.1, p ∈ es) ∧ ∀ (v : Nat) (ls : List Lk) (l : Lk), ports[v]? = some ls → l ∈ ls → (keyV v l.1, Value.int .i64 l.2) ∈ s.1 ∨ yec (ports.getD l.1.toNat []) v = l.2) (es, none) ⟨fun p h => h, fun v ls l hv hl => .inl ((hent _).2 ⟨v, ls, l, hv, hl, rfl⟩)⟩ (by (repeat (first | exact yan | refine yak rfl ?_))) (by first | exact yab | exact yaa rfl yab | exact yaa rfl (yaa rfl yab) | exact yaa rfl (yaa rfl (yaa rfl yab)) | exact yaa rfl (yaa rfl (yaa rfl (yaa rfl yab)))) ?_
    rintro ⟨left, cur⟩ ⟨hl1, hl2⟩
    simp only at hl1 hl2
    (repeat (first | refine zI ?_ | refine zL ?_ | refine zC ?_ | refine yai ?_ | refine yaj ?_ | refine zR ?_ | refine zD ?_ | refine zK ?_ | refine zB ?_ | refine zA ?_ | refine zS ?_ | refine zU ?_ | refine zV ?_ | refine zF ?_ | with_reducible refine yac ?_ | with_reducible refine yag ?_ | refine yad ?_ | refine yae ?_ | refine yaf ?_ | refine zT ?_ | refine zE ?_ | refine zX ?_))
    refine L_next rfl rfl rfl rfl rfl (fun hnil => ?_) (fun p left' hperm => ?_)
    · (repeat (first | refine zI ?_ | refine zL ?_ | refine zC ?_ | refine yai ?_ | refine yaj ?_ | refine zR ?_ | refine zD ?_ | refine zK ?_ | refine zB ?_ | refine zA ?_ | refine zS ?_ | refine zU ?_ | refine zV ?_ | refine zF ?_ | with_reducible refine yac ?_ | with_reducible refine yag ?_ | refine yad ?_ | refine yae ?_ | refine yaf ?_ | refine zT ?_ | refine zE ?_ | refine zX ?_))
      refine yas ?_; refine ⟨_, rfl, ?_⟩
      subst hnil
      refine yau ?_
      unfold symG
      rw [eq_comm, Bool.and_eq_true, symB_iff]
      exact ⟨hports, fun v ls hv l hl => (hl2 v ls l hv hl).resolve_left (by simp)⟩
    · have hp1 := hl1 p (hperm.symm.subset (by simp))
      obtain ⟨v, ls, l, g1, g2, rfl⟩ := (hent p).1 hp1
      have hlv := hlb v ls l g1 g2
      have hv := (List.getElem?_eq_some_iff.1 g1).1
      obtain ⟨os, hos⟩ := yeh (show l.1.toNat < ports.length by omega)
      have hgd : ports.getD l.1.toNat [] = os := by rw [List.getD_eq_getElem?_getD, hos]; rfl
      have hcast : ((l.1.toNat : Nat) : Int) = l.1 := by omega
      obtain ⟨kl, hkl⟩ := keyV_key (v := l.1) (u := v) (by omega) (by omega)
      have hfound : ∃ b, Found (.int .i64 0) es (keyV l.1 v) (.int .i64 (yec os v)) b := by
        rcases portTo_cases os v with ⟨_, hpn⟩ | ⟨q, y, _, hy, hyk, hfd⟩
        · refine ⟨false, ?_⟩
          rw [weight_none hpn]
          refine .miss fun e he hek => ?_
          obtain ⟨v', ls', l', q1, q2, rfl⟩ := (hent e).1 he
          have := keyV_inj (show keyV v' l'.1 = keyV l.1 v from hek)
          obtain rfl : v' = l.1.toNat := by omega
          rw [hos] at q1; cases q1
          exact hpn l' q2 this.2
        · refine ⟨true, ?_⟩
          rw [weight_some hfd]
          refine .hit ⟨(keyV l.1 y.1, .int .i64 y.2), (hent _).2 ⟨l.1.toNat, os, y, hos, List.mem_of_getElem? hy, by rw [hcast]⟩, by rw [hyk]⟩ fun e he hek => ?_
          obtain ⟨v', ls', l', q1, q2, rfl⟩ := (hent e).1 he
          have := keyV_inj (show keyV v' l'.1 = keyV l.1 v from hek)
          obtain rfl : v' = l.1.toNat := by omega
          rw [hos] at q1; cases q1
          obtain ⟨j, hj⟩ := List.getElem?_of_mem q2
          have := nodup_at ((portsB_iff _).1 hports _ _ hos) hj hy (by omega)
          subst this
          rw [hy] at hj; cases hj; rfl
      obtain ⟨fb, hfound⟩ := hfound
      (repeat (first | refine zI ?_ | refine zL ?_ | refine zC ?_ | refine yai ?_ | refine yaj ?_ | refine zR ?_ | refine zD ?_ | refine zK ?_ | refine zB ?_ | refine zA ?_ | refine zS ?_ | refine zU ?_ | refine zV ?_ | refine zF ?_ | with_reducible refine yac ?_ | with_reducible refine yag ?_ | refine yad ?_ | refine yae ?_ | refine yaf ?_ | refine zT ?_ | refine zE ?_ | refine zX ?_ | refine L_entry rfl rfl rfl rfl ?_))
      refine L_lookup_mv Tryz.underlying127 keyed2 rfl rfl rfl hks hkl zeroI hfound rfl rfl ?_
      (repeat (first | refine zI ?_ | refine zL ?_ | refine zC ?_ | refine yai ?_ | refine yaj ?_ | refine zR ?_ | refine zD ?_ | refine zK ?_ | refine zB ?_ | refine zA ?_ | refine zS ?_ | refine zU ?_ | refine zV ?_ | refine zF ?_ | with_reducible refine yac ?_ | with_reducible refine yag ?_ | refine yad ?_ | refine yae ?_ | refine yaf ?_ | refine zT ?_ | refine zE ?_ | refine zX ?_))
      refine yaq rfl (fun h1 => ?_) (fun h1 => ?_)
      · simp at h1
        (repeat (first | refine zI ?_ | refine zL ?_ | refine zC ?_ | refine yai ?_ | refine yaj ?_ | refine zR ?_ | refine zD ?_ | refine zK ?_ | refine zB ?_ | refine zA ?_ | refine zS ?_ | refine zU ?_ | refine zV ?_ | refine zF ?_ | with_reducible refine yac ?_ | with_reducible refine yag ?_ | refine yad ?_ | refine yae ?_ | refine yaf ?_ | refine zT ?_ | refine zE ?_ | refine zX ?_))
        refine yas ?_; refine ⟨_, rfl, ?_⟩
        exact yau (symG_sym g1 g2 (by rw [hgd]; exact h1)).symm
      · simp at h1
        (repeat (first | refine zI ?_ | refine zL ?_ | refine zC ?_ | refine yai ?_ | refine yaj ?_ | refine zR ?_ | refine zD ?_ | refine zK ?_ | refine zB ?_ | refine zA ?_ | refine zS ?_ | refine zU ?_ | refine zV ?_ | refine zF ?_ | with_reducible refine yac ?_ | with_reducible refine yag ?_ | refine yad ?_ | refine yae ?_ | refine yaf ?_ | refine zT ?_ | refine zE ?_ | refine zX ?_))
        refine rnd (left', some (keyV v l.1, .int .i64 l.2)) ⟨fun q hq => hl1 q (hperm.symm.subset (by simp [hq])), fun v' ls' l' hv' hl' => ?_⟩ (by have := hperm.length_eq; simp only [List.length_cons] at this; simp only; omega) (by (repeat (first | exact yan | refine yak rfl ?_))) (by first | exact yab | exact yaa rfl yab | exact yaa rfl (yaa rfl yab) | exact yaa rfl (yaa rfl (yaa rfl yab)) | exact yaa rfl (yaa rfl (yaa rfl (yaa rfl yab))))
        rcases hl2 v' ls' l' hv' hl' with hq | hq
        · rcases List.mem_cons.1 (hperm.subset hq) with he | he
          · right
            simp only [Prod.mk.injEq, Value.int.injEq, true_and] at he
            have := keyV_inj he.1
            obtain rfl : v' = v := by omega
            rw [this.2, hgd, h1, he.2]
          · exact .inl he
        · exact .inr hq

theorem gvalid_con' (g : GraphD) (hl : midG g) : Con Tryz.prog 45 [encG g] (yfp (yeq g)) := by
  obtain ⟨hl1, hl2, hl3⟩ := hl
  refine ybs Tryz.func45 rfl rfl Tryz.ntmps45 Tryz.results45 rfl rfl ?_
  (repeat (first | refine zI ?_ | refine zL ?_ | refine zC ?_ | refine yai ?_ | refine yaj ?_ | refine zR ?_ | refine zD ?_ | refine zK ?_ | refine zB ?_ | refine zA ?_ | refine zS ?_ | refine zU ?_ | refine zV ?_ | refine zF ?_ | with_reducible refine yac ?_ | with_reducible refine yag ?_ | refine yad ?_ | refine yae ?_ | refine yaf ?_ | refine zT ?_ | refine zE ?_ | refine zX ?_))
  refine ybm 9 rfl (fun h1 => ?_) (fun h1 => ?_)
  · simp at h1
    (repeat (first | refine zI ?_ | refine zL ?_ | refine zC ?_ | refine yai ?_ | refine yaj ?_ | refine zR ?_ | refine zD ?_ | refine zK ?_ | refine zB ?_ | refine zA ?_ | refine zS ?_ | refine zU ?_ | refine zV ?_ | refine zF ?_ | with_reducible refine yac ?_ | with_reducible refine yag ?_ | refine yad ?_ | refine yae ?_ | refine yaf ?_ | refine zT ?_ | refine zE ?_ | refine zX ?_))
    refine yas ?_; refine ⟨_, rfl, ?_⟩
    exact yau (valid_len (by omega)).symm
  simp at h1
  (repeat (first | refine zI ?_ | refine zL ?_ | refine zC ?_ | refine yai ?_ | refine yaj ?_ | refine zR ?_ | refine zD ?_ | refine zK ?_ | refine zB ?_ | refine zA ?_ | refine zS ?_ | refine zU ?_ | refine zV ?_ | refine zF ?_ | with_reducible refine yac ?_ | with_reducible refine yag ?_ | refine yad ?_ | refine yae ?_ | refine yaf ?_ | refine zT ?_ | refine zE ?_ | refine zX ?_))
  refine ybm 13 rfl (fun h2 => ?_) (fun h2 => ?_)
  · simp at h2
    (repeat (first | refine zI ?_ | refine zL ?_ | refine zC ?_ | refine yai ?_ | refine yaj ?_ | refine zR ?_ | refine zD ?_ | refine zK ?_ | refine zB ?_ | refine zA ?_ | refine zS ?_ | refine zU ?_ | refine zV ?_ | refine zF ?_ | with_reducible refine yac ?_ | with_reducible refine yag ?_ | refine yad ?_ | refine yae ?_ | refine yaf ?_ | refine zT ?_ | refine zE ?_ | refine zX ?_))
    refine yas ?_; refine ⟨_, rfl, ?_⟩
    exact yau (valid_len (by omega)).symm
  simp at h2
  (repeat (first | refine zI ?_ | refine zL ?_ | refine zC ?_ | refine yai ?_ | refine yaj ?_ | refine zR ?_ | refine zD ?_ | refine zK ?_ | refine zB ?_ | refine zA ?_ | refine zS ?_ | refine zU ?_ | refine zV ?_ | refine zF ?_ | with_reducible refine yac ?_ | with_reducible refine yag ?_ | refine yad ?_ | refine yae ?_ | refine yaf ?_ | refine zT ?_ | refine zE ?_ | refine zX ?_))
  refine yaq rfl (fun h3 => ?_) (fun h3 => ?_)
  · simp at h3
    (repeat (first | refine zI ?_ | refine zL ?_ | refine zC ?_ | refine yai ?_ | refine yaj ?_ | refine zR ?_ | refine zD ?_ | refine zK ?_ | refine zB ?_ | refine zA ?_ | refine zS ?_ | refine zU ?_ | refine zV ?_ | refine zF ?_ | with_reducible refine yac ?_ | with_reducible refine yag ?_ | refine yad ?_ | refine yae ?_ | refine yaf ?_ | refine zT ?_ | refine zE ?_ | refine zX ?_))
    refine yas ?_; refine ⟨_, rfl, ?_⟩
    exact yau (valid_len (by omega)).symm
  simp at h3
  (repeat (first | refine zI ?_ | refine zL ?_ | refine zC ?_ | refine yai ?_ | refine yaj ?_ | refine zR ?_ | refine zD ?_ | refine zK ?_ | refine zB ?_ | refine zA ?_ | refine zS ?_ | refine zU ?_ | refine zV ?_ | refine zF ?_ | with_reducible refine yac ?_ | with_reducible refine yag ?_ | refine yad ?_ | refine yae ?_ | refine yaf ?_ | refine zT ?_ | refine zE ?_ | refine zX ?_ | refine yar rfl rfl (differentIDs_con g.ids (by omega)) rfl rfl ?_))
  refine ybm 23 rfl (fun h4 => ?_) (fun h4 => ?_)
  · (repeat (first | refine zI ?_ | refine zL ?_ | refine zC ?_ | refine yai ?_ | refine yaj ?_ | refine zR ?_ | refine zD ?_ | refine zK ?_ | refine zB ?_ | refine zA ?_ | refine zS ?_ | refine zU ?_ | refine zV ?_ | refine zF ?_ | with_reducible refine yac ?_ | with_reducible refine yag ?_ | refine yad ?_ | refine yae ?_ | refine yaf ?_ | refine zT ?_ | refine zE ?_ | refine zX ?_ | refine yar rfl rfl (symmetric_con g.ports (by omega) hl3) rfl rfl ?_))
    refine yas ?_; refine ⟨_, rfl, ?_⟩
    refine yau ?_
    rw [Bool.eq_iff_iff, validG_iff]
    unfold symG
    rw [Bool.and_eq_true]
    constructor
    · intro h5; exact ⟨by omega, by omega, by omega, h4, h5⟩
    · intro h5; exact h5.2.2.2.2
  · (repeat (first | refine zI ?_ | refine zL ?_ | refine zC ?_ | refine yai ?_ | refine yaj ?_ | refine zR ?_ | refine zD ?_ | refine zK ?_ | refine zB ?_ | refine zA ?_ | refine zS ?_ | refine zU ?_ | refine zV ?_ | refine zF ?_ | with_reducible refine yac ?_ | with_reducible refine yag ?_ | refine yad ?_ | refine yae ?_ | refine yaf ?_ | refine zT ?_ | refine zE ?_ | refine zX ?_))
    refine yas ?_; refine ⟨_, rfl, ?_⟩
    exact yau (valid_ids h4).symm
theorem rvalid_con (g : GraphD) (hl : lightG g = true) : Con Tryz.prog 52 [encG g] (yfp (yeq g)) := rvalid_con' g (midG_of hl)
theorem gvalid_con (g : GraphD) (hl : lightG g = true) : Con Tryz.prog 45 [encG g] (yfp (yeq g)) := gvalid_con' g (midG_of hl)
end Go.Proofs.YtmlkdoimkdbdpaaGreatDoor
