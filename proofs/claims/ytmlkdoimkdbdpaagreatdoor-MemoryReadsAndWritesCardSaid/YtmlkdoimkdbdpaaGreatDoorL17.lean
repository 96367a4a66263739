/- Part 17 of the texts under MemoryReadsAndWrites,MemoryReadsBack: joined, with what it needs alone. -/
import Derived.Test.YtmlkdoimkdbdpaaGreatDoorL5
import Derived.Test.YtmlkdoimkdbdpaaGreatDoorL11
import Derived.Test.YtmlkdoimkdbdpaaGreatDoorL16
set_option linter.unusedVariables false
set_option maxRecDepth 100000
set_option maxHeartbeats 8000000
namespace Go.Proofs.YtmlkdoimkdbdpaaGreatDoor
open Go.RowKit

theorem greatest_con (g : GraphD) (hlen : g.ids.length ≤ 1000) : Con Tryz.prog 55 [encG g] (i64 (ybx g.ids)) := by
  refine ybs Tryz.func55 rfl rfl Tryz.ntmps55 Tryz.results55 rfl rfl ?_
  (repeat (first | refine zI ?_ | refine zL ?_ | refine zC ?_ | refine yai ?_ | refine yaj ?_ | refine zR ?_ | refine zD ?_ | refine zK ?_ | refine zB ?_ | refine zA ?_ | refine zS ?_ | refine zU ?_ | refine zV ?_ | refine zF ?_ | with_reducible refine yac ?_ | with_reducible refine yag ?_ | refine yad ?_ | refine yae ?_ | refine yaf ?_ | refine zT ?_ | refine zE ?_ | refine zX ?_))
  refine ydp (α := Nat) (fun k => [(4, i64 k), (3, i64 (ybx (g.ids.take k))), (1, .lp 1 0)]) (fun k => [(1, some (.cells [ybk g.ids, ybz g.ports]))]) (fun k => g.ids.length - k) (fun k => k ≤ g.ids.length) 0 (by omega) (by (repeat (first | exact yan | refine yak rfl ?_))) (by first | exact yab | exact yaa rfl yab | exact yaa rfl (yaa rfl yab) | exact yaa rfl (yaa rfl (yaa rfl yab)) | exact yaa rfl (yaa rfl (yaa rfl (yaa rfl yab)))) ?_
  intro k hk
  (repeat (first | refine zI ?_ | refine zL ?_ | refine zC ?_ | refine yai ?_ | refine yaj ?_ | refine zR ?_ | refine zD ?_ | refine zK ?_ | refine zB ?_ | refine zA ?_ | refine zS ?_ | refine zU ?_ | refine zV ?_ | refine zF ?_ | with_reducible refine yac ?_ | with_reducible refine yag ?_ | refine yad ?_ | refine yae ?_ | refine yaf ?_ | refine zT ?_ | refine zE ?_ | refine zX ?_))
  refine yaq rfl (fun h => ?_) (fun h => ?_)
  · simp at h
    obtain ⟨x, hx⟩ := yeh h
    (repeat (first | refine zI ?_ | refine zL ?_ | refine zC ?_ | refine yai ?_ | refine yaj ?_ | refine zR ?_ | refine zD ?_ | refine zK ?_ | refine zB ?_ | refine zA ?_ | refine zS ?_ | refine zU ?_ | refine zV ?_ | refine zF ?_ | with_reducible refine yac ?_ | with_reducible refine yag ?_ | refine yad ?_ | refine yae ?_ | refine yaf ?_ | refine zT ?_ | refine zE ?_ | refine zX ?_))
    refine rnd (k + 1) (by omega) (by omega) ?_ (by first | exact yab | exact yaa rfl yab | exact yaa rfl (yaa rfl yab) | exact yaa rfl (yaa rfl (yaa rfl yab)) | exact yaa rfl (yaa rfl (yaa rfl (yaa rfl yab))))
    refine yak rfl (yak ?_ (by (repeat (first | exact yan | refine yak rfl ?_))))
    rw [greatestL_snoc _ _ _ hx]; rfl
  · simp at h
    obtain rfl : k = g.ids.length := by omega
    (repeat (first | refine zI ?_ | refine zL ?_ | refine zC ?_ | refine yai ?_ | refine yaj ?_ | refine zR ?_ | refine zD ?_ | refine zK ?_ | refine zB ?_ | refine zA ?_ | refine zS ?_ | refine zU ?_ | refine zV ?_ | refine zF ?_ | with_reducible refine yac ?_ | with_reducible refine yag ?_ | refine yad ?_ | refine yae ?_ | refine yaf ?_ | refine zT ?_ | refine zE ?_ | refine zX ?_))
    refine yas ?_; refine ⟨_, rfl, ?_⟩
    exact ydb (by rw [List.take_length])

theorem max_con (ids : List Int) (hlen : ids.length ≤ 1000) (h1 : 1 ≤ ids.length) (h0 : ∀ x ∈ ids, 0 ≤ x) : Con Tryz.prog 64 [ybk ids] (i64 (ybx ids)) := by
  obtain ⟨a, ha⟩ := yeh (show 0 < ids.length by omega)
  have ha0 := h0 a (List.mem_of_getElem? ha)
  refine ybs Tryz.func64 rfl rfl Tryz.ntmps64 Tryz.results64 rfl rfl ?_
  (repeat (first | refine zI ?_ | refine zL ?_ | refine zC ?_ | refine yai ?_ | refine yaj ?_ | refine zR ?_ | refine zD ?_ | refine zK ?_ | refine zB ?_ | refine zA ?_ | refine zS ?_ | refine zU ?_ | refine zV ?_ | refine zF ?_ | with_reducible refine yac ?_ | with_reducible refine yag ?_ | refine yad ?_ | refine yae ?_ | refine yaf ?_ | refine zT ?_ | refine zE ?_ | refine zX ?_))
  refine yaq rfl (fun h => ?_) (fun h => ?_)
  · simp at h; omega
  (repeat (first | refine zI ?_ | refine zL ?_ | refine zC ?_ | refine yai ?_ | refine yaj ?_ | refine zR ?_ | refine zD ?_ | refine zK ?_ | refine zB ?_ | refine zA ?_ | refine zS ?_ | refine zU ?_ | refine zV ?_ | refine zF ?_ | with_reducible refine yac ?_ | with_reducible refine yag ?_ | refine yad ?_ | refine yae ?_ | refine yaf ?_ | refine zT ?_ | refine zE ?_ | refine zX ?_))
  refine ydp (α := Nat) (fun k => [(4, i64 k), (3, i64 (ybx (ids.take k))), (0, ybk ids)]) (fun k => []) (fun k => ids.length - k) (fun k => 1 ≤ k ∧ k ≤ ids.length) 1 (by omega) ?_ (by first | exact yab | exact yaa rfl yab | exact yaa rfl (yaa rfl yab) | exact yaa rfl (yaa rfl (yaa rfl yab)) | exact yaa rfl (yaa rfl (yaa rfl (yaa rfl yab)))) ?_
  · refine yak rfl (yak ?_ (by (repeat (first | exact yan | refine yak rfl ?_))))
    have e : ybx (ids.take 1) = a := by
      rw [greatestL_snoc ids 0 a ha]
      simp [ybx]
      omega
    rw [e]; rfl
  intro k ⟨hk1, hk⟩
  (repeat (first | refine zI ?_ | refine zL ?_ | refine zC ?_ | refine yai ?_ | refine yaj ?_ | refine zR ?_ | refine zD ?_ | refine zK ?_ | refine zB ?_ | refine zA ?_ | refine zS ?_ | refine zU ?_ | refine zV ?_ | refine zF ?_ | with_reducible refine yac ?_ | with_reducible refine yag ?_ | refine yad ?_ | refine yae ?_ | refine yaf ?_ | refine zT ?_ | refine zE ?_ | refine zX ?_))
  refine yaq rfl (fun h => ?_) (fun h => ?_)
  · simp at h
    obtain ⟨x, hx⟩ := yeh h
    (repeat (first | refine zI ?_ | refine zL ?_ | refine zC ?_ | refine yai ?_ | refine yaj ?_ | refine zR ?_ | refine zD ?_ | refine zK ?_ | refine zB ?_ | refine zA ?_ | refine zS ?_ | refine zU ?_ | refine zV ?_ | refine zF ?_ | with_reducible refine yac ?_ | with_reducible refine yag ?_ | refine yad ?_ | refine yae ?_ | refine yaf ?_ | refine zT ?_ | refine zE ?_ | refine zX ?_))
    refine rnd (k + 1) (by omega) (by omega) ?_ (by first | exact yab | exact yaa rfl yab | exact yaa rfl (yaa rfl yab) | exact yaa rfl (yaa rfl (yaa rfl yab)) | exact yaa rfl (yaa rfl (yaa rfl (yaa rfl yab))))
    refine yak rfl (yak ?_ (by (repeat (first | exact yan | refine yak rfl ?_))))
    rw [greatestL_snoc _ _ _ hx]; rfl
  · simp at h
    obtain rfl : k = ids.length := by omega
    (repeat (first | refine zI ?_ | refine zL ?_ | refine zC ?_ | refine yai ?_ | refine yaj ?_ | refine zR ?_ | refine zD ?_ | refine zK ?_ | refine zB ?_ | refine zA ?_ | refine zS ?_ | refine zU ?_ | refine zV ?_ | refine zF ?_ | with_reducible refine yac ?_ | with_reducible refine yag ?_ | refine yad ?_ | refine yae ?_ | refine yaf ?_ | refine zT ?_ | refine zE ?_ | refine zX ?_))
    refine yas ?_; refine ⟨_, rfl, ?_⟩
    exact ydb (by rw [List.take_length])

theorem frz_pair {h : Nat → Option LObj} {a b a' b' : Int} (e1 : a = a') (e2 : b = b') : Frz h (.tup [.v (.int .i64 a), .v (.int .i64 b)]) (.tup [i64 a', i64 b']) := by subst e1 e2; exact Frz.pure
def pairA (q : Int × Int) : AV := .tup [i64 q.1, i64 q.2]

theorem bounds1_con (x : VarD) (g : GraphD) (v : Int) (hx : numB x = true) (hg : yeq g = true) : Con Tryz.prog 63 [.agg (ydi x), encG g, i64 v] (.tup [i64 x.lo, i64 (x.hi + x.perNode * g.ports.length + x.perID * ybx g.ids)]) := by
  have hf := ycy hg
  have hn := num_facts hx
  have ht := terms_bd hx hg
  have hlen : (g.ids.length : Int) = g.ports.length := by omega
  have ht2 : 0 ≤ x.perNode * (g.ids.length : Int) ∧ x.perNode * (g.ids.length : Int) ≤ 255 * 24 := by rw [hlen]; omega
  refine ybs Tryz.func63 rfl rfl Tryz.ntmps63 Tryz.results63 rfl rfl ?_
  (repeat (first | refine zI ?_ | refine zL ?_ | refine zC ?_ | refine yai ?_ | refine yaj ?_ | refine zR ?_ | refine zD ?_ | refine zK ?_ | refine zB ?_ | refine zA ?_ | refine zS ?_ | refine zU ?_ | refine zV ?_ | refine zF ?_ | with_reducible refine yac ?_ | with_reducible refine yag ?_ | refine yad ?_ | refine yae ?_ | refine yaf ?_ | refine zT ?_ | refine zE ?_ | refine zX ?_ | refine yar rfl rfl (max_con g.ids (by omega) (by omega) (fun y hy => (hf.2.2.2.1 y hy).1)) rfl rfl ?_))
  refine yas ?_; refine ⟨_, rfl, ?_⟩
  exact frz_pair rfl (by rw [hlen])
theorem bounds2_con (x : VarD) (g : GraphD) (v : Int) : Con Tryz.prog 65 [.agg (ydi x), encG g, i64 v] (.tup [i64 0, i64 1]) := by
  refine ybs Tryz.func65 rfl rfl Tryz.ntmps65 Tryz.results65 rfl rfl ?_
  (repeat (first | refine zI ?_ | refine zL ?_ | refine zC ?_ | refine yai ?_ | refine yaj ?_ | refine zR ?_ | refine zD ?_ | refine zK ?_ | refine zB ?_ | refine zA ?_ | refine zS ?_ | refine zU ?_ | refine zV ?_ | refine zF ?_ | with_reducible refine yac ?_ | with_reducible refine yag ?_ | refine yad ?_ | refine yae ?_ | refine yaf ?_ | refine zT ?_ | refine zE ?_ | refine zX ?_))
  refine yas ?_; refine ⟨_, rfl, ?_⟩
  exact frz_pair rfl rfl
theorem bounds3_con (x : VarD) (g : GraphD) (v : Int) (ls : List Lk) (h0 : 0 ≤ v) (hv : g.ports[v.toNat]? = some ls) (hl : ls.length ≤ 1000) : Con Tryz.prog 66 [.agg (ydi x), encG g, i64 v] (.tup [i64 (-1), i64 (ls.length - 1)]) := by
  refine ybs Tryz.func66 rfl rfl Tryz.ntmps66 Tryz.results66 rfl rfl ?_
  (repeat (first | refine zI ?_ | refine zL ?_ | refine zC ?_ | refine yai ?_ | refine yaj ?_ | refine zR ?_ | refine zD ?_ | refine zK ?_ | refine zB ?_ | refine zA ?_ | refine zS ?_ | refine zU ?_ | refine zV ?_ | refine zF ?_ | with_reducible refine yac ?_ | with_reducible refine yag ?_ | refine yad ?_ | refine yae ?_ | refine yaf ?_ | refine zT ?_ | refine zE ?_ | refine zX ?_))
  refine yas ?_; refine ⟨_, rfl, ?_⟩
  exact frz_pair rfl rfl

theorem ybj (x : VarD) (g : GraphD) (v : Int) (ls : List Lk) (hx : numB x = true) (hg : yeq g = true) (h0 : 0 ≤ v) (hv : g.ports[v.toNat]? = some ls) (hl : ls.length ≤ 1000) :
    Con Tryz.prog 46 [.agg (ydi x), encG g, i64 v] (pairA (ybe x g ls.length)) := by
  have hn := num_facts hx
  refine ybs Tryz.func46 rfl rfl Tryz.ntmps46 Tryz.results46 rfl rfl ?_
  (repeat (first | refine zI ?_ | refine zL ?_ | refine zC ?_ | refine yai ?_ | refine yaj ?_ | refine zR ?_ | refine zD ?_ | refine zK ?_ | refine zB ?_ | refine zA ?_ | refine zS ?_ | refine zU ?_ | refine zV ?_ | refine zF ?_ | with_reducible refine yac ?_ | with_reducible refine yag ?_ | refine yad ?_ | refine yae ?_ | refine yaf ?_ | refine zT ?_ | refine zE ?_ | refine zX ?_))
  refine A_loopU (LoopA_step ?_)
  (repeat (first | refine zI ?_ | refine zL ?_ | refine zC ?_ | refine yai ?_ | refine yaj ?_ | refine zR ?_ | refine zD ?_ | refine zK ?_ | refine zB ?_ | refine zA ?_ | refine zS ?_ | refine zU ?_ | refine zV ?_ | refine zF ?_ | with_reducible refine yac ?_ | with_reducible refine yag ?_ | refine yad ?_ | refine yae ?_ | refine yaf ?_ | refine zT ?_ | refine zE ?_ | refine zX ?_))
  refine L_index tok rfl rfl rfl (by omega) (row := [i64 1, .fn 63 []]) rfl rfl rfl ?_
  (repeat (first | refine zI ?_ | refine zL ?_ | refine zC ?_ | refine yai ?_ | refine yaj ?_ | refine zR ?_ | refine zD ?_ | refine zK ?_ | refine zB ?_ | refine zA ?_ | refine zS ?_ | refine zU ?_ | refine zV ?_ | refine zF ?_ | with_reducible refine yac ?_ | with_reducible refine yag ?_ | refine yad ?_ | refine yae ?_ | refine yaf ?_ | refine zT ?_ | refine zE ?_ | refine zX ?_))
  refine yaq rfl (fun h1 => ?_) (fun h1 => ?_)
  · simp at h1
    (repeat (first | refine zI ?_ | refine zL ?_ | refine zC ?_ | refine yai ?_ | refine yaj ?_ | refine zR ?_ | refine zD ?_ | refine zK ?_ | refine zB ?_ | refine zA ?_ | refine zS ?_ | refine zU ?_ | refine zV ?_ | refine zF ?_ | with_reducible refine yac ?_ | with_reducible refine yag ?_ | refine yad ?_ | refine yae ?_ | refine yaf ?_ | refine zT ?_ | refine zE ?_ | refine zX ?_ | refine yar rfl rfl (bounds1_con x g v hx hg) rfl rfl ?_))
    refine yas ?_; refine ⟨_, rfl, ?_⟩
    unfold ybe
    rw [if_neg (by omega), if_neg (by omega)]
    exact Frz.pure
  simp at h1
  (repeat (first | refine zI ?_ | refine zL ?_ | refine zC ?_ | refine yai ?_ | refine yaj ?_ | refine zR ?_ | refine zD ?_ | refine zK ?_ | refine zB ?_ | refine zA ?_ | refine zS ?_ | refine zU ?_ | refine zV ?_ | refine zF ?_ | with_reducible refine yac ?_ | with_reducible refine yag ?_ | refine yad ?_ | refine yae ?_ | refine yaf ?_ | refine zT ?_ | refine zE ?_ | refine zX ?_))
  refine LoopA_sub (t' := [(17, i64 1), (16, i64 3), (15, .sl 2 [[i64 1, .fn 63 []], [i64 2, .fn 65 []], [i64 3, .fn 66 []]]), (3, .lp 3 0), (4, .lp 4 0), (2, i64 v)]) (h' := [(3, some (.cells (ydi x))), (4, some (.cells [ybk g.ids, ybz g.ports]))]) (LoopA_step ?_) (by (repeat (first | exact yan | refine yak rfl ?_))) (by first | exact yab | exact yaa rfl yab | exact yaa rfl (yaa rfl yab) | exact yaa rfl (yaa rfl (yaa rfl yab)) | exact yaa rfl (yaa rfl (yaa rfl (yaa rfl yab))))
  (repeat (first | refine zI ?_ | refine zL ?_ | refine zC ?_ | refine yai ?_ | refine yaj ?_ | refine zR ?_ | refine zD ?_ | refine zK ?_ | refine zB ?_ | refine zA ?_ | refine zS ?_ | refine zU ?_ | refine zV ?_ | refine zF ?_ | with_reducible refine yac ?_ | with_reducible refine yag ?_ | refine yad ?_ | refine yae ?_ | refine yaf ?_ | refine zT ?_ | refine zE ?_ | refine zX ?_))
  refine L_index tok rfl rfl rfl (by omega) (row := [i64 2, .fn 65 []]) rfl rfl rfl ?_
  (repeat (first | refine zI ?_ | refine zL ?_ | refine zC ?_ | refine yai ?_ | refine yaj ?_ | refine zR ?_ | refine zD ?_ | refine zK ?_ | refine zB ?_ | refine zA ?_ | refine zS ?_ | refine zU ?_ | refine zV ?_ | refine zF ?_ | with_reducible refine yac ?_ | with_reducible refine yag ?_ | refine yad ?_ | refine yae ?_ | refine yaf ?_ | refine zT ?_ | refine zE ?_ | refine zX ?_))
  refine yaq rfl (fun h2 => ?_) (fun h2 => ?_)
  · simp at h2
    (repeat (first | refine zI ?_ | refine zL ?_ | refine zC ?_ | refine yai ?_ | refine yaj ?_ | refine zR ?_ | refine zD ?_ | refine zK ?_ | refine zB ?_ | refine zA ?_ | refine zS ?_ | refine zU ?_ | refine zV ?_ | refine zF ?_ | with_reducible refine yac ?_ | with_reducible refine yag ?_ | refine yad ?_ | refine yae ?_ | refine yaf ?_ | refine zT ?_ | refine zE ?_ | refine zX ?_ | refine yar rfl rfl (bounds2_con x g v) rfl rfl ?_))
    refine yas ?_; refine ⟨_, rfl, ?_⟩
    unfold ybe
    rw [if_pos (by omega)]
    exact Frz.pure
  simp at h2
  (repeat (first | refine zI ?_ | refine zL ?_ | refine zC ?_ | refine yai ?_ | refine yaj ?_ | refine zR ?_ | refine zD ?_ | refine zK ?_ | refine zB ?_ | refine zA ?_ | refine zS ?_ | refine zU ?_ | refine zV ?_ | refine zF ?_ | with_reducible refine yac ?_ | with_reducible refine yag ?_ | refine yad ?_ | refine yae ?_ | refine yaf ?_ | refine zT ?_ | refine zE ?_ | refine zX ?_))
  refine LoopA_sub (t' := [(17, i64 2), (16, i64 3), (15, .sl 2 [[i64 1, .fn 63 []], [i64 2, .fn 65 []], [i64 3, .fn 66 []]]), (3, .lp 3 0), (4, .lp 4 0), (2, i64 v)]) (h' := [(3, some (.cells (ydi x))), (4, some (.cells [ybk g.ids, ybz g.ports]))]) (LoopA_step ?_) (by (repeat (first | exact yan | refine yak rfl ?_))) (by first | exact yab | exact yaa rfl yab | exact yaa rfl (yaa rfl yab) | exact yaa rfl (yaa rfl (yaa rfl yab)) | exact yaa rfl (yaa rfl (yaa rfl (yaa rfl yab))))
  (repeat (first | refine zI ?_ | refine zL ?_ | refine zC ?_ | refine yai ?_ | refine yaj ?_ | refine zR ?_ | refine zD ?_ | refine zK ?_ | refine zB ?_ | refine zA ?_ | refine zS ?_ | refine zU ?_ | refine zV ?_ | refine zF ?_ | with_reducible refine yac ?_ | with_reducible refine yag ?_ | refine yad ?_ | refine yae ?_ | refine yaf ?_ | refine zT ?_ | refine zE ?_ | refine zX ?_))
  refine L_index tok rfl rfl rfl (by omega) (row := [i64 3, .fn 66 []]) rfl rfl rfl ?_
  (repeat (first | refine zI ?_ | refine zL ?_ | refine zC ?_ | refine yai ?_ | refine yaj ?_ | refine zR ?_ | refine zD ?_ | refine zK ?_ | refine zB ?_ | refine zA ?_ | refine zS ?_ | refine zU ?_ | refine zV ?_ | refine zF ?_ | with_reducible refine yac ?_ | with_reducible refine yag ?_ | refine yad ?_ | refine yae ?_ | refine yaf ?_ | refine zT ?_ | refine zE ?_ | refine zX ?_))
  refine yaq rfl (fun h3 => ?_) (fun h3 => ?_)
  · simp at h3
    (repeat (first | refine zI ?_ | refine zL ?_ | refine zC ?_ | refine yai ?_ | refine yaj ?_ | refine zR ?_ | refine zD ?_ | refine zK ?_ | refine zB ?_ | refine zA ?_ | refine zS ?_ | refine zU ?_ | refine zV ?_ | refine zF ?_ | with_reducible refine yac ?_ | with_reducible refine yag ?_ | refine yad ?_ | refine yae ?_ | refine yaf ?_ | refine zT ?_ | refine zE ?_ | refine zX ?_ | refine yar rfl rfl (bounds3_con x g v ls h0 hv hl) rfl rfl ?_))
    refine yas ?_; refine ⟨_, rfl, ?_⟩
    unfold ybe
    rw [if_neg (by omega), if_pos (by omega)]
    exact Frz.pure
  · simp at h3
    omega
end Go.Proofs.YtmlkdoimkdbdpaaGreatDoor
set_option linter.unusedVariables false
set_option maxRecDepth 100000
set_option maxHeartbeats 8000000
namespace Go.Proofs.YtmlkdoimkdbdpaaGreatDoor
open Go.RowKit

structure Fair (p : ProgD) (g : GraphD) : Prop where
  pin : ProgIn p
  light : LightP p
  lg : lightG g = true
theorem Fair.vlen {p : ProgD} {g : GraphD} (h : Fair p g) : p.vars.length ≤ 1000 := h.light.1
theorem Fair.glen {p : ProgD} {g : GraphD} (h : Fair p g) : g.ids.length ≤ 30 ∧ g.ports.length ≤ 30 ∧ ∀ l ∈ g.ports, l.length ≤ 30 := (lightG_iff g).1 h.lg
theorem ends_con (p : ProgD) (g : GraphD) (v x : Int) (ls : List Lk) (y : VarD) (hy : numB y = true) (hg : yeq g = true) (h0 : 0 ≤ v) (hv : g.ports[v.toNat]? = some ls) (hl : ls.length ≤ 1000) (hx0 : 0 ≤ x) (hx : p.vars[x.toNat]? = some y) :
    Con Tryz.prog 32 [encP p, encG g, i64 v, i64 x] (pairA (ybe y g ls.length)) := by
  have hn := num_facts hy
  have ht := terms_bd hy hg
  have hf := ycy hg
  refine ybs Tryz.func32 rfl rfl Tryz.ntmps32 Tryz.results32 rfl rfl ?_
  (repeat (first | refine zI ?_ | refine zL ?_ | refine zC ?_ | refine yai ?_ | refine yaj ?_ | refine zR ?_ | refine zD ?_ | refine zK ?_ | refine zB ?_ | refine zA ?_ | refine zS ?_ | refine zU ?_ | refine zV ?_ | refine zF ?_ | with_reducible refine yac ?_ | with_reducible refine yag ?_ | refine yad ?_ | refine yae ?_ | refine yaf ?_ | refine zT ?_ | refine zE ?_ | refine zX ?_))
  refine yaq rfl (fun h1 => ?_) (fun h1 => ?_)
  · simp at h1
    (repeat (first | refine zI ?_ | refine zL ?_ | refine zC ?_ | refine yai ?_ | refine yaj ?_ | refine zR ?_ | refine zD ?_ | refine zK ?_ | refine zB ?_ | refine zA ?_ | refine zS ?_ | refine zU ?_ | refine zV ?_ | refine zF ?_ | with_reducible refine yac ?_ | with_reducible refine yag ?_ | refine yad ?_ | refine yae ?_ | refine yaf ?_ | refine zT ?_ | refine zE ?_ | refine zX ?_))
    refine yas ?_; refine ⟨_, rfl, ?_⟩
    unfold ybe; rw [if_pos h1]; exact Frz.pure
  simp at h1
  (repeat (first | refine zI ?_ | refine zL ?_ | refine zC ?_ | refine yai ?_ | refine yaj ?_ | refine zR ?_ | refine zD ?_ | refine zK ?_ | refine zB ?_ | refine zA ?_ | refine zS ?_ | refine zU ?_ | refine zV ?_ | refine zF ?_ | with_reducible refine yac ?_ | with_reducible refine yag ?_ | refine yad ?_ | refine yae ?_ | refine yaf ?_ | refine zT ?_ | refine zE ?_ | refine zX ?_))
  refine yaq rfl (fun h2 => ?_) (fun h2 => ?_)
  · simp at h2
    (repeat (first | refine zI ?_ | refine zL ?_ | refine zC ?_ | refine yai ?_ | refine yaj ?_ | refine zR ?_ | refine zD ?_ | refine zK ?_ | refine zB ?_ | refine zA ?_ | refine zS ?_ | refine zU ?_ | refine zV ?_ | refine zF ?_ | with_reducible refine yac ?_ | with_reducible refine yag ?_ | refine yad ?_ | refine yae ?_ | refine yaf ?_ | refine zT ?_ | refine zE ?_ | refine zX ?_))
    refine yas ?_; refine ⟨_, rfl, ?_⟩
    unfold ybe; rw [if_neg h1, if_pos h2]; exact Frz.pure
  simp at h2
  (repeat (first | refine zI ?_ | refine zL ?_ | refine zC ?_ | refine yai ?_ | refine yaj ?_ | refine zR ?_ | refine zD ?_ | refine zK ?_ | refine zB ?_ | refine zA ?_ | refine zS ?_ | refine zU ?_ | refine zV ?_ | refine zF ?_ | with_reducible refine yac ?_ | with_reducible refine yag ?_ | refine yad ?_ | refine yae ?_ | refine yaf ?_ | refine zT ?_ | refine zE ?_ | refine zX ?_ | refine yar rfl rfl (greatest_con g (by omega)) rfl rfl ?_))
  refine yas ?_; refine ⟨_, rfl, ?_⟩
  unfold ybe; rw [if_neg h1, if_neg h2]; exact Frz.pure

end Go.Proofs.YtmlkdoimkdbdpaaGreatDoor
set_option linter.unusedVariables false
set_option maxRecDepth 100000
set_option maxHeartbeats 8000000
namespace Go.Proofs.YtmlkdoimkdbdpaaGreatDoor
open Go.RowKit

theorem fits_bad {p : ProgD} {g : GraphD} {y : VarD} (h1 : yed p = 0) (h2 : yeq g = true) (hy : y ∈ p.vars) (hb : fitB g y = false) : ydl p g = 9 := by
  unfold ydl
  rw [if_pos h1, if_pos h2, if_neg]
  intro h
  rw [List.all_eq_true.1 h y hy] at hb; cases hb
theorem fits_con (p : ProgD) (g : GraphD) (hf : Fair p g) : Con Tryz.prog 24 [encP p, encG g] (i64 (ydl p g)) := by
  have hgl := hf.glen
  have hvl := hf.vlen
  refine ybs Tryz.func24 rfl rfl Tryz.ntmps24 Tryz.results24 rfl rfl ?_
  (repeat (first | refine zI ?_ | refine zL ?_ | refine zC ?_ | refine yai ?_ | refine yaj ?_ | refine zR ?_ | refine zD ?_ | refine zK ?_ | refine zB ?_ | refine zA ?_ | refine zS ?_ | refine zU ?_ | refine zV ?_ | refine zF ?_ | with_reducible refine yac ?_ | with_reducible refine yag ?_ | refine yad ?_ | refine yae ?_ | refine yaf ?_ | refine zT ?_ | refine zE ?_ | refine zX ?_ | refine yar rfl rfl (tvalid_con p hf.pin hf.light) rfl rfl ?_))
  refine yaq rfl (fun h1 => ?_) (fun h1 => ?_)
  · simp at h1
    (repeat (first | refine zI ?_ | refine zL ?_ | refine zC ?_ | refine yai ?_ | refine yaj ?_ | refine zR ?_ | refine zD ?_ | refine zK ?_ | refine zB ?_ | refine zA ?_ | refine zS ?_ | refine zU ?_ | refine zV ?_ | refine zF ?_ | with_reducible refine yac ?_ | with_reducible refine yag ?_ | refine yad ?_ | refine yae ?_ | refine yaf ?_ | refine zT ?_ | refine zE ?_ | refine zX ?_))
    refine yas ?_; refine ⟨_, rfl, ?_⟩
    exact ydb (by unfold ydl; rw [if_neg h1])
  simp at h1
  (repeat (first | refine zI ?_ | refine zL ?_ | refine zC ?_ | refine yai ?_ | refine yaj ?_ | refine zR ?_ | refine zD ?_ | refine zK ?_ | refine zB ?_ | refine zA ?_ | refine zS ?_ | refine zU ?_ | refine zV ?_ | refine zF ?_ | with_reducible refine yac ?_ | with_reducible refine yag ?_ | refine yad ?_ | refine yae ?_ | refine yaf ?_ | refine zT ?_ | refine zE ?_ | refine zX ?_ | refine yar rfl rfl (gvalid_con g hf.lg) rfl rfl ?_))
  refine yaq rfl (fun h2 => ?_) (fun h2 => ?_)
  · simp at h2
    (repeat (first | refine zI ?_ | refine zL ?_ | refine zC ?_ | refine yai ?_ | refine yaj ?_ | refine zR ?_ | refine zD ?_ | refine zK ?_ | refine zB ?_ | refine zA ?_ | refine zS ?_ | refine zU ?_ | refine zV ?_ | refine zF ?_ | with_reducible refine yac ?_ | with_reducible refine yag ?_ | refine yad ?_ | refine yae ?_ | refine yaf ?_ | refine zT ?_ | refine zE ?_ | refine zX ?_))
    refine yas ?_; refine ⟨_, rfl, ?_⟩
    exact ydb (by unfold ydl; rw [if_pos h1, if_neg (by simp [h2])])
  simp at h2
  have hvf := ycy h2
  obtain ⟨ls, hls⟩ := yeh (show 0 < g.ports.length by omega)
  have hll := hgl.2.2 ls (List.mem_of_getElem? hls)
  (repeat (first | refine zI ?_ | refine zL ?_ | refine zC ?_ | refine yai ?_ | refine yaj ?_ | refine zR ?_ | refine zD ?_ | refine zK ?_ | refine zB ?_ | refine zA ?_ | refine zS ?_ | refine zU ?_ | refine zV ?_ | refine zF ?_ | with_reducible refine yac ?_ | with_reducible refine yag ?_ | refine yad ?_ | refine yae ?_ | refine yaf ?_ | refine zT ?_ | refine zE ?_ | refine zX ?_))
  refine ydp (α := Nat) (fun k => [(18, i64 k), (17, i64 p.vars.length), (16, .sl 6 (p.vars.map ydi)), (2, .lp 2 0), (3, .lp 3 0)]) (fun k => [(2, some (.cells [yfd p.name, .sl 6 (p.vars.map ydi), .sl 3 (p.rules.map ydw)])), (3, some (.cells [ybk g.ids, ybz g.ports]))]) (fun k => p.vars.length - k) (fun k => k ≤ p.vars.length ∧ ∀ y ∈ p.vars.take k, fitB g y = true) 0 ⟨by omega, by simp⟩ (by (repeat (first | exact yan | refine yak rfl ?_))) (by first | exact yab | exact yaa rfl yab | exact yaa rfl (yaa rfl yab) | exact yaa rfl (yaa rfl (yaa rfl yab)) | exact yaa rfl (yaa rfl (yaa rfl (yaa rfl yab)))) ?_
  intro k ⟨hk, hok⟩
  (repeat (first | refine zI ?_ | refine zL ?_ | refine zC ?_ | refine yai ?_ | refine yaj ?_ | refine zR ?_ | refine zD ?_ | refine zK ?_ | refine zB ?_ | refine zA ?_ | refine zS ?_ | refine zU ?_ | refine zV ?_ | refine zF ?_ | with_reducible refine yac ?_ | with_reducible refine yag ?_ | refine yad ?_ | refine yae ?_ | refine yaf ?_ | refine zT ?_ | refine zE ?_ | refine zX ?_))
  refine yaq rfl (fun h => ?_) (fun h => ?_)
  · simp at h
    obtain ⟨y, hy⟩ := yeh h
    have hym := List.mem_of_getElem? hy
    have hnum := (yde h1).2.2.2 y hym
    have hbd := bounds_bd (deg := (ls.length : Int)) hnum h2 (by omega)
    have hstep : fitB g y = true → ∀ z ∈ p.vars.take (k + 1), fitB g z = true := by
      intro hfy z hz
      rw [yeo hy] at hz
      rcases List.mem_append.1 hz with hz | hz
      · exact hok z hz
      · simp at hz; subst hz; exact hfy
    (repeat (first | refine zI ?_ | refine zL ?_ | refine zC ?_ | refine yai ?_ | refine yaj ?_ | refine zR ?_ | refine zD ?_ | refine zK ?_ | refine zB ?_ | refine zA ?_ | refine zS ?_ | refine zU ?_ | refine zV ?_ | refine zF ?_ | with_reducible refine yac ?_ | with_reducible refine yag ?_ | refine yad ?_ | refine yae ?_ | refine yaf ?_ | refine zT ?_ | refine zE ?_ | refine zX ?_))
    refine yaq rfl (fun h3 => ?_) (fun h3 => ?_)
    · simp at h3
      (repeat (first | refine zI ?_ | refine zL ?_ | refine zC ?_ | refine yai ?_ | refine yaj ?_ | refine zR ?_ | refine zD ?_ | refine zK ?_ | refine zB ?_ | refine zA ?_ | refine zS ?_ | refine zU ?_ | refine zV ?_ | refine zF ?_ | with_reducible refine yac ?_ | with_reducible refine yag ?_ | refine yad ?_ | refine yae ?_ | refine yaf ?_ | refine zT ?_ | refine zE ?_ | refine zX ?_))
      refine rnd (k + 1) ⟨by omega, hstep (by simp [fitB, h3])⟩ (by omega) (by (repeat (first | exact yan | refine yak rfl ?_))) (by first | exact yab | exact yaa rfl yab | exact yaa rfl (yaa rfl yab) | exact yaa rfl (yaa rfl (yaa rfl yab)) | exact yaa rfl (yaa rfl (yaa rfl (yaa rfl yab))))
    simp at h3
    have hsame : ybe y g ls.length = ybe y g 0 := by unfold ybe; rw [if_neg (by omega), if_neg (by omega), if_neg (by omega), if_neg (by omega)]
    (repeat (first | refine zI ?_ | refine zL ?_ | refine zC ?_ | refine yai ?_ | refine yaj ?_ | refine zR ?_ | refine zD ?_ | refine zK ?_ | refine zB ?_ | refine zA ?_ | refine zS ?_ | refine zU ?_ | refine zV ?_ | refine zF ?_ | with_reducible refine yac ?_ | with_reducible refine yag ?_ | refine yad ?_ | refine yae ?_ | refine yaf ?_ | refine zT ?_ | refine zE ?_ | refine zX ?_ | refine yar rfl rfl (ybj y g 0 ls hnum h2 (by omega) hls (by omega)) rfl rfl ?_))
    refine ybm 34 rfl (fun h4 => ?_) (fun h4 => ?_)
    · simp at h4
      (repeat (first | refine zI ?_ | refine zL ?_ | refine zC ?_ | refine yai ?_ | refine yaj ?_ | refine zR ?_ | refine zD ?_ | refine zK ?_ | refine zB ?_ | refine zA ?_ | refine zS ?_ | refine zU ?_ | refine zV ?_ | refine zF ?_ | with_reducible refine yac ?_ | with_reducible refine yag ?_ | refine yad ?_ | refine yae ?_ | refine yaf ?_ | refine zT ?_ | refine zE ?_ | refine zX ?_))
      refine yas ?_; refine ⟨_, rfl, ?_⟩
      exact ydb (fits_bad h1 h2 hym (by rw [hsame] at h4; simp [fitB, h3]; omega)).symm
    simp at h4
    (repeat (first | refine zI ?_ | refine zL ?_ | refine zC ?_ | refine yai ?_ | refine yaj ?_ | refine zR ?_ | refine zD ?_ | refine zK ?_ | refine zB ?_ | refine zA ?_ | refine zS ?_ | refine zU ?_ | refine zV ?_ | refine zF ?_ | with_reducible refine yac ?_ | with_reducible refine yag ?_ | refine yad ?_ | refine yae ?_ | refine yaf ?_ | refine zT ?_ | refine zE ?_ | refine zX ?_))
    refine yaq rfl (fun h5 => ?_) (fun h5 => ?_)
    · simp at h5
      (repeat (first | refine zI ?_ | refine zL ?_ | refine zC ?_ | refine yai ?_ | refine yaj ?_ | refine zR ?_ | refine zD ?_ | refine zK ?_ | refine zB ?_ | refine zA ?_ | refine zS ?_ | refine zU ?_ | refine zV ?_ | refine zF ?_ | with_reducible refine yac ?_ | with_reducible refine yag ?_ | refine yad ?_ | refine yae ?_ | refine yaf ?_ | refine zT ?_ | refine zE ?_ | refine zX ?_))
      refine yas ?_; refine ⟨_, rfl, ?_⟩
      exact ydb (fits_bad h1 h2 hym (by rw [hsame] at h5; simp [fitB, h3]; omega)).symm
    · simp at h5
      (repeat (first | refine zI ?_ | refine zL ?_ | refine zC ?_ | refine yai ?_ | refine yaj ?_ | refine zR ?_ | refine zD ?_ | refine zK ?_ | refine zB ?_ | refine zA ?_ | refine zS ?_ | refine zU ?_ | refine zV ?_ | refine zF ?_ | with_reducible refine yac ?_ | with_reducible refine yag ?_ | refine yad ?_ | refine yae ?_ | refine yaf ?_ | refine zT ?_ | refine zE ?_ | refine zX ?_))
      refine rnd (k + 1) ⟨by omega, hstep (by rw [hsame] at h4 h5; simp [fitB, h3]; omega)⟩ (by omega) (by (repeat (first | exact yan | refine yak rfl ?_))) (by first | exact yab | exact yaa rfl yab | exact yaa rfl (yaa rfl yab) | exact yaa rfl (yaa rfl (yaa rfl yab)) | exact yaa rfl (yaa rfl (yaa rfl (yaa rfl yab))))
  · simp at h
    obtain rfl : k = p.vars.length := by omega
    rw [List.take_length] at hok
    (repeat (first | refine zI ?_ | refine zL ?_ | refine zC ?_ | refine yai ?_ | refine yaj ?_ | refine zR ?_ | refine zD ?_ | refine zK ?_ | refine zB ?_ | refine zA ?_ | refine zS ?_ | refine zU ?_ | refine zV ?_ | refine zF ?_ | with_reducible refine yac ?_ | with_reducible refine yag ?_ | refine yad ?_ | refine yae ?_ | refine yaf ?_ | refine zT ?_ | refine zE ?_ | refine zX ?_))
    refine yas ?_; refine ⟨_, rfl, ?_⟩
    exact ydb (fits_zero.2 ⟨h1, h2, hok⟩).symm
theorem rfits_con (p : ProgD) (g : GraphD) (hf : Fair p g) : Con Tryz.prog 28 [encP p, encG g] (i64 (ydl p g)) := by
  have hgl := hf.glen
  have hvl := hf.vlen
  refine ybs Tryz.func28 rfl rfl Tryz.ntmps28 Tryz.results28 rfl rfl ?_
  (repeat (first | refine zI ?_ | refine zL ?_ | refine zC ?_ | refine yai ?_ | refine yaj ?_ | refine zR ?_ | refine zD ?_ | refine zK ?_ | refine zB ?_ | refine zA ?_ | refine zS ?_ | refine zU ?_ | refine zV ?_ | refine zF ?_ | with_reducible refine yac ?_ | with_reducible refine yag ?_ | refine yad ?_ | refine yae ?_ | refine yaf ?_ | refine zT ?_ | refine zE ?_ | refine zX ?_ | refine yar rfl rfl (rtvalid_con p hf.pin hf.light) rfl rfl ?_))
  refine yaq rfl (fun h1 => ?_) (fun h1 => ?_)
  · simp at h1
    (repeat (first | refine zI ?_ | refine zL ?_ | refine zC ?_ | refine yai ?_ | refine yaj ?_ | refine zR ?_ | refine zD ?_ | refine zK ?_ | refine zB ?_ | refine zA ?_ | refine zS ?_ | refine zU ?_ | refine zV ?_ | refine zF ?_ | with_reducible refine yac ?_ | with_reducible refine yag ?_ | refine yad ?_ | refine yae ?_ | refine yaf ?_ | refine zT ?_ | refine zE ?_ | refine zX ?_))
    refine yas ?_; refine ⟨_, rfl, ?_⟩
    exact ydb (by unfold ydl; rw [if_neg h1])
  simp at h1
  (repeat (first | refine zI ?_ | refine zL ?_ | refine zC ?_ | refine yai ?_ | refine yaj ?_ | refine zR ?_ | refine zD ?_ | refine zK ?_ | refine zB ?_ | refine zA ?_ | refine zS ?_ | refine zU ?_ | refine zV ?_ | refine zF ?_ | with_reducible refine yac ?_ | with_reducible refine yag ?_ | refine yad ?_ | refine yae ?_ | refine yaf ?_ | refine zT ?_ | refine zE ?_ | refine zX ?_ | refine yar rfl rfl (rvalid_con g hf.lg) rfl rfl ?_))
  refine yaq rfl (fun h2 => ?_) (fun h2 => ?_)
  · simp at h2
    (repeat (first | refine zI ?_ | refine zL ?_ | refine zC ?_ | refine yai ?_ | refine yaj ?_ | refine zR ?_ | refine zD ?_ | refine zK ?_ | refine zB ?_ | refine zA ?_ | refine zS ?_ | refine zU ?_ | refine zV ?_ | refine zF ?_ | with_reducible refine yac ?_ | with_reducible refine yag ?_ | refine yad ?_ | refine yae ?_ | refine yaf ?_ | refine zT ?_ | refine zE ?_ | refine zX ?_))
    refine yas ?_; refine ⟨_, rfl, ?_⟩
    exact ydb (by unfold ydl; rw [if_pos h1, if_neg (by simp [h2])])
  simp at h2
  have hvf := ycy h2
  obtain ⟨ls, hls⟩ := yeh (show 0 < g.ports.length by omega)
  have hll := hgl.2.2 ls (List.mem_of_getElem? hls)
  (repeat (first | refine zI ?_ | refine zL ?_ | refine zC ?_ | refine yai ?_ | refine yaj ?_ | refine zR ?_ | refine zD ?_ | refine zK ?_ | refine zB ?_ | refine zA ?_ | refine zS ?_ | refine zU ?_ | refine zV ?_ | refine zF ?_ | with_reducible refine yac ?_ | with_reducible refine yag ?_ | refine yad ?_ | refine yae ?_ | refine yaf ?_ | refine zT ?_ | refine zE ?_ | refine zX ?_))
  refine ydp (α := Nat) (fun k => [(5, i64 k), (2, .lp 2 0), (3, .lp 3 0)]) (fun k => [(2, some (.cells [yfd p.name, .sl 6 (p.vars.map ydi), .sl 3 (p.rules.map ydw)])), (3, some (.cells [ybk g.ids, ybz g.ports]))]) (fun k => p.vars.length - k) (fun k => k ≤ p.vars.length ∧ ∀ y ∈ p.vars.take k, fitB g y = true) 0 ⟨by omega, by simp⟩ (by (repeat (first | exact yan | refine yak rfl ?_))) (by first | exact yab | exact yaa rfl yab | exact yaa rfl (yaa rfl yab) | exact yaa rfl (yaa rfl (yaa rfl yab)) | exact yaa rfl (yaa rfl (yaa rfl (yaa rfl yab)))) ?_
  intro k ⟨hk, hok⟩
  (repeat (first | refine zI ?_ | refine zL ?_ | refine zC ?_ | refine yai ?_ | refine yaj ?_ | refine zR ?_ | refine zD ?_ | refine zK ?_ | refine zB ?_ | refine zA ?_ | refine zS ?_ | refine zU ?_ | refine zV ?_ | refine zF ?_ | with_reducible refine yac ?_ | with_reducible refine yag ?_ | refine yad ?_ | refine yae ?_ | refine yaf ?_ | refine zT ?_ | refine zE ?_ | refine zX ?_))
  refine yaq rfl (fun h => ?_) (fun h => ?_)
  · simp at h
    obtain ⟨y, hy⟩ := yeh h
    have hym := List.mem_of_getElem? hy
    have hnum := (yde h1).2.2.2 y hym
    have hbd := bounds_bd (deg := (ls.length : Int)) hnum h2 (by omega)
    have hstep : fitB g y = true → ∀ z ∈ p.vars.take (k + 1), fitB g z = true := by
      intro hfy z hz
      rw [yeo hy] at hz
      rcases List.mem_append.1 hz with hz | hz
      · exact hok z hz
      · simp at hz; subst hz; exact hfy
    (repeat (first | refine zI ?_ | refine zL ?_ | refine zC ?_ | refine yai ?_ | refine yaj ?_ | refine zR ?_ | refine zD ?_ | refine zK ?_ | refine zB ?_ | refine zA ?_ | refine zS ?_ | refine zU ?_ | refine zV ?_ | refine zF ?_ | with_reducible refine yac ?_ | with_reducible refine yag ?_ | refine yad ?_ | refine yae ?_ | refine yaf ?_ | refine zT ?_ | refine zE ?_ | refine zX ?_ | refine yar rfl rfl (ends_con p g 0 k ls y hnum h2 (by omega) hls (by omega) (by omega) (by simpa using hy)) rfl rfl ?_))
    refine ybm 35 rfl (fun h3 => ?_) (fun h3 => ?_)
    · simp at h3
      have hsame : ybe y g ls.length = ybe y g 0 := by unfold ybe; rw [if_neg (by omega), if_neg (by omega), if_neg (by omega), if_neg (by omega)]
      (repeat (first | refine zI ?_ | refine zL ?_ | refine zC ?_ | refine yai ?_ | refine yaj ?_ | refine zR ?_ | refine zD ?_ | refine zK ?_ | refine zB ?_ | refine zA ?_ | refine zS ?_ | refine zU ?_ | refine zV ?_ | refine zF ?_ | with_reducible refine yac ?_ | with_reducible refine yag ?_ | refine yad ?_ | refine yae ?_ | refine yaf ?_ | refine zT ?_ | refine zE ?_ | refine zX ?_ | refine yar rfl rfl (in_con _ _ _) rfl rfl ?_))
      refine yaq rfl (fun h4 => ?_) (fun h4 => ?_)
      · simp [inB] at h4
        (repeat (first | refine zI ?_ | refine zL ?_ | refine zC ?_ | refine yai ?_ | refine yaj ?_ | refine zR ?_ | refine zD ?_ | refine zK ?_ | refine zB ?_ | refine zA ?_ | refine zS ?_ | refine zU ?_ | refine zV ?_ | refine zF ?_ | with_reducible refine yac ?_ | with_reducible refine yag ?_ | refine yad ?_ | refine yae ?_ | refine yaf ?_ | refine zT ?_ | refine zE ?_ | refine zX ?_))
        refine yas ?_; refine ⟨_, rfl, ?_⟩
        exact ydb (fits_bad h1 h2 hym (by rw [hsame] at h4; simp [fitB, h3]; omega)).symm
      · simp [inB] at h4
        (repeat (first | refine zI ?_ | refine zL ?_ | refine zC ?_ | refine yai ?_ | refine yaj ?_ | refine zR ?_ | refine zD ?_ | refine zK ?_ | refine zB ?_ | refine zA ?_ | refine zS ?_ | refine zU ?_ | refine zV ?_ | refine zF ?_ | with_reducible refine yac ?_ | with_reducible refine yag ?_ | refine yad ?_ | refine yae ?_ | refine yaf ?_ | refine zT ?_ | refine zE ?_ | refine zX ?_))
        refine rnd (k + 1) ⟨by omega, hstep (by rw [hsame] at h4; simp [fitB, h3]; omega)⟩ (by omega) (by (repeat (first | exact yan | refine yak rfl ?_))) (by first | exact yab | exact yaa rfl yab | exact yaa rfl (yaa rfl yab) | exact yaa rfl (yaa rfl (yaa rfl yab)) | exact yaa rfl (yaa rfl (yaa rfl (yaa rfl yab))))
    · simp at h3
      (repeat (first | refine zI ?_ | refine zL ?_ | refine zC ?_ | refine yai ?_ | refine yaj ?_ | refine zR ?_ | refine zD ?_ | refine zK ?_ | refine zB ?_ | refine zA ?_ | refine zS ?_ | refine zU ?_ | refine zV ?_ | refine zF ?_ | with_reducible refine yac ?_ | with_reducible refine yag ?_ | refine yad ?_ | refine yae ?_ | refine yaf ?_ | refine zT ?_ | refine zE ?_ | refine zX ?_))
      refine rnd (k + 1) ⟨by omega, hstep (by simp [fitB, h3])⟩ (by omega) (by (repeat (first | exact yan | refine yak rfl ?_))) (by first | exact yab | exact yaa rfl yab | exact yaa rfl (yaa rfl yab) | exact yaa rfl (yaa rfl (yaa rfl yab)) | exact yaa rfl (yaa rfl (yaa rfl (yaa rfl yab))))
  · simp at h
    obtain rfl : k = p.vars.length := by omega
    rw [List.take_length] at hok
    (repeat (first | refine zI ?_ | refine zL ?_ | refine zC ?_ | refine yai ?_ | refine yaj ?_ | refine zR ?_ | refine zD ?_ | refine zK ?_ | refine zB ?_ | refine zA ?_ | refine zS ?_ | refine zU ?_ | refine zV ?_ | refine zF ?_ | with_reducible refine yac ?_ | with_reducible refine yag ?_ | refine yad ?_ | refine yae ?_ | refine yaf ?_ | refine zT ?_ | refine zE ?_ | refine zX ?_))
    refine yas ?_; refine ⟨_, rfl, ?_⟩
    exact ydb (fits_zero.2 ⟨h1, h2, hok⟩).symm

end Go.Proofs.YtmlkdoimkdbdpaaGreatDoor

set_option linter.unusedVariables false
set_option maxRecDepth 100000
set_option maxHeartbeats 8000000
namespace Go.Proofs.YtmlkdoimkdbdpaaGreatDoor
open Go.RowKit

end Go.Proofs.YtmlkdoimkdbdpaaGreatDoor
set_option linter.unusedVariables false
set_option maxRecDepth 100000
set_option maxHeartbeats 8000000
namespace Go.Proofs.YtmlkdoimkdbdpaaGreatDoor
open Go.RowKit

end Go.Proofs.YtmlkdoimkdbdpaaGreatDoor

set_option linter.unusedVariables false
set_option maxRecDepth 100000
set_option maxHeartbeats 8000000
namespace Go.Proofs.YtmlkdoimkdbdpaaGreatDoor
open Go.RowKit

theorem bounds_three {x : VarD} {g : GraphD} {deg : Int} (h : x.kind = 3) : ybe x g deg = (-1, deg - 1) := by unfold ybe; rw [if_neg (by omega), if_pos h]
end Go.Proofs.YtmlkdoimkdbdpaaGreatDoor
