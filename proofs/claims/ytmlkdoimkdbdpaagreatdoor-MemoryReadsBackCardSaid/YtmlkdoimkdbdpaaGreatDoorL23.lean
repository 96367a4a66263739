/- Part 23 of the texts under MemoryReadsAndWrites,MemoryReadsBack: joined, with what it needs alone. -/
import Derived.Test.YtmlkdoimkdbdpaaGreatDoorRows
import Derived.Lib.LaidTab
import Derived.Deep.DeepHandedRow
import Derived.LaidSub
import Derived.Test.YtmlkdoimkdbdpaaGreatDoorL1
import Derived.Test.YtmlkdoimkdbdpaaGreatDoorL5
import Derived.Test.YtmlkdoimkdbdpaaGreatDoorL10
import Derived.Test.YtmlkdoimkdbdpaaGreatDoorL12
import Derived.Test.YtmlkdoimkdbdpaaGreatDoorL16
import Derived.Test.YtmlkdoimkdbdpaaGreatDoorL19
import Derived.Test.YtmlkdoimkdbdpaaGreatDoorL22
set_option linter.unusedVariables false
set_option maxRecDepth 100000
set_option maxHeartbeats 8000000
namespace Go.Proofs.YtmlkdoimkdbdpaaGreatDoor
open Go.RowKit
def lightC (c : List (List Int)) : Bool := decide (c.length ≤ 30) && c.all fun r => decide (r.length ≤ 10)
theorem lightC_in {c : List (List Int)} (h : lightC c = true) : CfgIn c := by
  simp only [lightC, Bool.and_eq_true, decide_eq_true_eq, List.all_eq_true] at h
  exact ⟨by omega, fun r hr => by have := h.2 r hr; omega⟩
theorem lightCfg_con (c : List (List Int)) : Con Tryz.prog 15 [encC c] (yfp (lightC c)) := by
  refine ybs Tryz.func15 rfl rfl Tryz.ntmps15 Tryz.results15 rfl rfl ?_
  (repeat (first | refine zI ?_ | refine zL ?_ | refine zC ?_ | refine yai ?_ | refine yaj ?_ | refine zR ?_ | refine zD ?_ | refine zK ?_ | refine zB ?_ | refine zA ?_ | refine zS ?_ | refine zU ?_ | refine zV ?_ | refine zF ?_ | with_reducible refine yac ?_ | with_reducible refine yag ?_ | refine yad ?_ | refine yae ?_ | refine yaf ?_ | refine zT ?_ | refine zE ?_ | refine zX ?_))
  refine yaq rfl (fun h => ?_) (fun h => ?_)
  · (repeat (first | refine zI ?_ | refine zL ?_ | refine zC ?_ | refine yai ?_ | refine yaj ?_ | refine zR ?_ | refine zD ?_ | refine zK ?_ | refine zB ?_ | refine zA ?_ | refine zS ?_ | refine zU ?_ | refine zV ?_ | refine zF ?_ | with_reducible refine yac ?_ | with_reducible refine yag ?_ | refine yad ?_ | refine yae ?_ | refine yaf ?_ | refine zT ?_ | refine zE ?_ | refine zX ?_))
    refine yas ?_; refine ⟨_, rfl, ?_⟩
    simp at h
    exact yau (by simp [lightC]; omega)
  have hl : c.length ≤ 30 := by simp at h; omega
  (repeat (first | refine zI ?_ | refine zL ?_ | refine zC ?_ | refine yai ?_ | refine yaj ?_ | refine zR ?_ | refine zD ?_ | refine zK ?_ | refine zB ?_ | refine zA ?_ | refine zS ?_ | refine zU ?_ | refine zV ?_ | refine zF ?_ | with_reducible refine yac ?_ | with_reducible refine yag ?_ | refine yad ?_ | refine yae ?_ | refine yaf ?_ | refine zT ?_ | refine zE ?_ | refine zX ?_))
  refine ydp (α := Nat) (fun k => [(3, i64 k), (0, encC c)]) (fun k => []) (fun k => c.length - k) (fun k => k ≤ c.length ∧ (c.take k).all (fun r => decide (r.length ≤ 10)) = true) 0 ⟨by omega, rfl⟩ (by (repeat (first | exact yan | refine yak rfl ?_))) (by first | exact yab | exact yaa rfl yab | exact yaa rfl (yaa rfl yab) | exact yaa rfl (yaa rfl (yaa rfl yab)) | exact yaa rfl (yaa rfl (yaa rfl (yaa rfl yab)))) ?_
  intro k ⟨hk, hok⟩
  (repeat (first | refine zI ?_ | refine zL ?_ | refine zC ?_ | refine yai ?_ | refine yaj ?_ | refine zR ?_ | refine zD ?_ | refine zK ?_ | refine zB ?_ | refine zA ?_ | refine zS ?_ | refine zU ?_ | refine zV ?_ | refine zF ?_ | with_reducible refine yac ?_ | with_reducible refine yag ?_ | refine yad ?_ | refine yae ?_ | refine yaf ?_ | refine zT ?_ | refine zE ?_ | refine zX ?_))
  refine yaq rfl (fun h1 => ?_) (fun h1 => ?_)
  · simp at h1
    obtain ⟨r, hr⟩ := yeh h1
    (repeat (first | refine zI ?_ | refine zL ?_ | refine zC ?_ | refine yai ?_ | refine yaj ?_ | refine zR ?_ | refine zD ?_ | refine zK ?_ | refine zB ?_ | refine zA ?_ | refine zS ?_ | refine zU ?_ | refine zV ?_ | refine zF ?_ | with_reducible refine yac ?_ | with_reducible refine yag ?_ | refine yad ?_ | refine yae ?_ | refine yaf ?_ | refine zT ?_ | refine zE ?_ | refine zX ?_))
    refine yaq rfl (fun h2 => ?_) (fun h2 => ?_)
    · (repeat (first | refine zI ?_ | refine zL ?_ | refine zC ?_ | refine yai ?_ | refine yaj ?_ | refine zR ?_ | refine zD ?_ | refine zK ?_ | refine zB ?_ | refine zA ?_ | refine zS ?_ | refine zU ?_ | refine zV ?_ | refine zF ?_ | with_reducible refine yac ?_ | with_reducible refine yag ?_ | refine yad ?_ | refine yae ?_ | refine yaf ?_ | refine zT ?_ | refine zE ?_ | refine zX ?_))
      refine yas ?_; refine ⟨_, rfl, ?_⟩
      simp at h2
      exact yau (by rw [lightC, allM_bad hr (by simp; omega), Bool.and_false])
    · (repeat (first | refine zI ?_ | refine zL ?_ | refine zC ?_ | refine yai ?_ | refine yaj ?_ | refine zR ?_ | refine zD ?_ | refine zK ?_ | refine zB ?_ | refine zA ?_ | refine zS ?_ | refine zU ?_ | refine zV ?_ | refine zF ?_ | with_reducible refine yac ?_ | with_reducible refine yag ?_ | refine yad ?_ | refine yae ?_ | refine yaf ?_ | refine zT ?_ | refine zE ?_ | refine zX ?_))
      simp at h2
      exact rnd (k + 1) ⟨by omega, allM_snoc hr hok (by simp; omega)⟩ (by omega) (by (repeat (first | exact yan | refine yak rfl ?_))) (by first | exact yab | exact yaa rfl yab | exact yaa rfl (yaa rfl yab) | exact yaa rfl (yaa rfl (yaa rfl yab)) | exact yaa rfl (yaa rfl (yaa rfl (yaa rfl yab))))
  · simp at h1
    obtain rfl : k = c.length := by omega
    (repeat (first | refine zI ?_ | refine zL ?_ | refine zC ?_ | refine yai ?_ | refine yaj ?_ | refine zR ?_ | refine zD ?_ | refine zK ?_ | refine zB ?_ | refine zA ?_ | refine zS ?_ | refine zU ?_ | refine zV ?_ | refine zF ?_ | with_reducible refine yac ?_ | with_reducible refine yag ?_ | refine yad ?_ | refine yae ?_ | refine yaf ?_ | refine zT ?_ | refine zE ?_ | refine zX ?_))
    refine yas ?_; refine ⟨_, rfl, ?_⟩
    rw [List.take_length] at hok
    exact yau (by simp only [lightC, hok, hl]; rfl)
theorem fair10_con (p : ProgD) (g : GraphD) (c : List (List Int)) (hin : ProgIn p) : Con Tryz.prog 5 [encP p, encG g, encC c] (yfp (yew p && lightG g && lightC c)) := by
  refine ybs Tryz.func5 rfl rfl Tryz.ntmps5 Tryz.results5 rfl rfl ?_
  (repeat (first | refine zI ?_ | refine zL ?_ | refine zC ?_ | refine yai ?_ | refine yaj ?_ | refine zR ?_ | refine zD ?_ | refine zK ?_ | refine zB ?_ | refine zA ?_ | refine zS ?_ | refine zU ?_ | refine zV ?_ | refine zF ?_ | with_reducible refine yac ?_ | with_reducible refine yag ?_ | refine yad ?_ | refine yae ?_ | refine yaf ?_ | refine zT ?_ | refine zE ?_ | refine zX ?_ | refine yar rfl rfl (lightP_con p hin) rfl rfl ?_))
  refine ybm 9 rfl (fun h1 => ?_) (fun h1 => ?_)
  · (repeat (first | refine zI ?_ | refine zL ?_ | refine zC ?_ | refine yai ?_ | refine yaj ?_ | refine zR ?_ | refine zD ?_ | refine zK ?_ | refine zB ?_ | refine zA ?_ | refine zS ?_ | refine zU ?_ | refine zV ?_ | refine zF ?_ | with_reducible refine yac ?_ | with_reducible refine yag ?_ | refine yad ?_ | refine yae ?_ | refine yaf ?_ | refine zT ?_ | refine zE ?_ | refine zX ?_ | refine yar rfl rfl (lightGraph_con g) rfl rfl ?_))
    refine ybm 13 rfl (fun h2 => ?_) (fun h2 => ?_)
    · (repeat (first | refine zI ?_ | refine zL ?_ | refine zC ?_ | refine yai ?_ | refine yaj ?_ | refine zR ?_ | refine zD ?_ | refine zK ?_ | refine zB ?_ | refine zA ?_ | refine zS ?_ | refine zU ?_ | refine zV ?_ | refine zF ?_ | with_reducible refine yac ?_ | with_reducible refine yag ?_ | refine yad ?_ | refine yae ?_ | refine yaf ?_ | refine zT ?_ | refine zE ?_ | refine zX ?_ | refine yar rfl rfl (lightCfg_con c) rfl rfl ?_))
      refine yas ?_; refine ⟨_, rfl, ?_⟩
      exact yau (by rw [h1, h2]; rfl)
    · (repeat (first | refine zI ?_ | refine zL ?_ | refine zC ?_ | refine yai ?_ | refine yaj ?_ | refine zR ?_ | refine zD ?_ | refine zK ?_ | refine zB ?_ | refine zA ?_ | refine zS ?_ | refine zU ?_ | refine zV ?_ | refine zF ?_ | with_reducible refine yac ?_ | with_reducible refine yag ?_ | refine yad ?_ | refine yae ?_ | refine yaf ?_ | refine zT ?_ | refine zE ?_ | refine zX ?_))
      refine yas ?_; refine ⟨_, rfl, ?_⟩
      exact yau (by rw [h1, h2]; rfl)
  · (repeat (first | refine zI ?_ | refine zL ?_ | refine zC ?_ | refine yai ?_ | refine yaj ?_ | refine zR ?_ | refine zD ?_ | refine zK ?_ | refine zB ?_ | refine zA ?_ | refine zS ?_ | refine zU ?_ | refine zV ?_ | refine zF ?_ | with_reducible refine yac ?_ | with_reducible refine yag ?_ | refine yad ?_ | refine yae ?_ | refine yaf ?_ | refine zT ?_ | refine zE ?_ | refine zX ?_))
    refine yas ?_; refine ⟨_, rfl, ?_⟩
    exact yau (by rw [h1]; rfl)
def twP : ProgD := ⟨"a".toUTF8, [⟨"b".toUTF8, 2, 0, 0, 0, 0⟩], []⟩
def twG : GraphD := ⟨[0, 1], [[(1, 1)], [(0, 1)]]⟩
theorem twF : Fair twP twG := by
  refine ⟨⟨by decide, fun x hx => ?_, fun r hr => by simp [twP] at hr⟩, light_of (by decide), by decide⟩
  simp [twP] at hx
  subst hx
  unfold VarIn In64
  decide +kernel
def twA : AV := .agg [yfd "a".toUTF8, .sl 6 [[yfd "b".toUTF8, i64 2, i64 0, i64 0, i64 0, i64 0]], .v (.slice none 0 0)]
theorem twA_wk : Wk twA (encP twP) := wk_agg (.cons (wk_refl _) (.cons (wk_refl _) (.cons (wk_nil 3) .nil)))
theorem two_con : Con Tryz.prog 16 [] (.tup [twA, encG twG]) := by
  refine con_ofT tok Tryz.func16 rfl rfl Tryz.ntmps16 Tryz.results16 rfl rfl ?_
  (repeat (first | refine zI ?_ | refine zL ?_ | refine zC ?_ | refine yai ?_ | refine yaj ?_ | refine zR ?_ | refine zD ?_ | refine zK ?_ | refine zB ?_ | refine zA ?_ | refine zS ?_ | refine zU ?_ | refine zV ?_ | refine zF ?_ | with_reducible refine yac ?_ | with_reducible refine yag ?_ | refine yad ?_ | refine yae ?_ | refine yaf ?_ | refine zT ?_ | refine zE ?_ | refine zX ?_))
  refine yas ?_; refine ⟨_, rfl, ?_⟩
  exact Frz.pure
theorem awake10_con : Con Tryz.prog 6 [] (yfp true) := by
  have hc : countM twP twG = (4, 0) := by decide +kernel
  have hu : unrankM twP twG 2 = ([[1], [0]], 0) := by decide +kernel
  have e1 := mcount_con twP twG twF
  have e2 := munrank_con twP twG 2 twF
  rw [hc] at e1
  rw [hu] at e2
  have f1 := Con.weak (.cons twA_wk (.cons (wk_refl _) .nil)) e1
  have f2 := Con.weak (.cons twA_wk (.cons (wk_refl _) (.cons (wk_refl _) .nil))) e2
  refine ybs Tryz.func6 rfl rfl Tryz.ntmps6 Tryz.results6 rfl rfl ?_
  (repeat (first | refine zI ?_ | refine zL ?_ | refine zC ?_ | refine yai ?_ | refine yaj ?_ | refine zR ?_ | refine zD ?_ | refine zK ?_ | refine zB ?_ | refine zA ?_ | refine zS ?_ | refine zU ?_ | refine zV ?_ | refine zF ?_ | with_reducible refine yac ?_ | with_reducible refine yag ?_ | refine yad ?_ | refine yae ?_ | refine yaf ?_ | refine zT ?_ | refine zE ?_ | refine zX ?_ | refine yar rfl rfl two_con rfl rfl ?_ | refine yar rfl rfl f1 rfl rfl ?_ | refine yar rfl rfl f2 rfl rfl ?_ | refine L_index tok rfl rfl rfl (by omega) rfl rfl rfl ?_))
  refine yas ?_; refine ⟨_, rfl, ?_⟩
  exact yau rfl
end Go.Proofs.YtmlkdoimkdbdpaaGreatDoor
set_option linter.unusedVariables false
set_option maxRecDepth 100000
set_option maxHeartbeats 8000000
namespace Go.Proofs.YtmlkdoimkdbdpaaGreatDoor
open Go.RowKit
variable {P : Program} {N : Nat} {ops : Array Oper} {lf : Oper → Bool} {Q : SS → Prop} {t : List (Nat × AV)} {h : List (Nat × Option LObj)}
theorem L_true {l : List Oper} (d : Nat) {b : Bool} (hb : look t d = some (.v (.bool b))) (he : b = true) (k : Lex P N ops lf Q l (S ((d, .v (.bool true)) :: t) h)) : Lex P N ops lf Q l (S t h) :=
  ybm d hb (fun _ => k) (fun e => by rw [he] at e; cases e)
end Go.Proofs.YtmlkdoimkdbdpaaGreatDoor
set_option linter.unusedVariables false
set_option maxRecDepth 100000
namespace Go.Proofs.YtmlkdoimkdbdpaaGreatDoor
open Go.ChangeShapes Go.WideShapes Go.RowKit

def Pairs (w : World) (v : Value) (l : List Lk) : Prop := Row w v 2 l.length (l.flatMap fun t => [.int .i64 t.1, .int .i64 t.2])
def LinksOk (w : World) (cs : List Value) (l : List Lk) : Prop := ∃ v, cs = [v] ∧ Pairs w v l
def PortsOk (w : World) (v : Value) (ports : List (List Lk)) : Prop := Seq (LinksOk w) 1 w v ports
def GraphOk (w : World) (v : Value) (g : GraphD) : Prop := ∃ iv pv, v = .agg #[iv, pv] ∧ Ints .i64 w iv g.ids ∧ PortsOk w pv g.ports
def LinkIn (t : Lk) : Prop := In64 t.1 ∧ In64 t.2
def GraphIn (g : GraphD) : Prop := (∀ x ∈ g.ids, In64 x) ∧ ∀ l ∈ g.ports, ∀ t ∈ l, LinkIn t

theorem gcellsInt : Tryz.prog.cellsOf 3 = 1 := by kernel_rfl
theorem cellsLink : Tryz.prog.cellsOf 84 = 2 := by kernel_rfl
theorem cellsInts : Tryz.prog.cellsOf 26 = 1 := by kernel_rfl
theorem cellsLinks : Tryz.prog.cellsOf 82 = 1 := by kernel_rfl
theorem cellsPorts : Tryz.prog.cellsOf 27 = 1 := by kernel_rfl
theorem cellsGraph : Tryz.prog.cellsOf 29 = 2 := by kernel_rfl
section
variable {H : Type} {enc : TypeId × Value → H} {w : World} {cs : List Value} {v : Value} {base : Nat} {d : DataW H} {ps : List MemPlace}
theorem rd_link (h : Rd enc Tryz.prog w 84 cs) : ∃ t : Lk, cs = [.int .i64 t.1, .int .i64 t.2] ∧ LinkIn t := by
  obtain ⟨h1, h2⟩ := rd_struct Tryz.underlying84 h
  rw [cellsLink] at h1
  match cs, h1 with
  | [a, b], _ =>
    have g0 := h2 0 _ rfl
    have g1 := h2 1 _ rfl
    simp [gcellsInt] at g0 g1
    obtain ⟨x, hx, hx'⟩ := yfn Tryz.underlying3 g0
    obtain ⟨y, hy, hy'⟩ := yfn Tryz.underlying3 g1
    simp at hx hy
    exact ⟨(x, y), by simp [hx, hy], hx', hy'⟩
theorem rd_links (h : Rd enc Tryz.prog w 82 cs) : ∃ l, LinksOk w cs l ∧ ∀ t ∈ l, LinkIn t := by
  obtain ⟨v, l, h1, h2⟩ := open_seq (R := fun cs (t : Lk) => cs = [.int .i64 t.1, .int .i64 t.2] ∧ LinkIn t) Tryz.underlying82 cellsLink (Nat.succ_pos 1) (fun cs h => rd_link h) h
  refine ⟨l, ⟨v, h1, seq_flat (fun t : Lk => [.int .i64 t.1, .int .i64 t.2]) (fun _ => rfl) (by omega) h2 (fun cs x h => h.1)⟩, fun x hx => ?_⟩
  obtain ⟨xs, _, h3⟩ := h2
  obtain ⟨i, hi⟩ := List.getElem?_of_mem hx
  exact (h3 i x hi).2
theorem rd_ints (h : Rd enc Tryz.prog w 26 cs) : ∃ v l, cs = [v] ∧ Ints .i64 w v l ∧ ∀ x ∈ l, In64 x := by
  obtain ⟨v, l, h1, hl⟩ := open_seq (R := fun cs x => cs = [.int .i64 x] ∧ In64 x) Tryz.underlying26 gcellsInt Nat.one_pos (fun cs h => by obtain ⟨n, h1, h2⟩ := yfn Tryz.underlying3 h; exact ⟨n, h1, h2⟩) h
  refine ⟨v, l, h1, ?_, fun x hx => ?_⟩
  · have := seq_flat (fun x => [.int .i64 x]) (fun _ => rfl) Nat.one_pos hl (fun cs x h => h.1)
    unfold Ints
    rwa [flat_one l] at this
  · obtain ⟨xs, _, h2⟩ := hl
    obtain ⟨i, hi⟩ := List.getElem?_of_mem hx
    exact (h2 i x hi).2
theorem rd_ports (h : Rd enc Tryz.prog w 27 cs) : ∃ v l, cs = [v] ∧ PortsOk w v l ∧ ∀ x ∈ l, ∀ t ∈ x, LinkIn t := by
  obtain ⟨v, l, h1, h2⟩ := open_seq (R := fun cs l => LinksOk w cs l ∧ ∀ t ∈ l, LinkIn t) Tryz.underlying27 cellsLinks Nat.one_pos (fun cs h => rd_links h) h
  refine ⟨v, l, h1, h2.imp fun _ _ _ h => h.1, fun x hx => ?_⟩
  obtain ⟨xs, _, h3⟩ := h2
  obtain ⟨i, hi⟩ := List.getElem?_of_mem hx
  exact (h3 i x hi).2
theorem open_graph (hv : Value.okWide Tryz.prog w .any base 29 v) (h : DataW.Trod enc Tryz.prog w 0 (fun _ => true) true 29 v d ps) : ∃ g, GraphOk w v g ∧ GraphIn g := by
  obtain ⟨cs, rfl, hcs⟩ : ∃ cs, v = .agg cs ∧ cs.size = Tryz.prog.cellsOf 29 := by
    unfold Value.okWide at hv
    rw [Tryz.underlying29] at hv
    obtain ⟨cs, h1, h2, _⟩ := hv
    exact ⟨cs, h1, h2⟩
  have hr := rd_of h
  simp only [Value.cells] at hr
  obtain ⟨h1, h2⟩ := rd_struct Tryz.underlying29 hr
  rw [cellsGraph] at h1
  obtain ⟨cs⟩ := cs
  simp only at h1 h2
  match cs, h1 with
  | [a, b], _ =>
    have g0 := h2 0 _ rfl
    have g1 := h2 1 _ rfl
    simp [cellsInts, cellsPorts] at g0 g1
    obtain ⟨iv, l, e2, q2, q3⟩ := rd_ints g0
    obtain ⟨pv, rr, e3, q4, q5⟩ := rd_ports g1
    simp at e2 e3
    exact ⟨⟨l, rr⟩, ⟨iv, pv, by simp [e2, e3], q2, q4⟩, q3, q5⟩
end
end Go.Proofs.YtmlkdoimkdbdpaaGreatDoor
set_option linter.unusedVariables false
namespace Go.Proofs.YtmlkdoimkdbdpaaGreatDoor
open Go.RowKit

theorem links_rel {w : World} {lv : Live} {v : Value} {l : List Lk} (h : Pairs w v l) : Rel (okW w) w lv (encLinks l) v :=
  rel_plain (g := fun t : Lk => [.int .i64 t.1, .int .i64 t.2]) (fun _ => rfl) (fun x u hu => by simp at hu; rcases hu with rfl | rfl <;> rfl) h
theorem graph_rel {w : World} {lv : Live} {v : Value} {g : GraphD} (h : GraphOk w v g) : Rel (okW w) w lv (encG g) v := by
  obtain ⟨iv, pv, rfl, h1, h2⟩ := h
  have h3 : ybt (okW w) w lv [ybk g.ids, ybz g.ports] [iv, pv] := by
    refine ybr (ints_rel h1) (ybr ?_ yfc)
    refine rel_of_seq h2 (fun _ => rfl) (fun x c hc => by simp at hc; subst hc; rfl) fun x _ cs hc => ?_
    obtain ⟨lv', rfl, r1⟩ := hc
    exact ybr (links_rel r1) yfc
  exact .agg _ h3.1 (fun c hc => by simp at hc; rcases hc with rfl | rfl <;> rfl) h3.2
end Go.Proofs.YtmlkdoimkdbdpaaGreatDoor
set_option linter.unusedVariables false
namespace Go.Proofs.YtmlkdoimkdbdpaaGreatDoor
open Go.RowKit

theorem terms_rel {w : World} {lv : Live} {v : Value} {l : List Tm} (h : ycu w v l) : Rel (okW w) w lv (encTerms l) v :=
  rel_plain (g := fun t : Tm => [.int .i64 t.1, .int .i64 t.2]) (fun _ => rfl) (fun x u hu => by simp at hu; rcases hu with rfl | rfl <;> rfl) h
theorem vars_rel {w : World} {lv : Live} {v : Value} {l : List VarD} (h : VarsOk w v l) : Rel (okW w) w lv (.sl 6 (l.map ydi)) v :=
  rel_plain (g := varCells) (fun _ => rfl) (fun x u hu => by simp [varCells] at hu; rcases hu with rfl | rfl | rfl | rfl | rfl | rfl <;> rfl) h
theorem prog_rel {w : World} {lv : Live} {v : Value} {p : ProgD} (h : yfe w v p) : Rel (okW w) w lv (encP p) v := by
  obtain ⟨vv, rv, rfl, h1, h2⟩ := h
  have h3 : ybt (okW w) w lv [yfd p.name, .sl 6 (p.vars.map ydi), .sl 3 (p.rules.map ydw)] [.string p.name, vv, rv] := by
    refine ybr (.v _) (ybr (vars_rel h1) (ybr ?_ yfc))
    refine rel_of_seq h2 (fun _ => rfl) (fun x c hc => by simp [ydw] at hc; rcases hc with rfl | rfl | rfl <;> rfl) fun x _ cs hc => ?_
    obtain ⟨gv, sv, rfl, q1, q2⟩ := hc
    refine ybr (.v _) (ybr (terms_rel q1) (ybr ?_ yfc))
    refine rel_of_seq q2 (fun _ => rfl) (fun x c hc => by simp [encSet] at hc; rcases hc with rfl | rfl <;> rfl) fun x _ cs hc => ?_
    obtain ⟨tv, rfl, r1⟩ := hc
    exact ybr (.v _) (ybr (terms_rel r1) yfc)
  exact .agg _ h3.1 (fun c hc => by simp at hc; rcases hc with rfl | rfl | rfl <;> rfl) h3.2
end Go.Proofs.YtmlkdoimkdbdpaaGreatDoor
set_option linter.unusedVariables false
set_option maxRecDepth 100000
namespace Go.Proofs.YtmlkdoimkdbdpaaGreatDoor
open Go.ChangeShapes Go.WideShapes Go.RowKit
def RowOk (w : World) (cs : List Value) (l : List Int) : Prop := ∃ u, cs = [u] ∧ Ints .i64 w u l
def CfgOk (w : World) (v : Value) (c : List (List Int)) : Prop := Seq (RowOk w) 1 w v c
theorem cfg_rel {w : World} {lv : Live} {v : Value} {c : List (List Int)} (h : CfgOk w v c) : Rel (okW w) w lv (encC c) v := by
  refine rel_of_seq h (fun _ => rfl) (fun x c hc => by simp at hc; subst hc; rfl) fun x _ cs hc => ?_
  obtain ⟨u, rfl, r1⟩ := hc
  exact ybr (ints_rel r1) yfc
section
variable {H : Type} {enc : TypeId × Value → H} {w : World} {cs : List Value} {v : Value} {base : Nat} {d : DataW H} {ps : List MemPlace}
theorem open_config (hv : Value.okWide Tryz.prog w .any base 30 v) (h : DataW.Trod enc Tryz.prog w 0 (fun _ => true) true 30 v d ps) : ∃ c, CfgOk w v c := by
  obtain ⟨l, hl⟩ := open_seq_arg (R := RowOk w) Tryz.underlying30 cellsInts Nat.one_pos (fun cs h => by obtain ⟨u, l, h1, h2, _⟩ := rd_ints h; exact ⟨l, u, h1, h2⟩) hv h
  exact ⟨l, hl⟩
end
end Go.Proofs.YtmlkdoimkdbdpaaGreatDoor
set_option linter.unusedVariables false
set_option maxRecDepth 100000
set_option maxHeartbeats 8000000
namespace Go.Proofs.YtmlkdoimkdbdpaaGreatDoor
open Go.RowKit
theorem parseGo_in {ks : List Int} : ∀ {t : List (List (Int × Int))} {ls : List Bs} {i : Nat} {c : List (List Int)}, ydf ks t ls i = .ok c → c.length = t.length ∧ ∀ s ∈ c, ∃ r ∈ t, s.length ≤ r.length
  | [], [], i, c, h => by simp only [ydf, Except.ok.injEq] at h; subst h; exact ⟨rfl, fun s hs => by cases hs⟩
  | [], _ :: _, i, c, h => by simp [ydf] at h
  | _ :: _, [], i, c, h => by simp [ydf] at h
  | r :: t, l :: ls, i, c, h => by
    simp only [ydf] at h
    split at h
    · cases h
    · rename_i s hs
      split at h
      · cases h
      · rename_i d hd
        cases h
        obtain ⟨h1, h2⟩ := parseGo_in hd
        refine ⟨by simp [h1], fun x hx => ?_⟩
        rcases List.mem_cons.1 hx with rfl | hx
        · exact ⟨r, by simp, stateW_len hs⟩
        · obtain ⟨r', hr, hl⟩ := h2 x hx
          exact ⟨r', by simp [hr], hl⟩
theorem parseT_in {p : ProgD} {g : GraphD} (hf : Fair p g) (t : Bs) : CfgIn (parseT p g t).1 := by
  have hnil : CfgIn ([] : List (List Int)) := ⟨by simp, fun r hr => by cases hr⟩
  unfold parseT
  split
  · split
    · exact hnil
    · split
      · exact hnil
      · rename_i c hc
        obtain ⟨h1, h2⟩ := parseGo_in hc
        obtain ⟨e1, e2⟩ := cfg_of_fair hf
        refine ⟨by simp only; omega, fun s hs => ?_⟩
        obtain ⟨r, hr, hl⟩ := h2 s hs
        have := e2 r hr
        omega
  · exact hnil
theorem readsAndWrites_con (p : ProgD) (g : GraphD) (c : List (List Int)) (s : ByteArray) (hin : ProgIn p) (hs : s.size ≤ 9223372036854775807) : Con Tryz.prog 3 [encP p, encG g, encC c, yfd s] (yfp true) := by
  refine ybs Tryz.func3 rfl rfl Tryz.ntmps3 Tryz.results3 rfl rfl ?_
  (repeat (first | refine zI ?_ | refine zL ?_ | refine zC ?_ | refine yai ?_ | refine yaj ?_ | refine zR ?_ | refine zD ?_ | refine zK ?_ | refine zB ?_ | refine zA ?_ | refine zS ?_ | refine zU ?_ | refine zV ?_ | refine zF ?_ | with_reducible refine yac ?_ | with_reducible refine yag ?_ | refine yad ?_ | refine yae ?_ | refine yaf ?_ | refine zT ?_ | refine zE ?_ | refine zX ?_ | refine yar rfl rfl (fair10_con p g c hin) rfl rfl ?_))
  refine ybm 24 rfl (fun h => ?_) (fun h => ?_)
  · (repeat (first | refine zI ?_ | refine zL ?_ | refine zC ?_ | refine yai ?_ | refine yaj ?_ | refine zR ?_ | refine zD ?_ | refine zK ?_ | refine zB ?_ | refine zA ?_ | refine zS ?_ | refine zU ?_ | refine zV ?_ | refine zF ?_ | with_reducible refine yac ?_ | with_reducible refine yag ?_ | refine yad ?_ | refine yae ?_ | refine yaf ?_ | refine zT ?_ | refine zE ?_ | refine zX ?_ | refine yar rfl rfl awake10_con rfl rfl ?_))
    refine yas ?_; refine ⟨_, rfl, ?_⟩
    exact yau rfl
  simp at h
  (repeat (first | refine zI ?_ | refine zL ?_ | refine zC ?_ | refine yai ?_ | refine yaj ?_ | refine zR ?_ | refine zD ?_ | refine zK ?_ | refine zB ?_ | refine zA ?_ | refine zS ?_ | refine zU ?_ | refine zV ?_ | refine zF ?_ | with_reducible refine yac ?_ | with_reducible refine yag ?_ | refine yad ?_ | refine yae ?_ | refine yaf ?_ | refine zT ?_ | refine zE ?_ | refine zX ?_))
  refine yaq rfl (fun h3 => ?_) (fun h3 => ?_)
  · (repeat (first | refine zI ?_ | refine zL ?_ | refine zC ?_ | refine yai ?_ | refine yaj ?_ | refine zR ?_ | refine zD ?_ | refine zK ?_ | refine zB ?_ | refine zA ?_ | refine zS ?_ | refine zU ?_ | refine zV ?_ | refine zF ?_ | with_reducible refine yac ?_ | with_reducible refine yag ?_ | refine yad ?_ | refine yae ?_ | refine yaf ?_ | refine zT ?_ | refine zE ?_ | refine zX ?_ | refine yar rfl rfl awake10_con rfl rfl ?_))
    refine yas ?_; refine ⟨_, rfl, ?_⟩
    exact yau rfl
  simp at h3
  have hf : Fair p g := ⟨hin, light_of h.1.1, h.1.2⟩
  have hc := lightC_in h.2
  (repeat (first | refine zI ?_ | refine zL ?_ | refine zC ?_ | refine yai ?_ | refine yaj ?_ | refine zR ?_ | refine zD ?_ | refine zK ?_ | refine zB ?_ | refine zA ?_ | refine zS ?_ | refine zU ?_ | refine zV ?_ | refine zF ?_ | with_reducible refine yac ?_ | with_reducible refine yag ?_ | refine yad ?_ | refine yae ?_ | refine yaf ?_ | refine zT ?_ | refine zE ?_ | refine zX ?_ | refine yar rfl rfl (mformat_con p g c hf hc) rfl rfl ?_ | refine yar rfl rfl (rformat10_con p g c hf hc) rfl rfl ?_ | refine yar rfl rfl (mparse_con p g hf s (by omega)) rfl rfl ?_ | refine yar rfl rfl (rparse10_con p g hf s (by omega)) rfl rfl ?_ | refine yar rfl rfl awake10_con rfl rfl ?_))
  refine L_true 66 rfl (by simp) ?_
  (repeat (first | refine zI ?_ | refine zL ?_ | refine zC ?_ | refine yai ?_ | refine yaj ?_ | refine zR ?_ | refine zD ?_ | refine zK ?_ | refine zB ?_ | refine zA ?_ | refine zS ?_ | refine zU ?_ | refine zV ?_ | refine zF ?_ | with_reducible refine yac ?_ | with_reducible refine yag ?_ | refine yad ?_ | refine yae ?_ | refine yaf ?_ | refine zT ?_ | refine zE ?_ | refine zX ?_))
  refine L_true 71 rfl (by simp) ?_
  (repeat (first | refine zI ?_ | refine zL ?_ | refine zC ?_ | refine yai ?_ | refine yaj ?_ | refine zR ?_ | refine zD ?_ | refine zK ?_ | refine zB ?_ | refine zA ?_ | refine zS ?_ | refine zU ?_ | refine zV ?_ | refine zF ?_ | with_reducible refine yac ?_ | with_reducible refine yag ?_ | refine yad ?_ | refine yae ?_ | refine yaf ?_ | refine zT ?_ | refine zE ?_ | refine zX ?_ | refine yar rfl rfl (same_con10 _ _ (parseT_in hf (bl s))) rfl rfl ?_))
  refine L_true 76 rfl (by simp) ?_
  (repeat (first | refine zI ?_ | refine zL ?_ | refine zC ?_ | refine yai ?_ | refine yaj ?_ | refine zR ?_ | refine zD ?_ | refine zK ?_ | refine zB ?_ | refine zA ?_ | refine zS ?_ | refine zU ?_ | refine zV ?_ | refine zF ?_ | with_reducible refine yac ?_ | with_reducible refine yag ?_ | refine yad ?_ | refine yae ?_ | refine yaf ?_ | refine zT ?_ | refine zE ?_ | refine zX ?_))
  refine L_true 81 rfl (by simp) ?_
  (repeat (first | refine zI ?_ | refine zL ?_ | refine zC ?_ | refine yai ?_ | refine yaj ?_ | refine zR ?_ | refine zD ?_ | refine zK ?_ | refine zB ?_ | refine zA ?_ | refine zS ?_ | refine zU ?_ | refine zV ?_ | refine zF ?_ | with_reducible refine yac ?_ | with_reducible refine yag ?_ | refine yad ?_ | refine yae ?_ | refine yaf ?_ | refine zT ?_ | refine zE ?_ | refine zX ?_))
  refine yas ?_; refine ⟨_, rfl, ?_⟩
  exact yau (by simp)
theorem readsBack_con (p : ProgD) (g : GraphD) (c : List (List Int)) (hin : ProgIn p) : Con Tryz.prog 4 [encP p, encG g, encC c] (yfp true) := by
  refine ybs Tryz.func4 rfl rfl Tryz.ntmps4 Tryz.results4 rfl rfl ?_
  (repeat (first | refine zI ?_ | refine zL ?_ | refine zC ?_ | refine yai ?_ | refine yaj ?_ | refine zR ?_ | refine zD ?_ | refine zK ?_ | refine zB ?_ | refine zA ?_ | refine zS ?_ | refine zU ?_ | refine zV ?_ | refine zF ?_ | with_reducible refine yac ?_ | with_reducible refine yag ?_ | refine yad ?_ | refine yae ?_ | refine yaf ?_ | refine zT ?_ | refine zE ?_ | refine zX ?_ | refine yar rfl rfl (fair10_con p g c hin) rfl rfl ?_))
  refine yaq rfl (fun h => ?_) (fun h => ?_)
  · (repeat (first | refine zI ?_ | refine zL ?_ | refine zC ?_ | refine yai ?_ | refine yaj ?_ | refine zR ?_ | refine zD ?_ | refine zK ?_ | refine zB ?_ | refine zA ?_ | refine zS ?_ | refine zU ?_ | refine zV ?_ | refine zF ?_ | with_reducible refine yac ?_ | with_reducible refine yag ?_ | refine yad ?_ | refine yae ?_ | refine yaf ?_ | refine zT ?_ | refine zE ?_ | refine zX ?_ | refine yar rfl rfl awake10_con rfl rfl ?_))
    refine yas ?_; refine ⟨_, rfl, ?_⟩
    exact yau rfl
  simp at h
  have hf : Fair p g := ⟨hin, light_of h.1.1, h.1.2⟩
  have hc := lightC_in h.2
  (repeat (first | refine zI ?_ | refine zL ?_ | refine zC ?_ | refine yai ?_ | refine yaj ?_ | refine zR ?_ | refine zD ?_ | refine zK ?_ | refine zB ?_ | refine zA ?_ | refine zS ?_ | refine zU ?_ | refine zV ?_ | refine zF ?_ | with_reducible refine yac ?_ | with_reducible refine yag ?_ | refine yad ?_ | refine yae ?_ | refine yaf ?_ | refine zT ?_ | refine zE ?_ | refine zX ?_ | refine yar rfl rfl (mformat_con p g c hf hc) rfl rfl ?_ | refine yar rfl rfl (rcheck_con p g c hf hc) rfl rfl ?_))
  refine yaq rfl (fun h3 => ?_) (fun h3 => ?_)
  · have h3 : yet p g c ≠ 0 := by simpa using h3
    (repeat (first | refine zI ?_ | refine zL ?_ | refine zC ?_ | refine yai ?_ | refine yaj ?_ | refine zR ?_ | refine zD ?_ | refine zK ?_ | refine zB ?_ | refine zA ?_ | refine zS ?_ | refine zU ?_ | refine zV ?_ | refine zF ?_ | with_reducible refine yac ?_ | with_reducible refine yag ?_ | refine yad ?_ | refine yae ?_ | refine yaf ?_ | refine zT ?_ | refine zE ?_ | refine zX ?_ | refine yar rfl rfl awake10_con rfl rfl ?_))
    refine L_true 38 rfl (by simp) ?_
    (repeat (first | refine zI ?_ | refine zL ?_ | refine zC ?_ | refine yai ?_ | refine yaj ?_ | refine zR ?_ | refine zD ?_ | refine zK ?_ | refine zB ?_ | refine zA ?_ | refine zS ?_ | refine zU ?_ | refine zV ?_ | refine zF ?_ | with_reducible refine yac ?_ | with_reducible refine yag ?_ | refine yad ?_ | refine yae ?_ | refine yaf ?_ | refine zT ?_ | refine zE ?_ | refine zX ?_))
    refine yas ?_; refine ⟨_, rfl, ?_⟩
    exact yau (by rw [fmtCT, if_neg h3, beq_bl]; exact decide_eq_true rfl)
  have h3 : yet p g c = 0 := by simpa using h3
  obtain ⟨h0, hcf⟩ := check_zero.1 h3
  obtain ⟨hlen, hpf⟩ := parse_format_C hf h0 hcf
  have hfm : fmtCT p g c = formatC (yba p) c := by rw [fmtCT, if_pos h3]
  rw [hfm]
  (repeat (first | refine zI ?_ | refine zL ?_ | refine zC ?_ | refine yai ?_ | refine yaj ?_ | refine zR ?_ | refine zD ?_ | refine zK ?_ | refine zB ?_ | refine zA ?_ | refine zS ?_ | refine zU ?_ | refine zV ?_ | refine zF ?_ | with_reducible refine yac ?_ | with_reducible refine yag ?_ | refine yad ?_ | refine yae ?_ | refine yaf ?_ | refine zT ?_ | refine zE ?_ | refine zX ?_ | refine yar rfl rfl (mparse_con p g hf (ba (formatC (yba p) c)) (by rw [yda]; omega)) rfl rfl ?_))
  rw [bl_ba, hpf]
  (repeat (first | refine zI ?_ | refine zL ?_ | refine zC ?_ | refine yai ?_ | refine yaj ?_ | refine zR ?_ | refine zD ?_ | refine zK ?_ | refine zB ?_ | refine zA ?_ | refine zS ?_ | refine zU ?_ | refine zV ?_ | refine zF ?_ | with_reducible refine yac ?_ | with_reducible refine yag ?_ | refine yad ?_ | refine yae ?_ | refine yaf ?_ | refine zT ?_ | refine zE ?_ | refine zX ?_ | refine yar rfl rfl awake10_con rfl rfl ?_))
  refine L_true 55 rfl (by simp [h3]) ?_
  (repeat (first | refine zI ?_ | refine zL ?_ | refine zC ?_ | refine yai ?_ | refine yaj ?_ | refine zR ?_ | refine zD ?_ | refine zK ?_ | refine zB ?_ | refine zA ?_ | refine zS ?_ | refine zU ?_ | refine zV ?_ | refine zF ?_ | with_reducible refine yac ?_ | with_reducible refine yag ?_ | refine yad ?_ | refine yae ?_ | refine yaf ?_ | refine zT ?_ | refine zE ?_ | refine zX ?_ | refine yar rfl rfl (same_con10 c c hc) rfl rfl ?_))
  refine yas ?_; refine ⟨_, rfl, ?_⟩
  exact yau (by simp)
theorem walk_MemoryReadsAndWrites (v0 : Value) (z0 : ProgD) (v1 : Value) (z1 : GraphD) (v2 : Value) (z2 : List (List Int)) (s : ByteArray) (w : World) (h0 : yfe w v0 z0 ∧ ProgIn z0) (h1 : GraphOk w v1 z1 ∧ GraphIn z1) (h2 : CfgOk w v2 z2) (hs : s.size ≤ maxLen) (hG : Glob w) :
    Calls Tryz.prog 3 #[v0, v1, v2, .string s] w fun e w' => e = .returned (.bool true) ∧ Below w.heap.size w w' :=
  calls_of_con (readsAndWrites_con z0 z1 z2 s h0.2 (by unfold maxLen at hs; omega)) hG (okW_lt w) (ybr (prog_rel h0.1) (ybr (graph_rel h1.1) (ybr (cfg_rel h2) (ybr (.v _) yfc))))
theorem walk_MemoryReadsBack (v0 : Value) (z0 : ProgD) (v1 : Value) (z1 : GraphD) (v2 : Value) (z2 : List (List Int)) (w : World) (h0 : yfe w v0 z0 ∧ ProgIn z0) (h1 : GraphOk w v1 z1 ∧ GraphIn z1) (h2 : CfgOk w v2 z2) (hG : Glob w) :
    Calls Tryz.prog 4 #[v0, v1, v2] w fun e w' => e = .returned (.bool true) ∧ Below w.heap.size w w' :=
  calls_of_con (readsBack_con z0 z1 z2 h0.2) hG (okW_lt w) (ybr (prog_rel h0.1) (ybr (graph_rel h1.1) (ybr (cfg_rel h2) yfc)))
end Go.Proofs.YtmlkdoimkdbdpaaGreatDoor
set_option linter.unusedVariables false
set_option maxRecDepth 100000
namespace Go.Proofs.YtmlkdoimkdbdpaaGreatDoor
open Go.RowKit
def lits1 (l : List (DataW Unit)) : List Value := l.flatMap fun | .lit (.int k z) => [.int k z] | _ => []
def lits2 : DataW Unit → List Value
  | .agg l => l.flatMap fun | .lit (.int k z) => [.int k z] | .agg m => lits1 m | _ => []
  | _ => []
def layIn (vs : List Value) : Obj → Obj
  | .cells _ t frozen => .cells vs.toArray t frozen
  | o => o
theorem maxLen_of {w : World} (h : w.ShapedOpen Tryz.prog) : ∃ m : Int, w.cell? ⟨1, 0, none⟩ = some (.int .i64 m) := by
  obtain ⟨cs, hh, hs, hr⟩ := h.1 1 #[.int .i64 0] 3 (of_decide_eq_true (by kernel_rfl)) (by kernel_rfl)
  obtain ⟨ts, hts, _, hall⟩ := hr (by kernel_rfl)
  rw [show Tryz.prog.cellTypes Tryz.prog.depth 3 = some [3] by kernel_rfl] at hts
  cases hts
  have h1 : 0 < cs.size := by simp at hs; omega
  obtain ⟨u, hu', hok⟩ := hall 0 cs[0] (by simp [h1])
  have : u = 3 := by simpa using hu'.symm
  subst this
  have hcell : w.cell? ⟨1, 0, none⟩ = some cs[0] := by simp [World.cell?, hh, h1]
  rw [hcell]
  unfold Cell.ok at hok
  rw [Tryz.underlying3] at hok
  cases hv : cs[0] <;> rw [hv] at hok <;> first | (simp at hok; done) | skip
  rename_i k n
  obtain ⟨rfl, _⟩ : k = .i64 ∧ _ := hok
  exact ⟨n, rfl⟩
noncomputable def laidWorld (os : Os) : World :=
  { World.holding Tryz.prog os ⟨#[], #[], []⟩ with heap := (((((World.holding Tryz.prog os ⟨#[], #[], []⟩).heap.modify 2 (layIn (lits2 Rows.laid_unicode_utf8_first))).modify 3 (layIn (lits2 Rows.laid_unicode_utf8_acceptRanges))).modify 4 (layIn (lits2 Rows.laid_math_bits_deBruijn32tab))).modify 5 (layIn (lits2 Rows.laid_math_bits_deBruijn64tab))).modify 0 (layIn (lits2 Rows.laid_internal_strconv_uint64pow10)) }
theorem glob_of {laid : List (String × DataW Unit)} {W : World} (hl : (laid.filter fun x => x.1 == "internal/strconv.uint64pow10") = [("internal/strconv.uint64pow10", Rows.laid_internal_strconv_uint64pow10)]) (hs : W.ShapedOpen Tryz.prog) (h : laidMetH Tryz.prog laid W) : Glob W := by
  refine ⟨maxLen_of hs, ?_⟩
  have h2 := laidMetH.filter (fun x => x.1 == "internal/strconv.uint64pow10") h
  rw [hl] at h2
  have h3 : laidMet Tryz.prog [("internal/strconv.uint64pow10", Lib.tabData .u64 Lib.pow10Tab)] W := h2
  exact Lib.tabIs_of_head (t := 150) (e := 132) (n := 20) gPow10 (by kernel_rfl) Tryz.underlying150 Tryz.underlying132 (by kernel_rfl) (by kernel_rfl) h3
end Go.Proofs.YtmlkdoimkdbdpaaGreatDoor
