/- Part 13 of the texts under ExprFormats,ExprBracketsEverything: joined, with what it needs alone. -/
import Derived.Lib.Bytealg
import Derived.Deep.LoopGhost
import Derived.Test.YtcpgpiabeimefaaGreatDoorR7
import Derived.Test.YtcpgpiabeimefaaGreatDoorR9
import Derived.Test.YtcpgpiabeimefaaGreatDoorR10
import Derived.Test.YtcpgpiabeimefaaGreatDoorR11
import Derived.Test.YtcpgpiabeimefaaGreatDoorR12
set_option linter.unusedVariables false
set_option maxRecDepth 100000
set_option maxHeartbeats 4000000
namespace Go.Proofs.YtcpgpiabeimefaaGreatDoor
open Go.RowKit
def yel (t : Tok) : List AV := [i64 t.kind, i64 t.from_, i64 t.to, i64 t.num]
def ybe (l : List Bs) : AV := .sl 1 (l.map fun x => [yff (ba x)])
def rdO (s : ByteArray) (ts : List Tok) (names : List Bs) (us : List Value) : LObj := .cells (yff s :: .sl 4 (ts.map yel) :: ybe names :: us.map .v)
def rdH (s : ByteArray) (ts : List Tok) (names : List Bs) (us : List Value) : List (Nat × Option LObj) := [(1001, some (rdO s ts names us))]
theorem yka {s : ByteArray} {ts ts' : List Tok} {names : List Bs} {us : List Value} {N : Nat} (hN : Nat.ble N 1001 = true) : ∀ id o, yao (rdH s ts' names us) id = some o → isC o = true → N ≤ id ∧ ∃ o', yao (rdH s ts names us) id = some o' ∧ isC o' = true := by
  intro id o ho hc
  simp only [rdH, yao] at ho ⊢
  cases h1 : Nat.beq id 1001 with
  | true => have := Nat.eq_of_beq_eq_true h1; exact ⟨by simp only [Nat.ble_eq] at hN; omega, _, rfl, rfl⟩
  | false => simp only [h1] at ho; cases ho
theorem nbeq_self (b : Nat) : Nat.beq b b = true := Nat.beq_refl b
theorem renL_v (σ : Nat → Nat) (us : List Value) : yey.renL σ (us.map .v) = us.map .v := renA_pure.rows (by induction us with | nil => rfl | cons u us ih => simp [ybp.pureL, ybp, ih])
theorem renO_rd (σ : Nat → Nat) (s : ByteArray) (ts : List Tok) (names : List Bs) (us : List Value) : yjs σ (rdO s ts names us) = rdO s ts names us := by
  simp only [rdO, yjs, yey.renL, renL_v]; rfl
theorem onlyL_v (ids : List Nat) (us : List Value) : ygc.onlyL ids (us.map .v) = true := by induction us with | nil => rfl | cons u us ih => simp [ygc.onlyL, ygc, ih]
theorem mentL_v (d : Nat) (us : List Value) : ment.mentL d (us.map .v) = false := by induction us with | nil => rfl | cons u us ih => simp [ment.mentL, ment, ih]
theorem fresh_rd {d : Nat} {s : ByteArray} {ts : List Tok} {names : List Bs} {us : List Value} {h : List (Nat × Option LObj)} (hd : Nat.beq d 1001 = false) (hf : ydt d h = true) : ydt d ((1001, some (rdO s ts names us)) :: h) = true := by
  simp [ydt, hd, hf, yfe, rdO, ment.mentL, mentL_v, ment, yff, ybe]
theorem fresh_c {d id : Nat} {xs : List AV} {h : List (Nat × Option LObj)} (h1 : Nat.beq d id = false) (h2 : ment.mentL d xs = false) (hf : ydt d h = true) : ydt d ((id, some (.cells xs)) :: h) = true := by
  simp [ydt, h1, hf, yfe, h2]
def keepOne (b : Nat) (y : AV) : Bool := match ment b y with
  | false => true
  | true => match y with
    | .lp _ _ => true
    | _ => false
def keepAll (b : Nat) : List (Nat × AV) → Bool
  | [] => true
  | (_, y) :: t => match keepOne b y with
    | true => keepAll b t
    | false => false
theorem pureA_only {ids : List Nat} : ∀ {x : AV}, ybp x = true → ygc ids x = true
  | .v _, _ => rfl
  | .any, _ => rfl
  | .one, _ => rfl
  | .sl _ _, _ => rfl
  | .dp _ _, _ => rfl
  | .mv _, _ => rfl
  | .agg cs, h => rows (cs := cs) h
  | .tup cs, h => rows (cs := cs) h
  | .fn _ cs, h => rows (cs := cs) h
  where rows : ∀ {cs : List AV}, ybp.pureL cs = true → ygc.onlyL ids cs = true
  | [], _ => rfl
  | c :: cs, h => by
    simp only [ybp.pureL, Bool.and_eq_true] at h
    simp only [ygc.onlyL, pureA_only h.1, rows h.2, Bool.and_self]
section
variable {s : ByteArray} {ts ts' : List Tok} {names : List Bs} {us : List Value}
theorem keep_rd (b : Nat) : ∀ {t : List (Nat × AV)}, keepAll b t = true → ygq [(1001, b)] (rdH s ts names us) t = t
  | [], _ => rfl
  | (x, y) :: t, h => by
    simp only [keepAll] at h
    have hk : yjx [(1001, b)] (rdH s ts names us) y = true := by
      simp only [keepOne] at h
      simp only [yjx, mentAny, yda]
      cases hm : ment b y with
      | false => rfl
      | true =>
        simp only [hm] at h
        cases y with
        | lp j off =>
          have e : j = b := Nat.eq_of_beq_eq_true hm
          subst e
          simp only [fixedN]
          rw [nbeq_self]
          rfl
        | _ => cases h
    simp only [ygq, hk]
    cases ho : keepOne b y with
    | true => rw [ho] at h; rw [keep_rd b h]
    | false => rw [ho] at h; cases h
variable {P : Program} {N : Nat} {ops : Array Oper} {lf : Oper → Bool} {Q : SS → Prop} {t : List (Nat × AV)} {h : List (Nat × Option LObj)} {rest : List Oper} {d : Nat} {ty : TypeId} {pos : String} {af : Array Edge} {gd : Option (Nat × Bool)}
theorem ybx (b : Nat) {g : Operand} {args : List Operand} {ats : Array TypeId} {f : FuncId} {args0 : List AV} {r : AV} {h' : List (Nat × Option LObj)} (hc : yia P f (.lp 1001 0 :: args0) (yao (rdH s ts names us)) r (yao (rdH s ts' names us))) (hp : ybp.pureL args0 = true) (hpr : ybp r = true) (hg : evF (ybb t) g = some (.fn f [])) (hx : evL (evF (ybb t)) args = some (.lp b 0 :: args0))
    (hb : yao h b = some (rdO s ts names us)) (hk : keepAll b t = true) (hh : forgHs [b] (dropK [b] h) = some h') (hl : lf ⟨some d, .call { callee := .value g, args := args.toArray, argTypes := ats }, ty, pos, af, gd⟩ = true) (hw : yaz ops (ybb t) ⟨some d, .call { callee := .value g, args := args.toArray, argTypes := ats }, ty, pos, af, gd⟩ = some true) (hd : Nat.blt d N = true)
    (k : Lex P N ops lf Q rest (S ((d, r) :: t) ((b, some (rdO s ts' names us)) :: h'))) : Lex P N ops lf Q (⟨some d, .call { callee := .value g, args := args.toArray, argTypes := ats }, ty, pos, af, gd⟩ :: rest) (S t h) := by
  refine yfl [(1001, b)] hc hg hx ?_ rfl rfl rfl rfl (yak ?_ yar) (pureA_only hpr) ?_ hh hl hw hd ?_
  · simp only [List.append_nil, List.map_cons, yey, yei]
    congr 1
    rw [← ycj, renA_pure.rows hp]
  · rw [renO_rd]; exact hb
  · simp only [yip, rdH, yjw, rdO, ygc.onlyL, onlyL_v]; rfl
  · rw [keep_rd b hk, renA_pure hpr]
    simp only [yik, rdH, yao, renO_rd]
    exact k
theorem yiv (b : Nat) {dst : Option Tmp} {g : Operand} {args : List Operand} {ats : Array TypeId} {f : FuncId} {args0 : List AV} {ch : List PanicEntry} {D : List PanicEntry → SS → Prop} (hc : ykn P f (.lp 1001 0 :: args0) (yao (rdH s ts names us)) ch) (hp : ybp.pureL args0 = true) (hg : evF (ybb t) g = some (.fn f [])) (hx : evL (evF (ybb t)) args = some (.lp b 0 :: args0))
    (hb : yao h b = some (rdO s ts names us)) (hD : D ch ⟨fun _ => none, fun _ => none⟩) : yjk P N ⟨dst, .call { callee := .value g, args := args.toArray, argTypes := ats }, ty, pos, af, gd⟩ (S t h) D := by
  refine dieC [(1001, b)] hc hg hx ?_ rfl rfl (yak ?_ yar) hD
  · simp only [List.append_nil, List.map_cons, yey, yei]
    congr 1
    rw [← ycj, renA_pure.rows hp]
  · rw [renO_rd]; exact hb
end
def yfg (s : ByteArray) (ts : List Tok) : Prop := ∀ t ∈ ts, t.from_ < t.to ∧ t.to ≤ s.size ∧ (nmW (pwT s t).w = true → t.kind = 1)
theorem extract_word {s : ByteArray} {a b : Nat} (h : a ≤ b) (hb : b ≤ s.size) : s.extract a b = ba ((yaj s a).take (b - a)) := by
  apply ByteArray.ext
  simp only [ba, yaj, ByteArray.data_extract]
  apply Array.ext'
  simp [Array.toList_extract, List.extract]
theorem headW_of {s : ByteArray} {t : Tok} {r : List Tok} (h : yfg s (t :: r)) : s.extract t.from_ t.to = ba (ybh ((t :: r).map (pwT s))) := by
  obtain ⟨h1, h2, _⟩ := h t (by simp)
  exact extract_word (by omega) h2
def yhx (ts : List Tok) : Nat := match ts with
  | [] => 0
  | t :: _ => t.kind
def ygs (s : ByteArray) (ts : List Tok) : Nat := match ts with
  | [] => s.size
  | t :: _ => t.from_
def failV (p e : Int) : Value := .iface 72 (.agg #[.int .i64 p, .int .i64 e])
def yis (p e : Int) : List PanicEntry := [{ v := failV p e, recovered := false }]
section
variable {s : ByteArray} {ts : List Tok} {names : List Bs} {us : List Value}
theorem yci (h : yfg s ts) : yia Tryz.prog 84 [.lp 1001 0] (yao (rdH s ts names us)) (yff (ba (ybh (ts.map (pwT s))))) (yao (rdH s ts names us)) := by
  refine ycw tok Tryz.func84 rfl rfl Tryz.ntmps84 Tryz.results84 rfl (yka rfl) ?_
  show A _ _ _ _ (S _ _)
  cases ts with
  | nil =>
    (repeat (first | refine zI ?_ | refine zL ?_ | refine zC ?_ | refine yaf ?_ | refine yae ?_ | refine zR ?_ | refine zD ?_ | refine zK ?_ | refine zB ?_ | refine zA ?_ | refine zS ?_ | refine zU ?_ | refine zV ?_ | refine zF ?_ | with_reducible refine yab ?_ | with_reducible refine yad ?_ | refine yaa ?_ | refine yac ?_ | refine yag ?_ | refine zT ?_ | refine zE ?_ | refine zX ?_ | refine yam rfl rfl rfl rfl ?_))
    refine yau ?_
    exact ⟨_, rfl, ybk _, yba (yak rfl yar)⟩
  | cons t r =>
    obtain ⟨h1, h2, _⟩ := h t (by simp)
    (repeat (first | refine zI ?_ | refine zL ?_ | refine zC ?_ | refine yaf ?_ | refine yae ?_ | refine zR ?_ | refine zD ?_ | refine zK ?_ | refine zB ?_ | refine zA ?_ | refine zS ?_ | refine zU ?_ | refine zV ?_ | refine zF ?_ | with_reducible refine yab ?_ | with_reducible refine yad ?_ | refine yaa ?_ | refine yac ?_ | refine yag ?_ | refine zT ?_ | refine zE ?_ | refine zX ?_ | refine yam rfl rfl rfl rfl ?_ | refine ybd tok rfl rfl rfl (by omega) rfl rfl rfl ?_ | refine L_sslice tok rfl rfl rfl rfl (by show (0 : Int) ≤ (t.from_ : Int); omega) (by show (t.from_ : Int) ≤ (t.to : Int); omega) (by show (t.to : Int) ≤ (s.size : Int); omega) rfl rfl ?_))
    refine yau ?_
    refine ⟨_, rfl, ?_, yba (yak rfl yar)⟩
    rw [← headW_of h]
    exact ybk _
theorem ydj (h : yfg s ts) : yia Tryz.prog 116 [.lp 1001 0] (yao (rdH s ts names us)) (i64 (yhx ts)) (yao (rdH s ts names us)) := by
  refine ycw tok Tryz.func116 rfl rfl Tryz.ntmps116 Tryz.results116 rfl (yka rfl) ?_
  show A _ _ _ _ (S _ _)
  cases ts with
  | nil =>
    (repeat (first | refine zI ?_ | refine zL ?_ | refine zC ?_ | refine yaf ?_ | refine yae ?_ | refine zR ?_ | refine zD ?_ | refine zK ?_ | refine zB ?_ | refine zA ?_ | refine zS ?_ | refine zU ?_ | refine zV ?_ | refine zF ?_ | with_reducible refine yab ?_ | with_reducible refine yad ?_ | refine yaa ?_ | refine yac ?_ | refine yag ?_ | refine zT ?_ | refine zE ?_ | refine zX ?_ | refine yam rfl rfl rfl rfl ?_))
    refine yau ?_
    exact ⟨_, rfl, ybk _, yba (yak rfl yar)⟩
  | cons t r =>
    (repeat (first | refine zI ?_ | refine zL ?_ | refine zC ?_ | refine yaf ?_ | refine yae ?_ | refine zR ?_ | refine zD ?_ | refine zK ?_ | refine zB ?_ | refine zA ?_ | refine zS ?_ | refine zU ?_ | refine zV ?_ | refine zF ?_ | with_reducible refine yab ?_ | with_reducible refine yad ?_ | refine yaa ?_ | refine yac ?_ | refine yag ?_ | refine zT ?_ | refine zE ?_ | refine zX ?_ | refine yam rfl rfl rfl rfl ?_ | refine ybd tok rfl rfl rfl (by omega) rfl rfl rfl ?_))
    refine yau ?_
    exact ⟨_, rfl, ybk _, yba (yak rfl yar)⟩
theorem done_con : yia Tryz.prog 24 [.lp 1001 0] (yao (rdH s ts names us)) (yga ts.isEmpty) (yao (rdH s ts names us)) := by
  refine ycw tok Tryz.func24 rfl rfl Tryz.ntmps24 Tryz.results24 rfl (yka rfl) ?_
  show A _ _ _ _ (S _ _)
  cases ts with
  | nil =>
    (repeat (first | refine zI ?_ | refine zL ?_ | refine zC ?_ | refine yaf ?_ | refine yae ?_ | refine zR ?_ | refine zD ?_ | refine zK ?_ | refine zB ?_ | refine zA ?_ | refine zS ?_ | refine zU ?_ | refine zV ?_ | refine zF ?_ | with_reducible refine yab ?_ | with_reducible refine yad ?_ | refine yaa ?_ | refine yac ?_ | refine yag ?_ | refine zT ?_ | refine zE ?_ | refine zX ?_ | refine yam rfl rfl rfl rfl ?_))
    refine yau ?_
    exact ⟨_, rfl, ybk _, yba (yak rfl yar)⟩
  | cons t r =>
    (repeat (first | refine zI ?_ | refine zL ?_ | refine zC ?_ | refine yaf ?_ | refine yae ?_ | refine zR ?_ | refine zD ?_ | refine zK ?_ | refine zB ?_ | refine zA ?_ | refine zS ?_ | refine zU ?_ | refine zV ?_ | refine zF ?_ | with_reducible refine yab ?_ | with_reducible refine yad ?_ | refine yaa ?_ | refine yac ?_ | refine yag ?_ | refine zT ?_ | refine zE ?_ | refine zX ?_ | refine yam rfl rfl rfl rfl ?_))
    refine yau ?_
    exact ⟨_, rfl, ybk _, yba (yak rfl yar)⟩
theorem yfo (t : Tok) (r : List Tok) : yia Tryz.prog 85 [.lp 1001 0] (yao (rdH s (t :: r) names us)) (.agg (yel t)) (yao (rdH s r names us)) := by
  refine ycw tok Tryz.func85 rfl rfl Tryz.ntmps85 Tryz.results85 rfl (yka rfl) ?_
  show A _ _ _ _ (S _ _)
  (repeat (first | refine zI ?_ | refine zL ?_ | refine zC ?_ | refine yaf ?_ | refine yae ?_ | refine zR ?_ | refine zD ?_ | refine zK ?_ | refine zB ?_ | refine zA ?_ | refine zS ?_ | refine zU ?_ | refine zV ?_ | refine zF ?_ | with_reducible refine yab ?_ | with_reducible refine yad ?_ | refine yaa ?_ | refine yac ?_ | refine yag ?_ | refine zT ?_ | refine zE ?_ | refine zX ?_ | refine zA (h2 := fresh_rd rfl rfl) ?_ | refine zA (h2 := fresh_c rfl rfl (fresh_rd rfl rfl)) ?_ | refine yam rfl rfl rfl rfl ?_ | refine ybd tok rfl rfl rfl (by omega) rfl rfl rfl ?_ | refine L_slslice tok rfl rfl rfl rfl (by show (0 : Int) ≤ 1; omega) (by show (1 : Int) ≤ ((List.map yel (t :: r)).length : Int); simp; omega) (Int.le_refl _) rfl rfl ?_))
  refine yau ?_
  refine ⟨_, rfl, ybk _, yba (yak ?_ yar)⟩
  have e : List.drop ((some (1 : Int)).getD 0).toNat (List.take ((none : Option Int).getD ((List.map yel (t :: r)).length : Int)).toNat (List.map yel (t :: r))) = r.map yel := by simp [List.take_of_length_le]
  rw [e]
  rfl
theorem fail_con (e : Int) : ykn Tryz.prog 25 [.lp 1001 0, i64 e] (yao (rdH s ts names us)) (yis (ygs s ts) e) := by
  refine conP_of Tryz.func25 rfl rfl Tryz.ntmps25 rfl ?_
  show A _ _ _ _ (S _ _)
  cases ts with
  | nil =>
    (repeat (first | with_reducible refine yad ?_ | with_reducible refine yab ?_ | refine yac ?_ | refine yae ?_ | refine yaa ?_)); refine yah (lf := lfT) rfl ?_
    (repeat (first | refine zI ?_ | refine zL ?_ | refine zC ?_ | refine zK ?_ | refine zB ?_ | refine zA ?_ | refine zS ?_ | refine zU ?_ | refine zV ?_ | refine zF ?_ | refine zX ?_ | refine yaf ?_ | refine yam rfl rfl rfl rfl ?_))
    (repeat (first | with_reducible refine yad ?_ | with_reducible refine yab ?_ | refine yac ?_ | refine yae ?_ | refine yaa ?_)); refine yah (lf := lfT) rfl ?_
    (repeat (first | refine zI ?_ | refine zL ?_ | refine zC ?_ | refine zK ?_ | refine zB ?_ | refine zA ?_ | refine zS ?_ | refine zU ?_ | refine zV ?_ | refine zF ?_ | refine zX ?_ | refine yaf ?_ | refine yam rfl rfl rfl rfl ?_))
    (repeat (first | with_reducible refine yad ?_ | with_reducible refine yab ?_ | refine yac ?_ | refine yae ?_ | refine yaa ?_))
    refine yaq rfl (fun h => ?_) (fun h => ?_)
    · simp at h
    (repeat (first | with_reducible refine yad ?_ | with_reducible refine yab ?_ | refine yac ?_ | refine yae ?_ | refine yaa ?_)); refine yav (lf := lfT) 4 rfl rfl rfl ?_
    (repeat (first | refine zI ?_ | refine zL ?_ | refine zC ?_ | refine zK ?_ | refine zB ?_ | refine zA ?_ | refine zS ?_ | refine zU ?_ | refine zV ?_ | refine zF ?_ | refine zX ?_ | refine yaf ?_ | refine ycc (yield_iface Tryz.underlying72 rfl rfl) rfl rfl ?_))
    exact ⟨rfl, dieP rfl rfl⟩
  | cons t r =>
    (repeat (first | with_reducible refine yad ?_ | with_reducible refine yab ?_ | refine yac ?_ | refine yae ?_ | refine yaa ?_)); refine yah (lf := lfT) rfl ?_
    (repeat (first | refine zI ?_ | refine zL ?_ | refine zC ?_ | refine zK ?_ | refine zB ?_ | refine zA ?_ | refine zS ?_ | refine zU ?_ | refine zV ?_ | refine zF ?_ | refine zX ?_ | refine yaf ?_ | refine yam rfl rfl rfl rfl ?_))
    (repeat (first | with_reducible refine yad ?_ | with_reducible refine yab ?_ | refine yac ?_ | refine yae ?_ | refine yaa ?_)); refine yah (lf := lfT) rfl ?_
    (repeat (first | refine zI ?_ | refine zL ?_ | refine zC ?_ | refine zK ?_ | refine zB ?_ | refine zA ?_ | refine zS ?_ | refine zU ?_ | refine zV ?_ | refine zF ?_ | refine zX ?_ | refine yaf ?_ | refine yam rfl rfl rfl rfl ?_))
    (repeat (first | with_reducible refine yad ?_ | with_reducible refine yab ?_ | refine yac ?_ | refine yae ?_ | refine yaa ?_))
    refine yaq rfl (fun h => ?_) (fun h => ?_)
    · refine yah (lf := lfT) rfl ?_
      (repeat (first | refine zI ?_ | refine zL ?_ | refine zC ?_ | refine zK ?_ | refine zB ?_ | refine zA ?_ | refine zS ?_ | refine zU ?_ | refine zV ?_ | refine zF ?_ | refine zX ?_ | refine yaf ?_ | refine yam rfl rfl rfl rfl ?_ | refine ybd tok rfl rfl rfl (by omega) rfl rfl rfl ?_))
      (repeat (first | with_reducible refine yad ?_ | with_reducible refine yab ?_ | refine yac ?_ | refine yae ?_ | refine yaa ?_)); refine yav (lf := lfT) 4 rfl rfl rfl ?_
      (repeat (first | refine zI ?_ | refine zL ?_ | refine zC ?_ | refine zK ?_ | refine zB ?_ | refine zA ?_ | refine zS ?_ | refine zU ?_ | refine zV ?_ | refine zF ?_ | refine zX ?_ | refine yaf ?_ | refine ycc (yield_iface Tryz.underlying72 rfl rfl) rfl rfl ?_))
      exact ⟨rfl, dieP rfl rfl⟩
    · simp at h
theorem yby (h : yfg s ts) {w : Bs} (hw : ybh (ts.map (pwT s)) = w) (h0 : w ≠ []) : yia Tryz.prog 46 [.lp 1001 0, yff (ba w)] (yao (rdH s ts names us)) (yga true) (yao (rdH s ts.tail names us)) := by
  refine ycw tok Tryz.func46 rfl rfl Tryz.ntmps46 Tryz.results46 rfl (yka rfl) ?_
  show A _ _ _ _ (S _ _)
  cases ts with
  | nil => exact absurd hw.symm h0
  | cons t r =>
    (repeat (first | refine zI ?_ | refine zL ?_ | refine zC ?_ | refine yaf ?_ | refine yae ?_ | refine zR ?_ | refine zD ?_ | refine zK ?_ | refine zB ?_ | refine zA ?_ | refine zS ?_ | refine zU ?_ | refine zV ?_ | refine zF ?_ | with_reducible refine yab ?_ | with_reducible refine yad ?_ | refine yaa ?_ | refine yac ?_ | refine yag ?_ | refine zT ?_ | refine zE ?_ | refine zX ?_ | refine ybx 1001 (yci h) rfl rfl rfl rfl rfl rfl rfl rfl rfl rfl ?_))
    refine yaq rfl (fun h2 => ?_) (fun h2 => ?_)
    · rw [hw] at h2; simp at h2
    (repeat (first | refine zI ?_ | refine zL ?_ | refine zC ?_ | refine yaf ?_ | refine yae ?_ | refine zR ?_ | refine zD ?_ | refine zK ?_ | refine zB ?_ | refine zA ?_ | refine zS ?_ | refine zU ?_ | refine zV ?_ | refine zF ?_ | with_reducible refine yab ?_ | with_reducible refine yad ?_ | refine yaa ?_ | refine yac ?_ | refine yag ?_ | refine zT ?_ | refine zE ?_ | refine zX ?_ | refine ybx 1001 (yfo t r) rfl rfl rfl rfl rfl rfl rfl rfl rfl rfl ?_))
    refine yau ?_
    exact ⟨_, rfl, ybk _, yba (yak rfl yar)⟩
theorem ybo (h : yfg s ts) {w : Bs} (hw : ybh (ts.map (pwT s)) ≠ w) : yia Tryz.prog 46 [.lp 1001 0, yff (ba w)] (yao (rdH s ts names us)) (yga false) (yao (rdH s ts names us)) := by
  refine ycw tok Tryz.func46 rfl rfl Tryz.ntmps46 Tryz.results46 rfl (yka rfl) ?_
  show A _ _ _ _ (S _ _)
  (repeat (first | refine zI ?_ | refine zL ?_ | refine zC ?_ | refine yaf ?_ | refine yae ?_ | refine zR ?_ | refine zD ?_ | refine zK ?_ | refine zB ?_ | refine zA ?_ | refine zS ?_ | refine zU ?_ | refine zV ?_ | refine zF ?_ | with_reducible refine yab ?_ | with_reducible refine yad ?_ | refine yaa ?_ | refine yac ?_ | refine yag ?_ | refine zT ?_ | refine zE ?_ | refine zX ?_ | refine ybx 1001 (yci h) rfl rfl rfl rfl rfl rfl rfl rfl rfl rfl ?_))
  refine yaq rfl (fun h2 => ?_) (fun h2 => ?_)
  · (repeat (first | refine zI ?_ | refine zL ?_ | refine zC ?_ | refine yaf ?_ | refine yae ?_ | refine zR ?_ | refine zD ?_ | refine zK ?_ | refine zB ?_ | refine zA ?_ | refine zS ?_ | refine zU ?_ | refine zV ?_ | refine zF ?_ | with_reducible refine yab ?_ | with_reducible refine yad ?_ | refine yaa ?_ | refine yac ?_ | refine yag ?_ | refine zT ?_ | refine zE ?_ | refine zX ?_))
    refine yau ?_
    exact ⟨_, rfl, ybk _, yba (yak rfl yar)⟩
  · simp [yeu, hw] at h2
theorem expect_yes (h : yfg s ts) {w : Bs} (hw : ybh (ts.map (pwT s)) = w) (h0 : w ≠ []) : yia Tryz.prog 47 [.lp 1001 0, yff (ba w)] (yao (rdH s ts names us)) (.tup []) (yao (rdH s ts.tail names us)) := by
  refine ycw tok Tryz.func47 rfl rfl Tryz.ntmps47 Tryz.results47 rfl (yka rfl) ?_
  show A _ _ _ _ (S _ _)
  (repeat (first | refine zI ?_ | refine zL ?_ | refine zC ?_ | refine yaf ?_ | refine yae ?_ | refine zR ?_ | refine zD ?_ | refine zK ?_ | refine zB ?_ | refine zA ?_ | refine zS ?_ | refine zU ?_ | refine zV ?_ | refine zF ?_ | with_reducible refine yab ?_ | with_reducible refine yad ?_ | refine yaa ?_ | refine yac ?_ | refine yag ?_ | refine zT ?_ | refine zE ?_ | refine zX ?_ | refine ybx 1001 (yby h hw h0) rfl rfl rfl rfl rfl rfl rfl rfl rfl rfl ?_))
  exact ⟨_, rfl, ybk _, yba (yak rfl yar)⟩
theorem expect_no (h : yfg s ts) {w : Bs} (hw : ybh (ts.map (pwT s)) ≠ w) : ykn Tryz.prog 47 [.lp 1001 0, yff (ba w)] (yao (rdH s ts names us)) (yis (ygs s ts) 4) := by
  refine conP_of Tryz.func47 rfl rfl Tryz.ntmps47 rfl ?_
  show A _ _ _ _ (S _ _)
  (repeat (first | with_reducible refine yad ?_ | with_reducible refine yab ?_ | refine yac ?_ | refine yae ?_ | refine yaa ?_)); refine yah (lf := lfT) rfl ?_
  (repeat (first | refine zI ?_ | refine zL ?_ | refine zC ?_ | refine zK ?_ | refine zB ?_ | refine zA ?_ | refine zS ?_ | refine zU ?_ | refine zV ?_ | refine zF ?_ | refine zX ?_ | refine yaf ?_ | refine ybx 1001 (ybo h hw) rfl rfl rfl rfl rfl rfl rfl rfl rfl rfl ?_))
  (repeat (first | with_reducible refine yad ?_ | with_reducible refine yab ?_ | refine yac ?_ | refine yae ?_ | refine yaa ?_))
  refine yaq rfl (fun h2 => ?_) (fun h2 => ?_)
  · (repeat (first | with_reducible refine yad ?_ | with_reducible refine yab ?_ | refine yac ?_ | refine yae ?_ | refine yaa ?_)); refine yav (lf := lfT) 1 rfl rfl rfl ?_
    (repeat (first | refine zI ?_ | refine zL ?_ | refine zC ?_ | refine zK ?_ | refine zB ?_ | refine zA ?_ | refine zS ?_ | refine zU ?_ | refine zV ?_ | refine zF ?_ | refine zX ?_ | refine yaf ?_))
    exact ⟨rfl, yiv 1001 (fail_con 4) rfl rfl rfl rfl rfl⟩
  · cases h2
end
end Go.Proofs.YtcpgpiabeimefaaGreatDoor
set_option linter.unusedVariables false
set_option maxRecDepth 100000
set_option maxHeartbeats 4000000
namespace Go.Proofs.YtcpgpiabeimefaaGreatDoor
open Go.RowKit
theorem yin {α : Type} {l : List α} {k : Nat} (h : k < l.length) : ∃ x, l[k]? = some x := ⟨_, List.getElem?_eq_getElem h⟩
theorem drop_at' {α : Type} {l : List α} {k : Nat} {x : α} (h : l[k]? = some x) : l.drop k = x :: l.drop (k + 1) := by
  rw [List.drop_eq_getElem_cons (List.getElem?_eq_some_iff.1 h).1, (List.getElem?_eq_some_iff.1 h).2]
theorem idx_next {l : List Bs} {w x : Bs} {k : Nat} (h : yhc l w = (yhc (l.drop k) w).map (· + k)) (hx : l[k]? = some x) (hn : x ≠ w) : yhc l w = (yhc (l.drop (k + 1)) w).map (· + (k + 1)) := by
  rw [h, drop_at' hx, yhc, if_neg hn, Option.map_map]
  congr 1
  funext j
  simp only [Function.comp]
  omega
theorem idx_here {l : List Bs} {w x : Bs} {k : Nat} (h : yhc l w = (yhc (l.drop k) w).map (· + k)) (hx : l[k]? = some x) (hn : x = w) : yhc l w = some k := by
  rw [h, drop_at' hx, yhc, if_pos hn]
  simp
theorem idx_end {l : List Bs} {w : Bs} {k : Nat} (h : yhc l w = (yhc (l.drop k) w).map (· + k)) (hk : l.length ≤ k) : yhc l w = none := by
  rw [h, List.drop_eq_nil_of_le hk]; rfl
theorem idx_not {l : List Bs} {w : Bs} : yhc l w = none → w ∉ l := by
  induction l with
  | nil => intro _ h; cases h
  | cons x l ih =>
    intro h hm
    rw [yhc] at h
    split at h
    · cases h
    · rename_i hne
      rcases List.mem_cons.1 hm with rfl | hm
      · exact hne rfl
      · exact ih (by cases hq : yhc l w with | none => rfl | some i => rw [hq] at h; cases h) hm
theorem find_con (first : Int) (l : List Bs) (w : Bs) (h0 : 0 ≤ first ∧ first ≤ 1000) (hl : l.length ≤ 1000) : Con Tryz.prog 110 [yff (ba w), i64 first, ybe l] (i64 (yjd first l w)) := by
  refine ybt Tryz.func110 rfl rfl Tryz.ntmps110 Tryz.results110 rfl rfl ?_
  (repeat (first | refine zI ?_ | refine zL ?_ | refine zC ?_ | refine yaf ?_ | refine yae ?_ | refine zR ?_ | refine zD ?_ | refine zK ?_ | refine zB ?_ | refine zA ?_ | refine zS ?_ | refine zU ?_ | refine zV ?_ | refine zF ?_ | with_reducible refine yab ?_ | with_reducible refine yad ?_ | refine yaa ?_ | refine yac ?_ | refine yag ?_ | refine zT ?_ | refine zE ?_ | refine zX ?_))
  refine yaq rfl (fun h => ?_) (fun h => ?_)
  · have hw : w = [] := by
      simp only [yeu] at h
      simpa using h
    (repeat (first | refine zI ?_ | refine zL ?_ | refine zC ?_ | refine yaf ?_ | refine yae ?_ | refine zR ?_ | refine zD ?_ | refine zK ?_ | refine zB ?_ | refine zA ?_ | refine zS ?_ | refine zU ?_ | refine zV ?_ | refine zF ?_ | with_reducible refine yab ?_ | with_reducible refine yad ?_ | refine yaa ?_ | refine yac ?_ | refine yag ?_ | refine zT ?_ | refine zE ?_ | refine zX ?_))
    refine yau ?_; refine ⟨_, rfl, ?_⟩
    exact ygt (by rw [yjd, if_pos hw])
  have hw : w ≠ [] := by rintro rfl; simp [yeu] at h
  clear h
  (repeat (first | refine zI ?_ | refine zL ?_ | refine zC ?_ | refine yaf ?_ | refine yae ?_ | refine zR ?_ | refine zD ?_ | refine zK ?_ | refine zB ?_ | refine zA ?_ | refine zS ?_ | refine zU ?_ | refine zV ?_ | refine zF ?_ | with_reducible refine yab ?_ | with_reducible refine yad ?_ | refine yaa ?_ | refine yac ?_ | refine yag ?_ | refine zT ?_ | refine zE ?_ | refine zX ?_))
  refine yjj (α := Nat) (fun k => [(13, i64 (k : Int)), (12, i64 (l.length : Int)), (11, ybe l), (1, i64 first), (0, yff (ba w))]) (fun k => []) (fun k => l.length - k) (fun k => k ≤ l.length ∧ yhc l w = (yhc (l.drop k) w).map (· + k)) 0 ⟨by omega, by simp⟩ (by (repeat (first | exact yca | refine ybm rfl ?_))) (yar) ?_
  · rintro k ⟨hk, hinv⟩
    (repeat (first | refine zI ?_ | refine zL ?_ | refine zC ?_ | refine yaf ?_ | refine yae ?_ | refine zR ?_ | refine zD ?_ | refine zK ?_ | refine zB ?_ | refine zA ?_ | refine zS ?_ | refine zU ?_ | refine zV ?_ | refine zF ?_ | with_reducible refine yab ?_ | with_reducible refine yad ?_ | refine yaa ?_ | refine yac ?_ | refine yag ?_ | refine zT ?_ | refine zE ?_ | refine zX ?_))
    refine yaq rfl (fun h2 => ?_) (fun h2 => ?_)
    · have h2 : k < l.length := by simpa using h2
      obtain ⟨x, hx⟩ := yin h2
      (repeat (first | refine zI ?_ | refine zL ?_ | refine zC ?_ | refine yaf ?_ | refine yae ?_ | refine zR ?_ | refine zD ?_ | refine zK ?_ | refine zB ?_ | refine zA ?_ | refine zS ?_ | refine zU ?_ | refine zV ?_ | refine zF ?_ | with_reducible refine yab ?_ | with_reducible refine yad ?_ | refine yaa ?_ | refine yac ?_ | refine yag ?_ | refine zT ?_ | refine zE ?_ | refine zX ?_))
      refine yaq rfl (fun h3 => ?_) (fun h3 => ?_)
      · have h3 : x = w := by simpa [yeu] using h3
        (repeat (first | refine zI ?_ | refine zL ?_ | refine zC ?_ | refine yaf ?_ | refine yae ?_ | refine zR ?_ | refine zD ?_ | refine zK ?_ | refine zB ?_ | refine zA ?_ | refine zS ?_ | refine zU ?_ | refine zV ?_ | refine zF ?_ | with_reducible refine yab ?_ | with_reducible refine yad ?_ | refine yaa ?_ | refine yac ?_ | refine yag ?_ | refine zT ?_ | refine zE ?_ | refine zX ?_))
        refine yau ?_; refine ⟨_, rfl, ?_⟩
        exact ygt (by rw [yjd, if_neg hw, idx_here hinv hx h3])
      · have h3 : x ≠ w := by simpa [yeu] using h3
        (repeat (first | refine zI ?_ | refine zL ?_ | refine zC ?_ | refine yaf ?_ | refine yae ?_ | refine zR ?_ | refine zD ?_ | refine zK ?_ | refine zB ?_ | refine zA ?_ | refine zS ?_ | refine zU ?_ | refine zV ?_ | refine zF ?_ | with_reducible refine yab ?_ | with_reducible refine yad ?_ | refine yaa ?_ | refine yac ?_ | refine yag ?_ | refine zT ?_ | refine zE ?_ | refine zX ?_))
        exact rnd (k + 1) ⟨by omega, idx_next hinv hx h3⟩ (by omega) (by (repeat (first | exact yca | refine ybm rfl ?_))) yar
    · have h2 : l.length ≤ k := by simpa using h2
      (repeat (first | refine zI ?_ | refine zL ?_ | refine zC ?_ | refine yaf ?_ | refine yae ?_ | refine zR ?_ | refine zD ?_ | refine zK ?_ | refine zB ?_ | refine zA ?_ | refine zS ?_ | refine zU ?_ | refine zV ?_ | refine zF ?_ | with_reducible refine yab ?_ | with_reducible refine yad ?_ | refine yaa ?_ | refine yac ?_ | refine yag ?_ | refine zT ?_ | refine zE ?_ | refine zX ?_))
      refine yau ?_; refine ⟨_, rfl, ?_⟩
      exact ygt (by rw [yjd, if_neg hw, idx_end hinv h2])
theorem binarySigns_con : Con Tryz.prog 68 [] (ybe ykk) := by
  refine ybt Tryz.func68 rfl rfl Tryz.ntmps68 Tryz.results68 rfl rfl ?_
  (repeat (first | refine zI ?_ | refine zL ?_ | refine zC ?_ | refine yaf ?_ | refine yae ?_ | refine zR ?_ | refine zD ?_ | refine zK ?_ | refine zB ?_ | refine zA ?_ | refine zS ?_ | refine zU ?_ | refine zV ?_ | refine zF ?_ | with_reducible refine yab ?_ | with_reducible refine yad ?_ | refine yaa ?_ | refine yac ?_ | refine yag ?_ | refine zT ?_ | refine zE ?_ | refine zX ?_))
  refine yau ?_; refine ⟨_, rfl, ?_⟩
  exact Frz.pure
theorem aggregateWords_con : Con Tryz.prog 103 [] (ybe ykc) := by
  refine ybt Tryz.func103 rfl rfl Tryz.ntmps103 Tryz.results103 rfl rfl ?_
  (repeat (first | refine zI ?_ | refine zL ?_ | refine zC ?_ | refine yaf ?_ | refine yae ?_ | refine zR ?_ | refine zD ?_ | refine zK ?_ | refine zB ?_ | refine zA ?_ | refine zS ?_ | refine zU ?_ | refine zV ?_ | refine zF ?_ | with_reducible refine yab ?_ | with_reducible refine yad ?_ | refine yaa ?_ | refine yac ?_ | refine yag ?_ | refine zT ?_ | refine zE ?_ | refine zX ?_))
  refine yau ?_; refine ⟨_, rfl, ?_⟩
  exact Frz.pure
theorem constantWords_con : Con Tryz.prog 106 [] (ybe ygp) := by
  refine ybt Tryz.func106 rfl rfl Tryz.ntmps106 Tryz.results106 rfl rfl ?_
  (repeat (first | refine zI ?_ | refine zL ?_ | refine zC ?_ | refine yaf ?_ | refine yae ?_ | refine zR ?_ | refine zD ?_ | refine zK ?_ | refine zB ?_ | refine zA ?_ | refine zS ?_ | refine zU ?_ | refine zV ?_ | refine zF ?_ | with_reducible refine yab ?_ | with_reducible refine yad ?_ | refine yaa ?_ | refine yac ?_ | refine yag ?_ | refine zT ?_ | refine zE ?_ | refine zX ?_))
  refine yau ?_; refine ⟨_, rfl, ?_⟩
  exact Frz.pure
theorem fieldWords_con : Con Tryz.prog 105 [] (ybe yha) := by
  refine ybt Tryz.func105 rfl rfl Tryz.ntmps105 Tryz.results105 rfl rfl ?_
  (repeat (first | refine zI ?_ | refine zL ?_ | refine zC ?_ | refine yaf ?_ | refine yae ?_ | refine zR ?_ | refine zD ?_ | refine zK ?_ | refine zB ?_ | refine zA ?_ | refine zS ?_ | refine zU ?_ | refine zV ?_ | refine zF ?_ | with_reducible refine yab ?_ | with_reducible refine yad ?_ | refine yaa ?_ | refine yac ?_ | refine yag ?_ | refine zT ?_ | refine zE ?_ | refine zX ?_))
  refine yau ?_; refine ⟨_, rfl, ?_⟩
  exact Frz.pure
theorem binaryOp_con (w : Bs) : Con Tryz.prog 83 [yff (ba w)] (i64 (ygo w)) := by
  refine ybt Tryz.func83 rfl rfl Tryz.ntmps83 Tryz.results83 rfl rfl ?_
  (repeat (first | refine zI ?_ | refine zL ?_ | refine zC ?_ | refine yaf ?_ | refine yae ?_ | refine zR ?_ | refine zD ?_ | refine zK ?_ | refine zB ?_ | refine zA ?_ | refine zS ?_ | refine zU ?_ | refine zV ?_ | refine zF ?_ | with_reducible refine yab ?_ | with_reducible refine yad ?_ | refine yaa ?_ | refine yac ?_ | refine yag ?_ | refine zT ?_ | refine zE ?_ | refine zX ?_ | refine yal rfl rfl binarySigns_con rfl rfl ?_ | refine yal rfl rfl (find_con 30 ykk w (by omega) (by decide)) rfl rfl ?_))
  refine yau ?_; refine ⟨_, rfl, ?_⟩
  exact Frz.pure
theorem aggregateOp_con (w : Bs) : Con Tryz.prog 119 [yff (ba w)] (i64 (yko w)) := by
  refine ybt Tryz.func119 rfl rfl Tryz.ntmps119 Tryz.results119 rfl rfl ?_
  (repeat (first | refine zI ?_ | refine zL ?_ | refine zC ?_ | refine yaf ?_ | refine yae ?_ | refine zR ?_ | refine zD ?_ | refine zK ?_ | refine zB ?_ | refine zA ?_ | refine zS ?_ | refine zU ?_ | refine zV ?_ | refine zF ?_ | with_reducible refine yab ?_ | with_reducible refine yad ?_ | refine yaa ?_ | refine yac ?_ | refine yag ?_ | refine zT ?_ | refine zE ?_ | refine zX ?_ | refine yal rfl rfl aggregateWords_con rfl rfl ?_ | refine yal rfl rfl (find_con 20 ykc w (by omega) (by decide)) rfl rfl ?_))
  refine yau ?_; refine ⟨_, rfl, ?_⟩
  exact Frz.pure
theorem ycy (w : Bs) : Con Tryz.prog 118 [yff (ba w)] (i64 (yfk w)) := by
  refine ybt Tryz.func118 rfl rfl Tryz.ntmps118 Tryz.results118 rfl rfl ?_
  (repeat (first | refine zI ?_ | refine zL ?_ | refine zC ?_ | refine yaf ?_ | refine yae ?_ | refine zR ?_ | refine zD ?_ | refine zK ?_ | refine zB ?_ | refine zA ?_ | refine zS ?_ | refine zU ?_ | refine zV ?_ | refine zF ?_ | with_reducible refine yab ?_ | with_reducible refine yad ?_ | refine yaa ?_ | refine yac ?_ | refine yag ?_ | refine zT ?_ | refine zE ?_ | refine zX ?_ | refine yal rfl rfl constantWords_con rfl rfl ?_ | refine yal rfl rfl (find_con 2 ygp w (by omega) (by decide)) rfl rfl ?_))
  refine yau ?_; refine ⟨_, rfl, ?_⟩
  exact Frz.pure
theorem fieldOp_con (w : Bs) : Con Tryz.prog 128 [yff (ba w)] (i64 (yfz w)) := by
  refine ybt Tryz.func128 rfl rfl Tryz.ntmps128 Tryz.results128 rfl rfl ?_
  (repeat (first | refine zI ?_ | refine zL ?_ | refine zC ?_ | refine yaf ?_ | refine yae ?_ | refine zR ?_ | refine zD ?_ | refine zK ?_ | refine zB ?_ | refine zA ?_ | refine zS ?_ | refine zU ?_ | refine zV ?_ | refine zF ?_ | with_reducible refine yab ?_ | with_reducible refine yad ?_ | refine yaa ?_ | refine yac ?_ | refine yag ?_ | refine zT ?_ | refine zE ?_ | refine zX ?_ | refine yal rfl rfl fieldWords_con rfl rfl ?_ | refine yal rfl rfl (find_con 13 yha w (by omega) (by decide)) rfl rfl ?_))
  refine yau ?_; refine ⟨_, rfl, ?_⟩
  exact Frz.pure
theorem ycr (op : Int) : Con Tryz.prog 65 [i64 op] (i64 (ydo op)) := by
  by_cases h : op = 43 ∨ op = 42 ∨ op = 41 ∨ op = 35 ∨ op = 36 ∨ op = 37 ∨ op = 38 ∨ op = 39 ∨ op = 40 ∨ op = 33 ∨ op = 34 ∨ op = 30 ∨ op = 31 ∨ op = 32 ∨ op = 18 ∨ op = 19
  · rcases h with rfl | rfl | rfl | rfl | rfl | rfl | rfl | rfl | rfl | rfl | rfl | rfl | rfl | rfl | rfl | rfl
    all_goals
      refine ybt Tryz.func65 rfl rfl Tryz.ntmps65 Tryz.results65 rfl rfl ?_
      (repeat (first | refine zI ?_ | refine zL ?_ | refine zC ?_ | refine yaf ?_ | refine yae ?_ | refine zR ?_ | refine zD ?_ | refine zK ?_ | refine zB ?_ | refine zA ?_ | refine zS ?_ | refine zU ?_ | refine zV ?_ | refine zF ?_ | with_reducible refine yab ?_ | with_reducible refine yad ?_ | refine yaa ?_ | refine yac ?_ | refine yag ?_ | refine zT ?_ | refine zE ?_ | refine zX ?_))
      refine yau ?_; refine ⟨_, rfl, ?_⟩
      exact Frz.pure
  simp only [not_or] at h
  refine ybt Tryz.func65 rfl rfl Tryz.ntmps65 Tryz.results65 rfl rfl ?_
  iterate 16 ((repeat (first | refine zI ?_ | refine zL ?_ | refine zC ?_ | refine yaf ?_ | refine yae ?_ | refine zR ?_ | refine zD ?_ | refine zK ?_ | refine zB ?_ | refine zA ?_ | refine zS ?_ | refine zU ?_ | refine zV ?_ | refine zF ?_ | with_reducible refine yab ?_ | with_reducible refine yad ?_ | refine yaa ?_ | refine yac ?_ | refine yag ?_ | refine zT ?_ | refine zE ?_ | refine zX ?_)); refine yaq rfl (fun h2 => absurd h2 (by simp; omega)) (fun _ => ?_))
  (repeat (first | refine zI ?_ | refine zL ?_ | refine zC ?_ | refine yaf ?_ | refine yae ?_ | refine zR ?_ | refine zD ?_ | refine zK ?_ | refine zB ?_ | refine zA ?_ | refine zS ?_ | refine zU ?_ | refine zV ?_ | refine zF ?_ | with_reducible refine yab ?_ | with_reducible refine yad ?_ | refine yaa ?_ | refine yac ?_ | refine yag ?_ | refine zT ?_ | refine zE ?_ | refine zX ?_))
  refine yau ?_; refine ⟨_, rfl, ?_⟩
  have e : ydo op = 7 := by
    unfold ydo
    simp only [h, if_false, or_false]
    rw [if_neg (by omega), if_neg (by omega)]
  rw [e]
  exact Frz.pure
theorem A_matVec {P : Program} {N : Nat} {c : Code} {Q : Exit → SS → Prop} {t : List (Nat × AV)} {h : List (Nat × Option LObj)} (id : Nat) {xs : List AV} (hx : yao h id = some (.mcells xs)) (hp : ∀ y ∈ xs, ybp y = true) (k : A P N c Q (S t ((id, some (.vec xs)) :: h))) : A P N c Q (S t h) := by
  intro B ok0 lv a w hs
  refine k B ok0 lv a w ⟨⟨hs.inv.base, hs.inv.ok0lt, fun j hj => ?_, hs.inv.inj, fun j x hj => ?_⟩, hs.size, hs.frame, hs.defers, hs.big, fun j b ws hN hj hc hb => ?_⟩
  · refine hs.inv.dom j ?_
    simp only [S, yao] at hj ⊢
    split at hj
    · cases hj
    · exact hj
  · simp only [S, yao] at hj
    split at hj
    · rename_i hb
      cases hj
      have e := Nat.eq_of_beq_eq_true hb
      subst e
      obtain ⟨b, n, h1, h2⟩ := hs.inv.obj j _ hx
      refine ⟨b, n, h1, ?_⟩
      cases b with
      | none => simp [yhn] at h2
      | some b => exact ⟨h2.1, h2.2.1, h2.2.2, hp⟩
    · exact hs.inv.obj j x hj
  · simp only [S, yao] at hj
    split at hj
    · cases hj; cases hc
    · exact hs.pin j b ws hN hj hc hb
theorem leaf_own (op a : Int) : yia Tryz.prog 86 [i64 op, i64 a] (yao []) (.ls 1002 2 1) (yao [(1002, some (.vec [i64 op, i64 a]))]) := by
  refine ycw tok Tryz.func86 rfl rfl Tryz.ntmps86 Tryz.results86 rfl (fun id o ho hc => ?_) ?_
  · simp only [yao] at ho
    cases h1 : Nat.beq id 1002 with
    | true => simp only [h1, Option.some.injEq] at ho; subst ho; cases hc
    | false => simp only [h1] at ho; cases ho
  show A _ _ _ _ (S _ _)
  (repeat (first | with_reducible refine yad ?_ | with_reducible refine yab ?_ | refine yac ?_ | refine yae ?_ | refine yaa ?_)); refine yah (lf := lfT) rfl ?_
  (repeat (first | refine zI ?_ | refine zL ?_ | refine zC ?_ | refine zK ?_ | refine zB ?_ | refine zA ?_ | refine zS ?_ | refine zU ?_ | refine zV ?_ | refine zF ?_ | refine zX ?_ | refine yaf ?_))
  (repeat (first | with_reducible refine yad ?_ | with_reducible refine yab ?_ | refine yac ?_ | refine yae ?_ | refine yaa ?_)); refine yah (lf := lfT) rfl ?_
  (repeat (first | refine zC ?_ | refine zU ?_))
  refine L_buildM tok 1002 rfl rfl rfl rfl rfl rfl ⟨rfl, fun x y h => ?_, fun j ob h => by cases h⟩ rfl rfl rfl rfl ?_
  · exact (freshT_look (id := 1002) rfl) x y h
  (repeat (first | refine zI ?_ | refine zL ?_ | refine zC ?_ | refine zK ?_ | refine zB ?_ | refine zA ?_ | refine zS ?_ | refine zU ?_ | refine zV ?_ | refine zF ?_ | refine zX ?_ | refine yaf ?_))
  (repeat (first | with_reducible refine yad ?_ | with_reducible refine yab ?_ | refine yac ?_ | refine yae ?_ | refine yaa ?_))
  refine A_matVec 1002 rfl (by intro y hy; simp [ykd, ykg] at hy; rcases hy with rfl | rfl <;> rfl) ?_
  refine yau ?_
  exact ⟨_, rfl, ybk _, yba (yak rfl yar)⟩
theorem leaf_con (op a : Int) : Con Tryz.prog 86 [i64 op, i64 a] (ybc [(op, a)]) := by
  refine ybt Tryz.func86 rfl rfl Tryz.ntmps86 Tryz.results86 rfl rfl ?_
  (repeat (first | refine zI ?_ | refine zL ?_ | refine zC ?_ | refine yaf ?_ | refine yae ?_ | refine zR ?_ | refine zD ?_ | refine zK ?_ | refine zB ?_ | refine zA ?_ | refine zS ?_ | refine zU ?_ | refine zV ?_ | refine zF ?_ | with_reducible refine yab ?_ | with_reducible refine yad ?_ | refine yaa ?_ | refine yac ?_ | refine yag ?_ | refine zT ?_ | refine zE ?_ | refine zX ?_))
  refine yau ?_; refine ⟨_, rfl, ?_⟩
  exact Frz.pure
theorem terms_flat (l : List Tm) : (l.map ydg).flatten.length = l.length * 2 := by
  induction l with
  | nil => rfl
  | cons t l ih => simp only [List.map_cons, List.flatten_cons, List.length_append, ih, List.length_cons, ydg, List.length_nil]; omega
theorem terms_pure (l : List Tm) : ∀ c ∈ (l.map ydg).flatten, ybp c = true := by
  intro c hc
  simp only [List.mem_flatten, List.mem_map] at hc
  obtain ⟨r, ⟨t, _, rfl⟩, hc⟩ := hc
  simp only [ydg, List.mem_cons, List.not_mem_nil, or_false] at hc
  rcases hc with rfl | rfl <;> rfl
def encExprs (es : List (List Tm)) : AV := .sl 1 (es.map fun e => [ybc e])
theorem operation_con (op : Int) (es : List (List Tm)) (hl : es.length ≤ 10) (h1 : es.flatten.length ≤ 1000000) : Con Tryz.prog 48 [i64 op, encExprs es] (ybc ((op, 0) :: es.flatten)) := by
  refine ybt Tryz.func48 rfl rfl Tryz.ntmps48 Tryz.results48 rfl rfl ?_
  (repeat (first | with_reducible refine yad ?_ | with_reducible refine yab ?_ | refine yac ?_ | refine yae ?_ | refine yaa ?_)); refine yah (lf := lfT) rfl ?_
  (repeat (first | refine zI ?_ | refine zL ?_ | refine zC ?_ | refine zK ?_ | refine zB ?_ | refine zA ?_ | refine zS ?_ | refine zU ?_ | refine zV ?_ | refine zF ?_ | refine zX ?_ | refine yaf ?_))
  (repeat (first | with_reducible refine yad ?_ | with_reducible refine yab ?_ | refine yac ?_ | refine yae ?_ | refine yaa ?_)); refine yah (lf := lfT) rfl ?_
  (repeat (first | refine zI ?_ | refine zL ?_ | refine zC ?_ | refine zK ?_ | refine zB ?_ | refine zA ?_ | refine zS ?_ | refine zU ?_ | refine zV ?_ | refine zF ?_ | refine zX ?_ | refine yaf ?_))
  refine yfl [(1002, 9)] (leaf_own op 0) rfl rfl rfl rfl rfl rfl rfl (yar) rfl rfl rfl rfl rfl rfl ?_
  (repeat (first | refine zI ?_ | refine zL ?_ | refine zC ?_ | refine zK ?_ | refine zB ?_ | refine zA ?_ | refine zS ?_ | refine zU ?_ | refine zV ?_ | refine zF ?_ | refine zX ?_ | refine yaf ?_))
  (repeat (first | refine zI ?_ | refine zL ?_ | refine zC ?_ | refine yaf ?_ | refine yae ?_ | refine zR ?_ | refine zD ?_ | refine zK ?_ | refine zB ?_ | refine zA ?_ | refine zS ?_ | refine zU ?_ | refine zV ?_ | refine zF ?_ | with_reducible refine yab ?_ | with_reducible refine yad ?_ | refine yaa ?_ | refine yac ?_ | refine yag ?_ | refine zT ?_ | refine zE ?_ | refine zX ?_))
  refine yjj (α := Nat) (fun k => [(5, .ls 9 2 (1 + (es.take k).flatten.length)), (12, i64 (k : Int)), (11, i64 (es.length : Int)), (10, encExprs es)]) (fun k => [(9, some (.vec ((((op, 0) :: (es.take k).flatten).map ydg).flatten)))]) (fun k => es.length - k) (fun k => k ≤ es.length) 0 (by omega) (by (repeat (first | exact yca | refine ybm rfl ?_))) (yak rfl yar) ?_
  intro k hk
  (repeat (first | refine zI ?_ | refine zL ?_ | refine zC ?_ | refine yaf ?_ | refine yae ?_ | refine zR ?_ | refine zD ?_ | refine zK ?_ | refine zB ?_ | refine zA ?_ | refine zS ?_ | refine zU ?_ | refine zV ?_ | refine zF ?_ | with_reducible refine yab ?_ | with_reducible refine yad ?_ | refine yaa ?_ | refine yac ?_ | refine yag ?_ | refine zT ?_ | refine zE ?_ | refine zX ?_))
  refine yaq rfl (fun h2 => ?_) (fun h2 => ?_)
  · have h2 : k < es.length := by simpa using h2
    obtain ⟨e, he⟩ := yin h2
    have hfl : (es.take (k + 1)).flatten = (es.take k).flatten ++ e := by
      rw [List.take_add_one, he]; simp
    have hle : (es.take (k + 1)).flatten.length ≤ es.flatten.length := by
      conv => rhs; rw [← List.take_append_drop (k + 1) es, List.flatten_append, List.length_append]
      omega
    rw [hfl, List.length_append] at hle
    (repeat (first | refine zI ?_ | refine zL ?_ | refine zC ?_ | refine yaf ?_ | refine yae ?_ | refine zR ?_ | refine zD ?_ | refine zK ?_ | refine zB ?_ | refine zA ?_ | refine zS ?_ | refine zU ?_ | refine zV ?_ | refine zF ?_ | with_reducible refine yab ?_ | with_reducible refine yad ?_ | refine yaa ?_ | refine yac ?_ | refine yag ?_ | refine zT ?_ | refine zE ?_ | refine zX ?_))
    refine L_appendV tok (id := 9) (t' := [(12, i64 (k : Int)), (11, i64 (es.length : Int)), (10, encExprs es)]) rfl rfl (by rw [terms_flat]; simp; omega) rfl (terms_pure e) (by rw [List.length_map]; constructor <;> omega) (by (repeat (first | exact subTM_nil | refine subTM_cons rfl rfl ?_))) rfl rfl rfl rfl ?_
    (repeat (first | refine zI ?_ | refine zL ?_ | refine zC ?_ | refine yaf ?_ | refine yae ?_ | refine zR ?_ | refine zD ?_ | refine zK ?_ | refine zB ?_ | refine zA ?_ | refine zS ?_ | refine zU ?_ | refine zV ?_ | refine zF ?_ | with_reducible refine yab ?_ | with_reducible refine yad ?_ | refine yaa ?_ | refine yac ?_ | refine yag ?_ | refine zT ?_ | refine zE ?_ | refine zX ?_))
    have e1 : 1 + (es.take k).flatten.length + (e.map ydg).length = 1 + (es.take (k + 1)).flatten.length := by rw [hfl, List.length_append, List.length_map]; omega
    have e2 : (((op, 0) :: (es.take k).flatten).map ydg).flatten ++ (e.map ydg).flatten = (((op, 0) :: (es.take (k + 1)).flatten).map ydg).flatten := by rw [hfl]; simp
    rw [e1, e2]
    exact rnd (k + 1) (by omega) (by omega) (by (repeat (first | exact yca | refine ybm rfl ?_))) (yak rfl yar)
  · have h2 : es.length ≤ k := by simpa using h2
    rw [List.take_of_length_le h2]
    (repeat (first | refine zI ?_ | refine zL ?_ | refine zC ?_ | refine yaf ?_ | refine yae ?_ | refine zR ?_ | refine zD ?_ | refine zK ?_ | refine zB ?_ | refine zA ?_ | refine zS ?_ | refine zU ?_ | refine zV ?_ | refine zF ?_ | with_reducible refine yab ?_ | with_reducible refine yad ?_ | refine yaa ?_ | refine yac ?_ | refine yag ?_ | refine zT ?_ | refine zE ?_ | refine zX ?_))
    refine yau ?_; refine ⟨_, rfl, ?_⟩
    refine Frz.ls rfl (by rw [List.length_map, List.length_cons]; omega) (fun row hr => by obtain ⟨t, _, rfl⟩ := List.mem_map.1 hr; rfl) rfl fun x hx i => ybp.ment (terms_pure ((op, 0) :: es.flatten) x hx)
theorem index_con (l : List Bs) (w : Bs) (hl : l.length ≤ 1000) : Con Tryz.prog 77 [ybe l, yff (ba w)] (i64 (match yhc l w with | some i => (i : Int) | none => -1)) := by
  refine ybt Tryz.func77 rfl rfl Tryz.ntmps77 Tryz.results77 rfl rfl ?_
  (repeat (first | refine zI ?_ | refine zL ?_ | refine zC ?_ | refine yaf ?_ | refine yae ?_ | refine zR ?_ | refine zD ?_ | refine zK ?_ | refine zB ?_ | refine zA ?_ | refine zS ?_ | refine zU ?_ | refine zV ?_ | refine zF ?_ | with_reducible refine yab ?_ | with_reducible refine yad ?_ | refine yaa ?_ | refine yac ?_ | refine yag ?_ | refine zT ?_ | refine zE ?_ | refine zX ?_))
  refine yjj (α := Nat) (fun k => [(8, i64 (k : Int)), (7, i64 (l.length : Int)), (1, yff (ba w)), (0, ybe l)]) (fun k => []) (fun k => l.length - k) (fun k => k ≤ l.length ∧ yhc l w = (yhc (l.drop k) w).map (· + k)) 0 ⟨by omega, by simp⟩ (by (repeat (first | exact yca | refine ybm rfl ?_))) (yar) ?_
  rintro k ⟨hk, hinv⟩
  (repeat (first | refine zI ?_ | refine zL ?_ | refine zC ?_ | refine yaf ?_ | refine yae ?_ | refine zR ?_ | refine zD ?_ | refine zK ?_ | refine zB ?_ | refine zA ?_ | refine zS ?_ | refine zU ?_ | refine zV ?_ | refine zF ?_ | with_reducible refine yab ?_ | with_reducible refine yad ?_ | refine yaa ?_ | refine yac ?_ | refine yag ?_ | refine zT ?_ | refine zE ?_ | refine zX ?_))
  refine yaq rfl (fun h2 => ?_) (fun h2 => ?_)
  · have h2 : k < l.length := by simpa using h2
    obtain ⟨x, hx⟩ := yin h2
    (repeat (first | refine zI ?_ | refine zL ?_ | refine zC ?_ | refine yaf ?_ | refine yae ?_ | refine zR ?_ | refine zD ?_ | refine zK ?_ | refine zB ?_ | refine zA ?_ | refine zS ?_ | refine zU ?_ | refine zV ?_ | refine zF ?_ | with_reducible refine yab ?_ | with_reducible refine yad ?_ | refine yaa ?_ | refine yac ?_ | refine yag ?_ | refine zT ?_ | refine zE ?_ | refine zX ?_))
    refine yaq rfl (fun h3 => ?_) (fun h3 => ?_)
    · have h3 : w = x := by simpa [yeu] using h3
      (repeat (first | refine zI ?_ | refine zL ?_ | refine zC ?_ | refine yaf ?_ | refine yae ?_ | refine zR ?_ | refine zD ?_ | refine zK ?_ | refine zB ?_ | refine zA ?_ | refine zS ?_ | refine zU ?_ | refine zV ?_ | refine zF ?_ | with_reducible refine yab ?_ | with_reducible refine yad ?_ | refine yaa ?_ | refine yac ?_ | refine yag ?_ | refine zT ?_ | refine zE ?_ | refine zX ?_))
      refine yau ?_; refine ⟨_, rfl, ?_⟩
      exact ygt (by rw [idx_here hinv hx h3.symm])
    · have h3 : w ≠ x := by simpa [yeu] using h3
      (repeat (first | refine zI ?_ | refine zL ?_ | refine zC ?_ | refine yaf ?_ | refine yae ?_ | refine zR ?_ | refine zD ?_ | refine zK ?_ | refine zB ?_ | refine zA ?_ | refine zS ?_ | refine zU ?_ | refine zV ?_ | refine zF ?_ | with_reducible refine yab ?_ | with_reducible refine yad ?_ | refine yaa ?_ | refine yac ?_ | refine yag ?_ | refine zT ?_ | refine zE ?_ | refine zX ?_))
      exact rnd (k + 1) ⟨by omega, idx_next hinv hx h3.symm⟩ (by omega) (by (repeat (first | exact yca | refine ybm rfl ?_))) yar
  · have h2 : l.length ≤ k := by simpa using h2
    (repeat (first | refine zI ?_ | refine zL ?_ | refine zC ?_ | refine yaf ?_ | refine yae ?_ | refine zR ?_ | refine zD ?_ | refine zK ?_ | refine zB ?_ | refine zA ?_ | refine zS ?_ | refine zU ?_ | refine zV ?_ | refine zF ?_ | with_reducible refine yab ?_ | with_reducible refine yad ?_ | refine yaa ?_ | refine yac ?_ | refine yag ?_ | refine zT ?_ | refine zE ?_ | refine zX ?_))
    refine yau ?_; refine ⟨_, rfl, ?_⟩
    exact ygt (by rw [idx_end hinv h2])
theorem contains_con (l : List Bs) (w : Bs) (hl : l.length ≤ 1000) : Con Tryz.prog 40 [ybe l, yff (ba w)] (yga (l.contains w)) := by
  refine ybt Tryz.func40 rfl rfl Tryz.ntmps40 Tryz.results40 rfl rfl ?_
  (repeat (first | refine zI ?_ | refine zL ?_ | refine zC ?_ | refine yaf ?_ | refine yae ?_ | refine zR ?_ | refine zD ?_ | refine zK ?_ | refine zB ?_ | refine zA ?_ | refine zS ?_ | refine zU ?_ | refine zV ?_ | refine zF ?_ | with_reducible refine yab ?_ | with_reducible refine yad ?_ | refine yaa ?_ | refine yac ?_ | refine yag ?_ | refine zT ?_ | refine zE ?_ | refine zX ?_ | refine yal rfl rfl (index_con l w hl) rfl rfl ?_))
  refine yau ?_; refine ⟨_, rfl, ?_⟩
  refine ybu ?_
  cases h : yhc l w with
  | none =>
    have : l.contains w = false := by simpa using idx_not h
    rw [this]; rfl
  | some i =>
    have : l.contains w = true := by simpa using idxW_mem h
    rw [this]
    simp
theorem name_con (w : Bs) (hw : w.length ≤ 9223372036854775807) : Con Tryz.prog 39 [yff (ba w)] (yga (nmW w)) :=
  ydq ⟨_, Tryz.func39, rfl, rfl⟩ fun w0 us ok hok hr => by
    obtain ⟨u, rfl, h1⟩ := relAll1 hr
    cases h1
    refine (name_any (ba w) w0 (by rw [yaw]; exact hw)).mono ?_
    rintro e w' ⟨rfl, rfl⟩
    exact ⟨rfl, Below.refl _ _⟩
theorem take_good {nm : Bs → Bool} {names : List Bs} {k : Nat} {x : Bs} (hx : names[k]? = some x) (ha : (names.take k).all nm = true) (hd : (names.take k).Nodup) (h1 : nm x = true) (h2 : (names.take k).contains x = false) : (names.take (k + 1)).all nm = true ∧ (names.take (k + 1)).Nodup := by
  rw [List.take_add_one, hx]
  simp only [Option.toList_some]
  refine ⟨by simp [ha, h1], ?_⟩
  rw [List.nodup_append]
  refine ⟨hd, by simp, fun a ha2 b hb => ?_⟩
  simp only [List.mem_singleton] at hb
  subst hb
  rintro rfl
  simp at h2
  exact h2 ha2
theorem good_false1 {nm : Bs → Bool} {names : List Bs} {k : Nat} {x : Bs} (hx : names[k]? = some x) (h1 : nm x = false) : ydw nm names = false := by
  have : names.all nm = false := by
    rw [List.all_eq_false]
    exact ⟨x, List.mem_of_getElem? hx, by simp [h1]⟩
  simp [ydw, this]
theorem good_false2 {nm : Bs → Bool} {names : List Bs} {k : Nat} {x : Bs} (hx : names[k]? = some x) (h1 : (names.take k).contains x = true) : ydw nm names = false := by
  have : ¬ names.Nodup := by
    intro hn
    rw [← List.take_append_drop k names, List.nodup_append] at hn
    have h2 : x ∈ names.drop k := by rw [drop_at' hx]; simp
    exact hn.2.2 x (by simpa using h1) x h2 rfl
  simp [ydw, this]
theorem good_con (names : List Bs) (hl : names.length ≤ 1000) (hn : ∀ x ∈ names, x.length ≤ 1000) : Con Tryz.prog 19 [ybe names] (yga (ydw nmW names)) := by
  refine ybt Tryz.func19 rfl rfl Tryz.ntmps19 Tryz.results19 rfl rfl ?_
  (repeat (first | refine zI ?_ | refine zL ?_ | refine zC ?_ | refine yaf ?_ | refine yae ?_ | refine zR ?_ | refine zD ?_ | refine zK ?_ | refine zB ?_ | refine zA ?_ | refine zS ?_ | refine zU ?_ | refine zV ?_ | refine zF ?_ | with_reducible refine yab ?_ | with_reducible refine yad ?_ | refine yaa ?_ | refine yac ?_ | refine yag ?_ | refine zT ?_ | refine zE ?_ | refine zX ?_))
  refine yaq rfl (fun h1 => ?_) (fun h1 => ?_)
  · have h1 : 6 < names.length := by simp at h1; omega
    (repeat (first | refine zI ?_ | refine zL ?_ | refine zC ?_ | refine yaf ?_ | refine yae ?_ | refine zR ?_ | refine zD ?_ | refine zK ?_ | refine zB ?_ | refine zA ?_ | refine zS ?_ | refine zU ?_ | refine zV ?_ | refine zF ?_ | with_reducible refine yab ?_ | with_reducible refine yad ?_ | refine yaa ?_ | refine yac ?_ | refine yag ?_ | refine zT ?_ | refine zE ?_ | refine zX ?_))
    refine yau ?_; refine ⟨_, rfl, ?_⟩
    exact ybu (by simp [ydw, show ¬ names.length ≤ 6 by omega])
  have h1 : names.length ≤ 6 := by simp at h1; omega
  (repeat (first | refine zI ?_ | refine zL ?_ | refine zC ?_ | refine yaf ?_ | refine yae ?_ | refine zR ?_ | refine zD ?_ | refine zK ?_ | refine zB ?_ | refine zA ?_ | refine zS ?_ | refine zU ?_ | refine zV ?_ | refine zF ?_ | with_reducible refine yab ?_ | with_reducible refine yad ?_ | refine yaa ?_ | refine yac ?_ | refine yag ?_ | refine zT ?_ | refine zE ?_ | refine zX ?_))
  refine yjj (α := Nat) (fun k => [(10, i64 (k : Int)), (9, i64 (names.length : Int)), (8, ybe names), (0, ybe names)]) (fun k => []) (fun k => names.length - k) (fun k => k ≤ names.length ∧ (names.take k).all nmW = true ∧ (names.take k).Nodup) 0 ⟨by omega, by simp, by simp⟩ (by (repeat (first | exact yca | refine ybm rfl ?_))) (yar) ?_
  rintro k ⟨hk, ha, hd⟩
  (repeat (first | refine zI ?_ | refine zL ?_ | refine zC ?_ | refine yaf ?_ | refine yae ?_ | refine zR ?_ | refine zD ?_ | refine zK ?_ | refine zB ?_ | refine zA ?_ | refine zS ?_ | refine zU ?_ | refine zV ?_ | refine zF ?_ | with_reducible refine yab ?_ | with_reducible refine yad ?_ | refine yaa ?_ | refine yac ?_ | refine yag ?_ | refine zT ?_ | refine zE ?_ | refine zX ?_))
  refine yaq rfl (fun h2 => ?_) (fun h2 => ?_)
  · have h2 : k < names.length := by simpa using h2
    obtain ⟨x, hx⟩ := yin h2
    have hxl := hn x (List.mem_of_getElem? hx)
    (repeat (first | refine zI ?_ | refine zL ?_ | refine zC ?_ | refine yaf ?_ | refine yae ?_ | refine zR ?_ | refine zD ?_ | refine zK ?_ | refine zB ?_ | refine zA ?_ | refine zS ?_ | refine zU ?_ | refine zV ?_ | refine zF ?_ | with_reducible refine yab ?_ | with_reducible refine yad ?_ | refine yaa ?_ | refine yac ?_ | refine yag ?_ | refine zT ?_ | refine zE ?_ | refine zX ?_ | refine yal rfl rfl (name_con x (by omega)) rfl rfl ?_))
    refine ych 18 rfl (fun h3 => ?_) (fun h3 => ?_)
    · (repeat (first | refine zI ?_ | refine zL ?_ | refine zC ?_ | refine yaf ?_ | refine yae ?_ | refine zR ?_ | refine zD ?_ | refine zK ?_ | refine zB ?_ | refine zA ?_ | refine zS ?_ | refine zU ?_ | refine zV ?_ | refine zF ?_ | with_reducible refine yab ?_ | with_reducible refine yad ?_ | refine yaa ?_ | refine yac ?_ | refine yag ?_ | refine zT ?_ | refine zE ?_ | refine zX ?_))
      refine yau ?_; refine ⟨_, rfl, ?_⟩
      exact ybu (good_false1 hx (by simpa using h3)).symm
    · (repeat (first | refine zI ?_ | refine zL ?_ | refine zC ?_ | refine yaf ?_ | refine yae ?_ | refine zR ?_ | refine zD ?_ | refine zK ?_ | refine zB ?_ | refine zA ?_ | refine zS ?_ | refine zU ?_ | refine zV ?_ | refine zF ?_ | with_reducible refine yab ?_ | with_reducible refine yad ?_ | refine yaa ?_ | refine yac ?_ | refine yag ?_ | refine zT ?_ | refine zE ?_ | refine zX ?_ | refine L_slslice tok rfl rfl rfl rfl (by show (0 : Int) ≤ 0; omega) (by show (0 : Int) ≤ (k : Int); omega) (by show (k : Int) ≤ ((List.map _ names).length : Int); rw [List.length_map]; omega) rfl rfl ?_))
      rw [show List.drop (((none : Option Int)).getD 0).toNat (List.take ((some (k : Int)).getD ((names.map fun x => [yff (ba x)]).length : Int)).toNat (names.map fun x => [yff (ba x)])) = (names.take k).map (fun x => [yff (ba x)]) by simp [List.map_take]]
      (repeat (first | refine zI ?_ | refine zL ?_ | refine zC ?_ | refine yaf ?_ | refine yae ?_ | refine zR ?_ | refine zD ?_ | refine zK ?_ | refine zB ?_ | refine zA ?_ | refine zS ?_ | refine zU ?_ | refine zV ?_ | refine zF ?_ | with_reducible refine yab ?_ | with_reducible refine yad ?_ | refine yaa ?_ | refine yac ?_ | refine yag ?_ | refine zT ?_ | refine zE ?_ | refine zX ?_ | refine yal rfl rfl (contains_con (names.take k) x (by rw [List.length_take]; omega)) rfl rfl ?_))
      refine yaq rfl (fun h4 => ?_) (fun h4 => ?_)
      · (repeat (first | refine zI ?_ | refine zL ?_ | refine zC ?_ | refine yaf ?_ | refine yae ?_ | refine zR ?_ | refine zD ?_ | refine zK ?_ | refine zB ?_ | refine zA ?_ | refine zS ?_ | refine zU ?_ | refine zV ?_ | refine zF ?_ | with_reducible refine yab ?_ | with_reducible refine yad ?_ | refine yaa ?_ | refine yac ?_ | refine yag ?_ | refine zT ?_ | refine zE ?_ | refine zX ?_))
        refine yau ?_; refine ⟨_, rfl, ?_⟩
        exact ybu (good_false2 hx h4).symm
      · (repeat (first | refine zI ?_ | refine zL ?_ | refine zC ?_ | refine yaf ?_ | refine yae ?_ | refine zR ?_ | refine zD ?_ | refine zK ?_ | refine zB ?_ | refine zA ?_ | refine zS ?_ | refine zU ?_ | refine zV ?_ | refine zF ?_ | with_reducible refine yab ?_ | with_reducible refine yad ?_ | refine yaa ?_ | refine yac ?_ | refine yag ?_ | refine zT ?_ | refine zE ?_ | refine zX ?_))
        have := take_good hx ha hd (by simpa using h3) h4
        exact rnd (k + 1) ⟨by omega, this.1, this.2⟩ (by omega) (by (repeat (first | exact yca | refine ybm rfl ?_))) yar
  · have h2 : names.length ≤ k := by simpa using h2
    rw [List.take_of_length_le h2] at ha hd
    (repeat (first | refine zI ?_ | refine zL ?_ | refine zC ?_ | refine yaf ?_ | refine yae ?_ | refine zR ?_ | refine zD ?_ | refine zK ?_ | refine zB ?_ | refine zA ?_ | refine zS ?_ | refine zU ?_ | refine zV ?_ | refine zF ?_ | with_reducible refine yab ?_ | with_reducible refine yad ?_ | refine yaa ?_ | refine yac ?_ | refine yag ?_ | refine zT ?_ | refine zE ?_ | refine zX ?_))
    refine yau ?_; refine ⟨_, rfl, ?_⟩
    exact ybu (by simp only [ydw, ha, decide_eq_true hd, decide_eq_true h1]; rfl)
end Go.Proofs.YtcpgpiabeimefaaGreatDoor
set_option maxRecDepth 100000
namespace Go.Proofs.YtcpgpiabeimefaaGreatDoor
open Go.RowKit

theorem indexByte_slite (s : ByteArray) (c : Int) (w : World) :
    Calls Tryz.prog 115 #[.string s, .int .u8 c] w fun e w' => e = .returned (.int .i64 (Lib.indexByte s.data.toList c.toNat.toUInt8)) ∧ w = w' := by
  go_enter Tryz.func115, Tryz.ntmps115
  go_wp2
  rw [run_callFunc_extern Tryz.func127 (by kernel_rfl) (by kernel_rfl) (by kernel_rfl) (e := Extern.BytealgIndexByte.indexByte) (by kernel_rfl), Lib.run_indexByteString]
  simp only [Result.andThen]
  rw [Oper.upon_value]
  go_wp2
  go_ret
  exact ⟨rfl, rfl⟩

theorem indexByte_any (s : ByteArray) (c : Int) (w : World) :
    Calls Tryz.prog 108 #[.string s, .int .u8 c] w fun e w' => e = .returned (.int .i64 (Lib.indexByte s.data.toList c.toNat.toUInt8)) ∧ w = w' := by
  go_enter Tryz.func108, Tryz.ntmps108
  go_wp2_with (go_at_call 115; refine (indexByte_slite _ _ _).mono ?_; rintro e w' ⟨rfl, rfl⟩)
  go_ret
  exact ⟨rfl, rfl⟩

def yjo (s p : ByteArray) : Bool := decide (p.size ≤ s.size) && ((s.extract 0 p.size).toList == p.toList)

theorem ycx (s p : ByteArray) (_hs : s.size ≤ 9223372036854775807) (w : World) :
    Calls Tryz.prog 107 #[.string s, .string p] w fun e w' => e = .returned (.bool (yjo s p)) ∧ w = w' := by
  by_cases h : p.size ≤ s.size
  all_goals
    go_enter Tryz.func107, Tryz.ntmps107
    go_wp2
    go_ret
    refine ⟨yan ?_, rfl⟩
    simp [yjo, h]

def yll (a b : UInt8) : List UInt8 → Bool
  | x :: y :: _ => x == a && y == b
  | _ => false
theorem preB_two (t : ByteArray) (a b : UInt8) : yjo t { data := #[a, b] } = yll a b (yaj t 0) := by
  unfold yjo
  rw [Lib.toList_data, Lib.toList_data, Lib.extract_data]
  obtain ⟨⟨l⟩⟩ := t
  show (decide (2 ≤ l.length) && (List.take 2 (List.drop 0 l) == [a, b])) = yll a b (l.drop 0)
  match l with
  | [] => rfl
  | [x] => simp [yll]
  | x :: y :: l => simp [yll]
theorem ygg (t : ByteArray) (a b : UInt8) (h : yjo t { data := #[a, b] } = true) (hs : yfj a b = true) : ygf (yaj t 0) = 2 := by
  rw [preB_two] at h
  match hr : yaj t 0 with
  | [] => simp [hr, yll] at h
  | [x] => simp [hr, yll] at h
  | x :: y :: l =>
    simp [hr, yll] at h
    simp [ygf, h, hs]
theorem sign_no (t : ByteArray) (h : 0 < t.size) (h0 : yjo t { data := #[46, 46] } = false) (h1 : yjo t { data := #[45, 62] } = false) (h2 : yjo t { data := #[58, 61] } = false) (h3 : yjo t { data := #[38, 38] } = false) (h4 : yjo t { data := #[124, 124] } = false) (h5 : yjo t { data := #[61, 61] } = false) (h6 : yjo t { data := #[33, 61] } = false) (h7 : yjo t { data := #[60, 61] } = false) (h8 : yjo t { data := #[62, 61] } = false) : ygf (yaj t 0) = if sign1B t[0] then 1 else 0 := by
  rw [preB_two] at *
  have hb := ybj t 0 h
  match hr : yaj t 0 with
  | [] => rw [hr] at hb; simp at hb
  | [x] => rw [hr] at hb; simp at hb; simp [ygf, hb.1]
  | x :: y :: l =>
    rw [hr] at hb h0 h1 h2 h3 h4 h5 h6 h7 h8
    simp only [List.cons.injEq] at hb
    simp only [yll] at *
    rw [ygf, if_neg (by simp only [yfj, h0, h1, h2, h3, h4, h5, h6, h7, h8]; decide), hb.1]
theorem index_signs : ∀ c : UInt8, decide (0 ≤ Lib.indexByte [59, 58, 44, 40, 41, 46, 63, 60, 62, 43, 45, 42, 47, 37, 33] c) = sign1B c := by
  have h : ∀ n : Fin 256, decide (0 ≤ Lib.indexByte [59, 58, 44, 40, 41, 46, 63, 60, 62, 43, 45, 42, 47, 37, 33] (UInt8.ofNat n.val)) = sign1B (UInt8.ofNat n.val) := by decide +kernel
  intro c
  have := h ⟨c.toNat, c.toNat_lt⟩
  simpa using this

set_option maxHeartbeats 2000000 in
theorem sign_any (t : ByteArray) (w : World) (hs : t.size ≤ 20000) (h0 : 0 < t.size) :
    Calls Tryz.prog 81 #[.string t] w fun e w' => e = .returned (.int .i64 (ygf (yaj t 0))) ∧ Below w.heap.size w w' := by
  go_enter Tryz.func81, Tryz.ntmps81
  go_wp2
  refine wp_loop_rounds 10 ?_
  rw [rounds_succ]
  go_wp2_with (go_at_call 107; refine (ycx _ _ (by omega) _).mono ?_; rintro e w' ⟨rfl, rfl⟩)
  · go_ret
    have hp : yjo t { data := #[46, 46] } = true := by assumption
    exact ⟨ycn (by rw [ygg t 46 46 hp (by decide)]; rfl), (Below.refl _ _).alloc (Nat.le_refl _) _⟩
  rw [rounds_succ]
  go_wp2_with (go_at_call 107; refine (ycx _ _ (by omega) _).mono ?_; rintro e w' ⟨rfl, rfl⟩)
  · go_ret
    have hp : yjo t { data := #[45, 62] } = true := by assumption
    exact ⟨ycn (by rw [ygg t 45 62 hp (by decide)]; rfl), (Below.refl _ _).alloc (Nat.le_refl _) _⟩
  rw [rounds_succ]
  go_wp2_with (go_at_call 107; refine (ycx _ _ (by omega) _).mono ?_; rintro e w' ⟨rfl, rfl⟩)
  · go_ret
    have hp : yjo t { data := #[58, 61] } = true := by assumption
    exact ⟨ycn (by rw [ygg t 58 61 hp (by decide)]; rfl), (Below.refl _ _).alloc (Nat.le_refl _) _⟩
  rw [rounds_succ]
  go_wp2_with (go_at_call 107; refine (ycx _ _ (by omega) _).mono ?_; rintro e w' ⟨rfl, rfl⟩)
  · go_ret
    have hp : yjo t { data := #[38, 38] } = true := by assumption
    exact ⟨ycn (by rw [ygg t 38 38 hp (by decide)]; rfl), (Below.refl _ _).alloc (Nat.le_refl _) _⟩
  rw [rounds_succ]
  go_wp2_with (go_at_call 107; refine (ycx _ _ (by omega) _).mono ?_; rintro e w' ⟨rfl, rfl⟩)
  · go_ret
    have hp : yjo t { data := #[124, 124] } = true := by assumption
    exact ⟨ycn (by rw [ygg t 124 124 hp (by decide)]; rfl), (Below.refl _ _).alloc (Nat.le_refl _) _⟩
  rw [rounds_succ]
  go_wp2_with (go_at_call 107; refine (ycx _ _ (by omega) _).mono ?_; rintro e w' ⟨rfl, rfl⟩)
  · go_ret
    have hp : yjo t { data := #[61, 61] } = true := by assumption
    exact ⟨ycn (by rw [ygg t 61 61 hp (by decide)]; rfl), (Below.refl _ _).alloc (Nat.le_refl _) _⟩
  rw [rounds_succ]
  go_wp2_with (go_at_call 107; refine (ycx _ _ (by omega) _).mono ?_; rintro e w' ⟨rfl, rfl⟩)
  · go_ret
    have hp : yjo t { data := #[33, 61] } = true := by assumption
    exact ⟨ycn (by rw [ygg t 33 61 hp (by decide)]; rfl), (Below.refl _ _).alloc (Nat.le_refl _) _⟩
  rw [rounds_succ]
  go_wp2_with (go_at_call 107; refine (ycx _ _ (by omega) _).mono ?_; rintro e w' ⟨rfl, rfl⟩)
  · go_ret
    have hp : yjo t { data := #[60, 61] } = true := by assumption
    exact ⟨ycn (by rw [ygg t 60 61 hp (by decide)]; rfl), (Below.refl _ _).alloc (Nat.le_refl _) _⟩
  rw [rounds_succ]
  go_wp2_with (go_at_call 107; refine (ycx _ _ (by omega) _).mono ?_; rintro e w' ⟨rfl, rfl⟩)
  · go_ret
    have hp : yjo t { data := #[62, 61] } = true := by assumption
    exact ⟨ycn (by rw [ygg t 62 61 hp (by decide)]; rfl), (Below.refl _ _).alloc (Nat.le_refl _) _⟩
  rw [rounds_succ]
  go_wp2_with (go_at_call 108; refine (indexByte_any _ _ _).mono ?_; rintro e w' ⟨rfl, rfl⟩)
  all_goals
    go_ret
    refine ⟨ycn ?_, (Below.refl _ _).alloc (Nat.le_refl _) _⟩
    rw [sign_no t h0 (by assumption) (by assumption) (by assumption) (by assumption) (by assumption) (by assumption) (by assumption) (by assumption) (by assumption), ← index_signs]
  · rw [if_pos (by simpa using by assumption)]; rfl
  · rw [if_neg (by simpa using by assumption)]; rfl

end Go.Proofs.YtcpgpiabeimefaaGreatDoor
set_option maxRecDepth 100000
namespace Go.Proofs.YtcpgpiabeimefaaGreatDoor
open Go.RowKit

set_option maxHeartbeats 1000000 in
theorem while_word (s : ByteArray) (a : Nat) (pa pt : Addr) (w : World) (hs : s.size ≤ 20000) (ha : a ≤ s.size) (hpa : w.cell? pa = some (.int .i64 a)) (hpt : w.cell? pt = some (.string s)) :
    Calls Tryz.prog 78 #[.func (.func 75) #[] #[], .pointer (some pa), .pointer (some pt)] w fun e w' => e = .returned (.int .i64 (ydx ydu s a)) ∧ w = w' := by
  go_enter Tryz.func78, Tryz.ntmps78
  go_wp2
  go_loop [5] (fun i => ∃ k : Nat, k ≤ s.size ∧ i = .int .i64 k ∧ Hid (ydx ydu s a = ydx ydu s k)) (fun i => s.size - (intOf i).toNat)
  case atStart => exact ⟨a, ha, rfl, rfl⟩
  case round =>
    obtain ⟨k, hk, rfl, hk2⟩ := hrel
    by_cases hlt : k < s.size
    · go_wp2_with (go_at_call 75; refine (inWord_any _ _).mono ?_; rintro e w' ⟨rfl, rfl⟩)
      · exact ⟨⟨k + 1, by omega, by go_num, hk2.out.trans (runTo_yes _ s k hlt (by assumption))⟩, by simp [intOf]; omega⟩
      · go_ret
        rw [hk2.out, runTo_no _ s k hlt (by assumption)]
        exact ⟨rfl, rfl⟩
    · go_wp2
      go_ret
      rw [hk2.out, runTo_end _ _ _ (by omega)]
      exact ⟨rfl, rfl⟩
set_option maxHeartbeats 1000000 in
theorem while_digit (s : ByteArray) (a : Nat) (pa pt : Addr) (w : World) (hs : s.size ≤ 20000) (ha : a ≤ s.size) (hpa : w.cell? pa = some (.int .i64 a)) (hpt : w.cell? pt = some (.string s)) :
    Calls Tryz.prog 78 #[.func (.func 79) #[] #[], .pointer (some pa), .pointer (some pt)] w fun e w' => e = .returned (.int .i64 (ydx ybq s a)) ∧ w = w' := by
  go_enter Tryz.func78, Tryz.ntmps78
  go_wp2
  go_loop [5] (fun i => ∃ k : Nat, k ≤ s.size ∧ i = .int .i64 k ∧ Hid (ydx ybq s a = ydx ybq s k)) (fun i => s.size - (intOf i).toNat)
  case atStart => exact ⟨a, ha, rfl, rfl⟩
  case round =>
    obtain ⟨k, hk, rfl, hk2⟩ := hrel
    by_cases hlt : k < s.size
    · go_wp2_with (go_at_call 79; refine (digit_any _ _).mono ?_; rintro e w' ⟨rfl, rfl⟩)
      · exact ⟨⟨k + 1, by omega, by go_num, hk2.out.trans (runTo_yes _ s k hlt (by assumption))⟩, by simp [intOf]; omega⟩
      · go_ret
        rw [hk2.out, runTo_no _ s k hlt (by assumption)]
        exact ⟨rfl, rfl⟩
    · go_wp2
      go_ret
      rw [hk2.out, runTo_end _ _ _ (by omega)]
      exact ⟨rfl, rfl⟩

def NextRet (s : ByteArray) (a : Nat) (w : World) (e : Ending) (w' : World) : Prop :=
  Below w.heap.size w w' ∧
  ((∃ k n v : Nat, yhv (yaj s a) = .ok (k, n, v) ∧ e = .returned (.tuple #[.agg #[.int .i64 k, .int .i64 a, .int .i64 ((a + n : Nat) : Int), .int .i64 v], .int .i64 0])) ∨
   (∃ x : Nat, yhv (yaj s a) = .error x ∧ 1 ≤ x ∧ x ≤ 5 ∧ e = .returned (.tuple #[.agg #[.int .i64 0, .int .i64 0, .int .i64 0, .int .i64 0], .int .i64 x])))

theorem tok_word_bad (s : ByteArray) (a : Nat) (h : a < s.size) (hl : yce s[a] = true) (h24 : 24 < ydx ydu s a - a) : yhv (yaj s a) = .error 5 := by
  unfold ydx at h24
  rw [ybj s a h] at *
  rw [yhv, if_pos hl, if_pos (by omega)]
theorem tok_word (s : ByteArray) (a : Nat) (h : a < s.size) (hl : yce s[a] = true) (h24 : ¬ 24 < ydx ydu s a - a) : yhv (yaj s a) = .ok (1, ydx ydu s a - a, 0) := by
  unfold ydx at *
  rw [ybj s a h] at *
  rw [yhv, if_pos hl, if_neg (by omega), show a + yjp ydu (s[a] :: yaj s (a + 1)) - a = yjp ydu (s[a] :: yaj s (a + 1)) by omega]
theorem run_eq (p : UInt8 → Bool) (s : ByteArray) (a : Nat) : ydx p s a - a = yjp p (yaj s a) := by unfold ydx; omega
theorem tok_num_bad (s : ByteArray) (a : Nat) (h : a < s.size) (hl : yce s[a] = false) (hd : ybq s[a] = true) (hn : ygr (yaj (s.extract a (ydx ybq s a)) 0) = none) : yhv (yaj s a) = .error 2 := by
  unfold yaj at hn
  rw [List.drop_zero, Lib.extract_data, run_eq] at hn
  rw [show s.data.toList.drop a = yaj s a from rfl] at hn
  rw [ybj s a h] at *
  simp only [yhv]
  rw [if_neg (by simp [hl]), if_pos hd, hn]
theorem tok_num (s : ByteArray) (a v : Nat) (h : a < s.size) (hl : yce s[a] = false) (hd : ybq s[a] = true) (hn : ygr (yaj (s.extract a (ydx ybq s a)) 0) = some v) : yhv (yaj s a) = .ok (2, ydx ybq s a - a, v) := by
  rw [run_eq]
  unfold yaj at hn
  rw [List.drop_zero, Lib.extract_data, run_eq] at hn
  rw [show s.data.toList.drop a = yaj s a from rfl] at hn
  rw [ybj s a h] at *
  simp only [yhv]
  rw [if_neg (by simp [hl]), if_pos hd, hn]
theorem tok_sign_bad (s : ByteArray) (a : Nat) (h : a < s.size) (hl : yce s[a] = false) (hd : ybq s[a] = false) (hn : ygf (yaj s a) = 0) : yhv (yaj s a) = .error 4 := by
  rw [ybj s a h] at *
  rw [yhv, if_neg (by simp [hl]), if_neg (by simp [hd]), if_pos hn]
theorem tok_sign (s : ByteArray) (a : Nat) (h : a < s.size) (hl : yce s[a] = false) (hd : ybq s[a] = false) (hn : ¬ ygf (yaj s a) = 0) : yhv (yaj s a) = .ok (3, ygf (yaj s a), 0) := by
  rw [ybj s a h] at *
  rw [yhv, if_neg (by simp [hl]), if_neg (by simp [hd]), if_neg hn]
theorem digits_of (s : ByteArray) (a : Nat) : ∀ c ∈ yaj (s.extract a (ydx ybq s a)) 0, ybq c = true := by
  unfold yaj
  rw [List.drop_zero, Lib.extract_data, run_eq]
  exact run_all ybq _
theorem size_extract (s : ByteArray) (a b : Nat) (h : b ≤ s.size) : (s.extract a b).size = b - a := by
  rw [ByteArray.size_extract]; omega
theorem bytes_tail (s : ByteArray) (a : Nat) : yaj (s.extract a s.size) 0 = yaj s a := by
  unfold yaj
  rw [List.drop_zero, Lib.extract_data, List.take_of_length_le]
  rw [List.length_drop, ← Lib.size_eq]; exact Nat.le_refl _

theorem below3 (w : World) (o1 o2 o3 : Obj) : Below w.heap.size w (((w.alloc o1).alloc o2).alloc o3) :=
  (((Below.refl _ _).alloc (Nat.le_refl _) _).alloc (by simp) _).alloc (by simp; omega) _

set_option maxHeartbeats 1000000 in
theorem next_any (s : ByteArray) (a : Nat) (w : World) (hs : s.size ≤ 20000) (ha : a < s.size) :
    Calls Tryz.prog 42 #[.string s, .int .i64 a] w (NextRet s a w) := by
  cases hl : yce s[a]
  · cases hd : ybq s[a]
    · have HB := Lib.hid (bytes_tail s a)
      have hz : 0 < (s.extract a s.size).size := by rw [size_extract _ _ _ (Nat.le_refl _)]; omega
      have hz2 : (s.extract a s.size).size ≤ 20000 := by rw [size_extract _ _ _ (Nat.le_refl _)]; omega
      have hsl := signL_le (yaj s a)
      rw [ycg] at hsl
      go_enter Tryz.func42, Tryz.ntmps42
      go_wp2_with (first | (go_at_call 74; refine (letter_any _ _).mono ?_; rintro e w' ⟨rfl, rfl⟩) | (go_at_call 79; refine (digit_any _ _).mono ?_; rintro e w' ⟨rfl, rfl⟩) | (go_at_call 81; refine (sign_any _ _ hz2 hz).mono ?_; rintro e w' ⟨rfl, hbl⟩; rw [HB.out]; obtain ⟨hcl, hfz⟩ := bcell hbl; have hsz := hbl.size; simp at hsz))
      all_goals have hB : Below w.heap.size w w' := (below3 _ _ _ _).trans (hbl.mono (by simp; omega))
      · have h0 : ygf (yaj s a) = 0 := by
          have : ((ygf (yaj s a) : Int) == 0) = true := by assumption
          simp at this; exact this
        refine bodyPost_ret (v := .tuple #[.agg #[.int .i64 0, .int .i64 0, .int .i64 0, .int .i64 0], .int .i64 4]) (by simp [results, Tryz.results42, go_sem, hcl]) rfl ⟨?_, .inr ⟨4, tok_sign_bad s a ha hl hd h0, by omega, by omega, rfl⟩⟩
        repeat (first | exact hB | refine Below.setCell ?_ (by simp; omega) _)
      · have h0 : ¬ ygf (yaj s a) = 0 := by
          have : ((ygf (yaj s a) : Int) == 0) = false := by assumption
          simp at this; exact this
        refine bodyPost_ret (v := .tuple #[.agg #[.int .i64 3, .int .i64 a, .int .i64 ((a + ygf (yaj s a) : Nat) : Int), .int .i64 0], .int .i64 0]) (by simp [results, Tryz.results42, go_sem, hcl]) rfl ⟨?_, .inl ⟨3, _, 0, tok_sign s a ha hl hd h0, rfl⟩⟩
        repeat (first | exact hB | refine Below.setCell ?_ (by simp; omega) _)
    · have hb := runTo_bd ybq s a (by omega)
      have hb1 := hb.1
      have hb2 := hb.2
      clear hb
      have hp := runTo_pos ybq s a ha hd
      have hz : 0 < (s.extract a (ydx ybq s a)).size := by rw [size_extract _ _ _ hb2]; omega
      have hz2 : (s.extract a (ydx ybq s a)).size ≤ 20000 := by rw [size_extract _ _ _ hb2]; omega
      have HD := Lib.hid (digits_of s a)
      go_enter Tryz.func42, Tryz.ntmps42
      go_wp2_with (first | (go_at_call 74; refine (letter_any _ _).mono ?_; rintro e w' ⟨rfl, rfl⟩) | (go_at_call 79; refine (digit_any _ _).mono ?_; rintro e w' ⟨rfl, rfl⟩) | (go_at_call 78; refine (while_digit s a _ _ _ hs (by omega) (by go_simp) (by go_simp)).mono ?_; rintro e w' ⟨rfl, rfl⟩) | (go_at_call 80; refine (number_any _ _ hz2 hz HD).mono ?_; rintro e w' ⟨rfl, ⟨v, hv, rfl⟩ | ⟨v, hv, rfl⟩⟩ <;> have HV := Lib.hid hv <;> clear hv))
      · refine bodyPost_ret (v := .tuple #[.agg #[.int .i64 2, .int .i64 a, .int .i64 (ydx ybq s a), .int .i64 v], .int .i64 0]) (by simp [results, Tryz.results42, go_sem]) rfl ⟨below3 _ _ _ _, .inl ⟨2, _, v, tok_num s a v ha hl hd HV.out, ?_⟩⟩
        rw [show a + (ydx ybq s a - a) = ydx ybq s a by omega]; rfl
      · refine bodyPost_ret (v := .tuple #[.agg #[.int .i64 0, .int .i64 0, .int .i64 0, .int .i64 0], .int .i64 2]) (by simp [results, Tryz.results42, go_sem]) rfl ⟨below3 _ _ _ _, .inr ⟨2, tok_num_bad s a ha hl hd HV.out, by omega, by omega, rfl⟩⟩
  · have hb := runTo_bd ydu s a (by omega)
    have hb1 := hb.1
    have hb2 := hb.2
    clear hb
    go_enter Tryz.func42, Tryz.ntmps42
    go_wp2_with (first | (go_at_call 74; refine (letter_any _ _).mono ?_; rintro e w' ⟨rfl, rfl⟩) | (go_at_call 78; refine (while_word s a _ _ _ hs (by omega) (by go_simp) (by go_simp)).mono ?_; rintro e w' ⟨rfl, rfl⟩))
    · refine bodyPost_ret (v := .tuple #[.agg #[.int .i64 0, .int .i64 0, .int .i64 0, .int .i64 0], .int .i64 5]) (by simp [results, Tryz.results42, go_sem]) rfl ⟨below3 _ _ _ _, .inr ⟨5, tok_word_bad s a ha hl (by omega), by omega, by omega, rfl⟩⟩
    · refine bodyPost_ret (v := .tuple #[.agg #[.int .i64 1, .int .i64 a, .int .i64 (ydx ydu s a), .int .i64 0], .int .i64 0]) (by simp [results, Tryz.results42, go_sem]) rfl ⟨below3 _ _ _ _, .inl ⟨1, _, 0, tok_word s a ha hl (by omega), ?_⟩⟩
      rw [show a + (ydx ydu s a - a) = ydx ydu s a by omega]; rfl
end Go.Proofs.YtcpgpiabeimefaaGreatDoor
