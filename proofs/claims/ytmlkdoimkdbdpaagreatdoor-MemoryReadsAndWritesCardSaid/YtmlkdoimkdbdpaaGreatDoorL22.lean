/- Part 22 of the texts under MemoryReadsAndWrites,MemoryReadsBack: joined, with what it needs alone. -/
import Derived.Test.YtmlkdoimkdbdpaaGreatDoorL21
set_option linter.unusedVariables false
set_option maxRecDepth 100000
set_option maxHeartbeats 8000000
namespace Go.Proofs.YtmlkdoimkdbdpaaGreatDoor
open Go.RowKit
def addV (xs : List Int) : Option (List Int) → Option (List Int)
  | some l => some (xs ++ l)
  | none => none
theorem addV_nil (o : Option (List Int)) : addV [] o = o := by cases o <;> rfl
theorem drop_at {α : Type} {l : List α} {k : Nat} {x : α} (h : l[k]? = some x) : l.drop k = x :: l.drop (k + 1) := by
  rw [List.drop_eq_getElem_cons (List.getElem?_eq_some_iff.1 h).1, (List.getElem?_eq_some_iff.1 h).2]
theorem vals_bad {ks : List Int} {ws : List Bs} {xs : List Int} {x : Nat} {k : Int} {w : Bs} (hk : ks[x]? = some k) (hw : ws[x]? = some w) (h : valsW ks ws = addV xs (valsW (ks.drop x) (ws.drop x))) (hn : ycz k w = none) : valsW ks ws = none := by
  rw [h, drop_at hk, drop_at hw]
  simp [valsW, hn, addV]
theorem vals_next {ks : List Int} {ws : List Bs} {xs : List Int} {x : Nat} {k v : Int} {w : Bs} (hk : ks[x]? = some k) (hw : ws[x]? = some w) (h : valsW ks ws = addV xs (valsW (ks.drop x) (ws.drop x))) (hn : ycz k w = some v) : valsW ks ws = addV (xs ++ [v]) (valsW (ks.drop (x + 1)) (ws.drop (x + 1))) := by
  rw [h, drop_at hk, drop_at hw]
  simp only [valsW, hn]
  cases valsW (ks.drop (x + 1)) (ws.drop (x + 1)) <;> simp [addV]
def stV : Except Int (List Int) → List Int
  | .ok vs => vs
  | .error _ => []
def stE : Except Int (List Int) → Int
  | .ok _ => 0
  | .error e => e
def stA (r : Except Int (List Int)) : AV := .tup [ybk (stV r), i64 (stE r)]
theorem frz_st0 {h : Nat → Option LObj} {r : Except Int (List Int)} {e : Int} (hr : r = .error e) : Frz h (.tup [.v (.slice none 0 0), .v (.int .i64 e)]) (stA r) := by
  subst hr; exact Frz.tup2 Frz.nil Frz.pure
theorem kinds_at {p : ProgD} {x : Nat} {y : VarD} (h : p.vars[x]? = some y) : (yba p)[x]? = some y.kind := by simp [yba, h]
theorem kinds_len (p : ProgD) : (yba p).length = p.vars.length := by simp [yba]
theorem set_fillT {xs : List Int} {n k : Nat} (v : Int) (hk : k < n) (hx : xs.length = k) : ((xs ++ List.replicate (n - k) 0).map i64).set ((k : Int).toNat * 1) (i64 v) = ((xs ++ [v]) ++ List.replicate (n - (k + 1)) 0).map i64 := by
  have e : List.replicate (n - k) (0 : Int) = 0 :: List.replicate (n - (k + 1)) 0 := by rw [← List.replicate_succ]; congr 1; omega
  rw [e]
  simp [← hx]
theorem parseState_con (p : ProgD) (rs : List (Int × Int)) (s : ByteArray) (hp : p.vars.length ≤ 1000) (hl : rs.length = p.vars.length) (hs : s.size ≤ 100000) : Con Tryz.prog 27 [encP p, .sl 2 (rs.map encRg), yfd s] (stA (stateW (yba p) rs (bl s))) := by
  have hsp := splitL_len 32 (bl s)
  rw [ydq] at hsp
  have hmem := fun l => splitL_mem 32 (l := bl s) (p := l)
  rw [ydq] at hmem
  have hkl := kinds_len p
  refine ybs Tryz.func27 rfl rfl Tryz.ntmps27 Tryz.results27 rfl rfl ?_
  (repeat (first | refine zI ?_ | refine zL ?_ | refine zC ?_ | refine yai ?_ | refine yaj ?_ | refine zR ?_ | refine zD ?_ | refine zK ?_ | refine zB ?_ | refine zA ?_ | refine zS ?_ | refine zU ?_ | refine zV ?_ | refine zF ?_ | with_reducible refine yac ?_ | with_reducible refine yag ?_ | refine yad ?_ | refine yae ?_ | refine yaf ?_ | refine zT ?_ | refine zE ?_ | refine zX ?_ | refine yar rfl rfl (split_con s 32 hs) rfl rfl ?_))
  have hst : stateW (yba p) rs (bl s) = if (yaz 32 (bl s)).length ≠ (yba p).length then .error 4 else match valsW (yba p) (yaz 32 (bl s)) with | none => .error 4 | some vs => if yef rs vs = true then .ok vs else .error 2 := rfl
  rw [hst]
  generalize yaz 32 (bl s) = ws at *
  (repeat (first | refine zI ?_ | refine zL ?_ | refine zC ?_ | refine yai ?_ | refine yaj ?_ | refine zR ?_ | refine zD ?_ | refine zK ?_ | refine zB ?_ | refine zA ?_ | refine zS ?_ | refine zU ?_ | refine zV ?_ | refine zF ?_ | with_reducible refine yac ?_ | with_reducible refine yag ?_ | refine yad ?_ | refine yae ?_ | refine yaf ?_ | refine zT ?_ | refine zE ?_ | refine zX ?_))
  refine yaq rfl (fun h1 => ?_) (fun h1 => ?_)
  · have h1 : ws.length ≠ p.vars.length := by intro e; simp [e, hl] at h1
    (repeat (first | refine zI ?_ | refine zL ?_ | refine zC ?_ | refine yai ?_ | refine yaj ?_ | refine zR ?_ | refine zD ?_ | refine zK ?_ | refine zB ?_ | refine zA ?_ | refine zS ?_ | refine zU ?_ | refine zV ?_ | refine zF ?_ | with_reducible refine yac ?_ | with_reducible refine yag ?_ | refine yad ?_ | refine yae ?_ | refine yaf ?_ | refine zT ?_ | refine zE ?_ | refine zX ?_))
    refine yas ?_; refine ⟨_, rfl, ?_⟩
    exact frz_st0 (by rw [if_pos (by omega)])
  have h1 : ws.length = p.vars.length := by simp at h1; omega
  rw [if_neg (by omega)]
  (repeat (first | refine zI ?_ | refine zL ?_ | refine zC ?_ | refine yai ?_ | refine yaj ?_ | refine zR ?_ | refine zD ?_ | refine zK ?_ | refine zB ?_ | refine zA ?_ | refine zS ?_ | refine zU ?_ | refine zV ?_ | refine zF ?_ | with_reducible refine yac ?_ | with_reducible refine yag ?_ | refine yad ?_ | refine yae ?_ | refine yaf ?_ | refine zT ?_ | refine zE ?_ | refine zX ?_ | refine L_make tok rfl rfl rfl rfl (by constructor <;> omega) rfl rfl rfl rfl rfl ?_))
  refine ydp (α := Nat × List Int) (fun q => [(26, i64 q.1), (25, i64 ws.length), (24, encStrs ws), (9, .ls 23 1 ws.length), (1, .sl 2 (rs.map encRg)), (3, .lp 3 0)]) (fun q => [(23, some (.vec ((q.2 ++ List.replicate (ws.length - q.1) 0).map i64))), (3, some (.cells [yfd p.name, .sl 6 (p.vars.map ydi), .sl 3 (p.rules.map ydw)]))]) (fun q => ws.length - q.1) (fun q => q.1 ≤ ws.length ∧ q.2.length = q.1 ∧ valsW (yba p) ws = addV q.2 (valsW ((yba p).drop q.1) (ws.drop q.1))) (0, []) ⟨by simp only; omega, rfl, by simp [addV_nil]⟩ (by (repeat (first | exact yan | refine yak rfl ?_))) ?_ ?_
  · refine yaa ?_ (yaa rfl yab)
    rw [show repA ws.length (vMap [Value.int .i64 0]) = (List.replicate ws.length 0).map i64 from (rep1 _ _).trans (by simp [i64])]
    simp [yap]
  rintro ⟨k, xs⟩ ⟨hk, hxl, hinv⟩
  simp only at hk hxl hinv
  (repeat (first | refine zI ?_ | refine zL ?_ | refine zC ?_ | refine yai ?_ | refine yaj ?_ | refine zR ?_ | refine zD ?_ | refine zK ?_ | refine zB ?_ | refine zA ?_ | refine zS ?_ | refine zU ?_ | refine zV ?_ | refine zF ?_ | with_reducible refine yac ?_ | with_reducible refine yag ?_ | refine yad ?_ | refine yae ?_ | refine yaf ?_ | refine zT ?_ | refine zE ?_ | refine zX ?_))
  refine yaq rfl (fun h2 => ?_) (fun h2 => ?_)
  · simp at h2
    obtain ⟨w, hw⟩ := yeh h2
    obtain ⟨y, hy⟩ := yeh (show k < p.vars.length by omega)
    have hwl := hmem w (List.mem_of_getElem? hw)
    (repeat (first | refine zI ?_ | refine zL ?_ | refine zC ?_ | refine yai ?_ | refine yaj ?_ | refine zR ?_ | refine zD ?_ | refine zK ?_ | refine zB ?_ | refine zA ?_ | refine zS ?_ | refine zU ?_ | refine zV ?_ | refine zF ?_ | with_reducible refine yac ?_ | with_reducible refine yag ?_ | refine yad ?_ | refine yae ?_ | refine yaf ?_ | refine zT ?_ | refine zE ?_ | refine zX ?_ | refine yar rfl rfl (read_con y.kind (ba w) (by rw [yda]; omega)) rfl rfl ?_))
    rw [bl_ba]
    cases hv : ycz y.kind w with
    | none =>
      (repeat (first | refine zI ?_ | refine zL ?_ | refine zC ?_ | refine yai ?_ | refine yaj ?_ | refine zR ?_ | refine zD ?_ | refine zK ?_ | refine zB ?_ | refine zA ?_ | refine zS ?_ | refine zU ?_ | refine zV ?_ | refine zF ?_ | with_reducible refine yac ?_ | with_reducible refine yag ?_ | refine yad ?_ | refine yae ?_ | refine yaf ?_ | refine zT ?_ | refine zE ?_ | refine zX ?_))
      refine yas ?_; refine ⟨_, rfl, ?_⟩
      exact frz_st0 (by rw [vals_bad (kinds_at hy) hw hinv hv])
    | some v =>
      (repeat (first | refine zI ?_ | refine zL ?_ | refine zC ?_ | refine yai ?_ | refine yaj ?_ | refine zR ?_ | refine zD ?_ | refine zK ?_ | refine zB ?_ | refine zA ?_ | refine zS ?_ | refine zU ?_ | refine zV ?_ | refine zF ?_ | with_reducible refine yac ?_ | with_reducible refine yag ?_ | refine yad ?_ | refine yae ?_ | refine yaf ?_ | refine zT ?_ | refine zE ?_ | refine zX ?_))
      refine ybb tok rfl rfl rfl rfl (by omega) (by omega) rfl rfl ?_
      refine ybu tok rfl rfl rfl rfl rfl rfl (by simp; omega) rfl rfl rfl ?_
      (repeat (first | refine zI ?_ | refine zL ?_ | refine zC ?_ | refine yai ?_ | refine yaj ?_ | refine zR ?_ | refine zD ?_ | refine zK ?_ | refine zB ?_ | refine zA ?_ | refine zS ?_ | refine zU ?_ | refine zV ?_ | refine zF ?_ | with_reducible refine yac ?_ | with_reducible refine yag ?_ | refine yad ?_ | refine yae ?_ | refine yaf ?_ | refine zT ?_ | refine zE ?_ | refine zX ?_))
      refine rnd (k + 1, xs ++ [v]) ⟨by simp only; omega, by simp; omega, vals_next (kinds_at hy) hw hinv hv⟩ (by simp only; omega) (by (repeat (first | exact yan | refine yak rfl ?_))) ?_
      refine yaa ?_ (yaa rfl yab)
      exact congrArg (fun x => some (LObj.vec x)) (set_fillT v h2 hxl)
  · simp at h2
    obtain rfl : k = ws.length := by omega
    rw [List.drop_length, List.drop_eq_nil_of_le (by omega)] at hinv
    simp only [valsW, addV, List.append_nil] at hinv
    rw [hinv]
    simp only
    repeat (first | refine yae ?_ | refine yaf ?_)
    refine A_freeze 9 (xs.map fun z => [i64 z]) rfl rfl (by simp [hxl]) (fun row hr => by obtain ⟨a, _, rfl⟩ := List.mem_map.1 hr; rfl) (by rw [ints_flatM]; simp) rfl rfl ?_
    (repeat (first | refine zI ?_ | refine zL ?_ | refine zC ?_ | refine yai ?_ | refine yaj ?_ | refine zR ?_ | refine zD ?_ | refine zK ?_ | refine zB ?_ | refine zA ?_ | refine zS ?_ | refine zU ?_ | refine zV ?_ | refine zF ?_ | with_reducible refine yac ?_ | with_reducible refine yag ?_ | refine yad ?_ | refine yae ?_ | refine yaf ?_ | refine zT ?_ | refine zE ?_ | refine zX ?_ | refine yar rfl rfl (state_con rs xs (by omega)) rfl rfl ?_))
    refine yaq rfl (fun h3 => ?_) (fun h3 => ?_)
    · simp at h3
      (repeat (first | refine zI ?_ | refine zL ?_ | refine zC ?_ | refine yai ?_ | refine yaj ?_ | refine zR ?_ | refine zD ?_ | refine zK ?_ | refine zB ?_ | refine zA ?_ | refine zS ?_ | refine zU ?_ | refine zV ?_ | refine zF ?_ | with_reducible refine yac ?_ | with_reducible refine yag ?_ | refine yad ?_ | refine yae ?_ | refine yaf ?_ | refine zT ?_ | refine zE ?_ | refine zX ?_))
      refine yas ?_; refine ⟨_, rfl, ?_⟩
      exact frz_st0 (by rw [if_neg (by simp [h3])])
    · simp at h3
      (repeat (first | refine zI ?_ | refine zL ?_ | refine zC ?_ | refine yai ?_ | refine yaj ?_ | refine zR ?_ | refine zD ?_ | refine zK ?_ | refine zB ?_ | refine zA ?_ | refine zS ?_ | refine zU ?_ | refine zV ?_ | refine zF ?_ | with_reducible refine yac ?_ | with_reducible refine yag ?_ | refine yad ?_ | refine yae ?_ | refine yaf ?_ | refine zT ?_ | refine zE ?_ | refine zX ?_))
      refine yas ?_; refine ⟨_, rfl, ?_⟩
      rw [if_pos h3]
      exact Frz.pure
theorem st_range {rs : List (Int × Int)} {xs : List Int} {k : Nat} {b : Int × Int} {z : Int} (hl : xs.length = rs.length) (hb : rs[k]? = some b) (hz : xs[k]? = some z) (h : inRg b z = false) : yef rs xs = false := by
  rw [yef, allM_bad (zip_get hb hz) h, Bool.and_false]
theorem rstate_con (p : ProgD) (g : GraphD) (hf : Fair p g) (h0 : ydl p g = 0) (v : Nat) (rs : List (Int × Int)) (hrs : (ybc p g)[v]? = some rs) (s : ByteArray) (hs : s.size ≤ 100000) : Con Tryz.prog 30 [encP p, encG g, i64 v, yfd s] (stA (stateW (yba p) rs (bl s))) := by
  have hsp := splitL_len 32 (bl s)
  rw [ydq] at hsp
  have hmem := fun l => splitL_mem 32 (l := bl s) (p := l)
  rw [ydq] at hmem
  have hkl := kinds_len p
  have hvl := hf.vlen
  have hrl := table_row hrs
  have hgl := hf.glen
  have hvb : v < g.ports.length := by have := (List.getElem?_eq_some_iff.1 hrs).1; simp [ybc] at this; omega
  refine ybs Tryz.func30 rfl rfl Tryz.ntmps30 Tryz.results30 rfl rfl ?_
  (repeat (first | refine zI ?_ | refine zL ?_ | refine zC ?_ | refine yai ?_ | refine yaj ?_ | refine zR ?_ | refine zD ?_ | refine zK ?_ | refine zB ?_ | refine zA ?_ | refine zS ?_ | refine zU ?_ | refine zV ?_ | refine zF ?_ | with_reducible refine yac ?_ | with_reducible refine yag ?_ | refine yad ?_ | refine yae ?_ | refine yaf ?_ | refine zT ?_ | refine zE ?_ | refine zX ?_ | refine yar rfl rfl (rsplit_con s 32 hs) rfl rfl ?_))
  have hst : stateW (yba p) rs (bl s) = if (yaz 32 (bl s)).length ≠ (yba p).length then .error 4 else match valsW (yba p) (yaz 32 (bl s)) with | none => .error 4 | some vs => if yef rs vs = true then .ok vs else .error 2 := rfl
  rw [hst]
  generalize yaz 32 (bl s) = ws at *
  (repeat (first | refine zI ?_ | refine zL ?_ | refine zC ?_ | refine yai ?_ | refine yaj ?_ | refine zR ?_ | refine zD ?_ | refine zK ?_ | refine zB ?_ | refine zA ?_ | refine zS ?_ | refine zU ?_ | refine zV ?_ | refine zF ?_ | with_reducible refine yac ?_ | with_reducible refine yag ?_ | refine yad ?_ | refine yae ?_ | refine yaf ?_ | refine zT ?_ | refine zE ?_ | refine zX ?_))
  refine yaq rfl (fun h1 => ?_) (fun h1 => ?_)
  · have h1 : ws.length ≠ p.vars.length := by intro e; simp [e] at h1
    (repeat (first | refine zI ?_ | refine zL ?_ | refine zC ?_ | refine yai ?_ | refine yaj ?_ | refine zR ?_ | refine zD ?_ | refine zK ?_ | refine zB ?_ | refine zA ?_ | refine zS ?_ | refine zU ?_ | refine zV ?_ | refine zF ?_ | with_reducible refine yac ?_ | with_reducible refine yag ?_ | refine yad ?_ | refine yae ?_ | refine yaf ?_ | refine zT ?_ | refine zE ?_ | refine zX ?_))
    refine yas ?_; refine ⟨_, rfl, ?_⟩
    exact frz_st0 (by rw [if_pos (by omega)])
  have h1 : ws.length = p.vars.length := by simp at h1; omega
  rw [if_neg (by omega)]
  (repeat (first | refine zI ?_ | refine zL ?_ | refine zC ?_ | refine yai ?_ | refine yaj ?_ | refine zR ?_ | refine zD ?_ | refine zK ?_ | refine zB ?_ | refine zA ?_ | refine zS ?_ | refine zU ?_ | refine zV ?_ | refine zF ?_ | with_reducible refine yac ?_ | with_reducible refine yag ?_ | refine yad ?_ | refine yae ?_ | refine yaf ?_ | refine zT ?_ | refine zE ?_ | refine zX ?_))
  refine A_own 11 100 1 rfl rfl rfl ?_
  refine ydp (α := Nat × List Int) (fun q => [(12, i64 q.1), (11, .ls 100 1 q.2.length), (10, encStrs ws), (2, i64 v), (4, .lp 4 0), (5, .lp 5 0)]) (fun q => [(100, some (.vec (q.2.map i64))), (4, some (.cells [yfd p.name, .sl 6 (p.vars.map ydi), .sl 3 (p.rules.map ydw)])), (5, some (.cells [ybk g.ids, ybz g.ports]))]) (fun q => ws.length - q.1) (fun q => q.1 ≤ ws.length ∧ q.2.length = q.1 ∧ valsW (yba p) ws = addV q.2 (valsW ((yba p).drop q.1) (ws.drop q.1))) (0, []) ⟨by simp only; omega, rfl, by simp [addV_nil]⟩ (by (repeat (first | exact yan | refine yak rfl ?_))) (by first | exact yab | exact yaa rfl yab | exact yaa rfl (yaa rfl yab) | exact yaa rfl (yaa rfl (yaa rfl yab)) | exact yaa rfl (yaa rfl (yaa rfl (yaa rfl yab)))) ?_
  rintro ⟨k, xs⟩ ⟨hk, hxl, hinv⟩
  simp only at hk hxl hinv
  (repeat (first | refine zI ?_ | refine zL ?_ | refine zC ?_ | refine yai ?_ | refine yaj ?_ | refine zR ?_ | refine zD ?_ | refine zK ?_ | refine zB ?_ | refine zA ?_ | refine zS ?_ | refine zU ?_ | refine zV ?_ | refine zF ?_ | with_reducible refine yac ?_ | with_reducible refine yag ?_ | refine yad ?_ | refine yae ?_ | refine yaf ?_ | refine zT ?_ | refine zE ?_ | refine zX ?_))
  refine yaq rfl (fun h2 => ?_) (fun h2 => ?_)
  · simp at h2
    obtain ⟨w, hw⟩ := yeh h2
    obtain ⟨y, hy⟩ := yeh (show k < p.vars.length by omega)
    have hwl := hmem w (List.mem_of_getElem? hw)
    (repeat (first | refine zI ?_ | refine zL ?_ | refine zC ?_ | refine yai ?_ | refine yaj ?_ | refine zR ?_ | refine zD ?_ | refine zK ?_ | refine zB ?_ | refine zA ?_ | refine zS ?_ | refine zU ?_ | refine zV ?_ | refine zF ?_ | with_reducible refine yac ?_ | with_reducible refine yag ?_ | refine yad ?_ | refine yae ?_ | refine yaf ?_ | refine zT ?_ | refine zE ?_ | refine zX ?_ | refine yar rfl rfl (value_con y.kind (ba w) (by rw [yda]; omega)) rfl rfl ?_))
    rw [bl_ba]
    cases hv : ycz y.kind w with
    | none =>
      (repeat (first | refine zI ?_ | refine zL ?_ | refine zC ?_ | refine yai ?_ | refine yaj ?_ | refine zR ?_ | refine zD ?_ | refine zK ?_ | refine zB ?_ | refine zA ?_ | refine zS ?_ | refine zU ?_ | refine zV ?_ | refine zF ?_ | with_reducible refine yac ?_ | with_reducible refine yag ?_ | refine yad ?_ | refine yae ?_ | refine yaf ?_ | refine zT ?_ | refine zE ?_ | refine zX ?_))
      refine yas ?_; refine ⟨_, rfl, ?_⟩
      exact frz_st0 (by rw [vals_bad (kinds_at hy) hw hinv hv])
    | some z =>
      (repeat (first | refine zI ?_ | refine zL ?_ | refine zC ?_ | refine yai ?_ | refine yaj ?_ | refine zR ?_ | refine zD ?_ | refine zK ?_ | refine zB ?_ | refine zA ?_ | refine zS ?_ | refine zU ?_ | refine zV ?_ | refine zF ?_ | with_reducible refine yac ?_ | with_reducible refine yag ?_ | refine yad ?_ | refine yae ?_ | refine yaf ?_ | refine zT ?_ | refine zE ?_ | refine zX ?_))
      refine L_append tok rfl rfl rfl (by simp) rfl (by simp [ybl]) (by simp; omega) rfl rfl rfl rfl rfl ?_
      (repeat (first | refine zI ?_ | refine zL ?_ | refine zC ?_ | refine yai ?_ | refine yaj ?_ | refine zR ?_ | refine zD ?_ | refine zK ?_ | refine zB ?_ | refine zA ?_ | refine zS ?_ | refine zU ?_ | refine zV ?_ | refine zF ?_ | with_reducible refine yac ?_ | with_reducible refine yag ?_ | refine yad ?_ | refine yae ?_ | refine yaf ?_ | refine zT ?_ | refine zE ?_ | refine zX ?_))
      refine rnd (k + 1, xs ++ [z]) ⟨by simp only; omega, by simp; omega, vals_next (kinds_at hy) hw hinv hv⟩ (by simp only; omega) ?_ ?_
      · exact yak rfl (yak (some_av rfl (ls_eq (by simp))) (by (repeat (first | exact yan | refine yak rfl ?_))))
      · refine yaa ?_ (yaa rfl (yaa rfl yab))
        simp [yap, i64]
  · simp at h2
    obtain rfl : k = ws.length := by omega
    rw [List.drop_length, List.drop_eq_nil_of_le (by omega)] at hinv
    simp only [valsW, addV, List.append_nil] at hinv
    rw [hinv]
    simp only
    repeat (first | refine yae ?_ | refine yaf ?_)
    refine A_freeze 11 (xs.map fun z => [i64 z]) rfl rfl (by simp) (fun row hr => by obtain ⟨a, _, rfl⟩ := List.mem_map.1 hr; rfl) (by rw [ints_flatM]) rfl rfl ?_
    (repeat (first | refine zI ?_ | refine zL ?_ | refine zC ?_ | refine yai ?_ | refine yaj ?_ | refine zR ?_ | refine zD ?_ | refine zK ?_ | refine zB ?_ | refine zA ?_ | refine zS ?_ | refine zU ?_ | refine zV ?_ | refine zF ?_ | with_reducible refine yac ?_ | with_reducible refine yag ?_ | refine yad ?_ | refine yae ?_ | refine yaf ?_ | refine zT ?_ | refine zE ?_ | refine zX ?_))
    refine ydp (α := Nat) (fun j => [(15, i64 j), (11, ybk xs), (2, i64 v), (4, .lp 4 0), (5, .lp 5 0)]) (fun j => [(4, some (.cells [yfd p.name, .sl 6 (p.vars.map ydi), .sl 3 (p.rules.map ydw)])), (5, some (.cells [ybk g.ids, ybz g.ports]))]) (fun j => xs.length - j) (fun j => j ≤ xs.length ∧ ((rs.zip xs).take j).all (fun x => inRg x.1 x.2) = true) 0 ⟨by omega, rfl⟩ (by (repeat (first | exact yan | refine yak rfl ?_))) (by first | exact yab | exact yaa rfl yab | exact yaa rfl (yaa rfl yab) | exact yaa rfl (yaa rfl (yaa rfl yab)) | exact yaa rfl (yaa rfl (yaa rfl (yaa rfl yab)))) ?_
    intro j ⟨hj, hjk⟩
    (repeat (first | refine zI ?_ | refine zL ?_ | refine zC ?_ | refine yai ?_ | refine yaj ?_ | refine zR ?_ | refine zD ?_ | refine zK ?_ | refine zB ?_ | refine zA ?_ | refine zS ?_ | refine zU ?_ | refine zV ?_ | refine zF ?_ | with_reducible refine yac ?_ | with_reducible refine yag ?_ | refine yad ?_ | refine yae ?_ | refine yaf ?_ | refine zT ?_ | refine zE ?_ | refine zX ?_))
    refine yaq rfl (fun h4 => ?_) (fun h4 => ?_)
    · simp at h4
      obtain ⟨z, hz⟩ := yeh h4
      obtain ⟨b, hb⟩ := yeh (show j < rs.length by omega)
      (repeat (first | refine zI ?_ | refine zL ?_ | refine zC ?_ | refine yai ?_ | refine yaj ?_ | refine zR ?_ | refine zD ?_ | refine zK ?_ | refine zB ?_ | refine zA ?_ | refine zS ?_ | refine zU ?_ | refine zV ?_ | refine zF ?_ | with_reducible refine yac ?_ | with_reducible refine yag ?_ | refine yad ?_ | refine yae ?_ | refine yaf ?_ | refine zT ?_ | refine zE ?_ | refine zX ?_ | refine yar rfl rfl (tends_con p g hf h0 v j rs b hrs hb) rfl rfl ?_ | refine yar rfl rfl (in_con _ _ _) rfl rfl ?_))
      refine yaq rfl (fun h5 => ?_) (fun h5 => ?_)
      · have e : inRg b z = false := by simp [inB] at h5; simp [inRg]; omega
        (repeat (first | refine zI ?_ | refine zL ?_ | refine zC ?_ | refine yai ?_ | refine yaj ?_ | refine zR ?_ | refine zD ?_ | refine zK ?_ | refine zB ?_ | refine zA ?_ | refine zS ?_ | refine zU ?_ | refine zV ?_ | refine zF ?_ | with_reducible refine yac ?_ | with_reducible refine yag ?_ | refine yad ?_ | refine yae ?_ | refine yaf ?_ | refine zT ?_ | refine zE ?_ | refine zX ?_))
        refine yas ?_; refine ⟨_, rfl, ?_⟩
        exact frz_st0 (by rw [if_neg (by rw [st_range (by omega) hb hz e]; simp)])
      · have e : inRg b z = true := by simp [inB] at h5; simp [inRg]; omega
        (repeat (first | refine zI ?_ | refine zL ?_ | refine zC ?_ | refine yai ?_ | refine yaj ?_ | refine zR ?_ | refine zD ?_ | refine zK ?_ | refine zB ?_ | refine zA ?_ | refine zS ?_ | refine zU ?_ | refine zV ?_ | refine zF ?_ | with_reducible refine yac ?_ | with_reducible refine yag ?_ | refine yad ?_ | refine yae ?_ | refine yaf ?_ | refine zT ?_ | refine zE ?_ | refine zX ?_))
        exact rnd (j + 1) ⟨by omega, allM_snoc (zip_get hb hz) hjk e⟩ (by omega) (by (repeat (first | exact yan | refine yak rfl ?_))) (by first | exact yab | exact yaa rfl yab | exact yaa rfl (yaa rfl yab) | exact yaa rfl (yaa rfl (yaa rfl yab)) | exact yaa rfl (yaa rfl (yaa rfl (yaa rfl yab))))
    · simp at h4
      obtain rfl : j = xs.length := by omega
      rw [List.take_of_length_le (by simp; omega)] at hjk
      (repeat (first | refine zI ?_ | refine zL ?_ | refine zC ?_ | refine yai ?_ | refine yaj ?_ | refine zR ?_ | refine zD ?_ | refine zK ?_ | refine zB ?_ | refine zA ?_ | refine zS ?_ | refine zU ?_ | refine zV ?_ | refine zF ?_ | with_reducible refine yac ?_ | with_reducible refine yag ?_ | refine yad ?_ | refine yae ?_ | refine yaf ?_ | refine zT ?_ | refine zE ?_ | refine zX ?_))
      refine yas ?_; refine ⟨_, rfl, ?_⟩
      rw [if_pos (by simp [yef, hjk]; omega)]
      exact Frz.pure
end Go.Proofs.YtmlkdoimkdbdpaaGreatDoor
set_option linter.unusedVariables false
set_option maxRecDepth 100000
set_option maxHeartbeats 8000000
namespace Go.Proofs.YtmlkdoimkdbdpaaGreatDoor
open Go.RowKit
def addC (c : List (List Int)) : Except (Nat × Int) (List (List Int)) → Except (Nat × Int) (List (List Int))
  | .ok d => .ok (c ++ d)
  | .error e => .error e
theorem addC_nil (o : Except (Nat × Int) (List (List Int))) : addC [] o = o := by cases o <;> rfl
def ReadC (ks : List Int) (t : List (List (Int × Int))) (ls : List Bs) (k : Nat) (c : List (List Int)) : Prop := k ≤ t.length ∧ k ≤ ls.length ∧ c.length = k ∧ ydf ks t ls 0 = addC c (ydf ks (t.drop k) (ls.drop k) k)
theorem readC_start (ks : List Int) (t : List (List (Int × Int))) (ls : List Bs) : ReadC ks t ls 0 [] := ⟨by omega, by omega, rfl, by simp [addC_nil]⟩
theorem readC_over {ks : List Int} {t : List (List (Int × Int))} {ls : List Bs} {k : Nat} {c : List (List Int)} (h : ReadC ks t ls k c) (hk : k = t.length) (hl : k < ls.length) : ydf ks t ls 0 = .error (k + 1, 4) := by
  obtain ⟨l, hl⟩ := yeh hl
  rw [h.2.2.2, drop_at hl, List.drop_eq_nil_of_le (by omega)]; rfl
theorem readC_short {ks : List Int} {t : List (List (Int × Int))} {ls : List Bs} {k : Nat} {c : List (List Int)} (h : ReadC ks t ls k c) (hk : k < t.length) (hl : k = ls.length) : ydf ks t ls 0 = .error (k + 1, 4) := by
  obtain ⟨r, hr⟩ := yeh hk
  rw [h.2.2.2, drop_at hr, show ls.drop k = [] from List.drop_eq_nil_of_le (by omega)]; rfl
theorem readC_end {ks : List Int} {t : List (List (Int × Int))} {ls : List Bs} {k : Nat} {c : List (List Int)} (h : ReadC ks t ls k c) (hk : k = t.length) (hl : k = ls.length) : ydf ks t ls 0 = .ok c := by
  rw [h.2.2.2, List.drop_eq_nil_of_le (by omega), List.drop_eq_nil_of_le (by omega)]
  simp [ydf, addC]
theorem readC_bad {ks : List Int} {t : List (List (Int × Int))} {ls : List Bs} {k : Nat} {c : List (List Int)} {r : List (Int × Int)} {l : Bs} {e : Int} (h : ReadC ks t ls k c) (hr : t[k]? = some r) (hl : ls[k]? = some l) (hs : stateW ks r l = .error e) : ydf ks t ls 0 = .error (k + 1, e) := by
  rw [h.2.2.2, drop_at hr, drop_at hl]
  simp [ydf, hs, addC]
theorem readC_next {ks : List Int} {t : List (List (Int × Int))} {ls : List Bs} {k : Nat} {c : List (List Int)} {r : List (Int × Int)} {l : Bs} {s : List Int} (h : ReadC ks t ls k c) (hr : t[k]? = some r) (hl : ls[k]? = some l) (hs : stateW ks r l = .ok s) : ReadC ks t ls (k + 1) (c ++ [s]) := by
  obtain ⟨h1, h2, h3, h4⟩ := h
  refine ⟨(List.getElem?_eq_some_iff.1 hr).1, (List.getElem?_eq_some_iff.1 hl).1, by simp; omega, ?_⟩
  rw [h4, drop_at hr, drop_at hl]
  simp only [ydf, hs]
  cases ydf ks (t.drop (k + 1)) (ls.drop (k + 1)) (k + 1) <;> simp [addC]
def parseCA (r : List (List Int) × Int × Int) : AV := .tup [encC r.1, i64 r.2.1, i64 r.2.2]
theorem frz_pc0 {h : Nat → Option LObj} {r : List (List Int) × Int × Int} {a b : Int} (hr : r = ([], a, b)) : Frz h (.tup [.v (.slice none 0 0), .v (.int .i64 a), .v (.int .i64 b)]) (parseCA r) := by
  subst hr; exact Frz.tup3 Frz.nil Frz.pure Frz.pure
theorem encC_flat (c : List (List Int)) : (c.map fun z => [ybk z]).flatten = c.map ybk := flat1 _ _
theorem parseT_err {p : ProgD} {g : GraphD} {t : Bs} {k : Nat} {e : Int} (h0 : ydl p g = 0) (h1 : ¬ 16384 < t.length) (h : ydf (yba p) (ybc p g) (yex t) 0 = .error (k + 1, e)) : parseT p g t = ([], (k : Int) + 1, e) := by
  rw [parseT, if_pos h0, if_neg h1, h]; simp
theorem parseT_ok {p : ProgD} {g : GraphD} {t : Bs} {c : List (List Int)} (h0 : ydl p g = 0) (h1 : ¬ 16384 < t.length) (h : ydf (yba p) (ybc p g) (yex t) 0 = .ok c) : parseT p g t = (c, 0, 0) := by
  rw [parseT, if_pos h0, if_neg h1, h]
theorem stateW_len {ks : List Int} {r : List (Int × Int)} {l : Bs} {s : List Int} (h : stateW ks r l = .ok s) : s.length ≤ r.length := by
  unfold stateW at h
  split at h
  · cases h
  · split at h
    · cases h
    · split at h
      · rename_i e
        cases h
        exact Nat.le_of_eq (state_get e).1
      · cases h
theorem stateW_err {ks : List Int} {r : List (Int × Int)} {l : Bs} {e : Int} (h : stateW ks r l = .error e) : e = 4 ∨ e = 2 := by
  unfold stateW at h
  split at h
  · cases h; exact .inl rfl
  · split at h
    · cases h; exact .inl rfl
    · split at h
      · cases h
      · cases h; exact .inr rfl
theorem mparse_con (p : ProgD) (g : GraphD) (hf : Fair p g) (s : ByteArray) (hs : s.size ≤ 100000) : Con Tryz.prog 9 [encP p, encG g, yfd s] (parseCA (parseT p g (bl s))) := by
  refine ybs Tryz.func9 rfl rfl Tryz.ntmps9 Tryz.results9 rfl rfl ?_
  (repeat (first | refine zI ?_ | refine zL ?_ | refine zC ?_ | refine yai ?_ | refine yaj ?_ | refine zR ?_ | refine zD ?_ | refine zK ?_ | refine zB ?_ | refine zA ?_ | refine zS ?_ | refine zU ?_ | refine zV ?_ | refine zF ?_ | with_reducible refine yac ?_ | with_reducible refine yag ?_ | refine yad ?_ | refine yae ?_ | refine yaf ?_ | refine zT ?_ | refine zE ?_ | refine zX ?_ | refine yar rfl rfl (fits_con p g hf) rfl rfl ?_))
  refine yaq rfl (fun h => ?_) (fun h => ?_)
  · (repeat (first | refine zI ?_ | refine zL ?_ | refine zC ?_ | refine yai ?_ | refine yaj ?_ | refine zR ?_ | refine zD ?_ | refine zK ?_ | refine zB ?_ | refine zA ?_ | refine zS ?_ | refine zU ?_ | refine zV ?_ | refine zF ?_ | with_reducible refine yac ?_ | with_reducible refine yag ?_ | refine yad ?_ | refine yae ?_ | refine yaf ?_ | refine zT ?_ | refine zE ?_ | refine zX ?_))
    refine yas ?_; refine ⟨_, rfl, ?_⟩
    have : ydl p g ≠ 0 := by simpa using h
    exact frz_pc0 (by rw [parseT, if_neg this])
  have h0 : ydl p g = 0 := by simpa using h
  (repeat (first | refine zI ?_ | refine zL ?_ | refine zC ?_ | refine yai ?_ | refine yaj ?_ | refine zR ?_ | refine zD ?_ | refine zK ?_ | refine zB ?_ | refine zA ?_ | refine zS ?_ | refine zU ?_ | refine zV ?_ | refine zF ?_ | with_reducible refine yac ?_ | with_reducible refine yag ?_ | refine yad ?_ | refine yae ?_ | refine yaf ?_ | refine zT ?_ | refine zE ?_ | refine zX ?_))
  refine yaq rfl (fun h1 => ?_) (fun h1 => ?_)
  · simp at h1
    (repeat (first | refine zI ?_ | refine zL ?_ | refine zC ?_ | refine yai ?_ | refine yaj ?_ | refine zR ?_ | refine zD ?_ | refine zK ?_ | refine zB ?_ | refine zA ?_ | refine zS ?_ | refine zU ?_ | refine zV ?_ | refine zF ?_ | with_reducible refine yac ?_ | with_reducible refine yag ?_ | refine yad ?_ | refine yae ?_ | refine yaf ?_ | refine zT ?_ | refine zE ?_ | refine zX ?_))
    refine yas ?_; refine ⟨_, rfl, ?_⟩
    exact frz_pc0 (by rw [parseT, if_pos h0, if_pos (by rw [ydq]; omega)])
  have hlim : ¬ 16384 < (bl s).length := by simp at h1; rw [ydq]; omega
  have hll := linesF_len (bl s)
  have hml := fun l => linesF_mem (t := bl s) (l := l)
  have htl := (cfg_of_fair hf).1
  have hvl := hf.vlen
  have hE := fun k e => parseT_err (k := k) (e := e) h0 hlim
  have hO := fun c => parseT_ok (c := c) h0 hlim
  rw [ydq] at hll hml
  (repeat (first | refine zI ?_ | refine zL ?_ | refine zC ?_ | refine yai ?_ | refine yaj ?_ | refine zR ?_ | refine zD ?_ | refine zK ?_ | refine zB ?_ | refine zA ?_ | refine zS ?_ | refine zU ?_ | refine zV ?_ | refine zF ?_ | with_reducible refine yac ?_ | with_reducible refine yag ?_ | refine yad ?_ | refine yae ?_ | refine yaf ?_ | refine zT ?_ | refine zE ?_ | refine zX ?_ | refine yar rfl rfl (table_con p g hf h0) rfl rfl ?_ | refine yar rfl rfl (lsplit_con s hs) rfl rfl ?_))
  refine A_own 11 100 1 rfl rfl rfl ?_
  generalize yex (bl s) = ls at *
  refine ydp (α := Nat × List (List Int)) (fun q => [(31, i64 q.1), (30, i64 ls.length), (29, encStrs ls), (11, .ls 100 1 q.2.length), (10, yfj (ybc p g)), (3, .lp 3 0)]) (fun q => [(100, some (.vec (q.2.map ybk))), (3, some (.cells [yfd p.name, .sl 6 (p.vars.map ydi), .sl 3 (p.rules.map ydw)]))]) (fun q => ls.length - q.1) (fun q => ReadC (yba p) (ybc p g) ls q.1 q.2) (0, []) (readC_start _ _ _) (by (repeat (first | exact yan | refine yak rfl ?_))) (by first | exact yab | exact yaa rfl yab | exact yaa rfl (yaa rfl yab) | exact yaa rfl (yaa rfl (yaa rfl yab)) | exact yaa rfl (yaa rfl (yaa rfl (yaa rfl yab)))) ?_
  rintro ⟨k, c⟩ hq
  obtain ⟨hk1, hk2, hcl, _⟩ := id hq
  simp only at hk1 hk2 hcl hq
  (repeat (first | refine zI ?_ | refine zL ?_ | refine zC ?_ | refine yai ?_ | refine yaj ?_ | refine zR ?_ | refine zD ?_ | refine zK ?_ | refine zB ?_ | refine zA ?_ | refine zS ?_ | refine zU ?_ | refine zV ?_ | refine zF ?_ | with_reducible refine yac ?_ | with_reducible refine yag ?_ | refine yad ?_ | refine yae ?_ | refine yaf ?_ | refine zT ?_ | refine zE ?_ | refine zX ?_))
  refine yaq rfl (fun h2 => ?_) (fun h2 => ?_)
  · simp at h2
    obtain ⟨l, hl⟩ := yeh h2
    have hlm := hml l (List.mem_of_getElem? hl)
    (repeat (first | refine zI ?_ | refine zL ?_ | refine zC ?_ | refine yai ?_ | refine yaj ?_ | refine zR ?_ | refine zD ?_ | refine zK ?_ | refine zB ?_ | refine zA ?_ | refine zS ?_ | refine zU ?_ | refine zV ?_ | refine zF ?_ | with_reducible refine yac ?_ | with_reducible refine yag ?_ | refine yad ?_ | refine yae ?_ | refine yaf ?_ | refine zT ?_ | refine zE ?_ | refine zX ?_))
    refine yaq rfl (fun h3 => ?_) (fun h3 => ?_)
    · simp at h3
      (repeat (first | refine zI ?_ | refine zL ?_ | refine zC ?_ | refine yai ?_ | refine yaj ?_ | refine zR ?_ | refine zD ?_ | refine zK ?_ | refine zB ?_ | refine zA ?_ | refine zS ?_ | refine zU ?_ | refine zV ?_ | refine zF ?_ | with_reducible refine yac ?_ | with_reducible refine yag ?_ | refine yad ?_ | refine yae ?_ | refine yaf ?_ | refine zT ?_ | refine zE ?_ | refine zX ?_))
      refine yas ?_; refine ⟨_, rfl, ?_⟩
      exact frz_pc0 (hE _ _ (readC_over hq (by omega) h2))
    have h3 : k ≠ (ybc p g).length := by intro e; simp [e] at h3
    obtain ⟨r, hr⟩ := yeh (show k < (ybc p g).length by omega)
    have hrl := table_row hr
    (repeat (first | refine zI ?_ | refine zL ?_ | refine zC ?_ | refine yai ?_ | refine yaj ?_ | refine zR ?_ | refine zD ?_ | refine zK ?_ | refine zB ?_ | refine zA ?_ | refine zS ?_ | refine zU ?_ | refine zV ?_ | refine zF ?_ | with_reducible refine yac ?_ | with_reducible refine yag ?_ | refine yad ?_ | refine yae ?_ | refine yaf ?_ | refine zT ?_ | refine zE ?_ | refine zX ?_ | refine yar rfl rfl (parseState_con p r (ba l) hvl hrl (by rw [yda]; omega)) rfl rfl ?_))
    rw [bl_ba]
    cases hst : stateW (yba p) r l with
    | error e =>
      (repeat (first | refine zI ?_ | refine zL ?_ | refine zC ?_ | refine yai ?_ | refine yaj ?_ | refine zR ?_ | refine zD ?_ | refine zK ?_ | refine zB ?_ | refine zA ?_ | refine zS ?_ | refine zU ?_ | refine zV ?_ | refine zF ?_ | with_reducible refine yac ?_ | with_reducible refine yag ?_ | refine yad ?_ | refine yae ?_ | refine yaf ?_ | refine zT ?_ | refine zE ?_ | refine zX ?_))
      refine yaq rfl (fun h4 => ?_) (fun h4 => ?_)
      · (repeat (first | refine zI ?_ | refine zL ?_ | refine zC ?_ | refine yai ?_ | refine yaj ?_ | refine zR ?_ | refine zD ?_ | refine zK ?_ | refine zB ?_ | refine zA ?_ | refine zS ?_ | refine zU ?_ | refine zV ?_ | refine zF ?_ | with_reducible refine yac ?_ | with_reducible refine yag ?_ | refine yad ?_ | refine yae ?_ | refine yaf ?_ | refine zT ?_ | refine zE ?_ | refine zX ?_))
        refine yas ?_; refine ⟨_, rfl, ?_⟩
        exact frz_pc0 (hE _ _ (readC_bad hq hr hl hst))
      · exfalso
        rcases stateW_err hst with rfl | rfl <;> simp [stE] at h4
    | ok st =>
      have hsl := stateW_len hst
      (repeat (first | refine zI ?_ | refine zL ?_ | refine zC ?_ | refine yai ?_ | refine yaj ?_ | refine zR ?_ | refine zD ?_ | refine zK ?_ | refine zB ?_ | refine zA ?_ | refine zS ?_ | refine zU ?_ | refine zV ?_ | refine zF ?_ | with_reducible refine yac ?_ | with_reducible refine yag ?_ | refine yad ?_ | refine yae ?_ | refine yaf ?_ | refine zT ?_ | refine zE ?_ | refine zX ?_))
      refine L_append tok rfl rfl rfl (by simp) rfl (by simp [ybl, ybk]) (by simp; omega) rfl rfl rfl rfl rfl ?_
      (repeat (first | refine zI ?_ | refine zL ?_ | refine zC ?_ | refine yai ?_ | refine yaj ?_ | refine zR ?_ | refine zD ?_ | refine zK ?_ | refine zB ?_ | refine zA ?_ | refine zS ?_ | refine zU ?_ | refine zV ?_ | refine zF ?_ | with_reducible refine yac ?_ | with_reducible refine yag ?_ | refine yad ?_ | refine yae ?_ | refine yaf ?_ | refine zT ?_ | refine zE ?_ | refine zX ?_))
      refine rnd (k + 1, c ++ [st]) (readC_next hq hr hl hst) (by simp only; omega) ?_ ?_
      · exact yak rfl (yak rfl (yak rfl (yak (some_av rfl (ls_eq (by simp))) (by (repeat (first | exact yan | refine yak rfl ?_))))))
      · refine yaa ?_ (yaa rfl yab)
        simp [yap, stV]
  · simp at h2
    obtain rfl : k = ls.length := by omega
    repeat (first | refine yae ?_ | refine yaf ?_)
    refine A_freeze 11 (c.map fun z => [ybk z]) rfl rfl (by simp) (fun row hr => by obtain ⟨a, _, rfl⟩ := List.mem_map.1 hr; rfl) (encC_flat c) rfl rfl ?_
    (repeat (first | refine zI ?_ | refine zL ?_ | refine zC ?_ | refine yai ?_ | refine yaj ?_ | refine zR ?_ | refine zD ?_ | refine zK ?_ | refine zB ?_ | refine zA ?_ | refine zS ?_ | refine zU ?_ | refine zV ?_ | refine zF ?_ | with_reducible refine yac ?_ | with_reducible refine yag ?_ | refine yad ?_ | refine yae ?_ | refine yaf ?_ | refine zT ?_ | refine zE ?_ | refine zX ?_))
    refine yaq rfl (fun h5 => ?_) (fun h5 => ?_)
    · simp at h5
      (repeat (first | refine zI ?_ | refine zL ?_ | refine zC ?_ | refine yai ?_ | refine yaj ?_ | refine zR ?_ | refine zD ?_ | refine zK ?_ | refine zB ?_ | refine zA ?_ | refine zS ?_ | refine zU ?_ | refine zV ?_ | refine zF ?_ | with_reducible refine yac ?_ | with_reducible refine yag ?_ | refine yad ?_ | refine yae ?_ | refine yaf ?_ | refine zT ?_ | refine zE ?_ | refine zX ?_))
      refine yas ?_; refine ⟨_, rfl, ?_⟩
      rw [hcl]
      exact frz_pc0 (hE _ _ (readC_short hq (by omega) rfl))
    · simp at h5
      (repeat (first | refine zI ?_ | refine zL ?_ | refine zC ?_ | refine yai ?_ | refine yaj ?_ | refine zR ?_ | refine zD ?_ | refine zK ?_ | refine zB ?_ | refine zA ?_ | refine zS ?_ | refine zU ?_ | refine zV ?_ | refine zF ?_ | with_reducible refine yac ?_ | with_reducible refine yag ?_ | refine yad ?_ | refine yae ?_ | refine yaf ?_ | refine zT ?_ | refine zE ?_ | refine zX ?_))
      refine yas ?_; refine ⟨_, rfl, ?_⟩
      rw [hO _ (readC_end hq (by omega) rfl)]
      exact Frz.pure
theorem rparse10_con (p : ProgD) (g : GraphD) (hf : Fair p g) (s : ByteArray) (hs : s.size ≤ 100000) : Con Tryz.prog 10 [encP p, encG g, yfd s] (parseCA (parseT p g (bl s))) := by
  refine ybs Tryz.func10 rfl rfl Tryz.ntmps10 Tryz.results10 rfl rfl ?_
  (repeat (first | refine zI ?_ | refine zL ?_ | refine zC ?_ | refine yai ?_ | refine yaj ?_ | refine zR ?_ | refine zD ?_ | refine zK ?_ | refine zB ?_ | refine zA ?_ | refine zS ?_ | refine zU ?_ | refine zV ?_ | refine zF ?_ | with_reducible refine yac ?_ | with_reducible refine yag ?_ | refine yad ?_ | refine yae ?_ | refine yaf ?_ | refine zT ?_ | refine zE ?_ | refine zX ?_ | refine yar rfl rfl (rfits_con p g hf) rfl rfl ?_))
  refine yaq rfl (fun h => ?_) (fun h => ?_)
  · (repeat (first | refine zI ?_ | refine zL ?_ | refine zC ?_ | refine yai ?_ | refine yaj ?_ | refine zR ?_ | refine zD ?_ | refine zK ?_ | refine zB ?_ | refine zA ?_ | refine zS ?_ | refine zU ?_ | refine zV ?_ | refine zF ?_ | with_reducible refine yac ?_ | with_reducible refine yag ?_ | refine yad ?_ | refine yae ?_ | refine yaf ?_ | refine zT ?_ | refine zE ?_ | refine zX ?_))
    refine yas ?_; refine ⟨_, rfl, ?_⟩
    have : ydl p g ≠ 0 := by simpa using h
    exact frz_pc0 (by rw [parseT, if_neg this])
  have h0 : ydl p g = 0 := by simpa using h
  (repeat (first | refine zI ?_ | refine zL ?_ | refine zC ?_ | refine yai ?_ | refine yaj ?_ | refine zR ?_ | refine zD ?_ | refine zK ?_ | refine zB ?_ | refine zA ?_ | refine zS ?_ | refine zU ?_ | refine zV ?_ | refine zF ?_ | with_reducible refine yac ?_ | with_reducible refine yag ?_ | refine yad ?_ | refine yae ?_ | refine yaf ?_ | refine zT ?_ | refine zE ?_ | refine zX ?_))
  refine yaq rfl (fun h1 => ?_) (fun h1 => ?_)
  · simp at h1
    (repeat (first | refine zI ?_ | refine zL ?_ | refine zC ?_ | refine yai ?_ | refine yaj ?_ | refine zR ?_ | refine zD ?_ | refine zK ?_ | refine zB ?_ | refine zA ?_ | refine zS ?_ | refine zU ?_ | refine zV ?_ | refine zF ?_ | with_reducible refine yac ?_ | with_reducible refine yag ?_ | refine yad ?_ | refine yae ?_ | refine yaf ?_ | refine zT ?_ | refine zE ?_ | refine zX ?_))
    refine yas ?_; refine ⟨_, rfl, ?_⟩
    exact frz_pc0 (by rw [parseT, if_pos h0, if_pos (by rw [ydq]; omega)])
  have hlim : ¬ 16384 < (bl s).length := by simp at h1; rw [ydq]; omega
  have hll := linesF_len (bl s)
  have hml := fun l => linesF_mem (t := bl s) (l := l)
  have htl := (cfg_of_fair hf).1
  have hvl := hf.vlen
  have htg : (ybc p g).length = g.ports.length := by simp [ybc]
  have hE := fun k e => parseT_err (k := k) (e := e) h0 hlim
  have hO := fun c => parseT_ok (c := c) h0 hlim
  rw [ydq] at hll hml
  (repeat (first | refine zI ?_ | refine zL ?_ | refine zC ?_ | refine yai ?_ | refine yaj ?_ | refine zR ?_ | refine zD ?_ | refine zK ?_ | refine zB ?_ | refine zA ?_ | refine zS ?_ | refine zU ?_ | refine zV ?_ | refine zF ?_ | with_reducible refine yac ?_ | with_reducible refine yag ?_ | refine yad ?_ | refine yae ?_ | refine yaf ?_ | refine zT ?_ | refine zE ?_ | refine zX ?_ | refine yar rfl rfl (rlines_con s hs) rfl rfl ?_))
  refine A_own 11 100 1 rfl rfl rfl ?_
  generalize yex (bl s) = ls at *
  refine ydp (α := Nat × List (List Int)) (fun q => [(12, i64 q.1), (11, .ls 100 1 q.2.length), (10, encStrs ls), (3, .lp 3 0), (4, .lp 4 0)]) (fun q => [(100, some (.vec (q.2.map ybk))), (3, some (.cells [yfd p.name, .sl 6 (p.vars.map ydi), .sl 3 (p.rules.map ydw)])), (4, some (.cells [ybk g.ids, ybz g.ports]))]) (fun q => g.ports.length - q.1) (fun q => ReadC (yba p) (ybc p g) ls q.1 q.2) (0, []) (readC_start _ _ _) (by (repeat (first | exact yan | refine yak rfl ?_))) (by first | exact yab | exact yaa rfl yab | exact yaa rfl (yaa rfl yab) | exact yaa rfl (yaa rfl (yaa rfl yab)) | exact yaa rfl (yaa rfl (yaa rfl (yaa rfl yab)))) ?_
  rintro ⟨k, c⟩ hq
  obtain ⟨hk1, hk2, hcl, _⟩ := id hq
  simp only at hk1 hk2 hcl hq
  (repeat (first | refine zI ?_ | refine zL ?_ | refine zC ?_ | refine yai ?_ | refine yaj ?_ | refine zR ?_ | refine zD ?_ | refine zK ?_ | refine zB ?_ | refine zA ?_ | refine zS ?_ | refine zU ?_ | refine zV ?_ | refine zF ?_ | with_reducible refine yac ?_ | with_reducible refine yag ?_ | refine yad ?_ | refine yae ?_ | refine yaf ?_ | refine zT ?_ | refine zE ?_ | refine zX ?_))
  refine yaq rfl (fun h2 => ?_) (fun h2 => ?_)
  · simp at h2
    (repeat (first | refine zI ?_ | refine zL ?_ | refine zC ?_ | refine yai ?_ | refine yaj ?_ | refine zR ?_ | refine zD ?_ | refine zK ?_ | refine zB ?_ | refine zA ?_ | refine zS ?_ | refine zU ?_ | refine zV ?_ | refine zF ?_ | with_reducible refine yac ?_ | with_reducible refine yag ?_ | refine yad ?_ | refine yae ?_ | refine yaf ?_ | refine zT ?_ | refine zE ?_ | refine zX ?_))
    refine yaq rfl (fun h3 => ?_) (fun h3 => ?_)
    · simp at h3
      (repeat (first | refine zI ?_ | refine zL ?_ | refine zC ?_ | refine yai ?_ | refine yaj ?_ | refine zR ?_ | refine zD ?_ | refine zK ?_ | refine zB ?_ | refine zA ?_ | refine zS ?_ | refine zU ?_ | refine zV ?_ | refine zF ?_ | with_reducible refine yac ?_ | with_reducible refine yag ?_ | refine yad ?_ | refine yae ?_ | refine yaf ?_ | refine zT ?_ | refine zE ?_ | refine zX ?_))
      refine yas ?_; refine ⟨_, rfl, ?_⟩
      exact frz_pc0 (hE _ _ (readC_short hq (by omega) (by omega)))
    have h3 : k ≠ ls.length := by intro e; simp [e] at h3
    obtain ⟨l, hl⟩ := yeh (show k < ls.length by omega)
    have hlm := hml l (List.mem_of_getElem? hl)
    obtain ⟨r, hr⟩ := yeh (show k < (ybc p g).length by omega)
    (repeat (first | refine zI ?_ | refine zL ?_ | refine zC ?_ | refine yai ?_ | refine yaj ?_ | refine zR ?_ | refine zD ?_ | refine zK ?_ | refine zB ?_ | refine zA ?_ | refine zS ?_ | refine zU ?_ | refine zV ?_ | refine zF ?_ | with_reducible refine yac ?_ | with_reducible refine yag ?_ | refine yad ?_ | refine yae ?_ | refine yaf ?_ | refine zT ?_ | refine zE ?_ | refine zX ?_ | refine yar rfl rfl (rstate_con p g hf h0 k r hr (ba l) (by rw [yda]; omega)) rfl rfl ?_))
    rw [bl_ba]
    cases hst : stateW (yba p) r l with
    | error e =>
      (repeat (first | refine zI ?_ | refine zL ?_ | refine zC ?_ | refine yai ?_ | refine yaj ?_ | refine zR ?_ | refine zD ?_ | refine zK ?_ | refine zB ?_ | refine zA ?_ | refine zS ?_ | refine zU ?_ | refine zV ?_ | refine zF ?_ | with_reducible refine yac ?_ | with_reducible refine yag ?_ | refine yad ?_ | refine yae ?_ | refine yaf ?_ | refine zT ?_ | refine zE ?_ | refine zX ?_))
      refine yaq rfl (fun h4 => ?_) (fun h4 => ?_)
      · (repeat (first | refine zI ?_ | refine zL ?_ | refine zC ?_ | refine yai ?_ | refine yaj ?_ | refine zR ?_ | refine zD ?_ | refine zK ?_ | refine zB ?_ | refine zA ?_ | refine zS ?_ | refine zU ?_ | refine zV ?_ | refine zF ?_ | with_reducible refine yac ?_ | with_reducible refine yag ?_ | refine yad ?_ | refine yae ?_ | refine yaf ?_ | refine zT ?_ | refine zE ?_ | refine zX ?_))
        refine yas ?_; refine ⟨_, rfl, ?_⟩
        exact frz_pc0 (hE _ _ (readC_bad hq hr hl hst))
      · exfalso
        rcases stateW_err hst with rfl | rfl <;> simp [stE] at h4
    | ok st =>
      have hsl := stateW_len hst
      (repeat (first | refine zI ?_ | refine zL ?_ | refine zC ?_ | refine yai ?_ | refine yaj ?_ | refine zR ?_ | refine zD ?_ | refine zK ?_ | refine zB ?_ | refine zA ?_ | refine zS ?_ | refine zU ?_ | refine zV ?_ | refine zF ?_ | with_reducible refine yac ?_ | with_reducible refine yag ?_ | refine yad ?_ | refine yae ?_ | refine yaf ?_ | refine zT ?_ | refine zE ?_ | refine zX ?_))
      refine L_append tok rfl rfl rfl (by simp) rfl (by simp [ybl, ybk]) (by simp; omega) rfl rfl rfl rfl rfl ?_
      (repeat (first | refine zI ?_ | refine zL ?_ | refine zC ?_ | refine yai ?_ | refine yaj ?_ | refine zR ?_ | refine zD ?_ | refine zK ?_ | refine zB ?_ | refine zA ?_ | refine zS ?_ | refine zU ?_ | refine zV ?_ | refine zF ?_ | with_reducible refine yac ?_ | with_reducible refine yag ?_ | refine yad ?_ | refine yae ?_ | refine yaf ?_ | refine zT ?_ | refine zE ?_ | refine zX ?_))
      refine rnd (k + 1, c ++ [st]) (readC_next hq hr hl hst) (by simp only; omega) ?_ ?_
      · exact yak rfl (yak (some_av rfl (ls_eq (by simp))) (by (repeat (first | exact yan | refine yak rfl ?_))))
      · refine yaa ?_ (yaa rfl (yaa rfl yab))
        simp [yap, stV]
  · simp at h2
    obtain rfl : k = g.ports.length := by omega
    repeat (first | refine yae ?_ | refine yaf ?_)
    refine A_freeze 11 (c.map fun z => [ybk z]) rfl rfl (by simp) (fun row hr => by obtain ⟨a, _, rfl⟩ := List.mem_map.1 hr; rfl) (encC_flat c) rfl rfl ?_
    (repeat (first | refine zI ?_ | refine zL ?_ | refine zC ?_ | refine yai ?_ | refine yaj ?_ | refine zR ?_ | refine zD ?_ | refine zK ?_ | refine zB ?_ | refine zA ?_ | refine zS ?_ | refine zU ?_ | refine zV ?_ | refine zF ?_ | with_reducible refine yac ?_ | with_reducible refine yag ?_ | refine yad ?_ | refine yae ?_ | refine yaf ?_ | refine zT ?_ | refine zE ?_ | refine zX ?_))
    refine yaq rfl (fun h5 => ?_) (fun h5 => ?_)
    · simp at h5
      (repeat (first | refine zI ?_ | refine zL ?_ | refine zC ?_ | refine yai ?_ | refine yaj ?_ | refine zR ?_ | refine zD ?_ | refine zK ?_ | refine zB ?_ | refine zA ?_ | refine zS ?_ | refine zU ?_ | refine zV ?_ | refine zF ?_ | with_reducible refine yac ?_ | with_reducible refine yag ?_ | refine yad ?_ | refine yae ?_ | refine yaf ?_ | refine zT ?_ | refine zE ?_ | refine zX ?_))
      refine yas ?_; refine ⟨_, rfl, ?_⟩
      rw [hcl]
      exact frz_pc0 (hE _ _ (readC_over hq (by omega) (by omega)))
    · simp at h5
      (repeat (first | refine zI ?_ | refine zL ?_ | refine zC ?_ | refine yai ?_ | refine yaj ?_ | refine zR ?_ | refine zD ?_ | refine zK ?_ | refine zB ?_ | refine zA ?_ | refine zS ?_ | refine zU ?_ | refine zV ?_ | refine zF ?_ | with_reducible refine yac ?_ | with_reducible refine yag ?_ | refine yad ?_ | refine yae ?_ | refine yaf ?_ | refine zT ?_ | refine zE ?_ | refine zX ?_))
      refine yas ?_; refine ⟨_, rfl, ?_⟩
      rw [hO _ (readC_end hq (by omega) (by omega))]
      exact Frz.pure
end Go.Proofs.YtmlkdoimkdbdpaaGreatDoor
set_option linter.unusedVariables false
set_option maxRecDepth 100000
set_option maxHeartbeats 8000000
namespace Go.Proofs.YtmlkdoimkdbdpaaGreatDoor
open Go.RowKit
def outC (ks : List Int) (c : List (List Int)) (v : Nat) : Bs := unlines ((c.take v).map (lineC ks))
def outW (ks s : List Int) (x : Nat) : Bs := joinW ((List.zipWith ydg ks s).take x)
theorem join_snoc (ws : List Bs) (w : Bs) : joinW (ws ++ [w]) = if ws = [] then w else joinW ws ++ (32 :: w) := by
  cases ws with
  | nil => simp [joinW, glue]
  | cons a ws => simp [joinW, glue]
theorem outW_next {ks s : List Int} {x : Nat} {k z : Int} (hk : ks[x]? = some k) (hz : s[x]? = some z) : outW ks s (x + 1) = if x = 0 then ydg k z else outW ks s x ++ (32 :: ydg k z) := by
  have hw : (List.zipWith ydg ks s)[x]? = some (ydg k z) := by rw [List.getElem?_zipWith, hk, hz]
  have hlt := (List.getElem?_eq_some_iff.1 hw).1
  unfold outW
  rw [ych hw, join_snoc]
  by_cases e : x = 0
  · subst e; simp
  · rw [if_neg e, if_neg]
    intro h
    have := congrArg List.length h
    rw [List.length_take, List.length_nil] at this
    omega
theorem outC_next {ks : List Int} {c : List (List Int)} {v : Nat} {s : List Int} (h : c[v]? = some s) : outC ks c (v + 1) = outC ks c v ++ (lineC ks s ++ [10]) := by
  unfold outC
  rw [ych h]
  simp [unlines]
theorem outW_all {ks s : List Int} (h : s.length = ks.length) : outW ks s s.length = lineC ks s := by
  unfold outW lineC
  rw [List.take_of_length_le (by simp; omega)]
theorem outW_len {ks s : List Int} (h : RowOkW ks s) (x : Nat) (hx : x ≤ s.length) : (outW ks s x).length ≤ 7 * x := by
  have hw : ∀ w ∈ (List.zipWith ydg ks s).take x, w.length ≤ 6 := fun w hm => by
    obtain ⟨k, v, hv, rfl⟩ := row_words h w (List.mem_of_mem_take hm)
    exact word_len hv
  have hl : ((List.zipWith ydg ks s).take x).length = x := by have := h.1; simp; omega
  unfold outW
  generalize (List.zipWith ydg ks s).take x = ws at *
  cases ws with
  | nil => simp [joinW]
  | cons w ws =>
    have h1 := hw w (by simp)
    have h2 := glue_len 32 (n := 6) (ws := ws) fun u hu => hw u (by simp [hu])
    simp only [joinW, List.length_append, List.length_cons] at hl ⊢
    omega
theorem outC_len {ks : List Int} {c : List (List Int)} (h : ∀ s ∈ c, RowOkW ks s) (hk : ks.length ≤ 6) (hc : c.length ≤ 24) (v : Nat) : (outC ks c v).length ≤ 1100 := by
  have h1 := unlines_len (n := 42) (ls := (c.take v).map (lineC ks)) fun u hu => by
    obtain ⟨s, hs, rfl⟩ := List.mem_map.1 hu
    have h1 := line_len (h s (List.mem_of_mem_take hs))
    have h2 := (h s (List.mem_of_mem_take hs)).1
    omega
  simp only [List.length_map, List.length_take] at h1
  unfold outC
  omega
theorem fmt_facts {p : ProgD} {g : GraphD} {c : List (List Int)} (hf : Fair p g) (h : yet p g c = 0) : (∀ s ∈ c, RowOkW (yba p) s) ∧ (yba p).length ≤ 6 ∧ 1 ≤ c.length ∧ c.length ≤ 24 := by
  obtain ⟨h0, hin⟩ := check_zero.1 h
  obtain ⟨hc0, hg, hfit⟩ := fits_zero.1 h0
  have h1 := (yde hc0).1
  have h2 := (yde hc0).2.1
  have h3 := (ycy hg).2.1
  have h4 := (ycy hg).1
  have h5 := (cfg_get hin).1
  simp [ybc] at h5
  exact ⟨valid_rows hf h0 hin, by simp [yba]; omega, by omega, by omega⟩
def fmtCT (p : ProgD) (g : GraphD) (c : List (List Int)) : Bs := if yet p g c = 0 then formatC (yba p) c else []
def fmtCA (p : ProgD) (g : GraphD) (c : List (List Int)) : AV := .tup [yfd (ba (fmtCT p g c)), i64 (yet p g c)]
theorem rformat10_con (p : ProgD) (g : GraphD) (c : List (List Int)) (hf : Fair p g) (hc : CfgIn c) : Con Tryz.prog 8 [encP p, encG g, encC c] (fmtCA p g c) := by
  refine ybs Tryz.func8 rfl rfl Tryz.ntmps8 Tryz.results8 rfl rfl ?_
  (repeat (first | refine zI ?_ | refine zL ?_ | refine zC ?_ | refine yai ?_ | refine yaj ?_ | refine zR ?_ | refine zD ?_ | refine zK ?_ | refine zB ?_ | refine zA ?_ | refine zS ?_ | refine zU ?_ | refine zV ?_ | refine zF ?_ | with_reducible refine yac ?_ | with_reducible refine yag ?_ | refine yad ?_ | refine yae ?_ | refine yaf ?_ | refine zT ?_ | refine zE ?_ | refine zX ?_ | refine yar rfl rfl (rcheck_con p g c hf hc) rfl rfl ?_))
  refine yaq rfl (fun h => ?_) (fun h => ?_)
  · (repeat (first | refine zI ?_ | refine zL ?_ | refine zC ?_ | refine yai ?_ | refine yaj ?_ | refine zR ?_ | refine zD ?_ | refine zK ?_ | refine zB ?_ | refine zA ?_ | refine zS ?_ | refine zU ?_ | refine zV ?_ | refine zF ?_ | with_reducible refine yac ?_ | with_reducible refine yag ?_ | refine yad ?_ | refine yae ?_ | refine yaf ?_ | refine zT ?_ | refine zE ?_ | refine zX ?_))
    refine yas ?_; refine ⟨_, rfl, ?_⟩
    have : yet p g c ≠ 0 := by simpa using h
    exact frz_eq (by rw [fmtCA, fmtCT, if_neg this]; rfl)
  have h0 : yet p g c = 0 := by simpa using h
  obtain ⟨hrows, hk6, hc1, hc24⟩ := fmt_facts hf h0
  have hkl := kinds_len p
  (repeat (first | refine zI ?_ | refine zL ?_ | refine zC ?_ | refine yai ?_ | refine yaj ?_ | refine zR ?_ | refine zD ?_ | refine zK ?_ | refine zB ?_ | refine zA ?_ | refine zS ?_ | refine zU ?_ | refine zV ?_ | refine zF ?_ | with_reducible refine yac ?_ | with_reducible refine yag ?_ | refine yad ?_ | refine yae ?_ | refine yaf ?_ | refine zT ?_ | refine zE ?_ | refine zX ?_))
  refine ydp (α := Nat) (fun k => [(10, i64 k), (9, yfd (ba (outC (yba p) c k))), (2, encC c), (3, .lp 3 0)]) (fun k => [(3, some (.cells [yfd p.name, .sl 6 (p.vars.map ydi), .sl 3 (p.rules.map ydw)]))]) (fun k => c.length - k) (fun k => k ≤ c.length) 0 (by omega) (by (repeat (first | exact yan | refine yak rfl ?_))) (by first | exact yab | exact yaa rfl yab | exact yaa rfl (yaa rfl yab) | exact yaa rfl (yaa rfl (yaa rfl yab)) | exact yaa rfl (yaa rfl (yaa rfl (yaa rfl yab)))) ?_
  intro k hk
  have hol := outC_len hrows hk6 hc24 k
  (repeat (first | refine zI ?_ | refine zL ?_ | refine zC ?_ | refine yai ?_ | refine yaj ?_ | refine zR ?_ | refine zD ?_ | refine zK ?_ | refine zB ?_ | refine zA ?_ | refine zS ?_ | refine zU ?_ | refine zV ?_ | refine zF ?_ | with_reducible refine yac ?_ | with_reducible refine yag ?_ | refine yad ?_ | refine yae ?_ | refine yaf ?_ | refine zT ?_ | refine zE ?_ | refine zX ?_))
  refine yaq rfl (fun h1 => ?_) (fun h1 => ?_)
  · simp at h1
    obtain ⟨s, hs⟩ := yeh h1
    have hrow := hrows s (List.mem_of_getElem? hs)
    have hsl := hrow.1
    (repeat (first | refine zI ?_ | refine zL ?_ | refine zC ?_ | refine yai ?_ | refine yaj ?_ | refine zR ?_ | refine zD ?_ | refine zK ?_ | refine zB ?_ | refine zA ?_ | refine zS ?_ | refine zU ?_ | refine zV ?_ | refine zF ?_ | with_reducible refine yac ?_ | with_reducible refine yag ?_ | refine yad ?_ | refine yae ?_ | refine yaf ?_ | refine zT ?_ | refine zE ?_ | refine zX ?_))
    refine ydp (α := Nat) (fun x => [(11, i64 x), (10, i64 k), (9, yfd (ba (outC (yba p) c k ++ outW (yba p) s x))), (2, encC c), (3, .lp 3 0)]) (fun x => [(3, some (.cells [yfd p.name, .sl 6 (p.vars.map ydi), .sl 3 (p.rules.map ydw)]))]) (fun x => s.length - x) (fun x => x ≤ s.length) 0 (by omega) (by simp only [outW, List.take_zero, joinW, List.append_nil]; (repeat (first | exact yan | refine yak rfl ?_))) (by first | exact yab | exact yaa rfl yab | exact yaa rfl (yaa rfl yab) | exact yaa rfl (yaa rfl (yaa rfl yab)) | exact yaa rfl (yaa rfl (yaa rfl (yaa rfl yab)))) ?_
    intro x hx
    have hwl := outW_len hrow x hx
    (repeat (first | refine zI ?_ | refine zL ?_ | refine zC ?_ | refine yai ?_ | refine yaj ?_ | refine zR ?_ | refine zD ?_ | refine zK ?_ | refine zB ?_ | refine zA ?_ | refine zS ?_ | refine zU ?_ | refine zV ?_ | refine zF ?_ | with_reducible refine yac ?_ | with_reducible refine yag ?_ | refine yad ?_ | refine yae ?_ | refine yaf ?_ | refine zT ?_ | refine zE ?_ | refine zX ?_))
    refine yaq rfl (fun h2 => ?_) (fun h2 => ?_)
    · simp at h2
      obtain ⟨z, hz⟩ := yeh h2
      obtain ⟨y, hy⟩ := yeh (show x < p.vars.length by omega)
      have hvo := hrow.2 x y.kind z (kinds_at hy) hz
      have hwd := word_len hvo
      have hnx := outW_next (kinds_at hy) hz
      (repeat (first | refine zI ?_ | refine zL ?_ | refine zC ?_ | refine yai ?_ | refine yaj ?_ | refine zR ?_ | refine zD ?_ | refine zK ?_ | refine zB ?_ | refine zA ?_ | refine zS ?_ | refine zU ?_ | refine zV ?_ | refine zF ?_ | with_reducible refine yac ?_ | with_reducible refine yag ?_ | refine yad ?_ | refine yae ?_ | refine yaf ?_ | refine zT ?_ | refine zE ?_ | refine zX ?_))
      refine yaq rfl (fun h3 => ?_) (fun h3 => ?_)
      · simp at h3
        (repeat (first | refine zI ?_ | refine zL ?_ | refine zC ?_ | refine yai ?_ | refine yaj ?_ | refine zR ?_ | refine zD ?_ | refine zK ?_ | refine zB ?_ | refine zA ?_ | refine zS ?_ | refine zU ?_ | refine zV ?_ | refine zF ?_ | with_reducible refine yac ?_ | with_reducible refine yag ?_ | refine yad ?_ | refine yae ?_ | refine yaf ?_ | refine zT ?_ | refine zE ?_ | refine zX ?_ | refine L_concat (b := ba [32]) rfl rfl (by rw [yda, yda]; simp; omega) rfl rfl ?_ | refine yar rfl rfl (word_con y.kind z hvo) rfl rfl ?_))
        rw [ba_app]
        (repeat (first | refine zI ?_ | refine zL ?_ | refine zC ?_ | refine yai ?_ | refine yaj ?_ | refine zR ?_ | refine zD ?_ | refine zK ?_ | refine zB ?_ | refine zA ?_ | refine zS ?_ | refine zU ?_ | refine zV ?_ | refine zF ?_ | with_reducible refine yac ?_ | with_reducible refine yag ?_ | refine yad ?_ | refine yae ?_ | refine yaf ?_ | refine zT ?_ | refine zE ?_ | refine zX ?_ | refine yar rfl rfl (word_con y.kind z hvo) rfl rfl ?_ | refine L_concat rfl rfl (by rw [yda, yda]; simp; omega) rfl rfl ?_))
        rw [ba_app]
        (repeat (first | refine zI ?_ | refine zL ?_ | refine zC ?_ | refine yai ?_ | refine yaj ?_ | refine zR ?_ | refine zD ?_ | refine zK ?_ | refine zB ?_ | refine zA ?_ | refine zS ?_ | refine zU ?_ | refine zV ?_ | refine zF ?_ | with_reducible refine yac ?_ | with_reducible refine yag ?_ | refine yad ?_ | refine yae ?_ | refine yaf ?_ | refine zT ?_ | refine zE ?_ | refine zX ?_))
        refine rnd (x + 1) (by omega) (by omega) ?_ (by first | exact yab | exact yaa rfl yab | exact yaa rfl (yaa rfl yab) | exact yaa rfl (yaa rfl (yaa rfl yab)) | exact yaa rfl (yaa rfl (yaa rfl (yaa rfl yab))))
        refine yak rfl (yak rfl (yak (some_av rfl (str_eq ?_)) (by (repeat (first | exact yan | refine yak rfl ?_)))))
        rw [hnx, if_neg (by omega)]; simp
      · simp at h3
        obtain rfl : x = 0 := by omega
        (repeat (first | refine zI ?_ | refine zL ?_ | refine zC ?_ | refine yai ?_ | refine yaj ?_ | refine zR ?_ | refine zD ?_ | refine zK ?_ | refine zB ?_ | refine zA ?_ | refine zS ?_ | refine zU ?_ | refine zV ?_ | refine zF ?_ | with_reducible refine yac ?_ | with_reducible refine yag ?_ | refine yad ?_ | refine yae ?_ | refine yaf ?_ | refine zT ?_ | refine zE ?_ | refine zX ?_ | refine yar rfl rfl (word_con y.kind z hvo) rfl rfl ?_ | refine L_concat rfl rfl (by rw [yda, yda]; simp; omega) rfl rfl ?_))
        rw [ba_app]
        (repeat (first | refine zI ?_ | refine zL ?_ | refine zC ?_ | refine yai ?_ | refine yaj ?_ | refine zR ?_ | refine zD ?_ | refine zK ?_ | refine zB ?_ | refine zA ?_ | refine zS ?_ | refine zU ?_ | refine zV ?_ | refine zF ?_ | with_reducible refine yac ?_ | with_reducible refine yag ?_ | refine yad ?_ | refine yae ?_ | refine yaf ?_ | refine zT ?_ | refine zE ?_ | refine zX ?_))
        refine rnd (0 + 1) (by omega) (by omega) ?_ (by first | exact yab | exact yaa rfl yab | exact yaa rfl (yaa rfl yab) | exact yaa rfl (yaa rfl (yaa rfl yab)) | exact yaa rfl (yaa rfl (yaa rfl (yaa rfl yab))))
        refine yak rfl (yak rfl (yak (some_av rfl (str_eq ?_)) (by (repeat (first | exact yan | refine yak rfl ?_)))))
        rw [hnx, if_pos rfl]; simp [outW, joinW]
    · simp at h2
      obtain rfl : x = s.length := by omega
      (repeat (first | refine zI ?_ | refine zL ?_ | refine zC ?_ | refine yai ?_ | refine yaj ?_ | refine zR ?_ | refine zD ?_ | refine zK ?_ | refine zB ?_ | refine zA ?_ | refine zS ?_ | refine zU ?_ | refine zV ?_ | refine zF ?_ | with_reducible refine yac ?_ | with_reducible refine yag ?_ | refine yad ?_ | refine yae ?_ | refine yaf ?_ | refine zT ?_ | refine zE ?_ | refine zX ?_ | refine L_concat (b := ba [10]) rfl rfl (by rw [yda, yda]; simp; omega) rfl rfl ?_))
      rw [ba_app]
      (repeat (first | refine zI ?_ | refine zL ?_ | refine zC ?_ | refine yai ?_ | refine yaj ?_ | refine zR ?_ | refine zD ?_ | refine zK ?_ | refine zB ?_ | refine zA ?_ | refine zS ?_ | refine zU ?_ | refine zV ?_ | refine zF ?_ | with_reducible refine yac ?_ | with_reducible refine yag ?_ | refine yad ?_ | refine yae ?_ | refine yaf ?_ | refine zT ?_ | refine zE ?_ | refine zX ?_))
      refine rnd (k + 1) (by omega) (by omega) ?_ (by first | exact yab | exact yaa rfl yab | exact yaa rfl (yaa rfl yab) | exact yaa rfl (yaa rfl (yaa rfl yab)) | exact yaa rfl (yaa rfl (yaa rfl (yaa rfl yab))))
      refine yak rfl (yak (some_av rfl (str_eq ?_)) (by (repeat (first | exact yan | refine yak rfl ?_))))
      rw [outC_next hs, outW_all hsl]; simp
  · simp at h1
    obtain rfl : k = c.length := by omega
    (repeat (first | refine zI ?_ | refine zL ?_ | refine zC ?_ | refine yai ?_ | refine yaj ?_ | refine zR ?_ | refine zD ?_ | refine zK ?_ | refine zB ?_ | refine zA ?_ | refine zS ?_ | refine zU ?_ | refine zV ?_ | refine zF ?_ | with_reducible refine yac ?_ | with_reducible refine yag ?_ | refine yad ?_ | refine yae ?_ | refine yaf ?_ | refine zT ?_ | refine zE ?_ | refine zX ?_))
    refine yas ?_; refine ⟨_, rfl, ?_⟩
    refine frz_eq ?_
    rw [fmtCA, fmtCT, if_pos h0, h0, outC, List.take_length]
    rfl
theorem mformat_con (p : ProgD) (g : GraphD) (c : List (List Int)) (hf : Fair p g) (hc : CfgIn c) : Con Tryz.prog 7 [encP p, encG g, encC c] (fmtCA p g c) := by
  refine ybs Tryz.func7 rfl rfl Tryz.ntmps7 Tryz.results7 rfl rfl ?_
  (repeat (first | refine zI ?_ | refine zL ?_ | refine zC ?_ | refine yai ?_ | refine yaj ?_ | refine zR ?_ | refine zD ?_ | refine zK ?_ | refine zB ?_ | refine zS ?_ | refine zU ?_ | refine zV ?_ | refine zF ?_ | with_reducible refine yac ?_ | with_reducible refine yag ?_ | refine yad ?_ | refine yae ?_ | refine yaf ?_ | refine zT ?_ | refine zE ?_ | refine zX ?_ | refine yar rfl rfl (mcheck_con p g c hf hc) rfl rfl ?_))
  refine yaq rfl (fun h => ?_) (fun h => ?_)
  · (repeat (first | refine zI ?_ | refine zL ?_ | refine zC ?_ | refine yai ?_ | refine yaj ?_ | refine zR ?_ | refine zD ?_ | refine zK ?_ | refine zB ?_ | refine zA ?_ | refine zS ?_ | refine zU ?_ | refine zV ?_ | refine zF ?_ | with_reducible refine yac ?_ | with_reducible refine yag ?_ | refine yad ?_ | refine yae ?_ | refine yaf ?_ | refine zT ?_ | refine zE ?_ | refine zX ?_))
    refine yas ?_; refine ⟨_, rfl, ?_⟩
    have : yet p g c ≠ 0 := by simpa using h
    exact frz_eq (by rw [fmtCA, fmtCT, if_neg this]; rfl)
  have h0 : yet p g c = 0 := by simpa using h
  obtain ⟨hrows, hk6, hc1, hc24⟩ := fmt_facts hf h0
  have hkl := kinds_len p
  (repeat (first | refine zI ?_ | refine zL ?_ | refine zC ?_ | refine yai ?_ | refine yaj ?_ | refine zR ?_ | refine zD ?_ | refine zK ?_ | refine zB ?_ | refine zS ?_ | refine zU ?_ | refine zV ?_ | refine zF ?_ | with_reducible refine yac ?_ | with_reducible refine yag ?_ | refine yad ?_ | refine yae ?_ | refine yaf ?_ | refine zT ?_ | refine zE ?_ | refine zX ?_))
  refine L_allocT tok rfl rfl rfl rfl rfl rfl rfl ?_
  (repeat (first | refine zI ?_ | refine zL ?_ | refine zC ?_ | refine yai ?_ | refine yaj ?_ | refine zR ?_ | refine zD ?_ | refine zK ?_ | refine zB ?_ | refine zS ?_ | refine zU ?_ | refine zV ?_ | refine zF ?_ | with_reducible refine yac ?_ | with_reducible refine yag ?_ | refine yad ?_ | refine yae ?_ | refine yaf ?_ | refine zT ?_ | refine zE ?_ | refine zX ?_))
  refine A_builder 9 1003 rfl rfl rfl rfl ?_
  refine ydp (α := Bool × Nat) (fun q => [(23, i64 q.2), (22, i64 c.length), (21, encC c), (9, .lp 9 0), (3, .lp 3 0)]) (fun q => [(9, some (bldO q.1 9 1003 (outC (yba p) c q.2))), (1003, some (bytesO (outC (yba p) c q.2))), (3, some (.cells [yfd p.name, .sl 6 (p.vars.map ydi), .sl 3 (p.rules.map ydw)]))]) (fun q => c.length - q.2) (fun q => q.2 ≤ c.length) (false, 0) (by simp only; omega) (by (repeat (first | exact yan | refine yak rfl ?_))) (by first | exact yab | exact yaa rfl yab | exact yaa rfl (yaa rfl yab) | exact yaa rfl (yaa rfl (yaa rfl yab)) | exact yaa rfl (yaa rfl (yaa rfl (yaa rfl yab)))) ?_
  rintro ⟨u, k⟩ hk
  simp only at hk
  have hol := outC_len hrows hk6 hc24 k
  (repeat (first | refine zI ?_ | refine zL ?_ | refine zC ?_ | refine yai ?_ | refine yaj ?_ | refine zR ?_ | refine zD ?_ | refine zK ?_ | refine zB ?_ | refine zA ?_ | refine zS ?_ | refine zU ?_ | refine zV ?_ | refine zF ?_ | with_reducible refine yac ?_ | with_reducible refine yag ?_ | refine yad ?_ | refine yae ?_ | refine yaf ?_ | refine zT ?_ | refine zE ?_ | refine zX ?_))
  refine yaq rfl (fun h1 => ?_) (fun h1 => ?_)
  · simp at h1
    obtain ⟨s, hs⟩ := yeh h1
    have hrow := hrows s (List.mem_of_getElem? hs)
    have hsl := hrow.1
    (repeat (first | refine zI ?_ | refine zL ?_ | refine zC ?_ | refine yai ?_ | refine yaj ?_ | refine zR ?_ | refine zD ?_ | refine zK ?_ | refine zB ?_ | refine zA ?_ | refine zS ?_ | refine zU ?_ | refine zV ?_ | refine zF ?_ | with_reducible refine yac ?_ | with_reducible refine yag ?_ | refine yad ?_ | refine yae ?_ | refine yaf ?_ | refine zT ?_ | refine zE ?_ | refine zX ?_))
    refine ydp (α := Bool × Nat) (fun q => [(29, i64 q.2), (28, i64 s.length), (27, ybk s), (23, i64 k), (22, i64 c.length), (21, encC c), (9, .lp 9 0), (3, .lp 3 0)]) (fun q => [(9, some (bldO q.1 9 1003 (outC (yba p) c k ++ outW (yba p) s q.2))), (1003, some (bytesO (outC (yba p) c k ++ outW (yba p) s q.2))), (3, some (.cells [yfd p.name, .sl 6 (p.vars.map ydi), .sl 3 (p.rules.map ydw)]))]) (fun q => s.length - q.2) (fun q => q.2 ≤ s.length) (u, 0) (by simp only; omega) (by (repeat (first | exact yan | refine yak rfl ?_))) (by simp only [outW, List.take_zero, joinW, List.append_nil]; exact yaa rfl (yaa rfl (yaa rfl yab))) ?_
    rintro ⟨u1, x⟩ hx
    simp only at hx
    have hwl := outW_len hrow x hx
    (repeat (first | refine zI ?_ | refine zL ?_ | refine zC ?_ | refine yai ?_ | refine yaj ?_ | refine zR ?_ | refine zD ?_ | refine zK ?_ | refine zB ?_ | refine zA ?_ | refine zS ?_ | refine zU ?_ | refine zV ?_ | refine zF ?_ | with_reducible refine yac ?_ | with_reducible refine yag ?_ | refine yad ?_ | refine yae ?_ | refine yaf ?_ | refine zT ?_ | refine zE ?_ | refine zX ?_))
    refine yaq rfl (fun h2 => ?_) (fun h2 => ?_)
    · simp at h2
      obtain ⟨z, hz⟩ := yeh h2
      obtain ⟨y, hy⟩ := yeh (show x < p.vars.length by omega)
      have hvo := hrow.2 x y.kind z (kinds_at hy) hz
      have hwd := word_len hvo
      have hnx := outW_next (kinds_at hy) hz
      have hz0 : -9223372036854775808 ≤ z ∧ z ≤ 9223372036854775807 := by
        obtain ⟨v2, v3, v1⟩ := hvo
        by_cases e : y.kind = 2
        · have := v2 e; omega
        · by_cases e3 : y.kind = 3
          · have := v3 e3; omega
          · have := v1 e e3; omega
      (repeat (first | refine zI ?_ | refine zL ?_ | refine zC ?_ | refine yai ?_ | refine yaj ?_ | refine zR ?_ | refine zD ?_ | refine zK ?_ | refine zB ?_ | refine zA ?_ | refine zS ?_ | refine zU ?_ | refine zV ?_ | refine zF ?_ | with_reducible refine yac ?_ | with_reducible refine yag ?_ | refine yad ?_ | refine yae ?_ | refine yaf ?_ | refine zT ?_ | refine zE ?_ | refine zX ?_))
      refine yaq rfl (fun h3 => ?_) (fun h3 => ?_)
      · simp at h3
        (repeat (first | refine zI ?_ | refine zL ?_ | refine zC ?_ | refine yai ?_ | refine yaj ?_ | refine zR ?_ | refine zD ?_ | refine zK ?_ | refine zB ?_ | refine zA ?_ | refine zS ?_ | refine zU ?_ | refine zV ?_ | refine zF ?_ | with_reducible refine yac ?_ | with_reducible refine yag ?_ | refine yad ?_ | refine yae ?_ | refine yaf ?_ | refine zT ?_ | refine zE ?_ | refine zX ?_))
        refine L_write u1 9 1003 (outC (yba p) c k ++ outW (yba p) s x) (ba [32]) [32] (by rw [bl_ba]) (by rw [yda]; simp; omega) rfl rfl rfl rfl rfl rfl rfl rfl rfl ?_
        (repeat (first | refine zI ?_ | refine zL ?_ | refine zC ?_ | refine yai ?_ | refine yaj ?_ | refine zR ?_ | refine zD ?_ | refine zK ?_ | refine zB ?_ | refine zA ?_ | refine zS ?_ | refine zU ?_ | refine zV ?_ | refine zF ?_ | with_reducible refine yac ?_ | with_reducible refine yag ?_ | refine yad ?_ | refine yae ?_ | refine yaf ?_ | refine zT ?_ | refine zE ?_ | refine zX ?_ | refine yar rfl rfl (mwrite_con y.kind z hz0.1 hz0.2) rfl rfl ?_))
        refine L_write true 9 1003 (outC (yba p) c k ++ outW (yba p) s x ++ [32]) (ba (ydg y.kind z)) (ydg y.kind z) (by rw [bl_ba]) (by rw [yda]; simp; omega) rfl rfl rfl rfl rfl rfl rfl rfl rfl ?_
        (repeat (first | refine zI ?_ | refine zL ?_ | refine zC ?_ | refine yai ?_ | refine yaj ?_ | refine zR ?_ | refine zD ?_ | refine zK ?_ | refine zB ?_ | refine zA ?_ | refine zS ?_ | refine zU ?_ | refine zV ?_ | refine zF ?_ | with_reducible refine yac ?_ | with_reducible refine yag ?_ | refine yad ?_ | refine yae ?_ | refine yaf ?_ | refine zT ?_ | refine zE ?_ | refine zX ?_))
        refine rnd (true, x + 1) (by simp only; omega) (by simp only; omega) (by (repeat (first | exact yan | refine yak rfl ?_))) ?_
        have e : outC (yba p) c k ++ outW (yba p) s (x + 1) = outC (yba p) c k ++ outW (yba p) s x ++ [32] ++ ydg y.kind z := by rw [hnx, if_neg (by omega)]; simp
        simp only [e]
        exact yaa rfl (yaa rfl (yaa rfl yab))
      · simp at h3
        obtain rfl : x = 0 := by omega
        (repeat (first | refine zI ?_ | refine zL ?_ | refine zC ?_ | refine yai ?_ | refine yaj ?_ | refine zR ?_ | refine zD ?_ | refine zK ?_ | refine zB ?_ | refine zA ?_ | refine zS ?_ | refine zU ?_ | refine zV ?_ | refine zF ?_ | with_reducible refine yac ?_ | with_reducible refine yag ?_ | refine yad ?_ | refine yae ?_ | refine yaf ?_ | refine zT ?_ | refine zE ?_ | refine zX ?_ | refine yar rfl rfl (mwrite_con y.kind z hz0.1 hz0.2) rfl rfl ?_))
        refine L_write u1 9 1003 (outC (yba p) c k ++ outW (yba p) s 0) (ba (ydg y.kind z)) (ydg y.kind z) (by rw [bl_ba]) (by rw [yda]; simp; omega) rfl rfl rfl rfl rfl rfl rfl rfl rfl ?_
        (repeat (first | refine zI ?_ | refine zL ?_ | refine zC ?_ | refine yai ?_ | refine yaj ?_ | refine zR ?_ | refine zD ?_ | refine zK ?_ | refine zB ?_ | refine zA ?_ | refine zS ?_ | refine zU ?_ | refine zV ?_ | refine zF ?_ | with_reducible refine yac ?_ | with_reducible refine yag ?_ | refine yad ?_ | refine yae ?_ | refine yaf ?_ | refine zT ?_ | refine zE ?_ | refine zX ?_))
        refine rnd (true, 0 + 1) (by simp only; omega) (by simp only; omega) (by (repeat (first | exact yan | refine yak rfl ?_))) ?_
        have e : outC (yba p) c k ++ outW (yba p) s (0 + 1) = outC (yba p) c k ++ outW (yba p) s 0 ++ ydg y.kind z := by rw [hnx, if_pos rfl]; simp [outW, joinW]
        simp only [e]
        exact yaa rfl (yaa rfl (yaa rfl yab))
    · simp at h2
      obtain rfl : x = s.length := by omega
      (repeat (first | refine zI ?_ | refine zL ?_ | refine zC ?_ | refine yai ?_ | refine yaj ?_ | refine zR ?_ | refine zD ?_ | refine zK ?_ | refine zB ?_ | refine zA ?_ | refine zS ?_ | refine zU ?_ | refine zV ?_ | refine zF ?_ | with_reducible refine yac ?_ | with_reducible refine yag ?_ | refine yad ?_ | refine yae ?_ | refine yaf ?_ | refine zT ?_ | refine zE ?_ | refine zX ?_))
      refine L_write u1 9 1003 (outC (yba p) c k ++ outW (yba p) s s.length) (ba [10]) [10] (by rw [bl_ba]) (by rw [yda]; simp; omega) rfl rfl rfl rfl rfl rfl rfl rfl rfl ?_
      (repeat (first | refine zI ?_ | refine zL ?_ | refine zC ?_ | refine yai ?_ | refine yaj ?_ | refine zR ?_ | refine zD ?_ | refine zK ?_ | refine zB ?_ | refine zA ?_ | refine zS ?_ | refine zU ?_ | refine zV ?_ | refine zF ?_ | with_reducible refine yac ?_ | with_reducible refine yag ?_ | refine yad ?_ | refine yae ?_ | refine yaf ?_ | refine zT ?_ | refine zE ?_ | refine zX ?_))
      refine rnd (true, k + 1) (by simp only; omega) (by simp only; omega) (by (repeat (first | exact yan | refine yak rfl ?_))) ?_
      have e : outC (yba p) c (k + 1) = outC (yba p) c k ++ outW (yba p) s s.length ++ [10] := by rw [outC_next hs, outW_all hsl]; simp
      simp only [e]
      exact yaa rfl (yaa rfl (yaa rfl yab))
  · simp at h1
    obtain rfl : k = c.length := by omega
    have hov : outC (yba p) c c.length = formatC (yba p) c := by unfold outC formatC; rw [List.take_length]
    have hne : outC (yba p) c c.length ≠ [] := by
      obtain ⟨s, hs⟩ := yeh (show c.length - 1 < c.length by omega)
      have := outC_next (ks := yba p) hs
      rw [show c.length - 1 + 1 = c.length by omega] at this
      rw [this]; simp
    (repeat (first | refine zI ?_ | refine zL ?_ | refine zC ?_ | refine yai ?_ | refine yaj ?_ | refine zR ?_ | refine zD ?_ | refine zK ?_ | refine zB ?_ | refine zA ?_ | refine zS ?_ | refine zU ?_ | refine zV ?_ | refine zF ?_ | with_reducible refine yac ?_ | with_reducible refine yag ?_ | refine yad ?_ | refine yae ?_ | refine yaf ?_ | refine zT ?_ | refine zE ?_ | refine zX ?_))
    refine L_built u 9 1003 (outC (yba p) c c.length) hne (by omega) rfl rfl rfl rfl rfl rfl rfl rfl rfl ?_
    (repeat (first | refine zI ?_ | refine zL ?_ | refine zC ?_ | refine yai ?_ | refine yaj ?_ | refine zR ?_ | refine zD ?_ | refine zK ?_ | refine zB ?_ | refine zA ?_ | refine zS ?_ | refine zU ?_ | refine zV ?_ | refine zF ?_ | with_reducible refine yac ?_ | with_reducible refine yag ?_ | refine yad ?_ | refine yae ?_ | refine yaf ?_ | refine zT ?_ | refine zE ?_ | refine zX ?_))
    refine yas ?_; refine ⟨_, rfl, ?_⟩
    refine frz_eq ?_
    rw [fmtCA, fmtCT, if_pos h0, h0, hov]
    rfl
end Go.Proofs.YtmlkdoimkdbdpaaGreatDoor
