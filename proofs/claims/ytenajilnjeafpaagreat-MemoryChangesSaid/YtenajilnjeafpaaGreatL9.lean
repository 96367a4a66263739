/- Part 9 of the texts under MemoryRanks,MemoryChanges,MemoryCarries,MemoryCorruptsNamedNodes,MemoryCarriesToItself: joined, with what it needs alone. -/
import Derived.Test.YtenajilnjeafpaaGreatL7
import Derived.Test.YtenajilnjeafpaaGreatL8
set_option linter.unusedVariables false
set_option maxRecDepth 100000
set_option maxHeartbeats 8000000
namespace Go.Proofs.YtenajilnjeafpaaGreat
open Go.RowKit
/-- A table of ranges. -/
def encRg (p : Int × Int) : List AV := [i64 p.1, i64 p.2]
def encTab (tbl : List (List (Int × Int))) : AV := .sl 1 (tbl.map fun r => [.sl 2 (r.map encRg)])
def nilA : AV := .v (.slice none 0 0)
theorem rep1 (x : AV) (n : Nat) : repA n [x] = List.replicate n x := by
  induction n with
  | zero => rfl
  | succ n ih => simp [repA, ih, List.replicate_succ]
/-- What build writes. -/
def builtR (tbl : List (List (Int × Int))) (val : Nat → Nat → Int) : List (List AV) := tbl.mapIdx fun i r => (List.range r.length).map fun j => i64 (val i j)
theorem builtR_get {tbl : List (List (Int × Int))} {val : Nat → Nat → Int} {i : Nat} {r : List (Int × Int)} (h : tbl[i]? = some r) : (builtR tbl val)[i]? = some ((List.range r.length).map fun j => i64 (val i j)) := by
  simp [builtR, List.getElem?_mapIdx, h]
theorem take_snocM {α : Type} {l : List α} {i : Nat} {x : α} (h : l[i]? = some x) : l.take (i + 1) = l.take i ++ [x] := by
  rw [List.take_add_one, h]; rfl
theorem set_fill {α : Type} {l : List α} {m j : Nat} {x z : α} (hl : l.length = m) (h : l[j]? = some x) : (l.take j ++ List.replicate (m - j) z).set j x = l.take (j + 1) ++ List.replicate (m - (j + 1)) z := by
  have hj := (List.getElem?_eq_some_iff.1 h).1
  have e : (l.take j).length = j := by rw [List.length_take]; omega
  rw [List.set_append_right _ _ (Nat.le_of_eq e), e, Nat.sub_self, show m - j = (m - (j + 1)) + 1 by omega, List.replicate_succ, take_snocM h]
  simp
theorem set_last {α : Type} {l : List α} {k : Nat} {x y : α} (h : l.length = k) : (l ++ [x]).set k y = l ++ [y] := by
  rw [List.set_append_right _ _ (Nat.le_of_eq h), h, Nat.sub_self]; rfl

theorem build_con (tbl : List (List (Int × Int))) (F : Nat) (caps : List AV) (val : Nat → Nat → Int) (hcaps : pureA.pureL caps = true) (hlow : lowA.lowL caps = true) (hn : tbl.length ≤ 1000) (hm : ∀ r ∈ tbl, r.length ≤ 1000) (hF : ∀ (i j : Nat) (r : List (Int × Int)), tbl[i]? = some r → j < r.length → Con Tryz.prog F ([i64 i, i64 j] ++ caps) (i64 (val i j))) :
    ConM Tryz.prog 39 [encTab tbl, .fn F caps] (fun _ => none) (.ls 10 1 tbl.length) (hlook (matH 10 1 (builtR tbl val) [])) := by
  refine conO_of tok Tryz.func39 rfl rfl Tryz.ntmps39 Tryz.results39 rfl rfl ?_
  (repeat (first | refine zI ?_ | refine zL ?_ | refine zC ?_ | refine L_nil ?_ | refine A_seq ?_ | refine zR ?_ | refine zD ?_ | refine zK ?_ | refine zB ?_ | refine zA ?_ | refine zS ?_ | refine zU ?_ | refine zV ?_ | refine zF ?_ | with_reducible refine inblk_n ?_ | with_reducible refine then_n ?_ | refine A_block ?_ | refine A_skip ?_ | refine A_exit ?_ | refine zT ?_ | refine zE ?_ | refine zX ?_ | refine L_make tok rfl rfl rfl rfl (by constructor <;> omega) (by simp [freshT, ment, enumF, encTab, pureA.pureL.ment hcaps]) rfl rfl rfl rfl ?_))
  refine A_asMat 10 (List.replicate tbl.length nilA) rfl (rep1 _ _) ?_
  refine A_invS (α := Nat) (fun k => [(13, i64 k), (12, i64 tbl.length), (5, .ls 10 1 tbl.length), (0, encTab tbl), (1, .fn F caps)]) (fun k => matH 10 1 ((builtR tbl val).take k) (List.replicate (tbl.length - k) nilA)) (fun k => tbl.length - k) (fun k => k ≤ tbl.length) 0 (by omega) (by (repeat (first | exact subT_nil | refine subT_cons rfl ?_))) (hsE (by simp only [matH, matC, famL, List.take_zero, List.nil_append, Nat.sub_zero]; exact hlook_dup)) ?_
  intro k hk
  (repeat (first | refine zI ?_ | refine zL ?_ | refine zC ?_ | refine L_nil ?_ | refine A_seq ?_ | refine zR ?_ | refine zD ?_ | refine zK ?_ | refine zB ?_ | refine zA ?_ | refine zS ?_ | refine zU ?_ | refine zV ?_ | refine zF ?_ | with_reducible refine inblk_n ?_ | with_reducible refine then_n ?_ | refine A_block ?_ | refine A_skip ?_ | refine A_exit ?_ | refine zT ?_ | refine zE ?_ | refine zX ?_))
  refine A_cond rfl (fun h => ?_) (fun h => ?_)
  · simp at h
    obtain ⟨r, hr⟩ := getN (show k < tbl.length by omega)
    (repeat (first | refine zI ?_ | refine zL ?_ | refine zC ?_ | refine L_nil ?_ | refine A_seq ?_ | refine zR ?_ | refine zD ?_ | refine zK ?_ | refine zB ?_ | refine zA ?_ | refine zS ?_ | refine zU ?_ | refine zV ?_ | refine zF ?_ | with_reducible refine inblk_n ?_ | with_reducible refine then_n ?_ | refine A_block ?_ | refine A_skip ?_ | refine A_exit ?_ | refine zT ?_ | refine zE ?_ | refine zX ?_))
    have hrm := hm r (List.mem_of_getElem? hr)
    have hrow := builtR_get (val := val) hr
    have hlen : (builtR tbl val).length = tbl.length := by simp [builtR]
    have htk : ((builtR tbl val).take k).length = k := by rw [List.length_take, hlen]; omega
    refine L_makeI tok (fam 10 k) rfl rfl rfl rfl (by constructor <;> omega) (fresh_fam (f := []) (by simp [lowT, lowA, encTab, i64, hlow]; rfl) rfl rfl htk.symm (low_rep nilA rfl _)) rfl rfl rfl ?_
    refine L_index_ls tok rfl rfl (by rw [hlook_ne (fam_ne (by omega))]; exact mat_outer (f := []) rfl) rfl (by omega) (by omega) rfl rfl ?_
    refine L_storeM tok rfl rfl rfl rfl rfl (by rw [hlook_ne (fam_ne (by omega))]; exact mat_outer (f := []) rfl) (by rw [List.length_append, matC_len, htk, List.length_replicate]; simp; omega) rfl rfl ?_
    refine L_hs (h' := matH 10 1 ((builtR tbl val).take k ++ [List.replicate r.length (i64 0)]) (List.replicate (tbl.length - k - 1) nilA)) ?_ ?_
    · have hrep : repA r.length (vMap [Value.int .i64 0]) = List.replicate r.length (i64 0) := rep1 _ _
      have hex : List.replicate (tbl.length - k) nilA = nilA :: List.replicate (tbl.length - k - 1) nilA := by rw [← List.replicate_succ]; congr 1; omega
      rw [show ((k : Int).toNat * 1) = k by simp]
      exact mat_new (f := []) (a := nilA) rfl rfl rfl htk.symm (by rw [hrep]; simp) hex (by rw [hrep])
    (repeat (first | refine zI ?_ | refine zL ?_ | refine zC ?_ | refine L_nil ?_ | refine A_seq ?_ | refine zR ?_ | refine zD ?_ | refine zK ?_ | refine zB ?_ | refine zA ?_ | refine zS ?_ | refine zU ?_ | refine zV ?_ | refine zF ?_ | with_reducible refine inblk_n ?_ | with_reducible refine then_n ?_ | refine A_block ?_ | refine A_skip ?_ | refine A_exit ?_ | refine zT ?_ | refine zE ?_ | refine zX ?_))
    refine A_invS (α := Nat) (fun j => [(30, i64 j), (29, i64 r.length), (6, i64 k), (13, i64 k), (12, i64 tbl.length), (5, .ls 10 1 tbl.length), (0, encTab tbl), (1, .fn F caps)]) (fun j => matH 10 1 ((builtR tbl val).take k ++ [((List.range r.length).map fun j => i64 (val k j)).take j ++ List.replicate (r.length - j) (i64 0)]) (List.replicate (tbl.length - k - 1) nilA)) (fun j => r.length - j) (fun j => j ≤ r.length) 0 (by omega) (by (repeat (first | exact subT_nil | refine subT_cons rfl ?_))) (hsE (by simp)) ?_
    intro j hj
    (repeat (first | refine zI ?_ | refine zL ?_ | refine zC ?_ | refine L_nil ?_ | refine A_seq ?_ | refine zR ?_ | refine zD ?_ | refine zK ?_ | refine zB ?_ | refine zA ?_ | refine zS ?_ | refine zU ?_ | refine zV ?_ | refine zF ?_ | with_reducible refine inblk_n ?_ | with_reducible refine then_n ?_ | refine A_block ?_ | refine A_skip ?_ | refine A_exit ?_ | refine zT ?_ | refine zE ?_ | refine zX ?_))
    refine A_cond rfl (fun h2 => ?_) (fun h2 => ?_)
    · simp at h2
      have hpart : ((builtR tbl val).take k ++ [((List.range r.length).map fun j => i64 (val k j)).take j ++ List.replicate (r.length - j) (i64 0)])[k]? = some (((List.range r.length).map fun j => i64 (val k j)).take j ++ List.replicate (r.length - j) (i64 0)) := by
        rw [List.getElem?_append_right (by omega), htk, Nat.sub_self]; rfl
      have hpl : (((List.range r.length).map fun j => i64 (val k j)).take j ++ List.replicate (r.length - j) (i64 0)).length = r.length := by simp; omega
      (repeat (first | refine zI ?_ | refine zL ?_ | refine zC ?_ | refine L_nil ?_ | refine A_seq ?_ | refine zR ?_ | refine zD ?_ | refine zK ?_ | refine zB ?_ | refine zA ?_ | refine zS ?_ | refine zU ?_ | refine zV ?_ | refine zF ?_ | with_reducible refine inblk_n ?_ | with_reducible refine then_n ?_ | refine A_block ?_ | refine A_skip ?_ | refine A_exit ?_ | refine zT ?_ | refine zE ?_ | refine zX ?_))
      refine L_index_ls tok rfl rfl (mat_outer (f := []) rfl) rfl (by omega) (by omega) rfl rfl ?_
      refine L_load1 (r := .ls (fam 10 k) 1 r.length) tok rfl rfl rfl (by rw [matH_at_M]; exact cellsO_matO _) ?_ rfl rfl ?_
      · rw [show ((k : Int).toNat * 1) = k by simp, List.getElem?_append_left (by rw [matC_len]; simp; omega), matC_get, hpart]
        simp only [Option.map_some, hpl, Nat.div_one, Nat.zero_add]
      (repeat (first | refine zI ?_ | refine zL ?_ | refine zC ?_ | refine L_nil ?_ | refine A_seq ?_ | refine zR ?_ | refine zD ?_ | refine zK ?_ | refine zB ?_ | refine zA ?_ | refine zS ?_ | refine zU ?_ | refine zV ?_ | refine zF ?_ | with_reducible refine inblk_n ?_ | with_reducible refine then_n ?_ | refine A_block ?_ | refine A_skip ?_ | refine A_exit ?_ | refine zT ?_ | refine zE ?_ | refine zX ?_))
      refine L_call rfl rfl (hF k j r hr (by omega)) rfl rfl ?_
      refine L_index_ls tok rfl rfl (mat_row (f := []) rfl (by omega) hpart) rfl (by omega) (by omega) rfl rfl ?_
      refine L_storeI (h' := matH 10 1 ((builtR tbl val).take k ++ [((List.range r.length).map fun j => i64 (val k j)).take (j + 1) ++ List.replicate (r.length - (j + 1)) (i64 0)]) (List.replicate (tbl.length - k - 1) nilA)) tok rfl rfl rfl rfl rfl (mat_row (f := []) rfl (by omega) hpart) (by rw [hpl]; simp; omega) rfl ?_ rfl rfl ?_
      · rw [show ((j : Int).toNat * 1) = j by simp, set_fill (by simp) (show ((List.range r.length).map fun j => i64 (val k j))[j]? = some (i64 (val k j)) by rw [List.getElem?_map, List.getElem?_range (by omega)]; rfl)]
        refine (mat_upd (f := []) rfl (by omega) hpart (by simp; omega)).trans ?_
        rw [set_last htk]
        rfl
      (repeat (first | refine zI ?_ | refine zL ?_ | refine zC ?_ | refine L_nil ?_ | refine A_seq ?_ | refine zR ?_ | refine zD ?_ | refine zK ?_ | refine zB ?_ | refine zA ?_ | refine zS ?_ | refine zU ?_ | refine zV ?_ | refine zF ?_ | with_reducible refine inblk_n ?_ | with_reducible refine then_n ?_ | refine A_block ?_ | refine A_skip ?_ | refine A_exit ?_ | refine zT ?_ | refine zE ?_ | refine zX ?_))
      refine rndS (j + 1) (by omega) (by omega) (by (repeat (first | exact subT_nil | refine subT_cons rfl ?_))) (fun id o h => h)
    · simp at h2
      obtain rfl : j = r.length := by omega
      (repeat (first | refine zI ?_ | refine zL ?_ | refine zC ?_ | refine L_nil ?_ | refine A_seq ?_ | refine zR ?_ | refine zD ?_ | refine zK ?_ | refine zB ?_ | refine zA ?_ | refine zS ?_ | refine zU ?_ | refine zV ?_ | refine zF ?_ | with_reducible refine inblk_n ?_ | with_reducible refine then_n ?_ | refine A_block ?_ | refine A_skip ?_ | refine A_exit ?_ | refine zT ?_ | refine zE ?_ | refine zX ?_))
      refine rndS (k + 1) (by omega) (by omega) (by (repeat (first | exact subT_nil | refine subT_cons rfl ?_))) (hsE ?_)
      rw [take_snocM hrow]
      simp [List.take_of_length_le, Nat.sub_sub]
  · simp at h
    obtain rfl : k = tbl.length := by omega
    (repeat (first | refine zI ?_ | refine zL ?_ | refine zC ?_ | refine L_nil ?_ | refine A_seq ?_ | refine zR ?_ | refine zD ?_ | refine zK ?_ | refine zB ?_ | refine zA ?_ | refine zS ?_ | refine zU ?_ | refine zV ?_ | refine zF ?_ | with_reducible refine inblk_n ?_ | with_reducible refine then_n ?_ | refine A_block ?_ | refine A_skip ?_ | refine A_exit ?_ | refine zT ?_ | refine zE ?_ | refine zX ?_))
    refine A_ret ⟨_, rfl, wk_refl _, fun id o ho => ?_⟩
    have : (builtR tbl val).take tbl.length = builtR tbl val := List.take_of_length_le (by simp [builtR])
    rw [← this] at ho
    simpa [S] using ho

/-- A configuration's rows as cells. -/
def matR (c : List (List Int)) : List (List AV) := c.map fun r => r.map i64
theorem ints_flatM (r : List Int) : (r.map fun x => [i64 x]).flatten = r.map i64 := by
  induction r with
  | nil => rfl
  | cons x r ih => simp [ih]
theorem copy_con (c : List (List Int)) (hn : c.length ≤ 1000) (hm : ∀ r ∈ c, r.length ≤ 1000) : ConM Tryz.prog 59 [encC c] (fun _ => none) (.ls 8 1 c.length) (hlook (matH 8 1 (matR c) [])) := by
  refine conO_of tok Tryz.func59 rfl rfl Tryz.ntmps59 Tryz.results59 rfl rfl ?_
  (repeat (first | refine zI ?_ | refine zL ?_ | refine zC ?_ | refine L_nil ?_ | refine A_seq ?_ | refine zR ?_ | refine zD ?_ | refine zK ?_ | refine zB ?_ | refine zA ?_ | refine zS ?_ | refine zU ?_ | refine zV ?_ | refine zF ?_ | with_reducible refine inblk_n ?_ | with_reducible refine then_n ?_ | refine A_block ?_ | refine A_skip ?_ | refine A_exit ?_ | refine zT ?_ | refine zE ?_ | refine zX ?_ | refine L_make tok rfl rfl rfl rfl (by constructor <;> omega) rfl rfl rfl rfl rfl ?_))
  refine A_asMat 8 (List.replicate c.length nilA) rfl (rep1 _ _) ?_
  refine A_invS (α := Nat) (fun k => [(11, i64 k), (10, i64 c.length), (9, encC c), (3, .ls 8 1 c.length)]) (fun k => matH 8 1 (matR (c.take k)) (List.replicate (c.length - k) nilA)) (fun k => c.length - k) (fun k => k ≤ c.length) 0 (by omega) (by (repeat (first | exact subT_nil | refine subT_cons rfl ?_))) (hsE (by simp only [matH, matC, famL, List.take_zero, List.nil_append, Nat.sub_zero, matR, List.map_nil]; exact hlook_dup)) ?_
  intro k hk
  (repeat (first | refine zI ?_ | refine zL ?_ | refine zC ?_ | refine L_nil ?_ | refine A_seq ?_ | refine zR ?_ | refine zD ?_ | refine zK ?_ | refine zB ?_ | refine zA ?_ | refine zS ?_ | refine zU ?_ | refine zV ?_ | refine zF ?_ | with_reducible refine inblk_n ?_ | with_reducible refine then_n ?_ | refine A_block ?_ | refine A_skip ?_ | refine A_exit ?_ | refine zT ?_ | refine zE ?_ | refine zX ?_))
  refine A_cond rfl (fun h => ?_) (fun h => ?_)
  · simp at h
    obtain ⟨r, hr⟩ := getN (show k < c.length by omega)
    have hrm := hm r (List.mem_of_getElem? hr)
    have htk : (matR (c.take k)).length = k := by simp [matR]; omega
    (repeat (first | refine zI ?_ | refine zL ?_ | refine zC ?_ | refine L_nil ?_ | refine A_seq ?_ | refine zR ?_ | refine zD ?_ | refine zK ?_ | refine zB ?_ | refine zA ?_ | refine zS ?_ | refine zU ?_ | refine zV ?_ | refine zF ?_ | with_reducible refine inblk_n ?_ | with_reducible refine then_n ?_ | refine A_block ?_ | refine A_skip ?_ | refine A_exit ?_ | refine zT ?_ | refine zE ?_ | refine zX ?_))
    refine L_appendNilI tok (fam 8 k) rfl rfl rfl (by intro c hc; rw [ints_flatM] at hc; obtain ⟨x, _, rfl⟩ := List.mem_map.1 hc; rfl) (by constructor <;> simp <;> omega) (fresh_fam (f := []) rfl rfl rfl htk.symm (low_rep nilA rfl _)) rfl rfl rfl ?_
    refine L_index_ls tok rfl rfl (by rw [hlook_ne (fam_ne (by omega))]; exact matH_at_M) rfl (by omega) (by omega) rfl rfl ?_
    refine L_storeM tok rfl rfl rfl rfl rfl (by rw [hlook_ne (fam_ne (by omega))]; exact matH_at_M) (by rw [List.length_append, matC_len, htk, List.length_replicate]; simp; omega) rfl rfl ?_
    refine L_hs (h' := matH 8 1 (matR (c.take (k + 1))) (List.replicate (c.length - (k + 1)) nilA)) ?_ ?_
    · have hex : List.replicate (c.length - k) nilA = nilA :: List.replicate (c.length - (k + 1)) nilA := by rw [← List.replicate_succ]; congr 1; omega
      rw [show ((k : Int).toNat * 1) = k by simp, ints_flatM]
      exact mat_new (f := []) (a := nilA) rfl rfl rfl htk.symm (by simp) hex (by rw [take_snocM hr]; simp [matR])
    (repeat (first | refine zI ?_ | refine zL ?_ | refine zC ?_ | refine L_nil ?_ | refine A_seq ?_ | refine zR ?_ | refine zD ?_ | refine zK ?_ | refine zB ?_ | refine zA ?_ | refine zS ?_ | refine zU ?_ | refine zV ?_ | refine zF ?_ | with_reducible refine inblk_n ?_ | with_reducible refine then_n ?_ | refine A_block ?_ | refine A_skip ?_ | refine A_exit ?_ | refine zT ?_ | refine zE ?_ | refine zX ?_))
    refine rndS (k + 1) (by omega) (by omega) (by (repeat (first | exact subT_nil | refine subT_cons rfl ?_))) (fun id o h => h)
  · simp at h
    obtain rfl : k = c.length := by omega
    (repeat (first | refine zI ?_ | refine zL ?_ | refine zC ?_ | refine L_nil ?_ | refine A_seq ?_ | refine zR ?_ | refine zD ?_ | refine zK ?_ | refine zB ?_ | refine zA ?_ | refine zS ?_ | refine zU ?_ | refine zV ?_ | refine zF ?_ | with_reducible refine inblk_n ?_ | with_reducible refine then_n ?_ | refine A_block ?_ | refine A_skip ?_ | refine A_exit ?_ | refine zT ?_ | refine zE ?_ | refine zX ?_))
    refine A_ret ⟨_, rfl, wk_refl _, fun id o ho => ?_⟩
    rw [← List.take_length (l := c)] at ho
    simpa [S] using ho
end Go.Proofs.YtenajilnjeafpaaGreat
