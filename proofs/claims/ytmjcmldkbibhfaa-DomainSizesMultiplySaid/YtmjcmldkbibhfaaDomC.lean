/- Contracts: Mod, fair, awake. The laws of domains: each returns true. -/
import Derived.Test.YtmjcmldkbibhfaaDomB
import Derived.Test.YtmjcmldkbibhfaaSymR
set_option linter.unusedVariables false
set_option maxRecDepth 100000
set_option maxHeartbeats 8000000
namespace Go.Proofs.Ytmjcmldkbibhfaa
open Go.RowKit

def modI (a b : Int) : Int := if a.tmod b < 0 then a.tmod b + b else a.tmod b
theorem modI_bd {a b : Int} (hb : 0 < b) : 0 ≤ modI a b ∧ modI a b < b := by
  unfold modI
  have h1 := Int.tmod_lt_of_pos a hb
  have h2 := Int.lt_tmod_of_pos a hb
  split <;> omega
theorem mod_con (a b : Int) (hb : 0 < b ∧ b ≤ 1000000) : Con Try.prog 15 [i64 a, i64 b] (i64 (modI a b)) := by
  have h1 := Int.tmod_lt_of_pos a hb.1
  have h2 := Int.lt_tmod_of_pos a hb.1
  refine con_of Try.func15 rfl rfl Try.ntmps15 Try.results15 rfl rfl ?_
  (repeat (first | refine L_int tok rfl (by constructor <;> omega) rfl rfl ?_ | refine L_lenMap tok rfl rfl rfl rfl ?_ | refine L_calm tok rfl rfl rfl ?_ | refine L_nil ?_ | refine A_seq ?_ | refine A_region (lf := lf0) ?_ | refine A_region_drawn (lf := lf0) mixed (by kernel_rfl) rfl ?_ | refine L_skip rfl rfl ?_ | refine L_box rfl rfl rfl rfl rfl rfl rfl rfl ?_ | refine L_alloc tok rfl rfl rfl rfl rfl rfl rfl ?_ | refine L_store tok rfl rfl rfl rfl rfl rfl rfl rfl rfl ?_ | refine L_build tok rfl rfl rfl rfl rfl rfl ?_ | refine L_buildSlice tok rfl rfl rfl rfl rfl rfl rfl rfl rfl ?_ | refine L_makeFunc rfl rfl rfl ?_ | with_reducible refine inblk_n ?_ | with_reducible refine then_n ?_ | refine A_block ?_ | refine A_skip ?_ | refine A_exit ?_ | refine A_cond (b := true) rfl (fun _ => ?_) (fun h => by cases h) | refine A_cond (b := false) rfl (fun h => by cases h) (fun _ => ?_) | refine L_index tok rfl rfl rfl (by omega) (row_map (by assumption)) rfl rfl ?_ | refine L_index tok rfl rfl rfl (by omega) (row_mapI (by assumption)) rfl rfl ?_ | refine L_rem rfl rfl (by omega) rfl rfl ?_))
  refine A_cond rfl (fun h => ?_) (fun h => ?_)
  · simp at h
    (repeat (first | refine L_int tok rfl (by constructor <;> omega) rfl rfl ?_ | refine L_lenMap tok rfl rfl rfl rfl ?_ | refine L_calm tok rfl rfl rfl ?_ | refine L_nil ?_ | refine A_seq ?_ | refine A_region (lf := lf0) ?_ | refine A_region_drawn (lf := lf0) mixed (by kernel_rfl) rfl ?_ | refine L_skip rfl rfl ?_ | refine L_box rfl rfl rfl rfl rfl rfl rfl rfl ?_ | refine L_alloc tok rfl rfl rfl rfl rfl rfl rfl ?_ | refine L_store tok rfl rfl rfl rfl rfl rfl rfl rfl rfl ?_ | refine L_build tok rfl rfl rfl rfl rfl rfl ?_ | refine L_buildSlice tok rfl rfl rfl rfl rfl rfl rfl rfl rfl ?_ | refine L_makeFunc rfl rfl rfl ?_ | with_reducible refine inblk_n ?_ | with_reducible refine then_n ?_ | refine A_block ?_ | refine A_skip ?_ | refine A_exit ?_ | refine A_cond (b := true) rfl (fun _ => ?_) (fun h => by cases h) | refine A_cond (b := false) rfl (fun h => by cases h) (fun _ => ?_) | refine L_index tok rfl rfl rfl (by omega) (row_map (by assumption)) rfl rfl ?_ | refine L_index tok rfl rfl rfl (by omega) (row_mapI (by assumption)) rfl rfl ?_))
    refine A_ret ?_; refine ⟨_, rfl, ?_⟩
    exact frz_i64 (by unfold modI; rw [if_pos h])
  · simp at h
    (repeat (first | refine L_int tok rfl (by constructor <;> omega) rfl rfl ?_ | refine L_lenMap tok rfl rfl rfl rfl ?_ | refine L_calm tok rfl rfl rfl ?_ | refine L_nil ?_ | refine A_seq ?_ | refine A_region (lf := lf0) ?_ | refine A_region_drawn (lf := lf0) mixed (by kernel_rfl) rfl ?_ | refine L_skip rfl rfl ?_ | refine L_box rfl rfl rfl rfl rfl rfl rfl rfl ?_ | refine L_alloc tok rfl rfl rfl rfl rfl rfl rfl ?_ | refine L_store tok rfl rfl rfl rfl rfl rfl rfl rfl rfl ?_ | refine L_build tok rfl rfl rfl rfl rfl rfl ?_ | refine L_buildSlice tok rfl rfl rfl rfl rfl rfl rfl rfl rfl ?_ | refine L_makeFunc rfl rfl rfl ?_ | with_reducible refine inblk_n ?_ | with_reducible refine then_n ?_ | refine A_block ?_ | refine A_skip ?_ | refine A_exit ?_ | refine A_cond (b := true) rfl (fun _ => ?_) (fun h => by cases h) | refine A_cond (b := false) rfl (fun h => by cases h) (fun _ => ?_) | refine L_index tok rfl rfl rfl (by omega) (row_map (by assumption)) rfl rfl ?_ | refine L_index tok rfl rfl rfl (by omega) (row_mapI (by assumption)) rfl rfl ?_))
    refine A_ret ?_; refine ⟨_, rfl, ?_⟩
    exact frz_i64 (by unfold modI; rw [if_neg (by omega)])
theorem fair_con (p : ProgD) (g : GraphD) (hin : ProgIn p) : Con Try.prog 9 [encP p, encG g] (boolA (lightB p && lightG g)) := by
  refine con_of Try.func9 rfl rfl Try.ntmps9 Try.results9 rfl rfl ?_
  (repeat (first | refine L_int tok rfl (by constructor <;> omega) rfl rfl ?_ | refine L_lenMap tok rfl rfl rfl rfl ?_ | refine L_calm tok rfl rfl rfl ?_ | refine L_nil ?_ | refine A_seq ?_ | refine A_region (lf := lf0) ?_ | refine A_region_drawn (lf := lf0) mixed (by kernel_rfl) rfl ?_ | refine L_skip rfl rfl ?_ | refine L_box rfl rfl rfl rfl rfl rfl rfl rfl ?_ | refine L_alloc tok rfl rfl rfl rfl rfl rfl rfl ?_ | refine L_store tok rfl rfl rfl rfl rfl rfl rfl rfl rfl ?_ | refine L_build tok rfl rfl rfl rfl rfl rfl ?_ | refine L_buildSlice tok rfl rfl rfl rfl rfl rfl rfl rfl rfl ?_ | refine L_makeFunc rfl rfl rfl ?_ | with_reducible refine inblk_n ?_ | with_reducible refine then_n ?_ | refine A_block ?_ | refine A_skip ?_ | refine A_exit ?_ | refine A_cond (b := true) rfl (fun _ => ?_) (fun h => by cases h) | refine A_cond (b := false) rfl (fun h => by cases h) (fun _ => ?_) | refine L_index tok rfl rfl rfl (by omega) (row_map (by assumption)) rfl rfl ?_ | refine L_index tok rfl rfl rfl (by omega) (row_mapI (by assumption)) rfl rfl ?_ | refine L_call rfl rfl (lightP_con p hin) rfl rfl ?_))
  refine L_split 7 rfl (fun h1 => ?_) (fun h1 => ?_)
  · (repeat (first | refine L_int tok rfl (by constructor <;> omega) rfl rfl ?_ | refine L_lenMap tok rfl rfl rfl rfl ?_ | refine L_calm tok rfl rfl rfl ?_ | refine L_nil ?_ | refine A_seq ?_ | refine A_region (lf := lf0) ?_ | refine A_region_drawn (lf := lf0) mixed (by kernel_rfl) rfl ?_ | refine L_skip rfl rfl ?_ | refine L_box rfl rfl rfl rfl rfl rfl rfl rfl ?_ | refine L_alloc tok rfl rfl rfl rfl rfl rfl rfl ?_ | refine L_store tok rfl rfl rfl rfl rfl rfl rfl rfl rfl ?_ | refine L_build tok rfl rfl rfl rfl rfl rfl ?_ | refine L_buildSlice tok rfl rfl rfl rfl rfl rfl rfl rfl rfl ?_ | refine L_makeFunc rfl rfl rfl ?_ | with_reducible refine inblk_n ?_ | with_reducible refine then_n ?_ | refine A_block ?_ | refine A_skip ?_ | refine A_exit ?_ | refine A_cond (b := true) rfl (fun _ => ?_) (fun h => by cases h) | refine A_cond (b := false) rfl (fun h => by cases h) (fun _ => ?_) | refine L_index tok rfl rfl rfl (by omega) (row_map (by assumption)) rfl rfl ?_ | refine L_index tok rfl rfl rfl (by omega) (row_mapI (by assumption)) rfl rfl ?_ | refine L_call rfl rfl (lightGraph_con g) rfl rfl ?_))
    refine A_ret ?_; refine ⟨_, rfl, ?_⟩
    exact frz_bool (by rw [h1]; rfl)
  · (repeat (first | refine L_int tok rfl (by constructor <;> omega) rfl rfl ?_ | refine L_lenMap tok rfl rfl rfl rfl ?_ | refine L_calm tok rfl rfl rfl ?_ | refine L_nil ?_ | refine A_seq ?_ | refine A_region (lf := lf0) ?_ | refine A_region_drawn (lf := lf0) mixed (by kernel_rfl) rfl ?_ | refine L_skip rfl rfl ?_ | refine L_box rfl rfl rfl rfl rfl rfl rfl rfl ?_ | refine L_alloc tok rfl rfl rfl rfl rfl rfl rfl ?_ | refine L_store tok rfl rfl rfl rfl rfl rfl rfl rfl rfl ?_ | refine L_build tok rfl rfl rfl rfl rfl rfl ?_ | refine L_buildSlice tok rfl rfl rfl rfl rfl rfl rfl rfl rfl ?_ | refine L_makeFunc rfl rfl rfl ?_ | with_reducible refine inblk_n ?_ | with_reducible refine then_n ?_ | refine A_block ?_ | refine A_skip ?_ | refine A_exit ?_ | refine A_cond (b := true) rfl (fun _ => ?_) (fun h => by cases h) | refine A_cond (b := false) rfl (fun h => by cases h) (fun _ => ?_) | refine L_index tok rfl rfl rfl (by omega) (row_map (by assumption)) rfl rfl ?_ | refine L_index tok rfl rfl rfl (by omega) (row_mapI (by assumption)) rfl rfl ?_))
    refine A_ret ?_; refine ⟨_, rfl, ?_⟩
    exact frz_bool (by rw [h1]; rfl)

def awP : ProgD := ⟨"a".toUTF8, [⟨"d".toUTF8, 1, 0, 1, 2, 0⟩], []⟩
def awG : GraphD := ⟨[0], [[]]⟩
theorem awF : Fair awP awG := by
  refine ⟨⟨by decide, fun x hx => ?_, fun r hr => by simp [awP] at hr⟩, light_of (by decide), by decide⟩
  simp [awP] at hx
  subst hx
  unfold VarIn In64
  decide +kernel
theorem awake_con : Con Try.prog 10 [] (boolA true) := by
  have hr : rangeF awP awG 0 0 = (0, 3, 0) := by decide +kernel
  have hc : clampF awP awG 0 0 9 = 3 := by decide +kernel
  have e1 := range_con awP awG 0 0 awF
  have e2 := clamp_con awP awG 0 0 9 awF
  rw [hr] at e1
  rw [hc] at e2
  have hw1 : Wk (.agg [strA "a".toUTF8, .sl 6 [[strA "d".toUTF8, i64 1, i64 0, i64 1, i64 2, i64 0]], .v (.slice none 0 0)]) (encP awP) := wk_agg (.cons (wk_refl _) (.cons (wk_refl _) (.cons (wk_nil 3) .nil)))
  have hw2 : Wk (.agg [.sl 1 [[i64 0]], .sl 1 [[.v (.slice none 0 0)]]]) (encG awG) := wk_agg (.cons (wk_refl _) (.cons (wk_sl (.cons (.cons (wk_nil 2) .nil) .nil)) .nil))
  have f1 := Con.weak (.cons hw1 (.cons hw2 (.cons (wk_refl _) (.cons (wk_refl _) .nil)))) e1
  have f2 := Con.weak (.cons hw1 (.cons hw2 (.cons (wk_refl _) (.cons (wk_refl _) (.cons (wk_refl _) .nil))))) e2
  refine con_of Try.func10 rfl rfl Try.ntmps10 Try.results10 rfl rfl ?_
  (repeat (first | refine L_int tok rfl (by constructor <;> omega) rfl rfl ?_ | refine L_lenMap tok rfl rfl rfl rfl ?_ | refine L_calm tok rfl rfl rfl ?_ | refine L_nil ?_ | refine A_seq ?_ | refine A_region (lf := lf0) ?_ | refine A_region_drawn (lf := lf0) mixed (by kernel_rfl) rfl ?_ | refine L_skip rfl rfl ?_ | refine L_box rfl rfl rfl rfl rfl rfl rfl rfl ?_ | refine L_alloc tok rfl rfl rfl rfl rfl rfl rfl ?_ | refine L_store tok rfl rfl rfl rfl rfl rfl rfl rfl rfl ?_ | refine L_build tok rfl rfl rfl rfl rfl rfl ?_ | refine L_buildSlice tok rfl rfl rfl rfl rfl rfl rfl rfl rfl ?_ | refine L_makeFunc rfl rfl rfl ?_ | with_reducible refine inblk_n ?_ | with_reducible refine then_n ?_ | refine A_block ?_ | refine A_skip ?_ | refine A_exit ?_ | refine A_cond (b := true) rfl (fun _ => ?_) (fun h => by cases h) | refine A_cond (b := false) rfl (fun h => by cases h) (fun _ => ?_) | refine L_index tok rfl rfl rfl (by omega) (row_map (by assumption)) rfl rfl ?_ | refine L_index tok rfl rfl rfl (by omega) (row_mapI (by assumption)) rfl rfl ?_ | refine L_call rfl rfl f1 rfl rfl ?_ | refine L_call rfl rfl f2 rfl rfl ?_))
  refine A_ret ?_; refine ⟨_, rfl, ?_⟩
  exact frz_bool rfl
end Go.Proofs.Ytmjcmldkbibhfaa

set_option linter.unusedVariables false
set_option maxRecDepth 100000
set_option maxHeartbeats 8000000
namespace Go.Proofs.Ytmjcmldkbibhfaa
open Go.RowKit

theorem fit_ok {x : VarD} {g : GraphD} {deg : Int} (hf : fitB g x = true) (hx : numB x = true) (hd : 0 ≤ deg ∧ deg ≤ 30) : (boundsV x g deg).1 ≤ (boundsV x g deg).2 ∧ (boundsV x g deg).2 - (boundsV x g deg).1 + 1 ≤ 4096 := by
  have h1 := num_facts hx
  unfold fitB at hf
  unfold boundsV at hf ⊢
  rcases h1.1 with hk | hk | hk
  · simp [hk] at hf ⊢; omega
  · simp [hk]
  · simp [hk]; omega
theorem bring_in {k lo hi a : Int} (h : lo ≤ hi) (h3 : k = 3 → lo = -1) : lo ≤ bringF k lo hi a ∧ bringF k lo hi a ≤ hi := by
  unfold bringF; split
  · omega
  · split
    · omega
    · split <;> omega
theorem bring_id {k lo hi a : Int} (h : lo ≤ a ∧ a ≤ hi) : bringF k lo hi a = a := by unfold bringF; rw [if_pos h]
theorem bring_iff {k lo hi a : Int} (h : lo ≤ hi) (h3 : k = 3 → lo = -1) : bringF k lo hi a = a ↔ lo ≤ a ∧ a ≤ hi :=
  ⟨fun h' => by rw [← h']; exact bring_in h h3, bring_id⟩
theorem bring_le {k lo hi a b : Int} (h : lo ≤ hi) (h3 : k ≠ 3) (hab : a ≤ b) : bringF k lo hi a ≤ bringF k lo hi b := by
  unfold bringF
  rw [if_neg h3, if_neg h3]
  split <;> split <;> (try split) <;> (try split) <;> omega
theorem bounds_three {x : VarD} {g : GraphD} {deg : Int} (h : x.kind = 3) : boundsV x g deg = (-1, deg - 1) := by unfold boundsV; rw [if_neg (by omega), if_pos h]
theorem bounds_same {x : VarD} {g : GraphD} {deg deg' : Int} (h : x.kind ≠ 3) : boundsV x g deg = boundsV x g deg' := by unfold boundsV; rw [if_neg h, if_neg h]
theorem range_at {p : ProgD} {g : GraphD} {v x : Int} {y : VarD} {ls : List Lk} (h : fitsF p g = 0) (hv : 0 ≤ v ∧ v < g.ports.length) (hx : 0 ≤ x ∧ x < p.vars.length) (hy : p.vars[x.toNat]? = some y) (hls : g.ports[v.toNat]? = some ls) : rangeF p g v x = ((boundsV y g ls.length).1, (boundsV y g ls.length).2, 0) := by
  obtain ⟨h1, h2, h3⟩ := fits_zero.1 h
  unfold rangeF
  rw [if_pos h1, if_pos h2, if_pos ((there_iff _ _ _ _).2 ⟨hv.1, hv.2, hx.1, hx.2⟩), var_at hy, deg_at hls]
theorem clamp_at {p : ProgD} {g : GraphD} {v x a : Int} {y : VarD} {ls : List Lk} (h : fitsF p g = 0) (hv : 0 ≤ v ∧ v < g.ports.length) (hx : 0 ≤ x ∧ x < p.vars.length) (hy : p.vars[x.toNat]? = some y) (hls : g.ports[v.toNat]? = some ls) : clampF p g v x a = bringF y.kind (boundsV y g ls.length).1 (boundsV y g ls.length).2 a := by
  unfold clampF
  rw [if_pos h, if_pos ((there_iff _ _ _ _).2 ⟨hv.1, hv.2, hx.1, hx.2⟩), var_at hy, deg_at hls]

theorem ranges_con (p : ProgD) (g : GraphD) (v x : Int) (hin : ProgIn p) : Con Try.prog 3 [encP p, encG g, i64 v, i64 x] (boolA true) := by
  refine con_of Try.func3 rfl rfl Try.ntmps3 Try.results3 rfl rfl ?_
  (repeat (first | refine L_int tok rfl (by constructor <;> omega) rfl rfl ?_ | refine L_lenMap tok rfl rfl rfl rfl ?_ | refine L_calm tok rfl rfl rfl ?_ | refine L_nil ?_ | refine A_seq ?_ | refine A_region (lf := lf0) ?_ | refine A_region_drawn (lf := lf0) mixed (by kernel_rfl) rfl ?_ | refine L_skip rfl rfl ?_ | refine L_box rfl rfl rfl rfl rfl rfl rfl rfl ?_ | refine L_alloc tok rfl rfl rfl rfl rfl rfl rfl ?_ | refine L_store tok rfl rfl rfl rfl rfl rfl rfl rfl rfl ?_ | refine L_build tok rfl rfl rfl rfl rfl rfl ?_ | refine L_buildSlice tok rfl rfl rfl rfl rfl rfl rfl rfl rfl ?_ | refine L_makeFunc rfl rfl rfl ?_ | with_reducible refine inblk_n ?_ | with_reducible refine then_n ?_ | refine A_block ?_ | refine A_skip ?_ | refine A_exit ?_ | refine A_cond (b := true) rfl (fun _ => ?_) (fun h => by cases h) | refine A_cond (b := false) rfl (fun h => by cases h) (fun _ => ?_) | refine L_index tok rfl rfl rfl (by omega) (row_map (by assumption)) rfl rfl ?_ | refine L_index tok rfl rfl rfl (by omega) (row_mapI (by assumption)) rfl rfl ?_ | refine L_call rfl rfl (fair_con p g hin) rfl rfl ?_))
  refine A_cond rfl (fun h => ?_) (fun h => ?_)
  · (repeat (first | refine L_int tok rfl (by constructor <;> omega) rfl rfl ?_ | refine L_lenMap tok rfl rfl rfl rfl ?_ | refine L_calm tok rfl rfl rfl ?_ | refine L_nil ?_ | refine A_seq ?_ | refine A_region (lf := lf0) ?_ | refine A_region_drawn (lf := lf0) mixed (by kernel_rfl) rfl ?_ | refine L_skip rfl rfl ?_ | refine L_box rfl rfl rfl rfl rfl rfl rfl rfl ?_ | refine L_alloc tok rfl rfl rfl rfl rfl rfl rfl ?_ | refine L_store tok rfl rfl rfl rfl rfl rfl rfl rfl rfl ?_ | refine L_build tok rfl rfl rfl rfl rfl rfl ?_ | refine L_buildSlice tok rfl rfl rfl rfl rfl rfl rfl rfl rfl ?_ | refine L_makeFunc rfl rfl rfl ?_ | with_reducible refine inblk_n ?_ | with_reducible refine then_n ?_ | refine A_block ?_ | refine A_skip ?_ | refine A_exit ?_ | refine A_cond (b := true) rfl (fun _ => ?_) (fun h => by cases h) | refine A_cond (b := false) rfl (fun h => by cases h) (fun _ => ?_) | refine L_index tok rfl rfl rfl (by omega) (row_map (by assumption)) rfl rfl ?_ | refine L_index tok rfl rfl rfl (by omega) (row_mapI (by assumption)) rfl rfl ?_ | refine L_call rfl rfl awake_con rfl rfl ?_))
    refine A_ret ?_; refine ⟨_, rfl, ?_⟩
    exact frz_bool rfl
  simp at h
  have hf : Fair p g := ⟨hin, light_of h.1, h.2⟩
  (repeat (first | refine L_int tok rfl (by constructor <;> omega) rfl rfl ?_ | refine L_lenMap tok rfl rfl rfl rfl ?_ | refine L_calm tok rfl rfl rfl ?_ | refine L_nil ?_ | refine A_seq ?_ | refine A_region (lf := lf0) ?_ | refine A_region_drawn (lf := lf0) mixed (by kernel_rfl) rfl ?_ | refine L_skip rfl rfl ?_ | refine L_box rfl rfl rfl rfl rfl rfl rfl rfl ?_ | refine L_alloc tok rfl rfl rfl rfl rfl rfl rfl ?_ | refine L_store tok rfl rfl rfl rfl rfl rfl rfl rfl rfl ?_ | refine L_build tok rfl rfl rfl rfl rfl rfl ?_ | refine L_buildSlice tok rfl rfl rfl rfl rfl rfl rfl rfl rfl ?_ | refine L_makeFunc rfl rfl rfl ?_ | with_reducible refine inblk_n ?_ | with_reducible refine then_n ?_ | refine A_block ?_ | refine A_skip ?_ | refine A_exit ?_ | refine A_cond (b := true) rfl (fun _ => ?_) (fun h => by cases h) | refine A_cond (b := false) rfl (fun h => by cases h) (fun _ => ?_) | refine L_index tok rfl rfl rfl (by omega) (row_map (by assumption)) rfl rfl ?_ | refine L_index tok rfl rfl rfl (by omega) (row_mapI (by assumption)) rfl rfl ?_ | refine L_call rfl rfl (range_con p g v x hf) rfl rfl ?_ | refine L_call rfl rfl (rrange_con p g v x hf) rfl rfl ?_ | refine L_call rfl rfl awake_con rfl rfl ?_))
  refine L_split 44 rfl (fun h1 => ?_) (fun h1 => by simp at h1)
  (repeat (first | refine L_int tok rfl (by constructor <;> omega) rfl rfl ?_ | refine L_lenMap tok rfl rfl rfl rfl ?_ | refine L_calm tok rfl rfl rfl ?_ | refine L_nil ?_ | refine A_seq ?_ | refine A_region (lf := lf0) ?_ | refine A_region_drawn (lf := lf0) mixed (by kernel_rfl) rfl ?_ | refine L_skip rfl rfl ?_ | refine L_box rfl rfl rfl rfl rfl rfl rfl rfl ?_ | refine L_alloc tok rfl rfl rfl rfl rfl rfl rfl ?_ | refine L_store tok rfl rfl rfl rfl rfl rfl rfl rfl rfl ?_ | refine L_build tok rfl rfl rfl rfl rfl rfl ?_ | refine L_buildSlice tok rfl rfl rfl rfl rfl rfl rfl rfl rfl ?_ | refine L_makeFunc rfl rfl rfl ?_ | with_reducible refine inblk_n ?_ | with_reducible refine then_n ?_ | refine A_block ?_ | refine A_skip ?_ | refine A_exit ?_ | refine A_cond (b := true) rfl (fun _ => ?_) (fun h => by cases h) | refine A_cond (b := false) rfl (fun h => by cases h) (fun _ => ?_) | refine L_index tok rfl rfl rfl (by omega) (row_map (by assumption)) rfl rfl ?_ | refine L_index tok rfl rfl rfl (by omega) (row_mapI (by assumption)) rfl rfl ?_))
  refine L_split 49 rfl (fun h1 => ?_) (fun h1 => by simp at h1)
  (repeat (first | refine L_int tok rfl (by constructor <;> omega) rfl rfl ?_ | refine L_lenMap tok rfl rfl rfl rfl ?_ | refine L_calm tok rfl rfl rfl ?_ | refine L_nil ?_ | refine A_seq ?_ | refine A_region (lf := lf0) ?_ | refine A_region_drawn (lf := lf0) mixed (by kernel_rfl) rfl ?_ | refine L_skip rfl rfl ?_ | refine L_box rfl rfl rfl rfl rfl rfl rfl rfl ?_ | refine L_alloc tok rfl rfl rfl rfl rfl rfl rfl ?_ | refine L_store tok rfl rfl rfl rfl rfl rfl rfl rfl rfl ?_ | refine L_build tok rfl rfl rfl rfl rfl rfl ?_ | refine L_buildSlice tok rfl rfl rfl rfl rfl rfl rfl rfl rfl ?_ | refine L_makeFunc rfl rfl rfl ?_ | with_reducible refine inblk_n ?_ | with_reducible refine then_n ?_ | refine A_block ?_ | refine A_skip ?_ | refine A_exit ?_ | refine A_cond (b := true) rfl (fun _ => ?_) (fun h => by cases h) | refine A_cond (b := false) rfl (fun h => by cases h) (fun _ => ?_) | refine L_index tok rfl rfl rfl (by omega) (row_map (by assumption)) rfl rfl ?_ | refine L_index tok rfl rfl rfl (by omega) (row_mapI (by assumption)) rfl rfl ?_))
  refine L_split 54 rfl (fun h1 => ?_) (fun h1 => by simp at h1)
  (repeat (first | refine L_int tok rfl (by constructor <;> omega) rfl rfl ?_ | refine L_lenMap tok rfl rfl rfl rfl ?_ | refine L_calm tok rfl rfl rfl ?_ | refine L_nil ?_ | refine A_seq ?_ | refine A_region (lf := lf0) ?_ | refine A_region_drawn (lf := lf0) mixed (by kernel_rfl) rfl ?_ | refine L_skip rfl rfl ?_ | refine L_box rfl rfl rfl rfl rfl rfl rfl rfl ?_ | refine L_alloc tok rfl rfl rfl rfl rfl rfl rfl ?_ | refine L_store tok rfl rfl rfl rfl rfl rfl rfl rfl rfl ?_ | refine L_build tok rfl rfl rfl rfl rfl rfl ?_ | refine L_buildSlice tok rfl rfl rfl rfl rfl rfl rfl rfl rfl ?_ | refine L_makeFunc rfl rfl rfl ?_ | with_reducible refine inblk_n ?_ | with_reducible refine then_n ?_ | refine A_block ?_ | refine A_skip ?_ | refine A_exit ?_ | refine A_cond (b := true) rfl (fun _ => ?_) (fun h => by cases h) | refine A_cond (b := false) rfl (fun h => by cases h) (fun _ => ?_) | refine L_index tok rfl rfl rfl (by omega) (row_map (by assumption)) rfl rfl ?_ | refine L_index tok rfl rfl rfl (by omega) (row_mapI (by assumption)) rfl rfl ?_ | refine L_call rfl rfl (fits_con p g hf) rfl rfl ?_ | refine L_call rfl rfl (rfits_con p g hf) rfl rfl ?_))
  refine A_ret ?_; refine ⟨_, rfl, ?_⟩
  exact frz_bool (by simp)
theorem brings_con (p : ProgD) (g : GraphD) (v x a : Int) (hin : ProgIn p) : Con Try.prog 6 [encP p, encG g, i64 v, i64 x, i64 a] (boolA true) := by
  refine con_of Try.func6 rfl rfl Try.ntmps6 Try.results6 rfl rfl ?_
  (repeat (first | refine L_int tok rfl (by constructor <;> omega) rfl rfl ?_ | refine L_lenMap tok rfl rfl rfl rfl ?_ | refine L_calm tok rfl rfl rfl ?_ | refine L_nil ?_ | refine A_seq ?_ | refine A_region (lf := lf0) ?_ | refine A_region_drawn (lf := lf0) mixed (by kernel_rfl) rfl ?_ | refine L_skip rfl rfl ?_ | refine L_box rfl rfl rfl rfl rfl rfl rfl rfl ?_ | refine L_alloc tok rfl rfl rfl rfl rfl rfl rfl ?_ | refine L_store tok rfl rfl rfl rfl rfl rfl rfl rfl rfl ?_ | refine L_build tok rfl rfl rfl rfl rfl rfl ?_ | refine L_buildSlice tok rfl rfl rfl rfl rfl rfl rfl rfl rfl ?_ | refine L_makeFunc rfl rfl rfl ?_ | with_reducible refine inblk_n ?_ | with_reducible refine then_n ?_ | refine A_block ?_ | refine A_skip ?_ | refine A_exit ?_ | refine A_cond (b := true) rfl (fun _ => ?_) (fun h => by cases h) | refine A_cond (b := false) rfl (fun h => by cases h) (fun _ => ?_) | refine L_index tok rfl rfl rfl (by omega) (row_map (by assumption)) rfl rfl ?_ | refine L_index tok rfl rfl rfl (by omega) (row_mapI (by assumption)) rfl rfl ?_ | refine L_call rfl rfl (fair_con p g hin) rfl rfl ?_))
  refine A_cond rfl (fun h => ?_) (fun h => ?_)
  · (repeat (first | refine L_int tok rfl (by constructor <;> omega) rfl rfl ?_ | refine L_lenMap tok rfl rfl rfl rfl ?_ | refine L_calm tok rfl rfl rfl ?_ | refine L_nil ?_ | refine A_seq ?_ | refine A_region (lf := lf0) ?_ | refine A_region_drawn (lf := lf0) mixed (by kernel_rfl) rfl ?_ | refine L_skip rfl rfl ?_ | refine L_box rfl rfl rfl rfl rfl rfl rfl rfl ?_ | refine L_alloc tok rfl rfl rfl rfl rfl rfl rfl ?_ | refine L_store tok rfl rfl rfl rfl rfl rfl rfl rfl rfl ?_ | refine L_build tok rfl rfl rfl rfl rfl rfl ?_ | refine L_buildSlice tok rfl rfl rfl rfl rfl rfl rfl rfl rfl ?_ | refine L_makeFunc rfl rfl rfl ?_ | with_reducible refine inblk_n ?_ | with_reducible refine then_n ?_ | refine A_block ?_ | refine A_skip ?_ | refine A_exit ?_ | refine A_cond (b := true) rfl (fun _ => ?_) (fun h => by cases h) | refine A_cond (b := false) rfl (fun h => by cases h) (fun _ => ?_) | refine L_index tok rfl rfl rfl (by omega) (row_map (by assumption)) rfl rfl ?_ | refine L_index tok rfl rfl rfl (by omega) (row_mapI (by assumption)) rfl rfl ?_ | refine L_call rfl rfl awake_con rfl rfl ?_))
    refine A_ret ?_; refine ⟨_, rfl, ?_⟩
    exact frz_bool rfl
  simp at h
  have hf : Fair p g := ⟨hin, light_of h.1, h.2⟩
  (repeat (first | refine L_int tok rfl (by constructor <;> omega) rfl rfl ?_ | refine L_lenMap tok rfl rfl rfl rfl ?_ | refine L_calm tok rfl rfl rfl ?_ | refine L_nil ?_ | refine A_seq ?_ | refine A_region (lf := lf0) ?_ | refine A_region_drawn (lf := lf0) mixed (by kernel_rfl) rfl ?_ | refine L_skip rfl rfl ?_ | refine L_box rfl rfl rfl rfl rfl rfl rfl rfl ?_ | refine L_alloc tok rfl rfl rfl rfl rfl rfl rfl ?_ | refine L_store tok rfl rfl rfl rfl rfl rfl rfl rfl rfl ?_ | refine L_build tok rfl rfl rfl rfl rfl rfl ?_ | refine L_buildSlice tok rfl rfl rfl rfl rfl rfl rfl rfl rfl ?_ | refine L_makeFunc rfl rfl rfl ?_ | with_reducible refine inblk_n ?_ | with_reducible refine then_n ?_ | refine A_block ?_ | refine A_skip ?_ | refine A_exit ?_ | refine A_cond (b := true) rfl (fun _ => ?_) (fun h => by cases h) | refine A_cond (b := false) rfl (fun h => by cases h) (fun _ => ?_) | refine L_index tok rfl rfl rfl (by omega) (row_map (by assumption)) rfl rfl ?_ | refine L_index tok rfl rfl rfl (by omega) (row_mapI (by assumption)) rfl rfl ?_ | refine L_call rfl rfl (clamp_con p g v x a hf) rfl rfl ?_ | refine L_call rfl rfl (rclamp_con p g v x a hf) rfl rfl ?_ | refine L_call rfl rfl awake_con rfl rfl ?_))
  refine L_split 32 rfl (fun h1 => ?_) (fun h1 => by simp at h1)
  (repeat (first | refine L_int tok rfl (by constructor <;> omega) rfl rfl ?_ | refine L_lenMap tok rfl rfl rfl rfl ?_ | refine L_calm tok rfl rfl rfl ?_ | refine L_nil ?_ | refine A_seq ?_ | refine A_region (lf := lf0) ?_ | refine A_region_drawn (lf := lf0) mixed (by kernel_rfl) rfl ?_ | refine L_skip rfl rfl ?_ | refine L_box rfl rfl rfl rfl rfl rfl rfl rfl ?_ | refine L_alloc tok rfl rfl rfl rfl rfl rfl rfl ?_ | refine L_store tok rfl rfl rfl rfl rfl rfl rfl rfl rfl ?_ | refine L_build tok rfl rfl rfl rfl rfl rfl ?_ | refine L_buildSlice tok rfl rfl rfl rfl rfl rfl rfl rfl rfl ?_ | refine L_makeFunc rfl rfl rfl ?_ | with_reducible refine inblk_n ?_ | with_reducible refine then_n ?_ | refine A_block ?_ | refine A_skip ?_ | refine A_exit ?_ | refine A_cond (b := true) rfl (fun _ => ?_) (fun h => by cases h) | refine A_cond (b := false) rfl (fun h => by cases h) (fun _ => ?_) | refine L_index tok rfl rfl rfl (by omega) (row_map (by assumption)) rfl rfl ?_ | refine L_index tok rfl rfl rfl (by omega) (row_mapI (by assumption)) rfl rfl ?_ | refine L_call rfl rfl (size_con p g v hf) rfl rfl ?_ | refine L_call rfl rfl (rsize_con p g v hf) rfl rfl ?_))
  refine A_ret ?_; refine ⟨_, rfl, ?_⟩
  exact frz_bool (by simp)
end Go.Proofs.Ytmjcmldkbibhfaa
