/- Contracts of small functions on programs: Valid of both, LightProgram, Mod. -/
import Derived.Test.YtogennegbihceaaEnc
import Derived.Test.YtogennegbihceaaSymN
import Derived.Test.YtogennegbihceaaTab
import Derived.Test.YtogennegbihceaaLightWalk
set_option linter.unusedVariables false
set_option maxRecDepth 100000
set_option maxHeartbeats 8000000
namespace Go.Proofs.Ytogennegbihceaa
open Go.RowKit

theorem tvalid_con (p : ProgD) (hin : ProgIn p) (hl : LightP p) : Con Try.prog 8 [encP p] (boolA (checkF p == 0)) :=
  con_of_calls ⟨_, Try.func8, rfl, rfl⟩ fun w us ok hok hr => by
    obtain ⟨u, rfl, h1⟩ := relAll1 hr
    exact validP_any u p w (prog_of_rel h1 hok) hin hl
theorem rtvalid_con (p : ProgD) (hin : ProgIn p) (hl : LightP p) : Con Try.prog 5 [encP p] (boolA (checkF p == 0)) :=
  con_of_calls ⟨_, Try.func5, rfl, rfl⟩ fun w us ok hok hr => by
    obtain ⟨u, rfl, h1⟩ := relAll1 hr
    exact rvalidP_any u p w (prog_of_rel h1 hok) hin hl
theorem lightP_con (p : ProgD) (hin : ProgIn p) : Con Try.prog 4 [encP p] (boolA (lightB p)) :=
  con_of_calls ⟨_, Try.func4, rfl, rfl⟩ fun w us ok hok hr => by
    obtain ⟨u, rfl, h1⟩ := relAll1 hr
    exact lightP_any u p w (prog_of_rel h1 hok) hin

def modI (a b : Int) : Int := if a.tmod b < 0 then a.tmod b + b else a.tmod b
theorem modI_bd {a b : Int} (hb : 0 < b) : 0 ≤ modI a b ∧ modI a b < b := by
  unfold modI
  have h1 := Int.tmod_lt_of_pos a hb
  have h2 := Int.lt_tmod_of_pos a hb
  split <;> omega
theorem mod_con (a b : Int) (hb : 0 < b ∧ b ≤ 1000000) : Con Try.prog 7 [i64 a, i64 b] (i64 (modI a b)) := by
  have h1 := Int.tmod_lt_of_pos a hb.1
  have h2 := Int.lt_tmod_of_pos a hb.1
  refine con_of Try.func7 rfl rfl Try.ntmps7 Try.results7 rfl rfl ?_
  (repeat (first | refine L_int tok rfl (by constructor <;> omega) rfl rfl ?_ | refine L_lenMap tok rfl rfl rfl rfl ?_ | refine L_calm tok rfl rfl rfl ?_ | refine L_nil ?_ | refine A_seq ?_ | refine A_region (lf := lf0) ?_ | refine A_region_drawn (lf := lf0) mixed (by kernel_rfl) rfl ?_ | refine L_skip rfl rfl ?_ | refine L_box rfl rfl rfl rfl rfl rfl rfl rfl ?_ | refine L_alloc tok rfl rfl rfl rfl rfl rfl rfl ?_ | refine L_store tok rfl rfl rfl rfl rfl rfl rfl rfl rfl ?_ | refine L_build tok rfl rfl rfl rfl rfl rfl ?_ | refine L_buildSlice tok rfl rfl rfl rfl rfl rfl rfl rfl rfl ?_ | refine L_makeFunc rfl rfl rfl ?_ | with_reducible refine inblk_n ?_ | with_reducible refine then_n ?_ | refine A_block ?_ | refine A_skip ?_ | refine A_exit ?_ | refine A_cond (b := true) rfl (fun _ => ?_) (fun h => by cases h) | refine A_cond (b := false) rfl (fun h => by cases h) (fun _ => ?_) | refine L_index tok rfl rfl rfl (by omega) (row_map (by assumption)) rfl rfl ?_ | refine L_index tok rfl rfl rfl (by omega) (row_mapI (by assumption)) rfl rfl ?_ | refine L_rem rfl rfl (by omega) rfl rfl ?_))
  refine A_cond rfl (fun h => ?_) (fun h => ?_)
  · simp at h
    (repeat (first | refine L_int tok rfl (by constructor <;> omega) rfl rfl ?_ | refine L_lenMap tok rfl rfl rfl rfl ?_ | refine L_calm tok rfl rfl rfl ?_ | refine L_nil ?_ | refine A_seq ?_ | refine A_region (lf := lf0) ?_ | refine A_region_drawn (lf := lf0) mixed (by kernel_rfl) rfl ?_ | refine L_skip rfl rfl ?_ | refine L_box rfl rfl rfl rfl rfl rfl rfl rfl ?_ | refine L_alloc tok rfl rfl rfl rfl rfl rfl rfl ?_ | refine L_store tok rfl rfl rfl rfl rfl rfl rfl rfl rfl ?_ | refine L_build tok rfl rfl rfl rfl rfl rfl ?_ | refine L_buildSlice tok rfl rfl rfl rfl rfl rfl rfl rfl rfl ?_ | refine L_makeFunc rfl rfl rfl ?_ | with_reducible refine inblk_n ?_ | with_reducible refine then_n ?_ | refine A_block ?_ | refine A_skip ?_ | refine A_exit ?_ | refine A_cond (b := true) rfl (fun _ => ?_) (fun h => by cases h) | refine A_cond (b := false) rfl (fun h => by cases h) (fun _ => ?_) | refine L_index tok rfl rfl rfl (by omega) (row_map (by assumption)) rfl rfl ?_ | refine L_index tok rfl rfl rfl (by omega) (row_mapI (by assumption)) rfl rfl ?_))
    refine A_ret ?_; refine ⟨_, rfl, ?_⟩
    exact frz_i64 (by unfold modI; rw [if_pos h])
  · simp at h
    (repeat (first | refine L_int tok rfl (by constructor <;> omega) rfl rfl ?_ | refine L_lenMap tok rfl rfl rfl rfl ?_ | refine L_calm tok rfl rfl rfl ?_ | refine L_nil ?_ | refine A_seq ?_ | refine A_region (lf := lf0) ?_ | refine A_region_drawn (lf := lf0) mixed (by kernel_rfl) rfl ?_ | refine L_skip rfl rfl ?_ | refine L_box rfl rfl rfl rfl rfl rfl rfl rfl ?_ | refine L_alloc tok rfl rfl rfl rfl rfl rfl rfl ?_ | refine L_store tok rfl rfl rfl rfl rfl rfl rfl rfl rfl ?_ | refine L_build tok rfl rfl rfl rfl rfl rfl ?_ | refine L_buildSlice tok rfl rfl rfl rfl rfl rfl rfl rfl rfl ?_ | refine L_makeFunc rfl rfl rfl ?_ | with_reducible refine inblk_n ?_ | with_reducible refine then_n ?_ | refine A_block ?_ | refine A_skip ?_ | refine A_exit ?_ | refine A_cond (b := true) rfl (fun _ => ?_) (fun h => by cases h) | refine A_cond (b := false) rfl (fun h => by cases h) (fun _ => ?_) | refine L_index tok rfl rfl rfl (by omega) (row_map (by assumption)) rfl rfl ?_ | refine L_index tok rfl rfl rfl (by omega) (row_mapI (by assumption)) rfl rfl ?_))
    refine A_ret ?_; refine ⟨_, rfl, ?_⟩
    exact frz_i64 (by unfold modI; rw [if_neg (by omega)])
end Go.Proofs.Ytogennegbihceaa
