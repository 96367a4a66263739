/- The walks over the lexer's small functions, of the program and of the reference: each returns what the plain function of LexMath says and leaves the memory alone. -/
import Derived.Test.YtogennegbihceaaRows
import Derived.Test.YtogennegbihceaaLexMath
import Derived.Test.YtogennegbihceaaRow
import Derived.WalkKit
import Derived.WalkSpells
import Derived.WalkLawsBesides
import Derived.Lib.Hide
set_option maxRecDepth 100000
namespace Go.Proofs.Ytogennegbihceaa
open Go.RowKit

set_option maxHeartbeats 400000 in
theorem letter_any (c : UInt8) (w : World) :
    Calls Try.prog 60 #[.int .u8 (c.toNat : Int)] w fun e w' => e = .returned (.bool (letterB c)) ∧ w = w' := by
  go_enter Try.func60, Try.ntmps60
  go_wp2
  all_goals go_ret
  all_goals exact ⟨ret_bool (by rw [Bool.eq_iff_iff]; simp [letterB, UInt8.le_iff_toNat_le]; omega), rfl⟩

set_option maxHeartbeats 400000 in
theorem digit_any (c : UInt8) (w : World) :
    Calls Try.prog 66 #[.int .u8 (c.toNat : Int)] w fun e w' => e = .returned (.bool (digitB c)) ∧ w = w' := by
  go_enter Try.func66, Try.ntmps66
  go_wp2
  all_goals go_ret
  all_goals exact ⟨ret_bool (by rw [Bool.eq_iff_iff]; simp [digitB, UInt8.le_iff_toNat_le]; omega), rfl⟩

set_option maxHeartbeats 400000 in
theorem inWord_any (c : UInt8) (w : World) :
    Calls Try.prog 61 #[.int .u8 (c.toNat : Int)] w fun e w' => e = .returned (.bool (wordB c)) ∧ w = w' := by
  go_enter Try.func61, Try.ntmps61
  cases h1 : letterB c <;> cases h2 : digitB c
  all_goals
    go_wp2_with (first | (go_at_call 60; refine (letter_any _ _).mono ?_; rintro e w' ⟨rfl, rfl⟩) | (go_at_call 66; refine (digit_any _ _).mono ?_; rintro e w' ⟨rfl, rfl⟩))
    go_ret
    exact ⟨ret_bool (by rw [Bool.eq_iff_iff]; simp [wordB, h1, h2, ← UInt8.toNat_inj]; try omega), rfl⟩
set_option maxHeartbeats 400000 in
theorem rletter_any (c : UInt8) (w : World) :
    Calls Try.prog 43 #[.int .u8 (c.toNat : Int)] w fun e w' => e = .returned (.bool (letterB c)) ∧ w = w' := by
  go_enter Try.func43, Try.ntmps43
  go_wp2
  all_goals go_ret
  all_goals exact ⟨ret_bool (by rw [Bool.eq_iff_iff]; simp [letterB, UInt8.le_iff_toNat_le]; omega), rfl⟩

set_option maxHeartbeats 400000 in
theorem rdigit_any (c : UInt8) (w : World) :
    Calls Try.prog 63 #[.int .u8 (c.toNat : Int)] w fun e w' => e = .returned (.bool (digitB c)) ∧ w = w' := by
  go_enter Try.func63, Try.ntmps63
  go_wp2
  all_goals go_ret
  all_goals exact ⟨ret_bool (by rw [Bool.eq_iff_iff]; simp [digitB, UInt8.le_iff_toNat_le]; omega), rfl⟩

set_option maxHeartbeats 400000 in
theorem rinner_any (c : UInt8) (w : World) :
    Calls Try.prog 44 #[.int .u8 (c.toNat : Int)] w fun e w' => e = .returned (.bool (wordB c)) ∧ w = w' := by
  go_enter Try.func44, Try.ntmps44
  cases h1 : letterB c <;> cases h2 : digitB c
  all_goals
    go_wp2_with (first | (go_at_call 43; refine (rletter_any _ _).mono ?_; rintro e w' ⟨rfl, rfl⟩) | (go_at_call 63; refine (rdigit_any _ _).mono ?_; rintro e w' ⟨rfl, rfl⟩))
    go_ret
    exact ⟨ret_bool (by rw [Bool.eq_iff_iff]; simp [wordB, h1, h2, ← UInt8.toNat_inj]; try omega), rfl⟩

def NumRet (ds : List UInt8) (w : World) (e : Ending) (w' : World) : Prop :=
  w = w' ∧ ((∃ v : Nat, numRes ds = some v ∧ e = .returned (.tuple #[.int .i64 v, .bool true])) ∨ (∃ u : Int, numRes ds = none ∧ e = .returned (.tuple #[.int .i64 u, .bool false])))

end Go.Proofs.Ytogennegbihceaa
