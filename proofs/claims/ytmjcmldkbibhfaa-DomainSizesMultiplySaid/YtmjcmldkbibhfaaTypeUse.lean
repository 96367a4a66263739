/- awake; the walks over the laws TypesFind and TypesKeepWithABound. -/
import Derived.Test.YtmjcmldkbibhfaaTypeWalk5
import Derived.Test.YtmjcmldkbibhfaaOpenTerm
set_option maxRecDepth 100000
namespace Go.Proofs.Ytmjcmldkbibhfaa
open Go.RowKit

theorem of_aw1 : ofF [(23, 0), (35, 0), (12, 0), (17, 0)] [3] false = (3, 0) := by decide +kernel
theorem of_aw2 : ofF [(35, 0), (12, 0), (17, 0)] [3] false = (0, 6) := by decide +kernel
def exCells : List Value := [.int .i64 23, .int .i64 0, .int .i64 35, .int .i64 0, .int .i64 12, .int .i64 0, .int .i64 17, .int .i64 0]
theorem of_is (ev kv : Value) (l : List Tm) (kinds : List Int) (bound : Bool) (a b : Int) (w : World) (hl : l.length ≤ 1000) (hv : Terms w ev l) (hk : Ints .i64 w kv kinds) (h : ofF l kinds bound = (a, b)) :
    Calls Try.prog 78 #[ev, kv, .bool bound] w fun e w' => e = .returned (.tuple #[.int .i64 a, .int .i64 b]) ∧ Below w.heap.size w w' :=
  (of_any ev kv l kinds bound w hl hv hk).mono fun e w' ⟨he, hb⟩ => ⟨by rw [he, h], hb⟩
theorem kinds_new (W : World) (k : Int) : Ints .i64 (W.alloc (.cells #[.int .i64 k] 3)) (.slice (some ⟨W.heap.size, 0, none⟩) 1 1) [k] := row_alloc W [.int .i64 k] _ 1 1 (by omega) rfl

theorem light_any (v : Value) (l : List Tm) (w : World) (hv : Hid (Terms w v l)) : Calls Try.prog 39 #[v] w fun e w' => e = .returned (.bool (decide (l.length ≤ 250))) ∧ w = w' := by
  obtain ⟨a0, cap0, rfl, h1, h2, h3⟩ := hv.out.open
  clear h3
  go_enter Try.func39, Try.ntmps39
  go_wp2
  go_ret
  exact ⟨ret_bool (by simp; omega), rfl⟩

end Go.Proofs.Ytmjcmldkbibhfaa
