/- Arguments that are lists of terms or of integers. -/
import Derived.Test.YtogennegbihceaaTermWalk1
import Derived.Test.YtogennegbihceaaOpen
set_option maxRecDepth 100000
namespace Go.Proofs.Ytogennegbihceaa
open Go.ChangeShapes Go.WideShapes Go.RowKit

theorem cellsInt : Try.prog.cellsOf 3 = 1 := by kernel_rfl
theorem cellsTerm : Try.prog.cellsOf 57 = 2 := by kernel_rfl
section
variable {H : Type} {enc : TypeId × Value → H} {w : World} {cs : List Value} {v : Value} {base : Nat} {d : DataW H} {ps : List MemPlace}
def TermIn (t : Tm) : Prop := In64 t.1 ∧ In64 t.2
theorem rd_term (h : Rd enc Try.prog w 57 cs) : ∃ t : Tm, cs = [.int .i64 t.1, .int .i64 t.2] ∧ TermIn t := by
  obtain ⟨h1, h2⟩ := rd_struct Try.underlying57 h
  rw [cellsTerm] at h1
  match cs, h1 with
  | [a, b], _ =>
    have g0 := h2 0 _ rfl
    have g1 := h2 1 _ rfl
    simp [cellsInt] at g0 g1
    obtain ⟨x, hx, hx'⟩ := rd_int64 Try.underlying3 g0
    obtain ⟨y, hy, hy'⟩ := rd_int64 Try.underlying3 g1
    simp at hx hy
    exact ⟨(x, y), by simp [hx, hy], hx', hy'⟩
theorem terms_of_seq {l : List Tm} (h : Seq (fun cs (t : Tm) => cs = [.int .i64 t.1, .int .i64 t.2] ∧ TermIn t) 2 w v l) : Terms w v l ∧ ∀ t ∈ l, TermIn t := by
  refine ⟨seq_flat (fun t : Tm => [.int .i64 t.1, .int .i64 t.2]) (fun _ => rfl) (by omega) h (fun cs x h => h.1), fun x hx => ?_⟩
  obtain ⟨xs, _, h2⟩ := h
  obtain ⟨i, hi⟩ := List.getElem?_of_mem hx
  exact (h2 i x hi).2
theorem rd_terms (h : Rd enc Try.prog w 29 cs) : ∃ v l, cs = [v] ∧ Terms w v l ∧ ∀ t ∈ l, TermIn t := by
  obtain ⟨v, l, h1, h2⟩ := open_seq (R := fun cs (t : Tm) => cs = [.int .i64 t.1, .int .i64 t.2] ∧ TermIn t) Try.underlying29 cellsTerm (Nat.succ_pos 1) (fun cs h => rd_term h) h
  exact ⟨v, l, h1, terms_of_seq h2⟩
theorem open_terms (hv : Value.okWide Try.prog w .any base 29 v) (h : DataW.Trod enc Try.prog w 0 (fun _ => true) true 29 v d ps) : ∃ l, Terms w v l ∧ ∀ t ∈ l, TermIn t := by
  obtain ⟨l, hl⟩ := open_seq_arg (R := fun cs (t : Tm) => cs = [.int .i64 t.1, .int .i64 t.2] ∧ TermIn t) Try.underlying29 cellsTerm (Nat.succ_pos 1) (fun cs h => rd_term h) hv h
  exact ⟨l, terms_of_seq hl⟩
theorem open_int_list (hv : Value.okWide Try.prog w .any base 44 v) (h : DataW.Trod enc Try.prog w 0 (fun _ => true) true 44 v d ps) : ∃ l, Ints .i64 w v l ∧ ∀ x ∈ l, In64 x :=
  open_ints_arg Try.underlying44 Try.underlying3 cellsInt hv h
end
end Go.Proofs.Ytogennegbihceaa
