/- What the elder texts say of memory, as relations to abstract values: programs. The way from an opened argument to a contract. -/
import Derived.Test.YtogennegbihceaaEnc
import Derived.Test.YtogennegbihceaaSymR
set_option linter.unusedVariables false
namespace Go.Proofs.Ytogennegbihceaa
open Go.RowKit

theorem flat_slice {α : Type} {g : α → List Value} {size : Nat} (hg : ∀ x, (g x).length = size) {l : List α} {i : Nat} {x : α} (hx : l[i]? = some x) : ((l.flatMap g).drop (i * size)).take size = g x := by
  apply List.ext_getElem?
  intro j
  rw [List.getElem?_take]
  by_cases hj : j < size
  · rw [if_pos hj, List.getElem?_drop]
    have hu : (g x)[j]? = some ((g x)[j]'(by rw [hg]; exact hj)) := List.getElem?_eq_getElem _
    rw [hu]
    exact flat_get g size hg l i j x _ hx hu
  · rw [if_neg hj, List.getElem?_eq_none (by rw [hg]; omega)]
theorem seq_of_row {α : Type} {g : α → List Value} {size : Nat} (hg : ∀ x, (g x).length = size) {w : World} {v : Value} {l : List α} (h : Row w v size l.length (l.flatMap g)) : Seq (fun cs x => cs = g x) size w v l :=
  ⟨_, h, fun i x hx => flat_slice hg hx⟩
theorem relAll_v {ok : Nat → Prop} {w : World} {lv : Live} (vs : List Value) : RelAll ok w lv (vs.map AV.v) vs := by
  refine ⟨by simp, fun i x u hx hu => ?_⟩
  rw [List.getElem?_map, hu] at hx
  cases hx
  exact .v u
theorem relAll_nil {ok : Nat → Prop} {w : World} {lv : Live} : RelAll ok w lv [] [] := ⟨rfl, fun i x u hx hu => by simp at hx⟩
theorem relAll_cons {ok : Nat → Prop} {w : World} {lv : Live} {a : AV} {v : Value} {xs : List AV} {vs : List Value} (h : Rel ok w lv a v) (t : RelAll ok w lv xs vs) : RelAll ok w lv (a :: xs) (v :: vs) := by
  refine ⟨by simp [t.1], fun i x u hx hu => ?_⟩
  cases i with
  | zero => simp at hx hu; subst hx hu; exact h
  | succ i => simp at hx hu; exact t.2 i x u hx hu
theorem rel_plain {w : World} {lv : Live} {α : Type} {g : α → List Value} {size : Nat} (hg : ∀ x, (g x).length = size) (h1 : ∀ x, ∀ u ∈ g x, u.oneCell' = true) {v : Value} {l : List α} (h : Row w v size l.length (l.flatMap g)) : Rel (okW w) w lv (.sl size (l.map fun x => (g x).map AV.v)) v :=
  rel_of_seq (seq_of_row hg h) (fun x => by simp [hg]) (fun x c hc => by
    obtain ⟨u, hu, rfl⟩ := List.mem_map.1 hc
    exact h1 x u hu) (fun x _ cs hc => by subst hc; exact relAll_v _)
theorem terms_rel {w : World} {lv : Live} {v : Value} {l : List Tm} (h : Terms w v l) : Rel (okW w) w lv (encTerms l) v :=
  rel_plain (g := fun t : Tm => [.int .i64 t.1, .int .i64 t.2]) (fun _ => rfl) (fun x u hu => by simp at hu; rcases hu with rfl | rfl <;> rfl) h
theorem ints_rel {w : World} {lv : Live} {v : Value} {l : List Int} (h : Ints .i64 w v l) : Rel (okW w) w lv (encInts l) v := by
  refine rel_plain (g := fun t : Int => [.int .i64 t]) (fun _ => rfl) (fun x u hu => by simp at hu; subst hu; rfl) ?_
  unfold Ints at h
  rwa [flat_one l]
theorem vars_rel {w : World} {lv : Live} {v : Value} {l : List VarD} (h : VarsOk w v l) : Rel (okW w) w lv (.sl 6 (l.map encVar)) v :=
  rel_plain (g := varCells) (fun _ => rfl) (fun x u hu => by simp [varCells] at hu; rcases hu with rfl | rfl | rfl | rfl | rfl | rfl <;> rfl) h
theorem prog_rel {w : World} {lv : Live} {v : Value} {p : ProgD} (h : ProgOk w v p) : Rel (okW w) w lv (encP p) v := by
  obtain ⟨vv, rv, rfl, h1, h2⟩ := h
  have h3 : RelAll (okW w) w lv [strA p.name, .sl 6 (p.vars.map encVar), .sl 3 (p.rules.map encRule)] [.string p.name, vv, rv] := by
    refine relAll_cons (.v _) (relAll_cons (vars_rel h1) (relAll_cons ?_ relAll_nil))
    refine rel_of_seq h2 (fun _ => rfl) (fun x c hc => by simp [encRule] at hc; rcases hc with rfl | rfl | rfl <;> rfl) fun x _ cs hc => ?_
    obtain ⟨gv, sv, rfl, q1, q2⟩ := hc
    refine relAll_cons (.v _) (relAll_cons (terms_rel q1) (relAll_cons ?_ relAll_nil))
    refine rel_of_seq q2 (fun _ => rfl) (fun x c hc => by simp [encSet] at hc; rcases hc with rfl | rfl <;> rfl) fun x _ cs hc => ?_
    obtain ⟨tv, rfl, r1⟩ := hc
    exact relAll_cons (.v _) (relAll_cons (terms_rel r1) relAll_nil)
  exact .agg _ h3.1 (fun c hc => by simp at hc; rcases hc with rfl | rfl | rfl <;> rfl) h3.2
theorem okW_lt (w : World) : ∀ g, okW w g → g < w.heap.size := fun _ h => h
end Go.Proofs.Ytogennegbihceaa
