/- Bytes made a string. No program. -/
import Derived.Test.YtkjcjenkepejgaaDoorSymS
import Derived.Laws.BytesArg
set_option linter.unusedVariables false
namespace Go.Proofs.YtkjcjenkepejgaaDoor
open Go.RowKit
section
variable {P : Program} {T : Nat → Option Ty} {N : Nat} {ops : Array Oper} {lf : Oper → Bool} {Q : SS → Prop} {t : List (Nat × AV)} {h : List (Nat × Option LObj)} {rest : List Oper} {d : Nat} {op : Op} {ty : TypeId} {pos : String} {af : Array Edge} {gd : Option (Nat × Bool)} {r : AV}
theorem yield_b2s {ρ : Operand → Option AV} {hp : Nat → Option LObj} {src dst e : TypeId} {x : Operand} {n : Int} (hs : P.underlying src = some (.slice e)) (he : P.underlying e = some (.int .u8)) (hd : P.underlying dst = some .string) (hx : ρ x = some (.sl 1 [[.v (.int .u8 n)]])) :
    Yield P hp ρ (.convert src dst x) ty (.v (.string (strOfNums [n]))) :=
  yield_of_run fun B ok0 lv w a o ho hty hi' hops => by
    have hr := hops x _ (by simp [Op.operands]) hx
    generalize hv : a.eval x = v at hr
    cases hr with
    | sl ad cap u g q hn hc ha hsz hg hcell hrel =>
      obtain ⟨rfl, hok⟩ := hg (by simp)
      have h1 := (hcell 0 0 _ _ rfl rfl).1
      have h2 := rel_v (hrel 0 0 _ _ rfl rfl)
      rw [h2] at h1
      have hrun := run_convert_bytes_arg w src e hs he g q 1 cap [n] rfl (fun i hi => by
        obtain rfl : i = 0 := by omega
        simpa using h1) dst hd
      have hv' : a.eval x = .slice (some ⟨g, q, none⟩) 1 cap := hv
      exact ⟨_, by simp [execOp, ho, hv', hrun], .v _⟩
theorem L_b2s (hT : TOK P T) {src dst e es eb s1 s2 s3 : Nat} {ea a1 a2 a3 : Bool} {ez z1 z2 z3 : List Value} {x : Operand} {n : Int} (hs : T src = some ⟨.slc e es ea eb ez, s1, a1, z1⟩) (he : T e = some ⟨.int .u8, s2, a2, z2⟩) (hd' : T dst = some ⟨.string, s3, a3, z3⟩)
    (hx : evF (look t) x = some (.sl 1 [[.v (.int .u8 n)]])) (hw : wantedF ops (look t) ⟨some d, .convert src dst x, ty, pos, af, gd⟩ = some true) (hd : Nat.blt d N = true) (k : Lex P N ops lf Q rest (S ((d, .v (.string (strOfNums [n]))) :: t) h)) : Lex P N ops lf Q (⟨some d, .convert src dst x, ty, pos, af, gd⟩ :: rest) (S t h) :=
  L_yield (yield_b2s (hT _ _ hs).2.2.1 (hT _ _ he).2.2 (hT _ _ hd').2.2 hx) hw hd k
end
end Go.Proofs.YtkjcjenkepejgaaDoor
