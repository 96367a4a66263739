/- Part 1 of the texts under TopCertificatesBoundRuns. -/
import Derived.Below
import Derived.Test.YtgpodcjhgdionaaGreatDoorProg
import Derived.Lib.LaidTab
import Derived.Test.YtgpodcjhgdionaaGreatDoorCB0
set_option linter.unusedVariables false
namespace Go.Proofs.YtgpodcjhgdionaaGreatDoor
open Go.Proofs.Tryz
section
def GN:Nat:=0+1
def xfn:List Int:=[0,1,28,2,29,14,24,3,30,22,20,15,25,17,4,8,31,27,13,23,21,19,16,7,26,12,18,6,11,5,10,9]
def zba (w : World) : Prop := Lib.TabIs prog w "math/bits.deBruijn32tab" .u8 xfn
theorem zvt : prog.globalNamed "math/bits.deBruijn32tab" = some 0 := by kernel_rfl
theorem zba.keep {w w':World} (h:zba w) (hk:∀ k,k < GN->w'.heap[k]?=w.heap[k]?) (_:w.heap.size<=w'.heap.size):zba w':=by
 unfold zba Lib.TabIs World.var? at *;rw [zvt] at *;simp only [qed] at *;rw [hk _ dc];exact h
theorem zba.size {w:World} (h:zba w):GN<=w.heap.size:=by
 have h2:0 < w.heap.size:=by
  rcases qbi 0 w.heap.size with h'|h'
  .exact h'
  simp [zba,Lib.TabIs,World.var?,zvt,qdw h'] at h
 show 0+1<=w.heap.size;omega
end
end Go.Proofs.YtgpodcjhgdionaaGreatDoor
