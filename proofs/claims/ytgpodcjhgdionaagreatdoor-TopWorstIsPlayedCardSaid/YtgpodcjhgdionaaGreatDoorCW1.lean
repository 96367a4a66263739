/- Part 1 of the texts under TopWorstIsPlayed. -/
import Derived.Below
import Derived.Test.YtgpodcjhgdionaaGreatDoorProg
import Derived.Lib.LaidTab
import Derived.Test.YtgpodcjhgdionaaGreatDoorCW0
set_option linter.unusedVariables false
namespace Go.Proofs.YtgpodcjhgdionaaGreatDoor
open Go.Proofs.Tryz
section
def GN:Nat:=0+1
def xgg:List Int:=[0,1,28,2,29,14,24,3,30,22,20,15,25,17,4,8,31,27,13,23,21,19,16,7,26,12,18,6,11,5,10,9]
def zaw (w : World) : Prop := Lib.TabIs prog w "math/bits.deBruijn32tab" .u8 xgg
theorem zxa : prog.globalNamed "math/bits.deBruijn32tab" = some 0 := by kernel_rfl
theorem zaw.keep{w w':World}(h:zaw w)(hk:∀ k,k < GN->w'.heap[k]?=w.heap[k]?)(_:w.heap.size<=w'.heap.size):zaw w':=by
 unfold zaw Lib.TabIs World.var? at *;rw[zxa]at *;simp only[qej]at *;rw[hk _ dc];exact h
theorem zaw.size{w:World}(h:zaw w):GN<=w.heap.size:=by
 have h2:0 < w.heap.size:=by
  rcases qbh 0 w.heap.size with h'|h'
  .exact h'
  simp[zaw,Lib.TabIs,World.var?,zxa,qed h']at h
 show 0+1<=w.heap.size;omega
end
end Go.Proofs.YtgpodcjhgdionaaGreatDoor
