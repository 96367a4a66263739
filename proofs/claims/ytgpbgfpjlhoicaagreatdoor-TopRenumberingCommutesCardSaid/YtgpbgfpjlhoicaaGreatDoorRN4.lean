/- Part 4 of the texts under TopRenumberingCommutes: joined, with what it needs alone. -/
import Derived.Below
import Derived.Test.YtgpbgfpjlhoicaaGreatDoorProg
import Derived.Lib.LaidTab
import Derived.Test.YtgpbgfpjlhoicaaGreatDoorRN1
import Derived.Test.YtgpbgfpjlhoicaaGreatDoorRN3
set_option linter.unusedVariables false
namespace Go.Proofs.YtgpbgfpjlhoicaaGreatDoor
section
open Go.RowKit
def yto:Ex→List Ex
 | .lf _=>[]
 | .un _ a=>[a]
 | .bi _ a b=>[a,b]
 | .tr _ a b c=>[a,b,c]
def hd:Ex→Tm
 | .lf t=>t
 | .un t _=>t
 | .bi t _ _=>t
 | .tr t _ _ _=>t
theorem yls (E A:Ex) (h:E.ok) (hA:A∈yto E):A.ok∧A.fl.length≤E.fl.length∧(∀ t∈A.fl,t∈E.fl)∧A.dp≤E.dp∧A.ns≤E.ns:=by
 cases E with
 | lf t=>simp [yto] at hA
 | un t a=>
  simp only [yto,List.mem_singleton] at hA;subst hA
  refine ⟨h.2,by simp [Ex.fl],fun t ht=>by simp [Ex.fl,ht],by simp [Ex.dp],?_⟩
  simp only [Ex.ns];split <;> omega
 | bi t a b=>
  simp only [yto,List.mem_cons,List.not_mem_nil,or_false] at hA
  rcases hA with rfl|rfl
  ·exact ⟨h.2.1,by simp [Ex.fl];omega,fun t ht=>by simp [Ex.fl,ht],by simp only [Ex.dp];omega,by simp only [Ex.ns];omega⟩
  ·exact ⟨h.2.2,by simp [Ex.fl];omega,fun t ht=>by simp [Ex.fl,ht],by simp only [Ex.dp];omega,by simp only [Ex.ns];omega⟩
 | tr t a b c=>
  simp only [yto,List.mem_cons,List.not_mem_nil,or_false] at hA
  rcases hA with rfl|rfl|rfl
  ·exact ⟨h.2.1,by simp [Ex.fl];omega,fun t ht=>by simp [Ex.fl,ht],by simp only [Ex.dp];omega,by simp only [Ex.ns];omega⟩
  ·exact ⟨h.2.2.1,by simp [Ex.fl];omega,fun t ht=>by simp [Ex.fl,ht],by simp only [Ex.dp];omega,by simp only [Ex.ns];omega⟩
  ·exact ⟨h.2.2.2,by simp [Ex.fl];omega,fun t ht=>by simp [Ex.fl,ht],by simp only [Ex.dp];omega,by simp only [Ex.ns];omega⟩
theorem ynm (kinds:List Int) (hk:yfh kinds=true) (bound:Bool) (E A:Ex) (h:E.ok) (hA:A∈yto E) (ht:ty kinds bound E≠0):ty kinds (bound || yjk (hd E).1) A≠0:=by
 cases E with
 | lf t=>simp [yto] at hA
 | un t a=>
  simp only [yto,List.mem_singleton] at hA;subst hA
  exact (zwd _ _).2.2 ht
 | bi t a b=>
  have hg:yjk t.1=false:=yni (by have:=h.1;omega)
  simp only [hd,hg,Bool.or_false]
  have:=(zwe _ _ _).2.2 ht
  simp only [yto,List.mem_cons,List.not_mem_nil,or_false] at hA
  rcases hA with rfl|rfl
  ·exact this.1
  ·exact this.2
 | tr t a b c=>
  have hg:yjk t.1=false:=yni (by have:=h.1;omega)
  simp only [hd,hg,Bool.or_false]
  have:=(zwf _ _ _ (ty_bd kinds hk b bound)).2.2 ht
  simp only [yto,List.mem_cons,List.not_mem_nil,or_false] at hA
  rcases hA with rfl|rfl|rfl
  ·exact this.1
  ·exact this.2.1
  ·exact this.2.2
end
section
def GN:Nat:=0+1
def zuq:List Int:=[0,1,28,2,29,14,24,3,30,22,20,15,25,17,4,8,31,27,13,23,21,19,16,7,26,12,18,6,11,5,10,9]
def ywh (w : World) : Prop := Lib.TabIs Tryz.prog w "math/bits.deBruijn32tab" .u8 zuq
theorem zmz : Tryz.prog.globalNamed "math/bits.deBruijn32tab" = some 0 := by kernel_rfl
theorem ywh.keep {w w':World} (h:ywh w) (hk:∀ k,k < GN→w'.heap[k]?=w.heap[k]?) (_:w.heap.size≤w'.heap.size):ywh w':=by
 unfold ywh Lib.TabIs World.var? at *
 rw [zmz] at *
 simp only [Option.bind_some] at *
 rw [hk _ (by decide)]
 exact h
theorem ywh.size {w:World} (h:ywh w):GN≤w.heap.size:=by
 have h2:0 < w.heap.size:=by
  rcases Nat.lt_or_ge 0 w.heap.size with h'|h'
  ·exact h'
  ·simp [ywh,Lib.TabIs,World.var?,zmz,Array.getElem?_eq_none h'] at h
 show 0+1≤w.heap.size
 omega
end
end Go.Proofs.YtgpbgfpjlhoicaaGreatDoor
