/- Part 32 of the texts under MemoryRanks,MemoryChanges,MemoryCarries,MemoryCorruptsNamedNodes,MemoryCarriesToItself: joined, with what it needs alone. -/
import Derived.Test.YtenajilnjeafpaaGreatL22
import Derived.Test.YtenajilnjeafpaaGreatL28
import Derived.Test.YtenajilnjeafpaaGreatL30
set_option linter.unusedVariables false
set_option maxRecDepth 100000
set_option maxHeartbeats 8000000
namespace Go.Proofs.YtenajilnjeafpaaGreat
open Go.RowKit
theorem portTo_bd (ls : List Lk) (u : Int) : -1 ≤ portTo ls u ∧ portTo ls u < ls.length := by
  rcases portTo_cases ls u with ⟨h, _⟩ | ⟨k, x, h, hx, _⟩
  · omega
  · have := (List.getElem?_eq_some_iff.1 hx).1; omega
theorem portTo_at {ls : List Lk} {u : Int} (h : 0 ≤ portTo ls u) : ∃ l, ls[(portTo ls u).toNat]? = some l ∧ l.1 = u := by
  rcases portTo_cases ls u with ⟨h1, _⟩ | ⟨k, x, h1, hx, hu, _⟩
  · omega
  · exact ⟨x, by rw [h1]; simpa using hx, hu⟩
theorem portTo_inv {n v : Nat} {ls : List Lk} {k : Nat} {l : Lk} (hls : linksB n v ls = true) (hk : ls[k]? = some l) : portTo ls l.1 = k := by
  simp only [linksB, Bool.and_eq_true, decide_eq_true_eq] at hls
  refine portTo_some hk rfl fun j y hj hy e => ?_
  have h1 : (ls.map (·.1))[j]? = some y.1 := by rw [List.getElem?_map, hy]; rfl
  have h2 : (ls.map (·.1))[k]? = some l.1 := by rw [List.getElem?_map, hk]; rfl
  rw [e] at h1
  obtain ⟨hjl, e1⟩ := List.getElem?_eq_some_iff.1 h1
  obtain ⟨hkl, e2⟩ := List.getElem?_eq_some_iff.1 h2
  have := (List.getElem_inj (h₀ := hjl) (h₁ := hkl) hls.2).1 (e1.trans e2.symm)
  omega
/-- What is known of a variable of a node in two graphs of one size. -/
structure At (p : ProgD) (g : GraphD) (v x : Nat) (ls : List Lk) (y : VarD) : Prop where
  ports : g.ports[v]? = some ls
  var : p.vars[x]? = some y
theorem carryV_num {p : ProgD} {g h : GraphD} {c : List (List Int)} {v x : Nat} {lh : List Lk} {y : VarD} {z : Int} (ah : At p h v x lh y) (hz : get2 c v x = some z) (hn : ¬ (y.kind = 3 ∧ 0 ≤ z)) : carryV p g h c v x = bringF y.kind (boundsV y h lh.length).1 (boundsV y h lh.length).2 z := by
  obtain ⟨s, hs, hz⟩ := get2_some.1 hz
  obtain ⟨th1, th2⟩ := table_at (p := p) ah.ports ah.var
  have hkind : (p.vars.getD x default).kind = y.kind := by simp [List.getD_eq_getElem?_getD, ah.var]
  have hval : (c.getD v []).getD x 0 = z := by simp [List.getD_eq_getElem?_getD, hs, hz]
  rw [carryV, hval, hkind, if_neg hn, broughtT, hkind]
  simp only [List.getD_eq_getElem?_getD, th1, th2, Option.getD_some]
theorem carryV_port {p : ProgD} {g h : GraphD} {c : List (List Int)} {v x : Nat} {lg lh : List Lk} {y : VarD} {z : Int} {l : Lk} (ag : At p g v x lg y) (ah : At p h v x lh y) (hz : get2 c v x = some z) (hk : y.kind = 3) (h0 : 0 ≤ z) (hl : lg[z.toNat]? = some l) : carryV p g h c v x = portTo lh l.1 := by
  obtain ⟨s, hs, hz⟩ := get2_some.1 hz
  have hkind : (p.vars.getD x default).kind = y.kind := by simp [List.getD_eq_getElem?_getD, ag.var]
  have hval : (c.getD v []).getD x 0 = z := by simp [List.getD_eq_getElem?_getD, hs, hz]
  rw [carryV, hval, hkind, if_pos ⟨hk, h0⟩]
  simp only [List.getD_eq_getElem?_getD, ag.ports, ah.ports, Option.getD_some, hl]
theorem carry_get {p : ProgD} {g h : GraphD} {c : List (List Int)} {v x : Nat} {lh : List Lk} {y : VarD} (ah : At p h v x lh y) : get2 (carryC p g h c) v x = some (carryV p g h c v x) := by
  obtain ⟨th1, th2⟩ := table_at (p := p) ah.ports ah.var
  have hx := (List.getElem?_eq_some_iff.1 ah.var).1
  refine get2_some.2 ⟨_, carryC_at th1, ?_⟩
  rw [List.getElem?_map, List.getElem?_range (by simpa using hx)]; rfl
theorem shape_ext {tbl : List (List (Int × Int))} {c d : List (List Int)} (hc : Shape tbl c) (hd : Shape tbl d) (h : ∀ v x r b, tbl[v]? = some r → r[x]? = some b → get2 c v x = get2 d v x) : c = d := by
  apply List.ext_getElem?
  intro v
  by_cases hv : v < tbl.length
  · obtain ⟨r, hr⟩ := getN hv
    obtain ⟨s, hs, hsl⟩ := hc.2 v r hr
    obtain ⟨s', hs', hsl'⟩ := hd.2 v r hr
    rw [hs, hs']
    congr 1
    apply List.ext_getElem?
    intro x
    by_cases hx : x < r.length
    · obtain ⟨b, hb⟩ := getN hx
      have := h v x r b hr hb
      simpa [get2, hs, hs'] using this
    · rw [List.getElem?_eq_none (by omega), List.getElem?_eq_none (by omega)]
  · rw [List.getElem?_eq_none (by rw [hc.1]; omega), List.getElem?_eq_none (by rw [hd.1]; omega)]
/-- A value of a valid configuration, by what it is. -/
theorem val_at {p : ProgD} {g : GraphD} {c : List (List Int)} (hin : cfgInB (tableF p g) c = true) {v x : Nat} {lg : List Lk} {y : VarD} (ag : At p g v x lg y) : ∃ z, get2 c v x = some z ∧ (boundsV y g lg.length).1 ≤ z ∧ z ≤ (boundsV y g lg.length).2 := by
  obtain ⟨t1, t2⟩ := table_at (p := p) ag.ports ag.var
  exact (cfgIn_iff.1 hin).2 v x _ _ t1 t2
theorem carry_same {p : ProgD} {g : GraphD} {c : List (List Int)} (hf : Fair p g) (h0 : fitsF p g = 0) (hin : cfgInB (tableF p g) c = true) : carryC p g g c = c := by
  obtain ⟨hc0, hg, hfit⟩ := fits_zero.1 h0
  have hvf := valid_facts hg
  refine shape_ext (shape_carry p g g c) (shape_of hin) fun v x r b hr hb => ?_
  obtain ⟨ls, y, h1, h2, h3⟩ := table_inv hr hb
  have ag : At p g v x ls y := ⟨h1, h2⟩
  obtain ⟨z, hz, hz1, hz2⟩ := val_at hin ag
  rw [carry_get ag, hz]
  congr 1
  by_cases hk : y.kind = 3 ∧ 0 ≤ z
  · have hzl : z < ls.length := by rw [bounds_three hk.1] at hz2; simp only at hz2; omega
    obtain ⟨l, hl⟩ := getN (show z.toNat < ls.length by omega)
    rw [carryV_port ag ag hz hk.1 hk.2 hl, portTo_inv (hvf.2.2.2.2.2.1 v ls h1) hl]
    omega
  · rw [carryV_num ag hz hk, bring_id ⟨hz1, hz2⟩]
theorem carry_valid {p : ProgD} {g h : GraphD} {c : List (List Int)} (hf : Fair p g) (hfh : Fair p h) (h0 : fitsF p g = 0) (h1 : fitsF p h = 0) (hlen : g.ports.length = h.ports.length) (hin : cfgInB (tableF p g) c = true) : cfgInB (tableF p h) (carryC p g h c) = true := by
  refine cfgIn_iff.2 ⟨shape_carry p g h c, fun v x r b hr hb => ?_⟩
  obtain ⟨lh, y, e1, e2, e3⟩ := table_inv hr hb
  have ah : At p h v x lh y := ⟨e1, e2⟩
  obtain ⟨lg, hlg⟩ := getN (show v < g.ports.length by rw [hlen]; exact (List.getElem?_eq_some_iff.1 e1).1)
  have ag : At p g v x lg y := ⟨hlg, e2⟩
  obtain ⟨z, hz, hz1, hz2⟩ := val_at hin ag
  have hrg := ((table_in hfh h1).2 r (List.mem_of_getElem? hr)).2 b (List.mem_of_getElem? hb)
  refine ⟨_, carry_get ah, ?_⟩
  by_cases hk : y.kind = 3 ∧ 0 ≤ z
  · have hzl : z < lg.length := by rw [bounds_three hk.1] at hz2; simp only at hz2; omega
    obtain ⟨l, hl⟩ := getN (show z.toNat < lg.length by omega)
    rw [carryV_port ag ah hz hk.1 hk.2 hl, e3, bounds_three hk.1]
    have := portTo_bd lh l.1
    simp only
    omega
  · rw [carryV_num ah hz hk, ← e3]
    exact bring_in hrg.2.1 fun hk3 => by rw [e3, bounds_three hk3]
/-- There and back: the same port, or none where the other graph lacks the link. -/
theorem carry_back {p : ProgD} {g h : GraphD} {c : List (List Int)} {v x : Nat} {lg lh : List Lk} {y : VarD} {z : Int} (hg : validG g = true) (ag : At p g v x lg y) (ah : At p h v x lh y) (hz : get2 c v x = some z) (hz1 : -1 ≤ z) (hz2 : z < lg.length) (hk : y.kind = 3) :
    carryV p h g (carryC p g h c) v x = z ∨ (carryV p h g (carryC p g h c) v x = -1 ∧ 0 ≤ z ∧ ∃ l, lg[z.toNat]? = some l ∧ portTo lh l.1 = -1) := by
  have hvf := valid_facts hg
  have hnone : ∀ (gg : GraphD) (ls : List Lk), At p gg v x ls y → bringF y.kind (boundsV y gg ls.length).1 (boundsV y gg ls.length).2 (-1) = -1 := by
    intro gg ls _
    rw [bounds_three hk]
    exact bring_id ⟨by simp, by simp; omega⟩
  by_cases h0 : 0 ≤ z
  · obtain ⟨l, hl⟩ := getN (show z.toNat < lg.length by omega)
    have ht := carryV_port ag ah hz hk h0 hl
    have hg2 := carry_get (p := p) (g := g) (c := c) ah
    rw [ht] at hg2
    by_cases hp : 0 ≤ portTo lh l.1
    · obtain ⟨l', hl', hu⟩ := portTo_at hp
      left
      rw [carryV_port ah ag hg2 hk hp hl', hu, portTo_inv (hvf.2.2.2.2.2.1 v lg ag.ports) hl]
      omega
    · have hm1 : portTo lh l.1 = -1 := by have := (portTo_bd lh l.1).1; omega
      right
      rw [hm1] at hg2
      exact ⟨by rw [carryV_num ag hg2 (by omega)]; exact hnone g lg ag, h0, l, hl, hm1⟩
  · left
    have hm1 : z = -1 := by omega
    subst hm1
    have ht := carryV_num (g := g) ah hz (by omega)
    rw [hnone h lh ah] at ht
    have hg2 := carry_get (p := p) (g := g) (c := c) ah
    rw [ht] at hg2
    rw [carryV_num ag hg2 (by omega)]
    exact hnone g lg ag
theorem carryM_ok {p : ProgD} {g h : GraphD} {c : List (List Int)} (h0 : fitsF p g = 0) (h1 : fitsF p h = 0) (hids : g.ids.length = h.ids.length) (hin : cfgInB (tableF p g) c = true) : carryM p g h c = (carryC p g h c, 0) := by
  obtain ⟨hc0, hg, _⟩ := fits_zero.1 h0
  obtain ⟨_, hh, _⟩ := fits_zero.1 h1
  rw [carryM, if_pos hc0, if_pos ⟨hg, hh, hids⟩, if_pos ⟨h0, h1⟩, if_pos hin]
theorem carryM_zero {p : ProgD} {g h : GraphD} {c : List (List Int)} (he : (carryM p g h c).2 = 0) : fitsF p g = 0 ∧ fitsF p h = 0 ∧ g.ids.length = h.ids.length ∧ cfgInB (tableF p g) c = true := by
  unfold carryM at he
  split at he
  · split at he
    · rename_i h2
      split at he
      · rename_i h3
        split at he
        · rename_i h4; exact ⟨h3.1, h3.2, h2.2.2, h4⟩
        · cases he
      · cases he
    · cases he
  · cases he
end Go.Proofs.YtenajilnjeafpaaGreat
set_option linter.unusedVariables false
set_option maxRecDepth 100000
set_option maxHeartbeats 8000000
namespace Go.Proofs.YtenajilnjeafpaaGreat
open Go.RowKit
theorem itself_con (p : ProgD) (g : GraphD) (c : List (List Int)) (h : GraphD) (hin : ProgIn p) : Con Tryz.prog 6 [encP p, encG g, encC c, encG h] (boolA true) := by
  refine con_of Tryz.func6 rfl rfl Tryz.ntmps6 Tryz.results6 rfl rfl ?_
  (repeat (first | refine zI ?_ | refine zL ?_ | refine zC ?_ | refine L_nil ?_ | refine A_seq ?_ | refine zR ?_ | refine zD ?_ | refine zK ?_ | refine zB ?_ | refine zA ?_ | refine zS ?_ | refine zU ?_ | refine zV ?_ | refine zF ?_ | with_reducible refine inblk_n ?_ | with_reducible refine then_n ?_ | refine A_block ?_ | refine A_skip ?_ | refine A_exit ?_ | refine zT ?_ | refine zE ?_ | refine zX ?_ | refine L_call rfl rfl (fair10_con p g c hin) rfl rfl ?_))
  refine L_split 24 rfl (fun h1 => ?_) (fun h1 => ?_)
  · (repeat (first | refine zI ?_ | refine zL ?_ | refine zC ?_ | refine L_nil ?_ | refine A_seq ?_ | refine zR ?_ | refine zD ?_ | refine zK ?_ | refine zB ?_ | refine zA ?_ | refine zS ?_ | refine zU ?_ | refine zV ?_ | refine zF ?_ | with_reducible refine inblk_n ?_ | with_reducible refine then_n ?_ | refine A_block ?_ | refine A_skip ?_ | refine A_exit ?_ | refine zT ?_ | refine zE ?_ | refine zX ?_ | refine L_call rfl rfl awake10_con rfl rfl ?_))
    refine A_ret ?_; refine ⟨_, rfl, ?_⟩
    exact frz_bool rfl
  simp at h1
  have hf : Fair p g := ⟨hin, light_of h1.1.1, h1.1.2⟩
  have hc := lightC_in h1.2
  have hcl := hc.1
  (repeat (first | refine zI ?_ | refine zL ?_ | refine zC ?_ | refine L_nil ?_ | refine A_seq ?_ | refine zR ?_ | refine zD ?_ | refine zK ?_ | refine zB ?_ | refine zA ?_ | refine zS ?_ | refine zU ?_ | refine zV ?_ | refine zF ?_ | with_reducible refine inblk_n ?_ | with_reducible refine then_n ?_ | refine A_block ?_ | refine A_skip ?_ | refine A_exit ?_ | refine zT ?_ | refine zE ?_ | refine zX ?_ | refine L_call rfl rfl (lightGraph_con h) rfl rfl ?_))
  refine L_split 29 rfl (fun h2 => ?_) (fun h2 => ?_)
  · (repeat (first | refine zI ?_ | refine zL ?_ | refine zC ?_ | refine L_nil ?_ | refine A_seq ?_ | refine zR ?_ | refine zD ?_ | refine zK ?_ | refine zB ?_ | refine zA ?_ | refine zS ?_ | refine zU ?_ | refine zV ?_ | refine zF ?_ | with_reducible refine inblk_n ?_ | with_reducible refine then_n ?_ | refine A_block ?_ | refine A_skip ?_ | refine A_exit ?_ | refine zT ?_ | refine zE ?_ | refine zX ?_ | refine L_call rfl rfl awake10_con rfl rfl ?_))
    refine A_ret ?_; refine ⟨_, rfl, ?_⟩
    exact frz_bool rfl
  simp at h2
  have hfh : Fair p h := ⟨hin, light_of h1.1.1, h2⟩
  (repeat (first | refine zI ?_ | refine zL ?_ | refine zC ?_ | refine L_nil ?_ | refine A_seq ?_ | refine zR ?_ | refine zD ?_ | refine zK ?_ | refine zB ?_ | refine zA ?_ | refine zS ?_ | refine zU ?_ | refine zV ?_ | refine zF ?_ | with_reducible refine inblk_n ?_ | with_reducible refine then_n ?_ | refine A_block ?_ | refine A_skip ?_ | refine A_exit ?_ | refine zT ?_ | refine zE ?_ | refine zX ?_ | refine L_call rfl rfl (rvalid10_con p g c hf hc) rfl rfl ?_))
  refine A_cond rfl (fun h3 => ?_) (fun h3 => ?_)
  · (repeat (first | refine zI ?_ | refine zL ?_ | refine zC ?_ | refine L_nil ?_ | refine A_seq ?_ | refine zR ?_ | refine zD ?_ | refine zK ?_ | refine zB ?_ | refine zA ?_ | refine zS ?_ | refine zU ?_ | refine zV ?_ | refine zF ?_ | with_reducible refine inblk_n ?_ | with_reducible refine then_n ?_ | refine A_block ?_ | refine A_skip ?_ | refine A_exit ?_ | refine zT ?_ | refine zE ?_ | refine zX ?_ | refine L_call rfl rfl awake10_con rfl rfl ?_))
    refine A_ret ?_; refine ⟨_, rfl, ?_⟩
    exact frz_bool rfl
  have hck : checkM p g c = 0 := by simpa using h3
  obtain ⟨h0, hinc⟩ := check_zero.1 hck
  obtain ⟨hc0, hvg, _⟩ := fits_zero.1 h0
  have hvl := hf.vlen
  have hgl := hf.glen
  have hhl := hfh.glen
  have hsh := shape_of hinc
  have e1 := mcarry_con p g g c hf hf hc
  rw [carryM_ok h0 h0 rfl hinc, carry_same hf h0 hinc] at e1
  have e2 := mcarry_con p g h c hf hfh hc
  have e3 := rcarry_con p g h c hf hfh hc
  have hz2 := carryM_zero (p := p) (g := g) (h := h) (c := c)
  obtain ⟨R, hR⟩ : ∃ R, R = carryM p g h c := ⟨_, rfl⟩
  rw [← hR] at e2 e3 hz2
  (repeat (first | refine zI ?_ | refine zL ?_ | refine zC ?_ | refine L_nil ?_ | refine A_seq ?_ | refine zR ?_ | refine zD ?_ | refine zK ?_ | refine zB ?_ | refine zA ?_ | refine zS ?_ | refine zU ?_ | refine zV ?_ | refine zF ?_ | with_reducible refine inblk_n ?_ | with_reducible refine then_n ?_ | refine A_block ?_ | refine A_skip ?_ | refine A_exit ?_ | refine zT ?_ | refine zE ?_ | refine zX ?_ | refine L_call rfl rfl e1 rfl rfl ?_ | refine L_call rfl rfl e2 rfl rfl ?_ | refine L_call rfl rfl (same_con10 c c hc) rfl rfl ?_))
  refine A_cond rfl (fun h4 => ?_) (fun h4 => ?_)
  · exfalso; simp at h4
  (repeat (first | refine zI ?_ | refine zL ?_ | refine zC ?_ | refine L_nil ?_ | refine A_seq ?_ | refine zR ?_ | refine zD ?_ | refine zK ?_ | refine zB ?_ | refine zA ?_ | refine zS ?_ | refine zU ?_ | refine zV ?_ | refine zF ?_ | with_reducible refine inblk_n ?_ | with_reducible refine then_n ?_ | refine A_block ?_ | refine A_skip ?_ | refine A_exit ?_ | refine zT ?_ | refine zE ?_ | refine zX ?_))
  refine A_cond rfl (fun h5 => ?_) (fun h5 => ?_)
  · (repeat (first | refine zI ?_ | refine zL ?_ | refine zC ?_ | refine L_nil ?_ | refine A_seq ?_ | refine zR ?_ | refine zD ?_ | refine zK ?_ | refine zB ?_ | refine zA ?_ | refine zS ?_ | refine zU ?_ | refine zV ?_ | refine zF ?_ | with_reducible refine inblk_n ?_ | with_reducible refine then_n ?_ | refine A_block ?_ | refine A_skip ?_ | refine A_exit ?_ | refine zT ?_ | refine zE ?_ | refine zX ?_ | refine L_call rfl rfl e3 rfl rfl ?_ | refine L_call rfl rfl awake10_con rfl rfl ?_))
    refine A_ret ?_; refine ⟨_, rfl, ?_⟩
    exact frz_bool (by simp)
  have hr0 : R.2 = 0 := by simpa using h5
  obtain ⟨_, h0h, hids, _⟩ := hz2 hr0
  obtain ⟨_, hvh, _⟩ := fits_zero.1 h0h
  have hpl : g.ports.length = h.ports.length := by
    have q1 := (valid_facts hvg).2.2.1
    have q2 := (valid_facts hvh).2.2.1
    omega
  rw [carryM_ok h0 h0h hids hinc] at hR
  subst hR
  have htin := carry_valid hf hfh h0 h0h hpl hinc
  have htsh := shape_carry p g h c
  have ht := cfg_shape hfh h0h htsh
  have htc : checkM p h (carryC p g h c) = 0 := check_zero.2 ⟨h0h, htin⟩
  have hbsh := shape_carry p h g (carryC p g h c)
  have e4 := mcarry_con p h g (carryC p g h c) hfh hf ht
  rw [carryM_ok h0h h0 hids.symm htin] at e4
  have hbl : (carryC p h g (carryC p g h c)).length = c.length := by rw [hbsh.1, hsh.1]
  have hback := fun v x lg lh y z => carry_back (p := p) (g := g) (h := h) (c := c) (v := v) (x := x) (lg := lg) (lh := lh) (y := y) (z := z) hvg
  have hget := fun v x lg y => carry_get (p := p) (g := h) (h := g) (c := carryC p g h c) (v := v) (x := x) (lh := lg) (y := y)
  obtain ⟨B, hB⟩ : ∃ B, B = carryC p h g (carryC p g h c) := ⟨_, rfl⟩
  rw [← hB] at e4 hbl hbsh
  simp only [← hB] at hget
  (repeat (first | refine zI ?_ | refine zL ?_ | refine zC ?_ | refine L_nil ?_ | refine A_seq ?_ | refine zR ?_ | refine zD ?_ | refine zK ?_ | refine zB ?_ | refine zA ?_ | refine zS ?_ | refine zU ?_ | refine zV ?_ | refine zF ?_ | with_reducible refine inblk_n ?_ | with_reducible refine then_n ?_ | refine A_block ?_ | refine A_skip ?_ | refine A_exit ?_ | refine zT ?_ | refine zE ?_ | refine zX ?_ | refine L_call rfl rfl e4 rfl rfl ?_ | refine L_call rfl rfl (rvalid10_con p h _ hfh ht) rfl rfl ?_))
  refine L_split 94 rfl (fun h6 => ?_) (fun h6 => ?_)
  · exfalso; simp [htc] at h6
  (repeat (first | refine zI ?_ | refine zL ?_ | refine zC ?_ | refine L_nil ?_ | refine A_seq ?_ | refine zR ?_ | refine zD ?_ | refine zK ?_ | refine zB ?_ | refine zA ?_ | refine zS ?_ | refine zU ?_ | refine zV ?_ | refine zF ?_ | with_reducible refine inblk_n ?_ | with_reducible refine then_n ?_ | refine A_block ?_ | refine A_skip ?_ | refine A_exit ?_ | refine zT ?_ | refine zE ?_ | refine zX ?_))
  refine A_cond rfl (fun h7 => ?_) (fun h7 => ?_)
  · exfalso; simp [hbl] at h7
  (repeat (first | refine zI ?_ | refine zL ?_ | refine zC ?_ | refine L_nil ?_ | refine A_seq ?_ | refine zR ?_ | refine zD ?_ | refine zK ?_ | refine zB ?_ | refine zA ?_ | refine zS ?_ | refine zU ?_ | refine zV ?_ | refine zF ?_ | with_reducible refine inblk_n ?_ | with_reducible refine then_n ?_ | refine A_block ?_ | refine A_skip ?_ | refine A_exit ?_ | refine zT ?_ | refine zE ?_ | refine zX ?_))
  refine A_inv (α := Nat) (fun v => [(17, i64 v), (15, encC B), (2, encC c), (4, .lp 4 0), (5, .lp 5 0), (7, .lp 7 0)]) (fun _ => [(7, some (.cells [encInts h.ids, encPorts h.ports])), (5, some (.cells [encInts g.ids, encPorts g.ports])), (4, some (.cells [strA p.name, .sl 6 (p.vars.map encVar), .sl 3 (p.rules.map encRule)]))]) (fun v => c.length - v) (fun v => v ≤ c.length) 0 (by omega) (by (repeat (first | exact subT_nil | refine subT_cons rfl ?_))) (by first | exact subH_nil | exact subH_cons rfl subH_nil | exact subH_cons rfl (subH_cons rfl subH_nil) | exact subH_cons rfl (subH_cons rfl (subH_cons rfl subH_nil)) | exact subH_cons rfl (subH_cons rfl (subH_cons rfl (subH_cons rfl subH_nil)))) ?_
  intro v hv
  (repeat (first | refine zI ?_ | refine zL ?_ | refine zC ?_ | refine L_nil ?_ | refine A_seq ?_ | refine zR ?_ | refine zD ?_ | refine zK ?_ | refine zB ?_ | refine zA ?_ | refine zS ?_ | refine zU ?_ | refine zV ?_ | refine zF ?_ | with_reducible refine inblk_n ?_ | with_reducible refine then_n ?_ | refine A_block ?_ | refine A_skip ?_ | refine A_exit ?_ | refine zT ?_ | refine zE ?_ | refine zX ?_))
  refine A_cond rfl (fun h8 => ?_) (fun h8 => ?_)
  · simp at h8
    obtain ⟨r, hr⟩ := getN (show v < (tableF p g).length by rw [← hsh.1]; exact h8)
    obtain ⟨s, hs, hsl⟩ := hsh.2 v r hr
    obtain ⟨sb, hsb, hsbl⟩ := hbsh.2 v r hr
    have hrl := table_row hr
    (repeat (first | refine zI ?_ | refine zL ?_ | refine zC ?_ | refine L_nil ?_ | refine A_seq ?_ | refine zR ?_ | refine zD ?_ | refine zK ?_ | refine zB ?_ | refine zA ?_ | refine zS ?_ | refine zU ?_ | refine zV ?_ | refine zF ?_ | with_reducible refine inblk_n ?_ | with_reducible refine then_n ?_ | refine A_block ?_ | refine A_skip ?_ | refine A_exit ?_ | refine zT ?_ | refine zE ?_ | refine zX ?_))
    refine A_inv (α := Nat) (fun x => [(18, i64 x), (17, i64 v), (15, encC B), (2, encC c), (4, .lp 4 0), (5, .lp 5 0), (7, .lp 7 0)]) (fun _ => [(7, some (.cells [encInts h.ids, encPorts h.ports])), (5, some (.cells [encInts g.ids, encPorts g.ports])), (4, some (.cells [strA p.name, .sl 6 (p.vars.map encVar), .sl 3 (p.rules.map encRule)]))]) (fun x => s.length - x) (fun x => x ≤ s.length) 0 (by omega) (by (repeat (first | exact subT_nil | refine subT_cons rfl ?_))) (by first | exact subH_nil | exact subH_cons rfl subH_nil | exact subH_cons rfl (subH_cons rfl subH_nil) | exact subH_cons rfl (subH_cons rfl (subH_cons rfl subH_nil)) | exact subH_cons rfl (subH_cons rfl (subH_cons rfl (subH_cons rfl subH_nil)))) ?_
    intro x hx
    (repeat (first | refine zI ?_ | refine zL ?_ | refine zC ?_ | refine L_nil ?_ | refine A_seq ?_ | refine zR ?_ | refine zD ?_ | refine zK ?_ | refine zB ?_ | refine zA ?_ | refine zS ?_ | refine zU ?_ | refine zV ?_ | refine zF ?_ | with_reducible refine inblk_n ?_ | with_reducible refine then_n ?_ | refine A_block ?_ | refine A_skip ?_ | refine A_exit ?_ | refine zT ?_ | refine zE ?_ | refine zX ?_))
    refine A_cond rfl (fun h9 => ?_) (fun h9 => ?_)
    · simp at h9
      obtain ⟨b, hb⟩ := getN (show x < r.length by omega)
      obtain ⟨lg, y, a1, a2, a3⟩ := table_inv hr hb
      have ag : At p g v x lg y := ⟨a1, a2⟩
      obtain ⟨lh, hlh⟩ := getN (show v < h.ports.length by rw [← hpl]; exact (List.getElem?_eq_some_iff.1 a1).1)
      have ah : At p h v x lh y := ⟨hlh, a2⟩
      obtain ⟨z, hz, hz1, hz2'⟩ := val_at hinc ag
      obtain ⟨s', hs', hzs⟩ := get2_some.1 hz
      rw [hs] at hs'
      cases hs'
      obtain ⟨sb', hsb', hbs⟩ := get2_some.1 (hget v x lg y ag)
      rw [hsb] at hsb'
      cases hsb'
      have hbk := hback v x lg lh y z ag ah hz
      obtain ⟨w, hw⟩ : ∃ w, w = carryV p h g (carryC p g h c) v x := ⟨_, rfl⟩
      rw [← hw] at hbs hbk
      have hll := hgl.2.2 lg (List.mem_of_getElem? a1)
      have hlk := hhl.2.2 lh (List.mem_of_getElem? hlh)
      (repeat (first | refine zI ?_ | refine zL ?_ | refine zC ?_ | refine L_nil ?_ | refine A_seq ?_ | refine zR ?_ | refine zD ?_ | refine zK ?_ | refine zB ?_ | refine zA ?_ | refine zS ?_ | refine zU ?_ | refine zV ?_ | refine zF ?_ | with_reducible refine inblk_n ?_ | with_reducible refine then_n ?_ | refine A_block ?_ | refine A_skip ?_ | refine A_exit ?_ | refine zT ?_ | refine zE ?_ | refine zX ?_))
      refine L_split 127 rfl (fun h10 => ?_) (fun h10 => ?_)
      · exfalso; simp at h10; omega
      (repeat (first | refine zI ?_ | refine zL ?_ | refine zC ?_ | refine L_nil ?_ | refine A_seq ?_ | refine zR ?_ | refine zD ?_ | refine zK ?_ | refine zB ?_ | refine zA ?_ | refine zS ?_ | refine zU ?_ | refine zV ?_ | refine zF ?_ | with_reducible refine inblk_n ?_ | with_reducible refine then_n ?_ | refine A_block ?_ | refine A_skip ?_ | refine A_exit ?_ | refine zT ?_ | refine zE ?_ | refine zX ?_))
      refine L_split 135 rfl (fun h11 => ?_) (fun h11 => ?_)
      · simp at h11
        rw [bounds_three h11] at hz1 hz2'
        simp only at hz1 hz2'
        have hb2 := hbk hz1 (by omega) h11
        (repeat (first | refine zI ?_ | refine zL ?_ | refine zC ?_ | refine L_nil ?_ | refine A_seq ?_ | refine zR ?_ | refine zD ?_ | refine zK ?_ | refine zB ?_ | refine zA ?_ | refine zS ?_ | refine zU ?_ | refine zV ?_ | refine zF ?_ | with_reducible refine inblk_n ?_ | with_reducible refine then_n ?_ | refine A_block ?_ | refine A_skip ?_ | refine A_exit ?_ | refine zT ?_ | refine zE ?_ | refine zX ?_))
        refine L_split 152 rfl (fun h12 => ?_) (fun h12 => ?_)
        · simp at h12
          rcases hb2 with hb2 | ⟨hb2, hz0, l, hl, hp⟩
          · exact absurd hb2 h12
          (repeat (first | refine zI ?_ | refine zL ?_ | refine zC ?_ | refine L_nil ?_ | refine A_seq ?_ | refine zR ?_ | refine zD ?_ | refine zK ?_ | refine zB ?_ | refine zA ?_ | refine zS ?_ | refine zU ?_ | refine zV ?_ | refine zF ?_ | with_reducible refine inblk_n ?_ | with_reducible refine then_n ?_ | refine A_block ?_ | refine A_skip ?_ | refine A_exit ?_ | refine zT ?_ | refine zE ?_ | refine zX ?_))
          refine L_split 161 rfl (fun h13 => ?_) (fun h13 => ?_)
          · exfalso; simp [hb2] at h13
          (repeat (first | refine zI ?_ | refine zL ?_ | refine zC ?_ | refine L_nil ?_ | refine A_seq ?_ | refine zR ?_ | refine zD ?_ | refine zK ?_ | refine zB ?_ | refine zA ?_ | refine zS ?_ | refine zU ?_ | refine zV ?_ | refine zF ?_ | with_reducible refine inblk_n ?_ | with_reducible refine then_n ?_ | refine A_block ?_ | refine A_skip ?_ | refine A_exit ?_ | refine zT ?_ | refine zE ?_ | refine zX ?_ | refine L_call rfl rfl (port_con h v l.1 lh (by omega) (by simpa using hlh) (by omega)) rfl rfl ?_))
          refine A_cond rfl (fun h14 => ?_) (fun h14 => ?_)
          · exfalso; simp [hp] at h14
          (repeat (first | refine zI ?_ | refine zL ?_ | refine zC ?_ | refine L_nil ?_ | refine A_seq ?_ | refine zR ?_ | refine zD ?_ | refine zK ?_ | refine zB ?_ | refine zA ?_ | refine zS ?_ | refine zU ?_ | refine zV ?_ | refine zF ?_ | with_reducible refine inblk_n ?_ | with_reducible refine then_n ?_ | refine A_block ?_ | refine A_skip ?_ | refine A_exit ?_ | refine zT ?_ | refine zE ?_ | refine zX ?_))
          exact rnd (x + 1) (by omega) (by omega) (by (repeat (first | exact subT_nil | refine subT_cons rfl ?_))) (by first | exact subH_nil | exact subH_cons rfl subH_nil | exact subH_cons rfl (subH_cons rfl subH_nil) | exact subH_cons rfl (subH_cons rfl (subH_cons rfl subH_nil)) | exact subH_cons rfl (subH_cons rfl (subH_cons rfl (subH_cons rfl subH_nil))))
        · (repeat (first | refine zI ?_ | refine zL ?_ | refine zC ?_ | refine L_nil ?_ | refine A_seq ?_ | refine zR ?_ | refine zD ?_ | refine zK ?_ | refine zB ?_ | refine zA ?_ | refine zS ?_ | refine zU ?_ | refine zV ?_ | refine zF ?_ | with_reducible refine inblk_n ?_ | with_reducible refine then_n ?_ | refine A_block ?_ | refine A_skip ?_ | refine A_exit ?_ | refine zT ?_ | refine zE ?_ | refine zX ?_))
          exact rnd (x + 1) (by omega) (by omega) (by (repeat (first | exact subT_nil | refine subT_cons rfl ?_))) (by first | exact subH_nil | exact subH_cons rfl subH_nil | exact subH_cons rfl (subH_cons rfl subH_nil) | exact subH_cons rfl (subH_cons rfl (subH_cons rfl subH_nil)) | exact subH_cons rfl (subH_cons rfl (subH_cons rfl (subH_cons rfl subH_nil))))
      · (repeat (first | refine zI ?_ | refine zL ?_ | refine zC ?_ | refine L_nil ?_ | refine A_seq ?_ | refine zR ?_ | refine zD ?_ | refine zK ?_ | refine zB ?_ | refine zA ?_ | refine zS ?_ | refine zU ?_ | refine zV ?_ | refine zF ?_ | with_reducible refine inblk_n ?_ | with_reducible refine then_n ?_ | refine A_block ?_ | refine A_skip ?_ | refine A_exit ?_ | refine zT ?_ | refine zE ?_ | refine zX ?_))
        exact rnd (x + 1) (by omega) (by omega) (by (repeat (first | exact subT_nil | refine subT_cons rfl ?_))) (by first | exact subH_nil | exact subH_cons rfl subH_nil | exact subH_cons rfl (subH_cons rfl subH_nil) | exact subH_cons rfl (subH_cons rfl (subH_cons rfl subH_nil)) | exact subH_cons rfl (subH_cons rfl (subH_cons rfl (subH_cons rfl subH_nil))))
    · simp at h9
      obtain rfl : x = s.length := by omega
      (repeat (first | refine zI ?_ | refine zL ?_ | refine zC ?_ | refine L_nil ?_ | refine A_seq ?_ | refine zR ?_ | refine zD ?_ | refine zK ?_ | refine zB ?_ | refine zA ?_ | refine zS ?_ | refine zU ?_ | refine zV ?_ | refine zF ?_ | with_reducible refine inblk_n ?_ | with_reducible refine then_n ?_ | refine A_block ?_ | refine A_skip ?_ | refine A_exit ?_ | refine zT ?_ | refine zE ?_ | refine zX ?_))
      exact rnd (v + 1) (by omega) (by omega) (by (repeat (first | exact subT_nil | refine subT_cons rfl ?_))) (by first | exact subH_nil | exact subH_cons rfl subH_nil | exact subH_cons rfl (subH_cons rfl subH_nil) | exact subH_cons rfl (subH_cons rfl (subH_cons rfl subH_nil)) | exact subH_cons rfl (subH_cons rfl (subH_cons rfl (subH_cons rfl subH_nil))))
  · simp at h8
    (repeat (first | refine zI ?_ | refine zL ?_ | refine zC ?_ | refine L_nil ?_ | refine A_seq ?_ | refine zR ?_ | refine zD ?_ | refine zK ?_ | refine zB ?_ | refine zA ?_ | refine zS ?_ | refine zU ?_ | refine zV ?_ | refine zF ?_ | with_reducible refine inblk_n ?_ | with_reducible refine then_n ?_ | refine A_block ?_ | refine A_skip ?_ | refine A_exit ?_ | refine zT ?_ | refine zE ?_ | refine zX ?_ | refine L_call rfl rfl awake10_con rfl rfl ?_))
    refine A_ret ?_; refine ⟨_, rfl, ?_⟩
    exact frz_bool rfl
theorem walk_MemoryCarriesToItself (v0 : Value) (z0 : ProgD) (v1 : Value) (z1 : GraphD) (v2 : Value) (z2 : List (List Int)) (v3 : Value) (z3 : GraphD) (w : World) (h0 : ProgOk w v0 z0 ∧ ProgIn z0) (h1 : GraphOk w v1 z1 ∧ GraphIn z1) (h2 : CfgOk w v2 z2) (h3 : GraphOk w v3 z3 ∧ GraphIn z3) :
    Calls Tryz.prog 6 #[v0, v1, v2, v3] w fun e w' => e = .returned (.bool true) ∧ Below w.heap.size w w' :=
  calls_of_con (itself_con z0 z1 z2 z3 h0.2) trivial (okW_lt w) (relAll_cons (prog_rel h0.1) (relAll_cons (graph_rel h1.1) (relAll_cons (cfg_rel h2) (relAll_cons (graph_rel h3.1) relAll_nil))))
end Go.Proofs.YtenajilnjeafpaaGreat
