/- The walks over the program's levels, Depth and Nest: a stack of numbers, from the list's end. -/
import Derived.Test.YtogennegbihceaaTermWalk1
import Derived.Deep.AppendLies
import Derived.Deep.RegionLaw
import Derived.Deep.LoopGhost
set_option maxRecDepth 100000
namespace Go.Proofs.Ytogennegbihceaa
open Go.RowKit

theorem end_at (v : Value) (l : List Tm) (k : Nat) (w : World) (hl : l.length ≤ 1000) (hv : Hid (Terms w v l)) (_hk : k ≤ 1000) :
    Calls Try.prog 32 #[v, .int .i64 k] w fun e w' => e = .returned (.int .i64 (endR 1 k l)) ∧ w = w' := by
  by_cases h : k < l.length
  · exact end_any_in v l k w hl hv h
  · obtain ⟨a, cap, rfl, h1, h2, _⟩ := hv.out.open
    have H := Lib.hid (endR_none 1 k l (by omega) (by omega))
    go_enter Try.func32, Try.ntmps32
    go_wp2
    go_ret
    exact ⟨ret_int H.out.symm, rfl⟩
theorem rend_at (v : Value) (l : List Tm) (k : Nat) (w : World) (hl : l.length ≤ 1000) (hv : Hid (Terms w v l)) (_hk : k ≤ 1000) :
    Calls Try.prog 64 #[v, .int .i64 k] w fun e w' => e = .returned (.int .i64 (endR 1 k l)) ∧ w = w' := by
  by_cases h : k < l.length
  · exact rend_any_in v l k w hl hv h
  · obtain ⟨a, cap, rfl, h1, h2, _⟩ := hv.out.open
    have H := Lib.hid (endR_none 1 k l (by omega) (by omega))
    go_enter Try.func64, Try.ntmps64
    go_wp2
    go_ret
    exact ⟨ret_int H.out.symm, rfl⟩
theorem end_one (l : List Tm) : endR 1 0 l = l.length ↔ ∃ E, parse l = some E := by
  rw [parse_iff]
  unfold endR
  rw [List.drop_zero]
  cases h : endN 1 l with
  | none => simp
  | some n => simp; omega

theorem depth1_any (op : Int) (g : Nat) (w : World) (hg : g ≤ 1000) : Calls Try.prog 57 #[.int .i64 op, .int .i64 g] w fun e w' => e = .returned (.int .i64 (depthF op g : Nat)) ∧ w = w' := by
  go_enter Try.func57, Try.ntmps57
  go_wp2
  go_ret
  exact ⟨ret_int (by unfold depthF; omega), rfl⟩
theorem nest1_any (op : Int) (g : Nat) (w : World) (hg : g ≤ 1000) : Calls Try.prog 58 #[.int .i64 op, .int .i64 g] w fun e w' => e = .returned (.int .i64 (nestF op g : Nat)) ∧ w = w' := by
  cases ha : aggB op
  all_goals
    go_enter Try.func58, Try.ntmps58
    go_wp2_with (go_at_call 39; refine (aggregate_any _ _).mono ?_; rintro e w' ⟨rfl, rfl⟩)
    go_ret
    exact ⟨ret_int (by unfold nestF; rw [ha]; simp), rfl⟩

theorem lev_bd (f : Int → Nat → Nat) (hf : ∀ op g, f op g ≤ g + 1) (l : List Tm) : ∀ x ∈ lev f l, x ≤ l.length := by
  have hm : ∀ (xs : List Nat) (b : Nat), (∀ x ∈ xs, x ≤ b) → maxl xs ≤ b := by
    intro xs b
    induction xs with
    | nil => intro _; simp [maxl]
    | cons a xs ih =>
      intro h
      have h1 := h a (List.mem_cons_self ..)
      have h2 := ih (fun x hx => h x (List.mem_cons_of_mem _ hx))
      simp only [maxl]; omega
  induction l with
  | nil => intro x hx; simp [lev] at hx
  | cons t l ih =>
    intro x hx
    simp only [lev] at hx
    cases hx with
    | head =>
      have h1 := hm ((lev f l).take (ar t.1).toNat) l.length (fun x hx => ih x (List.mem_of_mem_take hx))
      have h2 := hf t.1 (maxl ((lev f l).take (ar t.1).toNat))
      simp only [List.length_cons]; omega
    | tail _ hx => have := ih x (List.mem_of_mem_drop hx); simp only [List.length_cons]; omega
theorem lev_len (f : Int → Nat → Nat) (l : List Tm) : (lev f l).length ≤ l.length := by
  induction l with
  | nil => simp [lev]
  | cons t l ih => simp only [lev, List.length_cons, List.length_drop]; omega
theorem maxl_append (xs ys : List Nat) : maxl (xs ++ ys) = max (maxl xs) (maxl ys) := by
  induction xs with
  | nil => simp [maxl]
  | cons a xs ih => simp only [List.cons_append, maxl, ih]; omega
theorem maxl_reverse (xs : List Nat) : maxl xs.reverse = maxl xs := by
  induction xs with
  | nil => rfl
  | cons a xs ih => rw [List.reverse_cons, maxl_append, ih]; simp only [maxl]; omega
theorem maxl_take_succ (xs : List Nat) (q : Nat) (x : Nat) (h : xs[q]? = some x) : maxl (xs.take (q + 1)) = max (maxl (xs.take q)) x := by
  obtain ⟨h1, h2⟩ := List.getElem?_eq_some_iff.1 h
  rw [List.take_succ_eq_append_getElem h1, maxl_append, h2]; simp [maxl]

/-- The cells of a row of numbers. -/
def natCells (xs : List Nat) : List Value := xs.map fun (n : Nat) => Value.int .i64 n
theorem natCells_get (xs : List Nat) (i x : Nat) (h : xs[i]? = some x) : (natCells xs)[i]? = some (.int .i64 x) := by unfold natCells; rw [List.getElem?_map, h]; rfl
theorem natCells_length (xs : List Nat) : (natCells xs).length = xs.length := by simp [natCells]
theorem natCells_append (xs ys : List Nat) : natCells (xs ++ ys) = natCells xs ++ natCells ys := by simp [natCells]
theorem own_take {w : World} {B e cap n m : Nat} {a : Option Addr} {xs ys : List Value} (hm : ys.length = m)
    (h : w.ownsRow B e 1 (.slice a n cap) n (ys ++ xs)) : w.ownsRow B e 1 (.slice a m cap) m ys := by
  obtain ⟨h1, h2⟩ := h
  refine ⟨by omega, ?_⟩
  rw [List.length_append] at h1
  rcases h2 with ⟨h0, h3⟩ | ⟨g', cap', cur, hv, hg, hh, hn, hcap, hsz, htake⟩
  · cases h0
    exact .inl ⟨by rw [show m = 0 by omega], by omega⟩
  · cases hv
    refine .inr ⟨g', cap, cur, rfl, hg, hh, by omega, hcap, hsz, ?_⟩
    have h4 := congrArg (List.take m) htake
    rw [List.take_take, Nat.min_eq_left (by omega), ← hm, List.take_append_of_le_length (Nat.le_refl _), List.take_length] at h4
    rw [Nat.mul_one, ← hm]; exact h4

/-- Slicing a slice of one-cell elements. -/
theorem slice_tail {P : Program} {t : TypeId} (ht : P.underlying t = some (.slice (P.elem t))) (hs : ∀ w, (sizeOf (P.elem t)).run P w = .ok 1 w) (a : Option Addr) (n cap r m : Nat) (i : Int) (hi : i = r) (h : m + r = n) (hc : n ≤ cap) :
    ∃ sb capb, (∀ w, (Instr.slice t (.slice a n cap) (some (.int .i64 i)) none none).run P w = .ok (.slice sb m capb) w) ∧ m ≤ capb ∧ capb ≤ cap ∧ (∀ g o, a = some ⟨g, o, none⟩ → 0 < m → sb = some ⟨g, o + r, none⟩) := by
  subst hi
  refine ⟨if cap = r then a else a.map (·.add (r * 1)), cap - r, fun w => ?_, by omega, by omega, fun g o ha hr => ?_⟩
  · rw [run_slice_l w t a n cap ht .i64 r (by omega) (by omega), hs]
    show Result.ok (sliced a r n cap 1) w = _
    unfold sliced
    rw [show n - r = m by omega]
  · rw [if_neg (by omega), ha]
    simp only [Option.map_some, Nat.mul_one, Addr.add]
    split
    · simp_all
    · rfl
theorem slice_head {P : Program} {t : TypeId} (ht : P.underlying t = some (.slice (P.elem t))) (hs : ∀ w, (sizeOf (P.elem t)).run P w = .ok 1 w) (a : Option Addr) (n cap r : Nat) (i : Int) (hi : i = r) (h : r ≤ cap) :
    ∀ w, (Instr.slice t (.slice a n cap) none (some (.int .i64 i)) none).run P w = .ok (.slice a r cap) w := by
  subst hi
  intro w
  rw [run_slice_h w t a n cap ht .i64 r (by omega) (by omega), hs]
  show Result.ok (sliced a 0 r cap 1) w = _
  unfold sliced
  by_cases h0 : cap = 0
  · rw [if_pos h0]; rfl
  · rw [if_neg h0]
    cases a <;> simp [Addr.add]
theorem own_first {w : World} {B e : Nat} {v x : Value} (h : w.ownsRow B e 1 v 1 [x]) : ∃ g cap, v = .slice (some ⟨g, 0, none⟩) 1 cap ∧ 1 ≤ cap ∧ cap ≤ 9223372036854775807 ∧ w.cell? ⟨g, 0, none⟩ = some x := by
  have h5 := h
  obtain ⟨h1, h2⟩ := h
  rcases h2 with ⟨h0, h3⟩ | ⟨g, cap, cur, rfl, hg, hh, hn, hcap, hsz, htake⟩
  · omega
  · unfold maxLen at hcap
    have hc := h5.cells (g := g) rfl 0 x rfl
    exact ⟨g, cap, rfl, hn, by omega, by simpa [Addr.add] using hc⟩
theorem own_cells {w : World} {B e n cap : Nat} {a : Option Addr} {xs : List Value} (h : w.ownsRow B e 1 (.slice a n cap) n xs) : n ≤ cap ∧ cap ≤ 9223372036854775807 ∧ (0 < n → ∃ g, a = some ⟨g, 0, none⟩ ∧ ∀ j u, xs[j]? = some u → w.cell? ⟨g, j, none⟩ = some u) := by
  obtain ⟨a', cap', hv, h1, h2, h3, h4⟩ := (row_of_own h).open
  cases hv
  refine ⟨h1, h2, fun hn => ?_⟩
  rcases h.2 with ⟨h0, h5⟩ | ⟨g, cap, cur, hv, hg, hh, hn', hcap, hsz, htake⟩
  · omega
  · cases hv
    refine ⟨g, rfl, fun j u hu => ?_⟩
    have hc := h.cells (g := g) rfl j u hu
    have h0 : (⟨g, 0, none⟩ : Addr).add j = ⟨g, j, none⟩ := by unfold Addr.add; split <;> simp_all
    rw [h0] at hc; exact hc
/-- One round of levels, in plain words. -/
theorem lev_round (f : Int → Nat → Nat) (l : List Tm) (E : Ex) (hf : forest l = some [E]) (j : Nat) (hj : j < l.length) :
    0 ≤ ar l[j].1 ∧ ∃ lo seg : List Nat, (lev f (l.drop (j + 1))).reverse = lo ++ seg ∧ (seg.length : Int) = ar l[j].1 ∧ (lev f (l.drop j)).reverse = lo ++ [f l[j].1 (maxl seg)] := by
  obtain ⟨G', hG'⟩ := forest_suffix l j _ hf
  rw [List.drop_eq_getElem_cons hj] at hG'
  obtain ⟨G, hG, h0, hle, _⟩ := forest_enough _ _ _ hG'
  have hlen : (lev f (l.drop (j + 1))).length = G.length := by rw [lev_forest f _ G hG, List.length_map]
  refine ⟨h0, ((lev f (l.drop (j + 1))).drop (ar l[j].1).toNat).reverse, ((lev f (l.drop (j + 1))).take (ar l[j].1).toNat).reverse, ?_, ?_, ?_⟩
  · rw [← List.reverse_append, List.take_append_drop]
  · rw [List.length_reverse, List.length_take, hlen]; omega
  · rw [List.drop_eq_getElem_cons hj]
    simp only [lev, List.reverse_cons, maxl_reverse]
theorem infoInt : (Try.prog.info? 3).map (fun i => (i.zero, i.size, i.bytes)) = some (some (.int .i64 0), 1, 8) := by kernel_rfl
theorem sizeInt (w : World) : (sizeOf (Try.prog.elem 44)).run Try.prog w = .ok 1 w := by kernel_rfl
theorem underInts : Try.prog.underlying 44 = some (.slice (Try.prog.elem 44)) := by kernel_rfl

set_option maxHeartbeats 4000000 in
theorem levels_depth (v : Value) (l : List Tm) (E : Ex) (w : World) (hl : l.length ≤ 1000) (hv : Hid (Terms w v l)) (hp : Hid (parse l = some E)) :
    Calls Try.prog 56 #[v, .func (.func 57) #[] #[]] w fun e w' => e = .returned (.tuple #[.int .i64 (val depthF E : Nat), .bool true]) ∧ Below w.heap.size w w' := by
  obtain ⟨i0, hi, hz0, hz1, hz2⟩ := info_parts infoInt
  have Hi := Lib.hid hi
  have Hz0 := Lib.hid hz0
  have Hz1 := Lib.hid hz1
  have Hz2 := Lib.hid hz2
  clear hi hz0 hz1 hz2
  obtain ⟨hok, hfl⟩ := parse_some hp.out
  have HF : Hid (forest l = some [E]) := by rw [← hfl]; have := forest_fl E hok [] [] rfl; rw [List.append_nil] at this; exact this
  have hpos : 0 < l.length := by rw [← hfl]; exact E.fl_pos
  have HE := Lib.hid ((end_one l).2 ⟨E, hp.out⟩)
  have hne : (endR 1 0 l != (l.length : Int)) = false := by rw [HE.out]; simp
  clear hok hfl
  obtain ⟨a0, cap0, rfl, h1, h2, h3⟩ := hv.out.open
  obtain ⟨g0, o0, rfl, hg0, hc⟩ := h3 hpos
  have HC := Lib.hid hc
  clear h3 hc
  go_enter Try.func56, Try.ntmps56
  go_wp2_with (go_at_call 32; refine (end_at _ l 0 _ hl hv (by omega)).mono ?_; rintro e w' ⟨rfl, rfl⟩)
  go_loopg [6, 7, 8, 9, 11] l.length (fun m st i _ _ _ wr => m ≤ l.length ∧ i = .int .i64 ((m : Int) - 1) ∧ wr.ownsRow w.heap.size 3 1 st (lev depthF (l.drop m)).length (natCells (lev depthF (l.drop m)).reverse) ∧ Below w.heap.size w wr)
  case atStart =>
    refine ⟨Nat.le_refl _, rfl, ?_, Below.refl _ _⟩
    rw [List.drop_length]; exact World.ownsRow_nil _ _ _ _
  case round =>
    obtain ⟨hm, rfl, hown, hbel⟩ := hrel
    by_cases h0 : gk = 0
    · subst h0
      rw [List.drop_zero, lev_forest depthF l [E] HF.out] at hown
      obtain ⟨g, cap, rfl, hc1, hc2, hcell⟩ := own_first hown
      go_wp2_with fail
      go_ret2
      exact ⟨rfl, hbel⟩
    · obtain ⟨j, rfl⟩ : ∃ j, gk = j + 1 := ⟨gk - 1, by omega⟩
      have hj : j < l.length := by omega
      obtain ⟨ha0, lo, seg, hr1, hr2, hr3⟩ := lev_round depthF l E HF.out j hj
      have hlen : (lev depthF (l.drop (j + 1))).length = lo.length + seg.length := by rw [← List.length_reverse, hr1, List.length_append]
      have hsegb : maxl seg ≤ 1000 := by
        have h1 := lev_bd depthF (by intro op g; simp only [depthF]; first | omega | (split <;> omega)) (l.drop (j + 1))
        have h2 : ∀ (xs : List Nat) (b : Nat), (∀ x ∈ xs, x ≤ b) → maxl xs ≤ b := by
          intro xs b
          induction xs with
          | nil => intro _; simp [maxl]
          | cons a xs ih =>
            intro h
            have h1 := h a (List.mem_cons_self ..)
            have h2 := ih (fun x hx => h x (List.mem_cons_of_mem _ hx))
            simp only [maxl]; omega
        refine Nat.le_trans (h2 seg (l.drop (j + 1)).length fun x hx => h1 x ?_) (by rw [List.length_drop]; omega)
        rw [← List.mem_reverse, hr1]; exact List.mem_append_right _ hx
      have e1 : ((j + 1 : Nat) : Int) - 1 = j := by omega
      rw [e1]
      rw [hr1, hlen] at hown
      have H3 := Lib.hid hr3
      obtain ⟨sa, scap, rfl⟩ := own_shape hown
      obtain ⟨hn1, hn2, hn3⟩ := own_cells hown
      obtain ⟨sb, capb, hsl, hb1, hb2, hb3⟩ := slice_tail underInts sizeInt sa (lo.length + seg.length) scap lo.length seg.length (((lo.length + seg.length : Nat) : Int) - ar l[j].1) (by omega) (by omega) hn1
      have hsl2 := slice_head underInts sizeInt sa (lo.length + seg.length) scap lo.length (((lo.length + seg.length : Nat) : Int) - ar l[j].1) (by omega) (by omega)
      obtain ⟨c0, c1⟩ := HC.out j _ (List.getElem?_eq_getElem hj)
      rw [← hbel.cell (p := ⟨g0, _, none⟩) hg0] at c0 c1
      have HR2 := Lib.hid hr2
      have hra : ar l[j].1 ≤ ((lo.length + seg.length : Nat) : Int) := by omega
      have hlo : lo.length + seg.length ≤ 1000 := by have h1 := lev_len depthF (l.drop (j + 1)); rw [List.length_drop] at h1; omega
      have hnpos : (0 < seg.length → 0 < lo.length + seg.length) := by omega
      have hlo2 : lo.length ≤ scap := by omega
      have hlo3 : lo.length ≤ 1000 := by omega
      generalize hN : lo.length + seg.length = n at *
      have HN := Lib.hid hN
      clear hN
      clear hr1 hr2 hr3 hlen e1 h0
      go_wp2_with (go_at_call 36; refine (arity_any _ _).mono ?_; rintro e w' ⟨rfl, rfl⟩)
      go_loop [9, 11, 37] (fun gr _ q => ∃ k : Nat, k ≤ seg.length ∧ q = .int .i64 k ∧ gr = .int .i64 (maxl (seg.take k) : Nat)) (fun _ _ q => seg.length - (intOf q).toNat)
      case atStart => exact ⟨0, by omega, rfl, rfl⟩
      case round =>
        obtain ⟨k, hk, rfl, rfl⟩ := hrel
        by_cases hq : k < seg.length
        · obtain ⟨g, rfl, hcs⟩ := hn3 (by have := HN.out; omega)
          obtain rfl := hb3 g 0 rfl (by omega)
          obtain ⟨x, hx⟩ : ∃ x, seg[k]? = some x := ⟨seg[k], List.getElem?_eq_getElem hq⟩
          have hcell := hcs (lo.length + k) _ (natCells_get (lo ++ seg) (lo.length + k) x (by rw [List.getElem?_append_right (by omega), Nat.add_sub_cancel_left]; exact hx))
          have HM := Lib.hid (maxl_take_succ seg k x hx)
          clear hcs hx
          simp only [Nat.zero_add]
          generalize maxl (seg.take k) = mk at *
          go_wp2_with fail
          refine ⟨⟨k + 1, by omega, by go_num, ?_⟩, by simp [intOf]; omega⟩
          rw [HM.out]
          congr 1
          split <;> omega
        · obtain rfl : k = seg.length := by omega
          rw [List.take_length]
          go_wp2_with fail
          have hown' : wr.ownsRow w.heap.size 3 1 (.slice sa lo.length scap) lo.length (natCells lo) := own_take (natCells_length lo) (by rw [natCells_append] at hown; exact hown)
          go_region_law (first | (go_simp; go_at_call 57; refine (depth1_any _ _ _ hsegb).mono ?_; rintro e w' ⟨rfl, rfl⟩; dsimp only) | (refine step_append_lies _ rfl (.tmp 47) (.tmp 56) 44 rfl w.heap.size 3 i0 (.int .i64 0) 1 8 Try.underlying44 Hi.out Hz0.out Hz1.out Hz2.out rfl (by decide) _ _ _ rfl (by exact own_below hown' (by repeat (first | exact Below.refl _ _ | apply Below.drew | refine Below.alloc ?_ (by simp) _))) ⟨wr.heap.size, 0, none⟩ 1 1 [.int .i64 (depthF l[j].1 (maxl seg) : Nat)] rfl rfl (by exact new_cells _ _ _ _ (by simp)) (by simp [Value.oneCell']) (by decide) (by unfold maxLen; omega) (by omega) (by have := hbel.size; simp; omega) _ rfl ?_; intro g2 cap2 w2 hown2 hgrow2 _ _))
          have HO : w2.ownsRow w.heap.size 3 1 (.slice (some ⟨g2, 0, none⟩) (lo.length + 1) cap2) (lev depthF (l.drop j)).length (natCells (lev depthF (l.drop j)).reverse) := by
            have e5 := congrArg List.length H3.out
            rw [List.length_reverse, List.length_append] at e5
            rw [e5, H3.out, natCells_append]; exact hown2
          have HB : Below w.heap.size w w2 := Below.grown (by repeat (first | exact hbel | apply Below.drew | refine Below.alloc ?_ (by have := hbel.size; simp; omega) _)) hgrow2 (by have := hbel.size; simp; omega) (own_ge hown')
          clear hown2 hgrow2 hown'
          go_wp2_with fail
          go_roundg j
          case measure => omega
          case rel => exact ⟨by omega, by go_num, HO, HB⟩

set_option maxHeartbeats 4000000 in
theorem levels_nest (v : Value) (l : List Tm) (E : Ex) (w : World) (hl : l.length ≤ 1000) (hv : Hid (Terms w v l)) (hp : Hid (parse l = some E)) :
    Calls Try.prog 56 #[v, .func (.func 58) #[] #[]] w fun e w' => e = .returned (.tuple #[.int .i64 (val nestF E : Nat), .bool true]) ∧ Below w.heap.size w w' := by
  obtain ⟨i0, hi, hz0, hz1, hz2⟩ := info_parts infoInt
  have Hi := Lib.hid hi
  have Hz0 := Lib.hid hz0
  have Hz1 := Lib.hid hz1
  have Hz2 := Lib.hid hz2
  clear hi hz0 hz1 hz2
  obtain ⟨hok, hfl⟩ := parse_some hp.out
  have HF : Hid (forest l = some [E]) := by rw [← hfl]; have := forest_fl E hok [] [] rfl; rw [List.append_nil] at this; exact this
  have hpos : 0 < l.length := by rw [← hfl]; exact E.fl_pos
  have HE := Lib.hid ((end_one l).2 ⟨E, hp.out⟩)
  have hne : (endR 1 0 l != (l.length : Int)) = false := by rw [HE.out]; simp
  clear hok hfl
  obtain ⟨a0, cap0, rfl, h1, h2, h3⟩ := hv.out.open
  obtain ⟨g0, o0, rfl, hg0, hc⟩ := h3 hpos
  have HC := Lib.hid hc
  clear h3 hc
  go_enter Try.func56, Try.ntmps56
  go_wp2_with (go_at_call 32; refine (end_at _ l 0 _ hl hv (by omega)).mono ?_; rintro e w' ⟨rfl, rfl⟩)
  go_loopg [6, 7, 8, 9, 11] l.length (fun m st i _ _ _ wr => m ≤ l.length ∧ i = .int .i64 ((m : Int) - 1) ∧ wr.ownsRow w.heap.size 3 1 st (lev nestF (l.drop m)).length (natCells (lev nestF (l.drop m)).reverse) ∧ Below w.heap.size w wr)
  case atStart =>
    refine ⟨Nat.le_refl _, rfl, ?_, Below.refl _ _⟩
    rw [List.drop_length]; exact World.ownsRow_nil _ _ _ _
  case round =>
    obtain ⟨hm, rfl, hown, hbel⟩ := hrel
    by_cases h0 : gk = 0
    · subst h0
      rw [List.drop_zero, lev_forest nestF l [E] HF.out] at hown
      obtain ⟨g, cap, rfl, hc1, hc2, hcell⟩ := own_first hown
      go_wp2_with fail
      go_ret2
      exact ⟨rfl, hbel⟩
    · obtain ⟨j, rfl⟩ : ∃ j, gk = j + 1 := ⟨gk - 1, by omega⟩
      have hj : j < l.length := by omega
      obtain ⟨ha0, lo, seg, hr1, hr2, hr3⟩ := lev_round nestF l E HF.out j hj
      have hlen : (lev nestF (l.drop (j + 1))).length = lo.length + seg.length := by rw [← List.length_reverse, hr1, List.length_append]
      have hsegb : maxl seg ≤ 1000 := by
        have h1 := lev_bd nestF (by intro op g; simp only [nestF]; first | omega | (split <;> omega)) (l.drop (j + 1))
        have h2 : ∀ (xs : List Nat) (b : Nat), (∀ x ∈ xs, x ≤ b) → maxl xs ≤ b := by
          intro xs b
          induction xs with
          | nil => intro _; simp [maxl]
          | cons a xs ih =>
            intro h
            have h1 := h a (List.mem_cons_self ..)
            have h2 := ih (fun x hx => h x (List.mem_cons_of_mem _ hx))
            simp only [maxl]; omega
        refine Nat.le_trans (h2 seg (l.drop (j + 1)).length fun x hx => h1 x ?_) (by rw [List.length_drop]; omega)
        rw [← List.mem_reverse, hr1]; exact List.mem_append_right _ hx
      have e1 : ((j + 1 : Nat) : Int) - 1 = j := by omega
      rw [e1]
      rw [hr1, hlen] at hown
      have H3 := Lib.hid hr3
      obtain ⟨sa, scap, rfl⟩ := own_shape hown
      obtain ⟨hn1, hn2, hn3⟩ := own_cells hown
      obtain ⟨sb, capb, hsl, hb1, hb2, hb3⟩ := slice_tail underInts sizeInt sa (lo.length + seg.length) scap lo.length seg.length (((lo.length + seg.length : Nat) : Int) - ar l[j].1) (by omega) (by omega) hn1
      have hsl2 := slice_head underInts sizeInt sa (lo.length + seg.length) scap lo.length (((lo.length + seg.length : Nat) : Int) - ar l[j].1) (by omega) (by omega)
      obtain ⟨c0, c1⟩ := HC.out j _ (List.getElem?_eq_getElem hj)
      rw [← hbel.cell (p := ⟨g0, _, none⟩) hg0] at c0 c1
      have HR2 := Lib.hid hr2
      have hra : ar l[j].1 ≤ ((lo.length + seg.length : Nat) : Int) := by omega
      have hlo : lo.length + seg.length ≤ 1000 := by have h1 := lev_len nestF (l.drop (j + 1)); rw [List.length_drop] at h1; omega
      have hnpos : (0 < seg.length → 0 < lo.length + seg.length) := by omega
      have hlo2 : lo.length ≤ scap := by omega
      have hlo3 : lo.length ≤ 1000 := by omega
      generalize hN : lo.length + seg.length = n at *
      have HN := Lib.hid hN
      clear hN
      clear hr1 hr2 hr3 hlen e1 h0
      go_wp2_with (go_at_call 36; refine (arity_any _ _).mono ?_; rintro e w' ⟨rfl, rfl⟩)
      go_loop [9, 11, 37] (fun gr _ q => ∃ k : Nat, k ≤ seg.length ∧ q = .int .i64 k ∧ gr = .int .i64 (maxl (seg.take k) : Nat)) (fun _ _ q => seg.length - (intOf q).toNat)
      case atStart => exact ⟨0, by omega, rfl, rfl⟩
      case round =>
        obtain ⟨k, hk, rfl, rfl⟩ := hrel
        by_cases hq : k < seg.length
        · obtain ⟨g, rfl, hcs⟩ := hn3 (by have := HN.out; omega)
          obtain rfl := hb3 g 0 rfl (by omega)
          obtain ⟨x, hx⟩ : ∃ x, seg[k]? = some x := ⟨seg[k], List.getElem?_eq_getElem hq⟩
          have hcell := hcs (lo.length + k) _ (natCells_get (lo ++ seg) (lo.length + k) x (by rw [List.getElem?_append_right (by omega), Nat.add_sub_cancel_left]; exact hx))
          have HM := Lib.hid (maxl_take_succ seg k x hx)
          clear hcs hx
          simp only [Nat.zero_add]
          generalize maxl (seg.take k) = mk at *
          go_wp2_with fail
          refine ⟨⟨k + 1, by omega, by go_num, ?_⟩, by simp [intOf]; omega⟩
          rw [HM.out]
          congr 1
          split <;> omega
        · obtain rfl : k = seg.length := by omega
          rw [List.take_length]
          go_wp2_with fail
          have hown' : wr.ownsRow w.heap.size 3 1 (.slice sa lo.length scap) lo.length (natCells lo) := own_take (natCells_length lo) (by rw [natCells_append] at hown; exact hown)
          go_region_law (first | (go_simp; go_at_call 58; refine (nest1_any _ _ _ hsegb).mono ?_; rintro e w' ⟨rfl, rfl⟩; dsimp only) | (refine step_append_lies _ rfl (.tmp 47) (.tmp 56) 44 rfl w.heap.size 3 i0 (.int .i64 0) 1 8 Try.underlying44 Hi.out Hz0.out Hz1.out Hz2.out rfl (by decide) _ _ _ rfl (by exact own_below hown' (by repeat (first | exact Below.refl _ _ | apply Below.drew | refine Below.alloc ?_ (by simp) _))) ⟨wr.heap.size, 0, none⟩ 1 1 [.int .i64 (nestF l[j].1 (maxl seg) : Nat)] rfl rfl (by exact new_cells _ _ _ _ (by simp)) (by simp [Value.oneCell']) (by decide) (by unfold maxLen; omega) (by omega) (by have := hbel.size; simp; omega) _ rfl ?_; intro g2 cap2 w2 hown2 hgrow2 _ _))
          have HO : w2.ownsRow w.heap.size 3 1 (.slice (some ⟨g2, 0, none⟩) (lo.length + 1) cap2) (lev nestF (l.drop j)).length (natCells (lev nestF (l.drop j)).reverse) := by
            have e5 := congrArg List.length H3.out
            rw [List.length_reverse, List.length_append] at e5
            rw [e5, H3.out, natCells_append]; exact hown2
          have HB : Below w.heap.size w w2 := Below.grown (by repeat (first | exact hbel | apply Below.drew | refine Below.alloc ?_ (by have := hbel.size; simp; omega) _)) hgrow2 (by have := hbel.size; simp; omega) (own_ge hown')
          clear hown2 hgrow2 hown'
          go_wp2_with fail
          go_roundg j
          case measure => omega
          case rel => exact ⟨by omega, by go_num, HO, HB⟩

theorem levels_none (v fv : Value) (l : List Tm) (w : World) (hl : l.length ≤ 1000) (hv : Hid (Terms w v l)) (hp : Hid (parse l = none)) :
    Calls Try.prog 56 #[v, fv] w fun e w' => e = .returned (.tuple #[.int .i64 0, .bool false]) ∧ w = w' := by
  have hne : (endR 1 0 l != (l.length : Int)) = true := by
    rw [bne_iff_ne]
    intro h
    obtain ⟨E, hE⟩ := (end_one l).1 h
    rw [hp.out] at hE; cases hE
  obtain ⟨a0, cap0, rfl, h1, h2, h3⟩ := hv.out.open
  clear h3
  go_enter Try.func56, Try.ntmps56
  go_wp2_with (go_at_call 32; refine (end_at _ l 0 _ hl hv (by omega)).mono ?_; rintro e w' ⟨rfl, rfl⟩)
  go_ret2
  exact ⟨rfl, rfl⟩
def depthV (l : List Tm) : Nat := match parse l with | none => 0 | some E => E.dp
def nestV (l : List Tm) : Nat := match parse l with | none => 0 | some E => E.ns
theorem depth_any (v : Value) (l : List Tm) (w : World) (hl : l.length ≤ 1000) (hv : Hid (Terms w v l)) :
    Calls Try.prog 34 #[v] w fun e w' => e = .returned (.int .i64 (depthV l)) ∧ Below w.heap.size w w' := by
  cases hp : parse l with
  | none =>
    have H : Hid (depthV l = 0) := by unfold depthV; rw [hp]; rfl
    have HP := Lib.hid hp
    clear hp
    go_enter Try.func34, Try.ntmps34
    go_wp2_with (go_at_call 56; refine (levels_none _ _ l _ hl hv HP).mono ?_; rintro e w' ⟨rfl, rfl⟩)
    go_ret
    exact ⟨ret_int (by rw [H.out]; rfl), Below.refl _ _⟩
  | some E =>
    have H : Hid (depthV l = val depthF E) := by unfold depthV; rw [hp, val_depth]; rfl
    have HP := Lib.hid hp
    clear hp
    go_enter Try.func34, Try.ntmps34
    go_wp2_with (go_at_call 56; refine (levels_depth _ l E _ hl hv HP).mono ?_; rintro e w' ⟨rfl, hb⟩)
    go_ret
    exact ⟨ret_int (by rw [H.out]), hb⟩
theorem nest_any (v : Value) (l : List Tm) (w : World) (hl : l.length ≤ 1000) (hv : Hid (Terms w v l)) :
    Calls Try.prog 35 #[v] w fun e w' => e = .returned (.int .i64 (nestV l)) ∧ Below w.heap.size w w' := by
  cases hp : parse l with
  | none =>
    have H : Hid (nestV l = 0) := by unfold nestV; rw [hp]; rfl
    have HP := Lib.hid hp
    clear hp
    go_enter Try.func35, Try.ntmps35
    go_wp2_with (go_at_call 56; refine (levels_none _ _ l _ hl hv HP).mono ?_; rintro e w' ⟨rfl, rfl⟩)
    go_ret
    exact ⟨ret_int (by rw [H.out]; rfl), Below.refl _ _⟩
  | some E =>
    have H : Hid (nestV l = val nestF E) := by unfold nestV; rw [hp, val_nest E (parse_some hp).1]; rfl
    have HP := Lib.hid hp
    clear hp
    go_enter Try.func35, Try.ntmps35
    go_wp2_with (go_at_call 56; refine (levels_nest _ l E _ hl hv HP).mono ?_; rintro e w' ⟨rfl, hb⟩)
    go_ret
    exact ⟨ret_int (by rw [H.out]), hb⟩
end Go.Proofs.Ytogennegbihceaa
