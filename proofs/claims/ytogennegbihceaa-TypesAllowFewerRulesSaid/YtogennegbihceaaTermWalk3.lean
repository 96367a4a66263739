/- The walks over the reference's levels, Depth and Nest: the open terms, from the start. -/
import Derived.Test.YtogennegbihceaaTermWalk2
import Derived.Deep.RegionHeld3
import Derived.Deep.QuietTactic
import Derived.BigQuiet
namespace Go.Proofs.Ytogennegbihceaa
open Go.RowKit

def boolCells (xs : List Bool) : List Value := xs.map Value.bool
theorem boolCells_get (xs : List Bool) (i : Nat) (x : Bool) (h : xs[i]? = some x) : (boolCells xs)[i]? = some (.bool x) := by unfold boolCells; rw [List.getElem?_map, h]; rfl
theorem boolCells_append (xs ys : List Bool) : boolCells (xs ++ ys) = boolCells xs ++ boolCells ys := by simp [boolCells]
theorem boolCells_length (xs : List Bool) : (boolCells xs).length = xs.length := by simp [boolCells]
theorem own_ne {w : World} {B B' e e' s s' n n' : Nat} {v v' : Value} {xs xs' : List Value} (h : w.ownsRow B e s v n xs) (h' : w.ownsRow B' e' s' v' n' xs') (hne : e ≠ e') : v.ownBlock = none ∨ v.ownBlock ≠ v'.ownBlock := by
  rcases h.2 with ⟨rfl, _⟩ | ⟨g, cap, cur, rfl, _, hh, _⟩
  · exact .inl rfl
  · rcases h'.2 with ⟨rfl, _⟩ | ⟨g', cap', cur', rfl, _, hh', _⟩
    · right; simp [Value.ownBlock]
    · right
      intro heq
      simp only [Value.ownBlock, Option.some.injEq] at heq
      rw [heq, hh'] at hh
      simp only [Option.some.injEq, Obj.cells.injEq] at hh
      exact hne hh.2.1.symm

def lefts (S : Open) : List Nat := (S.map (·.1)).reverse
def opens (S : Open) : List Bool := (S.map (·.2)).reverse
theorem lefts_cons (k : Nat) (b : Bool) (S : Open) : lefts ((k, b) :: S) = lefts S ++ [k] := by simp [lefts]
theorem opens_cons (k : Nat) (b : Bool) (S : Open) : opens ((k, b) :: S) = opens S ++ [b] := by simp [opens]
theorem lefts_length (S : Open) : (lefts S).length = S.length := by simp [lefts]
theorem opens_length (S : Open) : (opens S).length = S.length := by simp [opens]
def cntB (bs : List Bool) : Nat := (bs.filter id).length
theorem cntB_opens (S : Open) : cntB (opens S) = cnt S := by
  unfold cntB opens cnt
  rw [List.filter_reverse, List.length_reverse, List.filter_map, List.length_map]
  rfl
theorem cntB_take_succ (bs : List Bool) (q : Nat) (x : Bool) (h : bs[q]? = some x) : cntB (bs.take (q + 1)) = cntB (bs.take q) + (if x then 1 else 0) := by
  obtain ⟨h1, h2⟩ := List.getElem?_eq_some_iff.1 h
  unfold cntB
  rw [List.take_succ_eq_append_getElem h1, List.filter_append, List.length_append, h2]
  cases x <;> simp
theorem cntB_le (bs : List Bool) : cntB bs ≤ bs.length := List.length_filter_le _ _

/-- What the closing loop makes of a stack whose top may have nothing left. -/
def closeS : Open → Open
  | [] => []
  | (x, b) :: S => closeK x b S
def Pos (S : Open) : Prop := ∀ e ∈ S, 1 ≤ e.1 ∧ e.1 ≤ 3
theorem closeS_stop (x : Nat) (b : Bool) (S : Open) (h : x ≠ 0) : closeS ((x, b) :: S) = (x, b) :: S := closeK_pos x b S h
theorem closeS_last (b : Bool) : closeS [(0, b)] = [] := by simp [closeS, closeK]
theorem closeS_pop (b c : Bool) (x : Nat) (S : Open) : closeS ((0, b) :: (x, c) :: S) = closeS ((x - 1, c) :: S) := by simp [closeS, closeK]
theorem closeK_Pos (S : Open) : ∀ (k : Nat) (b : Bool), k ≤ 3 → Pos S → Pos (closeK k b S) := by
  induction S with
  | nil =>
    intro k b hk _
    simp only [closeK]
    split
    · intro e he; cases he
    · intro e he; simp at he; subst he; exact ⟨by omega, hk⟩
  | cons x S ih =>
    obtain ⟨x, c⟩ := x
    intro k b hk hS
    simp only [closeK]
    split
    · exact ih _ _ (by have := hS (x, c) (List.mem_cons_self ..); omega) (fun e he => hS e (List.mem_cons_of_mem _ he))
    · intro e he
      cases he with
      | head => exact ⟨by omega, hk⟩
      | tail _ he => exact hS e he
theorem closeK_len (S : Open) : ∀ (k : Nat) (b : Bool), (closeK k b S).length ≤ S.length + 1 := by
  induction S with
  | nil => intro k b; simp only [closeK]; split <;> simp
  | cons x S ih => obtain ⟨x, c⟩ := x; intro k b; simp only [closeK]; split
                   · have := ih (x - 1) c; simp; omega
                   · simp
def lev0 (l : List Tm) (k : Nat) : Lev := levR ⟨[], 0, 0⟩ (l.take k)
theorem lev0_succ (l : List Tm) (k : Nat) (h : k < l.length) : lev0 l (k + 1) = levStep (lev0 l k) l[k] := by
  unfold lev0
  rw [List.take_succ_eq_append_getElem h, levR_append]; rfl
theorem lev0_facts (l : List Tm) (k : Nat) (h : k ≤ l.length) : (lev0 l k).S.length ≤ k ∧ Pos (lev0 l k).S ∧ (lev0 l k).d ≤ k ∧ (lev0 l k).n ≤ k := by
  induction k with
  | zero => unfold lev0; simp [levR]; intro e he; cases he
  | succ k ih =>
    obtain ⟨h1, h2, h3, h4⟩ := ih (by omega)
    rw [lev0_succ l k (by omega)]
    have hb := ar_bd l[k].1
    have h5 := closeK_len (lev0 l k).S (ar l[k].1).toNat (aggB l[k].1)
    have h6 := closeK_Pos (lev0 l k).S (ar l[k].1).toNat (aggB l[k].1) (by omega) h2
    have h7 : cnt (((ar l[k].1).toNat, aggB l[k].1) :: (lev0 l k).S) ≤ k + 1 := by
      rw [← cntB_opens]; have := cntB_le (opens (((ar l[k].1).toNat, aggB l[k].1) :: (lev0 l k).S)); rw [opens_length] at this; simp at this; omega
    unfold levStep
    refine ⟨by show (closeK _ _ _).length ≤ _; omega, h6, by show max _ _ ≤ _; omega, by show max _ _ ≤ _; omega⟩
theorem lev0_all (l : List Tm) (E : Ex) (h : parse l = some E) : (lev0 l l.length).d = E.dp ∧ (lev0 l l.length).n = E.ns := by
  obtain ⟨h1, h2⟩ := parse_some h
  unfold lev0
  rw [List.take_length, ← h2, levR_fl E h1]
  simp [cnt]
/-- A block below the base of an owned row is not its own. -/
theorem own_lt' {w : World} {B e size n : Nat} {v : Value} {xs : List Value} (h : w.ownsRow B e size v n xs) {x : Nat} (hx : x < B) : some x ≠ v.ownBlock :=
  fun h1 => by have := (h.lt x h1.symm).1; omega
theorem cell_later' {w wr w' : World} {g o : Nat} {u : Value} (hg : g < w.heap.size) (hb : Below w.heap.size w wr) (hc : wr.cell? ⟨g, o, none⟩ = some u) (h : Below wr.heap.size wr w') : w'.cell? ⟨g, o, none⟩ = some u :=
  (h.cell (p := ⟨g, o, none⟩) (Nat.lt_of_lt_of_le hg hb.size)).trans hc
theorem own_frozen {w : World} {B e s n cap g : Nat} {xs : List Value} (h : w.ownsRow B e s (.slice (some ⟨g, 0, none⟩) n cap) n xs) (j : Nat) : w.frozen? ⟨g, j, none⟩ = false := by
  rcases h.2 with ⟨h0, _⟩ | ⟨g', cap', cur, hv, _, hh, _⟩
  · cases h0
  · cases hv
    unfold World.frozen?
    simp only [hh]
    simp
theorem lefts_dec (y : Nat) (c : Bool) (T : Open) (hy : 1 ≤ y) : (natCells (lefts ((y, c) :: T))).set T.length (.int .i64 ((y : Int) - 1)) = natCells (lefts ((y - 1, c) :: T)) := by
  rw [lefts_cons, lefts_cons, natCells_append, natCells_append, List.set_append_right _ _ (by rw [natCells_length, lefts_length]; exact Nat.le_refl _), natCells_length, lefts_length, Nat.sub_self]
  simp only [natCells, List.map_singleton, List.set_cons_zero]
  rw [show ((y - 1 : Nat) : Int) = (y : Int) - 1 by omega]
theorem infoBool : (Try.prog.info? 4).map (fun i => (i.zero, i.size, i.bytes)) = some (some (.bool false), 1, 1) := by kernel_rfl
theorem sizeBool (w : World) : (sizeOf (Try.prog.elem 77)).run Try.prog w = .ok 1 w := by kernel_rfl
theorem underBools : Try.prog.underlying 77 = some (.slice (Try.prog.elem 77)) := by kernel_rfl

/-- The two stacks of the reference's levels in memory. -/
def Stacks (w0 w : World) (vl vo : Value) (S : Open) : Prop :=
  w.ownsRow w0.heap.size 3 1 vl S.length (natCells (lefts S)) ∧ w.ownsRow w0.heap.size 4 1 vo S.length (boolCells (opens S)) ∧ Below w0.heap.size w0 w

set_option maxHeartbeats 4000000 in
set_option maxRecDepth 100000 in
theorem rlevels_any (v : Value) (l : List Tm) (E : Ex) (w : World) (hl : l.length ≤ 1000) (hv : Hid (Terms w v l)) (hp : Hid (parse l = some E)) :
    Calls Try.prog 65 #[v] w fun e w' => e = .returned (.tuple #[.int .i64 E.dp, .int .i64 E.ns]) ∧ Below w.heap.size w w' := by
  obtain ⟨i0, hi, hz0, hz1, hz2⟩ := info_parts infoInt
  obtain ⟨j0, hj, hy0, hy1, hy2⟩ := info_parts infoBool
  have Hi := Lib.hid hi
  have Hz0 := Lib.hid hz0
  have Hz1 := Lib.hid hz1
  have Hz2 := Lib.hid hz2
  have Hj := Lib.hid hj
  have Hy0 := Lib.hid hy0
  have Hy1 := Lib.hid hy1
  have Hy2 := Lib.hid hy2
  clear hi hz0 hz1 hz2 hj hy0 hy1 hy2
  obtain ⟨hok, hfl⟩ := parse_some hp.out
  have HF : Hid (forest l = some [E]) := by rw [← hfl]; have := forest_fl E hok [] [] rfl; rw [List.append_nil] at this; exact this
  have hpos : 0 < l.length := by rw [← hfl]; exact E.fl_pos
  clear hok hfl
  obtain ⟨a0, cap0, rfl, h1, h2, h3⟩ := hv.out.open
  obtain ⟨g0, o0, rfl, hg0, hc⟩ := h3 hpos
  have HC := Lib.hid hc
  clear h3 hc
  go_enter Try.func65, Try.ntmps65
  go_wp2_with fail
  go_loopw [4, 5, 6, 7, 8, 9, 10] (fun d n vl vo i _ _ wr => ∃ k : Nat, k ≤ l.length ∧ i = .int .i64 k ∧ d = .int .i64 (lev0 l k).d ∧ n = .int .i64 (lev0 l k).n ∧ Hid (Stacks w wr vl vo (lev0 l k).S)) (fun _ _ _ _ i _ _ _ => l.length - (intOf i).toNat)
  case atStart => exact ⟨0, by omega, rfl, rfl, rfl, World.ownsRow_nil _ _ _ _, World.ownsRow_nil _ _ _ _, Below.refl _ _⟩
  case round =>
    obtain ⟨k, hk, rfl, rfl, rfl, hst⟩ := hrel
    obtain ⟨q1, q2, q3, q4⟩ := lev0_facts l k hk
    by_cases hlt : k < l.length
    · obtain ⟨ha0, _⟩ := lev_round depthF l E HF.out k hlt
      have ha1 := (ar_bd l[k].1).2
      obtain ⟨c0, c1⟩ := HC.out k _ (List.getElem?_eq_getElem hlt)
      have HS := Lib.hid (lev0_succ l k hlt)
      have HQ2 := Lib.hid q2
      clear q2
      generalize hL : lev0 l k = L at *
      have HL := Lib.hid hL
      clear hL
      obtain ⟨hownL, hownO, hbel⟩ := hst.out
      rw [← hbel.cell (p := ⟨g0, _, none⟩) hg0] at c0 c1
      have hbs := hbel.size
      go_wp2_with fail
      go_region_held3 (fun w' => w'.cell? ⟨g0, o0 + k * 2, none⟩ = some (.int .i64 l[k].1)) (first | exact cB | exact cA | (refine cell_later' hg0 hbelA cA ?_; repeat (first | exact Below.refl _ _ | apply Below.drew | refine Below.alloc ?_ (by simp) _)) | exact c0 | (refine cell_later' hg0 hbel c0 ?_; repeat (first | exact Below.refl _ _ | apply Below.drew | refine Below.alloc ?_ (by simp) _)))
        (first | (go_at_call 50; refine (rarity_any _ _).mono ?_; rintro e w' ⟨rfl, rfl⟩) | (go_at_call 53; refine (raggregate_any _ _).mono ?_; rintro e w' ⟨rfl, rfl⟩) | (refine step_append_lies _ rfl (.tmp 26) (.tmp 33) 77 rfl w.heap.size 4 j0 (.bool false) 1 1 Try.underlying77 Hj.out Hy0.out Hy1.out Hy2.out rfl (by decide) _ _ _ rfl (by exact own_below hownO2 (by repeat (first | exact Below.refl _ _ | apply Below.drew | refine Below.alloc ?_ (by simp) _))) ⟨wA.heap.size, 0, none⟩ 1 1 [.bool (aggB l[k].1)] rfl rfl (by exact new_cells _ _ _ _ (by simp)) (by simp [Value.oneCell']) (by decide) (by unfold maxLen; omega) (by omega) (by simp; omega) _ rfl ?_; intro gB capB wB hownB hgrowB _ _; have cB : wB.cell? ⟨g0, o0 + k * 2, none⟩ = some (.int .i64 l[k].1) := hgrowB.cell (cell_later' hg0 hbelA cA (by repeat (first | exact Below.refl _ _ | apply Below.drew | refine Below.alloc ?_ (by first | exact Nat.le_refl _ | exact hbsA | (simp; omega) | simp) _))) (own_lt' hownO2 hg0)) | (refine step_append_lies _ rfl (.tmp 17) (.tmp 24) 44 rfl w.heap.size 3 i0 (.int .i64 0) 1 8 Try.underlying44 Hi.out Hz0.out Hz1.out Hz2.out rfl (by decide) _ _ _ rfl (by exact own_below hownL (by repeat (first | exact Below.refl _ _ | apply Below.drew | refine Below.alloc ?_ (by simp) _))) ⟨wr.heap.size, 0, none⟩ 1 1 [.int .i64 (ar l[k].1)] rfl rfl (by exact new_cells _ _ _ _ (by simp)) (by simp [Value.oneCell']) (by decide) (by unfold maxLen; omega) (by omega) (by simp; omega) _ rfl ?_; intro gA capA wA hownA hgrowA _ _; have hownO2 := (own_below hownO (by repeat (first | exact Below.refl _ _ | apply Below.drew | refine Below.alloc ?_ (by simp) _))).kept hgrowA (own_ne hownO hownL (by decide)); have cA : wA.cell? ⟨g0, o0 + k * 2, none⟩ = some (.int .i64 l[k].1) := hgrowA.cell (cell_later' hg0 hbel c0 (by repeat (first | exact Below.refl _ _ | apply Below.drew | refine Below.alloc ?_ (by first | exact Nat.le_refl _ | exact hbs | (simp; omega) | simp) _))) (own_lt' hownL hg0); have hbelA : Below w.heap.size w wA := Below.grown (by repeat (first | exact hbel | apply Below.drew | refine Below.alloc ?_ (by first | exact Nat.le_refl _ | exact hbs | (simp; omega) | simp) _)) hgrowA (by simp; omega) (own_ge hownL); have hbsA := hbelA.size))
      have harn : ((ar l[k].1).toNat : Int) = ar l[k].1 := by omega
      have HST : Hid (Stacks w wB (.slice (some ⟨gA, 0, none⟩) (L.S.length + 1) capA) (.slice (some ⟨gB, 0, none⟩) (L.S.length + 1) capB) (((ar l[k].1).toNat, aggB l[k].1) :: L.S)) := by
        refine ⟨?_, ?_, Below.grown (by repeat (first | exact hbelA | apply Below.drew | refine Below.alloc ?_ (by first | exact hbsA | (simp; omega)) _)) hgrowB (by simp; omega) (own_ge hownO2)⟩
        · rw [lefts_cons, natCells_append, natCells, natCells, List.map_singleton, harn]
          exact (own_below hownA (by repeat (first | exact Below.refl _ _ | apply Below.drew | refine Below.alloc ?_ (by simp) _))).kept hgrowB (own_ne hownA hownO2 (by decide))
        · rw [opens_cons, boolCells_append]; exact hownB
      clear hownA hownB hgrowA hgrowB hownO2 cA cB hbelA hbsA hownL hownO harn c0 c1 hbs
      obtain ⟨S1, hS1⟩ : ∃ S1, S1 = ((ar l[k].1).toNat, aggB l[k].1) :: L.S := ⟨_, rfl⟩
      have hlen1 : L.S.length + 1 = S1.length := by rw [hS1]; rfl
      have hP1 : Hid (Pos S1.tail) := by rw [hS1]; exact HQ2
      have hclose : Hid (closeK (ar l[k].1).toNat (aggB l[k].1) L.S = closeS S1) := by rw [hS1]; rfl
      have hcnt : Hid (cnt (((ar l[k].1).toNat, aggB l[k].1) :: L.S) = cntB (opens S1)) := by rw [hS1, cntB_opens]; rfl
      have hol : Hid ((opens S1).length = S1.length) := opens_length S1
      rw [← hS1] at HST
      rw [hlen1] at HST ⊢
      have hn1 : S1.length ≤ 1000 := by omega
      have HL1 := Lib.hid hlen1
      clear hS1 hlen1
      obtain ⟨hoL, hoO, hbB⟩ := HST.out
      obtain ⟨o1, o2, o3⟩ := own_cells hoO
      obtain ⟨p1, p2, p3⟩ := own_cells hoL
      go_wp2_with fail
      go_loop [9, 10] (fun c q => ∃ j : Nat, j ≤ S1.length ∧ q = .int .i64 j ∧ c = .int .i64 (cntB ((opens S1).take j) : Nat)) (fun _ q => S1.length - (intOf q).toNat)
      case atStart => exact ⟨0, by omega, rfl, rfl⟩
      case round =>
        obtain ⟨j, hj, rfl, rfl⟩ := hrel
        by_cases hq : j < S1.length
        · obtain ⟨g, hge, hcs⟩ := o3 (by omega)
          simp only [Option.some.injEq, Addr.mk.injEq] at hge
          obtain ⟨rfl, _⟩ := hge
          obtain ⟨x, hx⟩ : ∃ x, (opens S1)[j]? = some x := ⟨(opens S1)[j]'(by rw [hol.out]; exact hq), List.getElem?_eq_getElem _⟩
          have hcell := hcs j _ (boolCells_get _ j x hx)
          have HM := Lib.hid (cntB_take_succ (opens S1) j x hx)
          have hcb := cntB_le ((opens S1).take j)
          rw [List.length_take, hol.out] at hcb
          clear hcs hx
          generalize cntB ((opens S1).take j) = cj at *
          cases x
          all_goals
            go_wp2_with fail
            refine ⟨⟨j + 1, by omega, by go_num, ?_⟩, by simp [intOf]; omega⟩
            rw [HM.out]; simp
        · obtain rfl : j = S1.length := by omega
          rw [List.take_of_length_le (by rw [hol.out]; exact Nat.le_refl _), ← hcnt.out]
          generalize hc1 : cnt (((ar l[k].1).toNat, aggB l[k].1) :: L.S) = c1 at *
          obtain ⟨d1, hd1⟩ : ∃ d1 : Nat, d1 = max L.d S1.length := ⟨_, rfl⟩
          obtain ⟨n1, hn1e⟩ : ∃ n1 : Nat, n1 = max L.n c1 := ⟨_, rfl⟩
          have hm1 : (if L.d < S1.length then (S1.length : Int) else (L.d : Int)) = (d1 : Int) := by rw [hd1]; split <;> omega
          have hm2 : (if L.n < c1 then (c1 : Int) else (L.n : Int)) = (n1 : Int) := by rw [hn1e]; split <;> omega
          have HN : Hid (levStep L l[k] = ⟨closeS S1, d1, n1⟩) := by
            unfold levStep; rw [hc1, hclose.out, hd1, hn1e, ← HL1.out]; rfl
          clear hd1 hn1e hc1 hcnt hclose
          go_wp2_with fail
          clear hm1 hm2 o3 p3 hoL hoO
          go_loopg [6, 7] S1.length (fun m vl vo wy => ∃ S : Open, Hid (S.length = m) ∧ m ≤ S1.length ∧ Hid (closeS S1 = closeS S) ∧ Hid (Stacks w wy vl vo S) ∧ Hid (Pos S.tail))
          case atStart => exact ⟨S1, rfl, Nat.le_refl _, rfl, HST, hP1⟩
          case round =>
            obtain ⟨S, hSl, hSm, hSc, hSt, hSp⟩ := hrel
            obtain ⟨wy, rfl⟩ : ∃ wy : World, wy = wr := ⟨_, rfl⟩
            obtain ⟨hoL, hoO, hbY⟩ := hSt.out
            rcases S with _ | ⟨⟨x, b⟩, T⟩
            · obtain ⟨la, lcap, rfl⟩ := own_shape (n := 0) hoL
              obtain ⟨oa, ocap, rfl⟩ := own_shape (n := 0) hoO
              go_wp2_with fail
              exact ⟨⟨k + 1, by omega, by go_num, by rw [HS.out, HN.out], by rw [HS.out, HN.out], by rw [HS.out, HN.out]; show Stacks w _ _ _ (closeS S1); rw [hSc.out, show closeS [] = [] from rfl]; exact hSt⟩, by simp [intOf]; omega⟩
            · obtain ⟨la, lcap, rfl⟩ := own_shape (n := T.length + 1) hoL
              obtain ⟨oa, ocap, rfl⟩ := own_shape (n := T.length + 1) hoO
              have hTl : T.length + 1 ≤ 1000 := by have := hSl.out; simp only [List.length_cons] at this; omega
              obtain ⟨o1', o2', o3⟩ := own_cells (n := T.length + 1) hoO
              obtain ⟨p1', p2', p3⟩ := own_cells (n := T.length + 1) hoL
              obtain ⟨g, rfl, hcs⟩ := p3 (by omega)
              have hcx := hcs T.length _ (natCells_get _ T.length x (by rw [lefts_cons, ← lefts_length T, List.getElem?_append_right (Nat.le_refl _), Nat.sub_self]; rfl))
              have eT : (((T.length + 1 : Nat) : Int) - 1) = (T.length : Int) := by omega
              by_cases hx : x = 0
              · subst hx
                have hsl1 := slice_head underInts sizeInt (some ⟨g, 0, none⟩) (T.length + 1) lcap T.length (((T.length + 1 : Nat) : Int) - 1) (by omega) (by omega)
                have hsl2 := slice_head underBools sizeBool oa (T.length + 1) ocap T.length (((T.length + 1 : Nat) : Int) - 1) (by omega) (by omega)
                have hsl1' : ∀ w, (Instr.slice 44 (.slice (some ⟨g, 0, none⟩) (T.length + 1) lcap) none (some (.int .i64 (T.length : Int))) none).run Try.prog w = .ok (.slice (some ⟨g, 0, none⟩) T.length lcap) w := by intro w; have := hsl1 w; rw [eT] at this; exact this
                have hsl2' : ∀ w, (Instr.slice 77 (.slice oa (T.length + 1) ocap) none (some (.int .i64 (T.length : Int))) none).run Try.prog w = .ok (.slice oa T.length ocap) w := by intro w; have := hsl2 w; rw [eT] at this; exact this
                have HoL : wy.ownsRow w.heap.size 3 1 (.slice (some ⟨g, 0, none⟩) T.length lcap) T.length (natCells (lefts T)) := own_take (by rw [natCells_length, lefts_length]) (by rw [lefts_cons, natCells_append] at hoL; exact hoL)
                have HoO : wy.ownsRow w.heap.size 4 1 (.slice oa T.length ocap) T.length (boolCells (opens T)) := own_take (by rw [boolCells_length, opens_length]) (by rw [opens_cons, boolCells_append] at hoO; exact hoO)
                have hx0 : ((0 : Int) == 0) = true := by simp
                have hT : (T.length = 0 ∧ Hid (T = [])) ∨ ∃ y c T', Hid (T = (y, c) :: T') ∧ 0 < T.length ∧ 1 ≤ y ∧ y ≤ 3 ∧ wy.cell? ⟨g, T.length - 1, none⟩ = some (.int .i64 (y : Nat)) := by
                  rcases T with _ | ⟨⟨y, c⟩, T'⟩
                  · exact .inl ⟨rfl, rfl⟩
                  · have hy := hSp.out (y, c) (List.mem_cons_self ..)
                    refine .inr ⟨y, c, T', rfl, by simp, hy.1, hy.2, ?_⟩
                    obtain ⟨_, _, q3⟩ := own_cells HoL
                    obtain ⟨g', hg', hq⟩ := q3 (by simp)
                    cases hg'
                    exact hq _ _ (natCells_get _ _ y (by rw [lefts_cons, List.length_cons, Nat.add_sub_cancel, ← lefts_length T', List.getElem?_append_right (Nat.le_refl _), Nat.sub_self]; rfl))
                have hfz := own_frozen HoL (T.length - 1)
                have hSl2 : Hid (T.length + 1 = gk) := hSl.out
                have hSp2 : Hid (Pos T) := hSp.out
                clear hsl1 hsl2 hcs p3 o3 hoL hoO
                generalize htn : T.length = tn at *
                have HTN := Lib.hid htn
                clear htn
                rcases hT with ⟨ht0, hTe⟩ | ⟨y, c, T', hTe, ht0, hy1, hy2, hcy⟩
                · have HT0 := Lib.hid ht0
                  have ht1 : tn < 1 := by omega
                  clear ht0
                  go_wp2_with fail
                  go_quiet (fail)
                  go_wp2_with fail
                  go_roundg tn
                  case measure => have := hSl2.out; omega
                  case rel =>
                    refine ⟨T, HTN, by have := hSl2.out; omega, ?_, ⟨?_, ?_, below_drewN hbY _⟩, ?_⟩
                    · rw [hSc.out, hTe.out]; exact closeS_last b
                    · rw [HTN.out]; exact own_below HoL (bdrew (Below.refl _ _) _)
                    · rw [HTN.out]; exact own_below HoO (bdrew (Below.refl _ _) _)
                    · rw [hTe.out]; intro e he; cases he
                · have i1 : (1 : Int) ≤ (tn : Int) := by omega
                  go_wp2_with fail
                  go_quiet (fail)
                  go_wp2_with fail
                  have hs := HoL.stored (tn - 1) (.int .i64 ((y : Int) - 1))
                  have hk := HoO.kept hs.2 (own_ne HoO HoL (by decide))
                  have hTl' : T'.length = tn - 1 := by have h1 := HTN.out; rw [hTe.out, List.length_cons] at h1; omega
                  go_roundg tn
                  case measure => have := hSl2.out; omega
                  case rel =>
                    refine ⟨(y - 1, c) :: T', by show T'.length + 1 = tn; omega, by have := hSl2.out; omega, ?_, ⟨?_, ?_, below_drewN (hbY.setCell (own_ge HoL g rfl) _) _⟩, ?_⟩
                    · rw [hSc.out, hTe.out]; exact closeS_pop b c y T'
                    · show World.ownsRow _ _ _ _ _ (T'.length + 1) _
                      rw [show T'.length + 1 = tn by omega, ← lefts_dec y c T' hy1, hTl', ← hTe.out]
                      exact own_below hs.1 (bdrew (Below.refl _ _) _)
                    · show World.ownsRow _ _ _ _ _ (T'.length + 1) _
                      rw [show T'.length + 1 = tn by omega, opens_cons, ← opens_cons y c T', ← hTe.out]
                      exact own_below hk (bdrew (Below.refl _ _) _)
                    · intro e he; exact hSp2.out e (by rw [hTe.out]; exact List.mem_cons_of_mem _ he)
              · have hxb : ((x : Int) == 0) = false := by simp; omega
                go_wp2_with fail
                exact ⟨⟨k + 1, by omega, by go_num, by rw [HS.out, HN.out], by rw [HS.out, HN.out], by rw [HS.out, HN.out]; show Stacks w _ _ _ (closeS S1); rw [hSc.out, closeS_stop x b T hx]; exact hSt⟩, by simp [intOf]; omega⟩
    · obtain rfl : k = l.length := by omega
      have HA := Lib.hid (lev0_all l E hp.out)
      go_wp2_with fail
      go_ret2
      exact ⟨by rw [HA.out.1, HA.out.2]; rfl, hst.out.2.2⟩
end Go.Proofs.Ytogennegbihceaa
