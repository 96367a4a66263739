/- Part 14 of the texts under ExprFormats,ExprBracketsEverything: joined, with what it needs alone. -/
import Derived.Deep.QuietTactic
import Derived.BigQuiet
import Derived.Deep.AppendLies
import Derived.Deep.RegionLaw
import Derived.Deep.LoopGhost
import Derived.Deep.RegionHeld3
import Derived.Test.YtcpgpiabeimefaaGreatDoorR12
import Derived.Test.YtcpgpiabeimefaaGreatDoorR13
set_option maxRecDepth 100000
namespace Go.Proofs.YtcpgpiabeimefaaGreatDoor
open Go.RowKit

def ydk (ts : List Tok) : List Value := ts.flatMap fun t => [.int .i64 t.kind, .int .i64 t.from_, .int .i64 t.to, .int .i64 t.num]
theorem tokCells_snoc (ts : List Tok) (t : Tok) : ydk (ts ++ [t]) = ydk ts ++ [.int .i64 t.kind, .int .i64 t.from_, .int .i64 t.to, .int .i64 t.num] := by
  simp [ydk]

def ScanRet (s : ByteArray) (w : World) (e : Ending) (w' : World) : Prop :=
  Below w.heap.size w w' ∧
  ((∃ (ts : List Tok) (v : Value), ygv s = .ok ts ∧ ts.length ≤ 4096 ∧ e = .returned (.tuple #[v, .int .i64 0, .int .i64 0]) ∧ w'.ownsRow w.heap.size 68 4 v ts.length (ydk ts)) ∨
   (∃ p x : Nat, ygv s = .error (p, x) ∧ p ≤ s.size ∧ 1 ≤ x ∧ x ≤ 5 ∧ e = .returned (.tuple #[.slice none 0 0, .int .i64 p, .int .i64 x])))

theorem infoTok : (Tryz.prog.info? 68).map (fun i => (i.zero, i.size, i.bytes)) = some (some (.agg #[.int .i64 0, .int .i64 0, .int .i64 0, .int .i64 0]), 4, 32) := by kernel_rfl

set_option maxHeartbeats 1000000 in
theorem scan_any (s : ByteArray) (w : World) (hs : s.size ≤ 9223372036854775807) :
    Calls Tryz.prog 20 #[.string s] w (ScanRet s w) := by
  by_cases h16 : 16384 < s.size
  · go_enter Tryz.func20, Tryz.ntmps20
    go_wp2
    go_ret3
    exact ⟨Below.refl _ _, .inr ⟨0, 3, by unfold ygv; rw [if_pos h16], by omega, by omega, by omega, rfl⟩⟩
  · have HF := Lib.hid (restScan_start s (by omega))
    obtain ⟨i0, hi, hz0, hz1, hz2⟩ := info_parts infoTok
    have Hi := Lib.hid hi
    have Hz0 := Lib.hid hz0
    have Hz1 := Lib.hid hz1
    have Hz2 := Lib.hid hz2
    clear hi hz0 hz1 hz2
    have hk0 := skipTo_bd s false 0 (by omega)
    go_enter Tryz.func20, Tryz.ntmps20
    go_wp2_with (go_at_call 41; refine (skip_any s 0 _ (by omega) (by omega)).mono ?_; rintro e w' ⟨rfl, rfl⟩)
    go_loopw [5, 6, 7, 8] (fun v at_ _ _ wr => ∃ (p : Nat) (out : List Tok), p ≤ s.size ∧ at_ = .int .i64 (ybg s false p) ∧ out.length ≤ 4096 ∧ Hid (ygv s = yeh s out p) ∧ wr.ownsRow w.heap.size 68 4 v out.length (ydk out) ∧ Below w.heap.size w wr) (fun _ at_ _ _ _ => s.size - (intOf at_).toNat)
    case atStart => exact ⟨0, [], by omega, rfl, by simp, HF, World.ownsRow_nil _ _ _ _, Below.refl _ _⟩
    case round =>
      obtain ⟨p, out, hp, rfl, hout, hrest, hown, hbel⟩ := hrel
      have hb := skipTo_bd s false p hp
      by_cases hlt : ybg s false p < s.size
      · obtain ⟨sa, scap, rfl⟩ := own_shape hown
        by_cases hfull : out.length = 4096
        · have hf : ((out.length : Int) == 4096) = true := by simp; omega
          have HFu := Lib.hid hfull
          clear hfull
          go_wp2
          go_ret3
          exact ⟨hbel, .inr ⟨ybg s false p, 3, by rw [hrest.out, restScan_full s out p hlt HFu.out], hb.2, by omega, by omega, rfl⟩⟩
        · have hf : ((out.length : Int) == 4096) = false := by simp; omega
          go_wp2_with (first | (at_builtin; refine wpList_append_own _ rfl (.tmp 32) (.tmp 34) 39 rfl w.heap.size 68 i0 (.agg #[.int .i64 0, .int .i64 0, .int .i64 0, .int .i64 0]) 4 32 Tryz.underlying39 Hi.out Hz0.out Hz1.out Hz2.out rfl (by decide) _ _ _ rfl (((yeb hown hbl).alloc _).alloc _) ⟨w1.heap.size + 1, 0, none⟩ 1 1 [.int .i64 k, .int .i64 (ybg s false p), .int .i64 ((ybg s false p + n : Nat) : Int), .int .i64 v] rfl rfl ?c1 ?c2 ?c3 ?c4 ?c5 ?_) | (go_at_call 42; refine (next_any s (ybg s false p) _ (by omega) hlt).mono ?_; rintro e w1 ⟨hbl, ⟨k, n, v, ht, rfl⟩ | ⟨x, ht, hx1, hx2, rfl⟩⟩ <;> have HT := Lib.hid ht <;> clear ht))
          case c1 => exact new_cells (w1.alloc _) _ _ _ (by simp)
          case c2 => intro u hu; simp at hu; rcases hu with rfl | rfl | rfl | rfl <;> rfl
          case c3 => unfold maxLen; omega
          case c4 => omega
          case c5 => have h1 := hbel.size; have h2 := hbl.size; simp; omega
          · have htb := tokL_bd HT.out
            rw [ycg] at htb
            intro v' w' hown' hgrow _
            obtain ⟨q, hq⟩ : ∃ q : Nat, q = ybg s false p + n := ⟨_, rfl⟩
            have hcell : w'.cell? ⟨w1.heap.size, 2, none⟩ = some (.int .i64 (q : Int)) := hgrow.cell (by rw [hq]; simp) (own_lt hown _ hbl.size)
            have hb' : Below w.heap.size w w' := ((((hbel.trans (hbl.mono hbel.size)).alloc (Nat.le_trans hbel.size hbl.size) _).alloc (by have h1 := hbel.size; have h2 := hbl.size; simp; omega) _).grown hgrow (by have h1 := hbel.size; have h2 := hbl.size; simp; omega) (own_ge hown))
            have hq1 : ybg s false p < q := by omega
            have hq2 : q ≤ s.size := by omega
            have hs2 := skipTo_bd s false q hq2
            have HR : Hid (ygv s = yeh s (out ++ [⟨k, ybg s false p, q, v⟩]) q) := by rw [hq]; exact hrest.out.trans (restScan_tok s out p k n v hlt (by omega) HT.out)
            have HO : w'.ownsRow w.heap.size 68 4 v' (out ++ [(⟨k, ybg s false p, q, v⟩ : Tok)]).length (ydk (out ++ [⟨k, ybg s false p, q, v⟩])) := by
              rw [tokCells_snoc, List.length_append]; rw [hq]; exact hown'
            clear hown' hgrow hq
            go_wp2_with (go_at_call 41; refine (skip_any s q _ (by omega) hq2).mono ?_; rintro e w' ⟨rfl, rfl⟩)
            exact ⟨⟨q, _, hq2, rfl, by rw [List.length_append]; simp; omega, HR, HO, hb'⟩, by simp [intOf]; omega⟩
          · go_ret3
            exact ⟨(hbel.trans (hbl.mono hbel.size)).alloc (Nat.le_trans hbel.size hbl.size) _, .inr ⟨ybg s false p, x, by rw [hrest.out, restScan_err s out p x hlt (by omega) HT.out], hb.2, hx1, hx2, rfl⟩⟩
      · go_wp2
        go_ret3
        exact ⟨hbel, .inl ⟨out, u5, by rw [hrest.out, restScan_end s out p (by omega)], hout, rfl, hown⟩⟩
end Go.Proofs.YtcpgpiabeimefaaGreatDoor
set_option maxRecDepth 100000
namespace Go.Proofs.YtcpgpiabeimefaaGreatDoor
open Go.RowKit

def Toks (w : World) (v : Value) (ts : List Tok) : Prop :=
  ∃ a cap, v = .slice a ts.length cap ∧ ts.length ≤ cap ∧ cap ≤ maxLen ∧
    (ts = [] ∨ ∃ g o, a = some ⟨g, o, none⟩ ∧ g < w.heap.size ∧ ∀ i t, ts[i]? = some t →
      w.cell? ⟨g, o + i * 4, none⟩ = some (.int .i64 t.kind) ∧ w.cell? ⟨g, o + i * 4 + 1, none⟩ = some (.int .i64 t.from_) ∧
      w.cell? ⟨g, o + i * 4 + 2, none⟩ = some (.int .i64 t.to) ∧ w.cell? ⟨g, o + i * 4 + 3, none⟩ = some (.int .i64 t.num))

theorem tokCells_get (ts : List Tok) : ∀ (i : Nat) (t : Tok), ts[i]? = some t →
    (ydk ts)[i * 4]? = some (.int .i64 t.kind) ∧ (ydk ts)[i * 4 + 1]? = some (.int .i64 t.from_) ∧ (ydk ts)[i * 4 + 2]? = some (.int .i64 t.to) ∧ (ydk ts)[i * 4 + 3]? = some (.int .i64 t.num) := by
  induction ts with
  | nil => intro i t h; simp at h
  | cons x ts ih =>
    intro i t h
    have e : ydk (x :: ts) = .int .i64 x.kind :: .int .i64 x.from_ :: .int .i64 x.to :: .int .i64 x.num :: ydk ts := by simp [ydk]
    rw [e]
    cases i with
    | zero => simp at h; subst h; simp
    | succ i =>
      have := ih i t (by simpa using h)
      rw [show (i + 1) * 4 = i * 4 + 1 + 1 + 1 + 1 by omega]
      simp only [List.getElem?_cons_succ]
      exact this

theorem toks_of_own {w : World} {B : Nat} {v : Value} {ts : List Tok} (h : w.ownsRow B 68 4 v ts.length (ydk ts)) : Toks w v ts := by
  obtain ⟨h1, h2⟩ := h
  rcases h2 with ⟨rfl, h2⟩ | ⟨g, cap, cur, hv, hg, hh, hle, hcap, hcs, htk⟩
  · exact ⟨none, 0, by rw [h2], by omega, by simp [maxLen], .inl (List.length_eq_zero_iff.1 h2)⟩
  · refine ⟨some ⟨g, 0, none⟩, cap, hv, hle, hcap, .inr ⟨g, 0, rfl, ?_, fun i t ht => ?_⟩⟩
    · rcases Nat.lt_or_ge g w.heap.size with h | h
      · exact h
      · simp [Array.getElem?_eq_none h] at hh
    · have hcell : ∀ j u, (ydk ts)[j]? = some u → w.cell? ⟨g, j, none⟩ = some u := by
        intro j u hu
        have hj : (cur.toList.take (ts.length * 4))[j]? = some u := by rw [htk]; exact hu
        rw [List.getElem?_take] at hj
        unfold World.cell?
        simp only [hh]
        split at hj
        · simpa using hj
        · cases hj
      obtain ⟨c0, c1, c2, c3⟩ := tokCells_get ts i t ht
      simp only [Nat.zero_add]
      exact ⟨hcell _ _ c0, hcell _ _ c1, hcell _ _ c2, hcell _ _ c3⟩

end Go.Proofs.YtcpgpiabeimefaaGreatDoor
set_option maxRecDepth 100000
namespace Go.Proofs.YtcpgpiabeimefaaGreatDoor
open Go.RowKit

theorem scan_len (left : Nat) : ∀ (p : Nat) (r : List UInt8) (ts : List Tok), ygw left p r = .ok ts → ts.length ≤ left := by
  induction left with
  | zero =>
    intro p r ts h
    rw [ygw] at h
    split at h <;> simp at h
    subst h; simp
  | succ left ih =>
    intro p r ts h
    rw [ygw] at h
    split at h
    · simp at h; subst h; simp
    · split at h
      · simp at h
      · rename_i k n v _
        generalize hq : ygw left (p + yco false r + n) ((r.drop (yco false r)).drop n) = q at h
        cases q with
        | error e => simp [consTok] at h
        | ok us =>
          simp [consTok] at h
          subst h
          have := ih _ _ _ hq
          simp; omega
theorem scanF_len {s : ByteArray} {ts : List Tok} (h : ygv s = .ok ts) : ts.length ≤ 4096 := by
  unfold ygv at h
  split at h
  · simp at h
  · exact scan_len _ _ _ _ h

end Go.Proofs.YtcpgpiabeimefaaGreatDoor
set_option maxRecDepth 100000
namespace Go.Proofs.YtcpgpiabeimefaaGreatDoor
open Go.RowKit

theorem end_at (v : Value) (l : List Tm) (k : Nat) (w : World) (hl : l.length ≤ 1000) (hv : Hid (yfp w v l)) (_hk : k ≤ 1000) :
    Calls Tryz.prog 49 #[v, .int .i64 k] w fun e w' => e = .returned (.int .i64 (yim 1 k l)) ∧ w = w' := by
  by_cases h : k < l.length
  · exact end_any_in v l k w hl hv h
  · obtain ⟨a, cap, rfl, h1, h2, _⟩ := hv.out.open
    have H := Lib.hid (endR_none 1 k l (by omega) (by omega))
    go_enter Tryz.func49, Tryz.ntmps49
    go_wp2
    go_ret
    exact ⟨ycn H.out.symm, rfl⟩
theorem rend_at (v : Value) (l : List Tm) (k : Nat) (w : World) (hl : l.length ≤ 1000) (hv : Hid (yfp w v l)) (_hk : k ≤ 1000) :
    Calls Tryz.prog 36 #[v, .int .i64 k] w fun e w' => e = .returned (.int .i64 (yim 1 k l)) ∧ w = w' := by
  by_cases h : k < l.length
  · exact rend_any_in v l k w hl hv h
  · obtain ⟨a, cap, rfl, h1, h2, _⟩ := hv.out.open
    have H := Lib.hid (endR_none 1 k l (by omega) (by omega))
    go_enter Tryz.func36, Tryz.ntmps36
    go_wp2
    go_ret
    exact ⟨ycn H.out.symm, rfl⟩
theorem end_one (l : List Tm) : yim 1 0 l = l.length ↔ ∃ E, yet l = some E := by
  rw [parse_iff]
  unfold yim
  rw [List.drop_zero]
  cases h : ykl 1 l with
  | none => simp
  | some n => simp; omega

theorem depth1_any (op : Int) (g : Nat) (w : World) (hg : g ≤ 1000) : Calls Tryz.prog 89 #[.int .i64 op, .int .i64 g] w fun e w' => e = .returned (.int .i64 (yfa op g : Nat)) ∧ w = w' := by
  go_enter Tryz.func89, Tryz.ntmps89
  go_wp2
  go_ret
  exact ⟨ycn (by unfold yfa; omega), rfl⟩
theorem nest1_any (op : Int) (g : Nat) (w : World) (hg : g ≤ 1000) : Calls Tryz.prog 90 #[.int .i64 op, .int .i64 g] w fun e w' => e = .returned (.int .i64 (yhd op g : Nat)) ∧ w = w' := by
  cases ha : yhk op
  all_goals
    go_enter Tryz.func90, Tryz.ntmps90
    go_wp2_with (go_at_call 91; refine (aggregate_any _ _).mono ?_; rintro e w' ⟨rfl, rfl⟩)
    go_ret
    exact ⟨ycn (by unfold yhd; rw [ha]; simp), rfl⟩

theorem lev_bd (f : Int → Nat → Nat) (hf : ∀ op g, f op g ≤ g + 1) (l : List Tm) : ∀ x ∈ lev f l, x ≤ l.length := by
  have hm : ∀ (xs : List Nat) (b : Nat), (∀ x ∈ xs, x ≤ b) → yhq xs ≤ b := by
    intro xs b
    induction xs with
    | nil => intro _; simp [yhq]
    | cons a xs ih =>
      intro h
      have h1 := h a (List.mem_cons_self ..)
      have h2 := ih (fun x hx => h x (List.mem_cons_of_mem _ hx))
      simp only [yhq]; omega
  induction l with
  | nil => intro x hx; simp [lev] at hx
  | cons t l ih =>
    intro x hx
    simp only [lev] at hx
    cases hx with
    | head =>
      have h1 := hm ((lev f l).take (ar t.1).toNat) l.length (fun x hx => ih x (List.mem_of_mem_take hx))
      have h2 := hf t.1 (yhq ((lev f l).take (ar t.1).toNat))
      simp only [List.length_cons]; omega
    | tail _ hx => have := ih x (List.mem_of_mem_drop hx); simp only [List.length_cons]; omega
theorem lev_len (f : Int → Nat → Nat) (l : List Tm) : (lev f l).length ≤ l.length := by
  induction l with
  | nil => simp [lev]
  | cons t l ih => simp only [lev, List.length_cons, List.length_drop]; omega
theorem maxl_append (xs ys : List Nat) : yhq (xs ++ ys) = max (yhq xs) (yhq ys) := by
  induction xs with
  | nil => simp [yhq]
  | cons a xs ih => simp only [List.cons_append, yhq, ih]; omega
theorem maxl_reverse (xs : List Nat) : yhq xs.reverse = yhq xs := by
  induction xs with
  | nil => rfl
  | cons a xs ih => rw [List.reverse_cons, maxl_append, ih]; simp only [yhq]; omega
theorem maxl_take_succ (xs : List Nat) (q : Nat) (x : Nat) (h : xs[q]? = some x) : yhq (xs.take (q + 1)) = max (yhq (xs.take q)) x := by
  obtain ⟨h1, h2⟩ := List.getElem?_eq_some_iff.1 h
  rw [List.take_succ_eq_append_getElem h1, maxl_append, h2]; simp [yhq]

def yck (xs : List Nat) : List Value := xs.map fun (n : Nat) => Value.int .i64 n
theorem natCells_get (xs : List Nat) (i x : Nat) (h : xs[i]? = some x) : (yck xs)[i]? = some (.int .i64 x) := by unfold yck; rw [List.getElem?_map, h]; rfl
theorem natCells_length (xs : List Nat) : (yck xs).length = xs.length := by simp [yck]
theorem ycl (xs ys : List Nat) : yck (xs ++ ys) = yck xs ++ yck ys := by simp [yck]
theorem own_take {w : World} {B e cap n m : Nat} {a : Option Addr} {xs ys : List Value} (hm : ys.length = m)
    (h : w.ownsRow B e 1 (.slice a n cap) n (ys ++ xs)) : w.ownsRow B e 1 (.slice a m cap) m ys := by
  obtain ⟨h1, h2⟩ := h
  refine ⟨by omega, ?_⟩
  rw [List.length_append] at h1
  rcases h2 with ⟨h0, h3⟩ | ⟨g', cap', cur, hv, hg, hh, hn, hcap, hsz, htake⟩
  · cases h0
    exact .inl ⟨by rw [show m = 0 by omega], by omega⟩
  · cases hv
    refine .inr ⟨g', cap, cur, rfl, hg, hh, by omega, hcap, hsz, ?_⟩
    have h4 := congrArg (List.take m) htake
    rw [List.take_take, Nat.min_eq_left (by omega), ← hm, List.take_append_of_le_length (Nat.le_refl _), List.take_length] at h4
    rw [Nat.mul_one, ← hm]; exact h4

theorem slice_tail {P : Program} {t : TypeId} (ht : P.underlying t = some (.slice (P.elem t))) (hs : ∀ w, (sizeOf (P.elem t)).run P w = .ok 1 w) (a : Option Addr) (n cap r m : Nat) (i : Int) (hi : i = r) (h : m + r = n) (hc : n ≤ cap) :
    ∃ sb capb, (∀ w, (Instr.slice t (.slice a n cap) (some (.int .i64 i)) none none).run P w = .ok (.slice sb m capb) w) ∧ m ≤ capb ∧ capb ≤ cap ∧ (∀ g o, a = some ⟨g, o, none⟩ → 0 < m → sb = some ⟨g, o + r, none⟩) := by
  subst hi
  refine ⟨if cap = r then a else a.map (·.add (r * 1)), cap - r, fun w => ?_, by omega, by omega, fun g o ha hr => ?_⟩
  · rw [run_slice_l w t a n cap ht .i64 r (by omega) (by omega), hs]
    show Result.ok (sliced a r n cap 1) w = _
    unfold sliced
    rw [show n - r = m by omega]
  · rw [if_neg (by omega), ha]
    simp only [Option.map_some, Nat.mul_one, Addr.add]
    split
    · simp_all
    · rfl
theorem slice_head {P : Program} {t : TypeId} (ht : P.underlying t = some (.slice (P.elem t))) (hs : ∀ w, (sizeOf (P.elem t)).run P w = .ok 1 w) (a : Option Addr) (n cap r : Nat) (i : Int) (hi : i = r) (h : r ≤ cap) :
    ∀ w, (Instr.slice t (.slice a n cap) none (some (.int .i64 i)) none).run P w = .ok (.slice a r cap) w := by
  subst hi
  intro w
  rw [run_slice_h w t a n cap ht .i64 r (by omega) (by omega), hs]
  show Result.ok (sliced a 0 r cap 1) w = _
  unfold sliced
  by_cases h0 : cap = 0
  · rw [if_pos h0]; rfl
  · rw [if_neg h0]
    cases a <;> simp [Addr.add]
theorem own_first {w : World} {B e : Nat} {v x : Value} (h : w.ownsRow B e 1 v 1 [x]) : ∃ g cap, v = .slice (some ⟨g, 0, none⟩) 1 cap ∧ 1 ≤ cap ∧ cap ≤ 9223372036854775807 ∧ w.cell? ⟨g, 0, none⟩ = some x := by
  have h5 := h
  obtain ⟨h1, h2⟩ := h
  rcases h2 with ⟨h0, h3⟩ | ⟨g, cap, cur, rfl, hg, hh, hn, hcap, hsz, htake⟩
  · omega
  · unfold maxLen at hcap
    have hc := h5.cells (g := g) rfl 0 x rfl
    exact ⟨g, cap, rfl, hn, by omega, by simpa [Addr.add] using hc⟩
theorem own_cells {w : World} {B e n cap : Nat} {a : Option Addr} {xs : List Value} (h : w.ownsRow B e 1 (.slice a n cap) n xs) : n ≤ cap ∧ cap ≤ 9223372036854775807 ∧ (0 < n → ∃ g, a = some ⟨g, 0, none⟩ ∧ ∀ j u, xs[j]? = some u → w.cell? ⟨g, j, none⟩ = some u) := by
  obtain ⟨a', cap', hv, h1, h2, h3, h4⟩ := (row_of_own h).open
  cases hv
  refine ⟨h1, h2, fun hn => ?_⟩
  rcases h.2 with ⟨h0, h5⟩ | ⟨g, cap, cur, hv, hg, hh, hn', hcap, hsz, htake⟩
  · omega
  · cases hv
    refine ⟨g, rfl, fun j u hu => ?_⟩
    have hc := h.cells (g := g) rfl j u hu
    have h0 : (⟨g, 0, none⟩ : Addr).add j = ⟨g, j, none⟩ := by unfold Addr.add; split <;> simp_all
    rw [h0] at hc; exact hc
theorem lev_round (f : Int → Nat → Nat) (l : List Tm) (E : Ex) (hf : ydm l = some [E]) (j : Nat) (hj : j < l.length) :
    0 ≤ ar l[j].1 ∧ ∃ lo seg : List Nat, (lev f (l.drop (j + 1))).reverse = lo ++ seg ∧ (seg.length : Int) = ar l[j].1 ∧ (lev f (l.drop j)).reverse = lo ++ [f l[j].1 (yhq seg)] := by
  obtain ⟨G', hG'⟩ := forest_suffix l j _ hf
  rw [List.drop_eq_getElem_cons hj] at hG'
  obtain ⟨G, hG, h0, hle, _⟩ := forest_enough _ _ _ hG'
  have hlen : (lev f (l.drop (j + 1))).length = G.length := by rw [lev_forest f _ G hG, List.length_map]
  refine ⟨h0, ((lev f (l.drop (j + 1))).drop (ar l[j].1).toNat).reverse, ((lev f (l.drop (j + 1))).take (ar l[j].1).toNat).reverse, ?_, ?_, ?_⟩
  · rw [← List.reverse_append, List.take_append_drop]
  · rw [List.length_reverse, List.length_take, hlen]; omega
  · rw [List.drop_eq_getElem_cons hj]
    simp only [lev, List.reverse_cons, maxl_reverse]
theorem infoInt : (Tryz.prog.info? 3).map (fun i => (i.zero, i.size, i.bytes)) = some (some (.int .i64 0), 1, 8) := by kernel_rfl
theorem sizeInt (w : World) : (sizeOf (Tryz.prog.elem 107)).run Tryz.prog w = .ok 1 w := by kernel_rfl
theorem underInts : Tryz.prog.underlying 107 = some (.slice (Tryz.prog.elem 107)) := by kernel_rfl

set_option maxHeartbeats 4000000 in
theorem levels_depth (v : Value) (l : List Tm) (E : Ex) (w : World) (hl : l.length ≤ 1000) (hv : Hid (yfp w v l)) (hp : Hid (yet l = some E)) :
    Calls Tryz.prog 88 #[v, .func (.func 89) #[] #[]] w fun e w' => e = .returned (.tuple #[.int .i64 (val yfa E : Nat), .bool true]) ∧ Below w.heap.size w w' := by
  obtain ⟨i0, hi, hz0, hz1, hz2⟩ := info_parts infoInt
  have Hi := Lib.hid hi
  have Hz0 := Lib.hid hz0
  have Hz1 := Lib.hid hz1
  have Hz2 := Lib.hid hz2
  clear hi hz0 hz1 hz2
  obtain ⟨hok, hfl⟩ := yeg hp.out
  have HF : Hid (ydm l = some [E]) := by rw [← hfl]; have := forest_fl E hok [] [] rfl; rw [List.append_nil] at this; exact this
  have hpos : 0 < l.length := by rw [← hfl]; exact E.fl_pos
  have HE := Lib.hid ((end_one l).2 ⟨E, hp.out⟩)
  have hne : (yim 1 0 l != (l.length : Int)) = false := by rw [HE.out]; simp
  clear hok hfl
  obtain ⟨a0, cap0, rfl, h1, h2, h3⟩ := hv.out.open
  obtain ⟨g0, o0, rfl, hg0, hc⟩ := h3 hpos
  have HC := Lib.hid hc
  clear h3 hc
  go_enter Tryz.func88, Tryz.ntmps88
  go_wp2_with (go_at_call 49; refine (end_at _ l 0 _ hl hv (by omega)).mono ?_; rintro e w' ⟨rfl, rfl⟩)
  go_loopg [6, 7, 8, 9, 11] l.length (fun m st i _ _ _ wr => m ≤ l.length ∧ i = .int .i64 ((m : Int) - 1) ∧ wr.ownsRow w.heap.size 3 1 st (lev yfa (l.drop m)).length (yck (lev yfa (l.drop m)).reverse) ∧ Below w.heap.size w wr)
  case atStart =>
    refine ⟨Nat.le_refl _, rfl, ?_, Below.refl _ _⟩
    rw [List.drop_length]; exact World.ownsRow_nil _ _ _ _
  case round =>
    obtain ⟨hm, rfl, hown, hbel⟩ := hrel
    by_cases h0 : gk = 0
    · subst h0
      rw [List.drop_zero, lev_forest yfa l [E] HF.out] at hown
      obtain ⟨g, cap, rfl, hc1, hc2, hcell⟩ := own_first hown
      go_wp2_with fail
      go_ret2
      exact ⟨rfl, hbel⟩
    · obtain ⟨j, rfl⟩ : ∃ j, gk = j + 1 := ⟨gk - 1, by omega⟩
      have hj : j < l.length := by omega
      obtain ⟨ha0, lo, seg, hr1, hr2, hr3⟩ := lev_round yfa l E HF.out j hj
      have hlen : (lev yfa (l.drop (j + 1))).length = lo.length + seg.length := by rw [← List.length_reverse, hr1, List.length_append]
      have hsegb : yhq seg ≤ 1000 := by
        have h1 := lev_bd yfa (by intro op g; simp only [yfa]; first | omega | (split <;> omega)) (l.drop (j + 1))
        have h2 : ∀ (xs : List Nat) (b : Nat), (∀ x ∈ xs, x ≤ b) → yhq xs ≤ b := by
          intro xs b
          induction xs with
          | nil => intro _; simp [yhq]
          | cons a xs ih =>
            intro h
            have h1 := h a (List.mem_cons_self ..)
            have h2 := ih (fun x hx => h x (List.mem_cons_of_mem _ hx))
            simp only [yhq]; omega
        refine Nat.le_trans (h2 seg (l.drop (j + 1)).length fun x hx => h1 x ?_) (by rw [List.length_drop]; omega)
        rw [← List.mem_reverse, hr1]; exact List.mem_append_right _ hx
      have e1 : ((j + 1 : Nat) : Int) - 1 = j := by omega
      rw [e1]
      rw [hr1, hlen] at hown
      have H3 := Lib.hid hr3
      obtain ⟨sa, scap, rfl⟩ := own_shape hown
      obtain ⟨hn1, hn2, hn3⟩ := own_cells hown
      obtain ⟨sb, capb, hsl, hb1, hb2, hb3⟩ := slice_tail underInts sizeInt sa (lo.length + seg.length) scap lo.length seg.length (((lo.length + seg.length : Nat) : Int) - ar l[j].1) (by omega) (by omega) hn1
      have hsl2 := slice_head underInts sizeInt sa (lo.length + seg.length) scap lo.length (((lo.length + seg.length : Nat) : Int) - ar l[j].1) (by omega) (by omega)
      obtain ⟨c0, c1⟩ := HC.out j _ (List.getElem?_eq_getElem hj)
      rw [← hbel.cell (p := ⟨g0, _, none⟩) hg0] at c0 c1
      have HR2 := Lib.hid hr2
      have hra : ar l[j].1 ≤ ((lo.length + seg.length : Nat) : Int) := by omega
      have hlo : lo.length + seg.length ≤ 1000 := by have h1 := lev_len yfa (l.drop (j + 1)); rw [List.length_drop] at h1; omega
      have hnpos : (0 < seg.length → 0 < lo.length + seg.length) := by omega
      have hlo2 : lo.length ≤ scap := by omega
      have hlo3 : lo.length ≤ 1000 := by omega
      generalize hN : lo.length + seg.length = n at *
      have HN := Lib.hid hN
      clear hN
      clear hr1 hr2 hr3 hlen e1 h0
      go_wp2_with (go_at_call 87; refine (arity_any _ _).mono ?_; rintro e w' ⟨rfl, rfl⟩)
      go_loop [9, 11, 37] (fun gr _ q => ∃ k : Nat, k ≤ seg.length ∧ q = .int .i64 k ∧ gr = .int .i64 (yhq (seg.take k) : Nat)) (fun _ _ q => seg.length - (intOf q).toNat)
      case atStart => exact ⟨0, by omega, rfl, rfl⟩
      case round =>
        obtain ⟨k, hk, rfl, rfl⟩ := hrel
        by_cases hq : k < seg.length
        · obtain ⟨g, rfl, hcs⟩ := hn3 (by have := HN.out; omega)
          obtain rfl := hb3 g 0 rfl (by omega)
          obtain ⟨x, hx⟩ : ∃ x, seg[k]? = some x := ⟨seg[k], List.getElem?_eq_getElem hq⟩
          have hcell := hcs (lo.length + k) _ (natCells_get (lo ++ seg) (lo.length + k) x (by rw [List.getElem?_append_right (by omega), Nat.add_sub_cancel_left]; exact hx))
          have HM := Lib.hid (maxl_take_succ seg k x hx)
          clear hcs hx
          simp only [Nat.zero_add]
          generalize yhq (seg.take k) = mk at *
          go_wp2_with fail
          refine ⟨⟨k + 1, by omega, by go_num, ?_⟩, by simp [intOf]; omega⟩
          rw [HM.out]
          congr 1
          split <;> omega
        · obtain rfl : k = seg.length := by omega
          rw [List.take_length]
          go_wp2_with fail
          have hown' : wr.ownsRow w.heap.size 3 1 (.slice sa lo.length scap) lo.length (yck lo) := own_take (natCells_length lo) (by rw [ycl] at hown; exact hown)
          go_region_law (first | (go_simp; go_at_call 89; refine (depth1_any _ _ _ hsegb).mono ?_; rintro e w' ⟨rfl, rfl⟩; dsimp only) | (refine step_append_lies _ rfl (.tmp 47) (.tmp 56) 107 rfl w.heap.size 3 i0 (.int .i64 0) 1 8 Tryz.underlying107 Hi.out Hz0.out Hz1.out Hz2.out rfl (by decide) _ _ _ rfl (by exact yeb hown' (by repeat (first | exact Below.refl _ _ | apply Below.drew | refine Below.alloc ?_ (by simp) _))) ⟨wr.heap.size, 0, none⟩ 1 1 [.int .i64 (yfa l[j].1 (yhq seg) : Nat)] rfl rfl (by exact new_cells _ _ _ _ (by simp)) (by simp [Value.oneCell']) (by decide) (by unfold maxLen; omega) (by omega) (by have := hbel.size; simp; omega) _ rfl ?_; intro g2 cap2 w2 hown2 hgrow2 _ _))
          have HO : w2.ownsRow w.heap.size 3 1 (.slice (some ⟨g2, 0, none⟩) (lo.length + 1) cap2) (lev yfa (l.drop j)).length (yck (lev yfa (l.drop j)).reverse) := by
            have e5 := congrArg List.length H3.out
            rw [List.length_reverse, List.length_append] at e5
            rw [e5, H3.out, ycl]; exact hown2
          have HB : Below w.heap.size w w2 := Below.grown (by repeat (first | exact hbel | apply Below.drew | refine Below.alloc ?_ (by have := hbel.size; simp; omega) _)) hgrow2 (by have := hbel.size; simp; omega) (own_ge hown')
          clear hown2 hgrow2 hown'
          go_wp2_with fail
          go_roundg j
          case measure => omega
          case rel => exact ⟨by omega, by go_num, HO, HB⟩

set_option maxHeartbeats 4000000 in
theorem levels_nest (v : Value) (l : List Tm) (E : Ex) (w : World) (hl : l.length ≤ 1000) (hv : Hid (yfp w v l)) (hp : Hid (yet l = some E)) :
    Calls Tryz.prog 88 #[v, .func (.func 90) #[] #[]] w fun e w' => e = .returned (.tuple #[.int .i64 (val yhd E : Nat), .bool true]) ∧ Below w.heap.size w w' := by
  obtain ⟨i0, hi, hz0, hz1, hz2⟩ := info_parts infoInt
  have Hi := Lib.hid hi
  have Hz0 := Lib.hid hz0
  have Hz1 := Lib.hid hz1
  have Hz2 := Lib.hid hz2
  clear hi hz0 hz1 hz2
  obtain ⟨hok, hfl⟩ := yeg hp.out
  have HF : Hid (ydm l = some [E]) := by rw [← hfl]; have := forest_fl E hok [] [] rfl; rw [List.append_nil] at this; exact this
  have hpos : 0 < l.length := by rw [← hfl]; exact E.fl_pos
  have HE := Lib.hid ((end_one l).2 ⟨E, hp.out⟩)
  have hne : (yim 1 0 l != (l.length : Int)) = false := by rw [HE.out]; simp
  clear hok hfl
  obtain ⟨a0, cap0, rfl, h1, h2, h3⟩ := hv.out.open
  obtain ⟨g0, o0, rfl, hg0, hc⟩ := h3 hpos
  have HC := Lib.hid hc
  clear h3 hc
  go_enter Tryz.func88, Tryz.ntmps88
  go_wp2_with (go_at_call 49; refine (end_at _ l 0 _ hl hv (by omega)).mono ?_; rintro e w' ⟨rfl, rfl⟩)
  go_loopg [6, 7, 8, 9, 11] l.length (fun m st i _ _ _ wr => m ≤ l.length ∧ i = .int .i64 ((m : Int) - 1) ∧ wr.ownsRow w.heap.size 3 1 st (lev yhd (l.drop m)).length (yck (lev yhd (l.drop m)).reverse) ∧ Below w.heap.size w wr)
  case atStart =>
    refine ⟨Nat.le_refl _, rfl, ?_, Below.refl _ _⟩
    rw [List.drop_length]; exact World.ownsRow_nil _ _ _ _
  case round =>
    obtain ⟨hm, rfl, hown, hbel⟩ := hrel
    by_cases h0 : gk = 0
    · subst h0
      rw [List.drop_zero, lev_forest yhd l [E] HF.out] at hown
      obtain ⟨g, cap, rfl, hc1, hc2, hcell⟩ := own_first hown
      go_wp2_with fail
      go_ret2
      exact ⟨rfl, hbel⟩
    · obtain ⟨j, rfl⟩ : ∃ j, gk = j + 1 := ⟨gk - 1, by omega⟩
      have hj : j < l.length := by omega
      obtain ⟨ha0, lo, seg, hr1, hr2, hr3⟩ := lev_round yhd l E HF.out j hj
      have hlen : (lev yhd (l.drop (j + 1))).length = lo.length + seg.length := by rw [← List.length_reverse, hr1, List.length_append]
      have hsegb : yhq seg ≤ 1000 := by
        have h1 := lev_bd yhd (by intro op g; simp only [yhd]; first | omega | (split <;> omega)) (l.drop (j + 1))
        have h2 : ∀ (xs : List Nat) (b : Nat), (∀ x ∈ xs, x ≤ b) → yhq xs ≤ b := by
          intro xs b
          induction xs with
          | nil => intro _; simp [yhq]
          | cons a xs ih =>
            intro h
            have h1 := h a (List.mem_cons_self ..)
            have h2 := ih (fun x hx => h x (List.mem_cons_of_mem _ hx))
            simp only [yhq]; omega
        refine Nat.le_trans (h2 seg (l.drop (j + 1)).length fun x hx => h1 x ?_) (by rw [List.length_drop]; omega)
        rw [← List.mem_reverse, hr1]; exact List.mem_append_right _ hx
      have e1 : ((j + 1 : Nat) : Int) - 1 = j := by omega
      rw [e1]
      rw [hr1, hlen] at hown
      have H3 := Lib.hid hr3
      obtain ⟨sa, scap, rfl⟩ := own_shape hown
      obtain ⟨hn1, hn2, hn3⟩ := own_cells hown
      obtain ⟨sb, capb, hsl, hb1, hb2, hb3⟩ := slice_tail underInts sizeInt sa (lo.length + seg.length) scap lo.length seg.length (((lo.length + seg.length : Nat) : Int) - ar l[j].1) (by omega) (by omega) hn1
      have hsl2 := slice_head underInts sizeInt sa (lo.length + seg.length) scap lo.length (((lo.length + seg.length : Nat) : Int) - ar l[j].1) (by omega) (by omega)
      obtain ⟨c0, c1⟩ := HC.out j _ (List.getElem?_eq_getElem hj)
      rw [← hbel.cell (p := ⟨g0, _, none⟩) hg0] at c0 c1
      have HR2 := Lib.hid hr2
      have hra : ar l[j].1 ≤ ((lo.length + seg.length : Nat) : Int) := by omega
      have hlo : lo.length + seg.length ≤ 1000 := by have h1 := lev_len yhd (l.drop (j + 1)); rw [List.length_drop] at h1; omega
      have hnpos : (0 < seg.length → 0 < lo.length + seg.length) := by omega
      have hlo2 : lo.length ≤ scap := by omega
      have hlo3 : lo.length ≤ 1000 := by omega
      generalize hN : lo.length + seg.length = n at *
      have HN := Lib.hid hN
      clear hN
      clear hr1 hr2 hr3 hlen e1 h0
      go_wp2_with (go_at_call 87; refine (arity_any _ _).mono ?_; rintro e w' ⟨rfl, rfl⟩)
      go_loop [9, 11, 37] (fun gr _ q => ∃ k : Nat, k ≤ seg.length ∧ q = .int .i64 k ∧ gr = .int .i64 (yhq (seg.take k) : Nat)) (fun _ _ q => seg.length - (intOf q).toNat)
      case atStart => exact ⟨0, by omega, rfl, rfl⟩
      case round =>
        obtain ⟨k, hk, rfl, rfl⟩ := hrel
        by_cases hq : k < seg.length
        · obtain ⟨g, rfl, hcs⟩ := hn3 (by have := HN.out; omega)
          obtain rfl := hb3 g 0 rfl (by omega)
          obtain ⟨x, hx⟩ : ∃ x, seg[k]? = some x := ⟨seg[k], List.getElem?_eq_getElem hq⟩
          have hcell := hcs (lo.length + k) _ (natCells_get (lo ++ seg) (lo.length + k) x (by rw [List.getElem?_append_right (by omega), Nat.add_sub_cancel_left]; exact hx))
          have HM := Lib.hid (maxl_take_succ seg k x hx)
          clear hcs hx
          simp only [Nat.zero_add]
          generalize yhq (seg.take k) = mk at *
          go_wp2_with fail
          refine ⟨⟨k + 1, by omega, by go_num, ?_⟩, by simp [intOf]; omega⟩
          rw [HM.out]
          congr 1
          split <;> omega
        · obtain rfl : k = seg.length := by omega
          rw [List.take_length]
          go_wp2_with fail
          have hown' : wr.ownsRow w.heap.size 3 1 (.slice sa lo.length scap) lo.length (yck lo) := own_take (natCells_length lo) (by rw [ycl] at hown; exact hown)
          go_region_law (first | (go_simp; go_at_call 90; refine (nest1_any _ _ _ hsegb).mono ?_; rintro e w' ⟨rfl, rfl⟩; dsimp only) | (refine step_append_lies _ rfl (.tmp 47) (.tmp 56) 107 rfl w.heap.size 3 i0 (.int .i64 0) 1 8 Tryz.underlying107 Hi.out Hz0.out Hz1.out Hz2.out rfl (by decide) _ _ _ rfl (by exact yeb hown' (by repeat (first | exact Below.refl _ _ | apply Below.drew | refine Below.alloc ?_ (by simp) _))) ⟨wr.heap.size, 0, none⟩ 1 1 [.int .i64 (yhd l[j].1 (yhq seg) : Nat)] rfl rfl (by exact new_cells _ _ _ _ (by simp)) (by simp [Value.oneCell']) (by decide) (by unfold maxLen; omega) (by omega) (by have := hbel.size; simp; omega) _ rfl ?_; intro g2 cap2 w2 hown2 hgrow2 _ _))
          have HO : w2.ownsRow w.heap.size 3 1 (.slice (some ⟨g2, 0, none⟩) (lo.length + 1) cap2) (lev yhd (l.drop j)).length (yck (lev yhd (l.drop j)).reverse) := by
            have e5 := congrArg List.length H3.out
            rw [List.length_reverse, List.length_append] at e5
            rw [e5, H3.out, ycl]; exact hown2
          have HB : Below w.heap.size w w2 := Below.grown (by repeat (first | exact hbel | apply Below.drew | refine Below.alloc ?_ (by have := hbel.size; simp; omega) _)) hgrow2 (by have := hbel.size; simp; omega) (own_ge hown')
          clear hown2 hgrow2 hown'
          go_wp2_with fail
          go_roundg j
          case measure => omega
          case rel => exact ⟨by omega, by go_num, HO, HB⟩

theorem levels_none (v fv : Value) (l : List Tm) (w : World) (hl : l.length ≤ 1000) (hv : Hid (yfp w v l)) (hp : Hid (yet l = none)) :
    Calls Tryz.prog 88 #[v, fv] w fun e w' => e = .returned (.tuple #[.int .i64 0, .bool false]) ∧ w = w' := by
  have hne : (yim 1 0 l != (l.length : Int)) = true := by
    rw [bne_iff_ne]
    intro h
    obtain ⟨E, hE⟩ := (end_one l).1 h
    rw [hp.out] at hE; cases hE
  obtain ⟨a0, cap0, rfl, h1, h2, h3⟩ := hv.out.open
  clear h3
  go_enter Tryz.func88, Tryz.ntmps88
  go_wp2_with (go_at_call 49; refine (end_at _ l 0 _ hl hv (by omega)).mono ?_; rintro e w' ⟨rfl, rfl⟩)
  go_ret2
  exact ⟨rfl, rfl⟩
def yiz (l : List Tm) : Nat := match yet l with | none => 0 | some E => E.dp
def nestV (l : List Tm) : Nat := match yet l with | none => 0 | some E => E.ns
theorem depth_any (v : Value) (l : List Tm) (w : World) (hl : l.length ≤ 1000) (hv : Hid (yfp w v l)) :
    Calls Tryz.prog 51 #[v] w fun e w' => e = .returned (.int .i64 (yiz l)) ∧ Below w.heap.size w w' := by
  cases hp : yet l with
  | none =>
    have H : Hid (yiz l = 0) := by unfold yiz; rw [hp]; rfl
    have HP := Lib.hid hp
    clear hp
    go_enter Tryz.func51, Tryz.ntmps51
    go_wp2_with (go_at_call 88; refine (levels_none _ _ l _ hl hv HP).mono ?_; rintro e w' ⟨rfl, rfl⟩)
    go_ret
    exact ⟨ycn (by rw [H.out]; rfl), Below.refl _ _⟩
  | some E =>
    have H : Hid (yiz l = val yfa E) := by unfold yiz; rw [hp, val_depth]; rfl
    have HP := Lib.hid hp
    clear hp
    go_enter Tryz.func51, Tryz.ntmps51
    go_wp2_with (go_at_call 88; refine (levels_depth _ l E _ hl hv HP).mono ?_; rintro e w' ⟨rfl, hb⟩)
    go_ret
    exact ⟨ycn (by rw [H.out]), hb⟩
theorem nest_any (v : Value) (l : List Tm) (w : World) (hl : l.length ≤ 1000) (hv : Hid (yfp w v l)) :
    Calls Tryz.prog 52 #[v] w fun e w' => e = .returned (.int .i64 (nestV l)) ∧ Below w.heap.size w w' := by
  cases hp : yet l with
  | none =>
    have H : Hid (nestV l = 0) := by unfold nestV; rw [hp]; rfl
    have HP := Lib.hid hp
    clear hp
    go_enter Tryz.func52, Tryz.ntmps52
    go_wp2_with (go_at_call 88; refine (levels_none _ _ l _ hl hv HP).mono ?_; rintro e w' ⟨rfl, rfl⟩)
    go_ret
    exact ⟨ycn (by rw [H.out]; rfl), Below.refl _ _⟩
  | some E =>
    have H : Hid (nestV l = val yhd E) := by unfold nestV; rw [hp, val_nest E (yeg hp).1]; rfl
    have HP := Lib.hid hp
    clear hp
    go_enter Tryz.func52, Tryz.ntmps52
    go_wp2_with (go_at_call 88; refine (levels_nest _ l E _ hl hv HP).mono ?_; rintro e w' ⟨rfl, hb⟩)
    go_ret
    exact ⟨ycn (by rw [H.out]), hb⟩
end Go.Proofs.YtcpgpiabeimefaaGreatDoor
namespace Go.Proofs.YtcpgpiabeimefaaGreatDoor
open Go.RowKit

def yer (xs : List Bool) : List Value := xs.map Value.bool
theorem boolCells_get (xs : List Bool) (i : Nat) (x : Bool) (h : xs[i]? = some x) : (yer xs)[i]? = some (.bool x) := by unfold yer; rw [List.getElem?_map, h]; rfl
theorem boolCells_append (xs ys : List Bool) : yer (xs ++ ys) = yer xs ++ yer ys := by simp [yer]
theorem boolCells_length (xs : List Bool) : (yer xs).length = xs.length := by simp [yer]
theorem own_ne {w : World} {B B' e e' s s' n n' : Nat} {v v' : Value} {xs xs' : List Value} (h : w.ownsRow B e s v n xs) (h' : w.ownsRow B' e' s' v' n' xs') (hne : e ≠ e') : v.ownBlock = none ∨ v.ownBlock ≠ v'.ownBlock := by
  rcases h.2 with ⟨rfl, _⟩ | ⟨g, cap, cur, rfl, _, hh, _⟩
  · exact .inl rfl
  · rcases h'.2 with ⟨rfl, _⟩ | ⟨g', cap', cur', rfl, _, hh', _⟩
    · right; simp [Value.ownBlock]
    · right
      intro heq
      simp only [Value.ownBlock, Option.some.injEq] at heq
      rw [heq, hh'] at hh
      simp only [Option.some.injEq, Obj.cells.injEq] at hh
      exact hne hh.2.1.symm

def yjy (S : Open) : List Nat := (S.map (·.1)).reverse
def yhp (S : Open) : List Bool := (S.map (·.2)).reverse
theorem lefts_cons (k : Nat) (b : Bool) (S : Open) : yjy ((k, b) :: S) = yjy S ++ [k] := by simp [yjy]
theorem opens_cons (k : Nat) (b : Bool) (S : Open) : yhp ((k, b) :: S) = yhp S ++ [b] := by simp [yhp]
theorem lefts_length (S : Open) : (yjy S).length = S.length := by simp [yjy]
theorem opens_length (S : Open) : (yhp S).length = S.length := by simp [yhp]
def ylh (bs : List Bool) : Nat := (bs.filter id).length
theorem cntB_opens (S : Open) : ylh (yhp S) = cnt S := by
  unfold ylh yhp cnt
  rw [List.filter_reverse, List.length_reverse, List.filter_map, List.length_map]
  rfl
theorem cntB_take_succ (bs : List Bool) (q : Nat) (x : Bool) (h : bs[q]? = some x) : ylh (bs.take (q + 1)) = ylh (bs.take q) + (if x then 1 else 0) := by
  obtain ⟨h1, h2⟩ := List.getElem?_eq_some_iff.1 h
  unfold ylh
  rw [List.take_succ_eq_append_getElem h1, List.filter_append, List.length_append, h2]
  cases x <;> simp
theorem cntB_le (bs : List Bool) : ylh bs ≤ bs.length := List.length_filter_le _ _

def ygz : Open → Open
  | [] => []
  | (x, b) :: S => yez x b S
def Pos (S : Open) : Prop := ∀ e ∈ S, 1 ≤ e.1 ∧ e.1 ≤ 3
theorem closeS_stop (x : Nat) (b : Bool) (S : Open) (h : x ≠ 0) : ygz ((x, b) :: S) = (x, b) :: S := closeK_pos x b S h
theorem closeS_last (b : Bool) : ygz [(0, b)] = [] := by simp [ygz, yez]
theorem closeS_pop (b c : Bool) (x : Nat) (S : Open) : ygz ((0, b) :: (x, c) :: S) = ygz ((x - 1, c) :: S) := by simp [ygz, yez]
theorem closeK_Pos (S : Open) : ∀ (k : Nat) (b : Bool), k ≤ 3 → Pos S → Pos (yez k b S) := by
  induction S with
  | nil =>
    intro k b hk _
    simp only [yez]
    split
    · intro e he; cases he
    · intro e he; simp at he; subst he; exact ⟨by omega, hk⟩
  | cons x S ih =>
    obtain ⟨x, c⟩ := x
    intro k b hk hS
    simp only [yez]
    split
    · exact ih _ _ (by have := hS (x, c) (List.mem_cons_self ..); omega) (fun e he => hS e (List.mem_cons_of_mem _ he))
    · intro e he
      cases he with
      | head => exact ⟨by omega, hk⟩
      | tail _ he => exact hS e he
theorem closeK_len (S : Open) : ∀ (k : Nat) (b : Bool), (yez k b S).length ≤ S.length + 1 := by
  induction S with
  | nil => intro k b; simp only [yez]; split <;> simp
  | cons x S ih => obtain ⟨x, c⟩ := x; intro k b; simp only [yez]; split
                   · have := ih (x - 1) c; simp; omega
                   · simp
def yjz (l : List Tm) (k : Nat) : Lev := yli ⟨[], 0, 0⟩ (l.take k)
theorem lev0_succ (l : List Tm) (k : Nat) (h : k < l.length) : yjz l (k + 1) = ygk (yjz l k) l[k] := by
  unfold yjz
  rw [List.take_succ_eq_append_getElem h, levR_append]; rfl
theorem lev0_facts (l : List Tm) (k : Nat) (h : k ≤ l.length) : (yjz l k).S.length ≤ k ∧ Pos (yjz l k).S ∧ (yjz l k).d ≤ k ∧ (yjz l k).n ≤ k := by
  induction k with
  | zero => unfold yjz; simp [yli]; intro e he; cases he
  | succ k ih =>
    obtain ⟨h1, h2, h3, h4⟩ := ih (by omega)
    rw [lev0_succ l k (by omega)]
    have hb := ar_bd l[k].1
    have h5 := closeK_len (yjz l k).S (ar l[k].1).toNat (yhk l[k].1)
    have h6 := closeK_Pos (yjz l k).S (ar l[k].1).toNat (yhk l[k].1) (by omega) h2
    have h7 : cnt (((ar l[k].1).toNat, yhk l[k].1) :: (yjz l k).S) ≤ k + 1 := by
      rw [← cntB_opens]; have := cntB_le (yhp (((ar l[k].1).toNat, yhk l[k].1) :: (yjz l k).S)); rw [opens_length] at this; simp at this; omega
    unfold ygk
    refine ⟨by show (yez _ _ _).length ≤ _; omega, h6, by show max _ _ ≤ _; omega, by show max _ _ ≤ _; omega⟩
theorem lev0_all (l : List Tm) (E : Ex) (h : yet l = some E) : (yjz l l.length).d = E.dp ∧ (yjz l l.length).n = E.ns := by
  obtain ⟨h1, h2⟩ := yeg h
  unfold yjz
  rw [List.take_length, ← h2, levR_fl E h1]
  simp [cnt]
theorem own_lt' {w : World} {B e size n : Nat} {v : Value} {xs : List Value} (h : w.ownsRow B e size v n xs) {x : Nat} (hx : x < B) : some x ≠ v.ownBlock :=
  fun h1 => by have := (h.lt x h1.symm).1; omega
theorem cell_later' {w wr w' : World} {g o : Nat} {u : Value} (hg : g < w.heap.size) (hb : Below w.heap.size w wr) (hc : wr.cell? ⟨g, o, none⟩ = some u) (h : Below wr.heap.size wr w') : w'.cell? ⟨g, o, none⟩ = some u :=
  (h.cell (p := ⟨g, o, none⟩) (Nat.lt_of_lt_of_le hg hb.size)).trans hc
theorem own_frozen {w : World} {B e s n cap g : Nat} {xs : List Value} (h : w.ownsRow B e s (.slice (some ⟨g, 0, none⟩) n cap) n xs) (j : Nat) : w.frozen? ⟨g, j, none⟩ = false := by
  rcases h.2 with ⟨h0, _⟩ | ⟨g', cap', cur, hv, _, hh, _⟩
  · cases h0
  · cases hv
    unfold World.frozen?
    simp only [hh]
    simp
theorem lefts_dec (y : Nat) (c : Bool) (T : Open) (hy : 1 ≤ y) : (yck (yjy ((y, c) :: T))).set T.length (.int .i64 ((y : Int) - 1)) = yck (yjy ((y - 1, c) :: T)) := by
  rw [lefts_cons, lefts_cons, ycl, ycl, List.set_append_right _ _ (by rw [natCells_length, lefts_length]; exact Nat.le_refl _), natCells_length, lefts_length, Nat.sub_self]
  simp only [yck, List.map_singleton, List.set_cons_zero]
  rw [show ((y - 1 : Nat) : Int) = (y : Int) - 1 by omega]
theorem infoBool : (Tryz.prog.info? 4).map (fun i => (i.zero, i.size, i.bytes)) = some (some (.bool false), 1, 1) := by kernel_rfl
theorem sizeBool (w : World) : (sizeOf (Tryz.prog.elem 108)).run Tryz.prog w = .ok 1 w := by kernel_rfl
theorem underBools : Tryz.prog.underlying 108 = some (.slice (Tryz.prog.elem 108)) := by kernel_rfl

def Stacks (w0 w : World) (vl vo : Value) (S : Open) : Prop :=
  w.ownsRow w0.heap.size 3 1 vl S.length (yck (yjy S)) ∧ w.ownsRow w0.heap.size 4 1 vo S.length (yer (yhp S)) ∧ Below w0.heap.size w0 w

set_option maxHeartbeats 4000000 in
set_option maxRecDepth 100000 in
theorem rlevels_any (v : Value) (l : List Tm) (E : Ex) (w : World) (hl : l.length ≤ 1000) (hv : Hid (yfp w v l)) (hp : Hid (yet l = some E)) :
    Calls Tryz.prog 101 #[v] w fun e w' => e = .returned (.tuple #[.int .i64 E.dp, .int .i64 E.ns]) ∧ Below w.heap.size w w' := by
  obtain ⟨i0, hi, hz0, hz1, hz2⟩ := info_parts infoInt
  obtain ⟨j0, hj, hy0, hy1, hy2⟩ := info_parts infoBool
  have Hi := Lib.hid hi
  have Hz0 := Lib.hid hz0
  have Hz1 := Lib.hid hz1
  have Hz2 := Lib.hid hz2
  have Hj := Lib.hid hj
  have Hy0 := Lib.hid hy0
  have Hy1 := Lib.hid hy1
  have Hy2 := Lib.hid hy2
  clear hi hz0 hz1 hz2 hj hy0 hy1 hy2
  obtain ⟨hok, hfl⟩ := yeg hp.out
  have HF : Hid (ydm l = some [E]) := by rw [← hfl]; have := forest_fl E hok [] [] rfl; rw [List.append_nil] at this; exact this
  have hpos : 0 < l.length := by rw [← hfl]; exact E.fl_pos
  clear hok hfl
  obtain ⟨a0, cap0, rfl, h1, h2, h3⟩ := hv.out.open
  obtain ⟨g0, o0, rfl, hg0, hc⟩ := h3 hpos
  have HC := Lib.hid hc
  clear h3 hc
  go_enter Tryz.func101, Tryz.ntmps101
  go_wp2_with fail
  go_loopw [4, 5, 6, 7, 8, 9, 10] (fun d n vl vo i _ _ wr => ∃ k : Nat, k ≤ l.length ∧ i = .int .i64 k ∧ d = .int .i64 (yjz l k).d ∧ n = .int .i64 (yjz l k).n ∧ Hid (Stacks w wr vl vo (yjz l k).S)) (fun _ _ _ _ i _ _ _ => l.length - (intOf i).toNat)
  case atStart => exact ⟨0, by omega, rfl, rfl, rfl, World.ownsRow_nil _ _ _ _, World.ownsRow_nil _ _ _ _, Below.refl _ _⟩
  case round =>
    obtain ⟨k, hk, rfl, rfl, rfl, hst⟩ := hrel
    obtain ⟨q1, q2, q3, q4⟩ := lev0_facts l k hk
    by_cases hlt : k < l.length
    · obtain ⟨ha0, _⟩ := lev_round yfa l E HF.out k hlt
      have ha1 := (ar_bd l[k].1).2
      obtain ⟨c0, c1⟩ := HC.out k _ (List.getElem?_eq_getElem hlt)
      have HS := Lib.hid (lev0_succ l k hlt)
      have HQ2 := Lib.hid q2
      clear q2
      generalize hL : yjz l k = L at *
      have HL := Lib.hid hL
      clear hL
      obtain ⟨hownL, hownO, hbel⟩ := hst.out
      rw [← hbel.cell (p := ⟨g0, _, none⟩) hg0] at c0 c1
      have hbs := hbel.size
      go_wp2_with fail
      go_region_held3 (fun w' => w'.cell? ⟨g0, o0 + k * 2, none⟩ = some (.int .i64 l[k].1)) (first | exact cB | exact cA | (refine cell_later' hg0 hbelA cA ?_; repeat (first | exact Below.refl _ _ | apply Below.drew | refine Below.alloc ?_ (by simp) _)) | exact c0 | (refine cell_later' hg0 hbel c0 ?_; repeat (first | exact Below.refl _ _ | apply Below.drew | refine Below.alloc ?_ (by simp) _)))
        (first | (go_at_call 37; refine (rarity_any _ _).mono ?_; rintro e w' ⟨rfl, rfl⟩) | (go_at_call 73; refine (raggregate_any _ _).mono ?_; rintro e w' ⟨rfl, rfl⟩) | (refine step_append_lies _ rfl (.tmp 26) (.tmp 33) 108 rfl w.heap.size 4 j0 (.bool false) 1 1 Tryz.underlying108 Hj.out Hy0.out Hy1.out Hy2.out rfl (by decide) _ _ _ rfl (by exact yeb hownO2 (by repeat (first | exact Below.refl _ _ | apply Below.drew | refine Below.alloc ?_ (by simp) _))) ⟨wA.heap.size, 0, none⟩ 1 1 [.bool (yhk l[k].1)] rfl rfl (by exact new_cells _ _ _ _ (by simp)) (by simp [Value.oneCell']) (by decide) (by unfold maxLen; omega) (by omega) (by simp; omega) _ rfl ?_; intro gB capB wB hownB hgrowB _ _; have cB : wB.cell? ⟨g0, o0 + k * 2, none⟩ = some (.int .i64 l[k].1) := hgrowB.cell (cell_later' hg0 hbelA cA (by repeat (first | exact Below.refl _ _ | apply Below.drew | refine Below.alloc ?_ (by first | exact Nat.le_refl _ | exact hbsA | (simp; omega) | simp) _))) (own_lt' hownO2 hg0)) | (refine step_append_lies _ rfl (.tmp 17) (.tmp 24) 107 rfl w.heap.size 3 i0 (.int .i64 0) 1 8 Tryz.underlying107 Hi.out Hz0.out Hz1.out Hz2.out rfl (by decide) _ _ _ rfl (by exact yeb hownL (by repeat (first | exact Below.refl _ _ | apply Below.drew | refine Below.alloc ?_ (by simp) _))) ⟨wr.heap.size, 0, none⟩ 1 1 [.int .i64 (ar l[k].1)] rfl rfl (by exact new_cells _ _ _ _ (by simp)) (by simp [Value.oneCell']) (by decide) (by unfold maxLen; omega) (by omega) (by simp; omega) _ rfl ?_; intro gA capA wA hownA hgrowA _ _; have hownO2 := (yeb hownO (by repeat (first | exact Below.refl _ _ | apply Below.drew | refine Below.alloc ?_ (by simp) _))).kept hgrowA (own_ne hownO hownL (by decide)); have cA : wA.cell? ⟨g0, o0 + k * 2, none⟩ = some (.int .i64 l[k].1) := hgrowA.cell (cell_later' hg0 hbel c0 (by repeat (first | exact Below.refl _ _ | apply Below.drew | refine Below.alloc ?_ (by first | exact Nat.le_refl _ | exact hbs | (simp; omega) | simp) _))) (own_lt' hownL hg0); have hbelA : Below w.heap.size w wA := Below.grown (by repeat (first | exact hbel | apply Below.drew | refine Below.alloc ?_ (by first | exact Nat.le_refl _ | exact hbs | (simp; omega) | simp) _)) hgrowA (by simp; omega) (own_ge hownL); have hbsA := hbelA.size))
      have harn : ((ar l[k].1).toNat : Int) = ar l[k].1 := by omega
      have HST : Hid (Stacks w wB (.slice (some ⟨gA, 0, none⟩) (L.S.length + 1) capA) (.slice (some ⟨gB, 0, none⟩) (L.S.length + 1) capB) (((ar l[k].1).toNat, yhk l[k].1) :: L.S)) := by
        refine ⟨?_, ?_, Below.grown (by repeat (first | exact hbelA | apply Below.drew | refine Below.alloc ?_ (by first | exact hbsA | (simp; omega)) _)) hgrowB (by simp; omega) (own_ge hownO2)⟩
        · rw [lefts_cons, ycl, yck, yck, List.map_singleton, harn]
          exact (yeb hownA (by repeat (first | exact Below.refl _ _ | apply Below.drew | refine Below.alloc ?_ (by simp) _))).kept hgrowB (own_ne hownA hownO2 (by decide))
        · rw [opens_cons, boolCells_append]; exact hownB
      clear hownA hownB hgrowA hgrowB hownO2 cA cB hbelA hbsA hownL hownO harn c0 c1 hbs
      obtain ⟨S1, hS1⟩ : ∃ S1, S1 = ((ar l[k].1).toNat, yhk l[k].1) :: L.S := ⟨_, rfl⟩
      have hlen1 : L.S.length + 1 = S1.length := by rw [hS1]; rfl
      have hP1 : Hid (Pos S1.tail) := by rw [hS1]; exact HQ2
      have hclose : Hid (yez (ar l[k].1).toNat (yhk l[k].1) L.S = ygz S1) := by rw [hS1]; rfl
      have hcnt : Hid (cnt (((ar l[k].1).toNat, yhk l[k].1) :: L.S) = ylh (yhp S1)) := by rw [hS1, cntB_opens]; rfl
      have hol : Hid ((yhp S1).length = S1.length) := opens_length S1
      rw [← hS1] at HST
      rw [hlen1] at HST ⊢
      have hn1 : S1.length ≤ 1000 := by omega
      have HL1 := Lib.hid hlen1
      clear hS1 hlen1
      obtain ⟨hoL, hoO, hbB⟩ := HST.out
      obtain ⟨o1, o2, o3⟩ := own_cells hoO
      obtain ⟨p1, p2, p3⟩ := own_cells hoL
      go_wp2_with fail
      go_loop [9, 10] (fun c q => ∃ j : Nat, j ≤ S1.length ∧ q = .int .i64 j ∧ c = .int .i64 (ylh ((yhp S1).take j) : Nat)) (fun _ q => S1.length - (intOf q).toNat)
      case atStart => exact ⟨0, by omega, rfl, rfl⟩
      case round =>
        obtain ⟨j, hj, rfl, rfl⟩ := hrel
        by_cases hq : j < S1.length
        · obtain ⟨g, hge, hcs⟩ := o3 (by omega)
          simp only [Option.some.injEq, Addr.mk.injEq] at hge
          obtain ⟨rfl, _⟩ := hge
          obtain ⟨x, hx⟩ : ∃ x, (yhp S1)[j]? = some x := ⟨(yhp S1)[j]'(by rw [hol.out]; exact hq), List.getElem?_eq_getElem _⟩
          have hcell := hcs j _ (boolCells_get _ j x hx)
          have HM := Lib.hid (cntB_take_succ (yhp S1) j x hx)
          have hcb := cntB_le ((yhp S1).take j)
          rw [List.length_take, hol.out] at hcb
          clear hcs hx
          generalize ylh ((yhp S1).take j) = cj at *
          cases x
          all_goals
            go_wp2_with fail
            refine ⟨⟨j + 1, by omega, by go_num, ?_⟩, by simp [intOf]; omega⟩
            rw [HM.out]; simp
        · obtain rfl : j = S1.length := by omega
          rw [List.take_of_length_le (by rw [hol.out]; exact Nat.le_refl _), ← hcnt.out]
          generalize hc1 : cnt (((ar l[k].1).toNat, yhk l[k].1) :: L.S) = c1 at *
          obtain ⟨d1, hd1⟩ : ∃ d1 : Nat, d1 = max L.d S1.length := ⟨_, rfl⟩
          obtain ⟨n1, hn1e⟩ : ∃ n1 : Nat, n1 = max L.n c1 := ⟨_, rfl⟩
          have hm1 : (if L.d < S1.length then (S1.length : Int) else (L.d : Int)) = (d1 : Int) := by rw [hd1]; split <;> omega
          have hm2 : (if L.n < c1 then (c1 : Int) else (L.n : Int)) = (n1 : Int) := by rw [hn1e]; split <;> omega
          have HN : Hid (ygk L l[k] = ⟨ygz S1, d1, n1⟩) := by
            unfold ygk; rw [hc1, hclose.out, hd1, hn1e, ← HL1.out]; rfl
          clear hd1 hn1e hc1 hcnt hclose
          go_wp2_with fail
          clear hm1 hm2 o3 p3 hoL hoO
          go_loopg [6, 7] S1.length (fun m vl vo wy => ∃ S : Open, Hid (S.length = m) ∧ m ≤ S1.length ∧ Hid (ygz S1 = ygz S) ∧ Hid (Stacks w wy vl vo S) ∧ Hid (Pos S.tail))
          case atStart => exact ⟨S1, rfl, Nat.le_refl _, rfl, HST, hP1⟩
          case round =>
            obtain ⟨S, hSl, hSm, hSc, hSt, hSp⟩ := hrel
            obtain ⟨wy, rfl⟩ : ∃ wy : World, wy = wr := ⟨_, rfl⟩
            obtain ⟨hoL, hoO, hbY⟩ := hSt.out
            rcases S with _ | ⟨⟨x, b⟩, T⟩
            · obtain ⟨la, lcap, rfl⟩ := own_shape (n := 0) hoL
              obtain ⟨oa, ocap, rfl⟩ := own_shape (n := 0) hoO
              go_wp2_with fail
              exact ⟨⟨k + 1, by omega, by go_num, by rw [HS.out, HN.out], by rw [HS.out, HN.out], by rw [HS.out, HN.out]; show Stacks w _ _ _ (ygz S1); rw [hSc.out, show ygz [] = [] from rfl]; exact hSt⟩, by simp [intOf]; omega⟩
            · obtain ⟨la, lcap, rfl⟩ := own_shape (n := T.length + 1) hoL
              obtain ⟨oa, ocap, rfl⟩ := own_shape (n := T.length + 1) hoO
              have hTl : T.length + 1 ≤ 1000 := by have := hSl.out; simp only [List.length_cons] at this; omega
              obtain ⟨o1', o2', o3⟩ := own_cells (n := T.length + 1) hoO
              obtain ⟨p1', p2', p3⟩ := own_cells (n := T.length + 1) hoL
              obtain ⟨g, rfl, hcs⟩ := p3 (by omega)
              have hcx := hcs T.length _ (natCells_get _ T.length x (by rw [lefts_cons, ← lefts_length T, List.getElem?_append_right (Nat.le_refl _), Nat.sub_self]; rfl))
              have eT : (((T.length + 1 : Nat) : Int) - 1) = (T.length : Int) := by omega
              by_cases hx : x = 0
              · subst hx
                have hsl1 := slice_head underInts sizeInt (some ⟨g, 0, none⟩) (T.length + 1) lcap T.length (((T.length + 1 : Nat) : Int) - 1) (by omega) (by omega)
                have hsl2 := slice_head underBools sizeBool oa (T.length + 1) ocap T.length (((T.length + 1 : Nat) : Int) - 1) (by omega) (by omega)
                have hsl1' : ∀ w, (Instr.slice 107 (.slice (some ⟨g, 0, none⟩) (T.length + 1) lcap) none (some (.int .i64 (T.length : Int))) none).run Tryz.prog w = .ok (.slice (some ⟨g, 0, none⟩) T.length lcap) w := by intro w; have := hsl1 w; rw [eT] at this; exact this
                have hsl2' : ∀ w, (Instr.slice 108 (.slice oa (T.length + 1) ocap) none (some (.int .i64 (T.length : Int))) none).run Tryz.prog w = .ok (.slice oa T.length ocap) w := by intro w; have := hsl2 w; rw [eT] at this; exact this
                have HoL : wy.ownsRow w.heap.size 3 1 (.slice (some ⟨g, 0, none⟩) T.length lcap) T.length (yck (yjy T)) := own_take (by rw [natCells_length, lefts_length]) (by rw [lefts_cons, ycl] at hoL; exact hoL)
                have HoO : wy.ownsRow w.heap.size 4 1 (.slice oa T.length ocap) T.length (yer (yhp T)) := own_take (by rw [boolCells_length, opens_length]) (by rw [opens_cons, boolCells_append] at hoO; exact hoO)
                have hx0 : ((0 : Int) == 0) = true := by simp
                have hT : (T.length = 0 ∧ Hid (T = [])) ∨ ∃ y c T', Hid (T = (y, c) :: T') ∧ 0 < T.length ∧ 1 ≤ y ∧ y ≤ 3 ∧ wy.cell? ⟨g, T.length - 1, none⟩ = some (.int .i64 (y : Nat)) := by
                  rcases T with _ | ⟨⟨y, c⟩, T'⟩
                  · exact .inl ⟨rfl, rfl⟩
                  · have hy := hSp.out (y, c) (List.mem_cons_self ..)
                    refine .inr ⟨y, c, T', rfl, by simp, hy.1, hy.2, ?_⟩
                    obtain ⟨_, _, q3⟩ := own_cells HoL
                    obtain ⟨g', hg', hq⟩ := q3 (by simp)
                    cases hg'
                    exact hq _ _ (natCells_get _ _ y (by rw [lefts_cons, List.length_cons, Nat.add_sub_cancel, ← lefts_length T', List.getElem?_append_right (Nat.le_refl _), Nat.sub_self]; rfl))
                have hfz := own_frozen HoL (T.length - 1)
                have hSl2 : Hid (T.length + 1 = gk) := hSl.out
                have hSp2 : Hid (Pos T) := hSp.out
                clear hsl1 hsl2 hcs p3 o3 hoL hoO
                generalize htn : T.length = tn at *
                have HTN := Lib.hid htn
                clear htn
                rcases hT with ⟨ht0, hTe⟩ | ⟨y, c, T', hTe, ht0, hy1, hy2, hcy⟩
                · have HT0 := Lib.hid ht0
                  have ht1 : tn < 1 := by omega
                  clear ht0
                  go_wp2_with fail
                  go_quiet (fail)
                  go_wp2_with fail
                  go_roundg tn
                  case measure => have := hSl2.out; omega
                  case rel =>
                    refine ⟨T, HTN, by have := hSl2.out; omega, ?_, ⟨?_, ?_, below_drewN hbY _⟩, ?_⟩
                    · rw [hSc.out, hTe.out]; exact closeS_last b
                    · rw [HTN.out]; exact yeb HoL (bdrew (Below.refl _ _) _)
                    · rw [HTN.out]; exact yeb HoO (bdrew (Below.refl _ _) _)
                    · rw [hTe.out]; intro e he; cases he
                · have i1 : (1 : Int) ≤ (tn : Int) := by omega
                  go_wp2_with fail
                  go_quiet (fail)
                  go_wp2_with fail
                  have hs := HoL.stored (tn - 1) (.int .i64 ((y : Int) - 1))
                  have hk := HoO.kept hs.2 (own_ne HoO HoL (by decide))
                  have hTl' : T'.length = tn - 1 := by have h1 := HTN.out; rw [hTe.out, List.length_cons] at h1; omega
                  go_roundg tn
                  case measure => have := hSl2.out; omega
                  case rel =>
                    refine ⟨(y - 1, c) :: T', by show T'.length + 1 = tn; omega, by have := hSl2.out; omega, ?_, ⟨?_, ?_, below_drewN (hbY.setCell (own_ge HoL g rfl) _) _⟩, ?_⟩
                    · rw [hSc.out, hTe.out]; exact closeS_pop b c y T'
                    · show World.ownsRow _ _ _ _ _ (T'.length + 1) _
                      rw [show T'.length + 1 = tn by omega, ← lefts_dec y c T' hy1, hTl', ← hTe.out]
                      exact yeb hs.1 (bdrew (Below.refl _ _) _)
                    · show World.ownsRow _ _ _ _ _ (T'.length + 1) _
                      rw [show T'.length + 1 = tn by omega, opens_cons, ← opens_cons y c T', ← hTe.out]
                      exact yeb hk (bdrew (Below.refl _ _) _)
                    · intro e he; exact hSp2.out e (by rw [hTe.out]; exact List.mem_cons_of_mem _ he)
              · have hxb : ((x : Int) == 0) = false := by simp; omega
                go_wp2_with fail
                exact ⟨⟨k + 1, by omega, by go_num, by rw [HS.out, HN.out], by rw [HS.out, HN.out], by rw [HS.out, HN.out]; show Stacks w _ _ _ (ygz S1); rw [hSc.out, closeS_stop x b T hx]; exact hSt⟩, by simp [intOf]; omega⟩
    · obtain rfl : k = l.length := by omega
      have HA := Lib.hid (lev0_all l E hp.out)
      go_wp2_with fail
      go_ret2
      exact ⟨by rw [HA.out.1, HA.out.2]; rfl, hst.out.2.2⟩
end Go.Proofs.YtcpgpiabeimefaaGreatDoor
set_option maxRecDepth 100000
namespace Go.Proofs.YtcpgpiabeimefaaGreatDoor
open Go.RowKit

def ykt (l : List Tm) : Bool := (yet l).isSome
theorem endNe (l : List Tm) (E : Ex) (h : yet l = some E) : (yim 1 0 l != (l.length : Int)) = false ∧ (yim 1 0 l == (l.length : Int)) = true := by
  rw [(end_one l).2 ⟨E, h⟩]; simp
theorem endEq (l : List Tm) (h : yet l = none) : (yim 1 0 l != (l.length : Int)) = true ∧ (yim 1 0 l == (l.length : Int)) = false := by
  have : yim 1 0 l ≠ (l.length : Int) := fun hq => by
    obtain ⟨E, hE⟩ := (end_one l).1 hq
    rw [h] at hE; cases hE
  simp [this]
theorem one_any (v : Value) (l : List Tm) (w : World) (hl : l.length ≤ 1000) (hv : Hid (yfp w v l)) :
    Calls Tryz.prog 61 #[v] w fun e w' => e = .returned (.bool (ykt l)) ∧ w = w' := by
  obtain ⟨a0, cap0, rfl, h1, h2, h3⟩ := hv.out.open
  clear h3
  cases hp : yet l with
  | none =>
    have H : Hid (ykt l = false) := by unfold ykt; rw [hp]; rfl
    obtain ⟨_, he⟩ := endEq l hp
    clear hp
    by_cases h0 : 0 < l.length
    all_goals
      go_enter Tryz.func61, Tryz.ntmps61
      go_wp2_with (go_at_call 36; refine (rend_at _ l 0 _ hl hv (by omega)).mono ?_; rintro e w' ⟨rfl, rfl⟩)
      go_ret
      exact ⟨yan H.out.symm, rfl⟩
  | some E =>
    have H : Hid (ykt l = true) := by unfold ykt; rw [hp]; rfl
    have h0 : 0 < l.length := by rw [← (yeg hp).2]; exact E.fl_pos
    obtain ⟨_, he⟩ := endNe l E hp
    clear hp
    go_enter Tryz.func61, Tryz.ntmps61
    go_wp2_with (go_at_call 36; refine (rend_at _ l 0 _ hl hv (by omega)).mono ?_; rintro e w' ⟨rfl, rfl⟩)
    go_ret
    exact ⟨yan H.out.symm, rfl⟩
theorem rdepth_any (v : Value) (l : List Tm) (E : Ex) (w : World) (hl : l.length ≤ 1000) (hv : Hid (yfp w v l)) (hp : Hid (yet l = some E)) :
    Calls Tryz.prog 62 #[v] w fun e w' => e = .returned (.int .i64 E.dp) ∧ Below w.heap.size w w' := by
  have H : ykt l = true := by unfold ykt; rw [hp.out]; rfl
  go_enter Tryz.func62, Tryz.ntmps62
  go_wp2_with (first | (go_at_call 61; refine (one_any _ l _ hl hv).mono ?_; rintro e w' ⟨rfl, rfl⟩) | (go_at_call 101; refine (rlevels_any _ l E _ hl hv hp).mono ?_; rintro e w' ⟨rfl, hb⟩))
  go_ret
  exact ⟨rfl, hb⟩
theorem rnest_any (v : Value) (l : List Tm) (E : Ex) (w : World) (hl : l.length ≤ 1000) (hv : Hid (yfp w v l)) (hp : Hid (yet l = some E)) :
    Calls Tryz.prog 63 #[v] w fun e w' => e = .returned (.int .i64 E.ns) ∧ Below w.heap.size w w' := by
  have H : ykt l = true := by unfold ykt; rw [hp.out]; rfl
  go_enter Tryz.func63, Tryz.ntmps63
  go_wp2_with (first | (go_at_call 61; refine (one_any _ l _ hl hv).mono ?_; rintro e w' ⟨rfl, rfl⟩) | (go_at_call 101; refine (rlevels_any _ l E _ hl hv hp).mono ?_; rintro e w' ⟨rfl, hb⟩))
  go_ret
  exact ⟨rfl, hb⟩

theorem valid_none {l : List Tm} (vars : Int) (h : yet l = none) : ycp l vars = false := by unfold ycp; rw [h]
theorem valid_long {l : List Tm} (vars : Int) (h : 200 < l.length) : ycp l vars = false := by
  unfold ycp
  cases yet l with
  | none => rfl
  | some E => simp; omega
theorem valid_arg {l : List Tm} (vars : Int) (k : Nat) (hk : k < l.length) (h : yep vars l[k] = false) : ycp l vars = false := by
  unfold ycp
  cases yet l with
  | none => rfl
  | some E =>
    have : l.all (yep vars) = false := by rw [List.all_eq_false]; exact ⟨l[k], List.getElem_mem hk, by simp [h]⟩
    simp only [this, Bool.false_and, Bool.and_false]
theorem valid_rest {l : List Tm} (vars : Int) (E : Ex) (hp : yet l = some E) (h : l.length ≤ 200) (ha : (l.take l.length).all (yep vars) = true) : ycp l vars = (decide (E.dp ≤ 24) && decide (E.ns ≤ 2)) := by
  rw [List.take_length] at ha
  unfold ycp; rw [hp]; simp [ha, h]
theorem valid_deep {l : List Tm} (vars : Int) (E : Ex) (hp : yet l = some E) (h : 24 < E.dp ∨ 2 < E.ns) : ycp l vars = false := by
  unfold ycp; rw [hp]
  rcases h with h | h <;> simp <;> omega
theorem args_snoc (l : List Tm) (vars : Int) (k : Nat) (h : k < l.length) (ha : (l.take k).all (yep vars) = true) (hw : yep vars l[k] = true) : (l.take (k + 1)).all (yep vars) = true := by
  rw [List.take_succ_eq_append_getElem h, List.all_append, ha]; simp [hw]

set_option maxHeartbeats 2000000 in
theorem valid_any (v : Value) (l : List Tm) (vars : Int) (w : World) (hl : l.length ≤ 1000) (hv : Hid (yfp w v l)) :
    Calls Tryz.prog 26 #[v, .int .i64 vars] w fun e w' => e = .returned (.bool (ycp l vars)) ∧ Below w.heap.size w w' := by
  obtain ⟨a0, cap0, rfl, h1, h2, h3⟩ := hv.out.open
  have HC := Lib.hid h3
  clear h3
  by_cases h200 : 200 < l.length
  · have H := Lib.hid (valid_long vars h200)
    go_enter Tryz.func26, Tryz.ntmps26
    go_wp2_with fail
    go_ret
    exact ⟨yan H.out.symm, Below.refl _ _⟩
  cases hp : yet l with
  | none =>
    have H := Lib.hid (valid_none vars hp)
    obtain ⟨he, _⟩ := endEq l hp
    clear hp
    go_enter Tryz.func26, Tryz.ntmps26
    go_wp2_with (go_at_call 49; refine (end_at _ l 0 _ hl hv (by omega)).mono ?_; rintro e w' ⟨rfl, rfl⟩)
    go_ret
    exact ⟨yan H.out.symm, Below.refl _ _⟩
  | some E =>
    have HP := Lib.hid hp
    obtain ⟨he, _⟩ := endNe l E hp
    clear hp
    go_enter Tryz.func26, Tryz.ntmps26
    go_wp2_with (go_at_call 49; refine (end_at _ l 0 _ hl hv (by omega)).mono ?_; rintro e w' ⟨rfl, rfl⟩)
    go_loopw [6, 19] (fun _ i wr => ∃ k : Nat, k ≤ l.length ∧ i = .int .i64 k ∧ Hid ((l.take k).all (yep vars) = true) ∧ Below w.heap.size w wr) (fun _ i _ => l.length - (intOf i).toNat)
    case atStart => exact ⟨0, by omega, rfl, rfl, Below.refl _ _⟩
    case round =>
      obtain ⟨k, hk, rfl, ha, hbel⟩ := hrel
      by_cases hlt : k < l.length
      · obtain ⟨g, o, rfl, hg, hc⟩ := HC.out (by omega)
        obtain ⟨c0, c1⟩ := hc k _ (List.getElem?_eq_getElem hlt)
        rw [← hbel.cell (p := ⟨g, _, none⟩) hg] at c0 c1
        clear hc
        have hbs := hbel.size
        rcases Bool.eq_false_or_eq_true (yep vars l[k]) with hw | hw
        · have H := Lib.hid (args_snoc l vars k hlt ha.out hw)
          go_wp2_with (go_at_call 50; refine (argument_any l[k] vars _).mono ?_; rintro e w1 ⟨rfl, hb1⟩)
          exact ⟨⟨k + 1, by omega, by go_num, H, (hbel.alloc hbs _).trans (hb1.mono (by simp; omega))⟩, by simp [intOf]; omega⟩
        · have H := Lib.hid (valid_arg vars k hlt hw)
          go_wp2_with (go_at_call 50; refine (argument_any l[k] vars _).mono ?_; rintro e w1 ⟨rfl, hb1⟩)
          go_ret
          exact ⟨yan H.out.symm, (hbel.alloc hbs _).trans (hb1.mono (by simp; omega))⟩
      · obtain rfl : k = l.length := by omega
        have H := Lib.hid (valid_rest vars E HP.out (by omega) ha.out)
        have HD : Hid (yiz l = E.dp) := by unfold yiz; rw [HP.out]; rfl
        have HN : Hid (nestV l = E.ns) := by unfold nestV; rw [HP.out]; rfl
        by_cases hd : yiz l ≤ 24
        all_goals
          go_wp2_with (first | (go_at_call 51; refine (depth_any _ l _ hl (hv.out.below hbel)).mono ?_; rintro e w1 ⟨rfl, hb1⟩) | (go_at_call 52; refine (nest_any _ l _ hl (hv.out.below (yke hbel hb1))).mono ?_; rintro e w2 ⟨rfl, hb2⟩))
          go_ret
        · refine ⟨yan ?_, yke (yke hbel hb1) hb2⟩
          rw [H.out, ← HD.out, ← HN.out]; simp [hd]; omega
        · refine ⟨yan ?_, yke hbel hb1⟩
          rw [H.out, ← HD.out]; simp; omega

set_option maxHeartbeats 2000000 in
theorem rvalid_any (v : Value) (l : List Tm) (vars : Int) (w : World) (hl : l.length ≤ 1000) (hv : Hid (yfp w v l)) :
    Calls Tryz.prog 31 #[v, .int .i64 vars] w fun e w' => e = .returned (.bool (ycp l vars)) ∧ Below w.heap.size w w' := by
  obtain ⟨a0, cap0, rfl, h1, h2, h3⟩ := hv.out.open
  have HC := Lib.hid h3
  clear h3
  by_cases h200 : 200 < l.length
  · have H := Lib.hid (valid_long vars h200)
    go_enter Tryz.func31, Tryz.ntmps31
    go_wp2_with fail
    go_ret
    exact ⟨yan H.out.symm, Below.refl _ _⟩
  cases hp : yet l with
  | none =>
    have H := Lib.hid (valid_none vars hp)
    have h1 : ykt l = false := by unfold ykt; rw [hp]; rfl
    clear hp
    go_enter Tryz.func31, Tryz.ntmps31
    go_wp2_with (go_at_call 61; refine (one_any _ l _ hl hv).mono ?_; rintro e w' ⟨rfl, rfl⟩)
    go_ret
    exact ⟨yan H.out.symm, Below.refl _ _⟩
  | some E =>
    have HP := Lib.hid hp
    have h1 : ykt l = true := by unfold ykt; rw [hp]; rfl
    clear hp
    by_cases hd : 24 < E.dp
    · have H := Lib.hid (valid_deep vars E HP.out (.inl hd))
      go_enter Tryz.func31, Tryz.ntmps31
      go_wp2_with (first | (go_at_call 61; refine (one_any _ l _ hl hv).mono ?_; rintro e w' ⟨rfl, rfl⟩) | (go_at_call 62; refine (rdepth_any _ l E _ hl hv HP).mono ?_; rintro e w1 ⟨rfl, hb1⟩))
      go_ret
      exact ⟨yan H.out.symm, hb1⟩
    by_cases hn : 2 < E.ns
    · have H := Lib.hid (valid_deep vars E HP.out (.inr hn))
      go_enter Tryz.func31, Tryz.ntmps31
      go_wp2_with (first | (go_at_call 61; refine (one_any _ l _ hl hv).mono ?_; rintro e w' ⟨rfl, rfl⟩) | (go_at_call 62; refine (rdepth_any _ l E _ hl hv HP).mono ?_; rintro e w1 ⟨rfl, hb1⟩) | (go_at_call 63; refine (rnest_any _ l E _ hl (hv.out.below hb1) HP).mono ?_; rintro e w2 ⟨rfl, hb2⟩))
      go_ret
      exact ⟨yan H.out.symm, yke hb1 hb2⟩
    have b1 : decide (24 < E.dp) = false := by simp; omega
    have b2 : decide (2 < E.ns) = false := by simp; omega
    have b3 : decide (24 < (E.dp : Int)) = false := by simp; omega
    have b4 : decide (2 < (E.ns : Int)) = false := by simp; omega
    have b5 : decide (200 < (l.length : Int)) = false := by simp; omega
    go_enter Tryz.func31, Tryz.ntmps31
    go_wp2_with (first | (go_at_call 61; refine (one_any _ l _ hl hv).mono ?_; rintro e w' ⟨rfl, rfl⟩) | (go_at_call 62; refine (rdepth_any _ l E _ hl hv HP).mono ?_; rintro e w1 ⟨rfl, hb1⟩) | (go_at_call 63; refine (rnest_any _ l E _ hl (hv.out.below hb1) HP).mono ?_; rintro e w2 ⟨rfl, hb2⟩))
    have hb := yke hb1 hb2
    go_loopw [5] (fun i wr => ∃ k : Nat, k ≤ l.length ∧ i = .int .i64 k ∧ Hid ((l.take k).all (yep vars) = true) ∧ Below w.heap.size w wr) (fun i _ => l.length - (intOf i).toNat)
    case atStart => exact ⟨0, by omega, rfl, rfl, hb⟩
    case round =>
      obtain ⟨k, hk, rfl, ha, hbel⟩ := hrel
      by_cases hlt : k < l.length
      · obtain ⟨g, o, rfl, hg, hc⟩ := HC.out (by omega)
        obtain ⟨c0, c1⟩ := hc k _ (List.getElem?_eq_getElem hlt)
        rw [← hbel.cell (p := ⟨g, _, none⟩) hg] at c0 c1
        clear hc
        have hbs := hbel.size
        rcases Bool.eq_false_or_eq_true (yep vars l[k]) with hw | hw
        · have H := Lib.hid (args_snoc l vars k hlt ha.out hw)
          go_wp2_with (go_at_call 64; refine (rargument_any l[k] vars _).mono ?_; rintro e w3 ⟨rfl, hb3⟩)
          exact ⟨⟨k + 1, by omega, by go_num, H, yke hbel hb3⟩, by simp [intOf]; omega⟩
        · have H := Lib.hid (valid_arg vars k hlt hw)
          go_wp2_with (go_at_call 64; refine (rargument_any l[k] vars _).mono ?_; rintro e w3 ⟨rfl, hb3⟩)
          go_ret
          exact ⟨yan H.out.symm, yke hbel hb3⟩
      · obtain rfl : k = l.length := by omega
        have H := Lib.hid (valid_rest vars E HP.out (by omega) ha.out)
        go_wp2_with fail
        go_ret
        refine ⟨yan ?_, hbel⟩
        rw [H.out]; simp; omega
end Go.Proofs.YtcpgpiabeimefaaGreatDoor
set_option linter.unusedVariables false
set_option maxRecDepth 100000
set_option maxHeartbeats 4000000
namespace Go.Proofs.YtcpgpiabeimefaaGreatDoor
open Go.RowKit
def ykh (s : ByteArray) : AV := match ygv s with
  | .ok ts => .tup [.sl 4 (ts.map yel), i64 0, i64 0]
  | .error (p, e) => .tup [.sl 4 [], i64 p, i64 e]
theorem own_rel {ok : Nat → Prop} {w : World} {lv : Live} {B : Nat} {v : Value} {ts : List Tok} (h : w.ownsRow B 68 4 v ts.length (ydk ts)) (hok : ∀ g, B ≤ g → g < w.heap.size → ok g) : Rel ok w lv (.sl 4 (ts.map yel)) v := by
  have ht := toks_of_own h
  rcases h.2 with ⟨rfl, h0⟩ | ⟨g, cap, cur, rfl, hB, hh, hn, hc, _⟩
  · obtain rfl : ts = [] := List.eq_nil_of_length_eq_zero h0
    exact .sl none 0 (fun _ _ => undef) 0 0 (by simp) (by simp) (fun _ => rfl) (fun row hr => by cases hr) (fun h => absurd rfl h) (fun i j row c hi => by simp at hi) (fun i j row c hi => by simp at hi)
  · obtain ⟨a, cap', hv, h1, h2, h3⟩ := ht
    simp only [Value.slice.injEq] at hv
    obtain ⟨rfl, _, rfl⟩ := hv
    have hg : g < w.heap.size := (Array.getElem?_eq_some_iff.1 hh).1
    have hcells : ∀ i t, ts[i]? = some t → w.cell? ⟨g, 0 + i * 4, none⟩ = some (.int .i64 t.kind) ∧ w.cell? ⟨g, 0 + i * 4 + 1, none⟩ = some (.int .i64 t.from_) ∧ w.cell? ⟨g, 0 + i * 4 + 2, none⟩ = some (.int .i64 t.to) ∧ w.cell? ⟨g, 0 + i * 4 + 3, none⟩ = some (.int .i64 t.num) := by
      intro i t hi
      rcases h3 with rfl | ⟨g', o', ha, _, hcl⟩
      · simp at hi
      · simp only [Option.some.injEq, Addr.mk.injEq] at ha
        obtain ⟨rfl, rfl, _⟩ := ha
        exact hcl i t hi
    have hrow : ∀ (i : Nat) (row : List AV), (ts.map yel)[i]? = some row → ∃ t, ts[i]? = some t ∧ row = yel t := fun i row hi => by
      rw [List.getElem?_map] at hi
      cases hq : ts[i]? with
      | none => rw [hq] at hi; cases hi
      | some t => rw [hq] at hi; simp only [Option.map_some, Option.some.injEq] at hi; exact ⟨t, rfl, hi.symm⟩
    have hlen : (ts.map yel).length = ts.length := by simp
    rw [← hlen]
    refine .sl (some ⟨g, 0, none⟩) cap (fun i j => match ts[i]? with | some t => (match j with | 0 => .int .i64 t.kind | 1 => .int .i64 t.from_ | 2 => .int .i64 t.to | _ => .int .i64 t.num) | none => undef) g 0 (by rw [hlen]; exact hn) hc (fun h => by cases h) (fun row hr => ?_) (fun _ => ⟨rfl, hok g hB hg⟩) (fun i j row c hi hj => ?_) (fun i j row c hi hj => ?_)
    · obtain ⟨t, _, rfl⟩ := List.mem_map.1 hr; rfl
    · obtain ⟨t, hti, rfl⟩ := hrow i row hi
      obtain ⟨c0, c1, c2, c3⟩ := hcells i t hti
      simp only [hti]
      match j, hj with
      | 0, hj => simp only [yel, List.getElem?_cons_zero, Option.some.injEq] at hj; subst hj; exact ⟨by simpa using c0, rfl⟩
      | 1, hj => simp only [yel, List.getElem?_cons_succ, List.getElem?_cons_zero, Option.some.injEq] at hj; subst hj; exact ⟨c1, rfl⟩
      | 2, hj => simp only [yel, List.getElem?_cons_succ, List.getElem?_cons_zero, Option.some.injEq] at hj; subst hj; exact ⟨c2, rfl⟩
      | 3, hj => simp only [yel, List.getElem?_cons_succ, List.getElem?_cons_zero, Option.some.injEq] at hj; subst hj; exact ⟨c3, rfl⟩
      | j + 4, hj => simp [yel] at hj
    · obtain ⟨t, hti, rfl⟩ := hrow i row hi
      simp only [hti]
      match j, hj with
      | 0, hj => simp only [yel, List.getElem?_cons_zero, Option.some.injEq] at hj; subst hj; exact .v _
      | 1, hj => simp only [yel, List.getElem?_cons_succ, List.getElem?_cons_zero, Option.some.injEq] at hj; subst hj; exact .v _
      | 2, hj => simp only [yel, List.getElem?_cons_succ, List.getElem?_cons_zero, Option.some.injEq] at hj; subst hj; exact .v _
      | 3, hj => simp only [yel, List.getElem?_cons_succ, List.getElem?_cons_zero, Option.some.injEq] at hj; subst hj; exact .v _
      | j + 4, hj => simp [yel] at hj
theorem tup3_rel {ok : Nat → Prop} {w : World} {lv : Live} {x : AV} {u : Value} {a b : Int} (h : Rel ok w lv x u) : Rel ok w lv (.tup [x, i64 a, i64 b]) (.tuple #[u, .int .i64 a, .int .i64 b]) := by
  refine .tup [u, .int .i64 a, .int .i64 b] rfl fun i c v hc hv => ?_
  match i with
  | 0 => simp only [List.getElem?_cons_zero, Option.some.injEq] at hc hv; subst hc hv; exact h
  | 1 => simp only [List.getElem?_cons_succ, List.getElem?_cons_zero, Option.some.injEq] at hc hv; subst hc hv; exact .v _
  | 2 => simp only [List.getElem?_cons_succ, List.getElem?_cons_zero, Option.some.injEq] at hc hv; subst hc hv; exact .v _
  | i + 3 => simp at hc
theorem scan_pure (s : ByteArray) : ybp (ykh s) = true := by unfold ykh; split <;> rfl
theorem scanA_con (f : FuncId) (hb : HasBody Tryz.prog f) (h : ∀ (s : ByteArray) (w : World), s.size ≤ 9223372036854775807 → Calls Tryz.prog f #[.string s] w (ScanRet s w)) (s : ByteArray) (hs : s.size ≤ 9223372036854775807) : Con Tryz.prog f [yff s] (ykh s) := by
  refine ⟨hb, scan_pure s, fun ok0 w us hG hok hr => ?_⟩
  obtain ⟨u, rfl, h1⟩ := relAll1 hr
  cases h1
  refine (h s w hs).mono ?_
  rintro e w' ⟨hb, ⟨ts, v, h1, h2, rfl, h4⟩ | ⟨p, x, h1, _, _, _, rfl⟩⟩
  · refine ⟨_, rfl, ?_, hb⟩
    rw [ykh, h1]
    exact tup3_rel (own_rel h4 fun g g1 g2 => ⟨.inr g1, g2⟩)
  · refine ⟨_, rfl, ?_, hb⟩
    rw [ykh, h1]
    refine tup3_rel ?_
    exact .sl none 0 (fun _ _ => undef) 0 0 (by simp) (by simp) (fun _ => rfl) (fun row hr => by cases hr) (fun h => absurd rfl h) (fun i j row c hi => by simp at hi) (fun i j row c hi => by simp at hi)
theorem scan_con (s : ByteArray) (hs : s.size ≤ 9223372036854775807) : Con Tryz.prog 20 [yff s] (ykh s) := scanA_con _ ⟨_, Tryz.func20, rfl, rfl⟩ scan_any s hs
theorem xvalid_con (l : List Tm) (vars : Int) (hl : l.length ≤ 1000000) : Con Tryz.prog 26 [ybc l, i64 vars] (yga (ycp l vars)) := by
  by_cases h : 200 < l.length
  · rw [valid_long vars h]
    refine ybt Tryz.func26 rfl rfl Tryz.ntmps26 Tryz.results26 rfl rfl ?_
    (repeat (first | refine zI ?_ | refine zL ?_ | refine zC ?_ | refine yaf ?_ | refine yae ?_ | refine zR ?_ | refine zD ?_ | refine zK ?_ | refine zB ?_ | refine zA ?_ | refine zS ?_ | refine zU ?_ | refine zV ?_ | refine zF ?_ | with_reducible refine yab ?_ | with_reducible refine yad ?_ | refine yaa ?_ | refine yac ?_ | refine yag ?_ | refine zT ?_ | refine zE ?_ | refine zX ?_))
    refine ych 10 rfl (fun h2 => ?_) (fun h2 => ?_)
    · (repeat (first | refine zI ?_ | refine zL ?_ | refine zC ?_ | refine yaf ?_ | refine yae ?_ | refine zR ?_ | refine zD ?_ | refine zK ?_ | refine zB ?_ | refine zA ?_ | refine zS ?_ | refine zU ?_ | refine zV ?_ | refine zF ?_ | with_reducible refine yab ?_ | with_reducible refine yad ?_ | refine yaa ?_ | refine yac ?_ | refine yag ?_ | refine zT ?_ | refine zE ?_ | refine zX ?_))
      refine yau ?_; refine ⟨_, rfl, ?_⟩
      exact Frz.pure
    · simp at h2
      omega
  exact ydq ⟨_, Tryz.func26, rfl, rfl⟩ fun w us ok hok hr => by
    obtain ⟨u, v, rfl, h1, h2⟩ := relAll2 hr
    cases h2
    exact valid_any u l vars w (by omega) (Lib.hid (terms_of_rel h1 hok))
theorem xrvalid_con (l : List Tm) (vars : Int) (hl : l.length ≤ 1000000) : Con Tryz.prog 31 [ybc l, i64 vars] (yga (ycp l vars)) := by
  by_cases h : 200 < l.length
  · rw [valid_long vars h]
    refine ybt Tryz.func31 rfl rfl Tryz.ntmps31 Tryz.results31 rfl rfl ?_
    (repeat (first | refine zI ?_ | refine zL ?_ | refine zC ?_ | refine yaf ?_ | refine yae ?_ | refine zR ?_ | refine zD ?_ | refine zK ?_ | refine zB ?_ | refine zA ?_ | refine zS ?_ | refine zU ?_ | refine zV ?_ | refine zF ?_ | with_reducible refine yab ?_ | with_reducible refine yad ?_ | refine yaa ?_ | refine yac ?_ | refine yag ?_ | refine zT ?_ | refine zE ?_ | refine zX ?_))
    refine ych 9 rfl (fun h2 => ?_) (fun h2 => ?_)
    · (repeat (first | refine zI ?_ | refine zL ?_ | refine zC ?_ | refine yaf ?_ | refine yae ?_ | refine zR ?_ | refine zD ?_ | refine zK ?_ | refine zB ?_ | refine zA ?_ | refine zS ?_ | refine zU ?_ | refine zV ?_ | refine zF ?_ | with_reducible refine yab ?_ | with_reducible refine yad ?_ | refine yaa ?_ | refine yac ?_ | refine yag ?_ | refine zT ?_ | refine zE ?_ | refine zX ?_))
      refine yau ?_; refine ⟨_, rfl, ?_⟩
      exact Frz.pure
    · simp at h2
      omega
  exact ydq ⟨_, Tryz.func31, rfl, rfl⟩ fun w us ok hok hr => by
    obtain ⟨u, v, rfl, h1, h2⟩ := relAll2 hr
    cases h2
    exact rvalid_any u l vars w (by omega) (Lib.hid (terms_of_rel h1 hok))
end Go.Proofs.YtcpgpiabeimefaaGreatDoor
