/- Part 13 of the texts under ExprStopsAtTheError: joined, with what it needs alone. -/
import Derived.Deep.QuietTactic
import Derived.BigQuiet
import Derived.Deep.AppendLies
import Derived.Deep.RegionLaw
import Derived.Deep.LoopGhost
import Derived.Deep.RegionHeld3
import Derived.Test.YtcpgpiabeimefaaDoorQ8
import Derived.Test.YtcpgpiabeimefaaDoorQ11
import Derived.Test.YtcpgpiabeimefaaDoorQ12
set_option maxRecDepth 100000
namespace Go.Proofs.YtcpgpiabeimefaaDoor
open Go.RowKit

def ycw (ts : List Tok) : List Value := ts.flatMap fun t => [.int .i64 t.kind, .int .i64 t.from_, .int .i64 t.to, .int .i64 t.num]
theorem tokCells_snoc (ts : List Tok) (t : Tok) : ycw (ts ++ [t]) = ycw ts ++ [.int .i64 t.kind, .int .i64 t.from_, .int .i64 t.to, .int .i64 t.num] := by
  simp [ycw]

def ScanRet (s : ByteArray) (w : World) (e : Ending) (w' : World) : Prop :=
  Below w.heap.size w w' ∧
  ((∃ (ts : List Tok) (v : Value), ydh s = .ok ts ∧ ts.length ≤ 4096 ∧ e = .returned (.tuple #[v, .int .i64 0, .int .i64 0]) ∧ w'.ownsRow w.heap.size 39 4 v ts.length (ycw ts)) ∨
   (∃ p x : Nat, ydh s = .error (p, x) ∧ p ≤ s.size ∧ 1 ≤ x ∧ x ≤ 5 ∧ e = .returned (.tuple #[.slice none 0 0, .int .i64 p, .int .i64 x])))

theorem infoTok : (Tryd.prog.info? 39).map (fun i => (i.zero, i.size, i.bytes)) = some (some (.agg #[.int .i64 0, .int .i64 0, .int .i64 0, .int .i64 0]), 4, 32) := by kernel_rfl

set_option maxHeartbeats 1000000 in
theorem scan_any (s : ByteArray) (w : World) (hs : s.size ≤ 9223372036854775807) :
    Calls Tryd.prog 12 #[.string s] w (ScanRet s w) := by
  by_cases h16 : 16384 < s.size
  · go_enter Tryd.func12, Tryd.ntmps12
    go_wp2
    go_ret3
    exact ⟨Below.refl _ _, .inr ⟨0, 3, by unfold ydh; rw [if_pos h16], by omega, by omega, by omega, rfl⟩⟩
  · have HF := Lib.hid (restScan_start s (by omega))
    obtain ⟨i0, hi, hz0, hz1, hz2⟩ := info_parts infoTok
    have Hi := Lib.hid hi
    have Hz0 := Lib.hid hz0
    have Hz1 := Lib.hid hz1
    have Hz2 := Lib.hid hz2
    clear hi hz0 hz1 hz2
    have hk0 := yfj s false 0 (by omega)
    go_enter Tryd.func12, Tryd.ntmps12
    go_wp2_with (go_at_call 29; refine (skip_any s 0 _ (by omega) (by omega)).mono ?_; rintro e w' ⟨rfl, rfl⟩)
    go_loopw [5, 6, 7, 8] (fun v at_ _ _ wr => ∃ (p : Nat) (out : List Tok), p ≤ s.size ∧ at_ = .int .i64 (yaw s false p) ∧ out.length ≤ 4096 ∧ Hid (ydh s = ydn s out p) ∧ wr.ownsRow w.heap.size 39 4 v out.length (ycw out) ∧ Below w.heap.size w wr) (fun _ at_ _ _ _ => s.size - (intOf at_).toNat)
    case atStart => exact ⟨0, [], by omega, rfl, by simp, HF, World.ownsRow_nil _ _ _ _, Below.refl _ _⟩
    case round =>
      obtain ⟨p, out, hp, rfl, hout, hrest, hown, hbel⟩ := hrel
      have hb := yfj s false p hp
      by_cases hlt : yaw s false p < s.size
      · obtain ⟨sa, scap, rfl⟩ := own_shape hown
        by_cases hfull : out.length = 4096
        · have hf : ((out.length : Int) == 4096) = true := by simp; omega
          have HFu := Lib.hid hfull
          clear hfull
          go_wp2
          go_ret3
          exact ⟨hbel, .inr ⟨yaw s false p, 3, by rw [hrest.out, restScan_full s out p hlt HFu.out], hb.2, by omega, by omega, rfl⟩⟩
        · have hf : ((out.length : Int) == 4096) = false := by simp; omega
          go_wp2_with (first | (at_builtin; refine wpList_append_own _ rfl (.tmp 32) (.tmp 34) 25 rfl w.heap.size 39 i0 (.agg #[.int .i64 0, .int .i64 0, .int .i64 0, .int .i64 0]) 4 32 Tryd.underlying25 Hi.out Hz0.out Hz1.out Hz2.out rfl (by decide) _ _ _ rfl (((own_below hown hbl).alloc _).alloc _) ⟨w1.heap.size + 1, 0, none⟩ 1 1 [.int .i64 k, .int .i64 (yaw s false p), .int .i64 ((yaw s false p + n : Nat) : Int), .int .i64 v] rfl rfl ?c1 ?c2 ?c3 ?c4 ?c5 ?_) | (go_at_call 30; refine (next_any s (yaw s false p) _ (by omega) hlt).mono ?_; rintro e w1 ⟨hbl, ⟨k, n, v, ht, rfl⟩ | ⟨x, ht, hx1, hx2, rfl⟩⟩ <;> have HT := Lib.hid ht <;> clear ht))
          case c1 => exact new_cells (w1.alloc _) _ _ _ (by simp)
          case c2 => intro u hu; simp at hu; rcases hu with rfl | rfl | rfl | rfl <;> rfl
          case c3 => unfold maxLen; omega
          case c4 => omega
          case c5 => have h1 := hbel.size; have h2 := hbl.size; simp; omega
          · have htb := tokL_bd HT.out
            rw [ybd] at htb
            intro v' w' hown' hgrow _
            obtain ⟨q, hq⟩ : ∃ q : Nat, q = yaw s false p + n := ⟨_, rfl⟩
            have hcell : w'.cell? ⟨w1.heap.size, 2, none⟩ = some (.int .i64 (q : Int)) := hgrow.cell (by rw [hq]; simp) (own_lt hown _ hbl.size)
            have hb' : Below w.heap.size w w' := ((((hbel.trans (hbl.mono hbel.size)).alloc (Nat.le_trans hbel.size hbl.size) _).alloc (by have h1 := hbel.size; have h2 := hbl.size; simp; omega) _).grown hgrow (by have h1 := hbel.size; have h2 := hbl.size; simp; omega) (own_ge hown))
            have hq1 : yaw s false p < q := by omega
            have hq2 : q ≤ s.size := by omega
            have hs2 := yfj s false q hq2
            have HR : Hid (ydh s = ydn s (out ++ [⟨k, yaw s false p, q, v⟩]) q) := by rw [hq]; exact hrest.out.trans (restScan_tok s out p k n v hlt (by omega) HT.out)
            have HO : w'.ownsRow w.heap.size 39 4 v' (out ++ [(⟨k, yaw s false p, q, v⟩ : Tok)]).length (ycw (out ++ [⟨k, yaw s false p, q, v⟩])) := by
              rw [tokCells_snoc, List.length_append]; rw [hq]; exact hown'
            clear hown' hgrow hq
            go_wp2_with (go_at_call 29; refine (skip_any s q _ (by omega) hq2).mono ?_; rintro e w' ⟨rfl, rfl⟩)
            exact ⟨⟨q, _, hq2, rfl, by rw [List.length_append]; simp; omega, HR, HO, hb'⟩, by simp [intOf]; omega⟩
          · go_ret3
            exact ⟨(hbel.trans (hbl.mono hbel.size)).alloc (Nat.le_trans hbel.size hbl.size) _, .inr ⟨yaw s false p, x, by rw [hrest.out, restScan_err s out p x hlt (by omega) HT.out], hb.2, hx1, hx2, rfl⟩⟩
      · go_wp2
        go_ret3
        exact ⟨hbel, .inl ⟨out, u5, by rw [hrest.out, restScan_end s out p (by omega)], hout, rfl, hown⟩⟩
set_option maxHeartbeats 1000000 in
theorem rscan_any (s : ByteArray) (w : World) (hs : s.size ≤ 9223372036854775807) :
    Calls Tryd.prog 6 #[.string s] w (ScanRet s w) := by
  by_cases h16 : 16384 < s.size
  · go_enter Tryd.func6, Tryd.ntmps6
    go_wp2
    go_ret3
    exact ⟨Below.refl _ _, .inr ⟨0, 3, by unfold ydh; rw [if_pos h16], by omega, by omega, by omega, rfl⟩⟩
  · have HF := Lib.hid (restScan_start s (by omega))
    obtain ⟨i0, hi, hz0, hz1, hz2⟩ := info_parts infoTok
    have Hi := Lib.hid hi
    have Hz0 := Lib.hid hz0
    have Hz1 := Lib.hid hz1
    have Hz2 := Lib.hid hz2
    clear hi hz0 hz1 hz2
    have hk0 := yfj s false 0 (by omega)
    go_enter Tryd.func6, Tryd.ntmps6
    go_wp2_with (go_at_call 9; refine (rblanks_any s 0 _ (by omega) (by omega)).mono ?_; rintro e w' ⟨rfl, rfl⟩)
    go_loopw [5, 6, 7, 8] (fun v at_ _ _ wr => ∃ (p : Nat) (out : List Tok), p ≤ s.size ∧ at_ = .int .i64 (yaw s false p) ∧ out.length ≤ 4096 ∧ Hid (ydh s = ydn s out p) ∧ wr.ownsRow w.heap.size 39 4 v out.length (ycw out) ∧ Below w.heap.size w wr) (fun _ at_ _ _ _ => s.size - (intOf at_).toNat)
    case atStart => exact ⟨0, [], by omega, rfl, by simp, HF, World.ownsRow_nil _ _ _ _, Below.refl _ _⟩
    case round =>
      obtain ⟨p, out, hp, rfl, hout, hrest, hown, hbel⟩ := hrel
      have hb := yfj s false p hp
      by_cases hlt : yaw s false p < s.size
      · obtain ⟨sa, scap, rfl⟩ := own_shape hown
        by_cases hfull : out.length = 4096
        · have hf : ((out.length : Int) == 4096) = true := by simp; omega
          have HFu := Lib.hid hfull
          clear hfull
          go_wp2
          go_ret3
          exact ⟨hbel, .inr ⟨yaw s false p, 3, by rw [hrest.out, restScan_full s out p hlt HFu.out], hb.2, by omega, by omega, rfl⟩⟩
        · have hf : ((out.length : Int) == 4096) = false := by simp; omega
          go_wp2_with (first | (at_builtin; refine wpList_append_own _ rfl (.tmp 35) (.tmp 37) 25 rfl w.heap.size 39 i0 (.agg #[.int .i64 0, .int .i64 0, .int .i64 0, .int .i64 0]) 4 32 Tryd.underlying25 Hi.out Hz0.out Hz1.out Hz2.out rfl (by decide) _ _ _ rfl (((own_below hown hbl).alloc _).alloc _) ⟨w1.heap.size + 1, 0, none⟩ 1 1 [.int .i64 k, .int .i64 (yaw s false p), .int .i64 ((yaw s false p + n : Nat) : Int), .int .i64 v] rfl rfl ?c1 ?c2 ?c3 ?c4 ?c5 ?_) | (go_at_call 10; refine (rtoken_any s (yaw s false p) _ (by omega) hlt).mono ?_; rintro e w1 ⟨hbl, ⟨k, n, v, ht, rfl⟩ | ⟨x, ht, hx1, hx2, rfl⟩⟩ <;> have HT := Lib.hid ht <;> clear ht))
          case c1 => exact new_cells (w1.alloc _) _ _ _ (by simp)
          case c2 => intro u hu; simp at hu; rcases hu with rfl | rfl | rfl | rfl <;> rfl
          case c3 => unfold maxLen; omega
          case c4 => omega
          case c5 => have h1 := hbel.size; have h2 := hbl.size; simp; omega
          · have htb := tokL_bd HT.out
            rw [ybd] at htb
            intro v' w' hown' hgrow _
            obtain ⟨q, hq⟩ : ∃ q : Nat, q = yaw s false p + n := ⟨_, rfl⟩
            have hcell : w'.cell? ⟨w1.heap.size, 2, none⟩ = some (.int .i64 (q : Int)) := hgrow.cell (by rw [hq]; simp) (own_lt hown _ hbl.size)
            have hb' : Below w.heap.size w w' := ((((hbel.trans (hbl.mono hbel.size)).alloc (Nat.le_trans hbel.size hbl.size) _).alloc (by have h1 := hbel.size; have h2 := hbl.size; simp; omega) _).grown hgrow (by have h1 := hbel.size; have h2 := hbl.size; simp; omega) (own_ge hown))
            have hq1 : yaw s false p < q := by omega
            have hq2 : q ≤ s.size := by omega
            have hs2 := yfj s false q hq2
            have HR : Hid (ydh s = ydn s (out ++ [⟨k, yaw s false p, q, v⟩]) q) := by rw [hq]; exact hrest.out.trans (restScan_tok s out p k n v hlt (by omega) HT.out)
            have HO : w'.ownsRow w.heap.size 39 4 v' (out ++ [(⟨k, yaw s false p, q, v⟩ : Tok)]).length (ycw (out ++ [⟨k, yaw s false p, q, v⟩])) := by
              rw [tokCells_snoc, List.length_append]; rw [hq]; exact hown'
            clear hown' hgrow hq
            go_wp2_with (go_at_call 9; refine (rblanks_any s q _ (by omega) hq2).mono ?_; rintro e w' ⟨rfl, rfl⟩)
            exact ⟨⟨q, _, hq2, rfl, by rw [List.length_append]; simp; omega, HR, HO, hb'⟩, by simp [intOf]; omega⟩
          · go_ret3
            exact ⟨(hbel.trans (hbl.mono hbel.size)).alloc (Nat.le_trans hbel.size hbl.size) _, .inr ⟨yaw s false p, x, by rw [hrest.out, restScan_err s out p x hlt (by omega) HT.out], hb.2, hx1, hx2, rfl⟩⟩
      · go_wp2
        go_ret3
        exact ⟨hbel, .inl ⟨out, u5, by rw [hrest.out, restScan_end s out p (by omega)], hout, rfl, hown⟩⟩
end Go.Proofs.YtcpgpiabeimefaaDoor
set_option maxRecDepth 100000
namespace Go.Proofs.YtcpgpiabeimefaaDoor
open Go.RowKit

def Toks (w : World) (v : Value) (ts : List Tok) : Prop :=
  ∃ a cap, v = .slice a ts.length cap ∧ ts.length ≤ cap ∧ cap ≤ maxLen ∧
    (ts = [] ∨ ∃ g o, a = some ⟨g, o, none⟩ ∧ g < w.heap.size ∧ ∀ i t, ts[i]? = some t →
      w.cell? ⟨g, o + i * 4, none⟩ = some (.int .i64 t.kind) ∧ w.cell? ⟨g, o + i * 4 + 1, none⟩ = some (.int .i64 t.from_) ∧
      w.cell? ⟨g, o + i * 4 + 2, none⟩ = some (.int .i64 t.to) ∧ w.cell? ⟨g, o + i * 4 + 3, none⟩ = some (.int .i64 t.num))

theorem tokCells_get (ts : List Tok) : ∀ (i : Nat) (t : Tok), ts[i]? = some t →
    (ycw ts)[i * 4]? = some (.int .i64 t.kind) ∧ (ycw ts)[i * 4 + 1]? = some (.int .i64 t.from_) ∧ (ycw ts)[i * 4 + 2]? = some (.int .i64 t.to) ∧ (ycw ts)[i * 4 + 3]? = some (.int .i64 t.num) := by
  induction ts with
  | nil => intro i t h; simp at h
  | cons x ts ih =>
    intro i t h
    have e : ycw (x :: ts) = .int .i64 x.kind :: .int .i64 x.from_ :: .int .i64 x.to :: .int .i64 x.num :: ycw ts := by simp [ycw]
    rw [e]
    cases i with
    | zero => simp at h; subst h; simp
    | succ i =>
      have := ih i t (by simpa using h)
      rw [show (i + 1) * 4 = i * 4 + 1 + 1 + 1 + 1 by omega]
      simp only [List.getElem?_cons_succ]
      exact this

theorem toks_of_own {w : World} {B : Nat} {v : Value} {ts : List Tok} (h : w.ownsRow B 39 4 v ts.length (ycw ts)) : Toks w v ts := by
  obtain ⟨h1, h2⟩ := h
  rcases h2 with ⟨rfl, h2⟩ | ⟨g, cap, cur, hv, hg, hh, hle, hcap, hcs, htk⟩
  · exact ⟨none, 0, by rw [h2], by omega, by simp [maxLen], .inl (List.length_eq_zero_iff.1 h2)⟩
  · refine ⟨some ⟨g, 0, none⟩, cap, hv, hle, hcap, .inr ⟨g, 0, rfl, ?_, fun i t ht => ?_⟩⟩
    · rcases Nat.lt_or_ge g w.heap.size with h | h
      · exact h
      · simp [Array.getElem?_eq_none h] at hh
    · have hcell : ∀ j u, (ycw ts)[j]? = some u → w.cell? ⟨g, j, none⟩ = some u := by
        intro j u hu
        have hj : (cur.toList.take (ts.length * 4))[j]? = some u := by rw [htk]; exact hu
        rw [List.getElem?_take] at hj
        unfold World.cell?
        simp only [hh]
        split at hj
        · simpa using hj
        · cases hj
      obtain ⟨c0, c1, c2, c3⟩ := tokCells_get ts i t ht
      simp only [Nat.zero_add]
      exact ⟨hcell _ _ c0, hcell _ _ c1, hcell _ _ c2, hcell _ _ c3⟩

end Go.Proofs.YtcpgpiabeimefaaDoor
set_option maxRecDepth 100000
namespace Go.Proofs.YtcpgpiabeimefaaDoor
open Go.RowKit

theorem scan_len (left : Nat) : ∀ (p : Nat) (r : List UInt8) (ts : List Tok), ydc left p r = .ok ts → ts.length ≤ left := by
  induction left with
  | zero =>
    intro p r ts h
    rw [ydc] at h
    split at h <;> simp at h
    subst h; simp
  | succ left ih =>
    intro p r ts h
    rw [ydc] at h
    split at h
    · simp at h; subst h; simp
    · split at h
      · simp at h
      · rename_i k n v _
        generalize hq : ydc left (p + ybo false r + n) ((r.drop (ybo false r)).drop n) = q at h
        cases q with
        | error e => simp [consTok] at h
        | ok us =>
          simp [consTok] at h
          subst h
          have := ih _ _ _ hq
          simp; omega
theorem scanF_len {s : ByteArray} {ts : List Tok} (h : ydh s = .ok ts) : ts.length ≤ 4096 := by
  unfold ydh at h
  split at h
  · simp at h
  · exact scan_len _ _ _ _ h

end Go.Proofs.YtcpgpiabeimefaaDoor
set_option maxRecDepth 100000
namespace Go.Proofs.YtcpgpiabeimefaaDoor
open Go.RowKit

theorem end_at (v : Value) (l : List Tm) (k : Nat) (w : World) (hl : l.length ≤ 1000) (hv : Hid (Terms w v l)) (_hk : k ≤ 1000) :
    Calls Tryd.prog 37 #[v, .int .i64 k] w fun e w' => e = .returned (.int .i64 (endR 1 k l)) ∧ w = w' := by
  by_cases h : k < l.length
  · exact end_any_in v l k w hl hv h
  · obtain ⟨a, cap, rfl, h1, h2, _⟩ := hv.out.open
    have H := Lib.hid (endR_none 1 k l (by omega) (by omega))
    go_enter Tryd.func37, Tryd.ntmps37
    go_wp2
    go_ret
    exact ⟨yav H.out.symm, rfl⟩
theorem end_one (l : List Tm) : endR 1 0 l = l.length ↔ ∃ E, yfr l = some E := by
  rw [parse_iff]
  unfold endR
  rw [List.drop_zero]
  cases h : endN 1 l with
  | none => simp
  | some n => simp; omega

theorem depth1_any (op : Int) (g : Nat) (w : World) (hg : g ≤ 1000) : Calls Tryd.prog 60 #[.int .i64 op, .int .i64 g] w fun e w' => e = .returned (.int .i64 (yeu op g : Nat)) ∧ w = w' := by
  go_enter Tryd.func60, Tryd.ntmps60
  go_wp2
  go_ret
  exact ⟨yav (by unfold yeu; omega), rfl⟩
theorem nest1_any (op : Int) (g : Nat) (w : World) (hg : g ≤ 1000) : Calls Tryd.prog 61 #[.int .i64 op, .int .i64 g] w fun e w' => e = .returned (.int .i64 (nestF op g : Nat)) ∧ w = w' := by
  cases ha : aggB op
  all_goals
    go_enter Tryd.func61, Tryd.ntmps61
    go_wp2_with (go_at_call 62; refine (aggregate_any _ _).mono ?_; rintro e w' ⟨rfl, rfl⟩)
    go_ret
    exact ⟨yav (by unfold nestF; rw [ha]; simp), rfl⟩

theorem lev_bd (f : Int → Nat → Nat) (hf : ∀ op g, f op g ≤ g + 1) (l : List Tm) : ∀ x ∈ lev f l, x ≤ l.length := by
  have hm : ∀ (xs : List Nat) (b : Nat), (∀ x ∈ xs, x ≤ b) → maxl xs ≤ b := by
    intro xs b
    induction xs with
    | nil => intro _; simp [maxl]
    | cons a xs ih =>
      intro h
      have h1 := h a (List.mem_cons_self ..)
      have h2 := ih (fun x hx => h x (List.mem_cons_of_mem _ hx))
      simp only [maxl]; omega
  induction l with
  | nil => intro x hx; simp [lev] at hx
  | cons t l ih =>
    intro x hx
    simp only [lev] at hx
    cases hx with
    | head =>
      have h1 := hm ((lev f l).take (ar t.1).toNat) l.length (fun x hx => ih x (List.mem_of_mem_take hx))
      have h2 := hf t.1 (maxl ((lev f l).take (ar t.1).toNat))
      simp only [List.length_cons]; omega
    | tail _ hx => have := ih x (List.mem_of_mem_drop hx); simp only [List.length_cons]; omega
theorem lev_len (f : Int → Nat → Nat) (l : List Tm) : (lev f l).length ≤ l.length := by
  induction l with
  | nil => simp [lev]
  | cons t l ih => simp only [lev, List.length_cons, List.length_drop]; omega
theorem maxl_append (xs ys : List Nat) : maxl (xs ++ ys) = max (maxl xs) (maxl ys) := by
  induction xs with
  | nil => simp [maxl]
  | cons a xs ih => simp only [List.cons_append, maxl, ih]; omega
theorem maxl_reverse (xs : List Nat) : maxl xs.reverse = maxl xs := by
  induction xs with
  | nil => rfl
  | cons a xs ih => rw [List.reverse_cons, maxl_append, ih]; simp only [maxl]; omega
theorem maxl_take_succ (xs : List Nat) (q : Nat) (x : Nat) (h : xs[q]? = some x) : maxl (xs.take (q + 1)) = max (maxl (xs.take q)) x := by
  obtain ⟨h1, h2⟩ := List.getElem?_eq_some_iff.1 h
  rw [List.take_succ_eq_append_getElem h1, maxl_append, h2]; simp [maxl]

def yds (xs : List Nat) : List Value := xs.map fun (n : Nat) => Value.int .i64 n
theorem natCells_get (xs : List Nat) (i x : Nat) (h : xs[i]? = some x) : (yds xs)[i]? = some (.int .i64 x) := by unfold yds; rw [List.getElem?_map, h]; rfl
theorem natCells_length (xs : List Nat) : (yds xs).length = xs.length := by simp [yds]
theorem natCells_append (xs ys : List Nat) : yds (xs ++ ys) = yds xs ++ yds ys := by simp [yds]
theorem own_take {w : World} {B e cap n m : Nat} {a : Option Addr} {xs ys : List Value} (hm : ys.length = m)
    (h : w.ownsRow B e 1 (.slice a n cap) n (ys ++ xs)) : w.ownsRow B e 1 (.slice a m cap) m ys := by
  obtain ⟨h1, h2⟩ := h
  refine ⟨by omega, ?_⟩
  rw [List.length_append] at h1
  rcases h2 with ⟨h0, h3⟩ | ⟨g', cap', cur, hv, hg, hh, hn, hcap, hsz, htake⟩
  · cases h0
    exact .inl ⟨by rw [show m = 0 by omega], by omega⟩
  · cases hv
    refine .inr ⟨g', cap, cur, rfl, hg, hh, by omega, hcap, hsz, ?_⟩
    have h4 := congrArg (List.take m) htake
    rw [List.take_take, Nat.min_eq_left (by omega), ← hm, List.take_append_of_le_length (Nat.le_refl _), List.take_length] at h4
    rw [Nat.mul_one, ← hm]; exact h4

theorem slice_tail {P : Program} {t : TypeId} (ht : P.underlying t = some (.slice (P.elem t))) (hs : ∀ w, (sizeOf (P.elem t)).run P w = .ok 1 w) (a : Option Addr) (n cap r m : Nat) (i : Int) (hi : i = r) (h : m + r = n) (hc : n ≤ cap) :
    ∃ sb capb, (∀ w, (Instr.slice t (.slice a n cap) (some (.int .i64 i)) none none).run P w = .ok (.slice sb m capb) w) ∧ m ≤ capb ∧ capb ≤ cap ∧ (∀ g o, a = some ⟨g, o, none⟩ → 0 < m → sb = some ⟨g, o + r, none⟩) := by
  subst hi
  refine ⟨if cap = r then a else a.map (·.add (r * 1)), cap - r, fun w => ?_, by omega, by omega, fun g o ha hr => ?_⟩
  · rw [run_slice_l w t a n cap ht .i64 r (by omega) (by omega), hs]
    show Result.ok (sliced a r n cap 1) w = _
    unfold sliced
    rw [show n - r = m by omega]
  · rw [if_neg (by omega), ha]
    simp only [Option.map_some, Nat.mul_one, Addr.add]
    split
    · simp_all
    · rfl
theorem slice_head {P : Program} {t : TypeId} (ht : P.underlying t = some (.slice (P.elem t))) (hs : ∀ w, (sizeOf (P.elem t)).run P w = .ok 1 w) (a : Option Addr) (n cap r : Nat) (i : Int) (hi : i = r) (h : r ≤ cap) :
    ∀ w, (Instr.slice t (.slice a n cap) none (some (.int .i64 i)) none).run P w = .ok (.slice a r cap) w := by
  subst hi
  intro w
  rw [run_slice_h w t a n cap ht .i64 r (by omega) (by omega), hs]
  show Result.ok (sliced a 0 r cap 1) w = _
  unfold sliced
  by_cases h0 : cap = 0
  · rw [if_pos h0]; rfl
  · rw [if_neg h0]
    cases a <;> simp [Addr.add]
theorem own_first {w : World} {B e : Nat} {v x : Value} (h : w.ownsRow B e 1 v 1 [x]) : ∃ g cap, v = .slice (some ⟨g, 0, none⟩) 1 cap ∧ 1 ≤ cap ∧ cap ≤ 9223372036854775807 ∧ w.cell? ⟨g, 0, none⟩ = some x := by
  have h5 := h
  obtain ⟨h1, h2⟩ := h
  rcases h2 with ⟨h0, h3⟩ | ⟨g, cap, cur, rfl, hg, hh, hn, hcap, hsz, htake⟩
  · omega
  · unfold maxLen at hcap
    have hc := h5.cells (g := g) rfl 0 x rfl
    exact ⟨g, cap, rfl, hn, by omega, by simpa [Addr.add] using hc⟩
theorem own_cells {w : World} {B e n cap : Nat} {a : Option Addr} {xs : List Value} (h : w.ownsRow B e 1 (.slice a n cap) n xs) : n ≤ cap ∧ cap ≤ 9223372036854775807 ∧ (0 < n → ∃ g, a = some ⟨g, 0, none⟩ ∧ ∀ j u, xs[j]? = some u → w.cell? ⟨g, j, none⟩ = some u) := by
  obtain ⟨a', cap', hv, h1, h2, h3, h4⟩ := (row_of_own h).open
  cases hv
  refine ⟨h1, h2, fun hn => ?_⟩
  rcases h.2 with ⟨h0, h5⟩ | ⟨g, cap, cur, hv, hg, hh, hn', hcap, hsz, htake⟩
  · omega
  · cases hv
    refine ⟨g, rfl, fun j u hu => ?_⟩
    have hc := h.cells (g := g) rfl j u hu
    have h0 : (⟨g, 0, none⟩ : Addr).add j = ⟨g, j, none⟩ := by unfold Addr.add; split <;> simp_all
    rw [h0] at hc; exact hc
theorem lev_round (f : Int → Nat → Nat) (l : List Tm) (E : Ex) (hf : ydi l = some [E]) (j : Nat) (hj : j < l.length) :
    0 ≤ ar l[j].1 ∧ ∃ lo seg : List Nat, (lev f (l.drop (j + 1))).reverse = lo ++ seg ∧ (seg.length : Int) = ar l[j].1 ∧ (lev f (l.drop j)).reverse = lo ++ [f l[j].1 (maxl seg)] := by
  obtain ⟨G', hG'⟩ := forest_suffix l j _ hf
  rw [List.drop_eq_getElem_cons hj] at hG'
  obtain ⟨G, hG, h0, hle, _⟩ := forest_enough _ _ _ hG'
  have hlen : (lev f (l.drop (j + 1))).length = G.length := by rw [lev_forest f _ G hG, List.length_map]
  refine ⟨h0, ((lev f (l.drop (j + 1))).drop (ar l[j].1).toNat).reverse, ((lev f (l.drop (j + 1))).take (ar l[j].1).toNat).reverse, ?_, ?_, ?_⟩
  · rw [← List.reverse_append, List.take_append_drop]
  · rw [List.length_reverse, List.length_take, hlen]; omega
  · rw [List.drop_eq_getElem_cons hj]
    simp only [lev, List.reverse_cons, maxl_reverse]
theorem infoInt : (Tryd.prog.info? 3).map (fun i => (i.zero, i.size, i.bytes)) = some (some (.int .i64 0), 1, 8) := by kernel_rfl
theorem sizeInt (w : World) : (sizeOf (Tryd.prog.elem 94)).run Tryd.prog w = .ok 1 w := by kernel_rfl
theorem underInts : Tryd.prog.underlying 94 = some (.slice (Tryd.prog.elem 94)) := by kernel_rfl

set_option maxHeartbeats 4000000 in
theorem levels_depth (v : Value) (l : List Tm) (E : Ex) (w : World) (hl : l.length ≤ 1000) (hv : Hid (Terms w v l)) (hp : Hid (yfr l = some E)) :
    Calls Tryd.prog 59 #[v, .func (.func 60) #[] #[]] w fun e w' => e = .returned (.tuple #[.int .i64 (val yeu E : Nat), .bool true]) ∧ Below w.heap.size w w' := by
  obtain ⟨i0, hi, hz0, hz1, hz2⟩ := info_parts infoInt
  have Hi := Lib.hid hi
  have Hz0 := Lib.hid hz0
  have Hz1 := Lib.hid hz1
  have Hz2 := Lib.hid hz2
  clear hi hz0 hz1 hz2
  obtain ⟨hok, hfl⟩ := parse_some hp.out
  have HF : Hid (ydi l = some [E]) := by rw [← hfl]; have := forest_fl E hok [] [] rfl; rw [List.append_nil] at this; exact this
  have hpos : 0 < l.length := by rw [← hfl]; exact E.fl_pos
  have HE := Lib.hid ((end_one l).2 ⟨E, hp.out⟩)
  have hne : (endR 1 0 l != (l.length : Int)) = false := by rw [HE.out]; simp
  clear hok hfl
  obtain ⟨a0, cap0, rfl, h1, h2, h3⟩ := hv.out.open
  obtain ⟨g0, o0, rfl, hg0, hc⟩ := h3 hpos
  have HC := Lib.hid hc
  clear h3 hc
  go_enter Tryd.func59, Tryd.ntmps59
  go_wp2_with (go_at_call 37; refine (end_at _ l 0 _ hl hv (by omega)).mono ?_; rintro e w' ⟨rfl, rfl⟩)
  go_loopg [6, 7, 8, 9, 11] l.length (fun m st i _ _ _ wr => m ≤ l.length ∧ i = .int .i64 ((m : Int) - 1) ∧ wr.ownsRow w.heap.size 3 1 st (lev yeu (l.drop m)).length (yds (lev yeu (l.drop m)).reverse) ∧ Below w.heap.size w wr)
  case atStart =>
    refine ⟨Nat.le_refl _, rfl, ?_, Below.refl _ _⟩
    rw [List.drop_length]; exact World.ownsRow_nil _ _ _ _
  case round =>
    obtain ⟨hm, rfl, hown, hbel⟩ := hrel
    by_cases h0 : gk = 0
    · subst h0
      rw [List.drop_zero, lev_forest yeu l [E] HF.out] at hown
      obtain ⟨g, cap, rfl, hc1, hc2, hcell⟩ := own_first hown
      go_wp2_with fail
      go_ret2
      exact ⟨rfl, hbel⟩
    · obtain ⟨j, rfl⟩ : ∃ j, gk = j + 1 := ⟨gk - 1, by omega⟩
      have hj : j < l.length := by omega
      obtain ⟨ha0, lo, seg, hr1, hr2, hr3⟩ := lev_round yeu l E HF.out j hj
      have hlen : (lev yeu (l.drop (j + 1))).length = lo.length + seg.length := by rw [← List.length_reverse, hr1, List.length_append]
      have hsegb : maxl seg ≤ 1000 := by
        have h1 := lev_bd yeu (by intro op g; simp only [yeu]; first | omega | (split <;> omega)) (l.drop (j + 1))
        have h2 : ∀ (xs : List Nat) (b : Nat), (∀ x ∈ xs, x ≤ b) → maxl xs ≤ b := by
          intro xs b
          induction xs with
          | nil => intro _; simp [maxl]
          | cons a xs ih =>
            intro h
            have h1 := h a (List.mem_cons_self ..)
            have h2 := ih (fun x hx => h x (List.mem_cons_of_mem _ hx))
            simp only [maxl]; omega
        refine Nat.le_trans (h2 seg (l.drop (j + 1)).length fun x hx => h1 x ?_) (by rw [List.length_drop]; omega)
        rw [← List.mem_reverse, hr1]; exact List.mem_append_right _ hx
      have e1 : ((j + 1 : Nat) : Int) - 1 = j := by omega
      rw [e1]
      rw [hr1, hlen] at hown
      have H3 := Lib.hid hr3
      obtain ⟨sa, scap, rfl⟩ := own_shape hown
      obtain ⟨hn1, hn2, hn3⟩ := own_cells hown
      obtain ⟨sb, capb, hsl, hb1, hb2, hb3⟩ := slice_tail underInts sizeInt sa (lo.length + seg.length) scap lo.length seg.length (((lo.length + seg.length : Nat) : Int) - ar l[j].1) (by omega) (by omega) hn1
      have hsl2 := slice_head underInts sizeInt sa (lo.length + seg.length) scap lo.length (((lo.length + seg.length : Nat) : Int) - ar l[j].1) (by omega) (by omega)
      obtain ⟨c0, c1⟩ := HC.out j _ (List.getElem?_eq_getElem hj)
      rw [← hbel.cell (p := ⟨g0, _, none⟩) hg0] at c0 c1
      have HR2 := Lib.hid hr2
      have hra : ar l[j].1 ≤ ((lo.length + seg.length : Nat) : Int) := by omega
      have hlo : lo.length + seg.length ≤ 1000 := by have h1 := lev_len yeu (l.drop (j + 1)); rw [List.length_drop] at h1; omega
      have hnpos : (0 < seg.length → 0 < lo.length + seg.length) := by omega
      have hlo2 : lo.length ≤ scap := by omega
      have hlo3 : lo.length ≤ 1000 := by omega
      generalize hN : lo.length + seg.length = n at *
      have HN := Lib.hid hN
      clear hN
      clear hr1 hr2 hr3 hlen e1 h0
      go_wp2_with (go_at_call 58; refine (arity_any _ _).mono ?_; rintro e w' ⟨rfl, rfl⟩)
      go_loop [9, 11, 37] (fun gr _ q => ∃ k : Nat, k ≤ seg.length ∧ q = .int .i64 k ∧ gr = .int .i64 (maxl (seg.take k) : Nat)) (fun _ _ q => seg.length - (intOf q).toNat)
      case atStart => exact ⟨0, by omega, rfl, rfl⟩
      case round =>
        obtain ⟨k, hk, rfl, rfl⟩ := hrel
        by_cases hq : k < seg.length
        · obtain ⟨g, rfl, hcs⟩ := hn3 (by have := HN.out; omega)
          obtain rfl := hb3 g 0 rfl (by omega)
          obtain ⟨x, hx⟩ : ∃ x, seg[k]? = some x := ⟨seg[k], List.getElem?_eq_getElem hq⟩
          have hcell := hcs (lo.length + k) _ (natCells_get (lo ++ seg) (lo.length + k) x (by rw [List.getElem?_append_right (by omega), Nat.add_sub_cancel_left]; exact hx))
          have HM := Lib.hid (maxl_take_succ seg k x hx)
          clear hcs hx
          simp only [Nat.zero_add]
          generalize maxl (seg.take k) = mk at *
          go_wp2_with fail
          refine ⟨⟨k + 1, by omega, by go_num, ?_⟩, by simp [intOf]; omega⟩
          rw [HM.out]
          congr 1
          split <;> omega
        · obtain rfl : k = seg.length := by omega
          rw [List.take_length]
          go_wp2_with fail
          have hown' : wr.ownsRow w.heap.size 3 1 (.slice sa lo.length scap) lo.length (yds lo) := own_take (natCells_length lo) (by rw [natCells_append] at hown; exact hown)
          go_region_law (first | (go_simp; go_at_call 60; refine (depth1_any _ _ _ hsegb).mono ?_; rintro e w' ⟨rfl, rfl⟩; dsimp only) | (refine step_append_lies _ rfl (.tmp 47) (.tmp 56) 94 rfl w.heap.size 3 i0 (.int .i64 0) 1 8 Tryd.underlying94 Hi.out Hz0.out Hz1.out Hz2.out rfl (by decide) _ _ _ rfl (by exact own_below hown' (by repeat (first | exact Below.refl _ _ | apply Below.drew | refine Below.alloc ?_ (by simp) _))) ⟨wr.heap.size, 0, none⟩ 1 1 [.int .i64 (yeu l[j].1 (maxl seg) : Nat)] rfl rfl (by exact new_cells _ _ _ _ (by simp)) (by simp [Value.oneCell']) (by decide) (by unfold maxLen; omega) (by omega) (by have := hbel.size; simp; omega) _ rfl ?_; intro g2 cap2 w2 hown2 hgrow2 _ _))
          have HO : w2.ownsRow w.heap.size 3 1 (.slice (some ⟨g2, 0, none⟩) (lo.length + 1) cap2) (lev yeu (l.drop j)).length (yds (lev yeu (l.drop j)).reverse) := by
            have e5 := congrArg List.length H3.out
            rw [List.length_reverse, List.length_append] at e5
            rw [e5, H3.out, natCells_append]; exact hown2
          have HB : Below w.heap.size w w2 := Below.grown (by repeat (first | exact hbel | apply Below.drew | refine Below.alloc ?_ (by have := hbel.size; simp; omega) _)) hgrow2 (by have := hbel.size; simp; omega) (own_ge hown')
          clear hown2 hgrow2 hown'
          go_wp2_with fail
          go_roundg j
          case measure => omega
          case rel => exact ⟨by omega, by go_num, HO, HB⟩

set_option maxHeartbeats 4000000 in
theorem levels_nest (v : Value) (l : List Tm) (E : Ex) (w : World) (hl : l.length ≤ 1000) (hv : Hid (Terms w v l)) (hp : Hid (yfr l = some E)) :
    Calls Tryd.prog 59 #[v, .func (.func 61) #[] #[]] w fun e w' => e = .returned (.tuple #[.int .i64 (val nestF E : Nat), .bool true]) ∧ Below w.heap.size w w' := by
  obtain ⟨i0, hi, hz0, hz1, hz2⟩ := info_parts infoInt
  have Hi := Lib.hid hi
  have Hz0 := Lib.hid hz0
  have Hz1 := Lib.hid hz1
  have Hz2 := Lib.hid hz2
  clear hi hz0 hz1 hz2
  obtain ⟨hok, hfl⟩ := parse_some hp.out
  have HF : Hid (ydi l = some [E]) := by rw [← hfl]; have := forest_fl E hok [] [] rfl; rw [List.append_nil] at this; exact this
  have hpos : 0 < l.length := by rw [← hfl]; exact E.fl_pos
  have HE := Lib.hid ((end_one l).2 ⟨E, hp.out⟩)
  have hne : (endR 1 0 l != (l.length : Int)) = false := by rw [HE.out]; simp
  clear hok hfl
  obtain ⟨a0, cap0, rfl, h1, h2, h3⟩ := hv.out.open
  obtain ⟨g0, o0, rfl, hg0, hc⟩ := h3 hpos
  have HC := Lib.hid hc
  clear h3 hc
  go_enter Tryd.func59, Tryd.ntmps59
  go_wp2_with (go_at_call 37; refine (end_at _ l 0 _ hl hv (by omega)).mono ?_; rintro e w' ⟨rfl, rfl⟩)
  go_loopg [6, 7, 8, 9, 11] l.length (fun m st i _ _ _ wr => m ≤ l.length ∧ i = .int .i64 ((m : Int) - 1) ∧ wr.ownsRow w.heap.size 3 1 st (lev nestF (l.drop m)).length (yds (lev nestF (l.drop m)).reverse) ∧ Below w.heap.size w wr)
  case atStart =>
    refine ⟨Nat.le_refl _, rfl, ?_, Below.refl _ _⟩
    rw [List.drop_length]; exact World.ownsRow_nil _ _ _ _
  case round =>
    obtain ⟨hm, rfl, hown, hbel⟩ := hrel
    by_cases h0 : gk = 0
    · subst h0
      rw [List.drop_zero, lev_forest nestF l [E] HF.out] at hown
      obtain ⟨g, cap, rfl, hc1, hc2, hcell⟩ := own_first hown
      go_wp2_with fail
      go_ret2
      exact ⟨rfl, hbel⟩
    · obtain ⟨j, rfl⟩ : ∃ j, gk = j + 1 := ⟨gk - 1, by omega⟩
      have hj : j < l.length := by omega
      obtain ⟨ha0, lo, seg, hr1, hr2, hr3⟩ := lev_round nestF l E HF.out j hj
      have hlen : (lev nestF (l.drop (j + 1))).length = lo.length + seg.length := by rw [← List.length_reverse, hr1, List.length_append]
      have hsegb : maxl seg ≤ 1000 := by
        have h1 := lev_bd nestF (by intro op g; simp only [nestF]; first | omega | (split <;> omega)) (l.drop (j + 1))
        have h2 : ∀ (xs : List Nat) (b : Nat), (∀ x ∈ xs, x ≤ b) → maxl xs ≤ b := by
          intro xs b
          induction xs with
          | nil => intro _; simp [maxl]
          | cons a xs ih =>
            intro h
            have h1 := h a (List.mem_cons_self ..)
            have h2 := ih (fun x hx => h x (List.mem_cons_of_mem _ hx))
            simp only [maxl]; omega
        refine Nat.le_trans (h2 seg (l.drop (j + 1)).length fun x hx => h1 x ?_) (by rw [List.length_drop]; omega)
        rw [← List.mem_reverse, hr1]; exact List.mem_append_right _ hx
      have e1 : ((j + 1 : Nat) : Int) - 1 = j := by omega
      rw [e1]
      rw [hr1, hlen] at hown
      have H3 := Lib.hid hr3
      obtain ⟨sa, scap, rfl⟩ := own_shape hown
      obtain ⟨hn1, hn2, hn3⟩ := own_cells hown
      obtain ⟨sb, capb, hsl, hb1, hb2, hb3⟩ := slice_tail underInts sizeInt sa (lo.length + seg.length) scap lo.length seg.length (((lo.length + seg.length : Nat) : Int) - ar l[j].1) (by omega) (by omega) hn1
      have hsl2 := slice_head underInts sizeInt sa (lo.length + seg.length) scap lo.length (((lo.length + seg.length : Nat) : Int) - ar l[j].1) (by omega) (by omega)
      obtain ⟨c0, c1⟩ := HC.out j _ (List.getElem?_eq_getElem hj)
      rw [← hbel.cell (p := ⟨g0, _, none⟩) hg0] at c0 c1
      have HR2 := Lib.hid hr2
      have hra : ar l[j].1 ≤ ((lo.length + seg.length : Nat) : Int) := by omega
      have hlo : lo.length + seg.length ≤ 1000 := by have h1 := lev_len nestF (l.drop (j + 1)); rw [List.length_drop] at h1; omega
      have hnpos : (0 < seg.length → 0 < lo.length + seg.length) := by omega
      have hlo2 : lo.length ≤ scap := by omega
      have hlo3 : lo.length ≤ 1000 := by omega
      generalize hN : lo.length + seg.length = n at *
      have HN := Lib.hid hN
      clear hN
      clear hr1 hr2 hr3 hlen e1 h0
      go_wp2_with (go_at_call 58; refine (arity_any _ _).mono ?_; rintro e w' ⟨rfl, rfl⟩)
      go_loop [9, 11, 37] (fun gr _ q => ∃ k : Nat, k ≤ seg.length ∧ q = .int .i64 k ∧ gr = .int .i64 (maxl (seg.take k) : Nat)) (fun _ _ q => seg.length - (intOf q).toNat)
      case atStart => exact ⟨0, by omega, rfl, rfl⟩
      case round =>
        obtain ⟨k, hk, rfl, rfl⟩ := hrel
        by_cases hq : k < seg.length
        · obtain ⟨g, rfl, hcs⟩ := hn3 (by have := HN.out; omega)
          obtain rfl := hb3 g 0 rfl (by omega)
          obtain ⟨x, hx⟩ : ∃ x, seg[k]? = some x := ⟨seg[k], List.getElem?_eq_getElem hq⟩
          have hcell := hcs (lo.length + k) _ (natCells_get (lo ++ seg) (lo.length + k) x (by rw [List.getElem?_append_right (by omega), Nat.add_sub_cancel_left]; exact hx))
          have HM := Lib.hid (maxl_take_succ seg k x hx)
          clear hcs hx
          simp only [Nat.zero_add]
          generalize maxl (seg.take k) = mk at *
          go_wp2_with fail
          refine ⟨⟨k + 1, by omega, by go_num, ?_⟩, by simp [intOf]; omega⟩
          rw [HM.out]
          congr 1
          split <;> omega
        · obtain rfl : k = seg.length := by omega
          rw [List.take_length]
          go_wp2_with fail
          have hown' : wr.ownsRow w.heap.size 3 1 (.slice sa lo.length scap) lo.length (yds lo) := own_take (natCells_length lo) (by rw [natCells_append] at hown; exact hown)
          go_region_law (first | (go_simp; go_at_call 61; refine (nest1_any _ _ _ hsegb).mono ?_; rintro e w' ⟨rfl, rfl⟩; dsimp only) | (refine step_append_lies _ rfl (.tmp 47) (.tmp 56) 94 rfl w.heap.size 3 i0 (.int .i64 0) 1 8 Tryd.underlying94 Hi.out Hz0.out Hz1.out Hz2.out rfl (by decide) _ _ _ rfl (by exact own_below hown' (by repeat (first | exact Below.refl _ _ | apply Below.drew | refine Below.alloc ?_ (by simp) _))) ⟨wr.heap.size, 0, none⟩ 1 1 [.int .i64 (nestF l[j].1 (maxl seg) : Nat)] rfl rfl (by exact new_cells _ _ _ _ (by simp)) (by simp [Value.oneCell']) (by decide) (by unfold maxLen; omega) (by omega) (by have := hbel.size; simp; omega) _ rfl ?_; intro g2 cap2 w2 hown2 hgrow2 _ _))
          have HO : w2.ownsRow w.heap.size 3 1 (.slice (some ⟨g2, 0, none⟩) (lo.length + 1) cap2) (lev nestF (l.drop j)).length (yds (lev nestF (l.drop j)).reverse) := by
            have e5 := congrArg List.length H3.out
            rw [List.length_reverse, List.length_append] at e5
            rw [e5, H3.out, natCells_append]; exact hown2
          have HB : Below w.heap.size w w2 := Below.grown (by repeat (first | exact hbel | apply Below.drew | refine Below.alloc ?_ (by have := hbel.size; simp; omega) _)) hgrow2 (by have := hbel.size; simp; omega) (own_ge hown')
          clear hown2 hgrow2 hown'
          go_wp2_with fail
          go_roundg j
          case measure => omega
          case rel => exact ⟨by omega, by go_num, HO, HB⟩

theorem levels_none (v fv : Value) (l : List Tm) (w : World) (hl : l.length ≤ 1000) (hv : Hid (Terms w v l)) (hp : Hid (yfr l = none)) :
    Calls Tryd.prog 59 #[v, fv] w fun e w' => e = .returned (.tuple #[.int .i64 0, .bool false]) ∧ w = w' := by
  have hne : (endR 1 0 l != (l.length : Int)) = true := by
    rw [bne_iff_ne]
    intro h
    obtain ⟨E, hE⟩ := (end_one l).1 h
    rw [hp.out] at hE; cases hE
  obtain ⟨a0, cap0, rfl, h1, h2, h3⟩ := hv.out.open
  clear h3
  go_enter Tryd.func59, Tryd.ntmps59
  go_wp2_with (go_at_call 37; refine (end_at _ l 0 _ hl hv (by omega)).mono ?_; rintro e w' ⟨rfl, rfl⟩)
  go_ret2
  exact ⟨rfl, rfl⟩
def depthV (l : List Tm) : Nat := match yfr l with | none => 0 | some E => E.dp
def nestV (l : List Tm) : Nat := match yfr l with | none => 0 | some E => E.ns
theorem depth_any (v : Value) (l : List Tm) (w : World) (hl : l.length ≤ 1000) (hv : Hid (Terms w v l)) :
    Calls Tryd.prog 39 #[v] w fun e w' => e = .returned (.int .i64 (depthV l)) ∧ Below w.heap.size w w' := by
  cases hp : yfr l with
  | none =>
    have H : Hid (depthV l = 0) := by unfold depthV; rw [hp]; rfl
    have HP := Lib.hid hp
    clear hp
    go_enter Tryd.func39, Tryd.ntmps39
    go_wp2_with (go_at_call 59; refine (levels_none _ _ l _ hl hv HP).mono ?_; rintro e w' ⟨rfl, rfl⟩)
    go_ret
    exact ⟨yav (by rw [H.out]; rfl), Below.refl _ _⟩
  | some E =>
    have H : Hid (depthV l = val yeu E) := by unfold depthV; rw [hp, val_depth]; rfl
    have HP := Lib.hid hp
    clear hp
    go_enter Tryd.func39, Tryd.ntmps39
    go_wp2_with (go_at_call 59; refine (levels_depth _ l E _ hl hv HP).mono ?_; rintro e w' ⟨rfl, hb⟩)
    go_ret
    exact ⟨yav (by rw [H.out]), hb⟩
theorem nest_any (v : Value) (l : List Tm) (w : World) (hl : l.length ≤ 1000) (hv : Hid (Terms w v l)) :
    Calls Tryd.prog 40 #[v] w fun e w' => e = .returned (.int .i64 (nestV l)) ∧ Below w.heap.size w w' := by
  cases hp : yfr l with
  | none =>
    have H : Hid (nestV l = 0) := by unfold nestV; rw [hp]; rfl
    have HP := Lib.hid hp
    clear hp
    go_enter Tryd.func40, Tryd.ntmps40
    go_wp2_with (go_at_call 59; refine (levels_none _ _ l _ hl hv HP).mono ?_; rintro e w' ⟨rfl, rfl⟩)
    go_ret
    exact ⟨yav (by rw [H.out]; rfl), Below.refl _ _⟩
  | some E =>
    have H : Hid (nestV l = val nestF E) := by unfold nestV; rw [hp, val_nest E (parse_some hp).1]; rfl
    have HP := Lib.hid hp
    clear hp
    go_enter Tryd.func40, Tryd.ntmps40
    go_wp2_with (go_at_call 59; refine (levels_nest _ l E _ hl hv HP).mono ?_; rintro e w' ⟨rfl, hb⟩)
    go_ret
    exact ⟨yav (by rw [H.out]), hb⟩
end Go.Proofs.YtcpgpiabeimefaaDoor
set_option maxRecDepth 100000
namespace Go.Proofs.YtcpgpiabeimefaaDoor
open Go.RowKit

theorem endNe (l : List Tm) (E : Ex) (h : yfr l = some E) : (endR 1 0 l != (l.length : Int)) = false ∧ (endR 1 0 l == (l.length : Int)) = true := by
  rw [(end_one l).2 ⟨E, h⟩]; simp
theorem endEq (l : List Tm) (h : yfr l = none) : (endR 1 0 l != (l.length : Int)) = true ∧ (endR 1 0 l == (l.length : Int)) = false := by
  have : endR 1 0 l ≠ (l.length : Int) := fun hq => by
    obtain ⟨E, hE⟩ := (end_one l).1 hq
    rw [h] at hE; cases hE
  simp [this]
theorem valid_none {l : List Tm} (vars : Int) (h : yfr l = none) : yep l vars = false := by unfold yep; rw [h]
theorem valid_long {l : List Tm} (vars : Int) (h : 200 < l.length) : yep l vars = false := by
  unfold yep
  cases yfr l with
  | none => rfl
  | some E => simp; omega
theorem valid_arg {l : List Tm} (vars : Int) (k : Nat) (hk : k < l.length) (h : argB vars l[k] = false) : yep l vars = false := by
  unfold yep
  cases yfr l with
  | none => rfl
  | some E =>
    have : l.all (argB vars) = false := by rw [List.all_eq_false]; exact ⟨l[k], List.getElem_mem hk, by simp [h]⟩
    simp only [this, Bool.false_and, Bool.and_false]
theorem valid_rest {l : List Tm} (vars : Int) (E : Ex) (hp : yfr l = some E) (h : l.length ≤ 200) (ha : (l.take l.length).all (argB vars) = true) : yep l vars = (decide (E.dp ≤ 24) && decide (E.ns ≤ 2)) := by
  rw [List.take_length] at ha
  unfold yep; rw [hp]; simp [ha, h]
theorem args_snoc (l : List Tm) (vars : Int) (k : Nat) (h : k < l.length) (ha : (l.take k).all (argB vars) = true) (hw : argB vars l[k] = true) : (l.take (k + 1)).all (argB vars) = true := by
  rw [List.take_succ_eq_append_getElem h, List.all_append, ha]; simp [hw]

set_option maxHeartbeats 2000000 in
theorem valid_any (v : Value) (l : List Tm) (vars : Int) (w : World) (hl : l.length ≤ 1000) (hv : Hid (Terms w v l)) :
    Calls Tryd.prog 18 #[v, .int .i64 vars] w fun e w' => e = .returned (.bool (yep l vars)) ∧ Below w.heap.size w w' := by
  obtain ⟨a0, cap0, rfl, h1, h2, h3⟩ := hv.out.open
  have HC := Lib.hid h3
  clear h3
  by_cases h200 : 200 < l.length
  · have H := Lib.hid (valid_long vars h200)
    go_enter Tryd.func18, Tryd.ntmps18
    go_wp2_with fail
    go_ret
    exact ⟨yay H.out.symm, Below.refl _ _⟩
  cases hp : yfr l with
  | none =>
    have H := Lib.hid (valid_none vars hp)
    obtain ⟨he, _⟩ := endEq l hp
    clear hp
    go_enter Tryd.func18, Tryd.ntmps18
    go_wp2_with (go_at_call 37; refine (end_at _ l 0 _ hl hv (by omega)).mono ?_; rintro e w' ⟨rfl, rfl⟩)
    go_ret
    exact ⟨yay H.out.symm, Below.refl _ _⟩
  | some E =>
    have HP := Lib.hid hp
    obtain ⟨he, _⟩ := endNe l E hp
    clear hp
    go_enter Tryd.func18, Tryd.ntmps18
    go_wp2_with (go_at_call 37; refine (end_at _ l 0 _ hl hv (by omega)).mono ?_; rintro e w' ⟨rfl, rfl⟩)
    go_loopw [6, 19] (fun _ i wr => ∃ k : Nat, k ≤ l.length ∧ i = .int .i64 k ∧ Hid ((l.take k).all (argB vars) = true) ∧ Below w.heap.size w wr) (fun _ i _ => l.length - (intOf i).toNat)
    case atStart => exact ⟨0, by omega, rfl, rfl, Below.refl _ _⟩
    case round =>
      obtain ⟨k, hk, rfl, ha, hbel⟩ := hrel
      by_cases hlt : k < l.length
      · obtain ⟨g, o, rfl, hg, hc⟩ := HC.out (by omega)
        obtain ⟨c0, c1⟩ := hc k _ (List.getElem?_eq_getElem hlt)
        rw [← hbel.cell (p := ⟨g, _, none⟩) hg] at c0 c1
        clear hc
        have hbs := hbel.size
        rcases Bool.eq_false_or_eq_true (argB vars l[k]) with hw | hw
        · have H := Lib.hid (args_snoc l vars k hlt ha.out hw)
          go_wp2_with (go_at_call 38; refine (argument_any l[k] vars _).mono ?_; rintro e w1 ⟨rfl, hb1⟩)
          exact ⟨⟨k + 1, by omega, by go_num, H, (hbel.alloc hbs _).trans (hb1.mono (by simp; omega))⟩, by simp [intOf]; omega⟩
        · have H := Lib.hid (valid_arg vars k hlt hw)
          go_wp2_with (go_at_call 38; refine (argument_any l[k] vars _).mono ?_; rintro e w1 ⟨rfl, hb1⟩)
          go_ret
          exact ⟨yay H.out.symm, (hbel.alloc hbs _).trans (hb1.mono (by simp; omega))⟩
      · obtain rfl : k = l.length := by omega
        have H := Lib.hid (valid_rest vars E HP.out (by omega) ha.out)
        have HD : Hid (depthV l = E.dp) := by unfold depthV; rw [HP.out]; rfl
        have HN : Hid (nestV l = E.ns) := by unfold nestV; rw [HP.out]; rfl
        by_cases hd : depthV l ≤ 24
        all_goals
          go_wp2_with (first | (go_at_call 39; refine (depth_any _ l _ hl (hv.out.below hbel)).mono ?_; rintro e w1 ⟨rfl, hb1⟩) | (go_at_call 40; refine (nest_any _ l _ hl (hv.out.below (bthen hbel hb1))).mono ?_; rintro e w2 ⟨rfl, hb2⟩))
          go_ret
        · refine ⟨yay ?_, bthen (bthen hbel hb1) hb2⟩
          rw [H.out, ← HD.out, ← HN.out]; simp [hd]; omega
        · refine ⟨yay ?_, bthen hbel hb1⟩
          rw [H.out, ← HD.out]; simp; omega

end Go.Proofs.YtcpgpiabeimefaaDoor
set_option linter.unusedVariables false
set_option maxRecDepth 100000
set_option maxHeartbeats 4000000
namespace Go.Proofs.YtcpgpiabeimefaaDoor
open Go.RowKit
def scanA (s : ByteArray) : AV := match ydh s with
  | .ok ts => .tup [.sl 4 (ts.map ydv), i64 0, i64 0]
  | .error (p, e) => .tup [.sl 4 [], i64 p, i64 e]
theorem own_rel {ok : Nat → Prop} {w : World} {lv : Live} {B : Nat} {v : Value} {ts : List Tok} (h : w.ownsRow B 39 4 v ts.length (ycw ts)) (hok : ∀ g, B ≤ g → g < w.heap.size → ok g) : Rel ok w lv (.sl 4 (ts.map ydv)) v := by
  have ht := toks_of_own h
  rcases h.2 with ⟨rfl, h0⟩ | ⟨g, cap, cur, rfl, hB, hh, hn, hc, _⟩
  · obtain rfl : ts = [] := List.eq_nil_of_length_eq_zero h0
    exact .sl none 0 (fun _ _ => undef) 0 0 (by simp) (by simp) (fun _ => rfl) (fun row hr => by cases hr) (fun h => absurd rfl h) (fun i j row c hi => by simp at hi) (fun i j row c hi => by simp at hi)
  · obtain ⟨a, cap', hv, h1, h2, h3⟩ := ht
    simp only [Value.slice.injEq] at hv
    obtain ⟨rfl, _, rfl⟩ := hv
    have hg : g < w.heap.size := (Array.getElem?_eq_some_iff.1 hh).1
    have hcells : ∀ i t, ts[i]? = some t → w.cell? ⟨g, 0 + i * 4, none⟩ = some (.int .i64 t.kind) ∧ w.cell? ⟨g, 0 + i * 4 + 1, none⟩ = some (.int .i64 t.from_) ∧ w.cell? ⟨g, 0 + i * 4 + 2, none⟩ = some (.int .i64 t.to) ∧ w.cell? ⟨g, 0 + i * 4 + 3, none⟩ = some (.int .i64 t.num) := by
      intro i t hi
      rcases h3 with rfl | ⟨g', o', ha, _, hcl⟩
      · simp at hi
      · simp only [Option.some.injEq, Addr.mk.injEq] at ha
        obtain ⟨rfl, rfl, _⟩ := ha
        exact hcl i t hi
    have hrow : ∀ (i : Nat) (row : List AV), (ts.map ydv)[i]? = some row → ∃ t, ts[i]? = some t ∧ row = ydv t := fun i row hi => by
      rw [List.getElem?_map] at hi
      cases hq : ts[i]? with
      | none => rw [hq] at hi; cases hi
      | some t => rw [hq] at hi; simp only [Option.map_some, Option.some.injEq] at hi; exact ⟨t, rfl, hi.symm⟩
    have hlen : (ts.map ydv).length = ts.length := by simp
    rw [← hlen]
    refine .sl (some ⟨g, 0, none⟩) cap (fun i j => match ts[i]? with | some t => (match j with | 0 => .int .i64 t.kind | 1 => .int .i64 t.from_ | 2 => .int .i64 t.to | _ => .int .i64 t.num) | none => undef) g 0 (by rw [hlen]; exact hn) hc (fun h => by cases h) (fun row hr => ?_) (fun _ => ⟨rfl, hok g hB hg⟩) (fun i j row c hi hj => ?_) (fun i j row c hi hj => ?_)
    · obtain ⟨t, _, rfl⟩ := List.mem_map.1 hr; rfl
    · obtain ⟨t, hti, rfl⟩ := hrow i row hi
      obtain ⟨c0, c1, c2, c3⟩ := hcells i t hti
      simp only [hti]
      match j, hj with
      | 0, hj => simp only [ydv, List.getElem?_cons_zero, Option.some.injEq] at hj; subst hj; exact ⟨by simpa using c0, rfl⟩
      | 1, hj => simp only [ydv, List.getElem?_cons_succ, List.getElem?_cons_zero, Option.some.injEq] at hj; subst hj; exact ⟨c1, rfl⟩
      | 2, hj => simp only [ydv, List.getElem?_cons_succ, List.getElem?_cons_zero, Option.some.injEq] at hj; subst hj; exact ⟨c2, rfl⟩
      | 3, hj => simp only [ydv, List.getElem?_cons_succ, List.getElem?_cons_zero, Option.some.injEq] at hj; subst hj; exact ⟨c3, rfl⟩
      | j + 4, hj => simp [ydv] at hj
    · obtain ⟨t, hti, rfl⟩ := hrow i row hi
      simp only [hti]
      match j, hj with
      | 0, hj => simp only [ydv, List.getElem?_cons_zero, Option.some.injEq] at hj; subst hj; exact .v _
      | 1, hj => simp only [ydv, List.getElem?_cons_succ, List.getElem?_cons_zero, Option.some.injEq] at hj; subst hj; exact .v _
      | 2, hj => simp only [ydv, List.getElem?_cons_succ, List.getElem?_cons_zero, Option.some.injEq] at hj; subst hj; exact .v _
      | 3, hj => simp only [ydv, List.getElem?_cons_succ, List.getElem?_cons_zero, Option.some.injEq] at hj; subst hj; exact .v _
      | j + 4, hj => simp [ydv] at hj
theorem tup3_rel {ok : Nat → Prop} {w : World} {lv : Live} {x : AV} {u : Value} {a b : Int} (h : Rel ok w lv x u) : Rel ok w lv (.tup [x, i64 a, i64 b]) (.tuple #[u, .int .i64 a, .int .i64 b]) := by
  refine .tup [u, .int .i64 a, .int .i64 b] rfl fun i c v hc hv => ?_
  match i with
  | 0 => simp only [List.getElem?_cons_zero, Option.some.injEq] at hc hv; subst hc hv; exact h
  | 1 => simp only [List.getElem?_cons_succ, List.getElem?_cons_zero, Option.some.injEq] at hc hv; subst hc hv; exact .v _
  | 2 => simp only [List.getElem?_cons_succ, List.getElem?_cons_zero, Option.some.injEq] at hc hv; subst hc hv; exact .v _
  | i + 3 => simp at hc
theorem scan_pure (s : ByteArray) : ybn (scanA s) = true := by unfold scanA; split <;> rfl
theorem scanA_con (f : FuncId) (hb : HasBody Tryd.prog f) (h : ∀ (s : ByteArray) (w : World), s.size ≤ 9223372036854775807 → Calls Tryd.prog f #[.string s] w (ScanRet s w)) (s : ByteArray) (hs : s.size ≤ 9223372036854775807) : Con Tryd.prog f [strA s] (scanA s) := by
  refine ⟨hb, scan_pure s, fun ok0 w us hG hok hr => ?_⟩
  obtain ⟨u, rfl, h1⟩ := relAll1 hr
  cases h1
  refine (h s w hs).mono ?_
  rintro e w' ⟨hb, ⟨ts, v, h1, h2, rfl, h4⟩ | ⟨p, x, h1, _, _, _, rfl⟩⟩
  · refine ⟨_, rfl, ?_, hb⟩
    rw [scanA, h1]
    exact tup3_rel (own_rel h4 fun g g1 g2 => ⟨.inr g1, g2⟩)
  · refine ⟨_, rfl, ?_, hb⟩
    rw [scanA, h1]
    refine tup3_rel ?_
    exact .sl none 0 (fun _ _ => undef) 0 0 (by simp) (by simp) (fun _ => rfl) (fun row hr => by cases hr) (fun h => absurd rfl h) (fun i j row c hi => by simp at hi) (fun i j row c hi => by simp at hi)
theorem scan_con (s : ByteArray) (hs : s.size ≤ 9223372036854775807) : Con Tryd.prog 12 [strA s] (scanA s) := scanA_con _ ⟨_, Tryd.func12, rfl, rfl⟩ scan_any s hs
theorem rscan_con (s : ByteArray) (hs : s.size ≤ 9223372036854775807) : Con Tryd.prog 6 [strA s] (scanA s) := scanA_con _ ⟨_, Tryd.func6, rfl, rfl⟩ rscan_any s hs
theorem xvalid_con (l : List Tm) (vars : Int) (hl : l.length ≤ 1000000) : Con Tryd.prog 18 [ybz l, i64 vars] (boolA (yep l vars)) := by
  by_cases h : 200 < l.length
  · rw [valid_long vars h]
    refine yed Tryd.func18 rfl rfl Tryd.ntmps18 Tryd.results18 rfl rfl ?_
    (repeat (first | refine zI ?_ | refine zL ?_ | refine zC ?_ | refine yaf ?_ | refine yae ?_ | refine zR ?_ | refine zD ?_ | refine zK ?_ | refine zB ?_ | refine zA ?_ | refine zS ?_ | refine zU ?_ | refine zV ?_ | refine zF ?_ | with_reducible refine yab ?_ | with_reducible refine yad ?_ | refine yaa ?_ | refine yac ?_ | refine yaj ?_ | refine zT ?_ | refine zE ?_ | refine zX ?_))
    refine ycm 10 rfl (fun h2 => ?_) (fun h2 => ?_)
    · (repeat (first | refine zI ?_ | refine zL ?_ | refine zC ?_ | refine yaf ?_ | refine yae ?_ | refine zR ?_ | refine zD ?_ | refine zK ?_ | refine zB ?_ | refine zA ?_ | refine zS ?_ | refine zU ?_ | refine zV ?_ | refine zF ?_ | with_reducible refine yab ?_ | with_reducible refine yad ?_ | refine yaa ?_ | refine yac ?_ | refine yaj ?_ | refine zT ?_ | refine zE ?_ | refine zX ?_))
      refine ybc ?_; refine ⟨_, rfl, ?_⟩
      exact Frz.pure
    · simp at h2
      omega
  exact con_of_calls ⟨_, Tryd.func18, rfl, rfl⟩ fun w us ok hok hr => by
    obtain ⟨u, v, rfl, h1, h2⟩ := relAll2 hr
    cases h2
    exact valid_any u l vars w (by omega) (Lib.hid (terms_of_rel h1 hok))
end Go.Proofs.YtcpgpiabeimefaaDoor
set_option linter.unusedVariables false
set_option maxRecDepth 100000
set_option maxHeartbeats 4000000
namespace Go.Proofs.YtcpgpiabeimefaaDoor
open Go.RowKit
def tsOf (ts : List Tok) (n : Nat) : List Tok := ts.drop (ts.length - n)
theorem tsOf_suf {ts ts' : List Tok} (h : ts' <:+ ts) : tsOf ts ts'.length = ts' := by
  obtain ⟨p, rfl⟩ := h
  simp [tsOf]
theorem suf_map {g : Tok → PW} {ts : List Tok} {r : List PW} (h : r <:+ ts.map g) : tsOf ts r.length <:+ ts ∧ (tsOf ts r.length).map g = r := by
  refine ⟨List.drop_suffix _ _, ?_⟩
  obtain ⟨p, hp⟩ := h
  have hl : p.length + r.length = ts.length := by have := congrArg List.length hp; simpa using this
  rw [tsOf, List.map_drop, ← hp, List.drop_append]
  have e : ts.length - r.length = p.length := by omega
  rw [e]
  simp
theorem yes.suf {s : ByteArray} {ts ts' : List Tok} (h : yes s ts) (hs : ts' <:+ ts) : yes s ts' := fun t ht => h t (hs.subset ht)
def EndsR (rs : List ResultVar) (s : ByteArray) (names : List Bs) (us : List Value) (ts : List Tok) (res : Res) (e : Exit) (st : SS) : Prop := match res with
  | .ok x rest => EndsM TT rs (ybz x) (yal (rdH s (tsOf ts rest.length) names us)) e st
  | .bad c rest => EndsP (failP (placeT s (tsOf ts rest.length)) c) e st
def RdRes (f : FuncId) (args : List AV) (s : ByteArray) (names : List Bs) (us : List Value) (ts : List Tok) (res : Res) : Prop := match res with
  | .ok x rest => ConM Tryd.prog f (.lp 1001 0 :: args) (yal (rdH s ts names us)) (ybz x) (yal (rdH s (tsOf ts rest.length) names us))
  | .bad c rest => ConP Tryd.prog f (.lp 1001 0 :: args) (yal (rdH s ts names us)) (failP (placeT s (tsOf ts rest.length)) c)
theorem ybj {f : FuncId} {fn : Func} {c : Code} {N : Nat} {rs : List ResultVar} {args : List AV} {s : ByteArray} {names : List Bs} {us : List Value} {ts : List Tok} {res : Res} (hf : Tryd.prog.funcs[f]? = some fn) (hn : (fn.name == "runtime.NumGoroutine") = false) (hb : fn.body = some c) (hN : fn.ntmps = N) (hrs : fn.results = rs.toArray) (hlen : (Nat.ble (args.length + 1) N && Nat.ble N 1000000) = true) (hM : Nat.ble N 1001 = true)
    (h : A Tryd.prog N c (EndsR rs s names us ts res) (S (yer 0 (.lp 1001 0 :: args)) (rdH s ts names us))) : RdRes f args s names us ts res := by
  cases res with
  | ok x rest => exact yco tok hf hn hb hN hrs hlen (rd_cl hM) h
  | bad c rest => exact conP_of hf hn hb hN hlen h
theorem ycv {rs : List ResultVar} {s : ByteArray} {names : List Bs} {us : List Value} {ts ts' : List Tok} {x : List Tm} {rest : List PW} {t : List (Nat × AV)} {h : List (Nat × Option LObj)} {y : AV} (hts : ts' <:+ ts) (hr : ts'.length = rest.length) (hx : resAT TT (S t h) rs = some y) (hy : y = ybz x) (hh : yal h 1001 = some (rdO s ts' names us)) : EndsR rs s names us ts (.ok x rest) .ret (S t h) := by
  subst hy
  refine ⟨_, hx, ybi _, ?_⟩
  rw [← hr, tsOf_suf hts]
  exact yax (yam hh yat)
theorem var_rest {nm : Bs → Bool} {names : List Bs} {op c : Int} {ts rest : List PW} (h : varR nm names op ts = .bad c rest) : rest = ts := by
  unfold varR at h
  cases ts with
  | nil => simp only [Res.bad.injEq] at h; exact h.2.symm
  | cons t r =>
    simp only at h
    split at h
    · split at h
      · cases h
      · simp only [Res.bad.injEq] at h; exact h.2.symm
    · simp only [Res.bad.injEq] at h; exact h.2.symm
theorem var_ok {nm : Bs → Bool} {names : List Bs} {s : ByteArray} {op : Int} {ts : List Tok} {x : List Tm} {rest : List PW} (h : varR nm names op (ts.map (pwT s)) = .ok x rest) : ∃ t r i, ts = t :: r ∧ nm (pwT s t).w = true ∧ idxW names (pwT s t).w = some i ∧ x = [(op, (i : Int))] ∧ rest = r.map (pwT s) := by
  unfold varR at h
  cases ts with
  | nil => cases h
  | cons t r =>
    simp only [List.map_cons] at h
    split at h
    · rename_i hn
      split at h
      · rename_i i hi
        simp only [Res.ok.injEq] at h
        exact ⟨t, r, i, rfl, hn, hi, h.1.symm, h.2.symm⟩
      · cases h
    · cases h
theorem yca {s : ByteArray} {ts ts' : List Tok} {c : Int} {rest : List PW} (hts : ts' <:+ ts) (hr : ts'.length = rest.length) : failP (placeT s ts') c = failP (placeT s (tsOf ts rest.length)) c := by
  rw [← hr, tsOf_suf hts]
section
variable {s : ByteArray} {ts : List Tok} {names : List Bs} {us : List Value}
theorem word_len {t : Tok} {r : List Tok} (h : yes s (t :: r)) (hs : s.size ≤ 1000000000) : (pwT s t).w.length ≤ 1000000000 := by
  simp only [pwT, yah, List.length_take, List.length_drop]; have := (h t (by simp)).2.1; omega
theorem variable_ok {t : Tok} {r : List Tok} {x : Nat} (h : yes s (t :: r)) (hl : names.length ≤ 1000) (hs : s.size ≤ 1000000000) (hw : nmW (pwT s t).w = true) (hx : idxW names (pwT s t).w = some x) : ConM Tryd.prog 80 [.lp 1001 0] (yal (rdH s (t :: r) names us)) (i64 x) (yal (rdH s r names us)) := by
  have hk := (h t (by simp)).2.2 hw
  have hwl := word_len h hs
  refine yco tok Tryd.func80 rfl rfl Tryd.ntmps80 Tryd.results80 rfl (rd_cl rfl) ?_
  show A _ _ _ _ (S _ _)
  (repeat (first | refine zI ?_ | refine zL ?_ | refine zC ?_ | refine yaf ?_ | refine yae ?_ | refine zR ?_ | refine zD ?_ | refine zK ?_ | refine zB ?_ | refine zA ?_ | refine zS ?_ | refine zU ?_ | refine zV ?_ | refine zF ?_ | with_reducible refine yab ?_ | with_reducible refine yad ?_ | refine yaa ?_ | refine yac ?_ | refine yaj ?_ | refine zT ?_ | refine zE ?_ | refine zX ?_ | refine ybv 1001 (ycd h) rfl rfl rfl rfl rfl rfl rfl rfl rfl rfl ?_ | refine ybv 1001 (yde h) rfl rfl rfl rfl rfl rfl rfl rfl rfl rfl ?_))
  refine ycm 10 rfl (fun h2 => ?_) (fun h2 => ?_)
  · simp [headK, hk] at h2
  (repeat (first | refine zI ?_ | refine zL ?_ | refine zC ?_ | refine yaf ?_ | refine yae ?_ | refine zR ?_ | refine zD ?_ | refine zK ?_ | refine zB ?_ | refine zA ?_ | refine zS ?_ | refine zU ?_ | refine zV ?_ | refine zF ?_ | with_reducible refine yab ?_ | with_reducible refine yad ?_ | refine yaa ?_ | refine yac ?_ | refine yaj ?_ | refine zT ?_ | refine zE ?_ | refine zX ?_ | refine yak rfl rfl rfl rfl ?_ | refine yap rfl rfl (name_con (pwT s t).w (by omega)) rfl rfl ?_))
  refine yas rfl (fun h3 => ?_) (fun h3 => ?_)
  · rw [hw] at h3; cases h3
  (repeat (first | refine zI ?_ | refine zL ?_ | refine zC ?_ | refine yaf ?_ | refine yae ?_ | refine zR ?_ | refine zD ?_ | refine zK ?_ | refine zB ?_ | refine zA ?_ | refine zS ?_ | refine zU ?_ | refine zV ?_ | refine zF ?_ | with_reducible refine yab ?_ | with_reducible refine yad ?_ | refine yaa ?_ | refine yac ?_ | refine yaj ?_ | refine zT ?_ | refine zE ?_ | refine zX ?_ | refine yak rfl rfl rfl rfl ?_ | refine yap rfl rfl (index_con names (pwT s t).w hl) rfl rfl ?_))
  rw [hx]
  (repeat (first | refine zI ?_ | refine zL ?_ | refine zC ?_ | refine yaf ?_ | refine yae ?_ | refine zR ?_ | refine zD ?_ | refine zK ?_ | refine zB ?_ | refine zA ?_ | refine zS ?_ | refine zU ?_ | refine zV ?_ | refine zF ?_ | with_reducible refine yab ?_ | with_reducible refine yad ?_ | refine yaa ?_ | refine yac ?_ | refine yaj ?_ | refine zT ?_ | refine zE ?_ | refine zX ?_ | refine ybv 1001 (yfb t r) rfl rfl rfl rfl rfl rfl rfl rfl rfl rfl ?_))
  refine ybc ?_
  exact ⟨_, rfl, ybi _, yax (yam rfl yat)⟩
theorem variable_bad {c : Int} {rest : List PW} {op : Int} (h : yes s ts) (hl : names.length ≤ 1000) (hs : s.size ≤ 1000000000) (hv : varR nmW names op (ts.map (pwT s)) = .bad c rest) : ConP Tryd.prog 80 [.lp 1001 0] (yal (rdH s ts names us)) (failP (placeT s ts) c) := by
  refine conP_of Tryd.func80 rfl rfl Tryd.ntmps80 rfl ?_
  show A _ _ _ _ (S _ _)
  (repeat (first | with_reducible refine yad ?_ | with_reducible refine yab ?_ | refine yac ?_ | refine yae ?_ | refine yaa ?_)); refine yag (lf := lfT) rfl ?_
  (repeat (first | refine zI ?_ | refine zL ?_ | refine zC ?_ | refine zK ?_ | refine zB ?_ | refine zA ?_ | refine zS ?_ | refine zU ?_ | refine zV ?_ | refine zF ?_ | refine zX ?_ | refine yaf ?_))
  (repeat (first | with_reducible refine yad ?_ | with_reducible refine yab ?_ | refine yac ?_ | refine yae ?_ | refine yaa ?_)); refine yag (lf := lfT) rfl ?_
  (repeat (first | refine zI ?_ | refine zL ?_ | refine zC ?_ | refine zK ?_ | refine zB ?_ | refine zA ?_ | refine zS ?_ | refine zU ?_ | refine zV ?_ | refine zF ?_ | refine zX ?_ | refine yaf ?_ | refine ybv 1001 (ycd h) rfl rfl rfl rfl rfl rfl rfl rfl rfl rfl ?_))
  (repeat (first | with_reducible refine yad ?_ | with_reducible refine yab ?_ | refine yac ?_ | refine yae ?_ | refine yaa ?_)); refine yag (lf := lfT) rfl ?_
  (repeat (first | refine zI ?_ | refine zL ?_ | refine zC ?_ | refine zK ?_ | refine zB ?_ | refine zA ?_ | refine zS ?_ | refine zU ?_ | refine zV ?_ | refine zF ?_ | refine zX ?_ | refine yaf ?_ | refine ybv 1001 (yde h) rfl rfl rfl rfl rfl rfl rfl rfl rfl rfl ?_))
  cases ts with
  | nil =>
    simp only [List.map_nil, varR, Res.bad.injEq] at hv
    obtain ⟨rfl, _⟩ := hv
    (repeat (first | refine zI ?_ | refine zL ?_ | refine zC ?_ | refine zK ?_ | refine zB ?_ | refine zA ?_ | refine zS ?_ | refine zU ?_ | refine zV ?_ | refine zF ?_ | refine zX ?_ | refine yaf ?_))
    (repeat (first | with_reducible refine yad ?_ | with_reducible refine yab ?_ | refine yac ?_ | refine yae ?_ | refine yaa ?_))
    refine zT ?_
    (repeat (first | with_reducible refine yad ?_ | with_reducible refine yab ?_ | refine yac ?_ | refine yae ?_ | refine yaa ?_)); refine yaq (lf := lfT) 1 rfl rfl rfl ?_
    (repeat (first | refine zI ?_ | refine zL ?_ | refine zC ?_ | refine zK ?_ | refine zB ?_ | refine zA ?_ | refine zS ?_ | refine zU ?_ | refine zV ?_ | refine zF ?_ | refine zX ?_ | refine yaf ?_))
    exact ⟨rfl, D_rd 1001 (fail_con 4) rfl rfl rfl rfl rfl⟩
  | cons t r =>
    have hwl := word_len h hs
    refine ycm 10 rfl (fun h2 => ?_) (fun h2 => ?_)
    · have hn : nmW (pwT s t).w = false := by
        cases hq : nmW (pwT s t).w with
        | false => rfl
        | true => have := (h t (by simp)).2.2 hq; simp [headK, this] at h2
      simp only [List.map_cons, varR, hn, Bool.false_eq_true, if_false, Res.bad.injEq] at hv
      obtain ⟨rfl, _⟩ := hv
      (repeat (first | refine zI ?_ | refine zL ?_ | refine zC ?_ | refine zK ?_ | refine zB ?_ | refine zA ?_ | refine zS ?_ | refine zU ?_ | refine zV ?_ | refine zF ?_ | refine zX ?_ | refine yaf ?_))
      (repeat (first | with_reducible refine yad ?_ | with_reducible refine yab ?_ | refine yac ?_ | refine yae ?_ | refine yaa ?_))
      refine zT ?_
      (repeat (first | with_reducible refine yad ?_ | with_reducible refine yab ?_ | refine yac ?_ | refine yae ?_ | refine yaa ?_)); refine yaq (lf := lfT) 1 rfl rfl rfl ?_
      (repeat (first | refine zI ?_ | refine zL ?_ | refine zC ?_ | refine zK ?_ | refine zB ?_ | refine zA ?_ | refine zS ?_ | refine zU ?_ | refine zV ?_ | refine zF ?_ | refine zX ?_ | refine yaf ?_))
      exact ⟨rfl, D_rd 1001 (fail_con 4) rfl rfl rfl rfl rfl⟩
    (repeat (first | refine zI ?_ | refine zL ?_ | refine zC ?_ | refine zK ?_ | refine zB ?_ | refine zA ?_ | refine zS ?_ | refine zU ?_ | refine zV ?_ | refine zF ?_ | refine zX ?_ | refine yaf ?_ | refine yap rfl rfl (name_con (pwT s t).w (by omega)) rfl rfl ?_))
    (repeat (first | with_reducible refine yad ?_ | with_reducible refine yab ?_ | refine yac ?_ | refine yae ?_ | refine yaa ?_))
    refine yas rfl (fun h3 => ?_) (fun h3 => ?_)
    · have hn : nmW (pwT s t).w = false := by simpa using h3
      simp only [List.map_cons, varR, hn, Bool.false_eq_true, if_false, Res.bad.injEq] at hv
      obtain ⟨rfl, _⟩ := hv
      (repeat (first | with_reducible refine yad ?_ | with_reducible refine yab ?_ | refine yac ?_ | refine yae ?_ | refine yaa ?_)); refine yaq (lf := lfT) 1 rfl rfl rfl ?_
      (repeat (first | refine zI ?_ | refine zL ?_ | refine zC ?_ | refine zK ?_ | refine zB ?_ | refine zA ?_ | refine zS ?_ | refine zU ?_ | refine zV ?_ | refine zF ?_ | refine zX ?_ | refine yaf ?_))
      exact ⟨rfl, D_rd 1001 (fail_con 4) rfl rfl rfl rfl rfl⟩
    have hn : nmW (pwT s t).w = true := by simpa using h3
    simp only [List.map_cons, varR, hn, if_true] at hv
    (repeat (first | with_reducible refine yad ?_ | with_reducible refine yab ?_ | refine yac ?_ | refine yae ?_ | refine yaa ?_)); refine yag (lf := lfT) rfl ?_
    (repeat (first | refine zI ?_ | refine zL ?_ | refine zC ?_ | refine zK ?_ | refine zB ?_ | refine zA ?_ | refine zS ?_ | refine zU ?_ | refine zV ?_ | refine zF ?_ | refine zX ?_ | refine yaf ?_ | refine yak rfl rfl rfl rfl ?_ | refine yap rfl rfl (index_con names (pwT s t).w hl) rfl rfl ?_))
    cases hx : idxW names (pwT s t).w with
    | some x => rw [hx] at hv; cases hv
    | none =>
      rw [hx] at hv
      simp only [Res.bad.injEq] at hv
      obtain ⟨rfl, _⟩ := hv
      (repeat (first | refine zI ?_ | refine zL ?_ | refine zC ?_ | refine zK ?_ | refine zB ?_ | refine zA ?_ | refine zS ?_ | refine zU ?_ | refine zV ?_ | refine zF ?_ | refine zX ?_ | refine yaf ?_))
      (repeat (first | with_reducible refine yad ?_ | with_reducible refine yab ?_ | refine yac ?_ | refine yae ?_ | refine yaa ?_)); refine yag (lf := lfT) rfl ?_
      (repeat (first | refine zI ?_ | refine zL ?_ | refine zC ?_ | refine zK ?_ | refine zB ?_ | refine zA ?_ | refine zS ?_ | refine zU ?_ | refine zV ?_ | refine zF ?_ | refine zX ?_ | refine yaf ?_))
      (repeat (first | with_reducible refine yad ?_ | with_reducible refine yab ?_ | refine yac ?_ | refine yae ?_ | refine yaa ?_))
      refine zT ?_
      (repeat (first | with_reducible refine yad ?_ | with_reducible refine yab ?_ | refine yac ?_ | refine yae ?_ | refine yaa ?_)); refine yaq (lf := lfT) 1 rfl rfl rfl ?_
      (repeat (first | refine zI ?_ | refine zL ?_ | refine zC ?_ | refine zK ?_ | refine zB ?_ | refine zA ?_ | refine zS ?_ | refine zU ?_ | refine zV ?_ | refine zF ?_ | refine zX ?_ | refine yaf ?_))
      exact ⟨rfl, D_rd 1001 (fail_con 5) rfl rfl rfl rfl rfl⟩
end
end Go.Proofs.YtcpgpiabeimefaaDoor
set_option linter.unusedVariables false
set_option maxRecDepth 100000
set_option maxHeartbeats 4000000
namespace Go.Proofs.YtcpgpiabeimefaaDoor
open Go.RowKit
section
variable {s : ByteArray} {names : List Bs} {ts : List Tok} {a : Nat} {err pl : Int}
theorem yes.drop (h : yes s ts) (a : Nat) : yes s (ts.drop a) := h.suf (List.drop_suffix a ts)
end
end Go.Proofs.YtcpgpiabeimefaaDoor
