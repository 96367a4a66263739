/- The walks over Scan, of the program and of the reference: what the plain function scanF says; the tokens lie in new memory. -/
import Derived.Test.YtcaliinineajkaaLexWalk4
namespace Go.Proofs.Ytcaliinineajkaa
open Go.RowKit

def tokCells (ts : List Tok) : List Value := ts.flatMap fun t => [.int .i64 t.kind, .int .i64 t.from_, .int .i64 t.to, .int .i64 t.num]
theorem tokCells_length (ts : List Tok) : (tokCells ts).length = ts.length * 4 := by
  induction ts with
  | nil => rfl
  | cons t ts ih => simp only [tokCells, List.flatMap_cons, List.length_append, List.length_cons, List.length_nil] at *; omega
theorem tokCells_snoc (ts : List Tok) (t : Tok) : tokCells (ts ++ [t]) = tokCells ts ++ [.int .i64 t.kind, .int .i64 t.from_, .int .i64 t.to, .int .i64 t.num] := by
  simp [tokCells]

/-- What Scan returns: the tokens in new memory, or the place of the error and the error. -/
def ScanRet (s : ByteArray) (w : World) (e : Ending) (w' : World) : Prop :=
  Below w.heap.size w w' ∧
  ((∃ (ts : List Tok) (v : Value), scanF s = .ok ts ∧ ts.length ≤ 4096 ∧ e = .returned (.tuple #[v, .int .i64 0, .int .i64 0]) ∧ w'.ownsRow w.heap.size 32 4 v ts.length (tokCells ts)) ∨
   (∃ p x : Nat, scanF s = .error (p, x) ∧ p ≤ s.size ∧ 1 ≤ x ∧ x ≤ 5 ∧ e = .returned (.tuple #[.slice none 0 0, .int .i64 p, .int .i64 x])))

theorem own_below {w w' : World} {B e size n : Nat} {v : Value} {xs : List Value} (h : w.ownsRow B e size v n xs) (hb : Below w.heap.size w w') : w'.ownsRow B e size v n xs := by
  obtain ⟨h1, h2⟩ := h
  refine ⟨h1, ?_⟩
  rcases h2 with h2 | ⟨g, cap, cur, hv, hg, hh, r⟩
  · exact .inl h2
  · exact .inr ⟨g, cap, cur, hv, hg, by rw [hb.block g (by rcases Nat.lt_or_ge g w.heap.size with h | h; exact h; simp [Array.getElem?_eq_none h] at hh)]; exact hh, r⟩

theorem own_shape {w : World} {B e size n : Nat} {v : Value} {xs : List Value} (h : w.ownsRow B e size v n xs) : ∃ a cap, v = .slice a n cap := by
  rcases h.2 with ⟨rfl, rfl⟩ | ⟨g, cap, cur, hv, _⟩
  · exact ⟨_, _, rfl⟩
  · exact ⟨_, _, hv⟩

theorem new_cells (W : World) (l : List Value) (e n : Nat) (hn : n = W.heap.size) : ∀ j u, l[j]? = some u → (W.alloc (.cells l.toArray e)).cell? ((⟨n, 0, none⟩ : Addr).add j) = some u := by
  intro j u h
  subst hn
  have h0 : (⟨W.heap.size, 0, none⟩ : Addr).add j = ⟨W.heap.size, j, none⟩ := by
    unfold Addr.add
    split <;> simp_all
  rw [h0]
  have h1 : (W.alloc (.cells l.toArray e)).heap[W.heap.size]? = some (.cells l.toArray e) := by
    show (W.heap.push (.cells l.toArray e))[W.heap.size]? = _
    rw [Array.getElem?_push, if_pos rfl]
  unfold World.cell?
  simp only [h1]
  simpa using h

theorem own_lt {w : World} {B e size n : Nat} {v : Value} {xs : List Value} (h : w.ownsRow B e size v n xs) (x : Nat) (hx : w.heap.size ≤ x) : some x ≠ v.ownBlock :=
  fun h1 => by have := (h.lt x h1.symm).2; omega
theorem own_ge {w : World} {B e size n : Nat} {v : Value} {xs : List Value} (h : w.ownsRow B e size v n xs) : ∀ k, v.ownBlock = some k → B ≤ k := fun k hk => (h.lt k hk).1

theorem infoTok : (Try.prog.info? 32).map (fun i => (i.zero, i.size, i.bytes)) = some (some (.agg #[.int .i64 0, .int .i64 0, .int .i64 0, .int .i64 0]), 4, 32) := by kernel_rfl

set_option maxHeartbeats 1000000 in
theorem scan_any (s : ByteArray) (w : World) (hs : s.size ≤ 9223372036854775807) :
    Calls Try.prog 11 #[.string s] w (ScanRet s w) := by
  by_cases h16 : 16384 < s.size
  · go_enter Try.func11, Try.ntmps11
    go_wp2
    go_ret3
    exact ⟨Below.refl _ _, .inr ⟨0, 3, by unfold scanF; rw [if_pos h16], by omega, by omega, by omega, rfl⟩⟩
  · have HF := Lib.hid (restScan_start s (by omega))
    obtain ⟨i0, hi, hz0, hz1, hz2⟩ := info_parts infoTok
    have Hi := Lib.hid hi
    have Hz0 := Lib.hid hz0
    have Hz1 := Lib.hid hz1
    have Hz2 := Lib.hid hz2
    clear hi hz0 hz1 hz2
    have hk0 := skipTo_bd s false 0 (by omega)
    go_enter Try.func11, Try.ntmps11
    go_wp2_with (go_at_call 21; refine (skip_any s 0 _ (by omega) (by omega)).mono ?_; rintro e w' ⟨rfl, rfl⟩)
    go_loopw [5, 6, 7, 8] (fun v at_ _ _ wr => ∃ (p : Nat) (out : List Tok), p ≤ s.size ∧ at_ = .int .i64 (skipTo s false p) ∧ out.length ≤ 4096 ∧ Hid (scanF s = restScan s out p) ∧ wr.ownsRow w.heap.size 32 4 v out.length (tokCells out) ∧ Below w.heap.size w wr) (fun _ at_ _ _ _ => s.size - (intOf at_).toNat)
    case atStart => exact ⟨0, [], by omega, rfl, by simp, HF, World.ownsRow_nil _ _ _ _, Below.refl _ _⟩
    case round =>
      obtain ⟨p, out, hp, rfl, hout, hrest, hown, hbel⟩ := hrel
      have hb := skipTo_bd s false p hp
      by_cases hlt : skipTo s false p < s.size
      · obtain ⟨sa, scap, rfl⟩ := own_shape hown
        by_cases hfull : out.length = 4096
        · have hf : ((out.length : Int) == 4096) = true := by simp; omega
          have HFu := Lib.hid hfull
          clear hfull
          go_wp2
          go_ret3
          exact ⟨hbel, .inr ⟨skipTo s false p, 3, by rw [hrest.out, restScan_full s out p hlt HFu.out], hb.2, by omega, by omega, rfl⟩⟩
        · have hf : ((out.length : Int) == 4096) = false := by simp; omega
          go_wp2_with (first | (at_builtin; refine wpList_append_own _ rfl (.tmp 32) (.tmp 34) 23 rfl w.heap.size 32 i0 (.agg #[.int .i64 0, .int .i64 0, .int .i64 0, .int .i64 0]) 4 32 Try.underlying23 Hi.out Hz0.out Hz1.out Hz2.out rfl (by decide) _ _ _ rfl (((own_below hown hbl).alloc _).alloc _) ⟨w1.heap.size + 1, 0, none⟩ 1 1 [.int .i64 k, .int .i64 (skipTo s false p), .int .i64 ((skipTo s false p + n : Nat) : Int), .int .i64 v] rfl rfl ?c1 ?c2 ?c3 ?c4 ?c5 ?_) | (go_at_call 22; refine (next_any s (skipTo s false p) _ (by omega) hlt).mono ?_; rintro e w1 ⟨hbl, ⟨k, n, v, ht, rfl⟩ | ⟨x, ht, hx1, hx2, rfl⟩⟩ <;> have HT := Lib.hid ht <;> clear ht))
          case c1 => exact new_cells (w1.alloc _) _ _ _ (by simp)
          case c2 => intro u hu; simp at hu; rcases hu with rfl | rfl | rfl | rfl <;> rfl
          case c3 => unfold maxLen; omega
          case c4 => omega
          case c5 => have h1 := hbel.size; have h2 := hbl.size; simp; omega
          · have htb := tokL_bd HT.out
            rw [bytesFrom_length] at htb
            intro v' w' hown' hgrow _
            obtain ⟨q, hq⟩ : ∃ q : Nat, q = skipTo s false p + n := ⟨_, rfl⟩
            have hcell : w'.cell? ⟨w1.heap.size, 2, none⟩ = some (.int .i64 (q : Int)) := hgrow.cell (by rw [hq]; simp) (own_lt hown _ hbl.size)
            have hb' : Below w.heap.size w w' := ((((hbel.trans (hbl.mono hbel.size)).alloc (Nat.le_trans hbel.size hbl.size) _).alloc (by have h1 := hbel.size; have h2 := hbl.size; simp; omega) _).grown hgrow (by have h1 := hbel.size; have h2 := hbl.size; simp; omega) (own_ge hown))
            have hq1 : skipTo s false p < q := by omega
            have hq2 : q ≤ s.size := by omega
            have hs2 := skipTo_bd s false q hq2
            have HR : Hid (scanF s = restScan s (out ++ [⟨k, skipTo s false p, q, v⟩]) q) := by rw [hq]; exact hrest.out.trans (restScan_tok s out p k n v hlt (by omega) HT.out)
            have HO : w'.ownsRow w.heap.size 32 4 v' (out ++ [(⟨k, skipTo s false p, q, v⟩ : Tok)]).length (tokCells (out ++ [⟨k, skipTo s false p, q, v⟩])) := by
              rw [tokCells_snoc, List.length_append]; rw [hq]; exact hown'
            clear hown' hgrow hq
            go_wp2_with (go_at_call 21; refine (skip_any s q _ (by omega) hq2).mono ?_; rintro e w' ⟨rfl, rfl⟩)
            exact ⟨⟨q, _, hq2, rfl, by rw [List.length_append]; simp; omega, HR, HO, hb'⟩, by simp [intOf]; omega⟩
          · go_ret3
            exact ⟨(hbel.trans (hbl.mono hbel.size)).alloc (Nat.le_trans hbel.size hbl.size) _, .inr ⟨skipTo s false p, x, by rw [hrest.out, restScan_err s out p x hlt (by omega) HT.out], hb.2, hx1, hx2, rfl⟩⟩
      · go_wp2
        go_ret3
        exact ⟨hbel, .inl ⟨out, u5, by rw [hrest.out, restScan_end s out p (by omega)], hout, rfl, hown⟩⟩
set_option maxHeartbeats 1000000 in
theorem rscan_any (s : ByteArray) (w : World) (hs : s.size ≤ 9223372036854775807) :
    Calls Try.prog 12 #[.string s] w (ScanRet s w) := by
  by_cases h16 : 16384 < s.size
  · go_enter Try.func12, Try.ntmps12
    go_wp2
    go_ret3
    exact ⟨Below.refl _ _, .inr ⟨0, 3, by unfold scanF; rw [if_pos h16], by omega, by omega, by omega, rfl⟩⟩
  · have HF := Lib.hid (restScan_start s (by omega))
    obtain ⟨i0, hi, hz0, hz1, hz2⟩ := info_parts infoTok
    have Hi := Lib.hid hi
    have Hz0 := Lib.hid hz0
    have Hz1 := Lib.hid hz1
    have Hz2 := Lib.hid hz2
    clear hi hz0 hz1 hz2
    have hk0 := skipTo_bd s false 0 (by omega)
    go_enter Try.func12, Try.ntmps12
    go_wp2_with (go_at_call 23; refine (rblanks_any s 0 _ (by omega) (by omega)).mono ?_; rintro e w' ⟨rfl, rfl⟩)
    go_loopw [5, 6, 7, 8] (fun v at_ _ _ wr => ∃ (p : Nat) (out : List Tok), p ≤ s.size ∧ at_ = .int .i64 (skipTo s false p) ∧ out.length ≤ 4096 ∧ Hid (scanF s = restScan s out p) ∧ wr.ownsRow w.heap.size 32 4 v out.length (tokCells out) ∧ Below w.heap.size w wr) (fun _ at_ _ _ _ => s.size - (intOf at_).toNat)
    case atStart => exact ⟨0, [], by omega, rfl, by simp, HF, World.ownsRow_nil _ _ _ _, Below.refl _ _⟩
    case round =>
      obtain ⟨p, out, hp, rfl, hout, hrest, hown, hbel⟩ := hrel
      have hb := skipTo_bd s false p hp
      by_cases hlt : skipTo s false p < s.size
      · obtain ⟨sa, scap, rfl⟩ := own_shape hown
        by_cases hfull : out.length = 4096
        · have hf : ((out.length : Int) == 4096) = true := by simp; omega
          have HFu := Lib.hid hfull
          clear hfull
          go_wp2
          go_ret3
          exact ⟨hbel, .inr ⟨skipTo s false p, 3, by rw [hrest.out, restScan_full s out p hlt HFu.out], hb.2, by omega, by omega, rfl⟩⟩
        · have hf : ((out.length : Int) == 4096) = false := by simp; omega
          go_wp2_with (first | (at_builtin; refine wpList_append_own _ rfl (.tmp 35) (.tmp 37) 23 rfl w.heap.size 32 i0 (.agg #[.int .i64 0, .int .i64 0, .int .i64 0, .int .i64 0]) 4 32 Try.underlying23 Hi.out Hz0.out Hz1.out Hz2.out rfl (by decide) _ _ _ rfl (((own_below hown hbl).alloc _).alloc _) ⟨w1.heap.size + 1, 0, none⟩ 1 1 [.int .i64 k, .int .i64 (skipTo s false p), .int .i64 ((skipTo s false p + n : Nat) : Int), .int .i64 v] rfl rfl ?c1 ?c2 ?c3 ?c4 ?c5 ?_) | (go_at_call 24; refine (rtoken_any s (skipTo s false p) _ (by omega) hlt).mono ?_; rintro e w1 ⟨hbl, ⟨k, n, v, ht, rfl⟩ | ⟨x, ht, hx1, hx2, rfl⟩⟩ <;> have HT := Lib.hid ht <;> clear ht))
          case c1 => exact new_cells (w1.alloc _) _ _ _ (by simp)
          case c2 => intro u hu; simp at hu; rcases hu with rfl | rfl | rfl | rfl <;> rfl
          case c3 => unfold maxLen; omega
          case c4 => omega
          case c5 => have h1 := hbel.size; have h2 := hbl.size; simp; omega
          · have htb := tokL_bd HT.out
            rw [bytesFrom_length] at htb
            intro v' w' hown' hgrow _
            obtain ⟨q, hq⟩ : ∃ q : Nat, q = skipTo s false p + n := ⟨_, rfl⟩
            have hcell : w'.cell? ⟨w1.heap.size, 2, none⟩ = some (.int .i64 (q : Int)) := hgrow.cell (by rw [hq]; simp) (own_lt hown _ hbl.size)
            have hb' : Below w.heap.size w w' := ((((hbel.trans (hbl.mono hbel.size)).alloc (Nat.le_trans hbel.size hbl.size) _).alloc (by have h1 := hbel.size; have h2 := hbl.size; simp; omega) _).grown hgrow (by have h1 := hbel.size; have h2 := hbl.size; simp; omega) (own_ge hown))
            have hq1 : skipTo s false p < q := by omega
            have hq2 : q ≤ s.size := by omega
            have hs2 := skipTo_bd s false q hq2
            have HR : Hid (scanF s = restScan s (out ++ [⟨k, skipTo s false p, q, v⟩]) q) := by rw [hq]; exact hrest.out.trans (restScan_tok s out p k n v hlt (by omega) HT.out)
            have HO : w'.ownsRow w.heap.size 32 4 v' (out ++ [(⟨k, skipTo s false p, q, v⟩ : Tok)]).length (tokCells (out ++ [⟨k, skipTo s false p, q, v⟩])) := by
              rw [tokCells_snoc, List.length_append]; rw [hq]; exact hown'
            clear hown' hgrow hq
            go_wp2_with (go_at_call 23; refine (rblanks_any s q _ (by omega) hq2).mono ?_; rintro e w' ⟨rfl, rfl⟩)
            exact ⟨⟨q, _, hq2, rfl, by rw [List.length_append]; simp; omega, HR, HO, hb'⟩, by simp [intOf]; omega⟩
          · go_ret3
            exact ⟨(hbel.trans (hbl.mono hbel.size)).alloc (Nat.le_trans hbel.size hbl.size) _, .inr ⟨skipTo s false p, x, by rw [hrest.out, restScan_err s out p x hlt (by omega) HT.out], hb.2, hx1, hx2, rfl⟩⟩
      · go_wp2
        go_ret3
        exact ⟨hbel, .inl ⟨out, u5, by rw [hrest.out, restScan_end s out p (by omega)], hout, rfl, hown⟩⟩
end Go.Proofs.Ytcaliinineajkaa
