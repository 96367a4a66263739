/- The walks over blank and the law LexerIgnoresBlanks. -/
import Derived.Test.YtcaliinineajkaaLexLaw2
import Derived.Test.YtcaliinineajkaaLexMath4
import Derived.OpenShut
namespace Go.Proofs.Ytcaliinineajkaa
open Go.RowKit

/-- A slice of integers that came in: it is nil, or it leads to a row of 'cap' cells, the numbers 'zs'. -/
def IsRow (k : IntKind) (w : World) (a : Option Addr) (len cap : Nat) (zs : List Int) : Prop :=
  (a = none ∧ len = 0 ∧ cap = 0 ∧ zs = []) ∨
  ∃ x, a = some x ∧ len ≤ cap ∧ cap ≤ maxLen ∧ zs.length = cap ∧ (∀ i, i < zs.length → w.cell? (x.add i) = some (.int k (zs.getD i 0))) ∧ ∀ n ∈ zs, (Lit.int k n).wf = true

/-- What stands behind a token. -/
def blkB (zs : List Int) (len i : Nat) : ByteArray :=
  if len ≤ i then ⟨#[32]⟩ else if zs.getD i 0 % 5 = 0 then ⟨#[10]⟩ else if zs.getD i 0 % 5 = 1 then ⟨#[9, 32, 13]⟩ else if zs.getD i 0 % 5 = 2 then ⟨#[35, 32, 97, 32, 58, 61, 32, 98, 59, 10]⟩
  else if zs.getD i 0 % 5 = 3 then ⟨#[32, 35, 10, 35, 10, 32]⟩ else ⟨#[32, 32]⟩
theorem passes_of (c : UInt8) (l : List UInt8) (hc : blankB c = true) (h : ∀ x, skipL false ((c :: l) ++ x) = (c :: l).length + skipL false x) (hl : l.length ≤ 9) : Passes (c :: l) := ⟨⟨c, l, rfl, hc⟩, h, by simp; omega⟩
theorem blk_passes (zs : List Int) (len i : Nat) : Passes (bytesFrom (blkB zs len i) 0) := by
  unfold blkB
  repeat' split
  all_goals
    refine passes_of _ _ (by decide) (fun x => ?_) (by decide)
    simp [skipL]
    try omega

set_option maxHeartbeats 1000000 in
theorem blank_any (a : Option Addr) (len cap : Nat) (zs : List Int) (i : Nat) (w : World) (hr : Hid (IsRow .u8 w a len cap zs)) (hi : i ≤ 1000000) :
    Calls Try.prog 16 #[.slice a len cap, .int .i64 i] w fun e w' => e = .returned (.string (blkB zs len i)) ∧ w = w' := by
  by_cases hle : len ≤ i
  · have H : Hid (blkB zs len i = ⟨#[32]⟩) := by unfold blkB; rw [if_pos hle]; rfl
    go_enter Try.func16, Try.ntmps16
    go_wp2
    go_ret
    rw [H.out]
    exact ⟨rfl, rfl⟩
  · rcases hr.out with ⟨_, h0, _⟩ | ⟨x, rfl, h1, h2, h3, h4, h5⟩
    · omega
    obtain ⟨b, off, rfl, hc⟩ := ints_at h4 (by omega)
    have hcell := hc i (by omega)
    have hz : 0 ≤ zs.getD i 0 ∧ zs.getD i 0 ≤ 255 := by
      have hm : zs.getD i 0 ∈ zs := by
        rw [List.getD_eq_getElem?_getD, List.getElem?_eq_getElem (by omega)]; exact List.getElem_mem _
      simpa [Lit.wf, IntKind.min, IntKind.max, IntKind.signed, IntKind.bits] using h5 _ hm
    unfold maxLen at h2
    have HB : Hid (blkB zs len i = if zs.getD i 0 % 5 = 0 then ⟨#[10]⟩ else if zs.getD i 0 % 5 = 1 then ⟨#[9, 32, 13]⟩ else if zs.getD i 0 % 5 = 2 then ⟨#[35, 32, 97, 32, 58, 61, 32, 98, 59, 10]⟩ else if zs.getD i 0 % 5 = 3 then ⟨#[32, 35, 10, 35, 10, 32]⟩ else ⟨#[32, 32]⟩) := by unfold blkB; rw [if_neg hle]; rfl
    have hz0 := hz.1
    have hz1 := hz.2
    clear hc h4 h5 h3 hr hz
    generalize zs.getD i 0 = z at *
    generalize blkB zs len i = B at *
    have hcases : (z % 5 == 0) = true ∨ (z % 5 == 0) = false ∧ ((z % 5 == 1) = true ∨ (z % 5 == 1) = false ∧ ((z % 5 == 2) = true ∨ (z % 5 == 2) = false ∧ ((z % 5 == 3) = true ∨ (z % 5 == 3) = false))) := by
      cases (z % 5 == 0) <;> cases (z % 5 == 1) <;> cases (z % 5 == 2) <;> cases (z % 5 == 3) <;> simp
    rcases hcases with q0 | ⟨q0, q1 | ⟨q1, q2 | ⟨q2, q3 | q3⟩⟩⟩
    all_goals
      go_enter Try.func16, Try.ntmps16
      go_wp2
      go_ret
      refine ⟨?_, rfl⟩
      simp only [beq_iff_eq, beq_eq_false_iff_ne, ne_eq] at *
      rw [HB.out]
      simp [*]

theorem isRow_below {k : IntKind} {w w' : World} {a : Option Addr} {len cap : Nat} {zs : List Int} (h : IsRow k w a len cap zs) (hb : Below w.heap.size w w') : IsRow k w' a len cap zs := by
  rcases h with h | ⟨x, rfl, h1, h2, h3, h4, h5⟩
  · exact .inl h
  · refine .inr ⟨x, rfl, h1, h2, h3, fun i hi => ?_, h5⟩
    have h6 := h4 i hi
    have h7 := World.block_lt_of_cell? w (x.add i) h6
    rw [hb.cell h7]; exact h6

theorem walk_LexerIgnoresBlanks_bad (s : ByteArray) (w : World) (a : Option Addr) (len cap : Nat)
    (hf : ∀ w, Calls Try.prog 14 #[.string s] w fun e w' => e = .returned (.bool false) ∧ Below w.heap.size w w') :
    Calls Try.prog 7 #[.string s, .slice a len cap] w fun e w' => e = .returned (.bool true) ∧ Below w.heap.size w w' := by
  have HF := Lib.hid hf
  clear hf
  go_enter Try.func7, Try.ntmps7
  go_wp2_with (first | (go_at_call 14; refine (HF.out _).mono ?_; rintro e w1 ⟨rfl, hb1⟩) | (go_at_call 10; refine (awake_any _).mono ?_; rintro e w3 ⟨rfl, hb3⟩))
  go_ret
  exact ⟨rfl, bthen hb1 hb3⟩
theorem walk_LexerIgnoresBlanks_long (s : ByteArray) (ts : List Tok) (w : World) (a : Option Addr) (len cap : Nat) (hs : s.size ≤ 2000) (h1 : 1000 < s.size) (h : Hid (scanF s = .ok ts)) :
    Calls Try.prog 7 #[.string s, .slice a len cap] w fun e w' => e = .returned (.bool true) ∧ Below w.heap.size w w' := by
  go_enter Try.func7, Try.ntmps7
  go_wp2_with (first | (go_at_call 14; refine (fair_yes s ts _ hs h).mono ?_; rintro e w1 ⟨rfl, hb1⟩) | (go_at_call 10; refine (awake_any _).mono ?_; rintro e w3 ⟨rfl, hb3⟩))
  go_ret
  exact ⟨rfl, bthen hb1 hb3⟩

/-- One token more. -/
theorem join_step (s o : ByteArray) (b : Nat → ByteArray) (k : Nat) (ts : List Tok) (t : Tok) (ht : ts[k]? = some t)
    (h : bytesFrom o 0 ++ joinT s (fun i => bytesFrom (b i) 0) k (ts.drop k) = joinT s (fun i => bytesFrom (b i) 0) 0 ts) :
    bytesFrom (o ++ (s.extract t.from_ t.to ++ b k)) 0 ++ joinT s (fun i => bytesFrom (b i) 0) (k + 1) (ts.drop (k + 1)) = joinT s (fun i => bytesFrom (b i) 0) 0 ts := by
  rw [← h, drop_at ht, bytes_append, bytes_append, bytes_extract]
  simp only [joinT, tokText, List.append_assoc]

set_option maxHeartbeats 4000000 in
set_option maxRecDepth 100000 in
theorem walk_LexerIgnoresBlanks_ok (s : ByteArray) (ts : List Tok) (w : World) (a : Option Addr) (len cap : Nat) (zs : List Int) (hs : s.size ≤ 1000) (h : Hid (scanF s = .ok ts)) (hr : Hid (IsRow .u8 w a len cap zs)) :
    Calls Try.prog 7 #[.string s, .slice a len cap] w fun e w' => e = .returned (.bool true) ∧ Below w.heap.size w w' := by
  have HG := Lib.hid (good_of s ts h.out)
  have hlen := HG.out.len
  have HL := Lib.hid (join_len s (fun i => bytesFrom (blkB zs len i) 0) (blk_passes zs len) ts 0 0 HG.out)
  have hts : ts.length ≤ 1000 := by omega
  go_enter Try.func7, Try.ntmps7
  go_wp2_with (first | (go_at_call 14; refine (fair_yes s ts _ (by omega) h).mono ?_; rintro e w1 ⟨rfl, hb1⟩) | (go_at_call 12; refine (rscan_ok s ts _ (by omega) h.out).mono ?_; rintro e w2 ⟨v, rfl, ht, hb2⟩))
  obtain ⟨a0, cap0, rfl, hc1, hc2, hc3⟩ := ht
  unfold maxLen at hc2
  go_loopw [8, 9] (fun x i wr => ∃ (k : Nat) (o : ByteArray), k ≤ ts.length ∧ i = .int .i64 k ∧ x = .string o ∧ Hid (bytesFrom o 0 ++ joinT s (fun i => bytesFrom (blkB zs len i) 0) k (ts.drop k) = joinT s (fun i => bytesFrom (blkB zs len i) 0) 0 ts) ∧ Below w2.heap.size w2 wr) (fun _ i _ => ts.length - (intOf i).toNat)
  case atStart => exact ⟨0, _, by omega, rfl, rfl, rfl, Below.refl _ _⟩
  case round =>
    obtain ⟨k, o, hk, rfl, rfl, hj, hbel⟩ := hrel
    have hosz : o.size ≤ 11000 := by
      have h1 := congrArg List.length hj.out
      rw [List.length_append, bytesFrom_length] at h1
      have h2 := HL.out
      omega
    by_cases hlt : k < ts.length
    · rcases hc3 with rfl | ⟨g, off, rfl, hg0, hc⟩
      · simp at hlt
      obtain ⟨t, htk⟩ : ∃ t, ts[k]? = some t := ⟨ts[k], List.getElem?_eq_getElem hlt⟩
      obtain ⟨c0, c1, c2, c3⟩ := hc k t htk
      rw [← hbel.cell (p := ⟨g, _, none⟩) hg0] at c0 c1 c2 c3
      obtain ⟨g1, g2, g3, g4, g5⟩ := HG.out.mem t (List.mem_of_getElem? htk)
      have HJ := Lib.hid (join_step s o (blkB zs len) k ts t htk hj.out)
      have HX := Lib.hid hc
      have H2 := Lib.hid g2
      have HRW : Hid (∀ n, Hid (IsRow .u8 (wr.drewN n) a len cap zs)) := Lib.hid fun n => Lib.hid (isRow_below (isRow_below hr.out (bthen hb1 hb2)) (below_drewN hbel n))
      have i1 : (0 : Int) ≤ (t.from_ : Int) := by omega
      have i2 : (t.from_ : Int) ≤ (t.to : Int) := by omega
      have i3 : (t.to : Int) ≤ (s.size : Int) := by omega
      have z1 : (blkB zs len k).size ≤ 10 := by have := (blk_passes zs len k).2.2; rw [bytesFrom_length] at this; omega
      have z2 : (s.extract t.from_ t.to).size ≤ 1000 := by rw [extract_size _ _ _ (by omega)]; omega
      clear hc htk g2 g5
      go_wp2_with fail
      go_quiet ((go_at_call 16; exact Calls.quiet_of_same ((blank_any a len cap zs k _ (HRW.out _) (by omega)).mono fun e w' h => ⟨h.1, h.2.symm⟩)))
      go_wp2_with fail
      exact ⟨⟨k + 1, _, by omega, by go_num, rfl, HJ, below_drewN hbel _⟩, by simp [intOf]; omega⟩
    · obtain rfl : k = ts.length := by omega
      have HS : Hid (scanF o = .ok (joinU (fun i => bytesFrom (blkB zs len i) 0) 0 0 ts)) := by
        have h1 := hj.out
        rw [List.drop_length] at h1
        simp only [joinT, List.append_nil] at h1
        exact scanF_join s o _ (blk_passes zs len) ts HG.out h1 (by omega) (by omega)
      have HT : Hid (∀ (j : Nat) (u t : Tok), (joinU (fun i => bytesFrom (blkB zs len i) 0) 0 0 ts)[j]? = some u → ts[j]? = some t → u.kind = t.kind ∧ u.num = t.num ∧ u.from_ ≤ u.to ∧ u.to ≤ o.size ∧ bytesFrom (o.extract u.from_ u.to) 0 = bytesFrom (s.extract t.from_ t.to) 0) := by
        have h1 := hj.out
        rw [List.drop_length] at h1
        simp only [joinT, List.append_nil] at h1
        intro j u t hu ht
        have h2 := join_text s (fun i => bytesFrom (blkB zs len i) 0) ts (good_all HG.out) 0 [] j u t hu ht
        rw [List.nil_append, ← h1, bytesFrom_length] at h2
        refine ⟨h2.1, h2.2.1, h2.2.2.1, by have := h2.2.2.2.1; omega, ?_⟩
        rw [bytes_extract, bytes_extract]
        have h3 := h2.2.2.2.2
        rw [bytesFrom_drop, Nat.zero_add] at h3
        exact h3
      have hul : (joinU (fun i => bytesFrom (blkB zs len i) 0) 0 0 ts).length = ts.length := joinU_length _ _ _ _
      generalize joinU (fun i => bytesFrom (blkB zs len i) 0) 0 0 ts = us at *
      have HU := Lib.hid hul
      clear hul hj HL
      go_wp2_with fail
      refine (scan_ok o us _ (by omega) HS.out).mono ?_
      rintro e w5 ⟨v5, rfl, ht5, hb5⟩
      obtain ⟨a5, cap5, rfl, f1, f2, f3⟩ := ht5
      rw [HU.out] at f1 ⊢
      unfold maxLen at f2
      have hnn : ((ts.length : Int) != (ts.length : Int)) = false := by simp
      go_wp2_with fail
      go_loopw [13] (fun i wx => ∃ k : Nat, k ≤ ts.length ∧ i = .int .i64 k ∧ Below w5.heap.size w5 wx) (fun i _ => ts.length - (intOf i).toNat)
      case atStart => exact ⟨0, by omega, rfl, Below.refl _ _⟩
      case round =>
        obtain ⟨k, hk, rfl, hbx⟩ := hrel
        rename_i wx _
        by_cases hlt : k < ts.length
        · rcases hc3 with rfl | ⟨g, off, rfl, hg0, hc⟩
          · simp at hlt
          rcases f3 with rfl | ⟨g', off', rfl, hg0', hc'⟩
          · have := HU.out; simp at this; omega
          obtain ⟨t, htk⟩ : ∃ t, ts[k]? = some t := ⟨ts[k], List.getElem?_eq_getElem hlt⟩
          obtain ⟨u, huk⟩ : ∃ u, us[k]? = some u := ⟨us[k]'(by rw [HU.out]; exact hlt), List.getElem?_eq_getElem _⟩
          obtain ⟨c0, c1, c2, c3⟩ := hc k t htk
          obtain ⟨e0, e1, e2, e3⟩ := hc' k u huk
          rw [← hbel.cell (p := ⟨g, _, none⟩) hg0, ← hb5.cell (p := ⟨g, _, none⟩) (Nat.lt_of_lt_of_le hg0 hbel.size), ← hbx.cell (p := ⟨g, _, none⟩) (Nat.lt_of_lt_of_le (Nat.lt_of_lt_of_le hg0 hbel.size) hb5.size)] at c0 c1 c2 c3
          rw [← hbx.cell (p := ⟨g', _, none⟩) hg0'] at e0 e1 e2 e3
          obtain ⟨g1, g2, g3, g4, g5⟩ := HG.out.mem t (List.mem_of_getElem? htk)
          obtain ⟨k1, k2, k3, k4, k5⟩ := HT.out k u t huk htk
          rw [k1] at e0
          rw [k2] at e3
          have hstr : ((o.extract u.from_ u.to).toList == (s.extract t.from_ t.to).toList) = true := by
            rw [beq_iff_eq, Lib.toList_data, Lib.toList_data]
            exact k5
          have hstr2 : ((o.extract u.from_ u.to).toList != (s.extract t.from_ t.to).toList) = false := by rw [bne, hstr]; rfl
          have hkk : ((t.kind : Int) != (t.kind : Int)) = false := by simp
          have hnm : ((t.num : Int) != (t.num : Int)) = false := by simp
          have d1 : decide ((u.from_ : Int) < 0) = false := by simp
          have d2 : decide (o.size < u.to) = false := by simp; omega
          have d3 : decide (u.to < u.from_) = false := by simp; omega
          have i1 : (0 : Int) ≤ (t.from_ : Int) := by omega
          have i2 : (t.from_ : Int) ≤ (t.to : Int) := by omega
          have i3 : (t.to : Int) ≤ (s.size : Int) := by omega
          have j1 : (0 : Int) ≤ (u.from_ : Int) := by omega
          have j2 : (u.from_ : Int) ≤ (u.to : Int) := by omega
          have j3 : (u.to : Int) ≤ (o.size : Int) := by omega
          have HX := Lib.hid hc
          have HX' := Lib.hid hc'
          clear hc hc' htk huk g2 g5 k1 k2 k5
          go_wp2_with fail
          simp only [List.append_eq, List.cons_append, List.nil_append]
          go_quiet (fail)
          go_wp2_with fail
          exact ⟨⟨k + 1, by omega, by go_num, below_drewN hbx _⟩, by simp [intOf]; omega⟩
        · go_wp2_with (go_at_call 10; refine (awake_any _).mono ?_; rintro e w3 ⟨rfl, hb3⟩)
          go_ret
          exact ⟨rfl, bthen (bthen (bthen (bthen (bthen hb1 hb2) hbel) hb5) hbx) hb3⟩

theorem walk_LexerIgnoresBlanks (s : ByteArray) (a : Option Addr) (len cap : Nat) (zs : List Int) (w : World) (hs : s.size ≤ maxLen) (hr : IsRow .u8 w a len cap zs) :
    Calls Try.prog 7 #[.string s, .slice a len cap] w fun e w' => e = .returned (.bool true) ∧ Below w.heap.size w w' := by
  unfold maxLen at hs
  by_cases h2 : 2000 < s.size
  · exact walk_LexerIgnoresBlanks_bad s w a len cap fun w => fair_long s w hs h2
  · rcases hsc : scanF s with ⟨p, x⟩ | ts
    · exact walk_LexerIgnoresBlanks_bad s w a len cap fun w => fair_err s p x w hs hsc
    · by_cases h1 : 1000 < s.size
      · exact walk_LexerIgnoresBlanks_long s ts w a len cap (by omega) h1 hsc
      · exact walk_LexerIgnoresBlanks_ok s ts w a len cap zs (by omega) hsc hr
end Go.Proofs.Ytcaliinineajkaa
