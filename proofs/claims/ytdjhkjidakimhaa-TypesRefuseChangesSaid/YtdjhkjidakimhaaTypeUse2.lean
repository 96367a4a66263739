/- The walk over the law TypesIgnoreNumbers. -/
import Derived.Test.YtdjhkjidakimhaaTypeUse
import Derived.Test.YtdjhkjidakimhaaTypeMath2
import Derived.Test.YtdjhkjidakimhaaOwn
set_option linter.unusedVariables false
namespace Go.Proofs.Ytdjhkjidakimhaa
open Go.RowKit

theorem infoTerm : (Try.prog.info? 32).map (fun i => (i.zero, i.size, i.bytes)) = some (some (.agg #[.int .i64 0, .int .i64 0]), 2, 16) := by kernel_rfl
theorem tcell_one (l : List Tm) : ∀ u ∈ l.flatMap tcell, u.oneCell' = true := by
  intro u hu
  rw [List.mem_flatMap] at hu
  obtain ⟨t, _, h⟩ := hu
  simp [tcell] at h
  rcases h with rfl | rfl <;> rfl
theorem terms_row {w : World} {v : Value} {l : List Tm} (h : Terms w v l) : Row w v 2 l.length (l.flatMap tcell) := h
theorem row_terms {w : World} {v : Value} {l : List Tm} {n : Nat} (h : Row w v 2 n (l.flatMap tcell)) (hn : n = l.length) : Terms w v l := by subst hn; exact h
theorem tcell_get (l : List Tm) (k : Nat) (t : Tm) (h : l[k]? = some t) : (l.flatMap tcell)[k * 2]? = some (.int .i64 t.1) ∧ (l.flatMap tcell)[k * 2 + 1]? = some (.int .i64 t.2) :=
  ⟨flat_get tcell 2 (fun _ => rfl) l k 0 t _ h rfl, flat_get tcell 2 (fun _ => rfl) l k 1 t _ h rfl⟩

set_option maxHeartbeats 400000 in
theorem mod_any (k n : Int) (w : World) (hk : In64 k) (h1 : 1 ≤ n) (h2 : n ≤ 1073741825) : Calls Try.prog 19 #[.int .i64 k, .int .i64 n] w fun e w' => e = .returned (.int .i64 (k % n)) ∧ w = w' := by
  obtain ⟨k1, k2⟩ := hk
  have H := Lib.hid (tmod_emod k n (by omega))
  have b1 : -n < k.tmod n := by
    have := Int.lt_tmod_of_pos k (show 0 < n by omega)
    omega
  have b2 : k.tmod n < n := Int.tmod_lt_of_pos k (by omega)
  have b3 : (n == 0) = false := by simp; omega
  by_cases h0 : 0 ≤ k
  · have e0 : Hid (k.tmod n = k % n) := Int.tmod_eq_emod_of_nonneg h0
    have g0 := Int.emod_nonneg k (show n ≠ 0 by omega)
    clear b1 b2
    go_enter Try.func19, Try.ntmps19
    go_wp2
    all_goals go_ret
    all_goals exact ⟨rfl, rfl⟩
  · by_cases hlt : k.tmod n < 0
    all_goals
      go_enter Try.func19, Try.ntmps19
      go_wp2
      go_ret
      refine ⟨ret_int ?_, rfl⟩
      rw [← H.out]
      first | rw [if_pos hlt] | rw [if_neg (by omega)]

/-- The row that the law changes, after k rounds. -/
def MixAt (g : Tm → Tm) (l : List Tm) (w : World) (xv : Value) (k : Nat) (wr : World) : Prop :=
  wr.ownsRow w.heap.size 32 2 xv l.length ((mix g l k).flatMap tcell) ∧ Below w.heap.size w wr
set_option maxHeartbeats 4000000 in
theorem walk_TypesIgnoreNumbers (ev : Value) (l : List Tm) (kv : Value) (kinds : List Int) (bound : Bool) (by_ : Int) (w : World) (hv0 : Terms w ev l ∧ ∀ t ∈ l, TermIn t) (hk0 : Ints .i64 w kv kinds ∧ ∀ x ∈ kinds, In64 x) (hb0 : (Lit.int .i64 by_).wf = true) :
    Calls Try.prog 6 #[ev, kv, .bool bound, .int .i64 by_] w fun e w' => e = .returned (.bool true) ∧ Below w.heap.size w w' := by
  obtain ⟨hv, hin⟩ := hv0
  obtain ⟨hk, _⟩ := hk0
  have HIN := Lib.hid hin
  have HB := Lib.hid (wf64 hb0)
  have HV := Lib.hid hv
  have HK := Lib.hid hk
  obtain ⟨a0, cap0, rfl, h1, h2, h3, h4⟩ := hk.open
  clear h3 h4 hv hk hin hb0
  by_cases hl : l.length ≤ 250
  · have b1 : decide (l.length ≤ 250) = true := by simp; omega
    by_cases h10 : 10 < kinds.length
    · go_enter Try.func6, Try.ntmps6
      go_wp2_with (first | (go_at_call 11; refine (light_any _ l _ HV).mono ?_; rintro e w1 ⟨rfl, rfl⟩) | (go_at_call 12; refine (awake_any _).mono ?_; rintro e w1 ⟨rfl, hb1⟩))
      go_ret
      exact ⟨rfl, hb1⟩
    · have b10 : decide (10 < kinds.length) = false := by simp; omega
      have b10' : decide (10 < (kinds.length : Int)) = false := by simp; omega
      obtain ⟨i0, hi, hz0, hz1, hz2⟩ := info_parts infoTerm
      have Hi := Lib.hid hi
      have Hz0 := Lib.hid hz0
      have Hz1 := Lib.hid hz1
      have Hz2 := Lib.hid hz2
      clear hi hz0 hz1 hz2
      obtain ⟨nv, hnv⟩ : ∃ nv, nv = by_ % 1073741825 := ⟨_, rfl⟩
      have HNV := Lib.hid hnv
      have hn0 : 0 ≤ nv := by rw [hnv]; exact Int.emod_nonneg _ (by omega)
      have hn1 : nv ≤ 1073741824 := by have := Int.emod_lt_of_pos by_ (show (0 : Int) < 1073741825 by omega); omega
      clear hnv
      go_enter Try.func6, Try.ntmps6
      go_wp2_with (first | (go_at_call 11; refine (light_any _ l _ HV).mono ?_; rintro e w1 ⟨rfl, rfl⟩) | (at_builtin; refine wpList_append_row _ rfl _ _ 22 rfl w.heap.size 32 i0 (.agg #[.int .i64 0, .int .i64 0]) 2 16 Try.underlying22 Hi.out Hz0.out Hz1.out Hz2.out rfl (by decide) (.slice none 0 0) 0 [] rfl (World.ownsRow_nil _ _ _ _) _ l.length (l.flatMap tcell) rfl (terms_row HV.out) (tcell_one l) (by unfold maxLen; omega) (by omega) (Nat.le_refl _) ?_; intro xv w1 hown hgrow))
      have HM : Hid (MixAt (numG nv) l w xv 0 w1) := by
        refine ⟨?_, (Below.refl _ _).grown hgrow (Nat.le_refl _) (by simp [Value.ownBlock])⟩
        rw [mix_zero]; simpa using hown
      clear hown hgrow
      obtain ⟨xa, xcap, rfl⟩ := own_shape HM.out.1
      go_wp2_with fail
      go_loopw [10] (fun i wr => ∃ k : Nat, k ≤ l.length ∧ i = .int .i64 k ∧ Hid (MixAt (numG nv) l w (.slice xa l.length xcap) k wr)) (fun i _ => l.length - (intOf i).toNat)
      case atStart => exact ⟨0, by omega, rfl, HM⟩
      case round =>
        obtain ⟨k, hkl, rfl, hm⟩ := hrel
        by_cases hlt : k < l.length
        · obtain ⟨hown, hbel⟩ := hm.out
          have hsh : ∃ g, xa = some ⟨g, 0, none⟩ := by
            rcases hown.2 with ⟨h0, h00⟩ | ⟨g, cap, cur, hv, _⟩
            · omega
            · cases hv; exact ⟨g, rfl⟩
          obtain ⟨g, rfl⟩ := hsh
          obtain ⟨d0, d1⟩ := tcell_get _ k _ (mix_get (numG nv) l k hlt)
          have c0 := (hown.cellAt (k * 2) (by omega)).trans d0
          have c1 := (hown.cellAt (k * 2 + 1) (by omega)).trans d1
          have f1 := hown.frozenAt (k * 2 + 1)
          have HS := Lib.hid (mix_succ (numG nv) l k hlt)
          have HT := Lib.hid (HIN.out _ (List.getElem_mem hlt))
          have HST := Lib.hid (hown.stored (k * 2 + 1) (.int .i64 nv))
          have HFS := Lib.hid (flat_set (mix (numG nv) l k) k l[k] nv (mix_get (numG nv) l k hlt))
          have HG := Lib.hid (own_ge hown)
          clear hown d0 d1
          generalize hop : l[k].1 = op at *
          generalize hx : l[k].2 = x at *
          have HLK := Lib.hid (show l[k] = (op, x) from Prod.ext hop hx)
          clear hop hx
          by_cases hc : op = 1 ∧ 0 ≤ x ∧ x ≤ 1073741824
          · obtain ⟨hc1, hc2, hc3⟩ := hc
            have e1 : (op == 1) = true := by simpa using hc1
            have HO := Lib.hid hc1
            clear hc1
            go_wp2_with (go_at_call 19; refine (mod_any _ _ _ HB.out (by omega) (by omega)).mono ?_; rintro e w2 ⟨rfl, rfl⟩)
            rw [← HNV.out]
            go_wp2_with fail
            refine ⟨⟨k + 1, by omega, by go_num, ?_, hbel.setCell (HG.out g rfl) _⟩, by simp [intOf]; omega⟩
            rw [HS.out, HLK.out, numG, if_pos ⟨HO.out, hc2, hc3⟩]
            have := HST.out.1
            rw [HFS.out] at this
            exact this
          · have hg : Hid (numG nv l[k] = l[k]) := by rw [HLK.out]; unfold Hid numG; rw [if_neg hc]
            have hm2 : Hid (MixAt (numG nv) l w (.slice (some ⟨g, 0, none⟩) l.length xcap) (k + 1) wr) := by
              unfold Hid MixAt
              rw [HS.out, hg.out, set_self _ _ _ (mix_get (numG nv) l k hlt)]
              exact hm.out
            have hc' : (op == 1) = false ∨ ((op == 1) = true ∧ (x < 0 ∨ (0 ≤ x ∧ 1073741824 < x))) := by
              by_cases h : op = 1
              · exact .inr ⟨by simpa using h, by omega⟩
              · exact .inl (by simpa using h)
            clear hc hg
            rcases hc' with e1 | ⟨e1, e2 | ⟨e2, e3⟩⟩
            all_goals
              go_wp2_with fail
              exact ⟨⟨k + 1, by omega, by go_num, hm2⟩, by simp [intOf]; omega⟩
        · obtain rfl : k = l.length := by omega
          obtain ⟨hown, hbel⟩ := hm.out
          rw [mix_all] at hown
          have HR := Lib.hid (row_terms (row_of_own hown) (by simp))
          obtain ⟨a, b, hab⟩ : ∃ a b, ofF l kinds bound = (a, b) := ⟨_, _, rfl⟩
          have H2 := Lib.hid ((ofF_num nv ⟨hn0, hn1⟩ l kinds bound).trans hab)
          have H := Lib.hid hab
          have e1 : (a == a) = true := by simp
          have e2 : (b == b) = true := by simp
          have hlm := Lib.hid (show (l.map (numG nv)).length = l.length by simp)
          clear hab hown
          go_wp2_with fail
          refine (of_is _ _ l kinds bound a b _ (by omega) (HV.out.below hbel) (HK.out.below hbel) H.out).mono ?_
          rintro e w2 ⟨rfl, hb2⟩
          go_wp2_with fail
          refine (of_is _ _ (l.map (numG nv)) kinds bound a b _ (by rw [hlm.out]; omega) (HR.out.below hb2) (HK.out.below (bthen hbel hb2)) H2.out).mono ?_
          rintro e w3 ⟨rfl, hb3⟩
          go_wp2_with (go_at_call 12; refine (awake_any _).mono ?_; rintro e w4 ⟨rfl, hb4⟩)
          go_ret
          exact ⟨rfl, bthen (bthen (bthen hbel hb2) hb3) hb4⟩
  · have b1 : decide (l.length ≤ 250) = false := by simp; omega
    go_enter Try.func6, Try.ntmps6
    go_wp2_with (first | (go_at_call 11; refine (light_any _ l _ HV).mono ?_; rintro e w1 ⟨rfl, rfl⟩) | (go_at_call 12; refine (awake_any _).mono ?_; rintro e w1 ⟨rfl, hb1⟩))
    go_ret
    exact ⟨rfl, hb1⟩
end Go.Proofs.Ytdjhkjidakimhaa
