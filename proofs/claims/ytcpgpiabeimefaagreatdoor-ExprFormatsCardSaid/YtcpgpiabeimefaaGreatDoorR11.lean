/- Part 11 of the texts under ExprFormats,ExprBracketsEverything: joined, with what it needs alone. -/
import Derived.Below
import Derived.WalkSmall
import Derived.Test.YtcpgpiabeimefaaGreatDoorR4
import Derived.Test.YtcpgpiabeimefaaGreatDoorR8
import Derived.Test.YtcpgpiabeimefaaGreatDoorR10
set_option linter.unusedVariables false
namespace Go.Proofs.YtcpgpiabeimefaaGreatDoor
open Go.RowKit
variable {nm : Bs → Bool} {names : List Bs}
def pwT (s : ByteArray) (t : Tok) : PW := ⟨(yaj s t.from_).take (t.to - t.from_), t.kind, t.num⟩
inductive Scans : Bs → List PW → Prop
  | nil {l : Bs} (h : l.drop (yco false l) = []) : Scans l []
  | cons {l y r : Bs} {k v : Nat} {ws : List PW} (h : l.drop (yco false l) = y ++ r) (hy : y ≠ []) (ht : yhv (y ++ r) = .ok (k, y.length, v)) (hr : Scans r ws) : Scans l (⟨y, k, v⟩ :: ws)
theorem scan_of (s : ByteArray) {l : Bs} {ws : List PW} (h : Scans l ws) : ∀ (left p : Nat), ws.length ≤ left → yaj s p = l → ∃ ts, ygw left p l = .ok ts ∧ ts.map (pwT s) = ws := by
  induction h with
  | @nil l h =>
    intro left p hl hp
    refine ⟨[], ?_, rfl⟩
    cases left <;> rw [ygw, if_pos h]
  | @cons l y r k v ws h hy ht hr ih =>
    intro left p hl hp
    simp only [List.length_cons] at hl
    obtain ⟨left, rfl⟩ : ∃ m, left = m + 1 := ⟨left - 1, by omega⟩
    have hd : (l.drop (yco false l)).drop y.length = r := by rw [h, List.drop_left]
    have hp2 : yaj s (p + yco false l + y.length) = r := by rw [← bytesFrom_drop, ← bytesFrom_drop, hp, hd]
    obtain ⟨ts, h1, h2⟩ := ih left (p + yco false l + y.length) (by omega) hp2
    refine ⟨⟨k, p + yco false l, p + yco false l + y.length, v⟩ :: ts, ?_, ?_⟩
    · rw [ygw, if_neg (by rw [h]; simp [hy]), h, ht]
      simp only
      rw [List.drop_left, h1]; rfl
    · rw [List.map_cons, h2, pwT]
      simp only [Nat.add_sub_cancel_left]
      rw [← bytesFrom_drop, hp, h, List.take_left]
theorem scanF_of {s : ByteArray} {ws : List PW} (h : Scans (bl s) ws) (hs : s.size ≤ 16384) (hw : ws.length ≤ 4096) : ∃ ts, ygv s = .ok ts ∧ ts.map (pwT s) = ws := by
  obtain ⟨ts, h1, h2⟩ := scan_of s h 4096 0 hw rfl
  exact ⟨ts, by rw [ygv, if_neg (by omega)]; exact h1, h2⟩
theorem skip_zero_of {c : UInt8} {r : Bs} (h : ygy c = false) : yco false (c :: r) = 0 := by
  simp only [ygy, Bool.or_eq_false_iff, beq_eq_false_iff_ne] at h
  rw [yco, if_neg (by rintro (e | e | e | e) <;> simp_all), if_neg h.2]
theorem ygd {r : Bs} {ws : List PW} (h : Scans r ws) : Scans (32 :: r) ws := by
  have e : (32 :: r : Bs).drop (yco false (32 :: r)) = r.drop (yco false r) := by
    rw [yco, if_pos (.inl rfl), Nat.add_comm, List.drop_succ_cons]
  cases h with
  | nil h => exact .nil (e.trans h)
  | cons h hy ht hr => exact .cons (e.trans h) hy ht hr
theorem scans_tok {c : UInt8} {y r : Bs} {k v : Nat} {ws : List PW} (hc : ygy c = false) (ht : yhv ((c :: y) ++ r) = .ok (k, (c :: y).length, v)) (hr : Scans r ws) : Scans ((c :: y) ++ r) (⟨c :: y, k, v⟩ :: ws) :=
  .cons (by rw [List.cons_append, skip_zero_of hc, List.drop_zero]) (by simp) ht hr
def yiu (p : UInt8 → Bool) (r : Bs) : Prop := ∀ c x, r = c :: x → p c = false
theorem run_begins {p : UInt8 → Bool} {r : Bs} (h : yiu p r) : yjp p r = 0 := by
  cases r with
  | nil => rfl
  | cons c x => rw [yjp, if_neg (by rw [h c x rfl]; simp)]
theorem run_word {p : UInt8 → Bool} {r : Bs} (h : yiu p r) : ∀ {w : Bs}, (∀ c ∈ w, p c = true) → yjp p (w ++ r) = w.length
  | [], _ => run_begins h
  | c :: w, hw => by rw [List.cons_append, yjp, if_pos (hw c (by simp)), run_word h fun d hd => hw d (by simp [hd]), List.length_cons, Nat.add_comm]
theorem letter_blank {c : UInt8} (h : yce c = true) : ygy c = false := by
  cases hb : ygy c with
  | false => rfl
  | true => rw [(blank_word hb).2.2] at h; cases h
theorem digit_blank {c : UInt8} (h : ybq c = true) : ygy c = false := by
  cases hb : ygy c with
  | false => rfl
  | true => rw [(blank_word hb).2.1] at h; cases h
def yhr (w : Bs) : Prop := w.length ≤ 24 ∧ (∀ c ∈ w, ydu c = true) ∧ ∃ c x, w = c :: x ∧ yce c = true
theorem scans_name {w r : Bs} {ws : List PW} (hw : yhr w) (hb : yiu ydu r) (hr : Scans r ws) : Scans (w ++ r) (pwN w :: ws) := by
  obtain ⟨h24, hall, c, x, rfl, hc⟩ := hw
  refine scans_tok (letter_blank hc) ?_ hr
  rw [List.cons_append, yhv]
  rw [if_pos hc, ← List.cons_append, run_word hb hall, if_neg (by omega)]
theorem digit_of {c : UInt8} (h : 48 ≤ c.toNat ∧ c.toNat ≤ 57) : ybq c = true := by
  unfold ybq
  have h1 : (48 : UInt8) ≤ c := by rw [UInt8.le_iff_toNat_le]; exact h.1
  have h2 : c ≤ (57 : UInt8) := by rw [UInt8.le_iff_toNat_le]; exact h.2
  simp [h1, h2]
theorem digit_letter {c : UInt8} (h : ybq c = true) : yce c = false := by
  have := digit_bd c h
  unfold yce
  have h1 : ¬ (97 : UInt8) ≤ c := by rw [UInt8.le_iff_toNat_le]; have : (97 : UInt8).toNat = 97 := rfl; omega
  have h2 : ¬ (65 : UInt8) ≤ c := by rw [UInt8.le_iff_toNat_le]; have : (65 : UInt8).toNat = 65 := rfl; omega
  simp [h1, h2]
theorem numL_dec (n : Nat) : yjh 0 (dec n) = n := by
  induction n using Nat.strongRecOn with
  | _ n ih =>
    by_cases h : n < 10
    · rw [yfr h, numL_cons, numL_nil, dig, digit_nat h]; omega
    · rw [dec_big h, numL_snoc, ih (n / 10) (by omega), dig, digit_nat (by omega)]; omega
theorem numRes_dec {n : Nat} (h : n ≤ 1073741824) : ygr (dec n) = some n := by
  rw [numRes_ok, numL_dec]
  · rintro ⟨h1, h2⟩
    by_cases h0 : n < 10
    · rw [yfr h0] at h1; simp at h1
    · exact dec_head n (by omega) h2
  · rw [numL_dec]; exact h
theorem scans_num {n : Nat} {r : Bs} {ws : List PW} (hn : n ≤ 1073741824) (hb : yiu ybq r) (hr : Scans r ws) : Scans (dec n ++ r) (pwV n :: ws) := by
  have hall : ∀ c ∈ dec n, ybq c = true := fun c hc => digit_of (dec_digits n c hc)
  have hp := dec_pos n
  have hres := numRes_dec hn
  unfold pwV
  generalize dec n = ds at *
  cases ds with
  | nil => simp at hp
  | cons c x =>
    have hc := hall c (by simp)
    refine scans_tok (digit_blank hc) ?_ hr
    rw [List.cons_append, yhv]
    rw [if_neg (by rw [digit_letter hc]; simp), if_pos hc, ← List.cons_append, run_word hb hall, List.take_left, hres]
theorem scans_sign2 {a b : UInt8} {r : Bs} {ws : List PW} (h : yfj a b = true) (h1 : yce a = false) (h2 : ybq a = false) (h3 : ygy a = false) (hr : Scans r ws) : Scans ([a, b] ++ r) (pwS [a, b] :: ws) := by
  refine scans_tok h3 ?_ hr
  show yhv (a :: b :: r) = _
  rw [yhv]
  rw [if_neg (by rw [h1]; simp), if_neg (by rw [h2]; simp), ygf, if_pos h, if_neg (by omega)]
  rfl
theorem ycs {a : UInt8} {r : Bs} {ws : List PW} (h : sign1B a = true) (hb : yiu (yfj a) r) (h1 : yce a = false) (h2 : ybq a = false) (h3 : ygy a = false) (hr : Scans r ws) : Scans (a :: r) (pwS [a] :: ws) := by
  refine scans_tok (y := []) h3 ?_ hr
  show yhv (a :: r) = _
  rw [yhv]
  have hs : ygf (a :: r) = 1 := by
    cases r with
    | nil => rw [ygf, if_pos h]
    | cons b r => rw [ygf, if_neg (by rw [hb b r rfl]; simp), if_pos h]
  rw [if_neg (by rw [h1]; simp), if_neg (by rw [h2]; simp), hs, if_neg (by omega)]
  rfl
def FT (r : Bs) : Prop := ∀ c x, r = c :: x → c = 32 ∨ c = 41 ∨ c = 44 ∨ c = 59
theorem FT.begins {r : Bs} {p : UInt8 → Bool} (h : FT r) (h1 : p 32 = false) (h2 : p 41 = false) (h3 : p 44 = false) (h4 : p 59 = false) : yiu p r := by
  intro c x e
  rcases h c x e with rfl | rfl | rfl | rfl <;> assumption
theorem ft_sp {r : Bs} : FT (32 :: r) := fun c x e => by cases e; exact .inl rfl
theorem ft_par {r : Bs} : FT (41 :: r) := fun c x e => by cases e; exact .inr (.inl rfl)
theorem ydz {p : UInt8 → Bool} {c : UInt8} {r : Bs} (h : p c = false) : yiu p (c :: r) := fun d x e => by cases e; exact h
def headB (c : UInt8) : Bool := yce c || ybq c || c == 40 || c == 45 || c == 33
theorem wr_head (hn : ∀ w ∈ names, yhr w) {l : Nat} {E : Ex} {x : Bs} {ws : List PW} (h : Wr names l E x ws) : ∃ c y, x = c :: y ∧ headB c = true := by
  induction h with
  | down hl h ih => exact ih
  | paren h ih => exact ⟨_, _, rfl, rfl⟩
  | choice ha hb hc iha ihb ihc => obtain ⟨c, y, rfl, h⟩ := iha; exact ⟨c, _, rfl, h⟩
  | bin h0 hw hl h3 ha hb iha ihb => obtain ⟨c, y, rfl, h⟩ := iha; exact ⟨c, _, rfl, h⟩
  | cmp h0 hw hl ha hb iha ihb => obtain ⟨c, y, rfl, h⟩ := iha; exact ⟨c, _, rfl, h⟩
  | neg ha iha => exact ⟨_, _, rfl, rfl⟩
  | not ha iha => exact ⟨_, _, rfl, rfl⟩
  | @agg op w a xa wa h0 hw ha iha =>
    have : ∀ w ∈ ykc, ∃ c y, w = c :: y ∧ headB c = true := by
      intro w hw
      simp only [ykc, List.mem_cons, List.not_mem_nil, or_false] at hw
      rcases hw with rfl | rfl | rfl | rfl | rfl | rfl | rfl | rfl | rfl | rfl <;> exact ⟨_, _, rfl, rfl⟩
    obtain ⟨c, y, rfl, h⟩ := this w hw
    exact ⟨c, _, rfl, h⟩
  | @num n hn =>
    have hp := dec_pos n
    have hd := dec_digits n
    generalize dec n = ds at *
    cases ds with
    | nil => simp at hp
    | cons c y => exact ⟨c, y, rfl, by simp [headB, digit_of (hd c (by simp))]⟩
  | @own i w h =>
    obtain ⟨_, _, c, y, rfl, hc⟩ := hn w (List.mem_of_getElem? h)
    exact ⟨c, y, rfl, by simp [headB, hc]⟩
  | near h => exact ⟨_, _, rfl, rfl⟩
  | here => exact ⟨_, _, rfl, rfl⟩
  | @const op w h0 hw hne =>
    simp only [ygp, List.mem_cons, List.not_mem_nil, or_false] at hw
    rcases hw with rfl | rfl | rfl | rfl | rfl | rfl | rfl | rfl | rfl
    all_goals first | exact ⟨_, _, rfl, rfl⟩ | exact absurd rfl hne
  | field h0 hw => exact ⟨_, _, rfl, rfl⟩
theorem sign2_head {c : UInt8} (h : headB c = true) : yfj 45 c = false ∧ yfj 33 c = false := by
  have : c ≠ 62 ∧ c ≠ 61 := ⟨fun e => by subst e; revert h; decide, fun e => by subst e; revert h; decide⟩
  simp [yfj, this]
theorem agg_ok : ∀ w ∈ ykc, yhr w := by
  intro w hw
  simp only [ykc, List.mem_cons, List.not_mem_nil, or_false] at hw
  rcases hw with rfl | rfl | rfl | rfl | rfl | rfl | rfl | rfl | rfl | rfl <;> exact ⟨by decide, by decide, _, _, rfl, rfl⟩
theorem const_ok : ∀ w ∈ ygp, w ≠ [] → yhr w := by
  intro w hw hne
  simp only [ygp, List.mem_cons, List.not_mem_nil, or_false] at hw
  rcases hw with rfl | rfl | rfl | rfl | rfl | rfl | rfl | rfl | rfl
  all_goals first | exact absurd rfl hne | exact ⟨by decide, by decide, _, _, rfl, rfl⟩
theorem field_ok : ∀ w ∈ yha, yhr w := by
  intro w hw
  simp only [yha, List.mem_cons, List.not_mem_nil, or_false] at hw
  rcases hw with rfl | rfl | rfl | rfl | rfl <;> exact ⟨by decide, by decide, _, _, rfl, rfl⟩
theorem q_ok : yhr [113] := ⟨by decide, by decide, _, _, rfl, rfl⟩
theorem scans_bin {w r : Bs} {ws : List PW} (hw : w ∈ ykk) (hr : Scans r ws) : Scans (w ++ (32 :: r)) (pwS w :: ws) := by
  simp only [ykk, List.mem_cons, List.not_mem_nil, or_false] at hw
  have h32 : ∀ a, yfj a 32 = false := fun a => blank_sign rfl a
  rcases hw with rfl | rfl | rfl | rfl | rfl | rfl | rfl | rfl | rfl | rfl | rfl | rfl | rfl
  all_goals first
    | exact scans_sign2 rfl rfl rfl rfl (ygd hr)
    | exact ycs rfl (ydz (h32 _)) rfl rfl rfl (ygd hr)
theorem scans_qdot {w r : Bs} {ws : List PW} (hw : yhr w) (hb : yiu ydu r) (hr : Scans r ws) : Scans (113 :: 46 :: (w ++ r)) (pwN [113] :: pwS [46] :: pwN w :: ws) := by
  have h3 := scans_name hw hb hr
  have h2 : Scans (46 :: (w ++ r)) (pwS [46] :: pwN w :: ws) := by
    refine ycs rfl ?_ rfl rfl rfl h3
    obtain ⟨_, _, c, x, rfl, hc⟩ := hw
    refine ydz ?_
    have : c ≠ 46 := fun e => by subst e; revert hc; decide
    simp [yfj, this]
  exact scans_name q_ok (ydz rfl) h2
theorem wr_scans (hn : ∀ w ∈ names, yhr w) {l : Nat} {E : Ex} {x : Bs} {ws : List PW} (h : Wr names l E x ws) : ∀ (r : Bs) (us : List PW), FT r → Scans r us → Scans (x ++ r) (ws ++ us) := by
  induction h with
  | down hl h ih => exact ih
  | @paren E x ws h ih =>
    intro r us hr hs
    have h1 : Scans (41 :: r) (pwS [41] :: us) := ycs rfl (fun c x e => by simp [yfj]) rfl rfl rfl hs
    have h2 := ih _ _ ft_par h1
    have h3 : Scans (40 :: (x ++ 41 :: r)) (pwS [40] :: (ws ++ pwS [41] :: us)) := ycs rfl (fun c x e => by simp [yfj]) rfl rfl rfl h2
    simpa using h3
  | @choice a b c xa xb xc wa wb wc ha hb hc iha ihb ihc =>
    intro r us hr hs
    have h3 := ihc r us hr hs
    have h32 : ∀ a, yfj a 32 = false := fun a => blank_sign rfl a
    have h2 := ihb (32 :: 58 :: 32 :: (xc ++ r)) _ ft_sp (ygd (ycs (a := 58) rfl (ydz (h32 _)) rfl rfl rfl (ygd h3)))
    have h1 := iha (32 :: 63 :: 32 :: (xb ++ (32 :: 58 :: 32 :: (xc ++ r)))) _ ft_sp (ygd (ycs (a := 63) rfl (ydz (h32 _)) rfl rfl rfl (ygd h2)))
    simpa using h1
  | @bin op l w a b xa xb wa wb h0 hw hl h3 ha hb iha ihb =>
    intro r us hr hs
    have h1 := iha (32 :: (w ++ (32 :: (xb ++ r)))) _ ft_sp (ygd (scans_bin hw (ihb r us hr hs)))
    simpa using h1
  | @cmp op w a b xa xb wa wb h0 hw hl ha hb iha ihb =>
    intro r us hr hs
    have h1 := iha (32 :: (w ++ (32 :: (xb ++ r)))) _ ft_sp (ygd (scans_bin hw (ihb r us hr hs)))
    simpa using h1
  | @neg a xa wa ha iha =>
    intro r us hr hs
    have h1 := iha r us hr hs
    obtain ⟨c, y, rfl, hc⟩ := wr_head hn ha
    exact ycs rfl (ydz (sign2_head hc).1) rfl rfl rfl h1
  | @not a xa wa ha iha =>
    intro r us hr hs
    have h1 := iha r us hr hs
    obtain ⟨c, y, rfl, hc⟩ := wr_head hn ha
    exact ycs rfl (ydz (sign2_head hc).2) rfl rfl rfl h1
  | @agg op w a xa wa h0 hw ha iha =>
    intro r us hr hs
    have h1 : Scans (41 :: r) (pwS [41] :: us) := ycs rfl (fun c x e => by simp [yfj]) rfl rfl rfl hs
    have h2 := iha _ _ ft_par h1
    have h3 : Scans (40 :: (xa ++ 41 :: r)) (pwS [40] :: (wa ++ pwS [41] :: us)) := ycs rfl (fun c x e => by simp [yfj]) rfl rfl rfl h2
    have h4 := scans_name (agg_ok w hw) (ydz rfl) h3
    simpa using h4
  | @num n hn => exact fun r us hr hs => scans_num hn (hr.begins rfl rfl rfl rfl) hs
  | @own i w h => exact fun r us hr hs => scans_name (hn w (List.mem_of_getElem? h)) (hr.begins rfl rfl rfl rfl) hs
  | @near i w h => exact fun r us hr hs => scans_qdot (hn w (List.mem_of_getElem? h)) (hr.begins rfl rfl rfl rfl) hs
  | here => exact fun r us hr hs => scans_name q_ok (hr.begins rfl rfl rfl rfl) hs
  | @const op w h0 hw hne => exact fun r us hr hs => scans_name (const_ok w hw hne) (hr.begins rfl rfl rfl rfl) hs
  | @field op w h0 hw => exact fun r us hr hs => scans_qdot (field_ok w hw) (hr.begins rfl rfl rfl rfl) hs
end Go.Proofs.YtcpgpiabeimefaaGreatDoor
set_option linter.unusedVariables false
namespace Go.Proofs.YtcpgpiabeimefaaGreatDoor
open Go.RowKit
namespace Ex
def op : Ex → Int
  | lf t => t.1
  | un t _ => t.1
  | bi t _ _ => t.1
  | tr t _ _ _ => t.1
end Ex
def ykw (op : Int) : Bs := (ykk[(op - 30).toNat]?).getD []
def ykv (op : Int) : Bs := (ykc[(op - 20).toNat]?).getD []
def constW (op : Int) : Bs := (ygp[(op - 2).toNat]?).getD []
def fieldW (op : Int) : Bs := (yha[(op - 13).toNat]?).getD []
def yje (names : List Bs) (i : Int) : Bs := (names[i.toNat]?).getD []
def ygb (names : List Bs) (t : Tm) : Bs :=
  if t.1 = 1 then dec t.2.toNat else if t.1 = 5 then yje names t.2 else if t.1 = 11 then [113] else if t.1 = 12 then 113 :: 46 :: yje names t.2 else if 13 ≤ t.1 then 113 :: 46 :: fieldW t.1 else constW t.1
def leafP (names : List Bs) (t : Tm) : List PW :=
  if t.1 = 1 then [pwV t.2.toNat] else if t.1 = 5 then [pwN (yje names t.2)] else if t.1 = 11 then [pwN [113]] else if t.1 = 12 then [pwN [113], pwS [46], pwN (yje names t.2)] else if 13 ≤ t.1 then [pwN [113], pwS [46], pwN (fieldW t.1)] else [pwN (constW t.1)]
def brT (b : Bool) (x : Bs) : Bs := match b with
  | true => 40 :: (x ++ [41])
  | false => x
def brP (b : Bool) (x : List PW) : List PW := match b with
  | true => pwS [40] :: (x ++ [pwS [41]])
  | false => x
def ybf (l : Nat) (E : Ex) : Bool := decide (ydo E.op < l)
def yih (op : Int) : Nat := if ydo op = 3 then 4 else ydo op
def yax (al : Bool) (names : List Bs) : Ex → Bs
  | .lf t => ygb names t
  | .un t a => if t.1 = 18 then 45 :: brT (al || ybf 6 a) (yax al names a) else if t.1 = 19 then 33 :: brT (al || ybf 6 a) (yax al names a) else ykv t.1 ++ (40 :: (yax al names a ++ [41]))
  | .bi t a b => brT (al || ybf (yih t.1) a) (yax al names a) ++ (32 :: (ykw t.1 ++ (32 :: brT (al || ybf (ydo t.1 + 1) b) (yax al names b))))
  | .tr _ a b c => brT (al || ybf 1 a) (yax al names a) ++ (32 :: 63 :: 32 :: (brT al (yax al names b) ++ (32 :: 58 :: 32 :: brT al (yax al names c))))
def ygj (al : Bool) (names : List Bs) : Ex → List PW
  | .lf t => leafP names t
  | .un t a => if t.1 = 18 then pwS [45] :: brP (al || ybf 6 a) (ygj al names a) else if t.1 = 19 then pwS [33] :: brP (al || ybf 6 a) (ygj al names a) else pwN (ykv t.1) :: pwS [40] :: (ygj al names a ++ [pwS [41]])
  | .bi t a b => brP (al || ybf (yih t.1) a) (ygj al names a) ++ (pwS (ykw t.1) :: brP (al || ybf (ydo t.1 + 1) b) (ygj al names b))
  | .tr _ a b c => brP (al || ybf 1 a) (ygj al names a) ++ (pwS [63] :: (brP al (ygj al names b) ++ (pwS [58] :: brP al (ygj al names c))))
theorem Wr.downs {names : List Bs} {E : Ex} {x : Bs} {ws : List PW} {k : Nat} (hk : k ≤ 7) (h : Wr names k E x ws) : ∀ {l : Nat}, l ≤ k → Wr names l E x ws := by
  intro l hl
  obtain ⟨d, rfl⟩ := Nat.exists_eq_add_of_le hl
  clear hl
  induction d generalizing l with
  | zero => exact h
  | succ d ih => exact .down (by omega) (ih (l := l + 1) (by omega) (by rw [show l + 1 + d = l + (d + 1) by omega]; exact h))
theorem levO_le (op : Int) : ydo op ≤ 7 := by unfold ydo; (repeat' split) <;> omega
theorem yki {names : List Bs} {E : Ex} {x : Bs} {ws : List PW} (h : Wr names (ydo E.op) E x ws) {l : Nat} (hl : l ≤ 7) {b : Bool} (hb : b = false → l ≤ ydo E.op) : Wr names l E (brT b x) (brP b ws) := by
  cases b with
  | true => exact (Wr.paren (h.downs (levO_le _) (Nat.zero_le _))).downs (by omega) hl
  | false => exact h.downs (levO_le _) (hb rfl)
theorem bin_op : ∀ k : Fin 13, ygo (ykw (30 + (k : Nat))) = 30 + (k : Nat) ∧ ykw (30 + (k : Nat)) ∈ ykk ∧ 1 ≤ ydo (30 + (k : Nat)) ∧ ydo (30 + (k : Nat)) ≤ 5 ∧ (ykw (30 + (k : Nat))).length ≤ 2 := by decide
theorem agg_op : ∀ k : Fin 10, yko (ykv (20 + (k : Nat))) = 20 + (k : Nat) ∧ ykv (20 + (k : Nat)) ∈ ykc ∧ ydo (20 + (k : Nat)) = 7 ∧ (ykv (20 + (k : Nat))).length ≤ 6 := by decide
theorem const_op : ∀ k : Fin 9, k ≠ 3 → yfk (constW (2 + (k : Nat))) = 2 + (k : Nat) ∧ constW (2 + (k : Nat)) ∈ ygp ∧ constW (2 + (k : Nat)) ≠ [] ∧ (constW (2 + (k : Nat))).length ≤ 5 := by decide
theorem field_op : ∀ k : Fin 5, yfz (fieldW (13 + (k : Nat))) = 13 + (k : Nat) ∧ fieldW (13 + (k : Nat)) ∈ yha ∧ (fieldW (13 + (k : Nat))).length ≤ 6 := by decide
theorem yhb {op lo : Int} {n : Nat} (h1 : lo ≤ op) (h2 : op < lo + n) : ∃ k : Fin n, op = lo + (k : Nat) := ⟨⟨(op - lo).toNat, by omega⟩, by simp only; omega⟩
theorem levO_7 {op : Int} (h : op ≤ 17 ∨ (20 ≤ op ∧ op ≤ 29)) : ydo op = 7 := by
  unfold ydo
  rw [if_neg (by omega), if_neg (by omega), if_neg (by omega), if_neg (by omega), if_neg (by omega), if_neg (by omega), if_neg (by omega)]
variable {names : List Bs}
theorem leaf_wr {t : Tm} (h : ar t.1 = 0) (ha : yep names.length t = true) : Wr names 7 (.lf t) (ygb names t) (leafP names t) := by
  obtain ⟨op, i⟩ := t
  have hb : 1 ≤ op ∧ op ≤ 17 := by unfold ar at h; (repeat' split at h) <;> omega
  simp only [yep] at ha
  unfold ygb leafP
  simp only
  by_cases h1 : op = 1
  · subst h1
    simp at ha
    have := Wr.num (names := names) (n := i.toNat) (by omega)
    rw [Int.toNat_of_nonneg ha.1] at this
    exact this
  rw [if_neg h1, if_neg h1]
  rw [if_neg h1] at ha
  by_cases h5 : op = 5
  · subst h5
    simp at ha
    obtain ⟨w, hw⟩ : ∃ w, names[i.toNat]? = some w := ⟨_, List.getElem?_eq_getElem (by omega)⟩
    have := Wr.own (names := names) (i := i.toNat) hw
    rw [Int.toNat_of_nonneg ha.1] at this
    simpa [yje, hw] using this
  by_cases h12 : op = 12
  · subst h12
    simp at ha
    obtain ⟨w, hw⟩ : ∃ w, names[i.toNat]? = some w := ⟨_, List.getElem?_eq_getElem (by omega)⟩
    have := Wr.near (names := names) (i := i.toNat) hw
    rw [Int.toNat_of_nonneg ha.1] at this
    simpa [yje, hw] using this
  rw [if_neg (by omega)] at ha
  simp at ha
  subst ha
  rw [if_neg h5, if_neg h5]
  by_cases h11 : op = 11
  · subst h11
    exact .here
  rw [if_neg h11, if_neg h11, if_neg h12, if_neg h12]
  by_cases h13 : 13 ≤ op
  · rw [if_pos h13, if_pos h13]
    obtain ⟨k, rfl⟩ := yhb (n := 5) h13 (by omega)
    exact .field (field_op k).1 (field_op k).2.1
  · rw [if_neg h13, if_neg h13]
    obtain ⟨k, rfl⟩ := yhb (lo := 2) (n := 9) (op := op) (by omega) (by omega)
    have hk : k ≠ 3 := fun e => by subst e; exact h5 rfl
    exact .const (const_op k hk).1 (const_op k hk).2.1 (const_op k hk).2.2.1
theorem arg_zero {t : Tm} (h : 18 ≤ t.1) {v : Int} (ha : yep v t = true) : t.2 = 0 := by
  unfold yep at ha
  rw [if_neg (by omega), if_neg (by omega)] at ha
  simpa using ha
theorem yht (al : Bool) : ∀ (E : Ex), E.ok → (∀ t ∈ E.fl, yep names.length t = true) → Wr names (ydo E.op) E (yax al names E) (ygj al names E)
  | .lf t, h, ha => by
    have hb : t.1 ≤ 17 := by have : ar t.1 = 0 := h; unfold ar at this; (repeat' split at this) <;> omega
    show Wr names (ydo t.1) _ _ _
    rw [levO_7 (.inl hb)]
    exact leaf_wr h (ha t (by simp [Ex.fl]))
  | .un t a, h, ha => by
    obtain ⟨h1, h2⟩ := h
    have ih := yht al a h2 fun t ht => ha t (by simp [Ex.fl, ht])
    have hb : 18 ≤ t.1 ∧ t.1 ≤ 29 := by unfold ar at h1; (repeat' split at h1) <;> omega
    have h0 := arg_zero hb.1 (ha t (by simp [Ex.fl]))
    obtain ⟨op, i⟩ := t
    simp only at h0 hb
    subst h0
    simp only [yax, ygj, Ex.op]
    by_cases e : op = 18
    · subst e
      rw [if_pos rfl, if_pos rfl]
      exact .neg (yki ih (by omega) fun hb => by simp [ybf] at hb; exact hb.2)
    rw [if_neg e, if_neg e]
    by_cases e : op = 19
    · subst e
      rw [if_pos rfl, if_pos rfl]
      exact .not (yki ih (by omega) fun hb => by simp [ybf] at hb; exact hb.2)
    rw [if_neg e, if_neg e]
    obtain ⟨k, rfl⟩ := yhb (lo := 20) (n := 10) (op := op) (by omega) (by omega)
    rw [(agg_op k).2.2.1]
    exact .agg (agg_op k).1 (agg_op k).2.1 (ih.downs (levO_le _) (Nat.zero_le _))
  | .bi t a b, h, ha => by
    obtain ⟨h1, h2, h3⟩ := h
    have iha := yht al a h2 fun t ht => ha t (by simp [Ex.fl, ht])
    have ihb := yht al b h3 fun t ht => ha t (by simp [Ex.fl, ht])
    have hb : 30 ≤ t.1 ∧ t.1 ≤ 42 := by unfold ar at h1; (repeat' split at h1) <;> omega
    have h0 := arg_zero (by omega) (ha t (by simp [Ex.fl]))
    obtain ⟨op, i⟩ := t
    simp only at h0 hb
    subst h0
    simp only [yax, ygj, Ex.op]
    obtain ⟨k, rfl⟩ := yhb (lo := 30) (n := 13) (op := op) (by omega) (by omega)
    obtain ⟨g1, g2, g3, g4, _⟩ := bin_op k
    generalize (30 + ((k : Nat) : Int)) = op at *
    have hwb := yki ihb (l := ydo op + 1) (by omega) (b := al || ybf (ydo op + 1) b) fun hb => by simp [ybf] at hb; omega
    by_cases e : ydo op = 3
    · have hwa := yki iha (l := 4) (by omega) (b := al || ybf 4 a) fun hb => by simp [ybf] at hb; omega
      have : yih op = 4 := by rw [yih, if_pos e]
      rw [this]
      rw [e] at hwb ⊢
      exact .cmp g1 g2 e hwa hwb
    · have : yih op = ydo op := by rw [yih, if_neg e]
      rw [this]
      have hwa := yki iha (l := ydo op) (by omega) (b := al || ybf (ydo op) a) fun hb => by simp [ybf] at hb; omega
      exact .bin g1 g2 rfl e hwa hwb
  | .tr t a b c, h, ha => by
    obtain ⟨h1, h2, h3, h4⟩ := h
    have iha := yht al a h2 fun t ht => ha t (by simp [Ex.fl, ht])
    have ihb := yht al b h3 fun t ht => ha t (by simp [Ex.fl, ht])
    have ihc := yht al c h4 fun t ht => ha t (by simp [Ex.fl, ht])
    have hb : t.1 = 43 := by unfold ar at h1; (repeat' split at h1) <;> omega
    have h0 := arg_zero (by omega) (ha t (by simp [Ex.fl]))
    obtain ⟨op, i⟩ := t
    simp only at h0 hb
    subst h0; subst hb
    simp only [yax, ygj, Ex.op]
    exact .choice (yki iha (by omega) fun hb => by simp [ybf] at hb; omega) (yki ihb (by omega) fun _ => Nat.zero_le _) (yki ihc (by omega) fun _ => Nat.zero_le _)
theorem yfn (b : Bool) (x : Bs) : (brT b x).length ≤ x.length + 2 := by cases b <;> simp [brT]
theorem brP_len (b : Bool) (x : List PW) : (brP b x).length ≤ x.length + 2 := by cases b <;> simp [brP]
theorem leaf_len (hn : ∀ w ∈ names, w.length ≤ 24) {t : Tm} (h : ar t.1 = 0) (ha : yep names.length t = true) : (ygb names t).length ≤ 26 ∧ (leafP names t).length ≤ 3 := by
  obtain ⟨op, i⟩ := t
  have hb : 1 ≤ op ∧ op ≤ 17 := by unfold ar at h; (repeat' split at h) <;> omega
  simp only [yep] at ha
  unfold ygb leafP
  simp only
  have hnm : (yje names i).length ≤ 24 := by
    unfold yje
    cases hw : names[i.toNat]? with
    | none => simp
    | some w => exact hn w (List.mem_of_getElem? hw)
  by_cases h1 : op = 1
  · subst h1
    simp at ha
    have := dec_len 10 i.toNat (by omega) (by omega)
    simp only [if_true]
    exact ⟨by omega, by simp⟩
  rw [if_neg h1, if_neg h1]
  by_cases h5 : op = 5
  · rw [if_pos h5, if_pos h5]; exact ⟨by omega, by simp⟩
  rw [if_neg h5, if_neg h5]
  by_cases h11 : op = 11
  · rw [if_pos h11, if_pos h11]; exact ⟨by simp, by simp⟩
  rw [if_neg h11, if_neg h11]
  by_cases h12 : op = 12
  · rw [if_pos h12, if_pos h12]; exact ⟨by simp only [List.length_cons]; omega, by simp⟩
  rw [if_neg h12, if_neg h12]
  by_cases h13 : 13 ≤ op
  · rw [if_pos h13, if_pos h13]
    obtain ⟨k, rfl⟩ := yhb (n := 5) h13 (by omega)
    have := (field_op k).2.2
    exact ⟨by simp only [List.length_cons]; omega, by simp⟩
  · rw [if_neg h13, if_neg h13]
    obtain ⟨k, rfl⟩ := yhb (lo := 2) (n := 9) (op := op) (by omega) (by omega)
    have hk : k ≠ 3 := fun e => by subst e; exact h5 rfl
    have := (const_op k hk).2.2.2
    exact ⟨by omega, by simp⟩
theorem ycv (hn : ∀ w ∈ names, w.length ≤ 24) (al : Bool) : ∀ (E : Ex), E.ok → (∀ t ∈ E.fl, yep names.length t = true) → (yax al names E).length + 2 ≤ 34 * E.fl.length ∧ (ygj al names E).length + 2 ≤ 8 * E.fl.length
  | .lf t, h, ha => by
    have := leaf_len hn h (ha t (by simp [Ex.fl]))
    simp only [yax, ygj, Ex.fl, List.length_cons, List.length_nil]
    omega
  | .un t a, h, ha => by
    obtain ⟨h1, h2⟩ := h
    have ih := ycv hn al a h2 fun t ht => ha t (by simp [Ex.fl, ht])
    have hb : 18 ≤ t.1 ∧ t.1 ≤ 29 := by unfold ar at h1; (repeat' split at h1) <;> omega
    obtain ⟨op, i⟩ := t
    simp only at hb
    have b1 := yfn (al || ybf 6 a) (yax al names a)
    have b2 := brP_len (al || ybf 6 a) (ygj al names a)
    simp only [yax, ygj, Ex.fl, List.length_cons]
    by_cases e : op = 18
    · rw [if_pos e, if_pos e]; simp only [List.length_cons]; omega
    rw [if_neg e, if_neg e]
    by_cases e : op = 19
    · rw [if_pos e, if_pos e]; simp only [List.length_cons]; omega
    rw [if_neg e, if_neg e]
    obtain ⟨k, rfl⟩ := yhb (lo := 20) (n := 10) (op := op) (by omega) (by omega)
    have := (agg_op k).2.2.2
    simp only [List.length_cons, List.length_append, List.length_nil]
    omega
  | .bi t a b, h, ha => by
    obtain ⟨h1, h2, h3⟩ := h
    have iha := ycv hn al a h2 fun t ht => ha t (by simp [Ex.fl, ht])
    have ihb := ycv hn al b h3 fun t ht => ha t (by simp [Ex.fl, ht])
    have hb : 30 ≤ t.1 ∧ t.1 ≤ 42 := by unfold ar at h1; (repeat' split at h1) <;> omega
    obtain ⟨op, i⟩ := t
    simp only at hb
    simp only [yax, ygj, Ex.fl, List.length_cons]
    obtain ⟨k, rfl⟩ := yhb (lo := 30) (n := 13) (op := op) (by omega) (by omega)
    have := (bin_op k).2.2.2.2
    have b1 := yfn (al || ybf (yih (30 + ((k : Nat) : Int))) a) (yax al names a)
    have b2 := brP_len (al || ybf (yih (30 + ((k : Nat) : Int))) a) (ygj al names a)
    have b3 := yfn (al || ybf (ydo (30 + ((k : Nat) : Int)) + 1) b) (yax al names b)
    have b4 := brP_len (al || ybf (ydo (30 + ((k : Nat) : Int)) + 1) b) (ygj al names b)
    simp only [List.length_cons, List.length_append]
    omega
  | .tr t a b c, h, ha => by
    obtain ⟨h1, h2, h3, h4⟩ := h
    have iha := ycv hn al a h2 fun t ht => ha t (by simp [Ex.fl, ht])
    have ihb := ycv hn al b h3 fun t ht => ha t (by simp [Ex.fl, ht])
    have ihc := ycv hn al c h4 fun t ht => ha t (by simp [Ex.fl, ht])
    have b1 := yfn (al || ybf 1 a) (yax al names a)
    have b2 := brP_len (al || ybf 1 a) (ygj al names a)
    have b3 := yfn al (yax al names b)
    have b4 := brP_len al (ygj al names b)
    have b5 := yfn al (yax al names c)
    have b6 := brP_len al (ygj al names c)
    simp only [yax, ygj, Ex.fl, List.length_cons, List.length_append]
    omega
theorem brT_true (x : Bs) : (brT true x).length = x.length + 2 := by simp [brT]
theorem body_short (names : List Bs) : ∀ (E : Ex), (yax false names E).length ≤ (yax true names E).length
  | .lf t => Nat.le_refl _
  | .un t a => by
    have ih := body_short names a
    have b1 := yfn (false || ybf 6 a) (yax false names a)
    have b2 := brT_true (yax true names a)
    simp only [yax, Bool.true_or]
    split
    · simp only [List.length_cons]; omega
    · split
      · simp only [List.length_cons]; omega
      · simp only [List.length_cons, List.length_append, List.length_nil]; omega
  | .bi t a b => by
    have iha := body_short names a
    have ihb := body_short names b
    have b1 := yfn (false || ybf (yih t.1) a) (yax false names a)
    have b3 := yfn (false || ybf (ydo t.1 + 1) b) (yax false names b)
    have b2 := brT_true (yax true names a)
    have b4 := brT_true (yax true names b)
    simp only [yax, Bool.true_or, List.length_cons, List.length_append]
    omega
  | .tr t a b c => by
    have iha := body_short names a
    have ihb := body_short names b
    have ihc := body_short names c
    have b1 := yfn (false || ybf 1 a) (yax false names a)
    have b2 := brT_true (yax true names a)
    have b3 := brT_true (yax true names b)
    have b4 := brT_true (yax true names c)
    have b5 := yfn false (yax false names b)
    have b6 := yfn false (yax false names c)
    have e : ∀ x, brT false x = x := fun _ => rfl
    simp only [yax, Bool.true_or, List.length_cons, List.length_append, e]
    omega
end Go.Proofs.YtcpgpiabeimefaaGreatDoor
set_option linter.unusedVariables false
namespace Go.Proofs.YtcpgpiabeimefaaGreatDoor
variable {nm : Bs → Bool} {names : List Bs}
theorem split_of {α : Type} {a b p r : List α} (h : a ++ b = p ++ r) (hs : r <:+ b) : ∃ q, b = q ++ r ∧ p = a ++ q := by
  obtain ⟨q, rfl⟩ := hs
  refine ⟨q, rfl, ?_⟩
  rw [← List.append_assoc] at h
  exact (List.append_cancel_right h).symm
theorem nil_of_app {α : Type} {p r : List α} (h : r = p ++ r) : p = [] := by
  have := congrArg List.length h
  rw [List.length_append] at this
  exact List.eq_nil_of_length_eq_zero (by omega)
def Like (r r' : List PW) : Prop := r'.head? = r.head? ∨ r' = []
theorem same_cons {t : PW} {r r' : List PW} (h : r'.head? = (t :: r).head?) : ∃ r2, r' = t :: r2 := by
  cases r' with
  | nil => cases h
  | cons a r2 => cases h; exact ⟨r2, rfl⟩
def EndR (y : Option Res) : Prop := y = none ∨ (∃ x, y = some (.ok x [])) ∨ y = some (.bad 4 [])
def Res.rest : Res → List PW
  | .ok _ r => r
  | .bad _ r => r
def Cut (F : List PW → Option Res) (ts : List PW) : Res → Prop
  | .ok e r => ∀ p, ts = p ++ r → ∀ r', Like r r' → F (p ++ r') = some (.ok e r')
  | .bad c r => r ≠ [] → ∀ p, ts = p ++ r → (∀ r', r'.head? = r.head? → F (p ++ r') = some (.bad c r')) ∧ EndR (F p)
def Tame (F : List PW → Option Res) : Prop := ∀ ts res, F ts = some res → res.rest <:+ ts ∧ Cut F ts res
inductive Looks (F : List PW → Option Res) (t : PW) : Prop
  | takes (A : List PW → Option Res) (hA : Tame A) (h : ∀ r, F (t :: r) = A r) : Looks F t
  | fails (c : Int) (h : ∀ r, F (t :: r) = some (.bad c (t :: r))) : Looks F t
  | leaves (B : List PW → Option Res) (hB : Tame B) (h0 : F [] = B []) (h : ∀ r, F (t :: r) = B (t :: r)) : Looks F t
theorem tame_looks {F : List PW → Option Res} (h0 : EndR (F [])) (h : ∀ t, Looks F t) : Tame F := by
  intro ts res hf
  cases ts with
  | nil =>
    rcases h0 with h0 | ⟨x, h0⟩ | h0
    · rw [h0] at hf; cases hf
    · have h1 := h0
      rw [hf] at h1
      obtain rfl := Option.some.inj h1
      refine ⟨List.suffix_refl _, fun p hp r' hl => ?_⟩
      have hp : p = [] := by simpa using hp.symm
      subst hp
      rcases hl with hl | rfl
      · cases r' with
        | nil => exact h0
        | cons a r' => cases hl
      · exact h0
    · have h1 := h0
      rw [hf] at h1
      obtain rfl := Option.some.inj h1
      exact ⟨List.suffix_refl _, fun hr => absurd rfl hr⟩
  | cons t r =>
    cases h t with
    | takes A hA he =>
      rw [he] at hf
      obtain ⟨hs, hc⟩ := hA _ _ hf
      refine ⟨hs.trans (List.suffix_cons _ _), ?_⟩
      cases res with
      | ok e r2 =>
        intro p hp r' hl
        obtain ⟨q, rfl, rfl⟩ := split_of (a := [t]) hp hs
        show F (t :: (q ++ r')) = _
        rw [he]
        exact hc q rfl r' hl
      | bad c r2 =>
        intro hr p hp
        obtain ⟨q, rfl, rfl⟩ := split_of (a := [t]) hp hs
        obtain ⟨c1, c2⟩ := hc hr q rfl
        refine ⟨fun r' hl => ?_, ?_⟩
        · show F (t :: (q ++ r')) = _
          rw [he]; exact c1 r' hl
        · show EndR (F (t :: q))
          rw [he]; exact c2
    | fails c he =>
      have h1 := he r
      rw [hf] at h1
      obtain rfl := Option.some.inj h1
      refine ⟨List.suffix_refl _, fun hr p hp => ?_⟩
      have hp : p = [] := nil_of_app hp
      subst hp
      refine ⟨fun r' hl => ?_, h0⟩
      obtain ⟨r2, rfl⟩ := same_cons hl
      exact he r2
    | leaves B hB hB0 he =>
      rw [he] at hf
      obtain ⟨hs, hc⟩ := hB _ _ hf
      refine ⟨hs, ?_⟩
      cases res with
      | ok e r2 =>
        intro p hp r' hl
        have := hc p hp r' hl
        cases p with
        | nil =>
          obtain rfl : t :: r = r2 := hp
          rcases hl with hl | rfl
          · obtain ⟨r3, rfl⟩ := same_cons hl
            exact (he r3).trans this
          · exact hB0.trans this
        | cons a p =>
          obtain ⟨rfl, rfl⟩ := List.cons.inj hp
          exact (he _).trans this
      | bad c r2 =>
        intro hr p hp
        obtain ⟨c1, c2⟩ := hc hr p hp
        cases p with
        | nil =>
          obtain rfl : t :: r = r2 := hp
          refine ⟨fun r' hl => ?_, h0⟩
          have := c1 r' hl
          obtain ⟨r3, rfl⟩ := same_cons hl
          exact (he r3).trans this
        | cons a p =>
          obtain ⟨rfl, rfl⟩ := List.cons.inj hp
          exact ⟨fun r' hl => (he _).trans (c1 r' hl), by rw [he]; exact c2⟩
theorem tame_ok (e : List Tm) : Tame fun ts => some (.ok e ts) := by
  intro ts res h
  obtain rfl := (Option.some.inj h).symm
  refine ⟨List.suffix_refl _, fun p hp r' hl => ?_⟩
  have hp : p = [] := nil_of_app hp
  subst hp; rfl
theorem end_ok (e : List Tm) : EndR (some (.ok e [])) := .inr (.inl ⟨e, rfl⟩)
theorem end_bad : EndR (some (.bad 4 [])) := .inr (.inr rfl)
theorem tame_var (op : Int) : Tame fun ts => some (yji nm names op ts) := by
  refine tame_looks end_bad fun t => ?_
  by_cases h : nm t.w = true
  · cases hx : yhc names t.w with
    | some x => exact .takes _ (tame_ok [(op, (x : Int))]) fun r => by simp only [yji, if_pos h, hx]
    | none => exact .fails 5 fun r => by simp only [yji, if_pos h, hx]
  · exact .fails 4 fun r => by simp only [yji, if_neg h]
theorem tame_near : Tame fun ts => some (yho nm names ts) := by
  refine tame_looks (end_ok _) fun t => ?_
  by_cases h : t.w = [46]
  · refine .takes (fun r => some (if yfz (ybh r) = 0 then yji nm names 12 r else .ok [(yfz (ybh r), 0)] r.tail)) ?_ fun r => congrArg some (if_pos h)
    refine tame_looks end_bad fun t => ?_
    by_cases h : yfz t.w = 0
    · exact .leaves _ (tame_var (nm := nm) (names := names) 12) rfl fun r => congrArg some (if_pos h)
    · exact .takes _ (tame_ok [(yfz t.w, 0)]) fun r => congrArg some (if_neg h)
  · exact .leaves _ (tame_ok [(11, 0)]) rfl fun r => congrArg some (if_neg h)
end Go.Proofs.YtcpgpiabeimefaaGreatDoor
set_option linter.unusedVariables false
namespace Go.Proofs.YtcpgpiabeimefaaGreatDoor
open Go.RowKit
variable {nm : Bs → Bool} {names : List Bs}
def ydw (nm : Bs → Bool) (names : List Bs) : Bool := decide (names.length ≤ 6) && (names.all nm && decide names.Nodup)
def atPlace (s : ByteArray) (ts : List Tok) (rest : List PW) : Nat :=
  match ts.drop (ts.length - rest.length) with
  | [] => s.size
  | t :: _ => t.from_
def ansX (s : ByteArray) (ts : List Tok) (vars : Nat) : Res → List Tm × Int × Int
  | .ok e [] => if ycp e vars = true then (e, 0, 0) else ([], 0, 3)
  | .ok e (t :: r) => ([], atPlace s ts (t :: r), 4)
  | .bad c rest => ([], atPlace s ts rest, c)
def yie (nm : Bs → Bool) (names : List Bs) (s : ByteArray) : List Tm × Int × Int :=
  if ydw nm names = false then ([], 0, 7) else
  match ygv s with
  | .error (p, e) => ([], p, e)
  | .ok ts => match PP nm names (10 * ts.length + 9) .choice (ts.map (pwT s)) with
    | some res => ansX s ts names.length res
    | none => ([], 0, 0)
theorem parseX_bad {s : ByteArray} (h : ydw nm names = false) : yie nm names s = ([], 0, 7) := by rw [yie, if_pos h]
theorem parseX_err {s : ByteArray} {p e : Nat} (h : ydw nm names = true) (hs : ygv s = .error (p, e)) : yie nm names s = ([], (p : Int), (e : Int)) := by
  rw [yie, if_neg (by simp [h]), hs]
theorem pars_fuel {ts : List PW} {res : Res} (h : ygl nm names .choice ts res) {f : Nat} (hf : 10 * ts.length + 9 ≤ f) : PP nm names f .choice ts = some res := by
  obtain ⟨y, hy⟩ := PP_total (nm := nm) (names := names) f .choice ts (fun l e => by cases e) (fun l x e => by cases e) hf
  rw [hy, ygl.det ⟨f, hy⟩ h]
theorem parseX_of {s : ByteArray} {ts : List Tok} {res : Res} (h : ydw nm names = true) (hs : ygv s = .ok ts) (hr : ygl nm names .choice (ts.map (pwT s)) res) : yie nm names s = ansX s ts names.length res := by
  have := pars_fuel hr (f := 10 * ts.length + 9) (by simp)
  rw [yie, if_neg (by simp [h]), hs]
  simp only [this]
structure NmW (nm : Bs → Bool) : Prop where
  word : ∀ w, nm w = true → yhr w
  res : ∀ w, nm w = true → yfk w = 0 ∧ yko w = 0 ∧ yfz w = 0 ∧ w ≠ [113] ∧ w ≠ [40] ∧ w ≠ [45] ∧ w ≠ [33]
theorem goodL_spec (h : ydw nm names = true) : names.length ≤ 6 ∧ (∀ w ∈ names, nm w = true) ∧ names.Nodup := by
  simp only [ydw, Bool.and_eq_true, decide_eq_true_eq, List.all_eq_true] at h
  exact h
theorem NmW.ok (hN : NmW nm) (h : ydw nm names = true) : NmOk nm names := ⟨(goodL_spec h).2.1, (goodL_spec h).2.2, hN.res⟩
theorem NmW.words (hN : NmW nm) (h : ydw nm names = true) : ∀ w ∈ names, yhr w := fun w hw => hN.word w ((goodL_spec h).2.1 w hw)
def HasW (x : Bs) (ws : List PW) : Prop := ∀ (r : Bs) (us : List PW), FT r → Scans r us → Scans (x ++ r) (ws ++ us)
theorem valid_spec {l : List Tm} {v : Int} (h : ycp l v = true) : ∃ E, yet l = some E ∧ E.ok ∧ E.fl = l ∧ l.length ≤ 200 ∧ (∀ t ∈ l, yep v t = true) := by
  unfold ycp at h
  cases hp : yet l with
  | none => rw [hp] at h; cases h
  | some E =>
    rw [hp] at h
    simp only [Bool.and_eq_true, decide_eq_true_eq, List.all_eq_true] at h
    exact ⟨E, rfl, (yeg hp).1, (yeg hp).2, h.1, h.2.1⟩
theorem parseX_wr (hN : NmW nm) (h : ydw nm names = true) {E : Ex} {x x0 : Bs} {ws : List PW} (hw : Wr names 0 E x0 ws) (hx : HasW x ws) (hv : ycp E.fl names.length = true) (h1 : x.length ≤ 16384) (h2 : ws.length ≤ 4096) : yie nm names (ba x) = (E.fl, 0, 0) := by
  have hs : Scans (bl (ba x)) ws := by
    have := hx [] [] (fun c y e => by cases e) (.nil rfl)
    rwa [List.append_nil, List.append_nil, ← ycu x] at this
  obtain ⟨ts, g1, g2⟩ := scanF_of hs (by rw [yaw]; exact h1) h2
  have hp := (wr_ans (hN.ok h) hw).1 rfl [] ⟨fun _ => by simp [ybh], by simp [ybh], .inl rfl⟩
  rw [List.append_nil, ← g2] at hp
  rw [parseX_of h g1 hp, ansX, if_pos hv]
theorem hasW_wr (hN : NmW nm) (h : ydw nm names = true) {l : Nat} {E : Ex} {x : Bs} {ws : List PW} (hw : Wr names l E x ws) : HasW x ws := wr_scans (hN.words h) hw
def brkT (x : Bs) : Bs := 40 :: 32 :: (x ++ [41, 35, 32, 120, 10])
theorem hasW_brk {x : Bs} {ws : List PW} (h : HasW x ws) : HasW (brkT x) (pwS [40] :: (ws ++ [pwS [41]])) := by
  intro r us hr hs
  have h0 : Scans (35 :: 32 :: 120 :: 10 :: r) us := by
    have e : (35 :: 32 :: 120 :: 10 :: r : Bs).drop (yco false (35 :: 32 :: 120 :: 10 :: r)) = r.drop (yco false r) := by
      have : yco false (35 :: 32 :: 120 :: 10 :: r) = yco false r + 4 := by
        simp only [yco]
        simp
        omega
      rw [this]; rfl
    cases hs with
    | nil h => exact .nil (e.trans h)
    | cons h hy ht hr => exact .cons (e.trans h) hy ht hr
  have h1 : Scans (41 :: 35 :: 32 :: 120 :: 10 :: r) (pwS [41] :: us) := ycs rfl (fun c x e => by simp [yfj]) rfl rfl rfl h0
  have h2 := h _ _ ft_par h1
  have h3 : Scans (40 :: 32 :: (x ++ 41 :: 35 :: 32 :: 120 :: 10 :: r)) (pwS [40] :: (ws ++ pwS [41] :: us)) := ycs rfl (fun c x e => by simp [yfj]) rfl rfl rfl (ygd h2)
  simpa [brkT] using h3
def brkN : Nat → Bs → Bs
  | 0, x => x
  | n + 1, x => brkT (brkN n x)
theorem brkN_len (x : Bs) : ∀ n, (brkN n x).length = x.length + 7 * n
  | 0 => rfl
  | n + 1 => by rw [brkN, brkT]; simp [brkN_len x n]; omega
theorem brkN_words {E : Ex} {x : Bs} {ws : List PW} (hw : Wr names 0 E x ws) (hx : HasW x ws) : ∀ n, ∃ x0 ws', Wr names 0 E x0 ws' ∧ HasW (brkN n x) ws' ∧ ws'.length = ws.length + 2 * n
  | 0 => ⟨x, ws, hw, hx, rfl⟩
  | n + 1 => by
    obtain ⟨x0, ws', h1, h2, h3⟩ := brkN_words hw hx n
    exact ⟨_, _, (Wr.paren h1).downs (by omega) (Nat.zero_le _), hasW_brk h2, by simp; omega⟩
def ydn (al : Bool) (names : List Bs) (e : List Tm) : Bs := match yet e with
  | some E => yax al names E
  | none => []
def formatX (nm : Bs → Bool) (names : List Bs) (e : List Tm) : Bs × Int := if ydw nm names = true ∧ ycp e names.length = true then (ydn false names e, 0) else ([], 7)
theorem formatT_len (hN : NmW nm) (h : ydw nm names = true) {e : List Tm} (hv : ycp e names.length = true) (al : Bool) : (ydn al names e).length + 2 ≤ 34 * e.length ∧ e.length ≤ 200 := by
  obtain ⟨E, h1, h2, rfl, h3, h4⟩ := valid_spec hv
  have := (ycv (fun w hw => (hN.words h w hw).1) al E h2 h4).1
  rw [ydn, h1]
  exact ⟨this, h3⟩
theorem parseX_format (hN : NmW nm) (h : ydw nm names = true) {e : List Tm} (hv : ycp e names.length = true) (al : Bool) (n : Nat) (hn : n ≤ 100) : yie nm names (ba (brkN n (ydn al names e))) = (e, 0, 0) := by
  obtain ⟨E, h1, h2, rfl, h3, h4⟩ := valid_spec hv
  have hb := ycv (fun w hw => (hN.words h w hw).1) al E h2 h4
  have hw := (yht (names := names) al E h2 h4).downs (levO_le _) (Nat.zero_le _)
  obtain ⟨x0, ws', g1, g2, g3⟩ := brkN_words hw (hasW_wr hN h hw) n
  rw [show ydn al names E.fl = yax al names E by rw [ydn, h1]]
  exact parseX_wr hN h g1 g2 hv (by rw [brkN_len]; omega) (by omega)
theorem tokL_err {r : List UInt8} {e : Nat} (h : yhv r = .error e) : 1 ≤ e ∧ e ≤ 5 := by
  unfold yhv at h
  cases r with
  | nil => cases h; omega
  | cons c x =>
    simp only at h
    split at h
    · split at h
      · cases h; omega
      · cases h
    · split at h
      · split at h
        · cases h; omega
        · cases h
      · split at h
        · cases h; omega
        · cases h
theorem consTok_err {t : Tok} {x : Except (Nat × Nat) (List Tok)} {e : Nat × Nat} (h : consTok t x = .error e) : x = .error e := by
  cases x with
  | error e' => exact h
  | ok us => cases h
theorem scanL_err : ∀ (left p : Nat) (r : List UInt8) (q e : Nat), ygw left p r = .error (q, e) → 1 ≤ e ∧ e ≤ 5
  | 0, p, r, q, e, h => by
    rw [ygw] at h
    split at h
    · cases h
    · cases h; omega
  | left + 1, p, r, q, e, h => by
    rw [ygw] at h
    split at h
    · cases h
    · split at h
      · rename_i ht; cases h; exact tokL_err ht
      · exact scanL_err left _ _ q e (consTok_err h)
theorem scan_pos {s : ByteArray} {q e : Nat} (h : ygv s = .error (q, e)) : 1 ≤ e ∧ e ≤ 5 := by
  unfold ygv at h
  split at h
  · cases h; omega
  · exact scanL_err _ _ _ _ _ h
end Go.Proofs.YtcpgpiabeimefaaGreatDoor
set_option linter.unusedVariables false
set_option maxRecDepth 100000
set_option maxHeartbeats 8000000
namespace Go.Proofs.YtcpgpiabeimefaaGreatDoor
open Go.RowKit
def yle : List (List UInt8) := [[112, 114, 111, 103, 114, 97, 109], [118, 97, 114], [114, 117, 108, 101], [98, 111, 111, 108], [112, 111, 114, 116], [116, 114, 117, 101], [102, 97, 108, 115, 101], [110, 111, 110, 101], [110], [105, 100, 115], [105, 100], [100, 101, 103], [114, 111, 111, 116], [113], [119, 101, 105, 103, 104, 116], [98, 97, 99, 107], [97, 108, 108], [115, 111, 109, 101], [99, 111, 117, 110, 116], [102, 105, 114, 115, 116], [109, 105, 110], [109, 97, 120], [115, 117, 109], [109, 101, 120], [115, 101, 99, 111, 110, 100], [104, 101, 97, 100]]
def yla (s : ByteArray) : Bool := yle.any (fun x => s.toList == x)
theorem resB_no (s : ByteArray) (q0 : (s.toList == [112, 114, 111, 103, 114, 97, 109]) = false) (q1 : (s.toList == [118, 97, 114]) = false) (q2 : (s.toList == [114, 117, 108, 101]) = false) (q3 : (s.toList == [98, 111, 111, 108]) = false) (q4 : (s.toList == [112, 111, 114, 116]) = false) (q5 : (s.toList == [116, 114, 117, 101]) = false) (q6 : (s.toList == [102, 97, 108, 115, 101]) = false) (q7 : (s.toList == [110, 111, 110, 101]) = false) (q8 : (s.toList == [110]) = false) (q9 : (s.toList == [105, 100, 115]) = false) (q10 : (s.toList == [105, 100]) = false) (q11 : (s.toList == [100, 101, 103]) = false) (q12 : (s.toList == [114, 111, 111, 116]) = false) (q13 : (s.toList == [113]) = false) (q14 : (s.toList == [119, 101, 105, 103, 104, 116]) = false) (q15 : (s.toList == [98, 97, 99, 107]) = false) (q16 : (s.toList == [97, 108, 108]) = false) (q17 : (s.toList == [115, 111, 109, 101]) = false) (q18 : (s.toList == [99, 111, 117, 110, 116]) = false) (q19 : (s.toList == [102, 105, 114, 115, 116]) = false) (q20 : (s.toList == [109, 105, 110]) = false) (q21 : (s.toList == [109, 97, 120]) = false) (q22 : (s.toList == [115, 117, 109]) = false) (q23 : (s.toList == [109, 101, 120]) = false) (q24 : (s.toList == [115, 101, 99, 111, 110, 100]) = false) (q25 : (s.toList == [104, 101, 97, 100]) = false) : yla s = false := by
  simp only [yla, yle, List.any_cons, List.any_nil, q0, q1, q2, q3, q4, q5, q6, q7, q8, q9, q10, q11, q12, q13, q14, q15, q16, q17, q18, q19, q20, q21, q22, q23, q24, q25, Bool.or_false]
theorem yay (s : ByteArray) (x : List UInt8) (hx : yle.contains x = true) (h : (s.toList == x) = true) : yla s = true := by
  unfold yla
  rw [List.any_eq_true]
  exact ⟨x, List.contains_iff_mem.1 hx, h⟩

set_option maxHeartbeats 4000000 in
def yhy (s : ByteArray) : Bool :=
  match yaj s 0 with
  | [] => false
  | c :: r => decide (s.size ≤ 24) && (yce c && ((c :: r).all ydu && !yla s))
theorem nameB_empty (s : ByteArray) (h : s.size = 0) : yhy s = false := by
  unfold yhy; rw [bytesFrom_ge s 0 (by omega)]
theorem nameB_long (s : ByteArray) (h : 24 < s.size) : yhy s = false := by
  unfold yhy; rw [ybj s 0 (by omega)]; simp; omega
theorem nameB_letter (s : ByteArray) (h : 0 < s.size) (hl : yce s[0] = false) : yhy s = false := by
  unfold yhy; rw [ybj s 0 h]; simp [hl]
theorem nameB_word (s : ByteArray) (k : Nat) (h : k < s.size) (hw : ydu s[k] = false) : yhy s = false := by
  have hm := mem_bytes s k h
  unfold yhy
  cases hb : yaj s 0 with
  | nil => rfl
  | cons c r =>
    rw [hb] at hm
    have : (c :: r).all ydu = false := by
      rw [List.all_eq_false]; exact ⟨s[k], hm, by simp [hw]⟩
    simp only [this, Bool.false_and, Bool.and_false]
theorem nameB_rest (s : ByteArray) (h : 0 < s.size) (h24 : s.size ≤ 24) (hl : yce s[0] = true) (ha : ((yaj s 0).take s.size).all ydu = true) : yhy s = !yla s := by
  rw [take_all s _ (Nat.le_refl _)] at ha
  unfold yhy
  rw [ybj s 0 h] at *
  simp only [ha, hl, h24, decide_true, Bool.true_and]
theorem all_snoc (s : ByteArray) (k : Nat) (h : k < s.size) (ha : ((yaj s 0).take k).all ydu = true) (hw : ydu s[k] = true) : ((yaj s 0).take (k + 1)).all ydu = true := by
  rw [take_snoc s k h, List.all_append, ha]; simp [hw]

set_option maxHeartbeats 1000000 in
theorem name_not_reserved (s : ByteArray) (h : yhy s = true) : yla s = false := by
  unfold yhy at h
  split at h
  · cases h
  · simp at h; exact h.2.2.2
end Go.Proofs.YtcpgpiabeimefaaGreatDoor
set_option linter.unusedVariables false
namespace Go.Proofs.YtcpgpiabeimefaaGreatDoor
open Go.RowKit
def nmW (w : Bs) : Bool := yhy (ba w)
theorem yeu (w : Bs) : (ba w).toList = w := by rw [Lib.toList_data]; exact ycu w
theorem resB_ba (w : Bs) : yla (ba w) = yle.any (fun x => w == x) := by rw [yla, yeu]
theorem nmW_spec {w : Bs} (h : nmW w = true) : yhr w ∧ yle.contains w = false := by
  have hr := name_not_reserved _ h
  rw [resB_ba] at hr
  unfold nmW yhy at h
  have hb : yaj (ba w) 0 = w := ycu w
  rw [hb] at h
  cases w with
  | nil => cases h
  | cons c r =>
    simp only [Bool.and_eq_true, decide_eq_true_eq, List.all_eq_true] at h
    rw [yaw] at h
    refine ⟨⟨h.1, h.2.2.1, c, r, rfl, h.2.1⟩, ?_⟩
    rw [List.any_eq_false] at hr
    cases hc : yle.contains (c :: r) with
    | false => rfl
    | true =>
      rw [List.contains_iff_mem] at hc
      exact absurd (by simp) (hr _ hc)
theorem const_res : ∀ w ∈ ygp, w ≠ [] → yle.contains w = true := by decide
theorem agg_res : ∀ w ∈ ykc, yle.contains w = true := by decide
theorem field_res : ∀ w ∈ yha, yle.contains w = true := by decide
theorem nmW_names : NmW nmW := by
  refine ⟨fun w h => (nmW_spec h).1, fun w h => ?_⟩
  obtain ⟨⟨_, h2, c, r, rfl, hc⟩, hr⟩ := nmW_spec h
  have hz : ∀ (first : Int) (l : List Bs), (∀ x ∈ l, x ≠ [] → yle.contains x = true) → yjd first l (c :: r) = 0 := by
    intro first l hl
    refine Decidable.byContradiction fun hne => ?_
    have := find_mem hne
    rw [hl _ this.1 this.2] at hr
    cases hr
  refine ⟨hz 2 ygp const_res, hz 20 ykc fun x hx _ => agg_res x hx, hz 13 yha fun x hx _ => field_res x hx, ?_, ?_, ?_, ?_⟩
  · intro e; rw [e] at hr; revert hr; decide
  all_goals
    intro e
    obtain ⟨rfl, _⟩ := List.cons.inj e
    revert hc; decide
end Go.Proofs.YtcpgpiabeimefaaGreatDoor
set_option linter.unusedVariables false
set_option maxHeartbeats 4000000
namespace Go.Proofs.YtcpgpiabeimefaaGreatDoor
open Go.RowKit

theorem hlook_ne {j d : Nat} {o : Option LObj} {h : List (Nat × Option LObj)} (hne : j ≠ d) : yao ((d, o) :: h) j = yao h j := by
  simp only [yao]
  rw [yeq hne]
def ylk : List AV → LObj
  | [] => .vec []
  | x :: xs => .mcells (x :: xs)
variable {f : List (Nat × Option LObj)} {M sz : Nat} {rows : List (List AV)} {extra : List AV}
theorem mentO_matO (d : Nat) (xs : List AV) : yfe d (ylk xs) = ment.mentL d xs := by cases xs <;> rfl
section
variable {P : Program} {T : Nat → Option Ty} {N : Nat} {ops : Array Oper} {lf : Oper → Bool} {Q : SS → Prop} {t : List (Nat × AV)} {h : List (Nat × Option LObj)} {rest : List Oper} {d : Nat} {op : Op} {ty : TypeId} {pos : String} {af : Array Edge} {gd : Option (Nat × Bool)} {r : AV}
end

theorem renA_pure {σ : Nat → Nat} : ∀ {x : AV}, ybp x = true → yey σ x = x
  | .v _, _ => rfl
  | .any, _ => rfl
  | .one, _ => rfl
  | .sl _ _, _ => rfl
  | .dp _ _, _ => rfl
  | .mv _, _ => rfl
  | .agg cs, h => by simp only [yey, rows (cs := cs) h]
  | .tup cs, h => by simp only [yey, rows (cs := cs) h]
  | .fn _ cs, h => by simp only [yey, rows (cs := cs) h]
  where rows : ∀ {cs : List AV}, ybp.pureL cs = true → yey.renL σ cs = cs
  | [], _ => rfl
  | c :: cs, h => by
    simp only [ybp.pureL, Bool.and_eq_true] at h
    simp only [yey.renL, renA_pure h.1, rows h.2]
section
variable {P : Program} {T : Nat → Option Ty} {N : Nat} {ops : Array Oper} {lf : Oper → Bool} {Q : SS → Prop} {t : List (Nat × AV)} {h : List (Nat × Option LObj)} {rest : List Oper} {d : Nat} {op : Op} {ty : TypeId} {pos : String} {af : Array Edge} {gd : Option (Nat × Bool)} {r : AV}
end

end Go.Proofs.YtcpgpiabeimefaaGreatDoor
set_option linter.unusedVariables false
set_option maxHeartbeats 4000000
namespace Go.Proofs.YtcpgpiabeimefaaGreatDoor
open Go.RowKit
theorem box_to_dp {h : Nat → Option LObj} {id off : Nat} {xs : List AV} {B : Bse} {ok0 : Nat → Prop} {lv : Live} {w : World} {u : Value} (hi : Inv B ok0 h lv w) (hx : h id = some (.cells xs)) (hr : Rel (ybi B ok0 lv w) w lv (.lp id off) u) (hp : ybp.pureL xs = true) (ok' : Nat → Prop) (hk1 : ∀ g, ybi B ok0 lv w g → ok' g) (hk2 : ∀ b n, lv id = some (some b, n) → ok' b) : Rel ok' w (fun _ => none) (.dp xs off) u := by
  obtain ⟨b, n, h1, rfl, h2⟩ := ycq hi (by rw [hx]; rfl) (.inr hx) hr
  have := Rel.dp (ok := ok') (w := w) (lv := fun _ => none) (row := xs) (off := off) b 0 (fun j => (w.cell? ⟨b, 0 + j, none⟩).getD undef) (hk2 b n h1) (fun j c hc => ?_) (fun j c hc => ?_)
  · rwa [Nat.zero_add] at this
  · obtain ⟨q1, v, q2, _⟩ := h2 j c hc
    exact ⟨by rw [q2]; rfl, q1⟩
  · obtain ⟨_, v, q2, q3⟩ := h2 j c hc
    rw [q2]
    exact (q3.relive fun id b n hb _ => by cases hb).keep fun g hg => ⟨hk1 g hg, rfl⟩
theorem Frz.box {h : Nat → Option LObj} {id off : Nat} {xs : List AV} (hx : h id = some (.cells xs)) (hp : ybp.pureL xs = true) : Frz h (.lp id off) (.dp xs off) :=
  fun B ok0 lv w u hi hr => box_to_dp hi hx hr hp _ (fun g hg => ⟨hg.1, hg.2.1⟩) fun b n hb => by obtain ⟨_, _, h1, h2, _⟩ := hi.lvat hb; exact ⟨.inr h1, h2⟩
theorem Frz.fn {h : Nat → Option LObj} {f : Nat} {xs ys : List AV} (hl : xs.length = ys.length) (hf : ∀ (i : Nat) (x y : AV), xs[i]? = some x → ys[i]? = some y → Frz h x y) : Frz h (.fn f xs) (.fn f ys) := by
  intro B ok0 lv w u hi hr
  cases hr with
  | fn vs hvl hrr =>
    refine .fn vs (hvl.trans hl) fun i c v hc hv => ?_
    obtain ⟨x, hx⟩ : ∃ x, xs[i]? = some x := ⟨_, List.getElem?_eq_getElem (by have := (List.getElem?_eq_some_iff.1 hc).1; omega)⟩
    exact hf i x c hx hc B ok0 lv w v hi (hrr i x v hx hv)
variable {P : Program} {N : Nat} {t : List (Nat × AV)} {h : List (Nat × Option LObj)}
end Go.Proofs.YtcpgpiabeimefaaGreatDoor
set_option linter.unusedVariables false
set_option maxHeartbeats 4000000
namespace Go.Proofs.YtcpgpiabeimefaaGreatDoor
open Go.RowKit
theorem isC_matO (xs : List AV) : isC (ylk xs) = false := by cases xs <;> rfl
theorem objAt_matO {ok : Nat → Prop} {lv : Live} {w : World} {b n : Nat} {xs : List AV} : yeo ok lv w b n (ylk xs) ↔ yfc ok lv w b n xs := by
  cases xs with
  | nil => exact ⟨fun h => h.1, fun h => ⟨h, fun x hx => by cases hx⟩⟩
  | cons x xs => exact Iff.rfl
variable {P : Program} {T : Nat → Option Ty} {N : Nat} {ops : Array Oper} {lf : Oper → Bool} {Q : SS → Prop} {t : List (Nat × AV)} {h : List (Nat × Option LObj)} {rest : List Oper} {d : Nat} {op : Op} {ty : TypeId} {pos : String} {af : Array Edge} {gd : Option (Nat × Bool)} {r : AV}
theorem buildM_loud (hT : TOK P T) {o : Oper} {ti e es eb sz len : Nat} {ea ag : Bool} {ez z : List Value} {parts : List (Nat × Operand)} {ps : List (Nat × AV)} {ys : List AV} {s : SS} (id : Nat) (ho : o.op = .buildSlice ti len parts.toArray) (hd : o.dst = some d) (hdN : d < N) (hk : T ti = some ⟨.slc e es ea eb ez, sz, ag, z⟩) (hone : ez.all Value.oneCell' = true)
    (hps : evP (evF s.t) parts = some ps) (hf : yjn (fun i => some (i * es, es)) (ykg len (ykd ez)) ps = some ys) (hlen : ys.length = len * es) (hlim : Nat.ble (len * es) 16777216 = true) (hfr : yir s id) (hm : ment.mentL id ys = false) :
    ygx P N o s (· = ⟨ygh s.t (some d) (.ls id es len), yde s.h id (some (ylk ys))⟩) := by
  intro B ok0 lv a w hs Q
  obtain ⟨h1, h2⟩ := evP_rel (ok := ybi B ok0 lv w) (w := w) (lv := lv) (a := a) hps fun x y hx hxy => hs.eval hxy
  obtain ⟨hu, hsz, _, hz, hzl, hpos⟩ := (hT _ _ hk).2.2
  obtain ⟨zv, hz1, hz2⟩ := hz.run (w := w)
  obtain ⟨out, g1, g2, g3⟩ := fill_rel (place' := fun i => some (i * es, es)) (fun i p h => h) hf (repA_rel (z := ez) len (by omega)) (repA_cell (vMap_cell hone) len) h1 h2
  have hlim' : len * es ≤ 16777216 := by simpa using hlim
  have hle : len ≤ len * es := Nat.le_mul_of_pos_right _ hpos
  have hrun : (execOp a.eval o).run P w = .ok (.value (.slice (some ⟨w.heap.size, 0, none⟩) len len)) (w.alloc (.cells out.toArray e)) := by
    have e' : Instr.fill (fun i => some (i * es, es)) (madeCells ez.toArray (len * es)) (parts.toArray.map fun x => (x.1, a.eval x.2)).toList = some out.toArray := by
      have : (madeCells ez.toArray (len * ez.length)).toList.toArray = madeCells ez.toArray (len * es) := by rw [hzl]
      rw [← this]
      have e : (parts.toArray.map fun x => (x.1, a.eval x.2)).toList = parts.map fun x => (x.1, a.eval x.2) := by simp
      rw [e]; exact g1
    unfold madeCells at e'
    have n1 : ¬ (len * es > 2 ^ 24) := by omega
    by_cases h0 : len * es = 0
    · have hl0 : len = 0 := by omega
      subst hl0
      simp only [Nat.zero_mul, Array.range_zero', Array.map_empty] at e'
      simp [execOp, ho, Instr.buildSlice, run_underlying hu, (hsz.run (w := w)).1, newRow, Array.range_zero']
      simp at e'
      rw [e']
      simp
    · simp only [execOp, ho, Instr.buildSlice, Sem.run_bind, run_underlying hu, (hsz.run (w := w)).1, Result.andThen_ok, if_neg n1, if_neg h0, hz1, hz2, Sem.run_pure, e', newRow]
      simp
  unfold Oper.wp
  rw [hrun]
  simp only [Oper.upon, hd]
  have hnew := hs.newBlock (ob := ylk ys) (n := len * es) hfr (w' := w.alloc (.cells out.toArray e)) (ydr w _) (by simp) (by rw [mentO_matO]; exact hm) (fun h => by rw [isC_matO] at h; cases h)
    (fun ok' lv' k1 k2 => objAt_matO.2 (blk_new (e := e) (extra := []) (by rw [g2.1, hlen]; simp) (by rw [List.append_nil]; exact heap_alloc_eq w _) g2 g3 ok' lv' k1 fun i b mm hb hmm => k2 i b mm hb (by rw [mentO_matO]; exact hmm)))
  refine ⟨_, _, rfl, hnew.putOnly hdN (.ls _ rfl fun b n' hb => ?_)⟩
  simp only [yge, if_true, Option.some.injEq, Prod.mk.injEq] at hb
  obtain ⟨rfl, rfl⟩ := hb
  exact ⟨len, rfl, Nat.le_refl _, by unfold maxLen; omega, rfl⟩
theorem L_buildM (hT : TOK P T) {ti e es eb sz len : Nat} {ea ag : Bool} {ez z : List Value} {parts : List (Nat × Operand)} {ps : List (Nat × AV)} {ys : List AV} (id : Nat) (hk : T ti = some ⟨.slc e es ea eb ez, sz, ag, z⟩) (hone : ez.all Value.oneCell' = true)
    (hps : evP (evF (ybb t)) parts = some ps) (hf : yjn (fun i => some (i * es, es)) (ykg len (ykd ez)) ps = some ys) (hlen : ys.length = len * es) (hlim : Nat.ble (len * es) 16777216 = true) (hfr : yir (S t h) id) (hm : ment.mentL id ys = false)
    (hl : lf ⟨some d, .buildSlice ti len parts.toArray, ty, pos, af, gd⟩ = true) (hw : yaz ops (ybb t) ⟨some d, .buildSlice ti len parts.toArray, ty, pos, af, gd⟩ = some true) (hd : Nat.blt d N = true) (k : Lex P N ops lf Q rest (S ((d, .ls id es len) :: t) ((id, some (ylk ys)) :: h))) :
    Lex P N ops lf Q (⟨some d, .buildSlice ti len parts.toArray, ty, pos, af, gd⟩ :: rest) (S t h) := by
  refine yhi hl hw ?_ k
  have := buildM_loud (N := N) (s := S t h) (P := P) hT (o := ⟨some d, .buildSlice ti len parts.toArray, ty, pos, af, gd⟩) id rfl rfl (by simpa using hd) hk hone hps hf hlen hlim hfr hm
  rwa [show (⟨ygh (S t h).t (some d) (.ls id es len), yde (S t h).h id (some (ylk ys))⟩ : SS) = S ((d, .ls id es len) :: t) ((id, some (ylk ys)) :: h) from S_upd] at this
def subTM (id : Nat) (t : List (Nat × AV)) : List (Nat × AV) → Prop
  | [] => True
  | (x, y) :: t' => (ybb t x = some y ∧ ment id y = false) ∧ subTM id t t'
theorem subTM_nil {id : Nat} {t : List (Nat × AV)} : subTM id t [] := trivial
theorem subTM_cons {id : Nat} {t : List (Nat × AV)} {x : Nat} {y : AV} {t' : List (Nat × AV)} (h1 : ybb t x = some y) (h2 : ment id y = false) (h : subTM id t t') : subTM id t ((x, y) :: t') := ⟨⟨h1, h2⟩, h⟩
theorem subTM_look {id : Nat} {t : List (Nat × AV)} : ∀ {t' : List (Nat × AV)}, subTM id t t' → ∀ x y, ybb t' x = some y → ybb t x = some y ∧ ment id y = false
  | [], _, x, y, h => by simp [ybb] at h
  | (s, z) :: t', hs, x, y, h => by
    simp only [ybb] at h
    split at h
    · rename_i e
      have e : x = s := by simpa using e
      subst e
      simp only [Option.some.injEq] at h
      subst h
      exact hs.1
    · exact subTM_look hs.2 x y h
theorem L_appendV (hT : TOK P T) {ti e es eb sz : Nat} {ea ag : Bool} {ez z : List Value} {x y : Operand} {id len : Nat} {xs : List AV} {rows : List (List AV)} {t' : List (Nat × AV)} {h0 : List (Nat × Option LObj)} (hk : T ti = some ⟨.slc e es ea eb ez, sz, ag, z⟩) (hx : evF (ybb t) x = some (.ls id es len)) (hxl : xs.length = len * es) (hy : evF (ybb t) y = some (.sl es rows))
    (hcp : ∀ c ∈ rows.flatten, ybp c = true) (hlim : len + rows.length ≤ 4294967296 ∧ (len + rows.length) * eb ≤ 140737488355328) (ht : subTM id t t') (h2 : ydt id h0 = true) (hl : lf ⟨some d, .call { callee := .builtin .append, args := #[x, y], argTypes := #[ti, ti] }, ty, pos, af, gd⟩ = true)
    (hw : yaz ops (ybb t) ⟨some d, .call { callee := .builtin .append, args := #[x, y], argTypes := #[ti, ti] }, ty, pos, af, gd⟩ = some true) (hd : Nat.blt d N = true) (k : Lex P N ops lf Q rest (S ((d, .ls id es (len + rows.length)) :: t') ((id, some (.vec (xs ++ rows.flatten))) :: h0))) :
    Lex P N ops lf Q (⟨some d, .call { callee := .builtin .append, args := #[x, y], argTypes := #[ti, ti] }, ty, pos, af, gd⟩ :: rest) (S t ((id, some (.vec xs)) :: h0)) := by
  have e : S ((d, .ls id es (len + rows.length)) :: t') ((id, some (.vec (xs ++ rows.flatten))) :: h0) = (⟨ygh (S t' ((id, some (.vec (xs ++ rows.flatten))) :: h0)).t (some d) (.ls id es (len + rows.length)), (S t' ((id, some (.vec (xs ++ rows.flatten))) :: h0)).h⟩ : SS) := by
    unfold S; rw [yfi]
  refine yhi hl hw ?_ k
  rw [e]
  refine append_loud hT rfl rfl (by simpa using hd) hk hx (by simp [S, yao]) hxl hy (fun ok w lv u hr => src_sl hr) hcp hlim (fun x y h => .inr (subTM_look ht x y h)) (fun x y h => ⟨y, (subTM_look ht x y h).1⟩) (fun j ob' hj hob => ?_) ?_
  · simp only [S] at hob ⊢
    rw [hlook_ne hj] at hob ⊢
    exact ⟨(freshH_look h2).2 j ob' hob, ob', hob, .inl rfl⟩
  · simp [S, yao]
theorem L_lenI (hT : TOK P T) {ti e es eb sz : Nat} {ea ag : Bool} {ez z0 : List Value} {x : Operand} {id z len : Nat} {ob : LObj} (hk : T ti = some ⟨.slc e es ea eb ez, sz, ag, z0⟩) (hx : evF (ybb t) x = some (.ls id z len)) (hh : yao h id = some ob)
    (hw : yaz ops (ybb t) ⟨some d, .call { callee := .builtin .len, args := #[x], argTypes := #[ti] }, ty, pos, af, gd⟩ = some true) (hd : Nat.blt d N = true) (k : Lex P N ops lf Q rest (S ((d, .v (.int .i64 len)) :: t) h)) : Lex P N ops lf Q (⟨some d, .call { callee := .builtin .len, args := #[x], argTypes := #[ti] }, ty, pos, af, gd⟩ :: rest) (S t h) :=
  ycc (yield_len_ls (hT _ _ hk).2.2 hx hh) hw hd k
end Go.Proofs.YtcpgpiabeimefaaGreatDoor
set_option linter.unusedVariables false
namespace Go.Proofs.YtcpgpiabeimefaaGreatDoor
open Go.RowKit
def okW (w : World) (g : Nat) : Prop := g < w.heap.size
theorem relAll1 {ok : Nat → Prop} {w : World} {lv : Live} {a : AV} {cs : List Value} (h : ybr ok w lv [a] cs) : ∃ u, cs = [u] ∧ Rel ok w lv a u := by
  match cs, h with
  | [u], h => exact ⟨u, rfl, h.2 0 _ _ rfl rfl⟩
theorem relAll2 {ok : Nat → Prop} {w : World} {lv : Live} {a b : AV} {cs : List Value} (h : ybr ok w lv [a, b] cs) : ∃ u v, cs = [u, v] ∧ Rel ok w lv a u ∧ Rel ok w lv b v := by
  match cs, h with
  | [u, v], h => exact ⟨u, v, rfl, h.2 0 _ _ rfl rfl, h.2 1 _ _ rfl rfl⟩
theorem ydq {P : Program} {f : FuncId} {args : List AV} {x : Value} (hb : HasBody P f) (h : ∀ (w : World) (us : List Value) (ok : Nat → Prop), (∀ g, ok g → g < w.heap.size) → ybr ok w (fun _ => none) args us → Calls P f us.toArray w fun e w' => e = .returned x ∧ Below w.heap.size w w') : Con P f args (.v x) :=
  ⟨hb, rfl, fun ok0 w us _ hok hr => (h w us ok0 hok hr).mono fun e w' ⟨h1, h2⟩ => ⟨x, h1, .v x, h2⟩⟩
end Go.Proofs.YtcpgpiabeimefaaGreatDoor
namespace Go.Proofs.YtcpgpiabeimefaaGreatDoor
open Go.RowKit

theorem bcell {W w1 : World} (hb : Below W.heap.size W w1) : (∀ b o, b < W.heap.size → w1.cell? ⟨b, o, none⟩ = W.cell? ⟨b, o, none⟩) ∧ (∀ b o, b < W.heap.size → w1.frozen? ⟨b, o, none⟩ = W.frozen? ⟨b, o, none⟩) :=
  ⟨fun b o h => hb.cell (p := ⟨b, o, none⟩) h, fun b o h => hb.frozen (p := ⟨b, o, none⟩) h⟩
theorem yke {w w1 w2 : World} (h1 : Below w.heap.size w w1) (h2 : Below w1.heap.size w1 w2) : Below w.heap.size w w2 := h1.trans (h2.mono h1.size)
theorem bdrew {w w1 : World} (h1 : Below w.heap.size w w1) (n : Nat) : Below w.heap.size w (w1.drewN n) := below_drewN h1 n
theorem yan {a b : Bool} (h : a = b) : Ending.returned (.bool a) = .returned (.bool b) := by rw [h]
theorem ycn {k : IntKind} {a b : Int} (h : a = b) : Ending.returned (.int k a) = .returned (.int k b) := by rw [h]

def Row (w : World) (v : Value) (size n : Nat) (xs : List Value) : Prop :=
  ∃ a cap, v = .slice a n cap ∧ n ≤ cap ∧ cap ≤ maxLen ∧ xs.length = n * size ∧ (a = none → cap = 0) ∧
    (n = 0 ∨ ∃ g o, a = some ⟨g, o, none⟩ ∧ g < w.heap.size ∧ ∀ j u, xs[j]? = some u → w.cell? ⟨g, o + j, none⟩ = some u)

theorem Row.below {w w' : World} {v : Value} {size n : Nat} {xs : List Value} (h : Row w v size n xs) (hb : Below w.heap.size w w') : Row w' v size n xs := by
  obtain ⟨a, cap, hv, h1, h2, h3, h4, h5⟩ := h
  refine ⟨a, cap, hv, h1, h2, h3, h4, ?_⟩
  rcases h5 with h5 | ⟨g, o, ha, hg, hc⟩
  · exact .inl h5
  · exact .inr ⟨g, o, ha, Nat.lt_of_lt_of_le hg hb.size, fun j u hu => (hb.cell (p := ⟨g, _, none⟩) hg).trans (hc j u hu)⟩
theorem yeb {w w' : World} {B e size n : Nat} {v : Value} {xs : List Value} (h : w.ownsRow B e size v n xs) (hb : Below w.heap.size w w') : w'.ownsRow B e size v n xs := by
  obtain ⟨h1, h2⟩ := h
  refine ⟨h1, ?_⟩
  rcases h2 with h2 | ⟨g, cap, cur, hv, hg, hh, r⟩
  · exact .inl h2
  · exact .inr ⟨g, cap, cur, hv, hg, by rw [hb.block g (by rcases Nat.lt_or_ge g w.heap.size with h | h; exact h; simp [Array.getElem?_eq_none h] at hh)]; exact hh, r⟩
theorem own_shape {w : World} {B e size n : Nat} {v : Value} {xs : List Value} (h : w.ownsRow B e size v n xs) : ∃ a cap, v = .slice a n cap := by
  rcases h.2 with ⟨rfl, rfl⟩ | ⟨g, cap, cur, hv, _⟩
  · exact ⟨_, _, rfl⟩
  · exact ⟨_, _, hv⟩
theorem own_lt {w : World} {B e size n : Nat} {v : Value} {xs : List Value} (h : w.ownsRow B e size v n xs) (x : Nat) (hx : w.heap.size ≤ x) : some x ≠ v.ownBlock :=
  fun h1 => by have := (h.lt x h1.symm).2; omega
theorem own_ge {w : World} {B e size n : Nat} {v : Value} {xs : List Value} (h : w.ownsRow B e size v n xs) : ∀ k, v.ownBlock = some k → B ≤ k := fun k hk => (h.lt k hk).1
theorem new_cells (W : World) (l : List Value) (e n : Nat) (hn : n = W.heap.size) : ∀ j u, l[j]? = some u → (W.alloc (.cells l.toArray e)).cell? ((⟨n, 0, none⟩ : Addr).add j) = some u := by
  intro j u h
  subst hn
  have h0 : (⟨W.heap.size, 0, none⟩ : Addr).add j = ⟨W.heap.size, j, none⟩ := by
    unfold Addr.add
    split <;> simp_all
  rw [h0]
  have h1 : (W.alloc (.cells l.toArray e)).heap[W.heap.size]? = some (.cells l.toArray e) := by
    show (W.heap.push (.cells l.toArray e))[W.heap.size]? = _
    rw [Array.getElem?_push, if_pos rfl]
  unfold World.cell?
  simp only [h1]
  simpa using h

theorem row_of_own {w : World} {B e size n : Nat} {v : Value} {xs : List Value} (h : w.ownsRow B e size v n xs) : Row w v size n xs := by
  obtain ⟨h1, h2⟩ := h
  rcases h2 with ⟨rfl, rfl⟩ | ⟨g, cap, cur, hv, hg, hh, hle, hcap, hcs, htk⟩
  · exact ⟨none, 0, rfl, by omega, by simp [maxLen], h1, fun _ => rfl, .inl rfl⟩
  · refine ⟨some ⟨g, 0, none⟩, cap, hv, hle, hcap, h1, (fun h => by cases h), .inr ⟨g, 0, rfl, ?_, fun j u hu => ?_⟩⟩
    · rcases Nat.lt_or_ge g w.heap.size with h | h
      · exact h
      · simp [Array.getElem?_eq_none h] at hh
    · have hj : (cur.toList.take (n * size))[j]? = some u := by rw [htk]; exact hu
      rw [List.getElem?_take] at hj
      unfold World.cell?
      simp only [hh, Nat.zero_add]
      split at hj
      · simpa using hj
      · cases hj
theorem row_nil (w : World) (size : Nat) : Row w (.slice none 0 0) size 0 [] := ⟨none, 0, rfl, by simp, by simp [maxLen], by simp, fun _ => rfl, .inl rfl⟩

theorem Row.open {w : World} {v : Value} {size n : Nat} {xs : List Value} (h : Row w v size n xs) : ∃ a cap, v = .slice a n cap ∧ n ≤ cap ∧ cap ≤ 9223372036854775807 ∧ (a = none → cap = 0) ∧
    (0 < n → ∃ g o, a = some ⟨g, o, none⟩ ∧ g < w.heap.size ∧ ∀ j u, xs[j]? = some u → w.cell? ⟨g, o + j, none⟩ = some u) := by
  obtain ⟨a, cap, hv, h1, h2, h3, h4, h5⟩ := h
  unfold maxLen at h2
  refine ⟨a, cap, hv, h1, by omega, h4, fun hn => ?_⟩
  rcases h5 with h5 | h5
  · omega
  · exact h5

theorem flat_get {α : Type} (f : α → List Value) (k : Nat) (hf : ∀ x, (f x).length = k) (l : List α) : ∀ (i j : Nat) (x : α) (u : Value), l[i]? = some x → (f x)[j]? = some u → (l.flatMap f)[i * k + j]? = some u := by
  induction l with
  | nil => intro i j x u h; simp at h
  | cons y l ih =>
    intro i j x u h hu
    rw [List.flatMap_cons]
    have hj : j < k := by have := (List.getElem?_eq_some_iff.1 hu).1; rw [hf] at this; exact this
    cases i with
    | zero =>
      simp at h; subst h
      rw [Nat.zero_mul, Nat.zero_add, List.getElem?_append_left (by rw [hf]; exact hj)]; exact hu
    | succ i =>
      rw [Nat.succ_mul, List.getElem?_append_right (by rw [hf]; omega), hf, show i * k + k + j - k = i * k + j by omega]
      exact ih i j x u (by simpa using h) hu
theorem flat_len {α : Type} (f : α → List Value) (k : Nat) (hf : ∀ x, (f x).length = k) (l : List α) : (l.flatMap f).length = l.length * k := by
  induction l with
  | nil => simp
  | cons y l ih => rw [List.flatMap_cons, List.length_append, hf, ih, List.length_cons, Nat.succ_mul]; omega

end Go.Proofs.YtcpgpiabeimefaaGreatDoor
