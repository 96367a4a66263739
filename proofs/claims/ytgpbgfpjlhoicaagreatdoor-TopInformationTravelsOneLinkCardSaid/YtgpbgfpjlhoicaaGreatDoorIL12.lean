/- Part 12 of the texts under TopInformationTravelsOneLink: joined, with what it needs alone. -/
import Derived.Lib.Bytealg
import Derived.Test.YtgpbgfpjlhoicaaGreatDoorIL2
import Derived.Test.YtgpbgfpjlhoicaaGreatDoorIL6
import Derived.Test.YtgpbgfpjlhoicaaGreatDoorIL7
import Derived.Test.YtgpbgfpjlhoicaaGreatDoorIL11
set_option linter.unusedVariables false
namespace Go.Proofs.YtgpbgfpjlhoicaaGreatDoor
section
open Go.RowKit
section
variable {P : Program} {T : Nat → Option Ty} {N : Nat} {ops : Array Oper} {lf : Oper → Bool} {Q : SS → Prop} {t : TL} {h : HL} {rest : List Oper} {op : Op} {ty : TypeId} {pos : String} {af : Array Edge} {gd : Option (Nat × Bool)} {r : AV}
def zpu (T : Nat → Option Ty) (t : TL) (ti : Nat) (x : Operand) (lo hi : Option Operand) : Option AV :=
 match yqz (evF (look t)) lo, yqz (evF (look t)) hi with
 | some bl, some bh => match evF (look t) x with
  | some (.v (.string s)) => match T ti with
   | some ⟨.string, _, _, _⟩ => match decide (0 ≤ bl.getD 0) && (decide (bl.getD 0 ≤ bh.getD s.size) && decide (bh.getD s.size ≤ s.size)) with
    | true => some (.v (.string (s.extract (bl.getD 0).toNat (bh.getD s.size).toNat)))
    | false => none
   | _ => none
  | some (.sl es' rows) => match T ti with
   | some ⟨.slc _ es _ _ _, _, _, _⟩ => match Nat.beq es' es && (decide (0 ≤ bl.getD 0) && (decide (bl.getD 0 ≤ bh.getD rows.length) && decide (bh.getD rows.length ≤ rows.length))) with
    | true => some (.sl es ((rows.take (bh.getD rows.length).toNat).drop (bl.getD 0).toNat))
    | false => none
   | _ => none
  | _ => none
 | _, _ => none
theorem sliceC_ok (hT : TOK P T) {ti : Nat} {x : Operand} {lo hi : Option Operand} (hr : zpu T t ti x lo hi = some r) : ybw P (yad h) (evF (look t)) (.slice ti x lo hi none) ty r := by
 unfold zpu at hr
 split at hr
 ·rename_i bl bh h1 h2
  split at hr
  ·rename_i s hx
   split at hr
   ·rename_i sz ag z hk
    split at hr
    ·rename_i hb
     simp only [Option.some.injEq] at hr
     subst hr
     simp only [Bool.and_eq_true, decide_eq_true_eq] at hb
     exact yield_sslice (hT _ _ hk).2.2 hx h1 h2 hb.1 hb.2.1 hb.2.2
    ·cases hr
   ·cases hr
  ·rename_i es' rows hx
   split at hr
   ·rename_i e es ea eb ez sz ag z hk
    split at hr
    ·rename_i hb
     simp only [Option.some.injEq] at hr
     subst hr
     simp only [Bool.and_eq_true, decide_eq_true_eq] at hb
     obtain rfl := Nat.eq_of_beq_eq_true hb.1
     exact yield_slslice (hT _ _ hk).2.2 hx h1 h2 hb.2.1 hb.2.2.1 hb.2.2.2
    ·cases hr
   ·cases hr
  ·cases hr
 ·cases hr
def ztf (T : Nat → Option Ty) (t : TL) (ti : Nat) (x y : Operand) : Option AV :=
 match T ti with
 | some ⟨.string, _, _, _⟩ => match evF (look t) x with
  | some (.v (.string s)) => match evF (look t) y with
   | some (.v (.int _ (.ofNat m))) => match s[m]? with
    | some b => some (.v (.int .u8 b.toNat))
    | none => none
   | _ => none
  | _ => none
 | _ => none
theorem sidxC_ok (hT : TOK P T) {ti : Nat} {x y : Operand} (hr : ztf T t ti x y = some r) : ybw P (yad h) (evF (look t)) (.index ti x y) ty r := by
 unfold ztf at hr
 split at hr
 ·rename_i sz ag z hk
  split at hr
  ·rename_i s hx
   split at hr
   ·rename_i k m hy
    split at hr
    ·rename_i b hb
     simp only [Option.some.injEq] at hr
     subst hr
     exact yuv (hT _ _ hk).2.2 hx hy (by simp) (by simpa using hb)
    ·cases hr
   ·cases hr
  ·cases hr
 ·cases hr
def znm (T : Nat → Option Ty) (t : TL) (ti : Nat) (parts : List (Nat × Operand)) : Option AV :=
 match T ti with
 | some y => match y.zero.all Value.oneCell' with
  | true => match evP (evF (look t)) parts with
   | some ps => zee T ti ps
   | none => none
  | false => none
 | none => none
theorem buildX_ok (hT : TOK P T) {ti : Nat} {parts : List (Nat × Operand)} (hr : znm T t ti parts = some r) : ybw P (yad h) (evF (look t)) (.build ti parts.toArray) ty r := by
 unfold znm at hr
 split at hr
 ·rename_i y hy
  split at hr
  ·rename_i hone
   split at hr
   ·rename_i ps hps
    exact yyv hT hy hone hps hr
   ·cases hr
  ·cases hr
 ·cases hr
def zhs (T : Nat → Option Ty) (t : TL) (ti len : Nat) (parts : List (Nat × Operand)) : Option AV :=
 match T ti with
 | some ⟨.slc _ es _ _ ez, _, _, _⟩ => match ez.all Value.oneCell' && Nat.ble (len * es) 16777216 with
  | true => match evP (evF (look t)) parts with
   | some ps => match yuw (fun i => some (i * es, es)) (yms len (yln ez)) ps with
    | some ys => match ybf.pureL ys with
     | true => match yni es len ys with
      | some rows => some (.sl es rows)
      | none => none
     | false => none
    | none => none
   | none => none
  | false => none
 | _ => none
theorem buildSX_ok (hT : TOK P T) {ti len : Nat} {parts : List (Nat × Operand)} (hr : zhs T t ti len parts = some r) : ybw P (yad h) (evF (look t)) (.buildSlice ti len parts.toArray) ty r := by
 unfold zhs at hr
 split at hr
 ·rename_i e es ea eb ez sz ag z hk
  split at hr
  ·rename_i hb
   simp only [Bool.and_eq_true] at hb
   split at hr
   ·rename_i ps hps
    split at hr
    ·rename_i ys hf
     split at hr
     ·rename_i hpu
      split at hr
      ·rename_i rows hch
       simp only [Option.some.injEq] at hr
       subst hr
       exact ymu hT hk hb.1 hps hf hpu hch hb.2
      ·cases hr
     ·cases hr
    ·cases hr
   ·cases hr
  ·cases hr
 ·cases hr
def zvt (t : TL) (h : HL) (x : Operand) : Option AV :=
 match evF (look t) x with
 | some (.lp id off) => match ypn (yad h id) with
  | some _ => some (.lp id off)
  | none => none
 | some (.dp row off) => some (.dp row off)
 | _ => none
theorem nilX_ok {x : Operand} (hr : zvt t h x = some r) : ybw P (yad h) (evF (look t)) (.nilCheck x) ty r := by
 unfold zvt at hr
 split at hr
 ·rename_i id off hx
  split at hr
  ·rename_i xs hh
   simp only [Option.some.injEq] at hr
   subst hr
   exact ykp hx hh
  ·cases hr
 ·rename_i row off hx
  simp only [Option.some.injEq] at hr
  subst hr
  exact yjo hx
 ·cases hr
def fnX (t : TL) (f : Nat) (caps : List Operand) : Option AV :=
 match evL (evF (look t)) caps with
 | some xs => some (.fn f xs)
 | none => none
theorem fnX_ok {f : Nat} {caps : List Operand} (hr : fnX t f caps = some r) : ybw P (yad h) (evF (look t)) (.makeFunc (.func f) #[] caps.toArray) ty r := by
 unfold fnX at hr
 split at hr
 ·rename_i xs hx
  simp only [Option.some.injEq] at hr
  subst hr
  exact ypx hx
 ·cases hr
def fmX (t : TL) (f : Nat) (first : List Operand) : Option AV :=
 match evL (evF (look t)) first with
 | some xs => some (.fm f xs)
 | none => none
theorem fmX_ok {f : Nat} {first : List Operand} (hr : fmX t f first = some r) : ybw P (yad h) (evF (look t)) (.makeFunc (.func f) first.toArray #[]) ty r := by
 unfold fmX at hr
 split at hr
 ·rename_i xs hx
  simp only [Option.some.injEq] at hr
  subst hr
  exact yield_makeMeth hx
 ·cases hr
def zsq (T : Nat → Option Ty) (t : TL) (h : HL) (op : Op) (ty : TypeId) : Option AV :=
 match op with
 | .indexAddr ti x y => match zvq T t h ti x y with
  | some r => some r
  | none => yqu T t h (.indexAddr ti x y) ty
 | .slice ti x lo hi none => zpu T t ti x lo hi
 | .index ti x y => ztf T t ti x y
 | .build ti ⟨parts⟩ => znm T t ti parts
 | .buildSlice ti len ⟨parts⟩ => zhs T t ti len parts
 | .nilCheck x => zvt t h x
 | .makeFunc (.func f) ⟨[]⟩ ⟨caps⟩ => fnX t f caps
 | .makeFunc (.func f) ⟨first⟩ ⟨[]⟩ => fmX t f first
 | op => yqu T t h op ty
theorem calmX_ok (hT : TOK P T) (hr : zsq T t h op ty = some r) : ybw P (yad h) (evF (look t)) op ty r := by
 unfold zsq at hr
 split at hr
 ·split at hr
  ·rename_i r' h1
   simp only [Option.some.injEq] at hr
   subst hr
   exact idxC_ok hT h1
  ·exact ymf hT hr
 ·exact sliceC_ok hT hr
 ·exact sidxC_ok hT hr
 ·exact buildX_ok hT hr
 ·exact buildSX_ok hT hr
 ·exact nilX_ok hr
 ·exact fnX_ok hr
 ·exact fmX_ok hr
 ·exact ymf hT hr
end
end
section
open Go.RowKit
section
variable {P : Program} {T : Nat → Option Ty} {N : Nat} {ops : Array Oper} {lf : Oper → Bool} {Q : SS → Prop} {t t' : TL} {h h' : HL} {rest : List Oper} {d : Nat} {op : Op} {ty : TypeId} {pos : String} {af : Array Edge} {gd : Option (Nat × Bool)} {r : AV}
theorem zaa {d : Nat} : ∀ {l : TL}, (∀ s x, (s, x) ∈ l → ment d x = false) → ydk d l = true
 | [], _ => rfl
 | (s, x) :: l, h => by
  simp only [ydk, h s x List.mem_cons_self]
  exact zaa fun s' x' hm => h s' x' (List.mem_cons_of_mem _ hm)
theorem yzy {d : Nat} : ∀ {l : HL}, (∀ s x, (s, x) ∈ l → Nat.beq d s = false ∧ ∀ o, x = some o → yfv d o = false) → ycb d l = true
 | [], _ => rfl
 | (s, x) :: l, h => by
  obtain ⟨h1, h2⟩ := h s x List.mem_cons_self
  have h3 := yzy fun s' x' hm => h s' x' (List.mem_cons_of_mem _ hm)
  simp only [ycb, h1]
  cases x with
  | none => exact h3
  | some o => simp only [h2 o rfl]; exact h3
theorem yvg {p : AV → Bool} : ∀ {t : TL} {seen : List Nat} {s : Nat} {x : AV}, (s, x) ∈ ykt p seen t → p x = true
 | [], seen, s, x, h => by simp [ykt] at h
 | (k, y) :: r, seen, s, x, h => by
  simp only [ykt] at h
  split at h
  ·exact yvg h
  ·split at h
   ·rename_i hp
    rcases List.mem_cons.1 h with e | h
    ·cases e; exact hp
    ·exact yvg h
   ·exact yvg h
theorem yoj {p : Nat → LObj → Bool} : ∀ {t : HL} {seen : List Nat} {s : Nat} {x : Option LObj}, (s, x) ∈ yiz p seen t → ∃ o, x = some o ∧ p s o = true
 | [], seen, s, x, h => by simp [yiz] at h
 | (k, y) :: r, seen, s, x, h => by
  simp only [yiz] at h
  split at h
  ·exact yoj h
  ·split at h
   ·exact yoj h
   ·split at h
    ·rename_i hp
     rcases List.mem_cons.1 h with e | h
     ·cases e; exact ⟨_, rfl, hp⟩
     ·exact yoj h
    ·exact yoj h
theorem off_freshT (d : Nat) (t : TL) : ydk d (yuy d t) = true := zaa fun s x hm => by simpa using yvg hm
theorem off_freshH (d : Nat) (h : HL) : ycb d (zig d h) = true := yzy fun s x hm => by
 obtain ⟨o, rfl, hp⟩ := yoj hm
 simp only [Bool.and_eq_true, Bool.not_eq_true'] at hp
 exact ⟨hp.1, fun o' e => by cases e; exact hp.2⟩
theorem yru (d : Nat) (t : TL) (h : HL) : yls (S (yuy d t) (zig d h)) d := yho (off_freshT d t) (off_freshH d h)
def zvm (t : TL) (h : HL) (d : Nat) (x : Operand) : Option (TL × HL) :=
 match evF (look (yuy d t)) x with
 | some y => match ydt y with
  | some cs => match ment.mentL d cs with
   | true => none
   | false => some ((d, .lp d 0) :: yuy d t, (d, some (.cells cs)) :: zig d h)
  | none => none
 | none => none
theorem boxX_ok {e : Nat} {x : Operand} (hd : Nat.blt d N = true) (hr : zvm t h d x = some (t', h')) : ych P N ⟨some d, .box e x, ty, pos, af, gd⟩ (S t h) (· = S t' h') := by
 unfold zvm at hr
 split at hr
 ·rename_i y hx
  split at hr
  ·rename_i cs hcs
   split at hr
   ·cases hr
   ·rename_i hm
    simp only [Option.some.injEq, Prod.mk.injEq] at hr
    obtain ⟨rfl, rfl⟩ := hr
    refine ych.pre ?_ (zcw d t h)
    rw [← yqa]
    exact zjj rfl rfl (by simpa using hd) d hx hcs (yru d t h) hm (by simpa using hd)
  ·cases hr
 ·cases hr
def znh (T : Nat → Option Ty) (t : TL) (h : HL) (d e : Nat) : Option (TL × HL) :=
 match T e with
 | some y => match y.zero.all Value.oneCell' with
  | true => some ((d, .lp d 0) :: yuy d t, (d, some (.cells (yln y.zero))) :: zig d h)
  | false => none
 | none => none
theorem allocX_ok (hT : TOK P T) {e : Nat} (hd : Nat.blt d N = true) (hr : znh T t h d e = some (t', h')) : ych P N ⟨some d, .alloc e, ty, pos, af, gd⟩ (S t h) (· = S t' h') := by
 unfold znh at hr
 split at hr
 ·rename_i y hy
  split at hr
  ·rename_i hone
   simp only [Option.some.injEq, Prod.mk.injEq] at hr
   obtain ⟨rfl, rfl⟩ := hr
   refine ych.pre ?_ (zcw d t h)
   rw [← yqa, ymg]
   exact yzj hT rfl rfl (by simpa using hd) d hy hone (yru d t h) (by simpa using hd)
  ·cases hr
 ·cases hr
def ymx (d : Nat) : Nat := d + 3000000
def zsx (T : Nat → Option Ty) (t : TL) (h : HL) (d ti : Nat) (x y : Operand) : Option (TL × HL) :=
 match T ti with
 | some ⟨.slc _ es _ eb ez, _, _, _⟩ => match evF (look (yuy (ymx d) t)) x with
  | some (.v (.int .i64 (.ofNat m))) => match evF (look (yuy (ymx d) t)) y with
   | some (.v (.int .i64 (.ofNat m'))) => match ez.all Value.oneCell' && (Nat.beq m' m && (Nat.ble m 4294967296 && Nat.ble (eb * m) 281474976710656)) with
    | true => some ((d, .ls (ymx d) es m) :: yuy (ymx d) t, (ymx d, some (.vec (yms m (yln ez)))) :: zig (ymx d) h)
    | false => none
   | _ => none
  | _ => none
 | _ => none
theorem makeX_ok (hT : TOK P T) {ti : Nat} {x y : Operand} (hd : Nat.blt d N = true) (hr : zsx T t h d ti x y = some (t', h')) : ych P N ⟨some d, .makeSlice ti x y, ty, pos, af, gd⟩ (S t h) (· = S t' h') := by
 unfold zsx at hr
 split at hr
 ·rename_i e es ea eb ez sz ag z hk
  split at hr
  ·rename_i m hx
   split at hr
   ·rename_i m' hy
    split at hr
    ·rename_i hb
     simp only [Bool.and_eq_true, Nat.ble_eq] at hb
     obtain ⟨h1, h2, h3, h4⟩ := hb
     obtain rfl := Nat.eq_of_beq_eq_true h2
     simp only [Option.some.injEq, Prod.mk.injEq] at hr
     obtain ⟨rfl, rfl⟩ := hr
     refine ych.pre ?_ (zcw (ymx d) t h)
     rw [← yqa]
     exact yro hT rfl rfl (by simpa using hd) (ymx d) hk h1 hx hy ⟨h3, h4⟩ (yru (ymx d) t h)
    ·cases hr
   ·cases hr
  ·cases hr
 ·cases hr
def zpv (T : Nat → Option Ty) (t : TL) (h : HL) (ti : Nat) (x v : Operand) : Option (TL × HL) :=
 match T ti with
 | some y => match evF (look t) x with
  | some (.lp id off) => match evF (look t) v with
   | some u => match ydt u with
    | some cs => match Nat.beq cs.length y.size with
     | true => match yad h id with
      | some (.cells xs) => match yhk off cs xs with
       | some ys => some (t, (id, some (.cells ys)) :: h)
       | none => none
      | some (.vec (z :: xs)) => match ybf.pureL cs with
       | true => match yhk off cs (z :: xs) with
        | some ys => some (t, (id, some (.vec ys)) :: h)
        | none => none
       | false => none
      | _ => none
     | false => none
    | none => none
   | none => none
  | _ => none
 | none => none
theorem storeX_ok (hT : TOK P T) {ti : Nat} {x v : Operand} (hr : zpv T t h ti x v = some (t', h')) : ych P N ⟨none, .store ti x v, ty, pos, af, gd⟩ (S t h) (· = S t' h') := by
 unfold zpv at hr
 split at hr
 ·rename_i y hy
  split at hr
  ·rename_i id off hx
   split at hr
   ·rename_i u hv
    split at hr
    ·rename_i cs hcs
     split at hr
     ·rename_i hcl
      split at hr
      ·rename_i xs hh
       split at hr
       ·rename_i ys hsp
        simp only [Option.some.injEq, Prod.mk.injEq] at hr
        obtain ⟨rfl, rfl⟩ := hr
        obtain ⟨h1, h2⟩ := yir hsp
        rw [← S_h]
        exact yis rfl rfl (hT _ _ hy).1 hx hv hcs (Nat.eq_of_beq_eq_true hcl) hh (by rw [h2]; exact .cells h1)
       ·cases hr
      ·rename_i z xs hh
       split at hr
       ·rename_i hp
        split at hr
        ·rename_i ys hsp
         simp only [Option.some.injEq, Prod.mk.injEq] at hr
         obtain ⟨rfl, rfl⟩ := hr
         obtain ⟨h1, h2⟩ := yir hsp
         rw [← S_h]
         exact yis rfl rfl (hT _ _ hy).1 hx hv hcs (Nat.eq_of_beq_eq_true hcl) hh (by rw [h2]; exact .vec h1 (yrx hp) (by simp))
        ·cases hr
       ·cases hr
      ·cases hr
     ·cases hr
    ·cases hr
   ·cases hr
  ·cases hr
 ·cases hr
def zvj (T : Nat → Option Ty) (t : TL) (h : HL) (d ti : Nat) (x y : Operand) : Option (TL × HL) :=
 match T ti with
 | some ⟨.slc _ es _ eb _, _, _, _⟩ => match evF (look t) x with
  | some (.v (.slice none 0 0)) => match evF (look (yuy (ymx d) t)) x with
   | some (.v (.slice none 0 0)) => match evF (look (yuy (ymx d) t)) y with
    | some (.sl es' rows) => match ybf.pureL rows.flatten && (Nat.beq es' es && (Nat.ble rows.length 4294967296 && Nat.ble (rows.length * eb) 140737488355328)) with
     | true => some ((d, .ls (ymx d) es rows.length) :: yuy (ymx d) t, (ymx d, some (.vec rows.flatten)) :: zig (ymx d) h)
     | false => none
    | _ => none
   | _ => none
  | some (.ls id es1 len) => match yad h id with
   | some (.vec xs) => match evF (look t) y with
    | some (.sl es' rows) => match ybf.pureL rows.flatten && (Nat.beq es' es && (Nat.beq es1 es && (Nat.beq xs.length (len * es) && (Nat.ble (len + rows.length) 4294967296 && Nat.ble ((len + rows.length) * eb) 140737488355328)))) with
     | true => match yrg id t with
      | some t1 => match ypf id h with
       | some h1 => some ((d, .ls id es (len + rows.length)) :: t1, (id, some (.vec (xs ++ rows.flatten))) :: h1)
       | none => none
      | none => none
     | false => none
    | _ => none
   | _ => none
  | _ => none
 | _ => none
theorem appX_ok (hT : TOK P T) {ti : Nat} {x y : Operand} (hd : Nat.blt d N = true) (hr : zvj T t h d ti x y = some (t', h')) : ych P N ⟨some d, .call { callee := .builtin .append, args := #[x, y], argTypes := #[ti, ti] }, ty, pos, af, gd⟩ (S t h) (· = S t' h') := by
 unfold zvj at hr
 split at hr
 ·rename_i e es ea eb ez sz ag z hk
  split at hr
  ·split at hr
   ·rename_i hx
    split at hr
    ·rename_i es' rows hy
     split at hr
     ·rename_i hb
      simp only [Bool.and_eq_true, Nat.ble_eq] at hb
      obtain ⟨h1, h2, h3, h4⟩ := hb
      obtain rfl := Nat.eq_of_beq_eq_true h2
      simp only [Option.some.injEq, Prod.mk.injEq] at hr
      obtain ⟨rfl, rfl⟩ := hr
      refine ych.pre ?_ (zcw (ymx d) t h)
      rw [← yqa]
      exact ykk hT (ymx d) rfl rfl (by simpa using hd) hk hx (yru (ymx d) t h) hy (fun ok w lv u hr => yyj hr) (yrx h1) ⟨h3, h4⟩
     ·cases hr
    ·cases hr
   ·cases hr
  ·rename_i id es1 len hx
   split at hr
   ·rename_i xs hid
    split at hr
    ·rename_i es' rows hy
     split at hr
     ·rename_i hb
      simp only [Bool.and_eq_true, Nat.ble_eq] at hb
      obtain ⟨h1, h2, h3, h4, h5, h6⟩ := hb
      rw [Nat.eq_of_beq_eq_true h2] at hy
      rw [Nat.eq_of_beq_eq_true h3] at hx
      have hxl := Nat.eq_of_beq_eq_true h4
      split at hr
      ·rename_i t1 ht
       split at hr
       ·rename_i h1' hh
        simp only [Option.some.injEq, Prod.mk.injEq] at hr
        obtain ⟨rfl, rfl⟩ := hr
        obtain ⟨g1, g2⟩ := ygg ht
        have e : S ((d, .ls id es (len + rows.length)) :: t1) ((id, some (.vec (xs ++ rows.flatten))) :: h1') = (⟨yes (S t1 ((id, some (.vec (xs ++ rows.flatten))) :: h1')).t (some d) (.ls id es (len + rows.length)), (S t1 ((id, some (.vec (xs ++ rows.flatten))) :: h1')).h⟩ : SS) := by
         unfold S; rw [ydi]
        rw [e]
        refine ylu hT rfl rfl (by simpa using hd) hk hx hid hxl hy (fun ok w lv u hr => yyj hr) (yrx h1) ⟨h5, h6⟩ g1 g2 (fun j ob' hj hob => ?_) ?_
        ·simp only [S, yad, ydm hj] at hob
         exact yfi hh j ob' hob
        ·simp [S, yad]
       ·cases hr
      ·cases hr
     ·cases hr
    ·cases hr
   ·cases hr
  ·cases hr
 ·cases hr
end
end
section
open Go.RowKit
theorem zcz {ids : List Nat} {σ τ : Nat → Nat} (hσ : ∀ i ∈ ids, σ (τ i) = i) : ∀ (x : AV), yen ids x = true → yff σ (yff τ x) = x
 | .v _, _ => rfl
 | .any, _ => rfl
 | .one, _ => rfl
 | .sl _ _, _ => rfl
 | .dp _ _, _ => rfl
 | .mv _, _ => rfl
 | .lp i o, h => by simp only [yff, hσ i (by simpa [yen] using h)]
 | .ls i _ _, h => by simp only [yff, hσ i (by simpa [yen] using h)]
 | .mp i, h => by simp only [yff, hσ i (by simpa [yen] using h)]
 | .agg cs, h => by simp only [yff, rows cs (by simpa [yen] using h)]
 | .tup cs, h => by simp only [yff, rows cs (by simpa [yen] using h)]
 | .fn _ cs, h => by simp only [yff, rows cs (by simpa [yen] using h)]
 | .fm _ cs, h => by simp only [yff, rows cs (by simpa [yen] using h)]
 where rows : ∀ (cs : List AV), yen.onlyL ids cs = true → yff.renL σ (yff.renL τ cs) = cs
 | [], _ => rfl
 | c :: cs, h => by
  simp only [yen.onlyL, Bool.and_eq_true] at h
  simp only [yff.renL, zcz hσ c h.1, rows cs h.2]
theorem renO_back {ids : List Nat} {σ τ : Nat → Nat} (hσ : ∀ i ∈ ids, σ (τ i) = i) {o : LObj} (h : yqq ids o = true) : yyy σ (yyy τ o) = o := by
 cases o <;> simp only [yyy, yqq] at h ⊢ <;> rw [zcz.rows hσ _ h]
def up (i : Nat) : Nat := i + 1000
def zuo : List Nat → List (Nat × Nat)
 | [] => []
 | i :: l => (up i, i) :: zuo l
theorem ysd {sg : List (Nat × Nat)} {i : Nat} : ∀ {ids : List Nat}, i ∈ ids → yeu (zuo ids ++ sg) (up i) = i
 | [], h => by cases h
 | k :: l, h => by
  simp only [zuo, List.cons_append, yeu]
  cases hb : Nat.beq (up i) (up k) with
  | true => have := Nat.eq_of_beq_eq_true hb; unfold up at this; simp only; omega
  | false =>
   rcases List.mem_cons.1 h with rfl | h
   ·simp at hb
   ·exact ysd h
def zue (h : HL) : List Nat → HL
 | [] => []
 | i :: l => (up i, match yad h i with
  | some o => some (yyy up o)
  | none => none) :: zue h l
def zkt (h : HL) (ids : List Nat) : List Nat → Bool
 | [] => true
 | i :: l => (match yad h i with
  | some o => yqq ids o
  | none => true) && zkt h ids l
theorem zkd {h : HL} {ids : List Nat} {sg : List (Nat × Nat)} : ∀ {l : List Nat}, (∀ i ∈ l, i ∈ ids) → zkt h ids l = true → yus h (zmk (zuo ids ++ sg) (zue h l))
 | [], _, _ => trivial
 | i :: l, hm, ho => by
  simp only [zkt, Bool.and_eq_true] at ho
  have ih := zkd (sg := sg) (l := l) (fun j hj => hm j (List.mem_cons_of_mem _ hj)) ho.2
  have hi := hm i List.mem_cons_self
  simp only [zue]
  cases hx : yad h i with
  | none =>
   unfold zmk
   exact And.intro (fun o e => by cases e) ih
  | some o =>
   rw [hx] at ho
   unfold zmk
   refine And.intro (fun o' e => ?_) ih
   simp only [Option.some.injEq] at e
   rw [ysd hi, hx, ← e, renO_back (fun j hj => ysd hj) ho.1]
def zfi : AV → List Nat
 | .lp i _ => [i]
 | .ls i _ _ => [i]
 | .mp i => [i]
 | .agg cs => idsL cs
 | .tup cs => idsL cs
 | .fn _ cs => idsL cs
 | .fm _ cs => idsL cs
 | _ => []
 where idsL : List AV → List Nat
 | [] => []
 | c :: cs => zfi c ++ idsL cs
def zvc : LObj → List Nat
 | .cells xs => zfi.idsL xs
 | .tcells _ xs => zfi.idsL xs
 | .mcells xs => zfi.idsL xs
 | _ => []
def zpj (h : HL) : Nat → List Nat → List Nat → List Nat
 | 0, _, seen => seen
 | _ + 1, [], seen => seen
 | n + 1, i :: r, seen => match ylg i seen with
  | true => zpj h n r seen
  | false => match yad h i with
   | some o => zpj h n (zvc o ++ r) (i :: seen)
   | none => zpj h n r (i :: seen)
def zoy (ks : List Nat) : HL → Nat → List (Nat × Nat)
 | [], _ => []
 | (i, _) :: l, m => match ylg i ks with
  | true => zoy ks l m
  | false => (i, m) :: zoy ks l (m + 1)
def zut : HL → Nat → Nat
 | [], m => m
 | (i, _) :: l, m => zut l (match Nat.blt m i with
  | true => i
  | false => m)
section
variable {P : Program} {T : Nat → Option Ty} {N : Nat} {ops : Array Oper} {lf : Oper → Bool} {Q : SS → Prop} {t t' : TL} {h h' : HL} {rest : List Oper} {d : Nat} {op : Op} {ty : TypeId} {pos : String} {af : Array Edge} {gd : Option (Nat × Bool)} {r : AV}
theorem callMG_loud (sg : List (Nat × Nat)) {g : Operand} {args : List Operand} {ats : Array TypeId} {f : FuncId} {caps xs args0 : List AV} {hs hs' h' : List (Nat × Option LObj)} (hc : yva P f args0 (yad hs) r (yad hs')) (hg : yzf (evF (look t) g) f caps args) (hx : evL (evF (look t)) args = some xs) (hargs : xs ++ caps = args0.map (yff (yeu sg)))
  (hk : yef (ybm sg) = true) (hv : yef (ycj sg) = true) (hd1 : yss (ybm sg) hs = true) (hd2 : yss (ybm sg) hs' = true) (hsub : yus h (zmk sg hs)) (hr : yen (ybm sg) r = true) (ho : ynp (ybm sg) hs' = true) (hh : yud (ycj sg) (zel (ycj sg) h) = some h') (hd : Nat.blt d N = true) :
  ych P N ⟨some d, .call { callee := .value g, args := args.toArray, argTypes := ats }, ty, pos, af, gd⟩ (S t h) (· = S ((d, yff (yeu sg) r) :: yky sg hs' t) (yng sg hs' sg ++ h')) := by
 refine yoh (σ := yeu sg) (ids := ybm sg) rfl rfl (by simpa using hd) hg hx hargs hc (yyi hv) (yhd hd1) (yhd hd2) (ysa hsub) hr (yji ho) (fun x y hy => ?_) (fun i hi => yve hk hv i hi) (fun j ob' hj hob => ?_)
 ·simp only [S, look] at hy
  cases hb : Nat.beq x d with
  | true => simp only [hb, Option.some.injEq] at hy; exact .inl ⟨Nat.eq_of_beq_eq_true hb, hy.symm⟩
  | false =>
   simp only [hb] at hy
   refine .inr ⟨fun e => by subst e; simp at hb, ?_⟩
   rcases yhe hy with hq | ⟨h1, h2⟩
   ·exact .inl hq
   ·exact .inr ⟨h1, ysz hk h2⟩
 ·have hjv : j ∉ ycj sg := fun hm => by
   obtain ⟨i, h1, h2⟩ := ytp hm hk
   exact hj i h1 h2
  simp only [S, ylv hjv] at hob
  obtain ⟨h1, h2⟩ := yqk hh j ob' hob
  rw [yvi hjv] at h2
  exact ⟨fun i hi => h1 _ (yjl hi), h2⟩
structure Calls0 where
 pure : FuncId → List AV → Option AV
 lent : FuncId → List AV → HL → Option (AV × HL)
 fz : FuncId → Bool
structure CallsOk (P : Program) (K : Calls0) : Prop where
 pure : ∀ f xs r, K.pure f xs = some r → Con P f xs r
 lent : ∀ f xs hs r hs', K.lent f xs hs = some (r, hs') → yva P f xs (yad hs) r (yad hs')
def zsv : HL → List Nat
 | [] => []
 | (i, _) :: l => i :: zsv l
def zqt (K : Calls0) (t : TL) (h : HL) (d f : Nat) (all : List AV) : Option (TL × HL) :=
 let ids := zpj h 1000 (zfi.idsL all ++ zsv h) []
 match K.lent f (all.map (yff up)) (zue h ids) with
 | none => none
 | some (r, hs') =>
  let sg := zuo ids ++ zoy (ids.map up) hs' (zut h 2000000 + 1)
  match yen.onlyL ids all && (zkt h ids ids && (yef (ybm sg) && (yef (ycj sg) && (yss (ybm sg) (zue h ids) && (yss (ybm sg) hs' && (yen (ybm sg) r && ynp (ybm sg) hs')))))) with
  | false => none
  | true => match yud (ycj sg) (zel (ycj sg) h) with
   | none => none
   | some h1 => some ((d, yff (yeu sg) r) :: yky sg hs' t, yng sg hs' sg ++ h1)
theorem ren_backL {ids : List Nat} {σ τ : Nat → Nat} (hσ : ∀ i ∈ ids, σ (τ i) = i) {xs : List AV} (h : yen.onlyL ids xs = true) : (xs.map (yff τ)).map (yff σ) = xs := by
 have := zcz.rows hσ xs h
 rwa [yce, yce] at this
theorem zki {K : Calls0} (hK : CallsOk P K) {g : Operand} {args : List Operand} {ats : Array TypeId} {f : FuncId} {caps xs : List AV} (hg : yzf (evF (look t) g) f caps args) (hx : evL (evF (look t)) args = some xs) (hd : Nat.blt d N = true) (hr : zqt K t h d f (xs ++ caps) = some (t', h')) :
  ych P N ⟨some d, .call { callee := .value g, args := args.toArray, argTypes := ats }, ty, pos, af, gd⟩ (S t h) (· = S t' h') := by
 unfold zqt at hr
 simp only at hr
 split at hr
 ·cases hr
 ·rename_i r hs' hc
  split at hr
  ·cases hr
  ·rename_i hb
   simp only [Bool.and_eq_true] at hb
   obtain ⟨h1, h2, h3, h4, h5, h6, h7, h8⟩ := hb
   split at hr
   ·cases hr
   ·rename_i h1' hh
    simp only [Option.some.injEq, Prod.mk.injEq] at hr
    obtain ⟨rfl, rfl⟩ := hr
    exact callMG_loud _ (hK.lent _ _ _ _ _ hc) hg hx (ren_backL (fun i hi => ysd hi) h1).symm h3 h4 h5 h6 (zkd (fun i hi => hi) h2) h7 h8 hh hd
end
end
section
open Go.RowKit
section
variable {P : Program} {T : Nat → Option Ty} {N : Nat} {ops : Array Oper} {lf : Oper → Bool} {Q : SS → Prop} {t t' : TL} {h h' : HL} {rest : List Oper} {op : Op} {ty : TypeId} {pos : String} {af : Array Edge} {gd : Option (Nat × Bool)} {r : AV} {K : Calls0} {big : Bool}
def zuk (N : Nat) (d : Option Nat) (r : Option AV) (t : TL) (h : HL) : Option (TL × HL) :=
 match r with
 | some r => match d with
  | some d => match Nat.blt d N with
   | true => some ((d, r) :: t, h)
   | false => none
  | none => some (t, h)
 | none => none
def ztz (K : Calls0) (big : Bool) (t : TL) (h : HL) (d : Nat) (g : Operand) (args : List Operand) : Option (TL × HL) :=
 match evF (look t) g with
 | some (.fn f caps) => match evL (evF (look t)) args with
  | some xs => match ybf.pureL (xs ++ caps) with
   | true => match K.pure f (xs ++ caps) with
    | some r => some ((d, r) :: t, h)
    | none => none
   | false => match big with
    | true => zqt K t h d f (xs ++ caps)
    | false => none
  | none => none
 | some (.fm f caps) => match args, big with
  | [], true => zqt K t h d f caps
  | _, _ => none
 | _ => none
def zvp (T : Nat → Option Ty) (K : Calls0) (N : Nat) (big : Bool) (t : TL) (h : HL) (d : Option Nat) (op : Op) (ty : TypeId) : Option (TL × HL) :=
 match op with
 | .box _ x => match d with
  | some d => match Nat.blt d N with
   | true => zvm t h d x
   | false => none
  | none => none
 | .alloc e => match d with
  | some d => match Nat.blt d N with
   | true => znh T t h d e
   | false => none
  | none => none
 | .makeSlice ti x y => match d with
  | some d => match Nat.blt d N with
   | true => zsx T t h d ti x y
   | false => none
  | none => none
 | .store ti x v => match d with
  | some _ => none
  | none => zpv T t h ti x v
 | .call ⟨.builtin .append, ⟨[x, y]⟩, ⟨[ti, tj]⟩⟩ => match d with
  | some d => match Nat.blt d N && Nat.beq tj ti with
   | true => zvj T t h d ti x y
   | false => none
  | none => none
 | .call ⟨.value g, ⟨args⟩, ats⟩ => match d with
  | some d => match Nat.blt d N with
   | true => ztz K big t h d g args
   | false => none
  | none => none
 | op => zuk N d (zsq T t h op ty) t h
theorem L_put {d : Option Nat} {r : Option AV} (hy : ∀ r', r = some r' → ybw P (yad h) (evF (look t)) op ty r') (hr : zuk N d r t h = some (t', h')) (hw : yaj ops (look t) ⟨d, op, ty, pos, af, gd⟩ = some true) (k : Lex P N ops lf Q rest (S t' h')) : Lex P N ops lf Q (⟨d, op, ty, pos, af, gd⟩ :: rest) (S t h) := by
 unfold zuk at hr
 split at hr
 ·split at hr
  ·split at hr
   ·rename_i hd
    simp only [Option.some.injEq, Prod.mk.injEq] at hr
    obtain ⟨rfl, rfl⟩ := hr
    exact ycf (hy _ rfl) hw hd k
   ·cases hr
  ·simp only [Option.some.injEq, Prod.mk.injEq] at hr
   obtain ⟨rfl, rfl⟩ := hr
   exact L_yield0 (hy _ rfl) hw k
 ·cases hr
theorem exOp_ok (hT : TOK P T) (hK : CallsOk P K) (hlf : ∀ o, zon o.op = true → lf o = true) (hbig : big = true → ∀ o, lf o = true) {d : Option Nat} (hr : zvp T K N big t h d op ty = some (t', h')) (hw : yaj ops (look t) ⟨d, op, ty, pos, af, gd⟩ = some true) (k : Lex P N ops lf Q rest (S t' h')) : Lex P N ops lf Q (⟨d, op, ty, pos, af, gd⟩ :: rest) (S t h) := by
 unfold zvp at hr
 split at hr
 ·split at hr
  ·split at hr
   ·rename_i hd
    exact yec (hlf _ rfl) hw (boxX_ok hd hr) k
   ·cases hr
  ·cases hr
 ·split at hr
  ·split at hr
   ·rename_i hd
    exact yec (hlf _ rfl) hw (allocX_ok hT hd hr) k
   ·cases hr
  ·cases hr
 ·split at hr
  ·split at hr
   ·rename_i hd
    exact yec (hlf _ rfl) hw (makeX_ok hT hd hr) k
   ·cases hr
  ·cases hr
 ·split at hr
  ·cases hr
  ·exact yec (hlf _ rfl) hw (storeX_ok hT hr) k
 ·split at hr
  ·split at hr
   ·rename_i hd
    simp only [Bool.and_eq_true] at hd
    obtain rfl := Nat.eq_of_beq_eq_true hd.2
    exact yec (hlf _ rfl) hw (appX_ok hT hd.1 hr) k
   ·cases hr
  ·cases hr
 ·split at hr
  ·split at hr
   ·rename_i hd
    unfold ztz at hr
    split at hr
    ·rename_i f caps hg
     split at hr
     ·rename_i xs hx
      split at hr
      ·split at hr
       ·rename_i r hp
        simp only [Option.some.injEq, Prod.mk.injEq] at hr
        obtain ⟨rfl, rfl⟩ := hr
        exact yac hg hx (hK.pure _ _ _ hp) hw hd k
       ·cases hr
      ·split at hr
       ·exact yec (hbig rfl _) hw (zki hK (.inl hg) hx hd hr) k
       ·cases hr
     ·cases hr
    ·rename_i f caps hg
     split at hr
     ·exact yec (hbig rfl _) hw (zki (xs := []) hK (.inr ⟨hg, rfl⟩) rfl hd hr) k
     ·cases hr
    ·cases hr
   ·cases hr
  ·cases hr
 ·exact L_put (fun r' e => calmX_ok hT e) hr hw k
def exL (T : Nat → Option Ty) (K : Calls0) (N : Nat) (big : Bool) (ops : Array Oper) : List Oper → TL → HL → Option (TL × HL)
 | [], t, h => some (t, h)
 | ⟨d, op, ty, pos, af, gd⟩ :: l, t, h => match yaj ops (look t) ⟨d, op, ty, pos, af, gd⟩ with
  | some true => match zvp T K N big t h d op ty with
   | some (t1, h1) => exL T K N big ops l t1 h1
   | none => none
  | some false => match zuk N d (some (.v undef)) t h with
   | some (t1, h1) => exL T K N big ops l t1 h1
   | none => none
  | none => none
theorem yzu (hT : TOK P T) (hK : CallsOk P K) (hlf : ∀ o, zon o.op = true → lf o = true) (hbig : big = true → ∀ o, lf o = true) : ∀ {l : List Oper} {t : TL} {h : HL}, exL T K N big ops l t h = some (t', h') → Q (S t' h') → Lex P N ops lf Q l (S t h)
 | [], t, h, hr, hq => by
  simp only [exL, Option.some.injEq, Prod.mk.injEq] at hr
  obtain ⟨rfl, rfl⟩ := hr
  exact ydw hq
 | ⟨d, op, ty, pos, af, gd⟩ :: l, t, h, hr, hq => by
  simp only [exL] at hr
  split at hr
  ·rename_i hw
   split at hr
   ·rename_i t1 h1 ho
    exact exOp_ok hT hK hlf hbig ho hw (yzu hT hK hlf hbig hr hq)
   ·cases hr
  ·rename_i hw
   split at hr
   ·rename_i t1 h1 ho
    have k := yzu hT hK hlf hbig hr hq
    unfold zuk at ho
    simp only at ho
    split at ho
    ·split at ho
     ·rename_i hd
      simp only [Option.some.injEq, Prod.mk.injEq] at ho
      obtain ⟨rfl, rfl⟩ := ho
      exact zrf hw hd k
     ·cases ho
    ·simp only [Option.some.injEq, Prod.mk.injEq] at ho
     obtain ⟨rfl, rfl⟩ := ho
     exact L_skip0 hw k
   ·cases hr
  ·cases hr
end
end
section
open Go.RowKit
def eqV : Value → Value → Bool
 | .bool a, .bool b => a == b
 | .int k a, .int k' b => decide (k = k') && decide (a = b)
 | .string a, .string b => decide (a = b)
 | .slice none a b, .slice none c d => Nat.beq a c && Nat.beq b d
 | .pointer none, .pointer none => true
 | .nilFunc, .nilFunc => true
 | .nilIface, .nilIface => true
 | .tuple ⟨[]⟩, .tuple ⟨[]⟩ => true
 | _, _ => false
theorem eqV_ok {a b : Value} (h : eqV a b = true) : a = b := by
 unfold eqV at h
 split at h
 ·simpa using h
 ·simp only [Bool.and_eq_true, decide_eq_true_eq] at h; rw [h.1, h.2]
 ·rw [of_decide_eq_true h]
 ·simp only [Bool.and_eq_true] at h; rw [Nat.eq_of_beq_eq_true h.1, Nat.eq_of_beq_eq_true h.2]
 ·rfl
 ·rfl
 ·rfl
 ·rfl
 ·cases h
def eqA : AV → AV → Bool
 | .v a, .v b => eqV a b
 | .sl s xs, .sl s' ys => Nat.beq s s' && eqR xs ys
 | .dp xs o, .dp ys o' => eqL xs ys && Nat.beq o o'
 | .lp i o, .lp j o' => Nat.beq i j && Nat.beq o o'
 | .ls i a b, .ls j c d => Nat.beq i j && (Nat.beq a c && Nat.beq b d)
 | .agg xs, .agg ys => eqL xs ys
 | .tup xs, .tup ys => eqL xs ys
 | .fn f xs, .fn g ys => Nat.beq f g && eqL xs ys
 | .fm f xs, .fm g ys => Nat.beq f g && eqL xs ys
 | .any, .any => true
 | .one, .one => true
 | _, _ => false
 where
 eqL : List AV → List AV → Bool
 | [], [] => true
 | x :: xs, y :: ys => eqA x y && eqL xs ys
 | _, _ => false
 eqR : List (List AV) → List (List AV) → Bool
 | [], [] => true
 | x :: xs, y :: ys => eqL x y && eqR xs ys
 | _, _ => false
theorem zer : ∀ (x y : AV), eqA x y = true → x = y
 | .v a, y, h => by cases y <;> simp only [eqA] at h <;> first | rw [eqV_ok h] | cases h
 | .sl s xs, y, h => by
  cases y <;> simp only [eqA, Bool.and_eq_true] at h <;> first | cases h; done | rw [Nat.eq_of_beq_eq_true h.1, rws _ _ h.2]
 | .dp xs o, y, h => by
  cases y <;> simp only [eqA, Bool.and_eq_true] at h <;> first | cases h; done | rw [Nat.eq_of_beq_eq_true h.2, row _ _ h.1]
 | .lp i o, y, h => by
  cases y <;> simp only [eqA, Bool.and_eq_true] at h <;> first | cases h; done | rw [Nat.eq_of_beq_eq_true h.1, Nat.eq_of_beq_eq_true h.2]
 | .ls i a b, y, h => by
  cases y <;> simp only [eqA, Bool.and_eq_true] at h <;> first | cases h; done | rw [Nat.eq_of_beq_eq_true h.1, Nat.eq_of_beq_eq_true h.2.1, Nat.eq_of_beq_eq_true h.2.2]
 | .agg xs, y, h => by cases y <;> simp only [eqA] at h <;> first | cases h; done | rw [row _ _ h]
 | .tup xs, y, h => by cases y <;> simp only [eqA] at h <;> first | cases h; done | rw [row _ _ h]
 | .fn f xs, y, h => by
  cases y <;> simp only [eqA, Bool.and_eq_true] at h <;> first | cases h; done | rw [Nat.eq_of_beq_eq_true h.1, row _ _ h.2]
 | .fm f xs, y, h => by
  cases y <;> simp only [eqA, Bool.and_eq_true] at h <;> first | cases h; done | rw [Nat.eq_of_beq_eq_true h.1, row _ _ h.2]
 | .any, y, h => by cases y <;> simp only [eqA] at h <;> first | rfl | cases h
 | .one, y, h => by cases y <;> simp only [eqA] at h <;> first | rfl | cases h
 | .mp i, y, h => by cases y <;> simp only [eqA] at h <;> cases h
 | .mv i, y, h => by cases y <;> simp only [eqA] at h <;> cases h
 where
 row : ∀ (x y : List AV), eqA.eqL x y = true → x = y
 | [], [], _ => rfl
 | [], _ :: _, h => by simp [eqA.eqL] at h
 | _ :: _, [], h => by simp [eqA.eqL] at h
 | x :: xs, y :: ys, h => by
  simp only [eqA.eqL, Bool.and_eq_true] at h
  rw [zer x y h.1, row xs ys h.2]
 rws : ∀ (x y : List (List AV)), eqA.eqR x y = true → x = y
 | [], [], _ => rfl
 | [], _ :: _, h => by simp [eqA.eqR] at h
 | _ :: _, [], h => by simp [eqA.eqR] at h
 | x :: xs, y :: ys, h => by
  simp only [eqA.eqR, Bool.and_eq_true] at h
  rw [row x y h.1, rws xs ys h.2]
def eqO : LObj → LObj → Bool
 | .cells xs, .cells ys => eqA.eqL xs ys
 | .vec xs, .vec ys => eqA.eqL xs ys
 | _, _ => false
theorem eqO_ok {x y : LObj} (h : eqO x y = true) : x = y := by
 unfold eqO at h
 split at h
 ·rw [zer.row _ _ h]
 ·rw [zer.row _ _ h]
 ·cases h
end
section
open Go.RowKit
def zvn (x y : Option LObj) : Bool := match x, y with
 | some a, some b => eqO a b
 | none, none => true
 | _, _ => false
theorem eqHo_ok {x y : Option LObj} (h : zvn x y = true) : x = y := by
 unfold zvn at h
 split at h
 ·rw [eqO_ok h]
 ·rfl
 ·cases h
def zgr (t u : HL) : HL → Bool
 | [] => true
 | (s, _) :: l => zvn (yad t s) (yad u s) && zgr t u l
theorem yyf {t u : HL} : ∀ {l : HL}, zgr t u l = true → ∀ s x, (s, x) ∈ l → yad t s = yad u s
 | [], _, s, x, h => by cases h
 | (k, y) :: l, hb, s, x, h => by
  simp only [zgr, Bool.and_eq_true] at hb
  rcases List.mem_cons.1 h with e | h
  ·cases e; exact eqHo_ok hb.1
  ·exact yyf hb.2 s x h
theorem ysy : ∀ {l : HL} {i : Nat}, (∀ x, (i, x) ∉ l) → yad l i = none
 | [], i, _ => rfl
 | (k, x) :: l, i, h => by
  simp only [yad]
  cases hb : Nat.beq i k with
  | true => exact absurd (by rw [Nat.eq_of_beq_eq_true hb]; exact List.mem_cons_self) (h x)
  | false => exact ysy fun y hy => h y (List.mem_cons_of_mem _ hy)
def ztd (t u : HL) : Bool := zgr t u t && zgr t u u
theorem sameH_ok {t u : HL} (h : ztd t u = true) : yad t = yad u := by
 simp only [ztd, Bool.and_eq_true] at h
 funext i
 by_cases h1 : ∃ x, (i, x) ∈ t
 ·obtain ⟨x, hx⟩ := h1; exact yyf h.1 i x hx
 ·by_cases h2 : ∃ x, (i, x) ∈ u
  ·obtain ⟨x, hx⟩ := h2; exact yyf h.2 i x hx
  ·rw [ysy fun x hx => h1 ⟨x, hx⟩, ysy fun x hx => h2 ⟨x, hx⟩]
def yqs (t u : TL) : TL → Bool
 | [] => true
 | (s, _) :: l => (match look t s, look u s with
  | some a, some b => eqA a b
  | none, none => true
  | _, _ => false) && yqs t u l
theorem yto {t u : TL} : ∀ {l : TL}, yqs t u l = true → ∀ s x, (s, x) ∈ l → look t s = look u s
 | [], _, s, x, h => by cases h
 | (k, y) :: l, hb, s, x, h => by
  simp only [yqs, Bool.and_eq_true] at hb
  rcases List.mem_cons.1 h with e | h
  ·cases e
   have h1 := hb.1
   split at h1
   ·rename_i a b ha hb'; rw [ha, hb', zer _ _ h1]
   ·rename_i ha hb'; rw [ha, hb']
   ·cases h1
  ·exact yto hb.2 s x h
theorem yxj : ∀ {l : TL} {i : Nat}, (∀ x, (i, x) ∉ l) → look l i = none
 | [], i, _ => rfl
 | (k, x) :: l, i, h => by
  simp only [look]
  cases hb : Nat.beq i k with
  | true => exact absurd (by rw [Nat.eq_of_beq_eq_true hb]; exact List.mem_cons_self) (h x)
  | false => exact yxj fun y hy => h y (List.mem_cons_of_mem _ hy)
theorem sameT_ok {t u : TL} (h : (yqs t u t && yqs t u u) = true) : look t = look u := by
 simp only [Bool.and_eq_true] at h
 funext i
 by_cases h1 : ∃ x, (i, x) ∈ t
 ·obtain ⟨x, hx⟩ := h1; exact yto h.1 i x hx
 ·by_cases h2 : ∃ x, (i, x) ∈ u
  ·obtain ⟨x, hx⟩ := h2; exact yto h.2 i x hx
  ·rw [yxj fun x hx => h1 ⟨x, hx⟩, yxj fun x hx => h2 ⟨x, hx⟩]
def zte (t : TL) (h : HL) (u : TL) (g : HL) : Bool := (yqs t u t && yqs t u u) && ztd h g
theorem sameS_ok {t u : TL} {h g : HL} (hb : zte t h u g = true) : S t h = S u g := by
 simp only [zte] at hb
 rw [Bool.and_eq_true] at hb
 unfold S
 rw [sameT_ok hb.1, sameH_ok hb.2]
end
section
open Go.RowKit
section
variable {P : Program} {T : Nat → Option Ty} {N : Nat} {ops : Array Oper} {Q : SS → Prop} {K : Calls0}
def yvj (ops : Array Oper) (listed : Array Bool) : List Nat → Option Nat
 | [] => none
 | k :: l => match zgg ops lf0 [k] listed with
  | true => some k
  | false => yvj ops listed l
theorem yws {listed : Array Bool} : ∀ {l : List Nat} {k : Nat}, yvj ops listed l = some k → zgg ops lf0 [k] listed = true
 | [], k, h => by cases h
 | i :: l, k, h => by
  unfold yvj at h
  split at h
  ·rename_i hp; simp only [Option.some.injEq] at h; subst h; exact hp
  ·exact yws h
def zjv (f : Nat → Option (TL × HL)) : List Nat → Option (TL × HL)
 | [] => none
 | [k] => f k
 | k :: l => match f k with
  | none => none
  | some (t1, h1) => match zjv f l with
   | none => none
   | some (t2, h2) => match zte t1 h1 t2 h2 with
    | true => some (t2, h2)
    | false => none
theorem zes {f : Nat → Option (TL × HL)} : ∀ {l : List Nat} {t' : TL} {h' : HL}, zjv f l = some (t', h') → l ≠ [] ∧ ∀ k ∈ l, ∃ t1 h1, f k = some (t1, h1) ∧ S t1 h1 = S t' h'
 | [], t', h', h => by cases h
 | [k], t', h', h => ⟨by simp, fun j hj => by
  simp only [List.mem_singleton] at hj
  subst hj
  exact ⟨t', h', h, rfl⟩⟩
 | k :: i :: l, t', h', h => by
  unfold zjv at h
  split at h
  ·cases h
  ·rename_i t1 h1 hf
   split at h
   ·cases h
   ·rename_i t2 h2 hg
    split at h
    ·rename_i hs
     simp only [Option.some.injEq, Prod.mk.injEq] at h
     obtain ⟨rfl, rfl⟩ := h
     obtain ⟨_, ih⟩ := zes hg
     refine ⟨by simp, fun j hj => ?_⟩
     rcases List.mem_cons.1 hj with rfl | hj
     ·exact ⟨t1, h1, hf, sameS_ok hs⟩
     ·exact ih j hj
    ·cases h
def zmb (T : Nat → Option Ty) (K : Calls0) (N : Nat) (ops : Array Oper) : Nat → Array Bool → TL → HL → Option (TL × HL)
 | 0, listed, t, h => match yrv ops lf0 [] listed with
  | true => some (t, h)
  | false => none
 | n + 1, listed, t, h => match yvj ops listed (Region.ready .any ops listed) with
  | some k => match ops[k]? with
   | some o => match exL T K N false ops [o] t h with
    | some (t1, h1) => zmb T K N ops n (yhh [k] listed) t1 h1
    | none => none
   | none => none
  | none => zjv (fun k => match ops[k]? with
   | some o => match exL T K N false ops [o] t h with
    | some (t1, h1) => zmb T K N ops n (listed.setIfInBounds k true) t1 h1
    | none => none
   | none => none) (Region.ready .any ops listed)
theorem zcb (hT : TOK P T) (hK : CallsOk P K) : ∀ (n : Nat) (listed : Array Bool) (t : TL) (h : HL) (t' : TL) (h' : HL), zmb T K N ops n listed t h = some (t', h') → Q (S t' h') → zqd P N ops lf0 Q n listed (S t h)
 | 0, listed, t, h, t', h', hr, hq => by
  simp only [zmb] at hr
  split at hr
  ·rename_i ho
   simp only [Option.some.injEq, Prod.mk.injEq] at hr
   obtain ⟨rfl, rfl⟩ := hr
   exact yar [] (l := []) yak rfl ho (ydw hq)
  ·cases hr
 | n + 1, listed, t, h, t', h', hr, hq => by
  simp only [zmb] at hr
  split at hr
  ·rename_i k hp
   split at hr
   ·rename_i o ho
    split at hr
    ·rename_i t1 h1 hx
     refine yqb [k] n (l := [o]) (yaa ho yak) (by simp; omega) (yws hp) ?_
     exact yzu hT hK (fun _ ho => ho) (fun e => by cases e) hx (zcb hT hK n _ _ _ _ _ hr hq)
    ·cases hr
   ·cases hr
  ·obtain ⟨hne, hall⟩ := zes hr
   refine ybc _ n rfl rfl hne ?_
   generalize Region.ready .any ops listed = ks at hall
   clear hne hr
   induction ks with
   | nil => exact trivial
   | cons k ks ih =>
    refine ⟨?_, ih fun j hj => hall j (List.mem_cons_of_mem _ hj)⟩
    obtain ⟨t1, h1, hf, hs⟩ := hall k List.mem_cons_self
    split at hf
    ·rename_i o ho
     split at hf
     ·rename_i t2 h2 hx
      refine ⟨o, ho, yzu hT hK (fun _ ho => ho) (fun e => by cases e) hx (zcb hT hK n _ _ _ _ _ hf (hs ▸ hq))⟩
     ·cases hf
    ·cases hf
end
end
section
open Go.RowKit
section
variable {P : Program} {N : Nat} {Q : Exit → SS → Prop} {c : Code}
def zva (jb k : Nat) (t : TL) (h : HL) : TL × HL :=
 match yad h jb with
 | some (.cells ys) => match ys[k]? with
  | some (.ls id size len) => match yad h id with
   | some (.vec xs) => match yni size len xs with
    | some rows => match yrg id t with
     | some t1 => match ypf id h with
      | some h1 => match yad ((id, none) :: h1) jb with
       | some (.cells ys') => match Nat.beq ys'.length ys.length with
        | true => (t1, (jb, some (.cells (ys'.set k (.sl size rows)))) :: (id, none) :: h1)
        | false => (t, h)
       | _ => (t, h)
      | none => (t, h)
     | none => (t, h)
    | none => (t, h)
   | _ => (t, h)
  | _ => (t, h)
 | _ => (t, h)
theorem frz1_ok {jb k : Nat} {t : TL} {h : HL} (q : A P N c Q (S (zva jb k t h).1 (zva jb k t h).2)) : A P N c Q (S t h) := by
 unfold zva at q
 split at q
 ·rename_i ys hj
  split at q
  ·rename_i id size len hk
   split at q
   ·rename_i xs hx
    split at q
    ·rename_i rows hc
     obtain ⟨q1, q2, q3⟩ := ylx hc
     split at q
     ·rename_i t1 ht
      split at q
      ·rename_i h1 hh
       split at q
       ·rename_i ys' hj'
        split at q
        ·rename_i hl
         exact ykq jb k rows hj hk hx q1 q2 q3 ht hh hj' hl q
        ·exact q
       ·exact q
      ·exact q
     ·exact q
    ·exact q
   ·exact q
  ·exact q
 ·exact q
def zvb (jb : Nat) : Nat → TL → HL → TL × HL
 | 0, t, h => (t, h)
 | k + 1, t, h => match zva jb k t h with
  | (t1, h1) => zvb jb k t1 h1
theorem zoc {jb : Nat} : ∀ {k : Nat} {t : TL} {h : HL}, A P N c Q (S (zvb jb k t h).1 (zvb jb k t h).2) → A P N c Q (S t h)
 | 0, t, h, q => q
 | k + 1, t, h, q => frz1_ok (jb := jb) (k := k) (zoc (k := k) q)
def ztm : HL → TL → HL → TL × HL
 | [], t, h => (t, h)
 | (jb, some (.cells ys)) :: l, t, h => match zvb jb ys.length t h with
  | (t1, h1) => ztm l t1 h1
 | _ :: l, t, h => ztm l t h
theorem yje : ∀ {l : HL} {t : TL} {h : HL}, A P N c Q (S (ztm l t h).1 (ztm l t h).2) → A P N c Q (S t h)
 | [], t, h, q => q
 | (jb, some (.cells ys)) :: l, t, h, q => zoc (jb := jb) (k := ys.length) (yje (l := l) q)
 | (jb, none) :: l, t, h, q => yje (l := l) q
 | (jb, some (.vec _)) :: l, t, h, q => yje (l := l) q
 | (jb, some (.map _)) :: l, t, h, q => yje (l := l) q
 | (jb, some (.iter _ _ _)) :: l, t, h, q => yje (l := l) q
 | (jb, some (.siter _ _)) :: l, t, h, q => yje (l := l) q
 | (jb, some (.tcells _ _)) :: l, t, h, q => yje (l := l) q
 | (jb, some (.tvec _ _)) :: l, t, h, q => yje (l := l) q
 | (jb, some (.mcells _)) :: l, t, h, q => yje (l := l) q
end
end
section
open Go.RowKit
section
variable {P : Program} {T : Nat → Option Ty} {N : Nat} {Q : Exit → SS → Prop} {t t' : TL} {h h' : HL} {K : Calls0}
def znz : List ResultVar → TL → HL → TL × HL
 | [], t, h => (t, h)
 | .tmp d :: rs, t, h => match look t d with
  | some (.ls id size len) => match yad h id with
   | some (.vec xs) => match yni size len xs with
    | some rows => match yrg id t with
     | some t1 => match ypf id h with
      | some h1 => znz rs ((d, .sl size rows) :: t1) ((id, none) :: h1)
      | none => znz rs t h
     | none => znz rs t h
    | none => znz rs t h
   | _ => znz rs t h
  | _ => znz rs t h
 | .cell _ _ :: rs, t, h => znz rs t h
theorem ynl {c : Code} : ∀ {rs : List ResultVar} {t : TL} {h : HL}, A P N c Q (S (znz rs t h).1 (znz rs t h).2) → A P N c Q (S t h)
 | [], t, h, k => k
 | .cell _ _ :: rs, t, h, k => ynl (rs := rs) k
 | .tmp d :: rs, t, h, k => by
  simp only [znz] at k
  split at k
  ·rename_i id size len hd
   split at k
   ·rename_i xs hx
    split at k
    ·rename_i rows hc
     obtain ⟨q1, q2, q3⟩ := ylx hc
     split at k
     ·rename_i t1 ht
      split at k
      ·rename_i h1 hh
       exact ziy d rows hd hx q1 q2 q3 ht hh (ynl (rs := rs) k)
      ·exact ynl (rs := rs) k
     ·exact ynl (rs := rs) k
    ·exact ynl (rs := rs) k
   ·exact ynl (rs := rs) k
  ·exact ynl (rs := rs) k
def wantsF (K : Calls0) (l : List Oper) : Bool := l.any fun o => match o.op with
 | .call ⟨.value (.func f), _, _⟩ => K.fz f
 | _ => false
def zui (K : Calls0) (l : List Oper) (t : TL) (h : HL) : TL × HL := match wantsF K l with
 | true => ztm h t h
 | false => (t, h)
theorem preX_ok {c : Code} {l : List Oper} (q : A P N c Q (S (zui K l t h).1 (zui K l t h).2)) : A P N c Q (S t h) := by
 unfold zui at q
 split at q
 ·exact yje q
 ·exact q
def ownH (h : HL) : HL := h.filter fun x => Nat.blt x.1 1000
def zta (l : List Oper) (t : TL) (h : HL) : TL × HL := match l.any fun o => (match o.op with
 | .call ⟨.builtin .append, _, _⟩ => true
 | _ => false) with
 | true => ztm (ownH h) t h
 | false => (t, h)
theorem zpf {c : Code} {l : List Oper} (q : A P N c Q (S (zta l t h).1 (zta l t h).2)) : A P N c Q (S t h) := by
 unfold zta at q
 split at q
 ·exact yje q
 ·exact q
def exC (T : Nat → Option Ty) (K : Calls0) (N : Nat) (rs : List ResultVar) : Nat → Code → TL → HL → Option (Exit × TL × HL)
 | 0, _, _, _ => none
 | n + 1, c, t, h => match c with
  | .skip => some (.normal, t, h)
  | .exit id => some (.exit id, t, h)
  | .label _ => some (.normal, t, h)
  | .ret => match znz rs t h with
   | (t1, h1) => some (.ret, t1, h1)
  | .seq x y => match exC T K N rs n x t h with
   | some (.normal, t1, h1) => exC T K N rs n y t1 h1
   | some (.exit id, t1, h1) => some (.exit id, t1, h1)
   | some (.ret, t1, h1) => some (.ret, t1, h1)
   | _ => none
  | .cond c x y => match evF (look t) c with
   | some (.v (.bool true)) => exC T K N rs n x t h
   | some (.v (.bool false)) => exC T K N rs n y t h
   | _ => none
  | .block id x => match exC T K N rs n x t h with
   | some (.normal, t1, h1) => some (.normal, t1, h1)
   | some (.exit id', t1, h1) => match Nat.beq id' id with
    | true => some (.normal, t1, h1)
    | false => some (.exit id', t1, h1)
   | some (.ret, t1, h1) => some (.ret, t1, h1)
   | _ => none
  | .loop x => match exC T K N rs n x (ykt (fun _ => true) [] t) (yiz (fun _ _ => true) [] h) with
   | some (.normal, t1, h1) => exC T K N rs n (.loop x) t1 h1
   | some (.exit id, t1, h1) => some (.exit id, t1, h1)
   | some (.ret, t1, h1) => some (.ret, t1, h1)
   | _ => none
  | .region _ ⟨l⟩ false => match ygd l with
   | true => match exL T K N true l.toArray l (zui K l t h).1 (zui K l t h).2 with
    | some (t1, h1) => some (.normal, t1, h1)
    | none => none
   | false => none
  | .region _ ⟨l⟩ true => match zjm lf0 l && ypp N l with
   | true => match exL T K N false l.toArray l (zta l t h).1 (zta l t h).2 with
    | some (t1, h1) => some (.normal, t1, h1)
    | none => none
   | false => match ypp N l with
    | true => match zmb T K N l.toArray l.length (Array.replicate l.length false) (zta l t h).1 (zta l t h).2 with
     | some (t1, h1) => some (.normal, t1, h1)
     | none => none
    | false => none
  | _ => none
theorem zju (hm : P.follows .mixedOrders = true) (hT : TOK P T) (hK : CallsOk P K) {rs : List ResultVar} : ∀ (n : Nat) (c : Code) (t : TL) (h : HL) (e : Exit) (t' : TL) (h' : HL), exC T K N rs n c t h = some (e, t', h') → (∀ Q : Exit → SS → Prop, Q e (S t' h') → A P N c Q (S t h)) ∧ (∀ x, c = .loop x → ∀ Q : Exit → SS → Prop, Q e (S t' h') → zho P N x Q (S t h))
 | 0, c, t, h, e, t', h', hr => by simp [exC] at hr
 | n + 1, c, t, h, e, t', h', hr => by
  have ih := fun c t h e t' h' hr => (zju hm hT hK (rs := rs) n c t h e t' h' hr).1
  have ihl := fun x t h e t' h' hr => (zju hm hT hK (rs := rs) n (.loop x) t h e t' h' hr).2 x rfl
  by_cases hl : ∃ x, c = .loop x
  ·obtain ⟨x, rfl⟩ := hl
   have key : ∀ Q : Exit → SS → Prop, Q e (S t' h') → zho P N x Q (S t h) := by
    intro Q hq
    refine ywb ?_ (yzq (fun _ => true) t) (yzp (fun _ _ => true) h)
    refine yoc ?_
    simp only [exC] at hr
    split at hr
    ·rename_i t1 h1 hb
     exact ih _ _ _ _ _ _ hb _ (ihl _ _ _ _ _ _ hr Q hq)
    ·rename_i id t1 h1 hb
     simp only [Option.some.injEq, Prod.mk.injEq] at hr
     obtain ⟨rfl, rfl, rfl⟩ := hr
     exact ih _ _ _ _ _ _ hb _ hq
    ·rename_i t1 h1 hb
     simp only [Option.some.injEq, Prod.mk.injEq] at hr
     obtain ⟨rfl, rfl, rfl⟩ := hr
     exact ih _ _ _ _ _ _ hb _ hq
    ·cases hr
   exact ⟨fun Q hq => zmx (key Q hq), fun y e Q hq => by cases e; exact key Q hq⟩
  ·refine ⟨fun Q hq => ?_, fun x e => absurd ⟨x, e⟩ hl⟩
   unfold exC at hr
   split at hr
   ·simp only [Option.some.injEq, Prod.mk.injEq] at hr
    obtain ⟨rfl, rfl, rfl⟩ := hr
    exact ybx hq
   ·simp only [Option.some.injEq, Prod.mk.injEq] at hr
    obtain ⟨rfl, rfl, rfl⟩ := hr
    exact yco hq
   ·simp only [Option.some.injEq, Prod.mk.injEq] at hr
    obtain ⟨rfl, rfl, rfl⟩ := hr
    exact A_label hq
   ·simp only [Option.some.injEq, Prod.mk.injEq] at hr
    obtain ⟨rfl, h1, h2⟩ := hr
    refine ynl (rs := rs) (yaf ?_)
    rw [h1, h2]
    exact hq
   ·rename_i x y
    refine ydl ?_
    split at hr
    ·rename_i t1 h1 hb
     exact ih _ _ _ _ _ _ hb _ (ih _ _ _ _ _ _ hr Q hq)
    ·rename_i id t1 h1 hb
     simp only [Option.some.injEq, Prod.mk.injEq] at hr
     obtain ⟨rfl, rfl, rfl⟩ := hr
     exact ih _ _ _ _ _ _ hb _ hq
    ·rename_i t1 h1 hb
     simp only [Option.some.injEq, Prod.mk.injEq] at hr
     obtain ⟨rfl, rfl, rfl⟩ := hr
     exact ih _ _ _ _ _ _ hb _ hq
    ·cases hr
   ·rename_i cc x y
    split at hr
    ·rename_i hc
     exact yag hc (fun _ => ih _ _ _ _ _ _ hr Q hq) (fun e => by cases e)
    ·rename_i hc
     exact yag hc (fun e => by cases e) (fun _ => ih _ _ _ _ _ _ hr Q hq)
    ·cases hr
   ·rename_i id x
    refine ybr ?_
    split at hr
    ·rename_i t1 h1 hb
     simp only [Option.some.injEq, Prod.mk.injEq] at hr
     obtain ⟨rfl, rfl, rfl⟩ := hr
     exact ih _ _ _ _ _ _ hb _ hq
    ·rename_i id' t1 h1 hb
     split at hr
     ·rename_i he
      simp only [Option.some.injEq, Prod.mk.injEq] at hr
      obtain ⟨rfl, rfl, rfl⟩ := hr
      refine ih _ _ _ _ _ _ hb _ ?_
      simp only [znb, he, if_true]
      exact hq
     ·rename_i he
      simp only [Option.some.injEq, Prod.mk.injEq] at hr
      obtain ⟨rfl, rfl, rfl⟩ := hr
      refine ih _ _ _ _ _ _ hb _ ?_
      simp only [znb, he]
      exact hq
    ·rename_i t1 h1 hb
     simp only [Option.some.injEq, Prod.mk.injEq] at hr
     obtain ⟨rfl, rfl, rfl⟩ := hr
     exact ih _ _ _ _ _ _ hb _ hq
    ·cases hr
   ·exact absurd ⟨_, rfl⟩ hl
   ·rename_i id l
    split at hr
    ·rename_i hn
     split at hr
     ·rename_i t1 h1 hb
      simp only [Option.some.injEq, Prod.mk.injEq] at hr
      obtain ⟨rfl, rfl, rfl⟩ := hr
      exact preX_ok (l := l) (ydj (lf := lfT) hn (yzu hT hK (fun _ _ => rfl) (fun _ _ => rfl) hb hq))
     ·cases hr
    ·cases hr
   ·rename_i id l
    split at hr
    ·rename_i hn
     simp only [Bool.and_eq_true] at hn
     split at hr
     ·rename_i t1 h1 hb
      simp only [Option.some.injEq, Prod.mk.injEq] at hr
      obtain ⟨rfl, rfl, rfl⟩ := hr
      exact zpf (l := l) (ypj (lf := lf0) hm hn.1 hn.2 (yzu hT hK (fun _ ho => ho) (fun e => by cases e) hb hq))
     ·cases hr
    ·split at hr
     ·rename_i hd
      split at hr
      ·rename_i t1 h1 hb
       simp only [Option.some.injEq, Prod.mk.injEq] at hr
       obtain ⟨rfl, rfl, rfl⟩ := hr
       exact zpf (l := l) (yeb (lf := lf0) hm hd (zcb hT hK _ _ _ _ _ _ hb hq))
      ·cases hr
     ·cases hr
   ·cases hr
end
end
section
open Go.RowKit
section
variable {P : Program} {T : Nat → Option Ty} {K : Calls0}
def zqx : Exit → Bool
 | .normal => true
 | .ret => true
 | _ => false
def zvd (P : Program) (T : Nat → Option Ty) (K : Calls0) (F : Nat) (f : FuncId) (args : List AV) (hs : HL) : Option (AV × HL) :=
 match P.funcs[f]? with
 | none => none
 | some fn => match fn.name == "runtime.NumGoroutine" with
  | true => none
  | false => match fn.body with
   | none => none
   | some c => match Nat.ble args.length fn.ntmps && Nat.ble fn.ntmps 1000 with
    | false => none
    | true => match exC T K fn.ntmps fn.results.toList F c (ygb 0 args) hs with
     | none => none
     | some (e, t1, h1) => match zqx e with
      | false => none
      | true => match ytl T (S t1 h1) fn.results.toList with
       | none => none
       | some x => some (x, h1)
theorem zpq {F : Nat} {f : FuncId} {args : List AV} {hs h1 : HL} {x : AV} (hr : zvd P T K F f args hs = some (x, h1)) :
  ∃ fn c e t1, P.funcs[f]? = some fn ∧ (fn.name == "runtime.NumGoroutine") = false ∧ fn.body = some c ∧ (Nat.ble args.length fn.ntmps = true ∧ Nat.ble fn.ntmps 1000 = true) ∧ exC T K fn.ntmps fn.results.toList F c (ygb 0 args) hs = some (e, t1, h1) ∧ zqx e = true ∧ ytl T (S t1 h1) fn.results.toList = some x := by
 unfold zvd at hr
 split at hr
 ·cases hr
 ·rename_i fn hf
  split at hr
  ·cases hr
  ·rename_i hn
   split at hr
   ·cases hr
   ·rename_i c hb
    split at hr
    ·cases hr
    ·rename_i hl
     split at hr
     ·cases hr
     ·rename_i e t1 h2 hc
      split at hr
      ·cases hr
      ·rename_i he
       split at hr
       ·cases hr
       ·rename_i x' hx
        simp only [Option.some.injEq, Prod.mk.injEq] at hr
        obtain ⟨rfl, rfl⟩ := hr
        simp only [Bool.and_eq_true] at hl
        exact ⟨fn, c, e, t1, hf, hn, hb, hl, hc, he, hx⟩
def zih (P : Program) (T : Nat → Option Ty) (K : Calls0) (F : Nat) (f : FuncId) (args : List AV) : Option AV :=
 match zvd P T K F f args [] with
 | some (x, _) => match ybf x with
  | true => some x
  | false => none
 | none => none
theorem pureRun_ok (hm : P.follows .mixedOrders = true) (hT : TOK P T) (hK : CallsOk P K) {F : Nat} {f : FuncId} {args : List AV} {r : AV} (hr : zih P T K F f args = some r) : Con P f args r := by
 unfold zih at hr
 split at hr
 ·rename_i x h1 hx
  split at hr
  ·rename_i hp
   simp only [Option.some.injEq] at hr
   subst hr
   obtain ⟨fn, c, e, t1, hf, hn, hb, hl, hc, he, hres⟩ := zpq hx
   have hl2 : Nat.ble fn.ntmps 1000000 = true := by have := hl.2; simp only [Nat.ble_eq] at this ⊢; omega
   refine yja hT hf hn hb rfl (rs := fn.results.toList) (by simp) (by rw [hl.1, hl2]; rfl) hp ?_
   refine (zju hm hT hK _ _ _ _ _ _ _ hc).1 _ ?_
   cases e with
   | normal => exact ⟨_, hres, Frz.pure⟩
   | ret => exact ⟨_, hres, Frz.pure⟩
   | _ => simp [zqx] at he
  ·cases hr
 ·cases hr
def zia (P : Program) (T : Nat → Option Ty) (K : Calls0) (F : Nat) (f : FuncId) (args : List AV) (hs : HL) : Option (AV × HL) :=
 match zvd P T K F f args hs with
 | some (x, h1) =>
  let live := zpj h1 1000 (zfi x ++ zsv hs) []
  some (x, yiz (fun i o => ylg i live && (!isC o || (Nat.ble 1000 i && (match yad hs i with
   | some o' => isC o'
   | none => false)))) [] h1)
 | none => none
theorem yri : ∀ {l : HL} {i : Nat} {o : LObj}, yad l i = some o → (i, some o) ∈ l
 | [], i, o, h => by simp [yad] at h
 | (k, x) :: l, i, o, h => by
  simp only [yad] at h
  cases hb : Nat.beq i k with
  | true => rw [hb] at h; simp only at h; rw [Nat.eq_of_beq_eq_true hb, h]; exact List.mem_cons_self
  | false => rw [hb] at h; exact List.mem_cons_of_mem _ (yri h)
theorem lentRun_ok (hm : P.follows .mixedOrders = true) (hT : TOK P T) (hK : CallsOk P K) {F : Nat} {f : FuncId} {args : List AV} {hs hs' : HL} {r : AV} (hr : zia P T K F f args hs = some (r, hs')) : yva P f args (yad hs) r (yad hs') := by
 unfold zia at hr
 split at hr
 ·rename_i x h1 hx
  simp only [Option.some.injEq, Prod.mk.injEq] at hr
  obtain ⟨rfl, rfl⟩ := hr
  obtain ⟨fn, c, e, t1, hf, hn, hb, hl, hc, he, hres⟩ := zpq hx
  have hl2 : Nat.ble fn.ntmps 1000000 = true := by have := hl.2; simp only [Nat.ble_eq] at this ⊢; omega
  refine zbw hT hf hn hb rfl (rs := fn.results.toList) (by simp) (by rw [hl.1, hl2]; rfl) (fun id o ho hc' => ?_) ?_
  ·obtain ⟨o', e', hp⟩ := yoj (yri ho)
   cases e'
   rw [hc'] at hp
   simp only [Bool.and_eq_true, Bool.or_eq_true, Bool.not_true, Bool.false_eq_true, false_or] at hp
   obtain ⟨_, h2, h3⟩ := hp
   have h4 := hl.2
   simp only [Nat.ble_eq] at h2 h4
   refine ⟨by omega, ?_⟩
   split at h3
   ·rename_i o' ho'; exact ⟨o', ho', h3⟩
   ·cases h3
  ·show A P fn.ntmps c _ (S (ygb 0 args) hs)
   refine (zju hm hT hK _ _ _ _ _ _ _ hc).1 _ ?_
   cases e with
   | normal => exact ⟨_, hres, yob _, fun id o ho => (ynj (yri ho)).2⟩
   | ret => exact ⟨_, hres, yob _, fun id o ho => (ynj (yri ho)).2⟩
   | _ => simp [zqx] at he
 ·cases hr
def ynh (P : Program) (T : Nat → Option Ty) (F : Nat) (kn : FuncId → List AV → Option AV) (kl : Calls0 → FuncId → List AV → HL → Option (AV × HL)) (fz : FuncId → Bool) : Nat → Calls0
 | 0 => ⟨fun _ _ => none, fun _ _ _ => none, fz⟩
 | n + 1 => ⟨fun f xs => match kn f xs with
   | some r => some r
   | none => zih P T (ynh P T F kn kl fz n) F f xs, fun f xs hs => match kl (ynh P T F kn kl fz n) f xs hs with
   | some r => some r
   | none => zia P T (ynh P T F kn kl fz n) F f xs hs, fz⟩
theorem yzl (hm : P.follows .mixedOrders = true) (hT : TOK P T) {F : Nat} {kn : FuncId → List AV → Option AV} {kl : Calls0 → FuncId → List AV → HL → Option (AV × HL)} {fz : FuncId → Bool} (hkn : ∀ f xs r, kn f xs = some r → Con P f xs r) (hkl : ∀ K, CallsOk P K → ∀ f xs hs r hs', kl K f xs hs = some (r, hs') → yva P f xs (yad hs) r (yad hs')) : ∀ n, CallsOk P (ynh P T F kn kl fz n)
 | 0 => ⟨fun f xs r h => by simp [ynh] at h, fun f xs hs r hs' h => by simp [ynh] at h⟩
 | n + 1 => by
  have ih := yzl hm hT hkn hkl (F := F) (fz := fz) n
  refine ⟨fun f xs r h => ?_, fun f xs hs r hs' h => ?_⟩ <;> simp only [ynh] at h <;> split at h
  ·rename_i r' hk
   simp only [Option.some.injEq] at h
   subst h
   exact hkn _ _ _ hk
  ·exact pureRun_ok hm hT ih h
  ·rename_i q hk
   simp only [Option.some.injEq] at h
   subst h
   exact hkl _ ih _ _ _ _ _ hk
  ·exact lentRun_ok hm hT ih h
theorem con_run (hm : P.follows .mixedOrders = true) (hT : TOK P T) {F : Nat} {kn : FuncId → List AV → Option AV} {kl : Calls0 → FuncId → List AV → HL → Option (AV × HL)} {fz : FuncId → Bool} (hkn : ∀ f xs r, kn f xs = some r → Con P f xs r) (hkl : ∀ K, CallsOk P K → ∀ f xs hs r hs', kl K f xs hs = some (r, hs') → yva P f xs (yad hs) r (yad hs')) (n : Nat) {f : FuncId} {args : List AV} {r : AV} (h : (ynh P T F kn kl fz n).pure f args = some r) : Con P f args r := (yzl hm hT hkn hkl n).pure _ _ _ h
end
end
set_option maxRecDepth 100000
section
open Go.RowKit
theorem indexByte_slite (s : ByteArray) (c : Int) (w : World) :
  Calls Tryz.prog 278 #[.string s, .int .u8 c] w fun e w' => e = .returned (.int .i64 (Lib.indexByte s.data.toList c.toNat.toUInt8)) ∧ w = w' := by
 go_enter Tryz.func278, Tryz.ntmps278
 go_wp2
 rw [run_callFunc_extern Tryz.func300 (by kernel_rfl) (by kernel_rfl) (by kernel_rfl) (e := Extern.BytealgIndexByte.indexByte) (by kernel_rfl), Lib.run_indexByteString]
 simp only [Result.andThen]
 rw [Oper.upon_value]
 go_wp2
 go_ret
 exact ⟨rfl, rfl⟩
theorem indexByte_any (s : ByteArray) (c : Int) (w : World) :
  Calls Tryz.prog 250 #[.string s, .int .u8 c] w fun e w' => e = .returned (.int .i64 (Lib.indexByte s.data.toList c.toNat.toUInt8)) ∧ w = w' := by
 go_enter Tryz.func250, Tryz.ntmps250
 go_wp2_with (go_at_call 278; refine (indexByte_slite _ _ _).mono ?_; rintro e w' ⟨rfl, rfl⟩)
 go_ret
 exact ⟨rfl, rfl⟩
end
section
open Go.RowKit
theorem zgz {w : World} {lv : Live} {v : Value} {l : List Tm} (h : yde w v l) : Rel (okW w) w lv (ydp l) v :=
 yrz (g := fun t : Tm => [.int .i64 t.1, .int .i64 t.2]) (fun _ => rfl) (fun x u hu => by simp at hu; rcases hu with rfl | rfl <;> rfl) h
theorem vars_rel {w : World} {lv : Live} {v : Value} {l : List VarD} (h : ytx w v l) : Rel (okW w) w lv (.sl 6 (l.map ydu)) v :=
 yrz (g := ykf) (fun _ => rfl) (fun x u hu => by simp [ykf] at hu; rcases hu with rfl | rfl | rfl | rfl | rfl | rfl <;> rfl) h
theorem prog_rel {w : World} {lv : Live} {v : Value} {p : ProgD} (h : ygy w v p) : Rel (okW w) w lv (ypd p) v := by
 obtain ⟨vv, rv, rfl, h1, h2⟩ := h
 have h3 : yca (okW w) w lv [zdc p.name, .sl 6 (p.vars.map ydu), .sl 3 (p.rules.map yfb)] [.string p.name, vv, rv] := by
  refine ybv (.v _) (ybv (vars_rel h1) (ybv ?_ yhj))
  refine yll h2 (fun _ => rfl) (fun x c hc => by simp [yfb] at hc; rcases hc with rfl | rfl | rfl <;> rfl) fun x _ cs hc => ?_
  obtain ⟨gv, sv, rfl, q1, q2⟩ := hc
  refine ybv (.v _) (ybv (zgz q1) (ybv ?_ yhj))
  refine yll q2 (fun _ => rfl) (fun x c hc => by simp [znt] at hc; rcases hc with rfl | rfl <;> rfl) fun x _ cs hc => ?_
  obtain ⟨tv, rfl, r1⟩ := hc
  exact ybv (.v _) (ybv (zgz r1) yhj)
 exact .agg _ h3.1 (fun c hc => by simp at hc; rcases hc with rfl | rfl | rfl <;> rfl) h3.2
end
section
open Go.RowKit
theorem idx_con (s : ByteArray) (c : Int) : Con Tryz.prog 250 [.v (.string s), .v (.int .u8 c)] (i64 (Lib.indexByte s.data.toList c.toNat.toUInt8)) :=
 ydn ⟨_, Tryz.func250, rfl, rfl⟩ fun w us ok hok hr => by
  obtain ⟨u, v, rfl, h1, h2⟩ := yya hr
  cases h1; cases h2
  exact (indexByte_any s c w).mono fun e w' ⟨he, hw⟩ => ⟨he, hw ▸ Below.refl _ _⟩
def knI (f : FuncId) (xs : List AV) : Option AV :=
 match Nat.beq f 250 with
 | true => match xs with
  | [.v (.string s), .v (.int .u8 c)] => some (i64 (Lib.indexByte s.data.toList c.toNat.toUInt8))
  | _ => none
 | false => none
theorem knI_ok (f : FuncId) (xs : List AV) (r : AV) (h : knI f xs = some r) : Con Tryz.prog f xs r := by
 unfold knI at h
 split at h
 ·rename_i hf
  split at h
  ·simp only [Option.some.injEq] at h
   subst h
   rw [Nat.eq_of_beq_eq_true hf]
   exact idx_con _ _
  ·cases h
 ·cases h
end
set_option maxHeartbeats 4000000
section
open Go.RowKit
def zsh (P : Program) (N : Nat) (o : Oper) (s : SS) (D : List PanicEntry → SS → Prop) : Prop :=
 ∀ (B : Bse) (ok0 : Nat → Prop) (lv : Live) (a : Act) (w : World), Sim B ok0 N s lv a w → ∀ (K : Act → World → Prop) (Q : Exit → Act → World → Prop), (∀ ch a' w', (∃ s' lv', D ch s' ∧ Sim B ok0 N s' lv' a' w') → Q (.panic ch) a' w') → o.wp P a w K Q
variable {P : Program} {N : Nat}
theorem zsh.mono {o : Oper} {s : SS} {D D' : List PanicEntry → SS → Prop} (h : zsh P N o s D) (hD : ∀ c s', D c s' → D' c s') : zsh P N o s D' :=
 fun B ok0 lv a w hs K Q hQ => h B ok0 lv a w hs K Q fun ch a' w' ⟨s', lv', h1, h2⟩ => hQ ch a' w' ⟨s', lv', hD ch s' h1, h2⟩
variable {t : List (Nat × AV)} {h : List (Nat × Option LObj)} {ty : TypeId} {pos : String} {af : Array Edge} {gd : Option (Nat × Bool)}
end
end Go.Proofs.YtgpbgfpjlhoicaaGreatDoor
