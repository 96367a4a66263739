/- Part 13 of the texts under ProgramFormats,ProgramReadsBack,ProgramTellsProgramsApart,ProgramGrowsByLines,ProgramIgnoresBlanks: joined, with what it needs alone. -/
import Derived.Test.YtefiainojfeagaaGreatDoorRows
import Derived.Lib.LaidTab
import Derived.Deep.DeepHandedRow
import Derived.LaidSub
import Derived.Test.YtefiainojfeagaaGreatDoorPa1
import Derived.Test.YtefiainojfeagaaGreatDoorPa3
import Derived.Test.YtefiainojfeagaaGreatDoorPa4
import Derived.Test.YtefiainojfeagaaGreatDoorPa5
import Derived.Test.YtefiainojfeagaaGreatDoorPa7
import Derived.Test.YtefiainojfeagaaGreatDoorPa8
import Derived.Test.YtefiainojfeagaaGreatDoorPa11
import Derived.Test.YtefiainojfeagaaGreatDoorPa12
set_option linter.unusedVariables false
set_option maxRecDepth 100000
set_option maxHeartbeats 16000000
namespace Go.Proofs.YtefiainojfeagaaGreatDoor
section
open Go.RowKit
def xbH (s : ByteArray) (ts : List Tok) (nm : Bs) (ns : List Bs) (k : Nat) (vs : List AV) (x : List AV) : List (Nat × Option LObj) := (1002, some (.cells x)) :: vmH s ts nm ns k vs
theorem yxc {s : ByteArray} {ts ts' : List Tok} {nm nm' : Bs} {ns ns' : List Bs} {k k' : Nat} {vs vs' : List AV} {x x' : List AV} {N : Nat} (hN : Nat.ble N 1001 = true) : ∀ id o, yaf (xbH s ts' nm' ns' k' vs' x') id = some o → isC o = true → N ≤ id ∧ ∃ o', yaf (xbH s ts nm ns k vs x) id = some o' ∧ isC o' = true := by
 intro id o ho hc
 have h2 := zox (s := s) (ts := ts) (ts' := ts') (nm := nm) (nm' := nm') (ns := ns) (ns' := ns') (k := k) (k' := k') (vs := vs) (vs' := vs') hN id o
 simp only [xbH, yaf] at ho ⊢
 cases h1 : Nat.beq id 1002 with
 | true => have := Nat.eq_of_beq_eq_true h1; exact ⟨by simp only [Nat.ble_eq] at hN; omega, _, rfl, rfl⟩
 | false =>
  simp only [h1] at ho
  exact h2 ho hc
section
variable {s : ByteArray} {nm : Bs} {ns : List Bs} {vs : List AV} {k : Nat}
theorem ybg {s : ByteArray} {t : Tok} {r : List Tok} {p : PW} (h : pwT s t = p) : ybd ((t :: r).map (pwT s)) = p.w := congrArg PW.w h
theorem dec_ne {n : Nat} {w : Bs} (h : dec n = w) (c : UInt8) (r : Bs) (hw : w = c :: r) (hc : c.toNat < 48 ∨ 57 < c.toNat) : False :=
 zpr n hc (by rw [h, hw]; simp)
theorem zsx {s : ByteArray} {t : Tok} {r : List Tok} {n : Nat} (h : pwT s t = pwV n) {w : Bs} (c : UInt8) (r' : Bs) (hw : w = c :: r') (hc : c.toNat < 48 ∨ 57 < c.toNat) : ybd ((t :: r).map (pwT s)) ≠ w := by
 rw [ybg h]
 intro e
 exact dec_ne e c r' hw hc
theorem yev {s : ByteArray} {t : Tok} {r : List Tok} {p : PW} (h : pwT s t = p) {w : Bs} (hne : p.w ≠ w) : ybd ((t :: r).map (pwT s)) ≠ w := by
 rw [ybg h]; exact hne
def ygd (s : ByteArray) (nm : Bs) (ns : List Bs) (k : Nat) (vs : List AV) (a0 : Bs) (a1 a2 : Int) (ts : List Tok) (hi pn pid : Int) (R : List PW) : Prop :=
 ∃ ts', ts' <:+ ts ∧ ts'.map (pwT s) = pwS [59] :: R ∧ yhb Tryz.prog 91 [.lp 1001 0, .lp 1002 0] (yaf (xbH s ts nm ns k vs [ycj (ba a0), i64 a1, i64 a2, i64 0, i64 0, i64 0])) (.tup []) (yaf (xbH s ts' nm ns k vs [ycj (ba a0), i64 a1, i64 a2, i64 hi, i64 pn, i64 pid]))
theorem bound_plain_n_z {a0 : Bs} {a1 a2 : Int} {ts : List Tok} {R : List PW} {n : Nat} (hn : n ≤ 4096) (h : ydd s ts) (hw : ts.map (pwT s) = pwV n :: pwS [59] :: R) : ygd s nm ns k vs a0 a1 a2 ts n 0 0 R := by
 obtain ⟨t1, r1, rfl, e1, k1⟩ := yao hw
 obtain ⟨t2, r2, rfl, e2, k2⟩ := yao k1
 refine ⟨t2 :: r2, ⟨[t1], rfl⟩, by rw [List.map_cons, e2, k2], ?_⟩
 refine ybb tok Tryz.func91 rfl rfl Tryz.ntmps91 Tryz.results91 rfl (yxc rfl) ?_
 show A _ _ _ _ (S _ _)
 (repeat (first | refine zy ?_ | refine qt 1001 (fun _ _ => yjz (h)) ?_))
 have hk : t1.kind = 2 := congrArg PW.k e1
 refine yag rfl (fun _ => ?_) (fun h9 => absurd h9 (by simp [ygp, hk]))
 (repeat (first | refine zy ?_ | refine qt 1001 (fun _ _ => ysl h e1 (by omega) (fun h9 => absurd h9 (by simp [zud, e1, e2, pwS]))) ?_ | refine qt 1001 (fun _ _ => ybx (w := [42]) (h.tail) (yev e2 (by decide))) ?_))
 refine yal ?_
 exact ⟨_, rfl, yam _, yaj (by exact zh)⟩
theorem bound_one_n_p {a0 : Bs} {a1 a2 : Int} {ts : List Tok} {R : List PW} {n : Nat} (hn : n ≤ 4096) (h : ydd s ts) (hw : ts.map (pwT s) = pwN [110] :: pwS [43] :: pwV n :: pwS [59] :: R) : ygd s nm ns k vs a0 a1 a2 ts n 1 0 R := by
 obtain ⟨t1, r1, rfl, e1, k1⟩ := yao hw
 obtain ⟨t2, r2, rfl, e2, k2⟩ := yao k1
 obtain ⟨t3, r3, rfl, e3, k3⟩ := yao k2
 obtain ⟨t4, r4, rfl, e4, k4⟩ := yao k3
 refine ⟨t4 :: r4, ⟨[t1, t2, t3], rfl⟩, by rw [List.map_cons, e4, k4], ?_⟩
 refine ybb tok Tryz.func91 rfl rfl Tryz.ntmps91 Tryz.results91 rfl (yxc rfl) ?_
 show A _ _ _ _ (S _ _)
 (repeat (first | refine zy ?_ | refine qt 1001 (fun _ _ => yjz (h)) ?_))
 have hk : t1.kind = 1 := congrArg PW.k e1
 refine yag rfl (fun h9 => absurd h9 (by simp [ygp, hk])) (fun _ => ?_)
 (repeat (first | refine zy ?_ | refine qt 1001 (fun _ _ => yaw (w := [110]) (h) (ybg e1) (by decide)) ?_))
 (repeat (first | refine zy ?_ | refine qt 1001 (fun _ _ => yaw (w := [43]) (h.tail) (ybg e2) (by decide)) ?_ | refine qt 1001 (fun _ _ => yio (lo := 0) (hi := 4096) (h.tail.tail) e3 (by omega) (by omega)) ?_))
 exact ⟨_, rfl, yam _, yaj (by exact zh)⟩
theorem bound_one_n_m {a0 : Bs} {a1 a2 : Int} {ts : List Tok} {R : List PW} {n : Nat} (hn : n ≤ 4096) (h : ydd s ts) (hw : ts.map (pwT s) = pwN [110] :: pwS [45] :: pwV n :: pwS [59] :: R) : ygd s nm ns k vs a0 a1 a2 ts (0 - (n : Int)) 1 0 R := by
 obtain ⟨t1, r1, rfl, e1, k1⟩ := yao hw
 obtain ⟨t2, r2, rfl, e2, k2⟩ := yao k1
 obtain ⟨t3, r3, rfl, e3, k3⟩ := yao k2
 obtain ⟨t4, r4, rfl, e4, k4⟩ := yao k3
 refine ⟨t4 :: r4, ⟨[t1, t2, t3], rfl⟩, by rw [List.map_cons, e4, k4], ?_⟩
 refine ybb tok Tryz.func91 rfl rfl Tryz.ntmps91 Tryz.results91 rfl (yxc rfl) ?_
 show A _ _ _ _ (S _ _)
 (repeat (first | refine zy ?_ | refine qt 1001 (fun _ _ => yjz (h)) ?_))
 have hk : t1.kind = 1 := congrArg PW.k e1
 refine yag rfl (fun h9 => absurd h9 (by simp [ygp, hk])) (fun _ => ?_)
 (repeat (first | refine zy ?_ | refine qt 1001 (fun _ _ => yaw (w := [110]) (h) (ybg e1) (by decide)) ?_))
 (repeat (first | refine zy ?_ | refine qt 1001 (fun _ _ => ybx (w := [43]) (h.tail) (yev e2 (by decide))) ?_ | refine qt 1001 (fun _ _ => yaw (w := [45]) (h.tail) (ybg e2) (by decide)) ?_ | refine qt 1001 (fun _ _ => yio (lo := 0) (hi := 4096) (h.tail.tail) e3 (by omega) (by omega)) ?_))
 exact ⟨_, rfl, yam _, yaj (by exact zh)⟩
theorem bound_one_n_z {a0 : Bs} {a1 a2 : Int} {ts : List Tok} {R : List PW} (h : ydd s ts) (hw : ts.map (pwT s) = pwN [110] :: pwS [59] :: R) : ygd s nm ns k vs a0 a1 a2 ts 0 1 0 R := by
 obtain ⟨t1, r1, rfl, e1, k1⟩ := yao hw
 obtain ⟨t2, r2, rfl, e2, k2⟩ := yao k1
 refine ⟨t2 :: r2, ⟨[t1], rfl⟩, by rw [List.map_cons, e2, k2], ?_⟩
 refine ybb tok Tryz.func91 rfl rfl Tryz.ntmps91 Tryz.results91 rfl (yxc rfl) ?_
 show A _ _ _ _ (S _ _)
 (repeat (first | refine zy ?_ | refine qt 1001 (fun _ _ => yjz (h)) ?_))
 have hk : t1.kind = 1 := congrArg PW.k e1
 refine yag rfl (fun h9 => absurd h9 (by simp [ygp, hk])) (fun _ => ?_)
 (repeat (first | refine zy ?_ | refine qt 1001 (fun _ _ => yaw (w := [110]) (h) (ybg e1) (by decide)) ?_))
 (repeat (first | refine zy ?_ | refine qt 1001 (fun _ _ => ybx (w := [43]) (h.tail) (yev e2 (by decide))) ?_ | refine qt 1001 (fun _ _ => ybx (w := [45]) (h.tail) (yev e2 (by decide))) ?_))
 exact ⟨_, rfl, yam _, yaj (by exact zh)⟩
theorem bound_one_ids_p {a0 : Bs} {a1 a2 : Int} {ts : List Tok} {R : List PW} {n : Nat} (hn : n ≤ 4096) (h : ydd s ts) (hw : ts.map (pwT s) = pwN yvi :: pwS [43] :: pwV n :: pwS [59] :: R) : ygd s nm ns k vs a0 a1 a2 ts n 0 1 R := by
 obtain ⟨t1, r1, rfl, e1, k1⟩ := yao hw
 obtain ⟨t2, r2, rfl, e2, k2⟩ := yao k1
 obtain ⟨t3, r3, rfl, e3, k3⟩ := yao k2
 obtain ⟨t4, r4, rfl, e4, k4⟩ := yao k3
 refine ⟨t4 :: r4, ⟨[t1, t2, t3], rfl⟩, by rw [List.map_cons, e4, k4], ?_⟩
 refine ybb tok Tryz.func91 rfl rfl Tryz.ntmps91 Tryz.results91 rfl (yxc rfl) ?_
 show A _ _ _ _ (S _ _)
 (repeat (first | refine zy ?_ | refine qt 1001 (fun _ _ => yjz (h)) ?_))
 have hk : t1.kind = 1 := congrArg PW.k e1
 refine yag rfl (fun h9 => absurd h9 (by simp [ygp, hk])) (fun _ => ?_)
 (repeat (first | refine zy ?_ | refine qt 1001 (fun _ _ => ybx (w := [110]) (h) (yev e1 (by decide))) ?_ | refine qt 1001 (fun _ _ => yaw (w := yvi) (h) (ybg e1) (by decide)) ?_))
 (repeat (first | refine zy ?_ | refine qt 1001 (fun _ _ => yaw (w := [43]) (h.tail) (ybg e2) (by decide)) ?_ | refine qt 1001 (fun _ _ => yio (lo := 0) (hi := 4096) (h.tail.tail) e3 (by omega) (by omega)) ?_))
 exact ⟨_, rfl, yam _, yaj (by exact zh)⟩
theorem bound_one_ids_m {a0 : Bs} {a1 a2 : Int} {ts : List Tok} {R : List PW} {n : Nat} (hn : n ≤ 4096) (h : ydd s ts) (hw : ts.map (pwT s) = pwN yvi :: pwS [45] :: pwV n :: pwS [59] :: R) : ygd s nm ns k vs a0 a1 a2 ts (0 - (n : Int)) 0 1 R := by
 obtain ⟨t1, r1, rfl, e1, k1⟩ := yao hw
 obtain ⟨t2, r2, rfl, e2, k2⟩ := yao k1
 obtain ⟨t3, r3, rfl, e3, k3⟩ := yao k2
 obtain ⟨t4, r4, rfl, e4, k4⟩ := yao k3
 refine ⟨t4 :: r4, ⟨[t1, t2, t3], rfl⟩, by rw [List.map_cons, e4, k4], ?_⟩
 refine ybb tok Tryz.func91 rfl rfl Tryz.ntmps91 Tryz.results91 rfl (yxc rfl) ?_
 show A _ _ _ _ (S _ _)
 (repeat (first | refine zy ?_ | refine qt 1001 (fun _ _ => yjz (h)) ?_))
 have hk : t1.kind = 1 := congrArg PW.k e1
 refine yag rfl (fun h9 => absurd h9 (by simp [ygp, hk])) (fun _ => ?_)
 (repeat (first | refine zy ?_ | refine qt 1001 (fun _ _ => ybx (w := [110]) (h) (yev e1 (by decide))) ?_ | refine qt 1001 (fun _ _ => yaw (w := yvi) (h) (ybg e1) (by decide)) ?_))
 (repeat (first | refine zy ?_ | refine qt 1001 (fun _ _ => ybx (w := [43]) (h.tail) (yev e2 (by decide))) ?_ | refine qt 1001 (fun _ _ => yaw (w := [45]) (h.tail) (ybg e2) (by decide)) ?_ | refine qt 1001 (fun _ _ => yio (lo := 0) (hi := 4096) (h.tail.tail) e3 (by omega) (by omega)) ?_))
 exact ⟨_, rfl, yam _, yaj (by exact zh)⟩
theorem bound_one_ids_z {a0 : Bs} {a1 a2 : Int} {ts : List Tok} {R : List PW} (h : ydd s ts) (hw : ts.map (pwT s) = pwN yvi :: pwS [59] :: R) : ygd s nm ns k vs a0 a1 a2 ts 0 0 1 R := by
 obtain ⟨t1, r1, rfl, e1, k1⟩ := yao hw
 obtain ⟨t2, r2, rfl, e2, k2⟩ := yao k1
 refine ⟨t2 :: r2, ⟨[t1], rfl⟩, by rw [List.map_cons, e2, k2], ?_⟩
 refine ybb tok Tryz.func91 rfl rfl Tryz.ntmps91 Tryz.results91 rfl (yxc rfl) ?_
 show A _ _ _ _ (S _ _)
 (repeat (first | refine zy ?_ | refine qt 1001 (fun _ _ => yjz (h)) ?_))
 have hk : t1.kind = 1 := congrArg PW.k e1
 refine yag rfl (fun h9 => absurd h9 (by simp [ygp, hk])) (fun _ => ?_)
 (repeat (first | refine zy ?_ | refine qt 1001 (fun _ _ => ybx (w := [110]) (h) (yev e1 (by decide))) ?_ | refine qt 1001 (fun _ _ => yaw (w := yvi) (h) (ybg e1) (by decide)) ?_))
 (repeat (first | refine zy ?_ | refine qt 1001 (fun _ _ => ybx (w := [43]) (h.tail) (yev e2 (by decide))) ?_ | refine qt 1001 (fun _ _ => ybx (w := [45]) (h.tail) (yev e2 (by decide))) ?_))
 exact ⟨_, rfl, yam _, yaj (by exact zh)⟩
theorem bound_c_n_p {a0 : Bs} {a1 a2 : Int} {ts : List Tok} {R : List PW} {n : Nat} (hn : n ≤ 4096) {c : Nat} (hc : 1 ≤ c ∧ c ≤ 255) (h : ydd s ts) (hw : ts.map (pwT s) = pwV c :: pwS [42] :: pwN [110] :: pwS [43] :: pwV n :: pwS [59] :: R) : ygd s nm ns k vs a0 a1 a2 ts n c 0 R := by
 obtain ⟨t1, r1, rfl, e1, k1⟩ := yao hw
 obtain ⟨t2, r2, rfl, e2, k2⟩ := yao k1
 obtain ⟨t3, r3, rfl, e3, k3⟩ := yao k2
 obtain ⟨t4, r4, rfl, e4, k4⟩ := yao k3
 obtain ⟨t5, r5, rfl, e5, k5⟩ := yao k4
 obtain ⟨t6, r6, rfl, e6, k6⟩ := yao k5
 refine ⟨t6 :: r6, ⟨[t1, t2, t3, t4, t5], rfl⟩, by rw [List.map_cons, e6, k6], ?_⟩
 refine ybb tok Tryz.func91 rfl rfl Tryz.ntmps91 Tryz.results91 rfl (yxc rfl) ?_
 show A _ _ _ _ (S _ _)
 (repeat (first | refine zy ?_ | refine qt 1001 (fun _ _ => yjz (h)) ?_))
 have hk : t1.kind = 2 := congrArg PW.k e1
 refine yag rfl (fun _ => ?_) (fun h9 => absurd h9 (by simp [ygp, hk]))
 (repeat (first | refine zy ?_ | refine qt 1001 (fun _ _ => ysl h e1 (by omega) (fun _ => by omega)) ?_ | refine qt 1001 (fun _ _ => yaw (w := [42]) (h.tail) (ybg e2) (by decide)) ?_))
 (repeat (first | refine zy ?_ | refine qt 1001 (fun _ _ => yaw (w := [110]) (h.tail.tail) (ybg e3) (by decide)) ?_))
 (repeat (first | refine zy ?_ | refine qt 1001 (fun _ _ => yaw (w := [43]) (h.tail.tail.tail) (ybg e4) (by decide)) ?_ | refine qt 1001 (fun _ _ => yio (lo := 0) (hi := 4096) (h.tail.tail.tail.tail) e5 (by omega) (by omega)) ?_))
 exact ⟨_, rfl, yam _, yaj (by exact zh)⟩
theorem bound_c_n_m {a0 : Bs} {a1 a2 : Int} {ts : List Tok} {R : List PW} {n : Nat} (hn : n ≤ 4096) {c : Nat} (hc : 1 ≤ c ∧ c ≤ 255) (h : ydd s ts) (hw : ts.map (pwT s) = pwV c :: pwS [42] :: pwN [110] :: pwS [45] :: pwV n :: pwS [59] :: R) : ygd s nm ns k vs a0 a1 a2 ts (0 - (n : Int)) c 0 R := by
 obtain ⟨t1, r1, rfl, e1, k1⟩ := yao hw
 obtain ⟨t2, r2, rfl, e2, k2⟩ := yao k1
 obtain ⟨t3, r3, rfl, e3, k3⟩ := yao k2
 obtain ⟨t4, r4, rfl, e4, k4⟩ := yao k3
 obtain ⟨t5, r5, rfl, e5, k5⟩ := yao k4
 obtain ⟨t6, r6, rfl, e6, k6⟩ := yao k5
 refine ⟨t6 :: r6, ⟨[t1, t2, t3, t4, t5], rfl⟩, by rw [List.map_cons, e6, k6], ?_⟩
 refine ybb tok Tryz.func91 rfl rfl Tryz.ntmps91 Tryz.results91 rfl (yxc rfl) ?_
 show A _ _ _ _ (S _ _)
 (repeat (first | refine zy ?_ | refine qt 1001 (fun _ _ => yjz (h)) ?_))
 have hk : t1.kind = 2 := congrArg PW.k e1
 refine yag rfl (fun _ => ?_) (fun h9 => absurd h9 (by simp [ygp, hk]))
 (repeat (first | refine zy ?_ | refine qt 1001 (fun _ _ => ysl h e1 (by omega) (fun _ => by omega)) ?_ | refine qt 1001 (fun _ _ => yaw (w := [42]) (h.tail) (ybg e2) (by decide)) ?_))
 (repeat (first | refine zy ?_ | refine qt 1001 (fun _ _ => yaw (w := [110]) (h.tail.tail) (ybg e3) (by decide)) ?_))
 (repeat (first | refine zy ?_ | refine qt 1001 (fun _ _ => ybx (w := [43]) (h.tail.tail.tail) (yev e4 (by decide))) ?_ | refine qt 1001 (fun _ _ => yaw (w := [45]) (h.tail.tail.tail) (ybg e4) (by decide)) ?_ | refine qt 1001 (fun _ _ => yio (lo := 0) (hi := 4096) (h.tail.tail.tail.tail) e5 (by omega) (by omega)) ?_))
 exact ⟨_, rfl, yam _, yaj (by exact zh)⟩
theorem bound_c_n_z {a0 : Bs} {a1 a2 : Int} {ts : List Tok} {R : List PW} {c : Nat} (hc : 1 ≤ c ∧ c ≤ 255) (h : ydd s ts) (hw : ts.map (pwT s) = pwV c :: pwS [42] :: pwN [110] :: pwS [59] :: R) : ygd s nm ns k vs a0 a1 a2 ts 0 c 0 R := by
 obtain ⟨t1, r1, rfl, e1, k1⟩ := yao hw
 obtain ⟨t2, r2, rfl, e2, k2⟩ := yao k1
 obtain ⟨t3, r3, rfl, e3, k3⟩ := yao k2
 obtain ⟨t4, r4, rfl, e4, k4⟩ := yao k3
 refine ⟨t4 :: r4, ⟨[t1, t2, t3], rfl⟩, by rw [List.map_cons, e4, k4], ?_⟩
 refine ybb tok Tryz.func91 rfl rfl Tryz.ntmps91 Tryz.results91 rfl (yxc rfl) ?_
 show A _ _ _ _ (S _ _)
 (repeat (first | refine zy ?_ | refine qt 1001 (fun _ _ => yjz (h)) ?_))
 have hk : t1.kind = 2 := congrArg PW.k e1
 refine yag rfl (fun _ => ?_) (fun h9 => absurd h9 (by simp [ygp, hk]))
 (repeat (first | refine zy ?_ | refine qt 1001 (fun _ _ => ysl h e1 (by omega) (fun _ => by omega)) ?_ | refine qt 1001 (fun _ _ => yaw (w := [42]) (h.tail) (ybg e2) (by decide)) ?_))
 (repeat (first | refine zy ?_ | refine qt 1001 (fun _ _ => yaw (w := [110]) (h.tail.tail) (ybg e3) (by decide)) ?_))
 (repeat (first | refine zy ?_ | refine qt 1001 (fun _ _ => ybx (w := [43]) (h.tail.tail.tail) (yev e4 (by decide))) ?_ | refine qt 1001 (fun _ _ => ybx (w := [45]) (h.tail.tail.tail) (yev e4 (by decide))) ?_))
 exact ⟨_, rfl, yam _, yaj (by exact zh)⟩
theorem bound_c_ids_p {a0 : Bs} {a1 a2 : Int} {ts : List Tok} {R : List PW} {n : Nat} (hn : n ≤ 4096) {c : Nat} (hc : 1 ≤ c ∧ c ≤ 255) (h : ydd s ts) (hw : ts.map (pwT s) = pwV c :: pwS [42] :: pwN yvi :: pwS [43] :: pwV n :: pwS [59] :: R) : ygd s nm ns k vs a0 a1 a2 ts n 0 c R := by
 obtain ⟨t1, r1, rfl, e1, k1⟩ := yao hw
 obtain ⟨t2, r2, rfl, e2, k2⟩ := yao k1
 obtain ⟨t3, r3, rfl, e3, k3⟩ := yao k2
 obtain ⟨t4, r4, rfl, e4, k4⟩ := yao k3
 obtain ⟨t5, r5, rfl, e5, k5⟩ := yao k4
 obtain ⟨t6, r6, rfl, e6, k6⟩ := yao k5
 refine ⟨t6 :: r6, ⟨[t1, t2, t3, t4, t5], rfl⟩, by rw [List.map_cons, e6, k6], ?_⟩
 refine ybb tok Tryz.func91 rfl rfl Tryz.ntmps91 Tryz.results91 rfl (yxc rfl) ?_
 show A _ _ _ _ (S _ _)
 (repeat (first | refine zy ?_ | refine qt 1001 (fun _ _ => yjz (h)) ?_))
 have hk : t1.kind = 2 := congrArg PW.k e1
 refine yag rfl (fun _ => ?_) (fun h9 => absurd h9 (by simp [ygp, hk]))
 (repeat (first | refine zy ?_ | refine qt 1001 (fun _ _ => ysl h e1 (by omega) (fun _ => by omega)) ?_ | refine qt 1001 (fun _ _ => yaw (w := [42]) (h.tail) (ybg e2) (by decide)) ?_))
 (repeat (first | refine zy ?_ | refine qt 1001 (fun _ _ => ybx (w := [110]) (h.tail.tail) (yev e3 (by decide))) ?_ | refine qt 1001 (fun _ _ => yaw (w := yvi) (h.tail.tail) (ybg e3) (by decide)) ?_))
 (repeat (first | refine zy ?_ | refine qt 1001 (fun _ _ => yaw (w := [43]) (h.tail.tail.tail) (ybg e4) (by decide)) ?_ | refine qt 1001 (fun _ _ => yio (lo := 0) (hi := 4096) (h.tail.tail.tail.tail) e5 (by omega) (by omega)) ?_))
 exact ⟨_, rfl, yam _, yaj (by exact zh)⟩
theorem bound_c_ids_m {a0 : Bs} {a1 a2 : Int} {ts : List Tok} {R : List PW} {n : Nat} (hn : n ≤ 4096) {c : Nat} (hc : 1 ≤ c ∧ c ≤ 255) (h : ydd s ts) (hw : ts.map (pwT s) = pwV c :: pwS [42] :: pwN yvi :: pwS [45] :: pwV n :: pwS [59] :: R) : ygd s nm ns k vs a0 a1 a2 ts (0 - (n : Int)) 0 c R := by
 obtain ⟨t1, r1, rfl, e1, k1⟩ := yao hw
 obtain ⟨t2, r2, rfl, e2, k2⟩ := yao k1
 obtain ⟨t3, r3, rfl, e3, k3⟩ := yao k2
 obtain ⟨t4, r4, rfl, e4, k4⟩ := yao k3
 obtain ⟨t5, r5, rfl, e5, k5⟩ := yao k4
 obtain ⟨t6, r6, rfl, e6, k6⟩ := yao k5
 refine ⟨t6 :: r6, ⟨[t1, t2, t3, t4, t5], rfl⟩, by rw [List.map_cons, e6, k6], ?_⟩
 refine ybb tok Tryz.func91 rfl rfl Tryz.ntmps91 Tryz.results91 rfl (yxc rfl) ?_
 show A _ _ _ _ (S _ _)
 (repeat (first | refine zy ?_ | refine qt 1001 (fun _ _ => yjz (h)) ?_))
 have hk : t1.kind = 2 := congrArg PW.k e1
 refine yag rfl (fun _ => ?_) (fun h9 => absurd h9 (by simp [ygp, hk]))
 (repeat (first | refine zy ?_ | refine qt 1001 (fun _ _ => ysl h e1 (by omega) (fun _ => by omega)) ?_ | refine qt 1001 (fun _ _ => yaw (w := [42]) (h.tail) (ybg e2) (by decide)) ?_))
 (repeat (first | refine zy ?_ | refine qt 1001 (fun _ _ => ybx (w := [110]) (h.tail.tail) (yev e3 (by decide))) ?_ | refine qt 1001 (fun _ _ => yaw (w := yvi) (h.tail.tail) (ybg e3) (by decide)) ?_))
 (repeat (first | refine zy ?_ | refine qt 1001 (fun _ _ => ybx (w := [43]) (h.tail.tail.tail) (yev e4 (by decide))) ?_ | refine qt 1001 (fun _ _ => yaw (w := [45]) (h.tail.tail.tail) (ybg e4) (by decide)) ?_ | refine qt 1001 (fun _ _ => yio (lo := 0) (hi := 4096) (h.tail.tail.tail.tail) e5 (by omega) (by omega)) ?_))
 exact ⟨_, rfl, yam _, yaj (by exact zh)⟩
theorem bound_c_ids_z {a0 : Bs} {a1 a2 : Int} {ts : List Tok} {R : List PW} {c : Nat} (hc : 1 ≤ c ∧ c ≤ 255) (h : ydd s ts) (hw : ts.map (pwT s) = pwV c :: pwS [42] :: pwN yvi :: pwS [59] :: R) : ygd s nm ns k vs a0 a1 a2 ts 0 0 c R := by
 obtain ⟨t1, r1, rfl, e1, k1⟩ := yao hw
 obtain ⟨t2, r2, rfl, e2, k2⟩ := yao k1
 obtain ⟨t3, r3, rfl, e3, k3⟩ := yao k2
 obtain ⟨t4, r4, rfl, e4, k4⟩ := yao k3
 refine ⟨t4 :: r4, ⟨[t1, t2, t3], rfl⟩, by rw [List.map_cons, e4, k4], ?_⟩
 refine ybb tok Tryz.func91 rfl rfl Tryz.ntmps91 Tryz.results91 rfl (yxc rfl) ?_
 show A _ _ _ _ (S _ _)
 (repeat (first | refine zy ?_ | refine qt 1001 (fun _ _ => yjz (h)) ?_))
 have hk : t1.kind = 2 := congrArg PW.k e1
 refine yag rfl (fun _ => ?_) (fun h9 => absurd h9 (by simp [ygp, hk]))
 (repeat (first | refine zy ?_ | refine qt 1001 (fun _ _ => ysl h e1 (by omega) (fun _ => by omega)) ?_ | refine qt 1001 (fun _ _ => yaw (w := [42]) (h.tail) (ybg e2) (by decide)) ?_))
 (repeat (first | refine zy ?_ | refine qt 1001 (fun _ _ => ybx (w := [110]) (h.tail.tail) (yev e3 (by decide))) ?_ | refine qt 1001 (fun _ _ => yaw (w := yvi) (h.tail.tail) (ybg e3) (by decide)) ?_))
 (repeat (first | refine zy ?_ | refine qt 1001 (fun _ _ => ybx (w := [43]) (h.tail.tail.tail) (yev e4 (by decide))) ?_ | refine qt 1001 (fun _ _ => ybx (w := [45]) (h.tail.tail.tail) (yev e4 (by decide))) ?_))
 exact ⟨_, rfl, yam _, yaj (by exact zh)⟩
theorem bound_X {a0 : Bs} {a1 a2 : Int} {ts : List Tok} {R : List PW} {x : VarD} (hx : NumOk x) (h : ydd s ts) (hw : ts.map (pwT s) = yrs x ++ pwS [59] :: R) : ygd s nm ns k vs a0 a1 a2 ts x.hi x.perNode x.perID R := by
 have h1 := hx.node
 have h2 := hx.id
 have h3 := hx.hi
 have h4 := hx.one
 have h5 := hx.pos
 have hp : (0 : Int) ≤ x.hi → ((x.hi.toNat : Nat) : Int) = x.hi := fun h => by omega
 have hm : ¬ (0 : Int) ≤ x.hi → (0 - (((-x.hi).toNat : Nat) : Int)) = x.hi := fun h => by omega
 have hn1 : ((x.perNode.toNat : Nat) : Int) = x.perNode := by omega
 have hn2 : ((x.perID.toNat : Nat) : Int) = x.perID := by omega
 unfold yrs at hw
 by_cases c1 : 0 < x.perNode
 ·rw [if_pos c1] at hw
  have e0 : x.perID = 0 := by omega
  rw [e0]
  by_cases c2 : x.perNode = 1
  ·rw [ywj, if_pos c2] at hw
   rw [c2]
   unfold zqp at hw
   by_cases c3 : 0 < x.hi
   ·rw [if_pos c3] at hw
    have := bound_one_n_p (nm := nm) (ns := ns) (k := k) (vs := vs) (a0 := a0) (a1 := a1) (a2 := a2) (n := x.hi.toNat) (R := R) (by omega) h (by simpa using hw)
    rwa [hp (by omega)] at this
   ·by_cases c4 : x.hi < 0
    ·rw [if_neg c3, if_pos c4] at hw
     have := bound_one_n_m (nm := nm) (ns := ns) (k := k) (vs := vs) (a0 := a0) (a1 := a1) (a2 := a2) (n := (-x.hi).toNat) (R := R) (by omega) h (by simpa using hw)
     rwa [hm (by omega)] at this
    ·rw [if_neg c3, if_neg c4] at hw
     have := bound_one_n_z (nm := nm) (ns := ns) (k := k) (vs := vs) (a0 := a0) (a1 := a1) (a2 := a2) (R := R) h (by simpa using hw)
     rwa [show x.hi = 0 by omega]
  ·rw [ywj, if_neg c2] at hw
   rw [← hn1]
   unfold zqp at hw
   by_cases c3 : 0 < x.hi
   ·rw [if_pos c3] at hw
    have := bound_c_n_p (nm := nm) (ns := ns) (k := k) (vs := vs) (a0 := a0) (a1 := a1) (a2 := a2) (n := x.hi.toNat) (c := x.perNode.toNat) (R := R) (by omega) (by omega) h (by simpa using hw)
    rwa [hp (by omega)] at this
   ·by_cases c4 : x.hi < 0
    ·rw [if_neg c3, if_pos c4] at hw
     have := bound_c_n_m (nm := nm) (ns := ns) (k := k) (vs := vs) (a0 := a0) (a1 := a1) (a2 := a2) (n := (-x.hi).toNat) (c := x.perNode.toNat) (R := R) (by omega) (by omega) h (by simpa using hw)
     rwa [hm (by omega)] at this
    ·rw [if_neg c3, if_neg c4] at hw
     have := bound_c_n_z (nm := nm) (ns := ns) (k := k) (vs := vs) (a0 := a0) (a1 := a1) (a2 := a2) (c := x.perNode.toNat) (R := R) (by omega) h (by simpa using hw)
     rwa [show x.hi = 0 by omega]
 ·rw [if_neg c1] at hw
  have e0 : x.perNode = 0 := by omega
  rw [e0]
  by_cases c5 : 0 < x.perID
  ·rw [if_pos c5] at hw
   by_cases c2 : x.perID = 1
   ·rw [ywj, if_pos c2] at hw
    rw [c2]
    unfold zqp at hw
    by_cases c3 : 0 < x.hi
    ·rw [if_pos c3] at hw
     have := bound_one_ids_p (nm := nm) (ns := ns) (k := k) (vs := vs) (a0 := a0) (a1 := a1) (a2 := a2) (n := x.hi.toNat) (R := R) (by omega) h (by simpa using hw)
     rwa [hp (by omega)] at this
    ·by_cases c4 : x.hi < 0
     ·rw [if_neg c3, if_pos c4] at hw
      have := bound_one_ids_m (nm := nm) (ns := ns) (k := k) (vs := vs) (a0 := a0) (a1 := a1) (a2 := a2) (n := (-x.hi).toNat) (R := R) (by omega) h (by simpa using hw)
      rwa [hm (by omega)] at this
     ·rw [if_neg c3, if_neg c4] at hw
      have := bound_one_ids_z (nm := nm) (ns := ns) (k := k) (vs := vs) (a0 := a0) (a1 := a1) (a2 := a2) (R := R) h (by simpa using hw)
      rwa [show x.hi = 0 by omega]
   ·rw [ywj, if_neg c2] at hw
    rw [← hn2]
    unfold zqp at hw
    by_cases c3 : 0 < x.hi
    ·rw [if_pos c3] at hw
     have := bound_c_ids_p (nm := nm) (ns := ns) (k := k) (vs := vs) (a0 := a0) (a1 := a1) (a2 := a2) (n := x.hi.toNat) (c := x.perID.toNat) (R := R) (by omega) (by omega) h (by simpa using hw)
     rwa [hp (by omega)] at this
    ·by_cases c4 : x.hi < 0
     ·rw [if_neg c3, if_pos c4] at hw
      have := bound_c_ids_m (nm := nm) (ns := ns) (k := k) (vs := vs) (a0 := a0) (a1 := a1) (a2 := a2) (n := (-x.hi).toNat) (c := x.perID.toNat) (R := R) (by omega) (by omega) h (by simpa using hw)
      rwa [hm (by omega)] at this
     ·rw [if_neg c3, if_neg c4] at hw
      have := bound_c_ids_z (nm := nm) (ns := ns) (k := k) (vs := vs) (a0 := a0) (a1 := a1) (a2 := a2) (c := x.perID.toNat) (R := R) (by omega) h (by simpa using hw)
      rwa [show x.hi = 0 by omega]
  ·rw [if_neg c5] at hw
   have e1 : x.perID = 0 := by omega
   rw [e1]
   have := bound_plain_n_z (nm := nm) (ns := ns) (k := k) (vs := vs) (a0 := a0) (a1 := a1) (a2 := a2) (n := x.hi.toNat) (R := R) (by omega) h (by simpa using hw)
   rwa [hp (h5 e0 e1)] at this
end
end
section
open Go.RowKit
theorem ybf : ∀ {xs : List AV}, ybc.pureL xs = true → ∀ c ∈ xs, ybc c = true
 | [], _, c, hc => by cases hc
 | x :: xs, h, c, hc => by
  simp only [ybc.pureL, Bool.and_eq_true] at h
  rcases List.mem_cons.1 hc with rfl | hc
  ·exact h.1
  ·exact ybf h.2 c hc
theorem ymq (ns : List Bs) : (zdc ns).length = ns.length * 1 := by simp [zdc]
section
variable {s : ByteArray} {nm : Bs} {ns : List Bs} {vs : List AV}
def zlq (s : ByteArray) (nm : Bs) (ns : List Bs) (vs : List AV) (ts : List Tok) (x : VarD) (R : List PW) : Prop :=
 ∃ ts', ts' <:+ ts ∧ ts'.map (pwT s) = R ∧ yhb Tryz.prog 51 [.lp 1001 0] (yaf (vmH s ts nm ns ns.length vs)) (.tup []) (yaf (vmH s ts' nm (ns ++ [bl x.name]) (ns.length + 1) (vs ++ yil x)))
theorem zks {x : VarD} {w : Bs} {a b c d e : Int} (h0 : w = bl x.name) (h1 : x.kind = a) (h2 : x.lo = b) (h3 : x.hi = c) (h4 : x.perNode = d) (h5 : x.perID = e) : yil x = [ycj (ba w), i64 a, i64 b, i64 c, i64 d, i64 e] := by
 subst h0 h1 h2 h3 h4 h5
 rw [ymx]; rfl
theorem variable_bool {ts : List Tok} {x : VarD} {R : List PW} (hx : NumOk x) (hk : x.kind = 2) (hnm : nmW (bl x.name) = true) (hn : bl x.name ∉ ns) (hl : ns.length ≤ 1000) (hvs : vs.length = ns.length * 6) (h : ydd s ts) (hw : ts.map (pwT s) = pwN (bl x.name) :: pwS [58] :: pwN zcz :: pwS [59] :: R) : zlq s nm ns vs ts x R := by
 obtain ⟨t1, r1, rfl, e1, k1⟩ := yao hw
 obtain ⟨t2, r2, rfl, e2, k2⟩ := yao k1
 obtain ⟨t3, r3, rfl, e3, k3⟩ := yao k2
 obtain ⟨t4, r4, rfl, e4, k4⟩ := yao k3
 have hz := hx.none (by omega)
 have hev := zks (x := x) rfl hk hz.1 hz.2.1 hz.2.2.1 hz.2.2.2
 refine ⟨r4, ⟨[t1, t2, t3, t4], rfl⟩, k4, ?_⟩
 refine ybb tok Tryz.func51 rfl rfl Tryz.ntmps51 Tryz.results51 rfl (zox rfl) ?_
 show A _ _ _ _ (S _ _)
 (repeat (first | refine zy ?_ | refine yek [(1001, 1001), (1010, 1010), (1011, 1011)] (zqn h e1 hnm hn hl) rfl rfl rfl rfl rfl rfl rfl (yab rfl (yab rfl (yab rfl yai))) rfl rfl rfl rfl rfl rfl ?_ | refine qt 1001 (fun _ _ => ych (w := [58]) (h.tail) (ybg e2) (by decide)) ?_))
 (repeat (first | refine zy ?_ | refine qt 1001 (fun _ _ => yaw (w := zcz) (h.tail.tail) (ybg e3) (by decide)) ?_))
 (repeat (first | refine zo ?_ | refine qt 1001 (fun _ _ => ych (w := [59]) (h.tail.tail.tail) (ybg e4) (by decide)) ?_))
 refine zt ?_
 refine ycx (lf := lf0) mixed rfl ?_
 refine yki [1, 2, 3, 4, 5, 6, 7, 8] 6 (yaa rfl (yaa rfl (yaa rfl (yaa rfl (yaa rfl (yaa rfl (yaa rfl (yaa rfl ybe)))))))) rfl (by kernel_rfl) ?_
 (try refine zo ?_)
 refine yhk [0, 9] 5 rfl (by kernel_rfl) (by simp) ⟨⟨_, rfl, ?_⟩, ⟨_, rfl, ?_⟩, trivial⟩
 ·(try refine zo ?_)
  refine yda [9, 10, 11, 12, 13] (yaa rfl (yaa rfl (yaa rfl (yaa rfl (yaa rfl ybe))))) rfl (by kernel_rfl) ?_
  (repeat (first | refine zo ?_ | refine ycl tok rfl rfl rfl (ymq ns) rfl (ybf rfl) (by simp; omega) rfl rfl rfl rfl rfl ?_))
  refine zt ?_
  refine ycx (lf := lf0) mixed rfl ?_
  refine yki [1, 2, 3, 4, 5, 6, 7] 6 (yaa rfl (yaa rfl (yaa rfl (yaa rfl (yaa rfl (yaa rfl (yaa rfl ybe))))))) rfl (by kernel_rfl) ?_
  (try refine zo ?_)
  refine yhk [0, 8] 5 rfl (by kernel_rfl) (by simp) ⟨⟨_, rfl, ?_⟩, ⟨_, rfl, ?_⟩, trivial⟩
  ·(try refine zo ?_)
   refine yda [8, 9, 10, 11, 12] (yaa rfl (yaa rfl (yaa rfl (yaa rfl (yaa rfl ybe))))) rfl (by kernel_rfl) ?_
   (repeat (first | refine zo ?_ | refine ycl tok rfl rfl rfl (hvs) rfl (ybf rfl) (by simp; omega) rfl rfl rfl rfl rfl ?_))
   refine ⟨_, rfl, yam _, yaj (yab rfl (yab ?_ (yab ?_ yai)))⟩
   ·rw [← yge]; rfl
   ·rw [hev]; rfl
  ·(repeat (first | refine zo ?_ | refine ycl tok rfl rfl rfl (hvs) rfl (ybf rfl) (by simp; omega) rfl rfl rfl rfl rfl ?_))
   refine yda [0, 9, 10, 11, 12] (yaa rfl (yaa rfl (yaa rfl (yaa rfl (yaa rfl ybe))))) rfl (by kernel_rfl) ?_
   (try refine zo ?_)
   refine ⟨_, rfl, yam _, yaj (yab rfl (yab ?_ (yab ?_ yai)))⟩
   ·rw [← yge]; rfl
   ·rw [hev]; rfl
 ·(repeat (first | refine zo ?_ | refine ycl tok rfl rfl rfl (ymq ns) rfl (ybf rfl) (by simp; omega) rfl rfl rfl rfl rfl ?_))
  refine yda [0, 10, 11, 12, 13] (yaa rfl (yaa rfl (yaa rfl (yaa rfl (yaa rfl ybe))))) rfl (by kernel_rfl) ?_
  (try refine zo ?_)
  refine zt ?_
  refine ycx (lf := lf0) mixed rfl ?_
  refine yki [1, 2, 3, 4, 5, 6, 7] 6 (yaa rfl (yaa rfl (yaa rfl (yaa rfl (yaa rfl (yaa rfl (yaa rfl ybe))))))) rfl (by kernel_rfl) ?_
  (try refine zo ?_)
  refine yhk [0, 8] 5 rfl (by kernel_rfl) (by simp) ⟨⟨_, rfl, ?_⟩, ⟨_, rfl, ?_⟩, trivial⟩
  ·(try refine zo ?_)
   refine yda [8, 9, 10, 11, 12] (yaa rfl (yaa rfl (yaa rfl (yaa rfl (yaa rfl ybe))))) rfl (by kernel_rfl) ?_
   (repeat (first | refine zo ?_ | refine ycl tok rfl rfl rfl (hvs) rfl (ybf rfl) (by simp; omega) rfl rfl rfl rfl rfl ?_))
   refine ⟨_, rfl, yam _, yaj (yab rfl (yab ?_ (yab ?_ yai)))⟩
   ·rw [← yge]; rfl
   ·rw [hev]; rfl
  ·(repeat (first | refine zo ?_ | refine ycl tok rfl rfl rfl (hvs) rfl (ybf rfl) (by simp; omega) rfl rfl rfl rfl rfl ?_))
   refine yda [0, 9, 10, 11, 12] (yaa rfl (yaa rfl (yaa rfl (yaa rfl (yaa rfl ybe))))) rfl (by kernel_rfl) ?_
   (try refine zo ?_)
   refine ⟨_, rfl, yam _, yaj (yab rfl (yab ?_ (yab ?_ yai)))⟩
   ·rw [← yge]; rfl
   ·rw [hev]; rfl
theorem variable_port {ts : List Tok} {x : VarD} {R : List PW} (hx : NumOk x) (hk : x.kind = 3) (hnm : nmW (bl x.name) = true) (hn : bl x.name ∉ ns) (hl : ns.length ≤ 1000) (hvs : vs.length = ns.length * 6) (h : ydd s ts) (hw : ts.map (pwT s) = pwN (bl x.name) :: pwS [58] :: pwN zgi :: pwS [59] :: R) : zlq s nm ns vs ts x R := by
 obtain ⟨t1, r1, rfl, e1, k1⟩ := yao hw
 obtain ⟨t2, r2, rfl, e2, k2⟩ := yao k1
 obtain ⟨t3, r3, rfl, e3, k3⟩ := yao k2
 obtain ⟨t4, r4, rfl, e4, k4⟩ := yao k3
 have hz := hx.none (by omega)
 have hev := zks (x := x) rfl hk hz.1 hz.2.1 hz.2.2.1 hz.2.2.2
 refine ⟨r4, ⟨[t1, t2, t3, t4], rfl⟩, k4, ?_⟩
 refine ybb tok Tryz.func51 rfl rfl Tryz.ntmps51 Tryz.results51 rfl (zox rfl) ?_
 show A _ _ _ _ (S _ _)
 (repeat (first | refine zy ?_ | refine yek [(1001, 1001), (1010, 1010), (1011, 1011)] (zqn h e1 hnm hn hl) rfl rfl rfl rfl rfl rfl rfl (yab rfl (yab rfl (yab rfl yai))) rfl rfl rfl rfl rfl rfl ?_ | refine qt 1001 (fun _ _ => ych (w := [58]) (h.tail) (ybg e2) (by decide)) ?_))
 (repeat (first | refine zy ?_ | refine qt 1001 (fun _ _ => ybx (w := zcz) (h.tail.tail) (yev e3 (by decide))) ?_ | refine qt 1001 (fun _ _ => yaw (w := zgi) (h.tail.tail) (ybg e3) (by decide)) ?_))
 (repeat (first | refine zo ?_ | refine qt 1001 (fun _ _ => ych (w := [59]) (h.tail.tail.tail) (ybg e4) (by decide)) ?_))
 refine zt ?_
 refine ycx (lf := lf0) mixed rfl ?_
 refine yki [1, 2, 3, 4, 5, 6, 7, 8] 6 (yaa rfl (yaa rfl (yaa rfl (yaa rfl (yaa rfl (yaa rfl (yaa rfl (yaa rfl ybe)))))))) rfl (by kernel_rfl) ?_
 (try refine zo ?_)
 refine yhk [0, 9] 5 rfl (by kernel_rfl) (by simp) ⟨⟨_, rfl, ?_⟩, ⟨_, rfl, ?_⟩, trivial⟩
 ·(try refine zo ?_)
  refine yda [9, 10, 11, 12, 13] (yaa rfl (yaa rfl (yaa rfl (yaa rfl (yaa rfl ybe))))) rfl (by kernel_rfl) ?_
  (repeat (first | refine zo ?_ | refine ycl tok rfl rfl rfl (ymq ns) rfl (ybf rfl) (by simp; omega) rfl rfl rfl rfl rfl ?_))
  refine zt ?_
  refine ycx (lf := lf0) mixed rfl ?_
  refine yki [1, 2, 3, 4, 5, 6, 7] 6 (yaa rfl (yaa rfl (yaa rfl (yaa rfl (yaa rfl (yaa rfl (yaa rfl ybe))))))) rfl (by kernel_rfl) ?_
  (try refine zo ?_)
  refine yhk [0, 8] 5 rfl (by kernel_rfl) (by simp) ⟨⟨_, rfl, ?_⟩, ⟨_, rfl, ?_⟩, trivial⟩
  ·(try refine zo ?_)
   refine yda [8, 9, 10, 11, 12] (yaa rfl (yaa rfl (yaa rfl (yaa rfl (yaa rfl ybe))))) rfl (by kernel_rfl) ?_
   (repeat (first | refine zo ?_ | refine ycl tok rfl rfl rfl (hvs) rfl (ybf rfl) (by simp; omega) rfl rfl rfl rfl rfl ?_))
   refine ⟨_, rfl, yam _, yaj (yab rfl (yab ?_ (yab ?_ yai)))⟩
   ·rw [← yge]; rfl
   ·rw [hev]; rfl
  ·(repeat (first | refine zo ?_ | refine ycl tok rfl rfl rfl (hvs) rfl (ybf rfl) (by simp; omega) rfl rfl rfl rfl rfl ?_))
   refine yda [0, 9, 10, 11, 12] (yaa rfl (yaa rfl (yaa rfl (yaa rfl (yaa rfl ybe))))) rfl (by kernel_rfl) ?_
   (try refine zo ?_)
   refine ⟨_, rfl, yam _, yaj (yab rfl (yab ?_ (yab ?_ yai)))⟩
   ·rw [← yge]; rfl
   ·rw [hev]; rfl
 ·(repeat (first | refine zo ?_ | refine ycl tok rfl rfl rfl (ymq ns) rfl (ybf rfl) (by simp; omega) rfl rfl rfl rfl rfl ?_))
  refine yda [0, 10, 11, 12, 13] (yaa rfl (yaa rfl (yaa rfl (yaa rfl (yaa rfl ybe))))) rfl (by kernel_rfl) ?_
  (try refine zo ?_)
  refine zt ?_
  refine ycx (lf := lf0) mixed rfl ?_
  refine yki [1, 2, 3, 4, 5, 6, 7] 6 (yaa rfl (yaa rfl (yaa rfl (yaa rfl (yaa rfl (yaa rfl (yaa rfl ybe))))))) rfl (by kernel_rfl) ?_
  (try refine zo ?_)
  refine yhk [0, 8] 5 rfl (by kernel_rfl) (by simp) ⟨⟨_, rfl, ?_⟩, ⟨_, rfl, ?_⟩, trivial⟩
  ·(try refine zo ?_)
   refine yda [8, 9, 10, 11, 12] (yaa rfl (yaa rfl (yaa rfl (yaa rfl (yaa rfl ybe))))) rfl (by kernel_rfl) ?_
   (repeat (first | refine zo ?_ | refine ycl tok rfl rfl rfl (hvs) rfl (ybf rfl) (by simp; omega) rfl rfl rfl rfl rfl ?_))
   refine ⟨_, rfl, yam _, yaj (yab rfl (yab ?_ (yab ?_ yai)))⟩
   ·rw [← yge]; rfl
   ·rw [hev]; rfl
  ·(repeat (first | refine zo ?_ | refine ycl tok rfl rfl rfl (hvs) rfl (ybf rfl) (by simp; omega) rfl rfl rfl rfl rfl ?_))
   refine yda [0, 9, 10, 11, 12] (yaa rfl (yaa rfl (yaa rfl (yaa rfl (yaa rfl ybe))))) rfl (by kernel_rfl) ?_
   (try refine zo ?_)
   refine ⟨_, rfl, yam _, yaj (yab rfl (yab ?_ (yab ?_ yai)))⟩
   ·rw [← yge]; rfl
   ·rw [hev]; rfl
theorem variable_int {ts : List Tok} {x : VarD} {R : List PW} (hx : NumOk x) (hk : x.kind = 1) (hnm : nmW (bl x.name) = true) (hn : bl x.name ∉ ns) (hl : ns.length ≤ 1000) (hvs : vs.length = ns.length * 6) (h : ydd s ts) (hw : ts.map (pwT s) = pwN (bl x.name) :: pwS [58] :: pwV x.lo.toNat :: pwS [46, 46] :: (yrs x ++ pwS [59] :: R)) : zlq s nm ns vs ts x R := by
 obtain ⟨t1, r1, rfl, e1, k1⟩ := yao hw
 obtain ⟨t2, r2, rfl, e2, k2⟩ := yao k1
 obtain ⟨t3, r3, rfl, e3, k3⟩ := yao k2
 obtain ⟨t4, r4, rfl, e4, k4⟩ := yao k3
 have hev := zks (x := x) (b := x.lo) rfl hk rfl rfl rfl rfl
 have hlo : ((x.lo.toNat : Nat) : Int) = x.lo := by have := hx.lo; omega
 obtain ⟨ts1, s1, w1, c1⟩ := bound_X (k := ns.length) (nm := nm) (ns := ns) (vs := vs) (a0 := bl x.name) (a1 := 1) (a2 := ((x.lo.toNat : Nat) : Int)) hx h.tail.tail.tail.tail k4
 obtain ⟨t5, r5, rfl, e5, k5⟩ := yao w1
 refine ⟨r5, ((List.suffix_cons _ _).trans s1).trans ⟨[t1, t2, t3, t4], rfl⟩, k5, ?_⟩
 have i1 := h.tail.tail.tail.tail.suf s1
 refine ybb tok Tryz.func51 rfl rfl Tryz.ntmps51 Tryz.results51 rfl (zox rfl) ?_
 show A _ _ _ _ (S _ _)
 (repeat (first | refine zy ?_ | refine yek [(1001, 1001), (1010, 1010), (1011, 1011)] (zqn h e1 hnm hn hl) rfl rfl rfl rfl rfl rfl rfl (yab rfl (yab rfl (yab rfl yai))) rfl rfl rfl rfl rfl rfl ?_ | refine qt 1001 (fun _ _ => ych (w := [58]) (h.tail) (ybg e2) (by decide)) ?_))
 (repeat (first | refine zy ?_ | refine qt 1001 (fun _ _ => ybx (w := zcz) (h.tail.tail) (zsx e3 98 _ rfl (by decide))) ?_ | refine qt 1001 (fun _ _ => ybx (w := zgi) (h.tail.tail) (zsx e3 112 _ rfl (by decide))) ?_ | refine qt 1001 (fun _ _ => yio (lo := 0) (hi := 4096) (h.tail.tail) e3 (by omega) (by have := hx.lo; omega)) ?_))
 (repeat (first | refine zy ?_ | refine qt 1001 (fun _ _ => ych (w := [46, 46]) (h.tail.tail.tail) (ybg e4) (by decide)) ?_ | refine yek [(1001, 1001), (1010, 1010), (1011, 1011), (1002, 2)] (c1) rfl rfl rfl rfl rfl rfl rfl (yab rfl (yab rfl (yab rfl (yab rfl yai)))) rfl rfl rfl rfl rfl rfl ?_))
 (repeat (first | refine zo ?_ | refine qt 1001 (fun _ _ => ych (w := [59]) (i1) (ybg e5) (by decide)) ?_))
 refine zt ?_
 refine ycx (lf := lf0) mixed rfl ?_
 refine yki [1, 2, 3, 4, 5, 6, 7, 8] 6 (yaa rfl (yaa rfl (yaa rfl (yaa rfl (yaa rfl (yaa rfl (yaa rfl (yaa rfl ybe)))))))) rfl (by kernel_rfl) ?_
 (try refine zo ?_)
 refine yhk [0, 9] 5 rfl (by kernel_rfl) (by simp) ⟨⟨_, rfl, ?_⟩, ⟨_, rfl, ?_⟩, trivial⟩
 ·(try refine zo ?_)
  refine yda [9, 10, 11, 12, 13] (yaa rfl (yaa rfl (yaa rfl (yaa rfl (yaa rfl ybe))))) rfl (by kernel_rfl) ?_
  (repeat (first | refine zo ?_ | refine ycl tok rfl rfl rfl (ymq ns) rfl (ybf rfl) (by simp; omega) rfl rfl rfl rfl rfl ?_))
  refine zt ?_
  refine ycx (lf := lf0) mixed rfl ?_
  refine yki [1, 2, 3, 4, 5, 6, 7] 6 (yaa rfl (yaa rfl (yaa rfl (yaa rfl (yaa rfl (yaa rfl (yaa rfl ybe))))))) rfl (by kernel_rfl) ?_
  (try refine zo ?_)
  refine yhk [0, 8] 5 rfl (by kernel_rfl) (by simp) ⟨⟨_, rfl, ?_⟩, ⟨_, rfl, ?_⟩, trivial⟩
  ·(try refine zo ?_)
   refine yda [8, 9, 10, 11, 12] (yaa rfl (yaa rfl (yaa rfl (yaa rfl (yaa rfl ybe))))) rfl (by kernel_rfl) ?_
   (repeat (first | refine zo ?_ | refine ycl tok rfl rfl rfl (hvs) rfl (ybf rfl) (by simp; omega) rfl rfl rfl rfl rfl ?_))
   refine ⟨_, rfl, yam _, yaj (yab rfl (yab ?_ (yab ?_ yai)))⟩
   ·rw [← yge]; rfl
   ·rw [hev, ← hlo]; rfl
  ·(repeat (first | refine zo ?_ | refine ycl tok rfl rfl rfl (hvs) rfl (ybf rfl) (by simp; omega) rfl rfl rfl rfl rfl ?_))
   refine yda [0, 9, 10, 11, 12] (yaa rfl (yaa rfl (yaa rfl (yaa rfl (yaa rfl ybe))))) rfl (by kernel_rfl) ?_
   (try refine zo ?_)
   refine ⟨_, rfl, yam _, yaj (yab rfl (yab ?_ (yab ?_ yai)))⟩
   ·rw [← yge]; rfl
   ·rw [hev, ← hlo]; rfl
 ·(repeat (first | refine zo ?_ | refine ycl tok rfl rfl rfl (ymq ns) rfl (ybf rfl) (by simp; omega) rfl rfl rfl rfl rfl ?_))
  refine yda [0, 10, 11, 12, 13] (yaa rfl (yaa rfl (yaa rfl (yaa rfl (yaa rfl ybe))))) rfl (by kernel_rfl) ?_
  (try refine zo ?_)
  refine zt ?_
  refine ycx (lf := lf0) mixed rfl ?_
  refine yki [1, 2, 3, 4, 5, 6, 7] 6 (yaa rfl (yaa rfl (yaa rfl (yaa rfl (yaa rfl (yaa rfl (yaa rfl ybe))))))) rfl (by kernel_rfl) ?_
  (try refine zo ?_)
  refine yhk [0, 8] 5 rfl (by kernel_rfl) (by simp) ⟨⟨_, rfl, ?_⟩, ⟨_, rfl, ?_⟩, trivial⟩
  ·(try refine zo ?_)
   refine yda [8, 9, 10, 11, 12] (yaa rfl (yaa rfl (yaa rfl (yaa rfl (yaa rfl ybe))))) rfl (by kernel_rfl) ?_
   (repeat (first | refine zo ?_ | refine ycl tok rfl rfl rfl (hvs) rfl (ybf rfl) (by simp; omega) rfl rfl rfl rfl rfl ?_))
   refine ⟨_, rfl, yam _, yaj (yab rfl (yab ?_ (yab ?_ yai)))⟩
   ·rw [← yge]; rfl
   ·rw [hev, ← hlo]; rfl
  ·(repeat (first | refine zo ?_ | refine ycl tok rfl rfl rfl (hvs) rfl (ybf rfl) (by simp; omega) rfl rfl rfl rfl rfl ?_))
   refine yda [0, 9, 10, 11, 12] (yaa rfl (yaa rfl (yaa rfl (yaa rfl (yaa rfl ybe))))) rfl (by kernel_rfl) ?_
   (try refine zo ?_)
   refine ⟨_, rfl, yam _, yaj (yab rfl (yab ?_ (yab ?_ yai)))⟩
   ·rw [← yge]; rfl
   ·rw [hev, ← hlo]; rfl
theorem variable_X {ts : List Tok} {x : VarD} {R : List PW} (hx : NumOk x) (hnm : nmW (bl x.name) = true) (hn : bl x.name ∉ ns) (hl : ns.length ≤ 1000) (hvs : vs.length = ns.length * 6) (h : ydd s ts) (hw : ts.map (pwT s) = pwN (bl x.name) :: pwS [58] :: (zkx x ++ pwS [59] :: R)) : zlq s nm ns vs ts x R := by
 unfold zkx at hw
 by_cases h2 : x.kind = 2
 ·rw [if_pos h2] at hw
  exact variable_bool hx h2 hnm hn hl hvs h hw
 ·by_cases h3 : x.kind = 3
  ·rw [if_neg h2, if_pos h3] at hw
   exact variable_port hx h3 hnm hn hl hvs h hw
  ·rw [if_neg h2, if_neg h3] at hw
   have := hx.kind
   exact variable_int hx (by omega) hnm hn hl hvs h hw
end
end
section
open Go.RowKit
section
variable {s : ByteArray} {names : List Bs}
theorem ytq {ts : List Tok} {e : List Tm} {r : List PW} (hg : yho nmW names = true) (hl : names.length ≤ 1000) (hs : s.size ≤ 1000000000) (hv : yco e names.length = true) (hr : yyh r) (h : ydd s ts) (hlen : ts.length ≤ 100000) (hw : ts.map (pwT s) = yps names e ++ r) :
  ∃ ts', ts' <:+ ts ∧ ts'.map (pwT s) = r ∧ ∀ us : List Value, yhb Tryz.prog 92 [.lp 1001 0] (yaf (rdX s ts [ybh names] us)) (ybk e) (yaf (rdX s ts' [ybh names] us)) := by
 obtain ⟨f, hf⟩ := zao hg hv hr
 rw [← hw] at hf
 have hsuf : r <:+ ts.map (pwT s) := by rw [hw]; exact List.suffix_append _ _
 obtain ⟨ts', h1, h2⟩ := yeb hsuf
 refine ⟨ts', h1, h2.symm, fun us => ?_⟩
 rw [h2] at hf
 exact ywk ((ziw (us := us) hl hs f f (Nat.le_refl _)).choice ts _ h hlen hf) h1
theorem yvf {t : Tok} {r : List Tok} {v : Int} (hg : yho nmW names = true) (hl : names.length ≤ 1000) (hs : s.size ≤ 1000000000) (hv : 0 ≤ v ∧ v < names.length) (h : ydd s (t :: r)) (ht : pwT s t = pwN (yfn names v)) :
  ∀ us : List Value, yhb Tryz.prog 93 [.lp 1001 0] (yaf (rdX s (t :: r) [ybh names] us)) (i64 v) (yaf (rdX s r [ybh names] us)) := by
 obtain ⟨w, hw⟩ : ∃ w, names[v.toNat]? = some w := ⟨_, List.getElem?_eq_getElem (by omega)⟩
 have e1 : yfn names v = w := by rw [yfn, hw]; rfl
 have e2 : (pwT s t).w = w := by rw [ht, ← e1]; rfl
 have hn : nmW w = true := (yjg hg).2.1 w (List.mem_of_getElem? hw)
 have hi := yyz (yjg hg).2.2 hw
 intro us
 have := yth (names := names) (us := us) h hl hs (by rw [e2]; exact hn) (by rw [e2]; exact hi)
 rw [show ((v.toNat : Nat) : Int) = v by omega] at this
 exact this
def zgt (l : List SetD) : List AV := (l.map ylj).flatten
theorem yrg {l : List SetD} {i : Nat} {x : SetD} (h : l[i]? = some x) : zgt (l.take i) ++ ylj x = zgt (l.take (i + 1)) := by
 rw [ydy h]; simp [zgt]
theorem yuz (l : List SetD) : (zgt l).length = l.length * 2 := by
 unfold zgt
 induction l with
 | nil => rfl
 | cons x l ih => simp only [List.map_cons, List.flatten_cons, List.length_append, ih, List.length_cons, ylj, List.length_nil]; omega
def yva (names : List Bs) (l : List SetD) (i : Nat) (R : List PW) : List PW := ypf names (l.drop i) ++ pwS [59] :: R
theorem zem {l : List SetD} {i : Nat} {x : SetD} {R : List PW} (h : l[i]? = some x) (hi : i + 1 = l.length) : yva names l i R = zjr names x ++ (pwS [59] :: R) := by
 obtain ⟨h1, rfl⟩ := List.getElem?_eq_some_iff.1 h
 rw [yva, List.drop_eq_getElem_cons h1, List.drop_eq_nil_of_le (by omega)]
 rfl
theorem zen {l : List SetD} {i : Nat} {x : SetD} {R : List PW} (h : l[i]? = some x) (hi : i + 1 < l.length) : yva names l i R = zjr names x ++ (pwS [44] :: yva names l (i + 1) R) := by
 obtain ⟨h1, rfl⟩ := List.getElem?_eq_some_iff.1 h
 rw [yva, yva, List.drop_eq_getElem_cons h1, List.drop_eq_getElem_cons hi]
 simp [ypf]
variable {nm : Bs} {vars : List (List AV)} {ns : List Bs} {vs : List AV}
def RuleRes (s : ByteArray) (names : List Bs) (nm : Bs) (vars : List (List AV)) (ns : List Bs) (vs : List AV) (ts : List Tok) (u : RuleD) (R : List PW) : Prop :=
 ∃ ts', ts' <:+ ts ∧ ts'.map (pwT s) = R ∧ yhb Tryz.prog 52 [.lp 1001 0] (yaf (rmH s ts names nm vars ns ns.length ns.length vs)) (.tup []) (yaf (rmH s ts' names nm vars (ns ++ [bl u.name]) (ns.length + 1) (ns.length + 1) (vs ++ ybl u)))
theorem rule_X {ts : List Tok} {u : RuleD} {R : List PW} (hu : RuleOkP names u) (hg : yho nmW names = true) (hnl : names.length ≤ 1000) (hs : s.size ≤ 1000000000) (hnm : nmW (bl u.name) = true) (hn : bl u.name ∉ ns) (hl : ns.length ≤ 1000) (hsl : u.sets.length ≤ 1000) (hvs : vs.length = ns.length * 3) (h : ydd s ts) (hlen : ts.length ≤ 100000) (hw : ts.map (pwT s) = pwN (bl u.name) :: pwS [58] :: (yps names u.guard ++ (pwS [45, 62] :: yva names u.sets 0 R))) : RuleRes s names nm vars ns vs ts u R := by
 obtain ⟨t1, r1, rfl, e1, k1⟩ := yao hw
 obtain ⟨t2, r2, rfl, e2, k2⟩ := yao k1
 have l2 : r2.length ≤ 100000 := by simp only [List.length_cons] at hlen; omega
 obtain ⟨ts1, s1, w1, c1⟩ := ytq hg hnl hs hu.guard (.inl rfl) h.tail.tail l2 k2
 have l1 := s1.length_le
 have h1 := h.tail.tail.suf s1
 obtain ⟨t3, r3, rfl, e3, k3⟩ := yao w1
 have hrl : R.length ≤ (t1 :: t2 :: r2).length := by
  have := congrArg List.length hw
  simp only [List.length_map, List.length_cons, List.length_append, yva] at this ⊢
  omega
 have hsuf : R <:+ (t1 :: t2 :: r2).map (pwT s) := by
  rw [hw]
  refine List.IsSuffix.trans ?_ (List.suffix_cons _ _)
  refine List.IsSuffix.trans ?_ (List.suffix_cons _ _)
  refine List.IsSuffix.trans ?_ (List.suffix_append _ _)
  refine List.IsSuffix.trans ?_ (List.suffix_cons _ _)
  exact (List.suffix_cons _ _).trans (List.suffix_append _ _)
 have hR := (zcl hsuf)
 refine ⟨zde (t1 :: t2 :: r2) R.length, hR.1, hR.2, ?_⟩
 have hend : ∀ q : List Tok, q <:+ (t1 :: t2 :: r2) → q.map (pwT s) = R → zde (t1 :: t2 :: r2) R.length = q := fun q h1 h2 => by
  rw [← h2, List.length_map, yos h1]
 generalize zde (t1 :: t2 :: r2) R.length = tsE at hend ⊢
 have hname : ycj (ba (bl u.name)) = ycj u.name := by rw [ymx]
 refine ybb tok Tryz.func52 rfl rfl Tryz.ntmps52 Tryz.results52 rfl (zuc rfl) ?_
 show A _ _ _ _ (S _ _)
 (repeat (first | refine zw ?_ | refine yek [(1001, 1001), (1012, 1012), (1013, 1013)] (name_R h e1 hnm hn hl) rfl rfl rfl rfl rfl rfl rfl (yab rfl (yab rfl (yab rfl yai))) rfl rfl rfl rfl rfl rfl ?_))
 refine zt ?_
 refine ycx (lf := lf0) mixed rfl ?_
 refine yki [1, 2, 3, 4, 5, 6, 7] 5 (yaa rfl (yaa rfl (yaa rfl (yaa rfl (yaa rfl (yaa rfl (yaa rfl ybe))))))) rfl (by kernel_rfl) ?_
 (try refine zo ?_)
 refine yhk [0, 8] 4 rfl (by kernel_rfl) (by simp) ⟨⟨_, rfl, ?_⟩, ⟨_, rfl, ?_⟩, trivial⟩
 ·(try refine zo ?_)
  refine yda [8, 9, 10, 11] (yaa rfl (yaa rfl (yaa rfl (yaa rfl ybe)))) rfl (by kernel_rfl) ?_
  (repeat (first | refine zo ?_ | refine ycl tok rfl rfl rfl (ymq ns) rfl (ybf rfl) (by simp; omega) rfl rfl rfl rfl rfl ?_))
  (repeat (first | refine zy ?_ | refine qt 1001 (fun _ _ => ych (w := [58]) (h.tail) (ybg e2) (by decide)) ?_ | refine qa 1001 (pre := [ybh names]) (fun us _ => c1 us) ?_ | refine qt 1001 (fun _ _ => ych (w := [45, 62]) (h1) (ybg e3) (by decide)) ?_))
  refine zdf 2 2 1020 2 rfl rfl rfl rfl rfl ?_
  refine yiv (α := Nat × List Tok) (fun q => [(2, .lp 2 0), (0, .lp 1001 0)]) (fun q => [(1001, some (rmC s q.2 names (ycj (ba nm)) vars ns.length (ns.length + 1))), (1012, some (.vec (zdc (ns ++ [bl u.name])))), (1013, some (.vec vs)), (2, some (.cells [ycj (ba (bl u.name)), ybk u.guard, .ls 1020 2 q.1])), (1020, some (.vec (zgt (u.sets.take q.1))))]) (fun q => u.sets.length - q.1) (fun q => q.1 < u.sets.length ∧ q.2 <:+ (t1 :: t2 :: r2) ∧ q.2.map (pwT s) = yva names u.sets q.1 R) (0, r3) ⟨List.length_pos_iff.2 hu.some, ((List.suffix_cons _ _).trans s1).trans ((List.suffix_cons _ _).trans (List.suffix_cons _ _)), k3⟩ (by exact zs) (yab rfl (yab (by rw [← yge]; rfl) (yab rfl (yab rfl (yab rfl yai))))) ?_
  rintro ⟨i, q⟩ ⟨hi, hq, hqw⟩
  simp only at hi hq hqw
  obtain ⟨x, hx⟩ := yxq hi
  have ox := hu.sets x (List.mem_of_getElem? hx)
  have hql := hq.length_le
  have hqh := h.suf hq
  have fin : ∀ (W : List PW), yyh W → yva names u.sets i R = zjr names x ++ W → ∃ t4 t5 q2, q = t4 :: t5 :: q2 ∧ pwT s t4 = pwN (yfn names x.var) ∧ pwT s t5 = pwS [58, 61] ∧ q2.map (pwT s) = yps names x.val ++ W := fun W hW e => by
   rw [e] at hqw
   obtain ⟨t4, r4, rfl, e4, k4⟩ := yao (show q.map (pwT s) = pwN (yfn names x.var) :: (pwS [58, 61] :: (yps names x.val ++ W)) from hqw)
   obtain ⟨t5, r5, rfl, e5, k5⟩ := yao k4
   exact ⟨t4, t5, r5, rfl, e4, e5, k5⟩
  by_cases hlast : i + 1 = u.sets.length
  ·obtain ⟨t4, t5, q2, rfl, e4, e5, k5⟩ := fin _ yhv (zem hx hlast)
   have l5 : q2.length ≤ 100000 := by simp only [List.length_cons] at hql hlen; omega
   obtain ⟨ts2, s2, w2, c2⟩ := ytq hg hnl hs ox.val yhv hqh.tail.tail l5 k5
   have h2 := hqh.tail.tail.suf s2
   obtain ⟨t6, q3, rfl, e6, k6⟩ := yao w2
   have sq : q3 <:+ (t1 :: t2 :: r2) := (((List.suffix_cons _ _).trans s2).trans ((List.suffix_cons _ _).trans (List.suffix_cons _ _))).trans hq
   (repeat (first | refine zy ?_ | refine qa 1001 (pre := [ybh names]) (fun us _ => yvf hg hnl hs ox.var hqh e4 us) ?_ | refine qt 1001 (fun _ _ => ych (w := [58, 61]) (hqh.tail) (ybg e5) (by decide)) ?_ | refine qa 1001 (pre := [ybh names]) (fun us _ => c2 us) ?_ | refine ycl tok rfl rfl rfl (by rw [yuz, List.length_take]; omega) rfl (ybf rfl) (by simp; omega) rfl rfl rfl rfl rfl ?_))
   (repeat (first | refine zo ?_ | refine qt 1001 (fun _ _ => ybx (w := [44]) (h2) (yev e6 (by decide))) ?_))
   refine zt ?_
   refine ylc 2 2 (u.sets.map ylj) rfl rfl rfl (by rw [List.length_map]; exact hlast.symm) (fun row hr => by obtain ⟨y, _, rfl⟩ := List.mem_map.1 hr; rfl) ?_ rfl rfl rfl rfl ?_
   ·show _ = zgt (u.sets.take i) ++ ylj x
    rw [yrg hx, hlast, List.take_length]; rfl
   (repeat (first | refine zw ?_ | refine qt 1001 (fun _ _ => ych (w := [59]) (h2) (ybg e6) (by decide)) ?_))
   refine zt ?_
   refine ycx (lf := lf0) mixed rfl ?_
   refine yki [1, 2, 3, 4, 5, 6, 7] 6 (yaa rfl (yaa rfl (yaa rfl (yaa rfl (yaa rfl (yaa rfl (yaa rfl ybe))))))) rfl (by kernel_rfl) ?_
   (try refine zo ?_)
   refine yhk [0, 8] 5 rfl (by kernel_rfl) (by simp) ⟨⟨_, rfl, ?_⟩, ⟨_, rfl, ?_⟩, trivial⟩
   ·(try refine zo ?_)
    refine yda [8, 9, 10, 11, 12] (yaa rfl (yaa rfl (yaa rfl (yaa rfl (yaa rfl ybe))))) rfl (by kernel_rfl) ?_
    (repeat (first | refine zo ?_ | refine ycl tok rfl rfl rfl (hvs) rfl (ybf rfl) (by simp; omega) rfl rfl rfl rfl rfl ?_))
    rw [hend q3 sq k6]
    refine ⟨_, rfl, yam _, yaj (yab rfl (yab rfl (yab ?_ yai)))⟩
    rw [show ybl u = [ycj (ba (bl u.name)), ybk u.guard, .sl 2 (u.sets.map ylj)] by rw [ybl, ymx]]
    rfl
   ·(repeat (first | refine zo ?_ | refine ycl tok rfl rfl rfl (hvs) rfl (ybf rfl) (by simp; omega) rfl rfl rfl rfl rfl ?_))
    refine yda [0, 9, 10, 11, 12] (yaa rfl (yaa rfl (yaa rfl (yaa rfl (yaa rfl ybe))))) rfl (by kernel_rfl) ?_
    (try refine zo ?_)
    rw [hend q3 sq k6]
    refine ⟨_, rfl, yam _, yaj (yab rfl (yab rfl (yab ?_ yai)))⟩
    rw [show ybl u = [ycj (ba (bl u.name)), ybk u.guard, .sl 2 (u.sets.map ylj)] by rw [ybl, ymx]]
    rfl
  ·obtain ⟨t4, t5, q2, rfl, e4, e5, k5⟩ := fin _ ygj (zen hx (by omega))
   have l5 : q2.length ≤ 100000 := by simp only [List.length_cons] at hql hlen; omega
   obtain ⟨ts2, s2, w2, c2⟩ := ytq hg hnl hs ox.val ygj hqh.tail.tail l5 k5
   have h2 := hqh.tail.tail.suf s2
   obtain ⟨t6, q3, rfl, e6, k6⟩ := yao w2
   have sq : q3 <:+ (t1 :: t2 :: r2) := (((List.suffix_cons _ _).trans s2).trans ((List.suffix_cons _ _).trans (List.suffix_cons _ _))).trans hq
   (repeat (first | refine zy ?_ | refine qa 1001 (pre := [ybh names]) (fun us _ => yvf hg hnl hs ox.var hqh e4 us) ?_ | refine qt 1001 (fun _ _ => ych (w := [58, 61]) (hqh.tail) (ybg e5) (by decide)) ?_ | refine qa 1001 (pre := [ybh names]) (fun us _ => c2 us) ?_ | refine ycl tok rfl rfl rfl (by rw [yuz, List.length_take]; omega) rfl (ybf rfl) (by simp; omega) rfl rfl rfl rfl rfl ?_ | refine qt 1001 (fun _ _ => yaw (w := [44]) (h2) (ybg e6) (by decide)) ?_))
   refine rnd (i + 1, q3) ⟨by simp only; omega, sq, k6⟩ (by simp only; omega) (by exact zs) (yab rfl (yab rfl (yab rfl (yab rfl (yab ?_ yai)))))
   rw [← yrg hx]; rfl
 ·(repeat (first | refine zo ?_ | refine ycl tok rfl rfl rfl (ymq ns) rfl (ybf rfl) (by simp; omega) rfl rfl rfl rfl rfl ?_))
  refine yda [0, 9, 10, 11] (yaa rfl (yaa rfl (yaa rfl (yaa rfl ybe)))) rfl (by kernel_rfl) ?_
  (try refine zo ?_)
  (repeat (first | refine zy ?_ | refine qt 1001 (fun _ _ => ych (w := [58]) (h.tail) (ybg e2) (by decide)) ?_ | refine qa 1001 (pre := [ybh names]) (fun us _ => c1 us) ?_ | refine qt 1001 (fun _ _ => ych (w := [45, 62]) (h1) (ybg e3) (by decide)) ?_))
  refine zdf 2 2 1020 2 rfl rfl rfl rfl rfl ?_
  refine yiv (α := Nat × List Tok) (fun q => [(2, .lp 2 0), (0, .lp 1001 0)]) (fun q => [(1001, some (rmC s q.2 names (ycj (ba nm)) vars ns.length (ns.length + 1))), (1012, some (.vec (zdc (ns ++ [bl u.name])))), (1013, some (.vec vs)), (2, some (.cells [ycj (ba (bl u.name)), ybk u.guard, .ls 1020 2 q.1])), (1020, some (.vec (zgt (u.sets.take q.1))))]) (fun q => u.sets.length - q.1) (fun q => q.1 < u.sets.length ∧ q.2 <:+ (t1 :: t2 :: r2) ∧ q.2.map (pwT s) = yva names u.sets q.1 R) (0, r3) ⟨List.length_pos_iff.2 hu.some, ((List.suffix_cons _ _).trans s1).trans ((List.suffix_cons _ _).trans (List.suffix_cons _ _)), k3⟩ (by exact zs) (yab rfl (yab (by rw [← yge]; rfl) (yab rfl (yab rfl (yab rfl yai))))) ?_
  rintro ⟨i, q⟩ ⟨hi, hq, hqw⟩
  simp only at hi hq hqw
  obtain ⟨x, hx⟩ := yxq hi
  have ox := hu.sets x (List.mem_of_getElem? hx)
  have hql := hq.length_le
  have hqh := h.suf hq
  have fin : ∀ (W : List PW), yyh W → yva names u.sets i R = zjr names x ++ W → ∃ t4 t5 q2, q = t4 :: t5 :: q2 ∧ pwT s t4 = pwN (yfn names x.var) ∧ pwT s t5 = pwS [58, 61] ∧ q2.map (pwT s) = yps names x.val ++ W := fun W hW e => by
   rw [e] at hqw
   obtain ⟨t4, r4, rfl, e4, k4⟩ := yao (show q.map (pwT s) = pwN (yfn names x.var) :: (pwS [58, 61] :: (yps names x.val ++ W)) from hqw)
   obtain ⟨t5, r5, rfl, e5, k5⟩ := yao k4
   exact ⟨t4, t5, r5, rfl, e4, e5, k5⟩
  by_cases hlast : i + 1 = u.sets.length
  ·obtain ⟨t4, t5, q2, rfl, e4, e5, k5⟩ := fin _ yhv (zem hx hlast)
   have l5 : q2.length ≤ 100000 := by simp only [List.length_cons] at hql hlen; omega
   obtain ⟨ts2, s2, w2, c2⟩ := ytq hg hnl hs ox.val yhv hqh.tail.tail l5 k5
   have h2 := hqh.tail.tail.suf s2
   obtain ⟨t6, q3, rfl, e6, k6⟩ := yao w2
   have sq : q3 <:+ (t1 :: t2 :: r2) := (((List.suffix_cons _ _).trans s2).trans ((List.suffix_cons _ _).trans (List.suffix_cons _ _))).trans hq
   (repeat (first | refine zy ?_ | refine qa 1001 (pre := [ybh names]) (fun us _ => yvf hg hnl hs ox.var hqh e4 us) ?_ | refine qt 1001 (fun _ _ => ych (w := [58, 61]) (hqh.tail) (ybg e5) (by decide)) ?_ | refine qa 1001 (pre := [ybh names]) (fun us _ => c2 us) ?_ | refine ycl tok rfl rfl rfl (by rw [yuz, List.length_take]; omega) rfl (ybf rfl) (by simp; omega) rfl rfl rfl rfl rfl ?_))
   (repeat (first | refine zo ?_ | refine qt 1001 (fun _ _ => ybx (w := [44]) (h2) (yev e6 (by decide))) ?_))
   refine zt ?_
   refine ylc 2 2 (u.sets.map ylj) rfl rfl rfl (by rw [List.length_map]; exact hlast.symm) (fun row hr => by obtain ⟨y, _, rfl⟩ := List.mem_map.1 hr; rfl) ?_ rfl rfl rfl rfl ?_
   ·show _ = zgt (u.sets.take i) ++ ylj x
    rw [yrg hx, hlast, List.take_length]; rfl
   (repeat (first | refine zw ?_ | refine qt 1001 (fun _ _ => ych (w := [59]) (h2) (ybg e6) (by decide)) ?_))
   refine zt ?_
   refine ycx (lf := lf0) mixed rfl ?_
   refine yki [1, 2, 3, 4, 5, 6, 7] 6 (yaa rfl (yaa rfl (yaa rfl (yaa rfl (yaa rfl (yaa rfl (yaa rfl ybe))))))) rfl (by kernel_rfl) ?_
   (try refine zo ?_)
   refine yhk [0, 8] 5 rfl (by kernel_rfl) (by simp) ⟨⟨_, rfl, ?_⟩, ⟨_, rfl, ?_⟩, trivial⟩
   ·(try refine zo ?_)
    refine yda [8, 9, 10, 11, 12] (yaa rfl (yaa rfl (yaa rfl (yaa rfl (yaa rfl ybe))))) rfl (by kernel_rfl) ?_
    (repeat (first | refine zo ?_ | refine ycl tok rfl rfl rfl (hvs) rfl (ybf rfl) (by simp; omega) rfl rfl rfl rfl rfl ?_))
    rw [hend q3 sq k6]
    refine ⟨_, rfl, yam _, yaj (yab rfl (yab rfl (yab ?_ yai)))⟩
    rw [show ybl u = [ycj (ba (bl u.name)), ybk u.guard, .sl 2 (u.sets.map ylj)] by rw [ybl, ymx]]
    rfl
   ·(repeat (first | refine zo ?_ | refine ycl tok rfl rfl rfl (hvs) rfl (ybf rfl) (by simp; omega) rfl rfl rfl rfl rfl ?_))
    refine yda [0, 9, 10, 11, 12] (yaa rfl (yaa rfl (yaa rfl (yaa rfl (yaa rfl ybe))))) rfl (by kernel_rfl) ?_
    (try refine zo ?_)
    rw [hend q3 sq k6]
    refine ⟨_, rfl, yam _, yaj (yab rfl (yab rfl (yab ?_ yai)))⟩
    rw [show ybl u = [ycj (ba (bl u.name)), ybk u.guard, .sl 2 (u.sets.map ylj)] by rw [ybl, ymx]]
    rfl
  ·obtain ⟨t4, t5, q2, rfl, e4, e5, k5⟩ := fin _ ygj (zen hx (by omega))
   have l5 : q2.length ≤ 100000 := by simp only [List.length_cons] at hql hlen; omega
   obtain ⟨ts2, s2, w2, c2⟩ := ytq hg hnl hs ox.val ygj hqh.tail.tail l5 k5
   have h2 := hqh.tail.tail.suf s2
   obtain ⟨t6, q3, rfl, e6, k6⟩ := yao w2
   have sq : q3 <:+ (t1 :: t2 :: r2) := (((List.suffix_cons _ _).trans s2).trans ((List.suffix_cons _ _).trans (List.suffix_cons _ _))).trans hq
   (repeat (first | refine zy ?_ | refine qa 1001 (pre := [ybh names]) (fun us _ => yvf hg hnl hs ox.var hqh e4 us) ?_ | refine qt 1001 (fun _ _ => ych (w := [58, 61]) (hqh.tail) (ybg e5) (by decide)) ?_ | refine qa 1001 (pre := [ybh names]) (fun us _ => c2 us) ?_ | refine ycl tok rfl rfl rfl (by rw [yuz, List.length_take]; omega) rfl (ybf rfl) (by simp; omega) rfl rfl rfl rfl rfl ?_ | refine qt 1001 (fun _ _ => yaw (w := [44]) (h2) (ybg e6) (by decide)) ?_))
   refine rnd (i + 1, q3) ⟨by simp only; omega, sq, k6⟩ (by simp only; omega) (by exact zs) (yab rfl (yab rfl (yab rfl (yab rfl (yab ?_ yai)))))
   rw [← yrg hx]; rfl
end
end
section
open Go.RowKit
def zgn (l : List VarD) (i : Nat) (R : List PW) : List PW := (l.drop i).flatMap zrl ++ R
theorem restV_next {l : List VarD} {i : Nat} {x : VarD} {R : List PW} (h : l[i]? = some x) : zgn l i R = pwN yve :: pwN (bl x.name) :: pwS [58] :: (zkx x ++ pwS [59] :: zgn l (i + 1) R) := by
 obtain ⟨h1, he⟩ := List.getElem?_eq_some_iff.1 h
 have e : l.drop i = x :: l.drop (i + 1) := by rw [← he]; exact List.drop_eq_getElem_cons h1
 rw [zgn, e, List.flatMap_cons, zrl]
 simp [zgn]
def zby (names : List Bs) (l : List RuleD) (i : Nat) (R : List PW) : List PW := (l.drop i).flatMap (yop names) ++ R
theorem restR_next {names : List Bs} {l : List RuleD} {i : Nat} {x : RuleD} {R : List PW} (h : l[i]? = some x) : zby names l i R = pwN ykk :: pwN (bl x.name) :: pwS [58] :: (yps names x.guard ++ (pwS [45, 62] :: yva names x.sets 0 (zby names l (i + 1) R))) := by
 obtain ⟨h1, he⟩ := List.getElem?_eq_some_iff.1 h
 have e : l.drop i = x :: l.drop (i + 1) := by rw [← he]; exact List.drop_eq_getElem_cons h1
 rw [zby, e, List.flatMap_cons, yop]
 simp [zby, yva]
def zkf (l : List VarD) : List Bs := l.map fun x => bl x.name
def zip (l : List RuleD) : List Bs := l.map fun x => bl x.name
theorem zed {l : List Bs} (h : l.Nodup) {i : Nat} {w : Bs} (hi : l[i]? = some w) : w ∉ l.take i := by
 intro hm
 obtain ⟨hl, rfl⟩ := List.getElem?_eq_some_iff.1 hi
 obtain ⟨j, hj, e⟩ := List.mem_take_iff_getElem.1 hm
 exact (List.pairwise_iff_getElem.1 h j i (by omega) hl (by omega)) e
section
variable {s : ByteArray} {nm : Bs}
theorem many_V {l : List VarD} {ts : List Tok} {R : List PW} (hok : ∀ x ∈ l, NumOk x ∧ nmW (bl x.name) = true) (hnd : (zkf l).Nodup) (hl : l.length ≤ 6) (h : ydd s ts) (hlen : ts.length ≤ 100000) (hw : ts.map (pwT s) = zgn l 0 R) (hR : ybd R ≠ yve) : ∃ ts', ts' <:+ ts ∧ ts'.map (pwT s) = R ∧ yhb Tryz.prog 50 [.lp 1001 0, ycj (ba yve), i64 6, .fm 51 [.lp 1001 0]] (yaf (vmH s ts nm [] 0 [])) (.tup []) (yaf (vmH s ts' nm (zkf l) l.length (l.flatMap yil))) := by
 have hsuf : R <:+ ts.map (pwT s) := by rw [hw]; exact List.suffix_append _ _
 have hR2 := zcl hsuf
 refine ⟨zde ts R.length, hR2.1, hR2.2, ?_⟩
 have hend : ∀ q : List Tok, q <:+ ts → q.map (pwT s) = R → zde ts R.length = q := fun q h1 h2 => by
  rw [← h2, List.length_map, yos h1]
 generalize zde ts R.length = tsE at hend ⊢
 have hel : ∀ n, ((l.take n).flatMap yil).length = (l.take n).length * 6 := fun n => by
  generalize l.take n = m
  induction m with
  | nil => rfl
  | cons x m ih => simp only [List.flatMap_cons, List.length_append, ih, List.length_cons, yil, List.length_nil]; omega
 refine ybb tok Tryz.func50 rfl rfl Tryz.ntmps50 Tryz.results50 rfl (zox rfl) ?_
 show A _ _ _ _ (S _ _)
 (try refine zy ?_)
 refine yiv (α := Nat × List Tok) (fun q => [(8, i64 q.1), (3, .fm 51 [.lp 1001 0]), (2, i64 6), (1, ycj (ba yve)), (0, .lp 1001 0)]) (fun q => vmH s q.2 nm (zkf (l.take q.1)) q.1 ((l.take q.1).flatMap yil)) (fun q => l.length - q.1) (fun q => q.1 ≤ l.length ∧ q.2 <:+ ts ∧ q.2.map (pwT s) = zgn l q.1 R) (0, ts) ⟨by simp only; omega, List.suffix_refl _, hw⟩ (by exact zs) (by exact zh) ?_
 rintro ⟨i, q⟩ ⟨hi, hq, hqw⟩
 simp only at hi hq hqw
 have hqt := h.suf hq
 have hql := hq.length_le
 have hpk := fun (u0 : Value) (us : List Value) => zbq (u0 := u0) (us := us) hqt
 by_cases hlt : i < l.length
 ·obtain ⟨x, hx⟩ := yxq hlt
  rw [restV_next hx] at hqw
  obtain ⟨t, r, rfl, et, kt⟩ := yao hqw
  rw [show ybd ((t :: r).map (pwT s)) = yve from ybg et] at hpk
  have hnx : bl x.name ∉ zkf (l.take i) := by
   have := zed hnd (i := i) (w := bl x.name) (by simp [zkf, hx])
   rwa [zkf, List.map_take]
  have hnl2 : (zkf (l.take i)).length = i := by rw [zkf, List.length_map, List.length_take]; omega
  have hvs : ((l.take i).flatMap yil).length = (zkf (l.take i)).length * 6 := by rw [hel, hnl2, List.length_take]; omega
  obtain ⟨o1, o2⟩ := hok x (List.mem_of_getElem? hx)
  obtain ⟨q2, s2, w2, c1⟩ := variable_X (nm := nm) (ns := zkf (l.take i)) o1 o2 hnx (by omega) hvs hqt.tail kt
  rw [hnl2] at c1
  (repeat (first | refine zy ?_ | refine qt 1001 (hpk) ?_))
  refine yag rfl (fun _ => ?_) (fun h9 => absurd h9 (by simp))
  (try refine zy ?_)
  refine yag rfl (fun h9 => absurd h9 (by simp; omega)) (fun _ => ?_)
  (repeat (first | refine zy ?_ | refine qt 1001 (fun _ _ => zcn t r) ?_ | refine zlo [(1001, 1001), (1010, 1010), (1011, 1011)] c1 rfl rfl rfl rfl rfl rfl (yab rfl (yab rfl (yab rfl yai))) rfl rfl rfl rfl rfl rfl ?_))
  refine rnd (i + 1, q2) ⟨by simp only; omega, (s2.trans (List.suffix_cons _ _)).trans hq, w2⟩ (by simp only; omega) (by exact zs) (yab rfl (yab ?_ (yab ?_ yai)))
  ·show yaf _ _ = some (LObj.vec (zdc (zkf (l.take (i + 1)))))
   rw [show zkf (l.take (i + 1)) = zkf (l.take i) ++ [bl x.name] by rw [ydy hx]; simp [zkf]]
   rfl
  ·show yaf _ _ = some (LObj.vec ((l.take (i + 1)).flatMap yil))
   rw [ydy hx, List.flatMap_append, List.flatMap_cons, List.flatMap_nil, List.append_nil]; rfl
 ·obtain rfl : i = l.length := by omega
  have hqR : q.map (pwT s) = R := by rw [hqw, zgn, List.drop_length]; rfl
  rw [hqR] at hpk
  (repeat (first | refine zy ?_ | refine qt 1001 (hpk) ?_))
  refine yag rfl (fun h9 => absurd h9 (by simp [ydk, hR])) (fun _ => ?_)
  (try refine zy ?_)
  rw [hend q hq hqR]
  refine ⟨_, rfl, yam _, yaj (yab rfl (yab ?_ (yab ?_ yai)))⟩
  ·rw [List.take_length]; rfl
  ·rw [List.take_length]; rfl
theorem many_R {l : List RuleD} {ts : List Tok} {R : List PW} {names : List Bs} {vars : List (List AV)} (hg : yho nmW names = true) (hnl : names.length ≤ 1000) (hs : s.size ≤ 1000000000) (hok : ∀ x ∈ l, RuleOkP names x ∧ nmW (bl x.name) = true ∧ x.sets.length ≤ 1000) (hnd : (zip l).Nodup) (hl : l.length ≤ 12) (h : ydd s ts) (hlen : ts.length ≤ 100000) (hw : ts.map (pwT s) = zby names l 0 R) (hR : ybd R ≠ ykk) : ∃ ts', ts' <:+ ts ∧ ts'.map (pwT s) = R ∧ yhb Tryz.prog 50 [.lp 1001 0, ycj (ba ykk), i64 12, .fm 52 [.lp 1001 0]] (yaf (rmH s ts names nm vars [] 0 0 [])) (.tup []) (yaf (rmH s ts' names nm vars (zip l) l.length l.length (l.flatMap ybl))) := by
 have hsuf : R <:+ ts.map (pwT s) := by rw [hw]; exact List.suffix_append _ _
 have hR2 := zcl hsuf
 refine ⟨zde ts R.length, hR2.1, hR2.2, ?_⟩
 have hend : ∀ q : List Tok, q <:+ ts → q.map (pwT s) = R → zde ts R.length = q := fun q h1 h2 => by
  rw [← h2, List.length_map, yos h1]
 generalize zde ts R.length = tsE at hend ⊢
 have hel : ∀ n, ((l.take n).flatMap ybl).length = (l.take n).length * 3 := fun n => by
  generalize l.take n = m
  induction m with
  | nil => rfl
  | cons x m ih => simp only [List.flatMap_cons, List.length_append, ih, List.length_cons, ybl, List.length_nil]; omega
 refine ybb tok Tryz.func50 rfl rfl Tryz.ntmps50 Tryz.results50 rfl (zuc rfl) ?_
 show A _ _ _ _ (S _ _)
 (try refine zy ?_)
 refine yiv (α := Nat × List Tok) (fun q => [(8, i64 q.1), (3, .fm 52 [.lp 1001 0]), (2, i64 12), (1, ycj (ba ykk)), (0, .lp 1001 0)]) (fun q => rmH s q.2 names nm vars (zip (l.take q.1)) q.1 q.1 ((l.take q.1).flatMap ybl)) (fun q => l.length - q.1) (fun q => q.1 ≤ l.length ∧ q.2 <:+ ts ∧ q.2.map (pwT s) = zby names l q.1 R) (0, ts) ⟨by simp only; omega, List.suffix_refl _, hw⟩ (by exact zs) (by exact zh) ?_
 rintro ⟨i, q⟩ ⟨hi, hq, hqw⟩
 simp only at hi hq hqw
 have hqt := h.suf hq
 have hql := hq.length_le
 have hpk := fun (u0 : Value) (us : List Value) => zbq (u0 := u0) (us := us) hqt
 by_cases hlt : i < l.length
 ·obtain ⟨x, hx⟩ := yxq hlt
  rw [restR_next hx] at hqw
  obtain ⟨t, r, rfl, et, kt⟩ := yao hqw
  rw [show ybd ((t :: r).map (pwT s)) = ykk from ybg et] at hpk
  have hnx : bl x.name ∉ zip (l.take i) := by
   have := zed hnd (i := i) (w := bl x.name) (by simp [zip, hx])
   rwa [zip, List.map_take]
  have hnl2 : (zip (l.take i)).length = i := by rw [zip, List.length_map, List.length_take]; omega
  have hvs : ((l.take i).flatMap ybl).length = (zip (l.take i)).length * 3 := by rw [hel, hnl2, List.length_take]; omega
  obtain ⟨o1, o2, o3⟩ := hok x (List.mem_of_getElem? hx)
  obtain ⟨q2, s2, w2, c1⟩ := rule_X (nm := nm) (vars := vars) (ns := zip (l.take i)) o1 hg hnl hs o2 hnx (by omega) o3 hvs hqt.tail (by simp only [List.length_cons] at hql; omega) kt
  rw [hnl2] at c1
  (repeat (first | refine zy ?_ | refine qt 1001 (hpk) ?_))
  refine yag rfl (fun _ => ?_) (fun h9 => absurd h9 (by simp))
  (try refine zy ?_)
  refine yag rfl (fun h9 => absurd h9 (by simp; omega)) (fun _ => ?_)
  (repeat (first | refine zy ?_ | refine qt 1001 (fun _ _ => zcn t r) ?_ | refine zlo [(1001, 1001), (1012, 1012), (1013, 1013)] c1 rfl rfl rfl rfl rfl rfl (yab rfl (yab rfl (yab rfl yai))) rfl rfl rfl rfl rfl rfl ?_))
  refine rnd (i + 1, q2) ⟨by simp only; omega, (s2.trans (List.suffix_cons _ _)).trans hq, w2⟩ (by simp only; omega) (by exact zs) (yab rfl (yab ?_ (yab ?_ yai)))
  ·show yaf _ _ = some (LObj.vec (zdc (zip (l.take (i + 1)))))
   rw [show zip (l.take (i + 1)) = zip (l.take i) ++ [bl x.name] by rw [ydy hx]; simp [zip]]
   rfl
  ·show yaf _ _ = some (LObj.vec ((l.take (i + 1)).flatMap ybl))
   rw [ydy hx, List.flatMap_append, List.flatMap_cons, List.flatMap_nil, List.append_nil]; rfl
 ·obtain rfl : i = l.length := by omega
  have hqR : q.map (pwT s) = R := by rw [hqw, zby, List.drop_length]; rfl
  rw [hqR] at hpk
  (repeat (first | refine zy ?_ | refine qt 1001 (hpk) ?_))
  refine yag rfl (fun h9 => absurd h9 (by simp [ydk, hR])) (fun _ => ?_)
  (try refine zy ?_)
  rw [hend q hq hqR]
  refine ⟨_, rfl, yam _, yaj (yab rfl (yab ?_ (yab ?_ yai)))⟩
  ·rw [List.take_length]; rfl
  ·rw [List.take_length]; rfl
end
end
section
open Go.RowKit Go.Maps
def yoz (r : RuleD) : Bool := decide (r.name.size ≤ 40) && (decide (r.sets.length ≤ 10) && (decide (r.guard.length ≤ 250) && r.sets.all (fun s => decide (s.val.length ≤ 250))))
def yex (p : ProgD) : Bool := decide (p.name.size ≤ 40) && (decide (p.vars.length ≤ 10) && (decide (p.rules.length ≤ 16) && (p.vars.all (fun x => decide (x.name.size ≤ 40)) && p.rules.all yoz)))
theorem yjr {p : ProgD} (h : yex p = true) : yne p := by
 unfold yex at h
 simp only [Bool.and_eq_true, decide_eq_true_eq, List.all_eq_true] at h
 refine ⟨by omega, by omega, fun r hr => ?_⟩
 have := h.2.2.2.2 r hr
 unfold yoz at this
 simp only [Bool.and_eq_true, decide_eq_true_eq, List.all_eq_true] at this
 exact ⟨by omega, by omega, fun s hs => by have := this.2.2.2 s hs; omega⟩
set_option maxHeartbeats 16000000 in
theorem lightP_any (v : Value) (p : ProgD) (w : World) (hv : ygi w v p) (hin : yet p) :
  Calls Tryz.prog 8 #[v] w fun e w' => e = .returned (.bool (yex p)) ∧ Below w.heap.size w w' := by
 have HIN := Lib.hid hin
 obtain ⟨vv, rv, rfl, hvv, hrv⟩ := hv
 obtain ⟨a0, cap0, rfl, i1, i2, i3⟩ := hvv.open
 obtain ⟨a1, cap1, rfl, j1, j2, j3⟩ := hrv.open
 have HVC := Lib.hid i3
 have HRC := Lib.hid j3
 have hns := hin.1
 clear i3 j3 hvv hrv hin
 by_cases h40 : 40 < p.name.size
 ·have H := Lib.hid (show yex p = false by unfold yex; rw [show decide (p.name.size ≤ 40) = false by simp; omega]; rfl)
  have b1 : decide (40 < p.name.size) = true := by simp; omega
  go_enter Tryz.func8, Tryz.ntmps8
  go_wp2_with fail
  go_ret
  exact ⟨yae H.out.symm, (Below.refl _ _).alloc (Nat.le_refl _) _⟩
 have b1 : decide (40 < p.name.size) = false := by simp; omega
 have b1' : decide (40 < (p.name.size : Int)) = false := by simp; omega
 by_cases h10 : 10 < p.vars.length
 ·have H := Lib.hid (show yex p = false by unfold yex; rw [show decide (p.vars.length ≤ 10) = false by simp; omega]; simp)
  have b2 : decide (10 < p.vars.length) = true := by simp; omega
  go_enter Tryz.func8, Tryz.ntmps8
  go_wp2_with fail
  go_ret
  exact ⟨yae H.out.symm, (Below.refl _ _).alloc (Nat.le_refl _) _⟩
 have b2 : decide (10 < p.vars.length) = false := by simp; omega
 have b2' : decide (10 < (p.vars.length : Int)) = false := by simp; omega
 by_cases h16 : 16 < p.rules.length
 ·have H := Lib.hid (show yex p = false by unfold yex; rw [show decide (p.rules.length ≤ 16) = false by simp; omega]; simp)
  have b3 : decide (16 < p.rules.length) = true := by simp; omega
  go_enter Tryz.func8, Tryz.ntmps8
  go_wp2_with fail
  go_ret
  exact ⟨yae H.out.symm, (Below.refl _ _).alloc (Nat.le_refl _) _⟩
 have b3 : decide (16 < p.rules.length) = false := by simp; omega
 have b3' : decide (16 < (p.rules.length : Int)) = false := by simp; omega
 have H0 := Lib.hid (show yex p = (p.vars.all (fun x => decide (x.name.size ≤ 40)) && p.rules.all yoz) by
  unfold yex
  rw [show decide (p.name.size ≤ 40) = true by simp; omega, show decide (p.vars.length ≤ 10) = true by simp; omega, show decide (p.rules.length ≤ 16) = true by simp; omega]; rfl)
 go_enter Tryz.func8, Tryz.ntmps8
 go_wp2_with fail
 go_loopw [3] (fun i wr => ∃ k : Nat, k ≤ p.vars.length ∧ i = .int .i64 k ∧ Hid ((p.vars.take k).all (fun x => decide (x.name.size ≤ 40)) = true) ∧ Hid (Below (w.heap.size + 1) (w.alloc (.cells #[.string p.name, .slice a0 p.vars.length cap0, .slice a1 p.rules.length cap1] 25)) wr)) (fun i _ => p.vars.length - (intOf i).toNat)
 case atStart => exact ⟨0, by omega, rfl, rfl, Below.refl _ _⟩
 case round =>
  obtain ⟨k, hk, rfl, hall, hbel⟩ := hrel
  have hbw := ybj hbel.out
  have hbs := ydh hbel.out
  have hbox := ydv hbel.out 1
  have hbox2 := ydv hbel.out 2
  simp at hbox hbox2
  by_cases hlt : k < p.vars.length
  ·obtain ⟨g, o, rfl, hg, hc⟩ := HVC.out (by omega)
   obtain ⟨x, hx⟩ : ∃ x, p.vars[k]? = some x := ⟨_, List.getElem?_eq_getElem hlt⟩
   obtain ⟨c0, _, _, _, _, _⟩ := hc k x hx
   rw [← hbw.cell (p := ⟨g, _, none⟩) hg] at c0
   have HGX : Hid (p.vars[k] = x) := (List.getElem?_eq_some_iff.1 hx).2
   have hxs := (HIN.out.2.1 x (List.mem_of_getElem? hx)).1
   clear hc hx
   by_cases h4 : 40 < x.name.size
   ·have H := Lib.hid (show yex p = false by rw [H0.out, yih k hlt (by rw [HGX.out]; simp; omega)]; rfl)
    have b4 : decide (40 < x.name.size) = true := by simp; omega
    go_wp2_with fail
    go_ret
    exact ⟨yae H.out.symm, hbw⟩
   ·have HST := Lib.hid (yii (f := fun x : VarD => decide (x.name.size ≤ 40)) k hlt hall.out (by rw [HGX.out]; simp; omega))
    have b4 : decide (40 < x.name.size) = false := by simp; omega
    go_wp2_with fail
    exact ⟨⟨k + 1, by omega, by go_num, HST, hbel⟩, by simp [intOf]; omega⟩
  ·obtain rfl : k = p.vars.length := by omega
   have H1 := Lib.hid (show yex p = p.rules.all yoz by rw [H0.out, ylg hall.out]; rfl)
   obtain ⟨wo, rfl⟩ : ∃ wo : World, wo = wr := ⟨_, rfl⟩
   go_wp2_with fail
   go_loopw [4, 5, 6] (fun i _ _ wr => ∃ k : Nat, k ≤ p.rules.length ∧ i = .int .i64 k ∧ Hid ((p.rules.take k).all yoz = true) ∧ Hid (Below (w.heap.size + 1) (w.alloc (.cells #[.string p.name, .slice a0 p.vars.length cap0, .slice a1 p.rules.length cap1] 25)) wr)) (fun i _ _ _ => p.rules.length - (intOf i).toNat)
   case atStart => exact ⟨0, by omega, rfl, rfl, hbel⟩
   case round =>
    clear hbel hbw hbs hbox hbox2 hall
    obtain ⟨k, hk, rfl, hall, hbel⟩ := hrel
    have hbw := ybj hbel.out
    have hbs := ydh hbel.out
    have hbox2 := ydv hbel.out 2
    simp at hbox2
    by_cases hlt : k < p.rules.length
    ·obtain ⟨g, o, rfl, hg, hc⟩ := HRC.out (by omega)
     obtain ⟨x, hx⟩ : ∃ x, p.rules[k]? = some x := ⟨_, List.getElem?_eq_getElem hlt⟩
     obtain ⟨gv, sv, ht, hs, c0, c1, c2⟩ := hc k x hx
     have HT := Lib.hid ht
     obtain ⟨ga, gcap, rfl, _, _, _⟩ := ht.open
     obtain ⟨sa, scap, rfl, sl1, sl2, s3⟩ := yhg hs
     have HSC := Lib.hid s3
     rw [← hbw.cell (p := ⟨g, _, none⟩) hg] at c0 c1 c2
     have HGX : Hid (p.rules[k] = x) := (List.getElem?_eq_some_iff.1 hx).2
     have hxs := (HIN.out.2.2 x (List.mem_of_getElem? hx)).1
     clear hc hx ht hs s3
     by_cases h4 : 40 < x.name.size
     ·have H := Lib.hid (show yex p = false by rw [H1.out, yih k hlt (by rw [HGX.out, yoz, show decide (x.name.size ≤ 40) = false by simp; omega]; rfl)])
      have b4 : decide (40 < x.name.size) = true := by simp; omega
      go_wp2_with fail
      go_ret
      exact ⟨yae H.out.symm, hbw.alloc (by omega) _⟩
     have b4 : decide (40 < x.name.size) = false := by simp; omega
     have b4' : decide (40 < (x.name.size : Int)) = false := by simp; omega
     by_cases h5 : 10 < x.sets.length
     ·have H := Lib.hid (show yex p = false by rw [H1.out, yih k hlt (by rw [HGX.out, yoz, show decide (x.sets.length ≤ 10) = false by simp; omega]; simp)])
      have b5 : decide (10 < x.sets.length) = true := by simp; omega
      go_wp2_with fail
      go_ret
      exact ⟨yae H.out.symm, hbw.alloc (by omega) _⟩
     have b5 : decide (10 < x.sets.length) = false := by simp; omega
     have b5' : decide (10 < (x.sets.length : Int)) = false := by simp; omega
     by_cases h6 : 250 < x.guard.length
     ·have H := Lib.hid (show yex p = false by rw [H1.out, yih k hlt (by rw [HGX.out, yoz, show decide (x.guard.length ≤ 250) = false by simp; omega]; simp)])
      have b6 : decide (x.guard.length ≤ 250) = false := by simp; omega
      go_wp2_with (go_at_call 17; refine (yug _ x.guard _ (by exact HT.out.below (hbw.alloc (by omega) _))).mono ?_; rintro e w1 ⟨rfl, rfl⟩)
      go_ret
      exact ⟨yae H.out.symm, hbw.alloc (by omega) _⟩
     have b6 : decide (x.guard.length ≤ 250) = true := by simp; omega
     have HR := Lib.hid (show yoz x = x.sets.all (fun s => decide (s.val.length ≤ 250)) by
      unfold yoz
      rw [show decide (x.name.size ≤ 40) = true by simp; omega, show decide (x.sets.length ≤ 10) = true by simp; omega, b6]; rfl)
     obtain ⟨wo2, rfl⟩ : ∃ wo2 : World, wo2 = wr := ⟨_, rfl⟩
     go_wp2_with (go_at_call 17; refine (yug _ x.guard _ (by exact HT.out.below (hbw.alloc (by omega) _))).mono ?_; rintro e w1 ⟨rfl, rfl⟩)
     go_loop [6] (fun i => ∃ j : Nat, j ≤ x.sets.length ∧ i = .int .i64 j ∧ Hid ((x.sets.take j).all (fun s => decide (s.val.length ≤ 250)) = true)) (fun i => x.sets.length - (intOf i).toNat)
     case atStart => exact ⟨0, by omega, rfl, rfl⟩
     case round =>
      obtain ⟨j, hj, rfl, hall2⟩ := hrel
      by_cases hjl : j < x.sets.length
      ·obtain ⟨g2, o2, rfl, hg2, hc2⟩ := HSC.out (by omega)
       obtain ⟨y, hy⟩ : ∃ y, x.sets[j]? = some y := ⟨_, List.getElem?_eq_getElem hjl⟩
       obtain ⟨tv, hty, d0, d1⟩ := hc2 j y hy
       have HTY := Lib.hid hty
       obtain ⟨ya, ycap, rfl, _, _, _⟩ := hty.open
       have hba := hbw.alloc (show w.heap.size ≤ wo2.heap.size by omega) (.cells #[.string x.name, .slice ga x.guard.length gcap, .slice (some ⟨g2, o2, none⟩) x.sets.length scap] 47)
       rw [← hba.cell (p := ⟨g2, _, none⟩) hg2] at d1
       have HGY : Hid (x.sets[j] = y) := (List.getElem?_eq_some_iff.1 hy).2
       clear hc2 hy hty d0
       by_cases h7 : 250 < y.val.length
       ·have b7 : decide (y.val.length ≤ 250) = false := by simp; omega
        have H := Lib.hid (show yex p = false by rw [H1.out, yih k hlt (by rw [HGX.out, HR.out, yih j hjl (by rw [HGY.out]; exact b7)])])
        go_wp2_with (go_at_call 17; refine (yug _ y.val _ (by exact HTY.out.below (hbw.alloc (by omega) _))).mono ?_; rintro e w1 ⟨rfl, rfl⟩)
        go_ret
        exact ⟨yae H.out.symm, hba⟩
       ·have b7 : decide (y.val.length ≤ 250) = true := by simp; omega
        have HST := Lib.hid (yii (f := fun s : SetD => decide (s.val.length ≤ 250)) j hjl hall2.out (by rw [HGY.out]; exact b7))
        go_wp2_with (go_at_call 17; refine (yug _ y.val _ (by exact HTY.out.below (hbw.alloc (by omega) _))).mono ?_; rintro e w1 ⟨rfl, rfl⟩)
        exact ⟨⟨j + 1, by omega, by go_num, HST⟩, by simp [intOf]; omega⟩
      ·obtain rfl : j = x.sets.length := by omega
       have HST := Lib.hid (yii (f := yoz) k hlt hall.out (by rw [HGX.out, HR.out]; exact ylg hall2.out))
       go_wp2_with fail
       exact ⟨⟨k + 1, by omega, by go_num, HST, hbel.out.alloc hbs _⟩, by simp [intOf]; omega⟩
    ·obtain rfl : k = p.rules.length := by omega
     have H := Lib.hid (show yex p = true by rw [H1.out, ylg hall.out])
     go_wp2_with fail
     go_ret
     exact ⟨yae H.out.symm, hbw⟩
end
set_option maxHeartbeats 8000000
section
open Go.RowKit
theorem tvalid_con (p : ProgD) (hin : yet p) (hl : yne p) : Con Tryz.prog 18 [zfo p] (ygx (ycn p == 0)) :=
 yee ⟨_, Tryz.func18, rfl, rfl⟩ fun w us ok hok hr => by
  obtain ⟨u, rfl, h1⟩ := ynb hr
  exact validP_any u p w (yoo h1 hok) hin hl
theorem zcc (p : ProgD) (hin : yet p) (hl : yne p) : Con Tryz.prog 16 [zfo p] (ygx (ycn p == 0)) :=
 yee ⟨_, Tryz.func16, rfl, rfl⟩ fun w us ok hok hr => by
  obtain ⟨u, rfl, h1⟩ := ynb hr
  exact rvalidP_any u p w (yoo h1 hok) hin hl
theorem yky (p : ProgD) (hin : yet p) : Con Tryz.prog 8 [zfo p] (ygx (yex p)) :=
 yee ⟨_, Tryz.func8, rfl, rfl⟩ fun w us ok hok hr => by
  obtain ⟨u, rfl, h1⟩ := ynb hr
  exact lightP_any u p w (yoo h1 hok) hin
end
set_option maxHeartbeats 16000000
section
open Go.RowKit
def zrc (p : ProgD) : List (List AV) := p.vars.map yil
def zsd (p : ProgD) : List (List AV) := p.rules.map ybl
def yuv (l : List Bs) : List (List AV) := l.map fun w => [ycj (ba w)]
theorem ywp (l : List Bs) : (yuv l).flatten = zdc l := by
 induction l with
 | nil => rfl
 | cons w l ih => simp only [yuv, List.map_cons, List.flatten_cons, zdc] at ih ⊢; rw [ih]; rfl
def zvc (s : ByteArray) (ts : List Tok) : List (Nat × Option LObj) := [(1001, some (.cells [ycj s, .sl 4 (ts.map yce), zrq, .v (.string ByteArray.empty), zrq, zrq, zrq]))]
def zui (s : ByteArray) (p : ProgD) : List (Nat × Option LObj) := [(1001, some (.cells [ycj s, .sl 4 ([] : List (List AV)), ybh (yap p), ycj (ba (bl p.name)), .sl 6 (zrc p), .sl 3 (zsd p), .sl 1 (yuv (zip p.rules))]))]
theorem rd01_cl {s : ByteArray} {ts : List Tok} {p : ProgD} {N : Nat} (hN : Nat.ble N 1001 = true) : ∀ id o, yaf (zui s p) id = some o → isC o = true → N ≤ id ∧ ∃ o', yaf (zvc s ts) id = some o' ∧ isC o' = true := by
 intro id o ho hc
 simp only [zvc, zui, yaf] at ho ⊢
 cases h1 : Nat.beq id 1001 with
 | true => have := Nat.eq_of_beq_eq_true h1; exact ⟨by simp only [Nat.ble_eq] at hN; omega, _, rfl, rfl⟩
 | false => simp only [h1] at ho; cases ho
theorem restR_head {names : List Bs} (l : List RuleD) : ybd (zby names l 0 []) ≠ yve := by
 rw [zby, List.append_nil, List.drop_zero]; exact ywr l
theorem all_con {s : ByteArray} {ts : List Tok} {p : ProgD} (hc : ycn p = 0) (hs : s.size ≤ 1000000000) (h : ydd s ts) (hlen : ts.length ≤ 100000) (hw : ts.map (pwT s) = yup p) : yhb Tryz.prog 28 [.lp 1001 0] (yaf (zvc s ts)) (.tup []) (yaf (zui s p)) := by
 have hp := ykj hc
 obtain ⟨t1, r1, rfl, e1, k1⟩ := yao (show ts.map (pwT s) = pwN yrl :: pwN (bl p.name) :: pwS [59] :: (zgn p.vars 0 (zby (yap p) p.rules 0 [])) by rw [hw, yup, zqc, zgn, zby, List.append_nil]; rfl)
 obtain ⟨t2, r2, rfl, e2, k2⟩ := yao k1
 obtain ⟨t3, r3, rfl, e3, k3⟩ := yao k2
 have hlen3 : r3.length ≤ 100000 := by simp only [List.length_cons] at hlen; omega
 obtain ⟨q1, s1, w1, c1⟩ := many_V (nm := bl p.name) (l := p.vars) (fun x hx => ⟨hp.vars x hx, hp.vnames x hx⟩) hp.vnod hp.few h.tail.tail.tail hlen3 k3 (restR_head _)
 have hq1 := h.tail.tail.tail.suf s1
 have hfew := hp.few
 have hrf := hp.rfew
 obtain ⟨q2, s2, w2, c2⟩ := many_R (nm := bl p.name) (l := p.rules) (R := []) (names := yap p) (vars := zrc p) (yvy hp) (by rw [yap, List.length_map]; omega) hs (fun x hx => ⟨hp.rules x hx, hp.rnames x hx, by have := yzl hc x hx; omega⟩) hp.rnod hp.rfew hq1 (by have := s1.length_le; omega) w1 (by decide)
 obtain rfl : q2 = [] := by cases q2 with | nil => rfl | cons t q => cases w2
 refine ybb tok Tryz.func28 rfl rfl Tryz.ntmps28 Tryz.results28 rfl (rd01_cl rfl) ?_
 show A _ _ _ _ (S _ _)
 refine zdf 1001 2 1010 1 rfl rfl rfl rfl rfl ?_
 refine zdf 1001 4 1011 6 rfl rfl rfl rfl rfl ?_
 (repeat (first | refine zy ?_ | refine qt 1001 (fun _ _ => ych (w := yrl) (h) (ybg e1) (by decide)) ?_ | refine qt 1001 (fun _ _ => name_X0 h.tail e2 hp.name) ?_ | refine qt 1001 (fun _ _ => ych (w := [59]) (h.tail.tail) (ybg e3) (by decide)) ?_ | refine yvm rfl rfl rfl ?_))
 (repeat (first | refine zo ?_ | refine yek [(1001, 1001), (1010, 1010), (1011, 1011)] (c1) rfl rfl rfl rfl rfl rfl rfl (yab rfl (yab rfl (yab rfl yai))) rfl rfl rfl rfl rfl rfl ?_))
 refine zt ?_
 refine ylc 1001 2 (yuv (zkf p.vars)) rfl rfl rfl (by simp [yuv, zkf]) (fun row hr => by obtain ⟨y, _, rfl⟩ := List.mem_map.1 hr; rfl) (ywp _) rfl rfl rfl rfl ?_
 refine ylc 1001 4 (zrc p) rfl rfl rfl (by simp [zrc]) (fun row hr => by obtain ⟨y, _, rfl⟩ := List.mem_map.1 hr; rfl) rfl rfl rfl rfl rfl ?_
 refine zdf 1001 5 1013 3 rfl rfl rfl rfl rfl ?_
 refine zdf 1001 6 1012 1 rfl rfl rfl rfl rfl ?_
 (repeat (first | refine zy ?_ | refine yvm rfl rfl rfl ?_))
 (repeat (first | refine zo ?_ | refine yek [(1001, 1001), (1012, 1012), (1013, 1013)] (c2) rfl rfl rfl rfl rfl rfl rfl (yab rfl (yab rfl (yab rfl yai))) rfl rfl rfl rfl rfl rfl ?_))
 refine zt ?_
 refine ylc 1001 6 (yuv (zip p.rules)) rfl rfl rfl (by simp [yuv, zip]) (fun row hr => by obtain ⟨y, _, rfl⟩ := List.mem_map.1 hr; rfl) (ywp _) rfl rfl rfl rfl ?_
 refine ylc 1001 5 (zsd p) rfl rfl rfl (by simp [zsd]) (fun row hr => by obtain ⟨y, _, rfl⟩ := List.mem_map.1 hr; rfl) rfl rfl rfl rfl rfl ?_
 (repeat (first | refine zy ?_ | refine qt 1001 (fun _ _ => done_X (ts := [])) ?_))
 exact ⟨_, rfl, yam _, yaj (yab rfl yai)⟩
theorem caps_all : ∀ i, i < 1000 → ment.mentL i [.lp 1001 0] = false := by
 intro i hi
 simp only [ment.mentL, ment, Bool.or_false]
 exact ygk (by omega)
theorem catm_all {s : ByteArray} {ts : List Tok} {p : ProgD} : CatMem 28 [.lp 1001 0] (zvc s ts) (zui s p) := by
 refine ⟨fun i hi => ?_, caps_all, fun i hi => ?_, fun i hi => ?_, fun id o ho => ?_⟩
 ·simp [ygb, zvc, zui] at hi
  omega
 ·exact yvw (ygk (by omega)) rfl rfl
 ·exact yvw (ygk (by omega)) rfl rfl
 ·simp only [zui, yaf] at ho
  split at ho
  ·cases ho; rfl
  ·cases ho
theorem tcheck_con (p : ProgD) (hin : yet p) (hl : yne p) : Con Tryz.prog 29 [zfo p] (i64 (ycn p)) :=
 yee ⟨_, Tryz.func29, rfl, rfl⟩ fun w us ok hok hr => by
  obtain ⟨u, rfl, h1⟩ := ynb hr
  exact zhp u p w (yoo h1 hok) hin hl
theorem zps (p : ProgD) : zfo p = .agg [ycj (ba (bl p.name)), .sl 6 (zrc p), .sl 3 (zsd p)] := by rw [ymx]; rfl
theorem ywi {s : ByteArray} {ts : List Tok} {p : ProgD} (hsc : yfr s = .ok ts) (hw : ts.map (pwT s) = yup p) (hc : ycn p = 0) (hin : yet p) (hl : yne p) : Con Tryz.prog 12 [ycj s] (.tup [zfo p, i64 0, i64 0]) := by
 have hsz := zjo hsc
 have hti := tokIn_scan hsc
 have htl := yux hsc
 have hsn := znr s (by omega)
 rw [yws, hsc] at hsn
 have hcat := catchm_ok (all_con (s := s) hc (by omega) hti (by omega) hw) catm_all
 have hck := tcheck_con p hin hl
 rw [hc, zps] at hck
 have hp := ykj hc
 have hv : p.vars ≠ [] := hp.some
 have hvl : 0 < p.vars.length := List.length_pos_iff.2 hv
 rw [zps]
 refine zpq tok Tryz.func12 rfl rfl Tryz.ntmps12 Tryz.results12 rfl rfl ?_
 (repeat (first | refine zy ?_ | refine yhu rfl rfl rfl rfl ?_ | refine yah rfl rfl hsn rfl rfl ?_ | refine yvm rfl rfl rfl ?_ | refine yek [(1001, 24)] hcat rfl rfl rfl rfl rfl rfl rfl (yab rfl yai) rfl rfl rfl rfl rfl rfl ?_))
 refine yag rfl (fun h9 => absurd h9 (by simp; omega)) (fun _ => ?_)
 (repeat (first | refine zy ?_ | refine yhu rfl rfl rfl rfl ?_ | refine yah rfl rfl hck rfl rfl ?_))
 refine yal ?_; refine ⟨_, rfl, ?_⟩
 exact Frz.pure
end
set_option maxHeartbeats 4000000
section
open Go.RowKit
def zro : List Bool → Nat
 | [] => 0
 | true :: l => zro l
 | false :: l => zro l + 1
theorem zkp : ∀ {l : List Bool} {i : Nat}, l[i]? = some false → zro (l.set i true) + 1 = zro l
 | [], i, h => by simp at h
 | b :: l, 0, h => by
  simp only [List.getElem?_cons_zero, Option.some.injEq] at h
  subst h; rfl
 | true :: l, i + 1, h => by
  simp only [List.getElem?_cons_succ] at h
  exact zkp (l := l) h
 | false :: l, i + 1, h => by
  simp only [List.getElem?_cons_succ] at h
  have := zkp (l := l) h
  simp only [List.set_cons_succ, zro]; omega
theorem zmb : ∀ {l : List Bool}, zro l = 0 → ∀ {i : Nat} {b : Bool}, l[i]? = some b → b = true
 | [], _, i, b, hi => by simp at hi
 | true :: l, h, 0, b, hi => by simpa using hi.symm
 | true :: l, h, i + 1, b, hi => zmb (l := l) h (by simpa using hi)
 | false :: l, h, i, b, hi => by simp [zro] at h
theorem cnt_rep (n : Nat) : zro (List.replicate n false) = n := by
 induction n with
 | zero => rfl
 | succ n ih => rw [List.replicate_succ, zro, ih]
section
variable {P : Program} {N : Nat} {ops : Array Oper} {lf : Oper → Bool} {Q : SS → Prop}
theorem zlt {n : Nat} (hn : ops.size = n) {I : (Nat → Bool) → SS → Prop} (hback : ∀ (k : Nat) (o : Oper), ops[k]? = some o → ∀ e ∈ o.after, Region.binds .any e = true → e.on < k)
  (fin : ∀ L s, I L s → (∀ i, i < n → L i = true) → Q s)
  (step : ∀ (L : Nat → Bool) (s : SS) (i : Nat) (o : Oper), ops[i]? = some o → L i = false → (∀ e ∈ o.after, Region.binds .any e = true → L e.on = true) → I L s → aOp P N ops lf i (I fun k => if k = i then true else L k) s) :
  ∀ (fuel : Nat) (listed : Array Bool) (s : SS), zro listed.toList = fuel → listed.size = n → I (fun k => listed.getD k false) s → zph P N ops lf Q fuel listed s
 | 0, listed, s, hc, hs, hI => by
  have hall : ∀ i, i < n → listed[i]? = some true := fun i hi => by
   have h1 : listed[i]? = some (listed[i]'(by omega)) := Array.getElem?_eq_getElem (by omega)
   rw [h1, zmb hc (i := i) (b := listed[i]'(by omega)) (by simp)]
  refine ⟨List.eq_nil_iff_forall_not_mem.2 fun i hi => ?_, fin _ s hI fun i hi => by simp [Array.getD_eq_getD_getElem?, hall i hi]⟩
  obtain ⟨h1, o, ho, _⟩ := mem_ready.1 hi
  have hlt := (Array.getElem?_eq_some_iff.1 ho).1
  rw [Array.getD_eq_getD_getElem?, hall i (by omega)] at h1
  cases h1
 | fuel + 1, listed, s, hc, hs, hI => by
  have hget : ∀ i, i < n → listed[i]? = some (listed.getD i false) := fun i hi => by
   rw [Array.getD_eq_getD_getElem?, Array.getElem?_eq_getElem (show i < listed.size by omega)]; rfl
  refine ⟨fun h0 => fin _ s hI ?_, fun i hi => ?_⟩
  ·intro i
   induction i using Nat.strongRecOn with
   | _ i ih =>
    intro hi
    cases hb : listed.getD i false with
    | true => rfl
    | false =>
     have ho : ops[i]? = some (ops[i]'(by omega)) := Array.getElem?_eq_getElem (by omega)
     have : i ∈ Region.ready .any ops listed := mem_ready.2 ⟨by rw [Array.getD_eq_getD_getElem?, hget i hi, hb]; rfl, _, ho, fun e he hbd => by
      have h1 := hback i _ ho e he hbd
      exact ih e.on h1 (by omega)⟩
     rw [h0] at this
     cases this
  ·obtain ⟨h1, o, ho, h2⟩ := mem_ready.1 hi
   have hlt := (Array.getElem?_eq_some_iff.1 ho).1
   have hf : listed[i]? = some false := by
    rw [hget i (by omega)]
    rw [Array.getD_eq_getD_getElem?, hget i (by omega)] at h1
    simpa using h1
   refine zfe (fun s' hI' => zlt hn hback fin step fuel _ s' ?_ (by simpa using hs) ?_) (step _ s i o ho (by rw [Array.getD_eq_getD_getElem?, hf]; rfl) h2 hI)
   ·have := zkp (l := listed.toList) (i := i) (by simpa using hf)
    rw [Array.toList_setIfInBounds]
    omega
   ·have e : (fun k => (listed.setIfInBounds i true).getD k false) = fun k => if k = i then true else listed.getD k false := by
     funext k
     rw [Array.getD_eq_getD_getElem?, Array.getElem?_setIfInBounds]
     by_cases hk : i = k
     ·subst hk
      rw [if_pos rfl, if_pos (by omega), if_pos rfl]; rfl
     ·rw [if_neg hk, if_neg (fun h => hk h.symm), Array.getD_eq_getD_getElem?]
    rw [e]
    exact hI'
structure TwoI (vals : List (Nat × Nat × AV)) (base : List (Nat × AV)) (mem : List (Nat × LObj)) (a b ia ib ja jb : Nat) (za zb ca cb : LObj) (L : Nat → Bool) (s : SS) : Prop where
 calm : ∀ x ∈ vals, L x.1 = true → s.t x.2.1 = some x.2.2
 base : ∀ x ∈ base, s.t x.1 = some x.2
 mem : ∀ x ∈ mem, s.h x.1 = some x.2
 fa : L ia = false → ylx s a
 fb : L ib = false → ylx s b
 ta : L ia = true → s.t a = some (.lp a 0)
 tb : L ib = true → s.t b = some (.lp b 0)
 ha : L ia = true → s.h a = some (if L ja then ca else za)
 hb : L ib = true → s.h b = some (if L jb then cb else zb)
 oa : L ja = true → L ia = true
 ob : L jb = true → L ib = true
variable {vals : List (Nat × Nat × AV)} {base : List (Nat × AV)} {mem : List (Nat × LObj)} {a b ia ib ja jb : Nat} {za zb ca cb : LObj} {L : Nat → Bool} {s : SS}
theorem zar {d id : Nat} {r : AV} (h : ylx s id) (hr : ment id r = false) : ylx ⟨yhi s.t (some d) r, s.h⟩ id := by
 refine ⟨h.1, fun x y hx => ?_, h.2.2⟩
 simp only [yhi] at hx
 split at hx
 ·simp only [Option.some.injEq] at hx; subst hx; exact hr
 ·exact h.2.1 x y hx
theorem fresh_new {d id j : Nat} {r : AV} {ob : LObj} (h : ylx s id) (hr : ment id r = false) (hne : id ≠ j) (hm : ygr id ob = false) : ylx ⟨yhi s.t (some d) r, ydf s.h j (some ob)⟩ id := by
 obtain ⟨h1, h2, h3⟩ := zar (d := d) h hr
 refine ⟨by simp only [ydf]; rw [if_neg hne]; exact h1, h2, fun k o hk => ?_⟩
 simp only [ydf] at hk
 split at hk
 ·cases hk; exact hm
 ·exact h3 k o hk
theorem fresh_mem {id j : Nat} {ob : LObj} (h : ylx s id) (hne : id ≠ j) (hm : ygr id ob = false) : ylx ⟨s.t, ydf s.h j (some ob)⟩ id := by
 refine ⟨by simp only [ydf]; rw [if_neg hne]; exact h.1, h.2.1, fun k o hk => ?_⟩
 simp only [ydf] at hk
 split at hk
 ·cases hk; exact hm
 ·exact h.2.2 k o hk
theorem TwoI.read (h : TwoI vals base mem a b ia ib ja jb za zb ca cb L s) {i d : Nat} {r : AV} (hx : ∀ x ∈ vals, (x.1 = i → x.2 = (d, r)) ∧ (x.1 ≠ i → x.2.1 ≠ d)) (hb : ∀ x ∈ base, x.1 ≠ d) (hd : d ≠ a ∧ d ≠ b) (hi : i ≠ ia ∧ i ≠ ib ∧ i ≠ ja ∧ i ≠ jb) (hm : ment a r = false ∧ ment b r = false) :
  TwoI vals base mem a b ia ib ja jb za zb ca cb (fun k => if k = i then true else L k) ⟨yhi s.t (some d) r, s.h⟩ := by
 have hl : ∀ j, i ≠ j → (if j = i then true else L j) = L j := fun j hj => if_neg fun e => hj e.symm
 refine ⟨fun x hxm hL => ?_, fun x hxm => ?_, h.mem, fun hL => ?_, fun hL => ?_, fun hL => ?_, fun hL => ?_, fun hL => ?_, fun hL => ?_, fun hL => ?_, fun hL => ?_⟩
 ·obtain ⟨h1, h2⟩ := hx x hxm
  simp only [yhi]
  by_cases e : x.1 = i
  ·rw [h1 e, if_pos rfl]
  ·rw [if_neg (h2 e)]
   exact h.calm x hxm (by simpa [e] using hL)
 ·simp only [yhi]; rw [if_neg (hb x hxm)]; exact h.base x hxm
 ·rw [hl _ hi.1] at hL; exact zar (h.fa hL) hm.1
 ·rw [hl _ hi.2.1] at hL; exact zar (h.fb hL) hm.2
 ·rw [hl _ hi.1] at hL; simp only [yhi]; rw [if_neg (Ne.symm hd.1)]; exact h.ta hL
 ·rw [hl _ hi.2.1] at hL; simp only [yhi]; rw [if_neg (Ne.symm hd.2)]; exact h.tb hL
 ·rw [hl _ hi.1] at hL; rw [hl _ hi.2.2.1]; exact h.ha hL
 ·rw [hl _ hi.2.1] at hL; rw [hl _ hi.2.2.2]; exact h.hb hL
 ·rw [hl _ hi.2.2.1] at hL; rw [hl _ hi.1]; exact h.oa hL
 ·rw [hl _ hi.2.2.2] at hL; rw [hl _ hi.2.1]; exact h.ob hL
theorem TwoI.newA (h : TwoI vals base mem a b ia ib ja jb za zb ca cb L s) (hL : L ia = false) (hx : ∀ x ∈ vals, x.1 ≠ ia ∧ x.2.1 ≠ a) (hb : ∀ x ∈ base, x.1 ≠ a) (hmm : ∀ x ∈ mem, x.1 ≠ a) (hab : a ≠ b) (hi : ia ≠ ib ∧ ia ≠ ja ∧ ia ≠ jb) (hm : ygr b za = false) :
  TwoI vals base mem a b ia ib ja jb za zb ca cb (fun k => if k = ia then true else L k) ⟨yhi s.t (some a) (.lp a 0), ydf s.h a (some za)⟩ := by
 have hl : ∀ j, ia ≠ j → (if j = ia then true else L j) = L j := fun j hj => if_neg fun e => hj e.symm
 have hj : L ja = false := by
  cases hb : L ja with
  | false => rfl
  | true => rw [h.oa hb] at hL; cases hL
 refine ⟨fun x hxm h1 => ?_, fun x hxm => ?_, fun x hxm => ?_, fun h1 => ?_, fun h1 => ?_, fun _ => ?_, fun h1 => ?_, fun _ => ?_, fun h1 => ?_, fun _ => ?_, fun h1 => ?_⟩
 ·simp only [yhi]; rw [if_neg (hx x hxm).2]
  exact h.calm x hxm (by simpa [(hx x hxm).1] using h1)
 ·simp only [yhi]; rw [if_neg (hb x hxm)]; exact h.base x hxm
 ·simp only [ydf]; rw [if_neg (hmm x hxm)]; exact h.mem x hxm
 ·simp at h1
 ·rw [hl _ hi.1] at h1; exact fresh_new (h.fb h1) (ygk hab) (Ne.symm hab) hm
 ·simp [yhi]
 ·rw [hl _ hi.1] at h1; simp only [yhi]; rw [if_neg (Ne.symm hab)]; exact h.tb h1
 ·rw [hl _ hi.2.1, hj]; simp [ydf]
 ·rw [hl _ hi.1] at h1; rw [hl _ hi.2.2]; simp only [ydf]; rw [if_neg (Ne.symm hab)]; exact h.hb h1
 ·simp
 ·rw [hl _ hi.2.2] at h1; rw [hl _ hi.1]; exact h.ob h1
theorem TwoI.swap (h : TwoI vals base mem a b ia ib ja jb za zb ca cb L s) : TwoI vals base mem b a ib ia jb ja zb za cb ca L s := ⟨h.calm, h.base, h.mem, h.fb, h.fa, h.tb, h.ta, h.hb, h.ha, h.ob, h.oa⟩
theorem TwoI.putA (h : TwoI vals base mem a b ia ib ja jb za zb ca cb L s) (hx : ∀ x ∈ vals, x.1 ≠ ja) (hmm : ∀ x ∈ mem, x.1 ≠ a) (hab : a ≠ b) (hi : ja ≠ ia ∧ ja ≠ ib ∧ ja ≠ jb) (hLa : L ia = true) (hm : ygr b ca = false) :
  TwoI vals base mem a b ia ib ja jb za zb ca cb (fun k => if k = ja then true else L k) ⟨s.t, ydf s.h a (some ca)⟩ := by
 have hl : ∀ j, ja ≠ j → (if j = ja then true else L j) = L j := fun j hj => if_neg fun e => hj e.symm
 refine ⟨fun x hxm h1 => ?_, h.base, fun x hxm => ?_, fun h1 => ?_, fun h1 => ?_, fun h1 => ?_, fun h1 => ?_, fun h1 => ?_, fun h1 => ?_, fun h1 => ?_, fun h1 => ?_⟩
 ·exact h.calm x hxm (by simpa [hx x hxm] using h1)
 ·simp only [ydf]; rw [if_neg (hmm x hxm)]; exact h.mem x hxm
 ·rw [hl _ hi.1, hLa] at h1; cases h1
 ·rw [hl _ hi.2.1] at h1; exact fresh_mem (h.fb h1) (Ne.symm hab) hm
 ·exact h.ta hLa
 ·rw [hl _ hi.2.1] at h1; exact h.tb h1
 ·simp [ydf]
 ·rw [hl _ hi.2.1] at h1; rw [hl _ hi.2.2]; simp only [ydf]; rw [if_neg (Ne.symm hab)]; exact h.hb h1
 ·rw [hl _ hi.1]; exact hLa
 ·rw [hl _ hi.2.2] at h1; rw [hl _ hi.2.1]; exact h.ob h1
theorem ygy {n : Nat} {v : AV} (h : s.t n = some v) (hn : Nat.ble 1000000 n = false) : evF s.t (.tmp n) = some v := by
 simp only [evF, hn]; exact h
theorem yjo {K : SS → Prop} {i : Nat} {o : Oper} {r : AV} (ho : ops[i]? = some o) (hd : ytk N o) (hg : o.guard = none) (hy : ydl P s.h (evF s.t) o.op o.type r) (k : K ⟨yhi s.t o.dst r, s.h⟩) : aOp P N ops lf i K s := by
 unfold aOp
 simp only [ho]
 refine ⟨hd, .inl ⟨r, .inl ⟨?_, hy⟩, k⟩⟩
 unfold yan
 rw [hg]
theorem yyp {K : SS → Prop} {i : Nat} {o : Oper} {s' : SS} (ho : ops[i]? = some o) (hd : ytk N o) (hg : o.guard = none) (hl : lf o = true) (hy : yif P N o s (· = s')) (k : K s') : aOp P N ops lf i K s := by
 unfold aOp
 simp only [ho]
 refine ⟨hd, .inr ⟨hl, ?_, _, hy, fun s2 e => e ▸ k⟩⟩
 unfold yan
 rw [hg]
def zhk : Nat → List Oper → Bool
 | _, [] => true
 | k, o :: l => (o.after.toList.all fun e => !(Region.binds .any e) || Nat.blt e.on k) && zhk (k + 1) l
theorem yzz : ∀ {l : List Oper} {j : Nat}, zhk j l = true → ∀ (k : Nat) (o : Oper), l[k]? = some o → ∀ e ∈ o.after, Region.binds .any e = true → e.on < j + k
 | [], j, _, k, o, ho, _, _, _ => by simp at ho
 | o1 :: l, j, h, 0, o, ho, e, he, hb => by
  simp only [List.getElem?_cons_zero, Option.some.injEq] at ho
  subst ho
  simp only [zhk, Bool.and_eq_true, List.all_eq_true] at h
  have := h.1 e (by simpa using he)
  simpa [hb] using this
 | o1 :: l, j, h, k + 1, o, ho, e, he, hb => by
  simp only [List.getElem?_cons_succ] at ho
  simp only [zhk, Bool.and_eq_true] at h
  have := yzz h.2 k o ho e he hb
  omega
theorem yF {T : Nat → Option Ty} {h : Nat → Option LObj} {ρ : Operand → Option AV} {ty : TypeId} (hT : TOK P T) {ti i o sz s0 : Nat} {ag ag0 : Bool} {z : List Value} {fs : List (Nat × Nat × Bool)} {x : Operand} {id off : Nat} {xs : List AV} (hk : T ti = some ⟨.strct fs, s0, ag0, z⟩) (hf : fs[i]? = some (o, sz, ag)) (hx : ρ x = some (.lp id off)) (hh : h id = some (.cells xs)) : ydl P h ρ (.fieldAddr ti x i) ty (.lp id (off + o)) :=
 yrx (hT _ _ hk).2.2 hf hx (by rw [hh]; rfl) (.inr hh)
theorem yL {T : Nat → Option Ty} {h : Nat → Option LObj} {ρ : Operand → Option AV} {ty : TypeId} {r : AV} (hT : TOK P T) {ti : Nat} {y : Ty} {x : Operand} {id off : Nat} {xs : List AV} (hk : T ti = some y) (hx : ρ x = some (.lp id off)) (hh : h id = some (.cells xs)) (hr : zkv y.agg y.size (xs.drop off) = some r) : ydl P h ρ (.load ti x) ty r :=
 you (hT _ _ hk).1 hx (by rw [hh]; rfl) (.inr hh) hr
theorem yD {T : Nat → Option Ty} {h : Nat → Option LObj} {ρ : Operand → Option AV} {ty : TypeId} {r : AV} (hT : TOK P T) {ti : Nat} {y : Ty} {x : Operand} {row : List AV} {off : Nat} (hk : T ti = some y) (hx : ρ x = some (.dp row off)) (hr : zkv y.agg y.size (row.drop off) = some r) (hp : ybc r = true) : ydl P h ρ (.load ti x) ty r :=
 yvh (hT _ _ hk).1 hx hr hp
theorem yX {T : Nat → Option Ty} {h : Nat → Option LObj} {ρ : Operand → Option AV} {ty : TypeId} (hT : TOK P T) {ti e es eb s0 : Nat} {ea ag0 : Bool} {ez z : List Value} {x y : Operand} {k : IntKind} {i : Int} {rows : List (List AV)} {row : List AV} (hk : T ti = some ⟨.slc e es ea eb ez, s0, ag0, z⟩) (hx : ρ x = some (.sl es rows)) (hy : ρ y = some (.v (.int k i))) (h0 : 0 ≤ i) (hrow : rows[i.toNat]? = some row) : ydl P h ρ (.indexAddr ti x y) ty (.dp row 0) :=
 yry (hT _ _ hk).2.2 hx hy h0 hrow
theorem sS {T : Nat → Option Ty} (hT : TOK P T) {o : Oper} {ti : Nat} {yt : Ty} {x y : Operand} {id off : Nat} {xs ys cs : List AV} {v : AV} (ho : o.op = .store ti x y) (hd : o.dst = none) (hk : T ti = some yt) (hx : evF s.t x = some (.lp id off)) (hy : evF s.t y = some v) (hcs : yft v = some cs) (hcl : cs.length = yt.size) (hob : s.h id = some (.cells xs)) (hle : off + cs.length ≤ xs.length) (he : xs.take off ++ cs ++ xs.drop (off + cs.length) = ys) : yif P N o s (· = ⟨s.t, ydf s.h id (some (.cells ys))⟩) := by
 subst he
 exact yri ho hd (hT _ _ hk).1 hx hy hcs hcl hob (.cells hle)
theorem zmw : ∀ {t : List (Nat × AV)} {x : Nat} {y : AV}, look t x = some y → (x, y) ∈ t
 | [], x, y, h => by simp [look] at h
 | (a, b) :: t, x, y, h => by
  simp only [look] at h
  cases hb : Nat.beq x a with
  | true =>
   rw [hb] at h
   simp only [Option.some.injEq] at h
   subst h
   rw [Nat.eq_of_beq_eq_true hb]; simp
  | false => rw [hb] at h; exact List.mem_cons_of_mem _ (zmw h)
theorem zdv : ∀ {h : List (Nat × Option LObj)} {x : Nat} {y : LObj}, yaf h x = some y → (x, some y) ∈ h
 | [], x, y, h => by simp [yaf] at h
 | (a, b) :: t, x, y, h => by
  simp only [yaf] at h
  cases hb : Nat.beq x a with
  | true =>
   rw [hb] at h
   simp only at h
   subst h
   rw [Nat.eq_of_beq_eq_true hb]; simp
  | false => rw [hb] at h; exact List.mem_cons_of_mem _ (zdv h)
theorem sub_of {t : List (Nat × AV)} {h : List (Nat × Option LObj)} (ht : ∀ x ∈ t, s.t x.1 = some x.2) (hh : ∀ x ∈ h, ∀ o, x.2 = some o → s.h x.1 = some o) : Sub (S t h) s :=
 ⟨fun x y hx => ht _ (zmw hx), fun x y hx => hh _ (zdv hx) _ rfl⟩
theorem A_region_two {Q : Exit → SS → Prop} {s0 : SS} (vals : List (Nat × Nat × AV)) (base : List (Nat × AV)) (mem : List (Nat × LObj)) (a b ia ib ja jb : Nat) (za zb ca cb : LObj) (hmx : P.follows .mixedOrders = true) {id : Nat} {l : List Oper} (hD : ytw N l = true)
  (hback : zhk 0 l = true)
  (h0 : TwoI vals base mem a b ia ib ja jb za zb ca cb (fun _ => false) s0)
  (step : ∀ (L : Nat → Bool) (s : SS) (i : Nat) (o : Oper), l[i]? = some o → L i = false → (∀ e ∈ o.after, Region.binds .any e = true → L e.on = true) → TwoI vals base mem a b ia ib ja jb za zb ca cb L s → ytk N o → aOp P N l.toArray lf i (TwoI vals base mem a b ia ib ja jb za zb ca cb fun k => if k = i then true else L k) s)
  (k : ∀ L s, TwoI vals base mem a b ia ib ja jb za zb ca cb L s → (∀ i, i < l.length → L i = true) → Q .normal s) : A P N (.region id l.toArray true) Q s0 := by
 refine ycx (lf := lf) hmx hD fun hDst hcl => ?_
 refine zlt (n := l.length) (by simp) (fun k o ho e he hb => by have := yzz hback k o (by simpa using ho) e he hb; omega) k (fun L s i o ho hL hd hI => step L s i o (by simpa using ho) hL hd hI (hDst i o ho)) _ _ _ ?_ (by simp) ?_
 ·rw [Array.toList_replicate, cnt_rep]
 ·have e : (fun k => (Array.replicate l.length false).getD k false) = fun _ => false := by
   funext k
   rw [Array.getD_eq_getD_getElem?, Array.getElem?_replicate]
   split <;> rfl
  rw [e]
  exact h0
end
end
section
open Go.RowKit
theorem zjy {w : World} {lv : Live} {v : Value} {l : List Tm} (h : yei w v l) : Rel (okW w) w lv (ybk l) v :=
 zjb (g := fun t : Tm => [.int .i64 t.1, .int .i64 t.2]) (fun _ => rfl) (fun x u hu => by simp at hu; rcases hu with rfl | rfl <;> rfl) h
theorem vars_rel {w : World} {lv : Live} {v : Value} {l : List VarD} (h : yxf w v l) : Rel (okW w) w lv (.sl 6 (l.map yil)) v :=
 zjb (g := ymt) (fun _ => rfl) (fun x u hu => by simp [ymt] at hu; rcases hu with rfl | rfl | rfl | rfl | rfl | rfl <;> rfl) h
theorem yra {w : World} {lv : Live} {v : Value} {p : ProgD} (h : ygi w v p) : Rel (okW w) w lv (zfo p) v := by
 obtain ⟨vv, rv, rfl, h1, h2⟩ := h
 have h3 : yck (okW w) w lv [ycj p.name, .sl 6 (p.vars.map yil), .sl 3 (p.rules.map ybl)] [.string p.name, vv, rv] := by
  refine yct (.v _) (yct (vars_rel h1) (yct ?_ ygs))
  refine yrc h2 (fun _ => rfl) (fun x c hc => by simp [ybl] at hc; rcases hc with rfl | rfl | rfl <;> rfl) fun x _ cs hc => ?_
  obtain ⟨gv, sv, rfl, q1, q2⟩ := hc
  refine yct (.v _) (yct (zjy q1) (yct ?_ ygs))
  refine yrc q2 (fun _ => rfl) (fun x c hc => by simp [ylj] at hc; rcases hc with rfl | rfl <;> rfl) fun x _ cs hc => ?_
  obtain ⟨tv, rfl, r1⟩ := hc
  exact yct (.v _) (yct (zjy r1) ygs)
 exact .agg _ h3.1 (fun c hc => by simp at hc; rcases hc with rfl | rfl | rfl <;> rfl) h3.2
end
section
open Go.RowKit
def lits1 (l : List (DataW Unit)) : List Value := l.flatMap fun | .lit (.int k z) => [.int k z] | _ => []
def zua : DataW Unit → List Value
 | .agg l => l.flatMap fun | .lit (.int k z) => [.int k z] | .agg m => lits1 m | _ => []
 | _ => []
def ztz (vs : List Value) : Obj → Obj
 | .cells _ t frozen => .cells vs.toArray t frozen
 | o => o
noncomputable def yeo (os : Os) : World :=
 { World.holding Tryz.prog os ⟨#[], #[], []⟩ with heap := (((World.holding Tryz.prog os ⟨#[], #[], []⟩).heap.modify 2 (ztz (zua Rows.laid_math_bits_deBruijn32tab))).modify 3 (ztz (zua Rows.laid_math_bits_deBruijn64tab))).modify 0 (ztz (zua Rows.laid_internal_strconv_uint64pow10)) }
theorem zas {laid : List (String × DataW Unit)} {W : World} (hl : (laid.filter fun x => x.1 == "internal/strconv.uint64pow10") = [("internal/strconv.uint64pow10", Rows.laid_internal_strconv_uint64pow10)]) (hs : W.ShapedOpen Tryz.prog) (h : laidMetH Tryz.prog laid W) : zcw W := by
 have h2 := laidMetH.filter (fun x => x.1 == "internal/strconv.uint64pow10") h
 rw [hl] at h2
 have h3 : laidMet Tryz.prog [("internal/strconv.uint64pow10", Lib.tabData .u64 Lib.pow10Tab)] W := h2
 exact Lib.tabIs_of_head (t := 155) (e := 142) (n := 20) zqa (by kernel_rfl) Tryz.underlying155 Tryz.underlying142 (by kernel_rfl) (by kernel_rfl) h3
end
end Go.Proofs.YtefiainojfeagaaGreatDoor
