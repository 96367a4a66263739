/- Part 8 of the texts under ExprFormats,ExprBracketsEverything: joined, with what it needs alone. -/
import Derived.RangeFuncNested
import Derived.RangeFuncSeq
import Derived.Test.YtcpgpiabeimefaaGreatDoorR6
import Derived.Test.YtcpgpiabeimefaaGreatDoorR7
set_option linter.unusedVariables false
set_option maxHeartbeats 4000000
namespace Go.Proofs.YtcpgpiabeimefaaGreatDoor
open Go.RowKit
def yjk (P : Program) (N : Nat) (o : Oper) (s : SS) (D : List PanicEntry → SS → Prop) : Prop :=
  ∀ (B : Bse) (ok0 : Nat → Prop) (lv : Live) (a : Act) (w : World), Sim B ok0 N s lv a w → ∀ (K : Act → World → Prop) (Q : Exit → Act → World → Prop), (∀ ch a' w', (∃ s' lv', D ch s' ∧ Sim B ok0 N s' lv' a' w') → Q (.panic ch) a' w') → o.wp P a w K Q
variable {P : Program} {N : Nat}
theorem lex_opsK {ops : Array Oper} {lf : Oper → Bool} {Q : SS → Prop} {B : Bse} {ok0 : Nat → Prop} {Q' : Exit → Act → World → Prop} {n : Nat} {rest : List Nat} (hQ : ∀ s lv a w, Q s → Sim B ok0 N s lv a w → wpOpsIn (FW B.rd) n P ops Q' rest a w) {l : List Oper} {s : SS} (hnd : ∀ (i : Nat) (o : Oper), ops[i]? = some o → isDefer o.op = false)
    (h : Lex P N ops lf Q l s) : ∀ (k : Nat), (∀ (j : Nat) (o : Oper), l[j]? = some o → ops[k + j]? = some o) → ∀ (lv : Live) (a : Act) (w : World), Sim B ok0 N s lv a w → wpOpsIn (FW B.rd) n P ops Q' (List.range' k l.length ++ rest) a w := by
  induction h with
  | nil h => intro k hl lv a w hs; exact hQ _ lv a w h hs
  | @calm o l s r hw hd hy k ih =>
    intro k hl lv a w hs
    have h0 : ops[k]? = some o := by simpa using hl 0 o rfl
    simp only [List.length_cons, List.range'_succ, List.cons_append, wpOpsIn, h0, hs.wanted hw, if_true]
    exact yhh (hnd k o h0) (yield_wp hs hd hy Q' fun a' w' hs' => ih (k + 1) (fun j o' ho' => by have := hl (j + 1) o' (by simpa using ho'); rwa [show k + (j + 1) = k + 1 + j by omega] at this) lv a' w' hs')
  | @skip o l s hw hd k ih =>
    intro k hl lv a w hs
    have h0 : ops[k]? = some o := by simpa using hl 0 o rfl
    simp only [List.length_cons, List.range'_succ, List.cons_append, wpOpsIn, h0, hs.wanted hw, Bool.false_eq_true, if_false]
    exact ⟨fun _ _ => trivial, ih (k + 1) (fun j o' ho' => by have := hl (j + 1) o' (by simpa using ho'); rwa [show k + (j + 1) = k + 1 + j by omega] at this) lv _ w (hs.put hd hs.inv (Below.refl _ _) (.v _))⟩
  | @loud o l s R hl' hw hy k ih =>
    intro k hl lv a w hs
    have h0 : ops[k]? = some o := by simpa using hl 0 o rfl
    simp only [List.length_cons, List.range'_succ, List.cons_append, wpOpsIn, h0, hs.wanted hw, if_true]
    refine yhh (hnd k o h0) (Oper.wp_mono (fun a' w' ⟨s', lv', hR, hs'⟩ => ?_) (hy B ok0 lv a w hs Q'))
    exact ih s' hR (k + 1) (fun j o' ho' => by have := hl (j + 1) o' (by simpa using ho'); rwa [show k + (j + 1) = k + 1 + j by omega] at this) lv' a' w' hs'
  | @split l s d b hb k ih =>
    intro k hl lv a w hs
    refine ih b rfl k hl lv a w ?_
    rw [yfw hb]
    exact hs
theorem yav {Q : Exit → SS → Prop} {s : SS} {lf : Oper → Bool} {id : Nat} {l : List Oper} (k : Nat) {o : Oper} {l1 : List Oper} (hnd : yex l = true) (hk : l[k]? = some o) (h1 : l.take k = l1) (h : Lex P N l.toArray lf (fun s1 => yaz l.toArray s1.t o = some true ∧ yjk P N o s1 fun ch s' => Q (.panic ch) s') l1 s) : A P N (.region id l.toArray false) Q s := by
  intro B ok0 lv a w hs
  have hlt := (List.getElem?_eq_some_iff.1 hk).1
  have hlen : l1.length = k := by rw [← h1, List.length_take]; omega
  refine wpIn_region ?_
  have hsp : List.range l.toArray.size = List.range' 0 l1.length ++ (k :: List.range' (k + 1) (l.length - k - 1)) := by
    rw [List.size_toArray, List.range_eq_range', hlen]
    have e : l.length = k + ((l.length - k - 1) + 1) := by omega
    conv => lhs; rw [e]
    rw [← List.range'_append_1, Nat.zero_add, List.range'_succ]
  rw [hsp]
  refine lex_opsK (fun s1 lv1 a1 w1 hq hs1 => ?_) (noDefer_get hnd) h 0 (fun j o' ho' => ?_) lv a w hs
  · have h0 : l.toArray[k]? = some o := by simpa using hk
    simp only [wpOpsIn, h0, hs1.wanted hq.1, if_true]
    exact yhh (noDefer_get hnd k o h0) (hq.2 B ok0 lv1 a1 w1 hs1 _ _ fun ch a' w' hh => hh)
  · rw [← h1, List.getElem?_take] at ho'
    split at ho'
    · rw [Nat.zero_add]; simpa using ho'
    · cases ho'
def ykn (P : Program) (f : FuncId) (args : List AV) (hs : Nat → Option LObj) (ch : List PanicEntry) : Prop :=
  HasBody P f ∧ ∀ (ok0 : Nat → Prop) (lv : Live) (w : World) (us : List Value), Inv (ydp w lv) ok0 hs lv w → ybr (ybi (ydp w lv) ok0 lv w) w lv args us →
    Calls P f us.toArray w fun e w' => e = .panicked ch ∧ ∃ lv', Inv (ydp w lv) ok0 (fun _ => none) lv' w'
def EndsP (ch : List PanicEntry) : Exit → SS → Prop
  | .panic c, _ => c = ch
  | _, _ => False
theorem leaves_marksP {P : Program} {fn : Func} {R : Ending → World → Prop} {B : Bse} {ok0 : Nat → Prop} {N : Nat} {s : SS} {lv : Live} (hB : B.dl = []) {n : Nat} {fr : FrameMode} {ch : List PanicEntry} (hfr : fr = .panicking ch) {tm : Array Value}
    (fin : ∀ (a : Act) (w : World), Sim B ok0 N s lv a w → LeavesIn Fence.wide n P fn tm R [] fr w) : ∀ (ms : List Deferred) (a : Act) (w : World), a.defers = ms → Sim B ok0 N s lv a w → LeavesInM Fence.wide n P fn tm R a.defers fr w
  | [], a, w, hm, hs => by rw [hm]; exact fin a w hs
  | d :: ms, a, w, hm, hs => by
    obtain ⟨ms', h1, hn, h2⟩ := hs.defers
    rw [hB, List.append_nil, hm] at h1
    subst h1
    obtain ⟨D, hd, hD, hge⟩ := h2 d (by simp)
    rw [hm]
    refine ⟨by rw [hfr]; simp, .inl ⟨D, _, by rw [hd], run_takeDeferred hD, ?_⟩⟩
    simp only [List.nodup_cons] at hn
    have hsh := Shut.put hD
    have hs' := hs.shut hsh (fun k hk => World.putObj_heap_other (by omega)) (l := ms) ⟨ms, by rw [hB, List.append_nil], hn.2, fun d' hd' => by
      obtain ⟨D', e1, e2, e3⟩ := h2 d' (by simp [hd'])
      refine ⟨D', e1, (World.putObj_heap_other fun e => ?_).trans e2, e3⟩
      subst e
      exact hn.1 (by rw [hd, ← e1]; exact hd')⟩
    exact leaves_marksP hB hfr fin ms { a with defers := ms } _ rfl hs'
theorem conP_of {P : Program} {f : FuncId} {fn : Func} {c : Code} {N : Nat} {args : List AV} {hs : Nat → Option LObj} {ch : List PanicEntry} (hf : P.funcs[f]? = some fn) (hn : (fn.name == "runtime.NumGoroutine") = false) (hb : fn.body = some c) (hN : fn.ntmps = N) (hlen : (Nat.ble args.length N && Nat.ble N 1000000) = true)
    (h : A P N c (EndsP ch) ⟨ybb (yfd 0 args), hs⟩) : ykn P f args hs ch := by
  refine ⟨⟨fn, hf, hn, by simp [hb]⟩, fun ok0 lv w us hi hus => ?_⟩
  simp only [Bool.and_eq_true, Nat.ble_eq] at hlen
  obtain ⟨hlen', hbig⟩ := hlen
  refine (callsIn_wide (n := 0)).1 (callsIn_of_wp_marks hf hb trivial ?_)
  have hsim : Sim ⟨w, yhl lv, fun id => (lv id).bind (·.1), none, [], fun _ => undef⟩ ok0 N ⟨ybb (yfd 0 args), hs⟩ lv { tmps := us.toArray ++ Array.replicate (fn.ntmps - us.toArray.size) undef, defers := [] } w := by
    refine ⟨hi.pinned _ _ _ _ (fun l h => by cases h), ?_, fun x y hy => ?_, ⟨[], rfl, List.nodup_nil, fun d hd => by cases hd⟩, hbig, fun id b o hN hx hc hb => ?_⟩
    · simp [hN, hus.1]; omega
    · simp only [enumF_args] at hy
      have hlt := (List.getElem?_eq_some_iff.1 hy).1
      refine ⟨.inl (by omega), ?_⟩
      rw [yev, if_pos (by omega)]
      obtain ⟨u, hu⟩ : ∃ u, us[x]? = some u := ⟨_, List.getElem?_eq_getElem (by rw [hus.1]; exact hlt)⟩
      simp only [getD_args us _ x u hu]
      exact hus.2 x y u hy hu
    · simp only at hb
      cases hl : lv id with
      | none => simp [hl] at hb
      | some q => obtain ⟨q1, q2⟩ := q; simp [hl] at hb; subst hb; exact ⟨q2, rfl⟩
  refine wpIn_mono (h _ ok0 _ _ w hsim) fun e a' w' ⟨s', lv', hq, hs2⟩ => ?_
  cases e with
  | panic c =>
    obtain rfl : c = ch := hq
    refine leaves_marksP rfl rfl (fun a2 w2 hs3 => ?_) _ a' w' rfl hs2
    obtain ⟨lv2, i1, i2, i3⟩ := hs3.inv.weak (h' := fun _ => none) (fun id x hx => by cases hx)
    exact ⟨rfl, lv2, i1.pinned _ _ _ _ (fun l h => by cases h)⟩
  | _ => exact hq.elim
theorem callP_die {o : Oper} {g : Operand} {args : List Operand} {ats : Array TypeId} {f : FuncId} {caps xs args0 : List AV} {hm : Nat → Option LObj} {ch : List PanicEntry} {σ : Nat → Nat} {ids : List Nat} {s : SS} {h2 : Nat → Option LObj}
    (ho : o.op = .call { callee := .value g, args := args.toArray, argTypes := ats }) (hg : evF s.t g = some (.fn f caps)) (hx : evL (evF s.t) args = some xs) (hargs : xs ++ caps = args0.map (yey σ)) (hc : ykn P f args0 hm ch)
    (hinj : ∀ i ∈ ids, ∀ j ∈ ids, σ i = σ j → i = j) (hdom : ∀ id, (hm id).isSome → id ∈ ids) (hmem : ∀ id o, hm id = some o → s.h (σ id) = some (yjs σ o))
    (hh2 : ∀ j ob', h2 j = some ob' → (∀ i ∈ ids, σ i ≠ j ∧ yfe (σ i) ob' = false) ∧ s.h j = some ob') : yjk P N o s (fun c s' => c = ch ∧ s' = ⟨fun _ => none, h2⟩) := by
  intro B ok0 lv a w hs K Q hQ
  have hfr := hs.eval hg
  have har := evL_rel (a := a) args xs (fun x y _ hxy => hs.eval hxy) hx
  generalize hv : a.eval g = v at hfr
  cases hfr with
  | fn vs hl hrc =>
  have hrun : (execOp a.eval o).run P w = .ok (.enter f (args.map a.eval ++ vs).toArray) w := by
    unfold execOp
    simp only [ho, resolve, Deferred.ofValue, hv, Sem.run_bind, Sem.run_pure, Result.andThen_ok, invoke]
    rw [run_callFunc hc.1]
    simp
  let lv1 : Live := fun id => if id ∈ ids ∧ (hm id).isSome then lv (σ id) else none
  have hl1 : ∀ id b n, lv1 id = some (b, n) → id ∈ ids ∧ (hm id).isSome ∧ lv (σ id) = some (b, n) := by
    intro id b n hb
    simp only [lv1] at hb
    split at hb
    · rename_i h; exact ⟨h.1, h.2, hb⟩
    · cases hb
  have hl2 : ∀ id b n, lv1 id = some (b, n) → lv (σ id) = some (b, n) := fun id b n h => (hl1 id b n h).2.2
  have hmine : ∀ b, yhl lv1 b → B.mine b ∧ b < w.heap.size ∧ ∃ i ∈ ids, ∃ n, lv (σ i) = some (some b, n) := by
    rintro b ⟨id, n, hb⟩
    obtain ⟨h1, h2, h3⟩ := hl1 id _ n hb
    obtain ⟨_, _, h4, h5, _⟩ := hs.inv.lvat h3
    exact ⟨h4, h5, id, h1, n, h3⟩
  have hok1 : ∀ g, ybi B ok0 lv w g → ybi (ydp w lv1) (ybi B ok0 lv w) lv1 w g := fun g hg => ⟨.inl hg, hg.2.1, fun id b n hb => hg.2.2 (σ id) b n (hl2 id _ n hb)⟩
  have hinv : Inv (ydp w lv1) (ybi B ok0 lv w) hm lv1 w := by
    refine ⟨⟨rfl, rfl, rfl, Nat.le_refl _, fun _ _ _ => rfl, hs.inv.base.glob, hs.inv.base.glob.size, fun k hk => hs.inv.base.mineG (hmine k hk).1, fun l h => by cases h⟩, fun g hg => hg.2.1, fun id hid => by simp [lv1, hid], fun i j b n m h1 h2 => ?_, fun id x hx => ?_⟩
    · obtain ⟨q1, _, q2⟩ := hl1 _ _ _ h1
      obtain ⟨r1, _, r2⟩ := hl1 _ _ _ h2
      exact hinj i q1 j r1 (hs.inv.inj _ _ b n m q2 r2)
    · obtain ⟨b, n, h1, h2⟩ := hs.inv.obj (σ id) _ (hmem id x hx)
      have hlv : lv1 id = some (b, n) := by simp [lv1, hdom id (by simp [hx]), hx, h1]
      refine ⟨b, n, hlv, ?_⟩
      cases b with
      | none => exact renO_nil h2
      | some b => exact ⟨.inl ⟨id, n, hlv⟩, h2.2.1, yeo.unren hl2 hok1 h2.2.2⟩
  have hall : ybr (ybi (ydp w lv1) (ybi B ok0 lv w) lv1 w) w lv1 args0 (args.map a.eval ++ vs) := by
    have hlen : (args.map a.eval ++ vs).length = args0.length := by
      have := congrArg List.length hargs
      simp only [List.length_append, List.length_map] at this ⊢
      have := har.1
      simp at this
      omega
    refine ⟨hlen, fun i x u hx hu => ?_⟩
    have hxi : (xs ++ caps)[i]? = some (yey σ x) := by rw [hargs]; simp [hx]
    have hrel : Rel (ybi B ok0 lv w) w lv (yey σ x) u := by
      by_cases hlt : i < xs.length
      · rw [List.getElem?_append_left hlt] at hxi
        rw [List.getElem?_append_left (by rw [har.1]; exact hlt)] at hu
        exact har.2 i _ u hxi hu
      · rw [List.getElem?_append_right (by omega)] at hxi
        rw [List.getElem?_append_right (by rw [har.1]; omega), har.1] at hu
        exact hrc _ _ u hxi hu
    exact (Rel.unren hl2 hrel).keep fun g hg => ⟨hok1 g hg, rfl⟩
  unfold Oper.wp
  rw [hrun]
  refine (hc.2 (ybi B ok0 lv w) lv1 w (args.map a.eval ++ vs) hinv hall).mono fun e w' ⟨he, lv3, hi3⟩ => ?_
  subst he
  have hb3 := hi3.base
  have hstay : ∀ k, k < w.heap.size → (∀ i ∈ ids, ∀ n, lv (σ i) ≠ some (some k, n)) → w'.heap[k]? = w.heap[k]? := by
    intro k hk hn
    exact hb3.block k hk fun hlent => by
      obtain ⟨_, _, i, hi, n, hn'⟩ := hmine k hlent
      exact hn i hi n hn'
  have hsz : w.heap.size ≤ w'.heap.size := hb3.size
  let lv2 : Live := fun j => if (h2 j).isSome then lv j else none
  have hlv2 : ∀ j b n, lv2 j = some (b, n) → lv j = some (b, n) ∧ ∃ ob, h2 j = some ob := by
    intro j b n hb
    simp only [lv2] at hb
    split at hb
    · rename_i h; exact ⟨hb, Option.isSome_iff_exists.1 h⟩
    · cases hb
  have hnl : ∀ j b n, lv2 j = some (some b, n) → ∀ i ∈ ids, ∀ n', lv (σ i) ≠ some (some b, n') := by
    intro j b n hb i hi n' hn'
    obtain ⟨h1, ob, h3⟩ := hlv2 j _ n hb
    exact ((hh2 j ob h3).1 i hi).1 (hs.inv.inj _ _ b n' n hn' h1)
  have hok2 : ∀ g, ybi B ok0 lv w g → ybi B ok0 lv2 w' g ∧ w'.heap[g]? = w.heap[g]? := by
    intro g hg
    exact ⟨⟨hg.1, Nat.lt_of_lt_of_le hg.2.1 hsz, fun j b n hb => hg.2.2 j b n (hlv2 j _ n hb).1⟩, hstay g hg.2.1 fun i _ n hn => hg.2.2 _ _ n hn rfl⟩
  refine hQ ch a w' ⟨⟨fun _ => none, h2⟩, lv2, ⟨rfl, rfl⟩, ⟨⟨?_, hs.inv.ok0lt, fun j hj => ?_, fun i j b n m h1 h2' => ?_, fun j x hx => ?_⟩, hs.size, (fun x y hy => by cases hy), hs.defers.same (fun g hg => (hstay g (Array.getElem?_eq_some_iff.1 hg).1 fun i hi n hn => (hs.inv.lvat hn).choose_spec.2.2.2.notDef hg).trans hg), hs.big, fun j b o' hN hj hcj hb => ?_⟩⟩
  · refine ⟨hb3.os.trans hs.inv.base.os, hb3.tape.trans hs.inv.base.tape, hb3.output.trans hs.inv.base.output, Nat.le_trans hs.inv.base.size hsz, fun k hk hnl => ?_, hb3.glob, hs.inv.base.gsize, hs.inv.base.lentG, hs.inv.base.rdok⟩
    refine (hstay k (Nat.lt_of_lt_of_le hk hs.inv.base.size) fun i hi n hn => ?_).trans (hs.inv.base.block k hk hnl)
    obtain ⟨_, _, q1, _, _⟩ := hs.inv.lvat hn
    rcases q1 with q1 | q1
    · exact hnl q1
    · omega
  · show lv2 j = none
    simp only [lv2]
    rw [if_neg (by rw [show h2 j = none from hj]; simp)]
  · exact hs.inv.inj i j b n m (hlv2 i _ n h1).1 (hlv2 j _ m h2').1
  · obtain ⟨hne, hsj⟩ := hh2 j x hx
    obtain ⟨b, n, h1, h3⟩ := hs.inv.obj j x hsj
    have hl : lv2 j = some (b, n) := by
      show (if (h2 j).isSome = true then lv j else none) = _
      rw [if_pos (by rw [show h2 j = some x from hx]; rfl)]; exact h1
    refine ⟨b, n, hl, ?_⟩
    cases b with
    | none => exact h3
    | some b =>
      refine ⟨h3.1, Nat.lt_of_lt_of_le h3.2.1 hsz, ?_⟩
      exact (h3.2.2.relive fun i b' n' hb' _ => (hlv2 i b' n' hb').1).keep hok2 (hstay b h3.2.1 (hnl j b n hl))
  · obtain ⟨hne, hsj⟩ := hh2 j o' hj
    obtain ⟨n, hn⟩ := hs.pin j b o' hN hsj hcj hb
    exact ⟨n, by show (if (h2 j).isSome = true then lv j else none) = _; rw [if_pos (by rw [show h2 j = some o' from hj]; rfl)]; exact hn⟩
theorem panic_die {o : Oper} {x : Operand} {t : TypeId} {u : Value} {s : SS} (ho : o.op = .panic x) (hx : evF s.t x = some (.v (.iface t u))) : yjk P N o s (fun c s' => c = [{ v := .iface t u, recovered := false }] ∧ s' = s) := by
  intro B ok0 lv a w hs K Q hQ
  have hv := hs.eval hx
  have hrun : (execOp a.eval o).run P w = .halt (.panic (.iface t u)) w := by
    have e : a.eval x = .iface t u := yfv hv
    unfold execOp
    simp [ho, Instr.panic, e, goPanic]
  unfold Oper.wp
  rw [hrun]
  exact hQ _ a w ⟨s, lv, ⟨rfl, rfl⟩, hs⟩
theorem yjk.mono {o : Oper} {s : SS} {D D' : List PanicEntry → SS → Prop} (h : yjk P N o s D) (hD : ∀ c s', D c s' → D' c s') : yjk P N o s D' :=
  fun B ok0 lv a w hs K Q hQ => h B ok0 lv a w hs K Q fun ch a' w' ⟨s', lv', h1, h2⟩ => hQ ch a' w' ⟨s', lv', hD ch s' h1, h2⟩
variable {t : List (Nat × AV)} {h : List (Nat × Option LObj)} {ty : TypeId} {pos : String} {af : Array Edge} {gd : Option (Nat × Bool)}
theorem dieC (sg : List (Nat × Nat)) {dst : Option Tmp} {g : Operand} {args : List Operand} {ats : Array TypeId} {f : FuncId} {caps xs args0 : List AV} {hs : List (Nat × Option LObj)} {ch : List PanicEntry} {D : List PanicEntry → SS → Prop} (hc : ykn P f args0 (yao hs) ch) (hg : evF (ybb t) g = some (.fn f caps)) (hx : evL (evF (ybb t)) args = some xs)
    (hargs : xs ++ caps = args0.map (yey (yei sg))) (hv : yft (yda sg) = true) (hd1 : ykf (ybv sg) hs = true) (hsub : ykm h (yld sg hs)) (hD : D ch ⟨fun _ => none, fun _ => none⟩) : yjk P N ⟨dst, .call { callee := .value g, args := args.toArray, argTypes := ats }, ty, pos, af, gd⟩ (S t h) D := by
  refine (callP_die (σ := yei sg) (ids := ybv sg) (h2 := fun _ => none) rfl hg hx hargs hc (slook_inj hv) (domIn_spec hd1) (fun id o ho => renH_mem hsub id o ho) (fun j ob hj => by cases hj)).mono ?_
  rintro c s' ⟨rfl, rfl⟩
  exact hD
theorem dieP {dst : Option Tmp} {x : Operand} {tt : TypeId} {u : Value} {D : List PanicEntry → SS → Prop} (hx : evF (ybb t) x = some (.v (.iface tt u))) (hD : D [{ v := .iface tt u, recovered := false }] (S t h)) : yjk P N ⟨dst, .panic x, ty, pos, af, gd⟩ (S t h) D := by
  refine (panic_die rfl hx).mono ?_
  rintro c s' ⟨rfl, rfl⟩
  exact hD
end Go.Proofs.YtcpgpiabeimefaaGreatDoor
set_option linter.unusedVariables false
set_option maxHeartbeats 4000000
namespace Go.Proofs.YtcpgpiabeimefaaGreatDoor
open Go.RowKit

def aside : List (Nat × AV) → List (Nat × AV)
  | [] => []
  | (x, y) :: t => (x + 1000000, y) :: aside t
theorem look_aside : ∀ (t : List (Nat × AV)) (x : Nat), ybb (aside t) (x + 1000000) = ybb t x
  | [], x => rfl
  | (a, y) :: t, x => by
    simp only [aside, ybb]
    have e : Nat.beq (x + 1000000) (a + 1000000) = Nat.beq x a := by
      cases h : Nat.beq x a with
      | true => rw [Nat.eq_of_beq_eq_true h]; simp
      | false =>
        refine yeq fun e => ?_
        obtain rfl : x = a := by omega
        simp at h
    rw [e]
    cases Nat.beq x a with
    | true => rfl
    | false => exact look_aside t x
def allLt (n : Nat) : List (Nat × AV) → Bool
  | [] => true
  | (x, _) :: t => Nat.blt x n && allLt n t
theorem allLt_spec {n : Nat} : ∀ {t : List (Nat × AV)}, allLt n t = true → ∀ x y, ybb t x = some y → x < n
  | [], _, x, y, h => by simp [ybb] at h
  | (a, z) :: t, hl, x, y, h => by
    simp only [allLt, Bool.and_eq_true, Nat.blt_eq] at hl
    simp only [ybb] at h
    cases hb : Nat.beq x a with
    | true => rw [Nat.eq_of_beq_eq_true hb]; exact hl.1
    | false => simp only [hb] at h; exact allLt_spec hl.2 x y h
def ylc : List (Nat × AV) → List (Nat × AV)
  | [] => []
  | (x, y) :: t => match Nat.ble 1000000 x with
    | true => ylc t
    | false => (x, y) :: ylc t
theorem look_lowS : ∀ {t : List (Nat × AV)} {x : Nat}, ybb (ylc t) x = match Nat.ble 1000000 x with | true => none | false => ybb t x
  | [], x => by cases h : Nat.ble 1000000 x <;> rfl
  | (a, z) :: t, x => by
    have ih := look_lowS (t := t) (x := x)
    simp only [ylc]
    cases ha : Nat.ble 1000000 a with
    | true =>
      simp only
      rw [ih]
      cases hx : Nat.ble 1000000 x with
      | true => rfl
      | false =>
        simp only [ybb]
        rw [yeq (fun e => by subst e; rw [ha] at hx; cases hx)]
    | false =>
      simp only [ybb]
      cases hb : Nat.beq x a with
      | true => rw [Nat.eq_of_beq_eq_true hb, ha]
      | false => simp only; rw [ih]
section
variable {P : Program} {n : Nat} {ops : Array Oper} {Q : Exit → Act → World → Prop} {a : Act} {w : World}
end
end Go.Proofs.YtcpgpiabeimefaaGreatDoor
