import Derived.Test.YtelmlhlkefmjkaaGreatDoorAiG
set_option linter.unusedSimpArgs false
set_option linter.unusedVariables false
/- The steps of the machine in a drawn region. -/
namespace Go.Ai
open Go.RowKit

/-- How many effects are behind an operation that is run now. -/
theorem Reg.Inv.window {R : Reg} (hp : PlanP R.ops (masks R.ops.toList []) R.p) {X : Nat → Prop} {l : List St} {s : S} {j : Nat} {E : Env} {tm : Array Value} {ρ : List AV} {ds : List Deferred} {w : World} {cs : List Frame}
    (I : R.Inv X l s j E tm ρ ds w cs) (hpn : (R.p.map (·.i)).Nodup) {t : St} (ht : t ∈ R.p) {o : Oper} (ho : R.ops[t.i]? = some o) (hne : effAt R.ops t.i = false) (hna : alAt R.ops t.i = false) (hiX : ¬ X t.i) (hpX : ∀ q ∈ preds o, X q) : t.lo ≤ j ∧ j ≤ t.hi := by
  obtain ⟨pre, hpre, hj⟩ := I.suf
  obtain ⟨_, hhi, hlo', hhi'⟩ := hp.win t ht hne hna
  have hes : (R.p.map (·.i)).filter (effAt R.ops) = (pre.map (·.i)).filter (effAt R.ops) ++ (l.map (·.i)).filter (effAt R.ops) := by rw [hpre]; simp
  rw [hes] at hhi hlo' hhi'
  have hext : Down R.ops.toList (fun m => X m ∨ m = t.i) := fun i o' ho' hm q hq => by
    rcases hm with hm | rfl
    · exact .inl (I.down i o' ho' hm q hq)
    · have : o' = o := by simp at ho'; rw [ho] at ho'; cases ho'; rfl
      subst this
      exact .inl (hpX q hq)
  constructor
  · rcases Nat.lt_or_ge j t.lo with h | h
    · exfalso
      rcases hlo' with h0 | hb
      · omega
      · have hle : t.lo ≤ ((pre.map (·.i)).filter (effAt R.ops) ++ (l.map (·.i)).filter (effAt R.ops)).length := by have := (hp.win t ht hne hna).1; omega
        have hlt : t.lo - 1 < ((pre.map (·.i)).filter (effAt R.ops) ++ (l.map (·.i)).filter (effAt R.ops)).length := by omega
        have hlt' : t.lo - 1 - ((pre.map (·.i)).filter (effAt R.ops)).length < ((l.map (·.i)).filter (effAt R.ops)).length := by rw [List.length_append] at hlt; omega
        have hg : ((pre.map (·.i)).filter (effAt R.ops) ++ (l.map (·.i)).filter (effAt R.ops)).getD (t.lo - 1) 0 = ((l.map (·.i)).filter (effAt R.ops))[t.lo - 1 - ((pre.map (·.i)).filter (effAt R.ops)).length] := by
          rw [List.getD_eq_getElem?_getD, List.getElem?_append_right (by omega), List.getElem?_eq_getElem hlt']; rfl
        rw [hg] at hb
        have hmem := List.getElem_mem hlt'
        generalize ((l.map (·.i)).filter (effAt R.ops))[t.lo - 1 - ((pre.map (·.i)).filter (effAt R.ops)).length] = e at hb hmem
        obtain ⟨hml, hef⟩ := List.mem_filter.1 hmem
        have hX : X e ∨ e = t.i := masks_down _ hb hext (.inr rfl)
        rcases hX with hX | rfl
        · exact ((I.eff e hef).1 hX).2 hml
        · rw [hne] at hef; cases hef
    · exact h
  · rcases Nat.lt_or_ge t.hi j with h | h
    · exfalso
      rcases hhi' with h0 | hb
      · rw [List.length_append] at h0; omega
      · have hlt' : t.hi < ((pre.map (·.i)).filter (effAt R.ops)).length := by omega
        have hg : ((pre.map (·.i)).filter (effAt R.ops) ++ (l.map (·.i)).filter (effAt R.ops)).getD t.hi 0 = ((pre.map (·.i)).filter (effAt R.ops))[t.hi] := by
          rw [List.getD_eq_getElem?_getD, List.getElem?_append_left (by omega), List.getElem?_eq_getElem hlt']; rfl
        rw [hg] at hb
        have hmem := List.getElem_mem hlt'
        generalize ((pre.map (·.i)).filter (effAt R.ops))[t.hi] = e at hb hmem
        obtain ⟨hml, hef⟩ := List.mem_filter.1 hmem
        have hel : e < R.ops.size := by
          simp only [effAt] at hef
          rcases Nat.lt_or_ge e R.ops.size with h | h
          · exact h
          · rw [Array.getElem?_eq_none h] at hef; cases hef
        have hnl : e ∉ l.map (·.i) := fun hl => by
          rw [hpre, List.map_append] at hpn
          exact (List.nodup_append.1 hpn).2.2 e hml e hl rfl
        have hX : X e := (I.eff e hef).2 ⟨hel, hnl⟩
        exact hiX (masks_down _ hb I.down hX)
    · exact h

/-- An operation that gives a value, and leaves the world be. -/
theorem st_value {C : Cfg} {b : Frame} {ops : Array Oper} {i : Nat} {rest : List Nat} {o : Oper} {k : List Item} {t : Array Value} {ds : List Deferred} {w w' : World} {cs : List Frame} {cv : Value} (ho : ops[i]? = some o)
    (hw : Region.wanted o (yielded ops t) = true) (hd : isDefer o.op = false) (hr : (execOp (evT t) o).run C.P w = .ok (.value cv) w' ∨ (execOp (evT t) o).run C.P w = .ok .skip w' ∧ cv = undef) :
    step C.P (lone (run b t ds (.inRegion ops (i :: rest) :: k)) cs w) = .next (lone (run b (putT t o.dst cv) ds (.inRegion ops rest :: k)) cs w') := by
  have hg := stepG_op' (P := C.P) (b := b) (ds := ds) (k := k) (cs := cs) (w := w) (rest := rest) ho hw (.inr hd)
  have hdst : (ops[i]?).bind (·.dst) = o.dst := by rw [ho]; rfl
  have hfin : ∀ v, (run b t ds (.inRegion ops (i :: rest) :: k)).finish v = run b (putT t o.dst v) ds (.inRegion ops rest :: k) := fun v => by rw [finish_run, hdst]
  refine step_lone_go ?_
  rw [hg, ← hfin]
  rcases hr with hr | ⟨hr, rfl⟩ <;> simp [stepG.apply, hr]

theorem VRs.putT {E : Env} {ρ : List AV} {t : Array Value} (h : VRs E ρ t.toList) {v : AV} {cv : Value} (hv : VR E v cv) (d : Option Tmp) : VRs E (putL ρ d v) (putT t d cv).toList := by
  cases d with
  | none => exact h
  | some d =>
    show VRs E (ρ.set d v) (t.setIfInBounds d cv).toList
    rw [Array.toList_setIfInBounds]
    exact h.set hv d

/-- One more operation that is no effect, with the same heap. -/
theorem Reg.Inv.more {R : Reg} (hp : PlanP R.ops (masks R.ops.toList []) R.p) {X : Nat → Prop} {l : List St} {s : S} {j : Nat} {E : Env} {tm : Array Value} {ρ : List AV} {ds : List Deferred} {w : World} {cs : List Frame}
    (I : R.Inv X l s j E tm ρ ds w cs) {i : Nat} {o : Oper} (ho : R.ops[i]? = some o) (hne : effAt R.ops i = false) (hiX : ¬ X i) (hpX : ∀ q ∈ preds o, X q) (hal : ¬ (alAt R.ops i = true ∧ R.bw i = true)) {cv : Value} (hv : VR E (R.v i) cv) :
    R.Inv (fun k => X k ∨ k = i) l s j E (putT tm o.dst cv) (putL ρ o.dst (R.v i)) ds w cs where
  run := I.run
  nodup := I.nodup
  lin := I.lin
  eff := fun k hk => by
    rw [← I.eff k hk]
    exact ⟨fun h => h.resolve_right (fun e => by subst e; rw [hne] at hk; cases hk), fun h => .inl h⟩
  down := fun k o' ho' hk q hq => by
    rcases hk with hk | rfl
    · exact .inl (I.down k o' ho' hk q hq)
    · have : o' = o := by simp at ho'; rw [ho] at ho'; cases ho'; rfl
      subst this
      exact .inl (hpX q hq)
  lt := fun k hk => by
    rcases hk with hk | rfl
    · exact I.lt k hk
    · rcases Nat.lt_or_ge k R.ops.size with h | h
      · exact h
      · rw [Array.getElem?_eq_none h] at ho; cases ho
  ov := I.ov.put hp ho hiX I.len
  len := by rw [putL_length]; exact I.len
  ovY := I.ovY
  lenY := I.lenY
  downY := I.downY
  sub := fun k ha hy => .inl (I.sub k ha hy)
  vr := I.vr.putT hv o.dst
  dr := I.dr
  hr := I.hr
  cs := I.cs
  ext := I.ext
  extra := fun k ha hx hy hb => hx.elim (fun hx => I.extra k ha hx hy hb) (fun e => absurd ⟨e ▸ ha, e ▸ hb⟩ hal)
  apart := fun k m x y hne a1 a2 a3 a4 b1 b2 b3 b4 =>
    I.apart k m x y hne a1 (a2.resolve_right fun e => hal ⟨e ▸ a1, e ▸ a4⟩) a3 a4 b1 (b2.resolve_right fun e => hal ⟨e ▸ b1, e ▸ b4⟩) b3 b4
  fresh := fun k hk h => I.fresh k hk fun ⟨h1, h2⟩ => h ⟨.inl h1, h2⟩
  next := I.next
  base := I.base
  top := I.top
  suf := I.suf

/-- A new object, that the one order makes later. -/
theorem Reg.Inv.made {R : Reg} {X : Nat → Prop} {l : List St} {s : S} {j : Nat} {E : Env} {tm : Array Value} {ρ : List AV} {ds : List Deferred} {w w' : World} {cs : List Frame}
    (I : R.Inv X l s j E tm ρ ds w cs) (hp : PlanP R.ops (masks R.ops.toList []) R.p) {i : Nat} {o : Oper} (ho : R.ops[i]? = some o) (hne : effAt R.ops i = false) (hiX : ¬ X i) (hpX : ∀ q ∈ preds o, X q) (ha : alAt R.ops i = true) (hb : R.bw i = true)
    {x : M} {cv : Value} (hx : x.blk = w.heap.size) (hold : ∀ b, b < w.heap.size → w'.heap[b]? = w.heap[b]?) (hsz : w.heap.size < w'.heap.size) (hos : w'.os = w.os) (ht : w'.tape = w.tape) (hout : w'.output = w.output)
    (hok : VR (E.put (R.base + i) x) (R.v i) cv ∧ OR (E.put (R.base + i) x) x w' (R.ob i)) :
    R.Inv (fun k => X k ∨ k = i) l s j (E.put (R.base + i) x) (putT tm o.dst cv) (putL ρ o.dst (R.v i)) ds w' cs := by
  have hlt : i < R.ops.size := by
    rcases Nat.lt_or_ge i R.ops.size with h | h
    · exact h
    · rw [Array.getElem?_eq_none h] at ho; cases ho
  have hfr := I.fresh i hlt fun h => hiX h.1
  have hle := Env.le_put x hfr
  have hid : R.base + i < s.h.next := by have := I.next; omega
  have hnY : ¬ R.Y l i := fun h => hiX (I.sub i ha h)
  have hr := I.hr.putE x hfr hid hold
  have hmne : ∀ {k : Nat}, k ≠ i → (E.put (R.base + i) x).m (R.base + k) = E.m (R.base + k) := fun {k} h => by
    have hne' : ¬ R.base + k = R.base + i := by omega
    show (if R.base + k = R.base + i then some x else E.m (R.base + k)) = _
    rw [if_neg hne']
  have hown : ∀ {b}, Own (E.put (R.base + i) x) s.h b → Own E s.h b := fun {b} ⟨m, om, y, hm, hy, e⟩ => by
    obtain ⟨z, hz, _⟩ := I.hr.live m om hm
    have h2 := hle.1 _ _ hz
    rw [h2] at hy
    have e2 : z = y := Option.some.inj hy
    exact ⟨m, om, z, hm, hz, by rw [e2]; exact e⟩
  refine ⟨I.run, I.nodup, I.lin, fun k hk => ?_, fun k o' ho' hk q hq => ?_, fun k hk => ?_, I.ov.put hp ho hiX I.len, by rw [putL_length]; exact I.len, I.ovY, I.lenY, I.downY, fun k hk hy => .inl (I.sub k hk hy), (I.vr.mono hle).putT hok.1 o.dst, I.dr.mono hle, hr, I.cs, ?_, fun k ha' hx' hy' hb' => ?_,
    fun k m y z hkm a1 a2 a3 a4 b1 b2 b3 b4 q1 q2 => ?_, fun k hk h => ?_, I.next, I.base, I.top, I.suf⟩
  · rw [← I.eff k hk]
    exact ⟨fun h => h.resolve_right (fun e => by subst e; rw [hne] at hk; cases hk), fun h => .inl h⟩
  · rcases hk with hk | rfl
    · exact .inl (I.down k o' ho' hk q hq)
    · have : o' = o := by simp at ho'; rw [ho] at ho'; cases ho'; rfl
      subst this
      exact .inl (hpX q hq)
  · rcases hk with hk | rfl
    · exact I.lt k hk
    · exact hlt
  · exact ⟨Env.le_trans I.ext.le hle, I.ext.next, hos.trans I.ext.os, ht.trans I.ext.tape, hout.trans I.ext.output, by have := I.ext.size; omega,
      fun b hb hno => (hold b (by have := I.ext.size; omega)).trans (I.ext.block b hb hno), fun b hb => I.ext.own b (hown hb), I.ext.q, fun m y hm => by
        by_cases e : m = R.base + i
        · right; rw [← I.base]; omega
        · simp [Env.put, e] at hm; exact I.ext.ids m y hm⟩
  · by_cases e : k = i
    · subst e
      refine ⟨x, put_same _ _ _, by omega, by have := I.ext.size; omega, fun h => ?_, fun ob hq => ?_, hok.2⟩
      · obtain ⟨m, om, y, hm, hy, e⟩ := hown h
        obtain ⟨z, hz, hoz⟩ := I.hr.live m om hm
        rw [hz] at hy; cases hy
        have := hoz.there; omega
      · have := heap_lt (I.hr.imm _ _ hq); omega
    · obtain ⟨y, q1, q2, q3, q4, q5, q6⟩ := I.extra k ha' (hx'.resolve_right e) hy' hb'
      exact ⟨y, by rw [hmne e]; exact q1, by omega, q3, fun h => q4 (hown h), q5, q6.mono hle (hold _ q2)⟩
  · have bound : ∀ {k : Nat} {y : M}, k ≠ i → alAt R.ops k = true → (X k ∨ k = i) → ¬ R.Y l k → R.bw k = true → E.m (R.base + k) = some y → y.blk < w.heap.size := fun {k y} hki c1 c2 c3 c4 c5 => by
      obtain ⟨z, r1, r2, _⟩ := I.extra k c1 (c2.resolve_right hki) c3 c4
      rw [r1] at c5; cases c5; exact r2
    by_cases ek : k = i
    · subst ek
      have em : m ≠ k := fun e => hkm e.symm
      rw [put_same] at q1; cases q1
      rw [hmne em] at q2
      have := bound em b1 b2 b3 b4 q2; omega
    · rw [hmne ek] at q1
      by_cases em : m = i
      · subst em
        rw [put_same] at q2; cases q2
        have := bound ek a1 a2 a3 a4 q1; omega
      · rw [hmne em] at q2
        exact I.apart k m y z hkm a1 (a2.resolve_right ek) a3 a4 b1 (b2.resolve_right em) b3 b4 q1 q2
  · have e : k ≠ i := fun e => h ⟨.inr e, e ▸ ha, e ▸ hb⟩
    rw [hmne e]
    exact I.fresh k hk fun ⟨h1, h2⟩ => h ⟨.inl h1, h2⟩

end Go.Ai

/- A ready operation is run: what holds then. -/
namespace Go.Ai
open Go.RowKit

theorem defer_eff {o : Op} (h : isEff o = false) : isDefer o = false := by cases o <;> first | rfl | simp [isEff] at h

theorem hp_lt {ops : Array Oper} {i : Nat} {o : Oper} (ho : ops[i]? = some o) : i < ops.size := by
  rcases Nat.lt_or_ge i ops.size with h | h
  · exact h
  · rw [Array.getElem?_eq_none h] at ho; cases ho

theorem Ext.back {E E' : Env} {h h' : H} {w w' : World} (hx : Ext E h w E' h' w') {i : Nat} (hi : i < h.next) {x : M} (hm : E'.m i = some x) : E.m i = some x := (hx.ids i x hm).resolve_right (by omega)

/-- The world goes on, the heap stays. -/
theorem Reg.Inv.world {R : Reg} {X : Nat → Prop} {l : List St} {s : S} {j : Nat} {E E' : Env} {tm : Array Value} {ρ : List AV} {ds : List Deferred} {w w' : World} {cs : List Frame}
    (I : R.Inv X l s j E tm ρ ds w cs) (hx : Ext E s.h w E' s.h w') (hr : HR E' s.h w') : R.Inv X l s j E' tm ρ ds w' cs := by
  have hid : ∀ {k}, k < R.ops.size → R.base + k < s.h.next := fun {k} hk => by have := I.next; omega
  refine ⟨I.run, I.nodup, I.lin, I.eff, I.down, I.lt, I.ov, I.len, I.ovY, I.lenY, I.downY, I.sub, I.vr.mono hx.le, I.dr.mono hx.le, hr, I.cs, I.ext.trans hx, fun k ha hxk hy hb => ?_,
    fun k m y z hkm a1 a2 a3 a4 b1 b2 b3 b4 q1 q2 => ?_, fun k hk h => ?_, I.next, I.base, I.top, I.suf⟩
  · obtain ⟨y, q1, q2, q3, q4, q5, q6⟩ := I.extra k ha hxk hy hb
    refine ⟨y, hx.le.1 _ _ q1, by have := hx.size; omega, q3, fun h => ?_, fun ob hq => ?_, q6.mono hx.le (hx.block _ q2 q4)⟩
    · rcases hx.own _ h with h | h
      · exact q4 h
      · omega
    · rcases hx.q _ _ hq with h | h | h
      · exact q5 ob h
      · exact q4 h
      · omega
  · exact I.apart k m y z hkm a1 a2 a3 a4 b1 b2 b3 b4 (hx.back (hid (I.lt k a2)) q1) (hx.back (hid (I.lt m b2)) q2)
  · cases hq : E'.m (R.base + k) with
    | none => rfl
    | some y => have := I.fresh k hk h; rw [hx.back (hid hk) hq] at this; cases this

/-- A ready operation that is no effect. -/
theorem Reg.Inv.still {R : Reg} (hT : TOk R.C) (hX : XtOk R.C) (hp : PlanP R.ops (masks R.ops.toList []) R.p) (hpn : (R.p.map (·.i)).Nodup) {X : Nat → Prop} {l : List St} {s : S} {j : Nat} {E : Env} {tm : Array Value} {ρ : List AV} {ds : List Deferred} {w : World} {cs : List Frame}
    (I : R.Inv X l s j E tm ρ ds w cs) (hheap : R.snaps[j]? = some s.h) {t : St} {o : Oper} {ρt : List AV} {Y : Nat → Prop} (m : R.Moment t o ρt Y) (ht : t ∈ R.p) (hne : effAt R.ops t.i = false) (hiX : ¬ X t.i) (hpX : ∀ q ∈ preds o, X q)
    {b : Frame} {rest : List Nat} {k : List Item} : ∃ E' tm' ρ' w', R.Inv (fun k => X k ∨ k = t.i) l s j E' tm' ρ' ds w' cs ∧
      step R.C.P (lone (Go.Ai.run b tm ds (.inRegion R.ops (t.i :: rest) :: k)) cs w) = .next (lone (Go.Ai.run b tm' ds (.inRegion R.ops rest :: k)) cs w') := by
  have ho := m.op
  have hc : isEff o.op = false := by simpa [effAt, ho] using hne
  have hal : Alike R.ops o ρt ρ := m.ov.alike hp I.ov m.down I.down ho m.not hiX m.pre hpX
  have hw : wantedA ρ R.ops o = some (R.bw t.i) := by rw [← hal.wanted]; exact m.wanted
  have hwant := wantedA_ok I.vr hw
  have hdst : (R.ops[t.i]?).bind (·.dst) = o.dst := by rw [ho]; rfl
  cases hb : R.bw t.i with
  | false =>
    rw [hb] at hwant
    refine ⟨E, _, _, w, I.more hp ho hne hiX hpX (by rw [hb]; simp) (cv := undef) (by rw [m.skip hb]; exact VR.undef E), ?_⟩
    rw [← hdst]
    exact st_op_skip (by rw [ho]; simpa using hwant)
  | true =>
    rw [hb] at hwant
    by_cases ha : isAl o.op = true
    · have hat : alAt R.ops t.i = true := by simp [alAt, ho, hc, ha]
      have he := m.al hb ha { s.h with next := R.base + t.i } rfl
      rw [hal.exec] at he
      obtain ⟨v, obj, heff, se, hse, cv, w', x, h1, h2, h3, h4, h5, h6, h7, h8⟩ := al_any hT w I.vr ha he
      simp only [Eff.val.injEq] at heff
      obtain ⟨rfl, hobj⟩ := heff
      have hob : obj = R.ob t.i := by
        have e1 := congrArg (fun q : H => q.get (R.base + t.i)) hobj
        have e2 : ∀ ob, (({ s.h with next := R.base + t.i } : H).new ob).get (R.base + t.i) = some ob := fun ob => H.get_new_same _ ob
        simp only [e2] at e1
        exact (Option.some.inj e1).symm
      subst hob
      have hfr := I.fresh t.i (hp_lt ho) fun h => hiX h.1
      refine ⟨_, _, _, w', I.made hp ho hne hiX hpX hat hb h2 h3 h4 h5 h6 h7 (h8 _ (Env.le_put x hfr) (put_same _ _ _)), st_value ho hwant (defer_eff hc) (.inl ?_)⟩
      rw [hse]; simp only [Sem.run_bind, h1, Result.andThen_ok, Sem.run_pure]
    · have ha' : isAl o.op = false := by simpa using ha
      have hna : alAt R.ops t.i = false := by simp [alAt, ho, ha']
      obtain ⟨g1, g2⟩ := I.window hp hpn ht ho hne hna hiX hpX
      obtain ⟨h, q1, q2⟩ := m.look hb ha' j g1 g2
      rw [hheap] at q1; cases q1
      rw [hal.exec] at q2
      obtain ⟨nx, cv, w', E', h1, h2, h3, h4, h5⟩ := execA_ok hT hX I.hr I.vr q2
      exact ⟨E', _, _, w', (I.world h5 h4).more hp ho hne hiX hpX (by rw [hna]; simp) h3, st_value ho hwant (defer_eff hc) (by rcases h2 with rfl | ⟨rfl, rfl⟩; exact .inl h1; exact .inr ⟨h1, rfl⟩)⟩

end Go.Ai

/- A ready effect is the first one left in the one order. -/
namespace Go.Ai
open Go.RowKit

theorem chain_down {os : List Oper} {X : Nat → Prop} (hX : Down os X) : ∀ (es : List Nat) {e : Nat}, planOk.planChain (fun k i => ((masks os []).getD i 0).testBit k) (e :: es) = true → ∀ i ∈ es, X i → X e := by
  intro es
  induction es with
  | nil => intro e _ i hi; cases hi
  | cons a es ih =>
    intro e hc i hi hx
    simp only [planOk.planChain, Bool.and_eq_true] at hc
    have hXa : X a := by
      rcases List.mem_cons.1 hi with rfl | hi
      · exact hx
      · exact ih hc.2 i hi hx
    exact masks_down os hc.1 hX hXa

/-- A list is cut at its first effect. -/
theorem cut_first (ops : Array Oper) : ∀ (l : List St), (∃ t ∈ l, effAt ops t.i = true) → ∃ pre t l2, l = pre ++ t :: l2 ∧ effAt ops t.i = true ∧ ∀ a ∈ pre, effAt ops a.i = false := by
  intro l
  induction l with
  | nil => rintro ⟨t, ht, _⟩; cases ht
  | cons a l ih =>
    rintro ⟨t, ht, he⟩
    cases ha : effAt ops a.i with
    | true => exact ⟨[], a, l, rfl, ha, fun x hx => by cases hx⟩
    | false =>
      have : t ∈ l := by
        rcases List.mem_cons.1 ht with rfl | h
        · rw [ha] at he; cases he
        · exact h
      obtain ⟨pre, t', l2, rfl, h1, h2⟩ := ih ⟨t, this, he⟩
      exact ⟨a :: pre, t', l2, rfl, h1, fun x hx => by
        rcases List.mem_cons.1 hx with rfl | hx
        · exact ha
        · exact h2 x hx⟩

theorem chain_tail {os : List Oper} : ∀ (a b : List Nat), planOk.planChain (fun k i => ((masks os []).getD i 0).testBit k) (a ++ b) = true → planOk.planChain (fun k i => ((masks os []).getD i 0).testBit k) b = true := by
  intro a
  induction a with
  | nil => intro b h; exact h
  | cons x a ih =>
    intro b h
    cases a with
    | nil =>
      cases b with
      | nil => rfl
      | cons y b => simp only [List.cons_append, List.nil_append, planOk.planChain, Bool.and_eq_true] at h; exact h.2
    | cons y a => simp only [List.cons_append, planOk.planChain, Bool.and_eq_true] at h; exact ih b h.2

theorem late_tail {ops : Array Oper} {anc : Nat → Nat → Bool} : ∀ (a b : List St), planOk.planLate ops anc (a ++ b) = true → planOk.planLate ops anc b = true := by
  intro a
  induction a with
  | nil => intro b h; exact h
  | cons x a ih => intro b h; simp only [List.cons_append, planOk.planLate, Bool.and_eq_true] at h; exact ih b h.2

/-- The effect that is ready is the first one that is left; what makes objects ahead of it has been run. -/
theorem Reg.Inv.first {R : Reg} (hp : PlanP R.ops (masks R.ops.toList []) R.p) {X : Nat → Prop} {l : List St} {s : S} {j : Nat} {E : Env} {tm : Array Value} {ρ : List AV} {ds : List Deferred} {w : World} {cs : List Frame}
    (I : R.Inv X l s j E tm ρ ds w cs) {i : Nat} {o : Oper} (ho : R.ops[i]? = some o) (he : effAt R.ops i = true) (hiX : ¬ X i) (hpX : ∀ q ∈ preds o, X q) :
    ∃ pre t l2, l = pre ++ t :: l2 ∧ t.i = i ∧ (∀ a ∈ pre, effAt R.ops a.i = false) ∧ (∀ a ∈ pre, alAt R.ops a.i = true → X a.i) := by
  have hext : Down R.ops.toList (fun m => X m ∨ m = i) := fun k o' ho' hm q hq => by
    rcases hm with hm | rfl
    · exact .inl (I.down k o' ho' hm q hq)
    · have : o' = o := by simp at ho'; rw [ho] at ho'; cases ho'; rfl
      subst this
      exact .inl (hpX q hq)
  have hil : i ∈ l.map (·.i) := by
    by_cases h : i ∈ l.map (·.i)
    · exact h
    · exact absurd ((I.eff i he).2 ⟨hp_lt ho, h⟩) hiX
  obtain ⟨ti, hti, hii⟩ := List.mem_map.1 hil
  obtain ⟨pre, t, l2, rfl, h1, h2⟩ := cut_first R.ops l ⟨ti, hti, by rw [hii]; exact he⟩
  obtain ⟨pp, hpp, _⟩ := I.suf
  have hnX : ∀ e, effAt R.ops e = true → e ∈ (pre ++ t :: l2).map (·.i) → ¬ X e := fun e hef hm hx => ((I.eff e hef).1 hx).2 hm
  have hti' : t.i = i := by
    by_cases e : i = t.i
    · exact e.symm
    · exfalso
      have hch := hp.chain
      have hsplit : (R.p.map (·.i)).filter (effAt R.ops) = ((pp ++ pre).map (·.i)).filter (effAt R.ops) ++ (t.i :: (l2.map (·.i)).filter (effAt R.ops)) := by
        rw [hpp]; simp [h1]
      rw [hsplit] at hch
      have hch := chain_tail _ _ hch
      have hmem : i ∈ (l2.map (·.i)).filter (effAt R.ops) := by
        refine List.mem_filter.2 ⟨?_, he⟩
        simp only [List.map_append, List.map_cons, List.mem_append, List.mem_cons] at hil
        rcases hil with h | h | h
        · obtain ⟨a, ha, hai⟩ := List.mem_map.1 h
          have := h2 a ha
          rw [hai, he] at this; cases this
        · exact absurd h e
        · exact h
      have hx : X t.i ∨ t.i = i := chain_down hext _ hch i hmem (.inr rfl)
      rcases hx with hx | hx
      · exact hnX t.i h1 (by simp) hx
      · exact e hx.symm
  refine ⟨pre, t, l2, rfl, hti', h2, fun a ha hal => ?_⟩
  obtain ⟨u, v, rfl⟩ := List.append_of_mem ha
  have hlate := hp.late
  rw [hpp] at hlate
  have hlate : planOk.planLate R.ops _ (a :: (v ++ t :: l2)) = true := late_tail (pp ++ u) _ (by simpa using hlate)
  simp only [planOk.planLate, Bool.and_eq_true] at hlate
  have hfind : ((v ++ t :: l2).map (·.i)).find? (effAt R.ops) = some t.i := by
    rw [List.map_append, List.find?_append]
    have : (v.map (·.i)).find? (effAt R.ops) = none := List.find?_eq_none.2 fun x hx => by
      obtain ⟨b, hb, rfl⟩ := List.mem_map.1 hx
      rw [h2 b (by simp [hb])]; simp
    rw [this]; simp [h1]
  rw [hal, hfind] at hlate
  have hb := hlate.1
  simp only [Bool.not_true, Bool.false_or] at hb
  rw [hti'] at hb
  have := masks_down _ hb hext (.inr rfl)
  rcases this with h | h
  · exact h
  · exfalso
    have := h2 a (by simp)
    rw [h, he] at this; cases this

end Go.Ai

/- An effect is run. -/
namespace Go.Ai
open Go.RowKit

theorem Reg.Inv.walks {R : Reg} (hp : PlanP R.ops (masks R.ops.toList []) R.p) {X : Nat → Prop} {j : Nat} {E : Env} {tm : Array Value} {ρ : List AV} {ds : List Deferred} {w : World} {cs : List Frame} :
    ∀ (pre : List St) {l : List St} {s : S}, R.Inv X (pre ++ l) s j E tm ρ ds w cs → (∀ a ∈ pre, effAt R.ops a.i = false) → (∀ a ∈ pre, alAt R.ops a.i = true → X a.i) → ∃ s', R.Inv X l s' j E tm ρ ds w cs := by
  intro pre
  induction pre with
  | nil => intro l s I _ _; exact ⟨s, I⟩
  | cons a pre ih =>
    intro l s I h1 h2
    obtain ⟨s', I'⟩ := I.walk hp (h1 a (by simp)) (h2 a (by simp))
    exact ih I' (fun x hx => h1 x (by simp [hx])) (fun x hx => h2 x (by simp [hx]))

theorem putL_eq {a b : List AV} {d : Option Tmp} {x y : AV} (h : putL a d x = putL a d y) (hl : b.length = a.length) : putL b d x = putL b d y := by
  cases d with
  | none => rfl
  | some d =>
    have h : a.set d x = a.set d y := h
    show b.set d x = b.set d y
    rcases Nat.lt_or_ge d a.length with hd | hd
    · have := congrArg (fun l => l[d]?) h
      simp [hd] at this
      rw [this]
    · rw [List.set_eq_of_length_le (by omega), List.set_eq_of_length_le (by omega)]

/-- A ready effect. -/
theorem Reg.Inv.effect {R : Reg} (hT : TOk R.C) (hXt : XtOk R.C) (hcall : CallOk R.C R.call) (hp : PlanP R.ops (masks R.ops.toList []) R.p) {X : Nat → Prop} {l : List St} {s : S} {j : Nat} {E : Env} {tm : Array Value} {ρ : List AV} {ds : List Deferred} {w : World} {cs : List Frame}
    (I : R.Inv X l s j E tm ρ ds w cs) {i : Nat} {o : Oper} (ho : R.ops[i]? = some o) (he : effAt R.ops i = true) (hiX : ¬ X i) (hpX : ∀ q ∈ preds o, X q)
    {b : Frame} {rest : List Nat} {k : List Item} (hrc : RcOk R.E0 b R.cs0 R.rc0) : ∃ E' tm' ρ' ds' w' cs' l' s', R.Inv (fun k => X k ∨ k = i) l' s' (j + 1) E' tm' ρ' ds' w' cs' ∧ R.snaps[j + 1]? = some s'.h ∧
      Steps R.C.P (lone (Go.Ai.run b tm ds (.inRegion R.ops (i :: rest) :: k)) cs w) (lone (Go.Ai.run b tm' ds' (.inRegion R.ops rest :: k)) cs' w') := by
  obtain ⟨pre, t, l2, rfl, rfl, h1, h2⟩ := I.first hp ho he hiX hpX
  obtain ⟨s1, I⟩ := I.walks hp pre h1 h2
  have hlt := I.lin t (by simp)
  have hY := Reg.Y_cons (R := R) I.nodup hlt
  have hnY : ¬ R.Y (t :: l2) t.i := fun h => h.2 (by simp)
  obtain ⟨seen, htop, hseen⟩ := I.top
  simp only [planOk.planTop, Bool.and_eq_true] at htop
  obtain ⟨⟨hpr, _⟩, htl⟩ := htop
  rw [ho] at hpr
  have hpre : ∀ q ∈ preds o, R.Y (t :: l2) q := fun q hq => by
    have := List.all_eq_true.1 hpr q hq
    exact (hseen q).1 (by simpa using this)
  have hc : isEff o.op = true := by simpa [effAt, ho] using he
  have hna : alAt R.ops t.i = false := by simp [alAt, ho, hc]
  cases I.run with
  | skip ho' hc' => rw [ho] at ho'; cases ho'; rw [hc] at hc'; cases hc'
  | al ho' hc' => rw [ho] at ho'; cases ho'; rw [hc] at hc'; cases hc'
  | look ho' hc' => rw [ho] at ho'; cases ho'; rw [hc] at hc'; cases hc'
  | eff ho' _ hs hv hn hl =>
    rw [ho] at ho'; cases ho'
    obtain ⟨v', ds2, rc2, h', rfl, hgo⟩ := stepOp_put hs
    have hal : Alike R.ops o s1.ρ ρ := I.ovY.alike hp I.ov I.downY I.down ho hnY hiX hpre hpX
    have hst := hgo ρ hal
    have hlen : ρ.length = s1.ρ.length := I.len.trans I.lenY.symm
    have hv : putL s1.ρ o.dst v' = putL s1.ρ o.dst (R.v t.i) := hv
    have hvv : putL ρ o.dst v' = putL ρ o.dst (R.v t.i) := putL_eq hv hlen
    have hsr : SR E { s1 with ρ := ρ } tm ds w := ⟨I.vr, I.dr, I.hr⟩
    have hrc1 : RcOk E b cs s1.rc := hrc.to I.ext.le I.cs
    obtain ⟨E', t', ds', w', cs', g1, g2, g3, g4⟩ := op_ok hT hXt hcall (b := b) (rest := rest) (k := k) ho hst hsr hrc1
    simp only at g1 g2 g3 g4
    have hid : ∀ {k}, k < R.ops.size → R.base + k < s1.h.next := fun {k} hk => by have := I.next; omega
    have hnl : ∀ i, ¬ R.Y l2 i → ¬ R.Y (t :: l2) i := fun i h h' => h ((hY i).2 (.inl h'))
    have hxal : ∀ {k}, alAt R.ops k = true → (X k ∨ k = t.i) → X k := fun {k} ha hx => hx.resolve_right fun e => by subst e; rw [hna] at ha; cases ha
    refine ⟨E', t', putL ρ o.dst (R.v t.i), ds', w', cs', l2, _, ?_, hn, g4⟩
    refine ⟨hl, ?_, fun t ht => I.lin t (by simp [ht]), fun k hk => ?_, fun k o' ho' hk q hq => ?_, fun k hk => ?_, I.ov.put hp ho hiX I.len, by rw [putL_length]; exact I.len, ?_, ?_, fun k o' ho' hk q hq => ?_,
      fun k ha hy => ?_, by rw [← hvv]; exact g2.ρ, g2.d, g2.h, I.cs.trans g3, I.ext.trans g1, fun k ha hx hy hb => ?_, fun k m y z hkm a1 a2 a3 a4 b1 b2 b3 b4 q1 q2 => ?_, fun k hk h => ?_, ?_, I.base, ⟨t.i :: seen, htl, fun i => by rw [List.mem_cons, hseen, hY]; exact Or.comm⟩, ?_⟩
    · have := I.nodup; simp only [List.map_cons, List.nodup_cons] at this; exact this.2
    · rw [hY k, I.eff k hk]
    · rcases hk with hk | rfl
      · exact .inl (I.down k o' ho' hk q hq)
      · have : o' = o := by simp at ho'; rw [ho] at ho'; cases ho'; rfl
        subst this
        exact .inl (hpX q hq)
    · rcases hk with hk | rfl
      · exact I.lt k hk
      · exact hlt
    · show Ov R.ops R.v R.ρ0 (R.Y l2) (putL s1.ρ o.dst v')
      rw [hv]
      exact (I.ovY.put hp ho hnY I.lenY).congr hY
    · show (putL s1.ρ o.dst v').length = _
      rw [putL_length]; exact I.lenY
    · rcases (hY k).1 hk with hk | rfl
      · exact (hY q).2 (.inl (I.downY k o' ho' hk q hq))
      · have : o' = o := by simp at ho'; rw [ho] at ho'; cases ho'; rfl
        subst this
        exact (hY q).2 (.inl (hpre q hq))
    · rcases (hY k).1 hy with hk | rfl
      · exact .inl (I.sub k ha hk)
      · exact .inr rfl
    · obtain ⟨y, q1, q2, q3, q4, q5, q6⟩ := I.extra k ha (hxal ha hx) (hnl k hy) hb
      refine ⟨y, g1.le.1 _ _ q1, by have := g1.size; omega, q3, fun h => ?_, fun ob hq => ?_, q6.mono g1.le (g1.block _ q2 q4)⟩
      · rcases g1.own _ h with h | h
        · exact q4 h
        · omega
      · rcases g1.q _ _ hq with h | h | h
        · exact q5 ob h
        · exact q4 h
        · omega
    · exact I.apart k m y z hkm a1 (hxal a1 a2) (hnl k a3) a4 b1 (hxal b1 b2) (hnl m b3) b4 (g1.back (hid (I.lt k (hxal a1 a2))) q1) (g1.back (hid (I.lt m (hxal b1 b2))) q2)
    · cases hq : E'.m (R.base + k) with
      | none => rfl
      | some y =>
        have := I.fresh k hk fun ⟨h1, h2⟩ => h ⟨.inl h1, h2⟩
        rw [g1.back (hid hk) hq] at this; cases this
    · have := I.next; have := g1.next; show R.base + R.ops.size ≤ h'.next; omega
    · obtain ⟨pp, q1, q2⟩ := I.suf
      exact ⟨pp ++ [t], by rw [q1]; simp, by simp [he, q2]⟩

end Go.Ai

/- All of a region whose order is drawn. -/
namespace Go.Ai
open Go.RowKit

theorem countP_drop {f g : Nat → Bool} : ∀ (l : List Nat), (∀ x ∈ l, g x = true → f x = true) → ∀ x ∈ l, f x = true → g x = false → l.countP g < l.countP f := by
  intro l
  induction l with
  | nil => intro _ x hx; cases hx
  | cons a l ih =>
    intro hle x hx hf hg
    have hm : l.countP g ≤ l.countP f := List.countP_mono_left fun y hy => hle y (by simp [hy])
    simp only [List.countP_cons]
    rcases List.mem_cons.1 hx with rfl | hx
    · rw [hf, hg]; simp; omega
    · have := ih (fun y hy => hle y (by simp [hy])) x hx hf hg
      have h2 := hle a (by simp)
      cases hga : g a with
      | false => simp; split <;> omega
      | true => rw [h2 hga]; simp; omega

def left (ops : Array Oper) (listed : Array Bool) : Nat := (List.range ops.size).countP fun i => !listed.getD i true

theorem getD_set {l : Array Bool} {i k : Nat} (hi : i < l.size) (d : Bool) : (l.setIfInBounds i true).getD k d = if k = i then true else l.getD k d := by
  by_cases e : k = i
  · subst e; simp [Array.getD, hi]
  · rw [if_neg e]
    simp only [Array.getD_eq_getD_getElem?, Array.getElem?_setIfInBounds]
    rw [if_neg (fun h => e h.symm)]

theorem left_set {ops : Array Oper} {listed : Array Bool} (hs : listed.size = ops.size) {i : Nat} (hi : i < ops.size) (hl : listed.getD i true = false) : left ops (listed.setIfInBounds i true) < left ops listed := by
  refine countP_drop _ (fun x hx h => ?_) i (List.mem_range.2 hi) (by simp [hl]) ?_
  · rw [getD_set (by omega)] at h
    by_cases e : x = i
    · simp [e] at h
    · simpa [e] using h
  · rw [getD_set (by omega)]; simp

theorem mem_ready {ops : Array Oper} {listed : Array Bool} {i : Nat} : i ∈ Region.ready .any ops listed ↔ i < ops.size ∧ listed.getD i true = false ∧ ∃ o, ops[i]? = some o ∧ ∀ q ∈ preds o, listed.getD q false = true := by
  simp only [Region.ready, List.mem_filter, List.mem_range, Bool.and_eq_true, Bool.not_eq_true']
  constructor
  · rintro ⟨h1, h2, h3⟩
    refine ⟨h1, h2, ops[i], Array.getElem?_eq_getElem h1, fun q hq => ?_⟩
    rw [Array.getElem?_eq_getElem h1] at h3
    simp only [Option.map_some, Option.getD_some] at h3
    simp only [preds, List.mem_map, List.mem_filter] at hq
    obtain ⟨e, ⟨he1, he2⟩, rfl⟩ := hq
    have := Array.all_eq_true_iff_forall_mem.1 h3 e (by simpa using he1)
    rw [he2] at this; simpa using this
  · rintro ⟨h1, h2, o, ho, h3⟩
    refine ⟨h1, h2, ?_⟩
    rw [ho]
    simp only [Option.map_some, Option.getD_some]
    refine Array.all_eq_true_iff_forall_mem.2 fun e he => ?_
    cases hb : Region.binds .any e with
    | false => rfl
    | true =>
      have := h3 e.on (by simp only [preds, List.mem_map, List.mem_filter]; exact ⟨e, ⟨by simpa using he, hb⟩, rfl⟩)
      simpa using this

theorem ready_nil {ops : Array Oper} {p : List St} (hp : PlanP ops (masks ops.toList []) p) {listed : Array Bool} (hr : Region.ready .any ops listed = []) (hs : listed.size = ops.size) : ∀ i, i < ops.size → listed.getD i false = true := by
  intro i
  induction i using Nat.strongRecOn with
  | _ i ih =>
    intro hi
    cases hl : listed.getD i true with
    | true => simpa [Array.getD, hs, hi] using hl
    | false =>
      have : i ∈ Region.ready .any ops listed := mem_ready.2 ⟨hi, hl, ops[i], Array.getElem?_eq_getElem hi, fun q hq => by
        have := hp.pre i _ (Array.getElem?_eq_getElem hi) q hq
        exact ih q this (by omega)⟩
      rw [hr] at this; cases this

/-- One ready operation. -/
theorem Reg.Inv.one {R : Reg} (hT : TOk R.C) (hXt : XtOk R.C) (hcall : CallOk R.C R.call) (hp : PlanP R.ops (masks R.ops.toList []) R.p) (hpn : (R.p.map (·.i)).Nodup) (hm : ∀ t ∈ R.p, effAt R.ops t.i = false → ∃ o ρ Y, R.Moment t o ρ Y)
    {X : Nat → Prop} {l : List St} {s : S} {j : Nat} {E : Env} {tm : Array Value} {ρ : List AV} {ds : List Deferred} {w : World} {cs : List Frame}
    (I : R.Inv X l s j E tm ρ ds w cs) (hheap : R.snaps[j]? = some s.h) {i : Nat} {o : Oper} (ho : R.ops[i]? = some o) (hiX : ¬ X i) (hpX : ∀ q ∈ preds o, X q)
    {b : Frame} {rest : List Nat} {k : List Item} (hrc : RcOk R.E0 b R.cs0 R.rc0) : ∃ E' tm' ρ' ds' w' cs' l' s' j', R.Inv (fun k => X k ∨ k = i) l' s' j' E' tm' ρ' ds' w' cs' ∧ R.snaps[j']? = some s'.h ∧
      Steps R.C.P (lone (Go.Ai.run b tm ds (.inRegion R.ops (i :: rest) :: k)) cs w) (lone (Go.Ai.run b tm' ds' (.inRegion R.ops rest :: k)) cs' w') := by
  cases he : effAt R.ops i with
  | true =>
    obtain ⟨E', tm', ρ', ds', w', cs', l', s', h1, h2, h3⟩ := I.effect hT hXt hcall hp ho he hiX hpX (rest := rest) (k := k) hrc
    exact ⟨E', tm', ρ', ds', w', cs', l', s', j + 1, h1, h2, h3⟩
  | false =>
    obtain ⟨t, ht, rfl⟩ := hp.all i (hp_lt ho)
    obtain ⟨o', ρt, Y, m⟩ := hm t ht he
    have : o' = o := by have := m.op; rw [ho] at this; cases this; rfl
    subst this
    obtain ⟨E', tm', ρ', w', h1, h2⟩ := I.still hT hXt hp hpn hheap m ht he hiX hpX (b := b) (rest := rest) (k := k)
    exact ⟨E', tm', ρ', ds, w', cs, l, s, j, h1, hheap, .one h2⟩

theorem Reg.Inv.congr {R : Reg} {X X' : Nat → Prop} {l : List St} {s : S} {j : Nat} {E : Env} {tm : Array Value} {ρ : List AV} {ds : List Deferred} {w : World} {cs : List Frame}
    (I : R.Inv X l s j E tm ρ ds w cs) (h : ∀ i, X' i ↔ X i) : R.Inv X' l s j E tm ρ ds w cs := by
  have : X' = X := funext fun i => propext (h i)
  rw [this]; exact I

/-- All that is left of a region. -/
theorem Reg.Inv.all {R : Reg} (hT : TOk R.C) (hXt : XtOk R.C) (hcall : CallOk R.C R.call) (hp : PlanP R.ops (masks R.ops.toList []) R.p) (hpn : (R.p.map (·.i)).Nodup) (hm : ∀ t ∈ R.p, effAt R.ops t.i = false → ∃ o ρ Y, R.Moment t o ρ Y)
    {b : Frame} {k : List Item} (hrc : RcOk R.E0 b R.cs0 R.rc0) : ∀ (fuel t : Nat) (listed : Array Bool), listed.size = R.ops.size → left R.ops listed ≤ fuel → ∀ {l : List St} {s : S} {j : Nat} {E : Env} {tm : Array Value} {ρ : List AV} {ds : List Deferred} {w : World} {cs : List Frame},
    R.Inv (fun i => listed.getD i false = true) l s j E tm ρ ds w cs → R.snaps[j]? = some s.h → ∃ E' tm' ρ' ds' w' cs' l' s' j', R.Inv (fun i => i < R.ops.size) l' s' j' E' tm' ρ' ds' w' cs' ∧
      Steps R.C.P (lone (Go.Ai.run b tm ds (.inRegion R.ops (Region.linearise.go .any R.ops fuel t listed []) :: k)) cs w) (lone (Go.Ai.run b tm' ds' (.inRegion R.ops [] :: k)) cs' w') := by
  intro fuel
  have fin : ∀ {listed : Array Bool} {l : List St} {s : S} {j : Nat} {E : Env} {tm : Array Value} {ρ : List AV} {ds : List Deferred} {w : World} {cs : List Frame}, listed.size = R.ops.size → (∀ i, i < R.ops.size → listed.getD i false = true) →
      R.Inv (fun i => listed.getD i false = true) l s j E tm ρ ds w cs → R.Inv (fun i => i < R.ops.size) l s j E tm ρ ds w cs := fun {listed l s j E tm ρ ds w cs} hs h I => I.congr fun i => ⟨fun hi => h i hi, fun hi => I.lt i hi⟩
  induction fuel with
  | zero =>
    intro t listed hs hle l s j E tm ρ ds w cs I hheap
    have h0 : ∀ i, i < R.ops.size → listed.getD i false = true := fun i hi => by
      have h0 : left R.ops listed = 0 := by omega
      have := List.countP_eq_zero.1 h0 i (List.mem_range.2 hi)
      simpa [Array.getD, hs, hi] using this
    exact ⟨E, tm, ρ, ds, w, cs, l, s, j, fin hs h0 I, by simp only [Region.linearise.go, List.reverse_nil]; exact .refl _ _⟩
  | succ fuel ih =>
    intro t listed hs hle l s j E tm ρ ds w cs I hheap
    simp only [Region.linearise.go]
    change ∃ E' tm' ρ' ds' w' cs' l' s' j', R.Inv (fun i => i < R.ops.size) l' s' j' E' tm' ρ' ds' w' cs' ∧
      Steps R.C.P (lone (Go.Ai.run b tm ds (.inRegion R.ops (match (Region.ready .any R.ops listed)[t % (Region.ready .any R.ops listed).length]? with
        | some i => Region.linearise.go .any R.ops fuel (t / (Region.ready .any R.ops listed).length) (listed.setIfInBounds i true) [i]
        | none => [].reverse) :: k)) cs w) (lone (Go.Ai.run b tm' ds' (.inRegion R.ops [] :: k)) cs' w')
    cases hi : (Region.ready .any R.ops listed)[t % (Region.ready .any R.ops listed).length]? with
    | none =>
      have hnil : Region.ready .any R.ops listed = [] := by
        cases hr : Region.ready .any R.ops listed with
        | nil => rfl
        | cons x xs =>
          rw [hr] at hi
          have hlt : t % (x :: xs).length < (x :: xs).length := Nat.mod_lt _ (by simp)
          simp at hi
          simp at hlt
          omega
      exact ⟨E, tm, ρ, ds, w, cs, l, s, j, fin hs (ready_nil hp hnil hs) I, by simp only [List.reverse_nil]; exact .refl _ _⟩
    | some i =>
      simp only []
      rw [linearise_go_acc, List.reverse_singleton, List.singleton_append]
      obtain ⟨h1, h2, o, ho, h3⟩ := mem_ready.1 (List.mem_of_getElem? hi)
      have hlf : listed.getD i false = false := by simpa [Array.getD, hs, h1] using h2
      obtain ⟨E1, tm1, ρ1, ds1, w1, cs1, l1, s1, j1, I1, hh1, st1⟩ := I.one hT hXt hcall hp hpn hm hheap ho (by rw [hlf]; simp) h3 (b := b) (rest := Region.linearise.go .any R.ops fuel (t / (Region.ready .any R.ops listed).length) (listed.setIfInBounds i true) []) (k := k) hrc
      have hlt := left_set hs h1 h2
      obtain ⟨E', tm', ρ', ds', w', cs', l', s', j', I', st'⟩ := ih (t / (Region.ready .any R.ops listed).length) (listed.setIfInBounds i true) (by simpa using hs) (by omega) (I1.congr fun q => by
        rw [getD_set (by omega)]
        by_cases e : q = i <;> simp [e]) hh1
      exact ⟨E', tm', ρ', ds', w', cs', l', s', j', I', st1.trans st'⟩

/-- Behind all of them both temporaries are the same. -/
theorem Reg.Inv.done {R : Reg} (hp : PlanP R.ops (masks R.ops.toList []) R.p) {l : List St} {s : S} {j : Nat} {E : Env} {tm : Array Value} {ρ : List AV} {ds : List Deferred} {w : World} {cs : List Frame}
    (I : R.Inv (fun i => i < R.ops.size) l s j E tm ρ ds w cs) : Ext R.E0 R.h0 R.w0 E R.f.h w ∧ SR E R.f tm ds w ∧ CsTo R.rc0 R.cs0 R.f.rc cs := by
  have hne : ∀ a ∈ l, effAt R.ops a.i = false := fun a ha => by
    cases he : effAt R.ops a.i with
    | false => rfl
    | true => exact absurd (List.mem_map.2 ⟨a, ha, rfl⟩) ((I.eff a.i he).1 (I.lin a ha)).2
  have hal : ∀ a ∈ l, alAt R.ops a.i = true → a.i < R.ops.size := fun a ha _ => I.lin a ha
  have I0 : R.Inv (fun i => i < R.ops.size) (l ++ []) s j E tm ρ ds w cs := by simpa using I
  obtain ⟨s', I'⟩ := I0.walks hp l hne hal
  have hf : s' = R.f := by cases I'.run; rfl
  subst hf
  have hρ : ρ = R.f.ρ := by
    apply List.ext_getElem?
    intro d
    have hYX : ∀ i, R.Y [] i ↔ i < R.ops.size := fun i => by simp [Reg.Y]
    have h1 := I'.ov
    have h2 : Ov R.ops R.v R.ρ0 (fun i => i < R.ops.size) R.f.ρ := I'.ovY.congr fun i => (hYX i).symm
    by_cases hk : ∃ k, k < R.ops.size ∧ dstAt R.ops k = some d
    · obtain ⟨k, hk1, hk2⟩ := hk
      rw [h1.2 k d hk1 hk2, h2.2 k d hk1 hk2]
    · rw [h1.1 d fun k hX e => hk ⟨k, hX, e⟩, h2.1 d fun k hX e => hk ⟨k, hX, e⟩]
  exact ⟨I'.ext, ⟨hρ ▸ I'.vr, I'.dr, I'.hr⟩, I'.cs⟩

theorem planTop_nodup {ops : Array Oper} : ∀ (l : List St) {seen : List Nat}, planOk.planTop ops l seen = true → (l.map (·.i)).Nodup ∧ (∀ t ∈ l, t.i ∉ seen) ∧ ∀ t ∈ l, t.i < ops.size := by
  intro l
  induction l with
  | nil => intro seen _; exact ⟨.nil, fun t ht => (by cases ht), fun t ht => (by cases ht)⟩
  | cons a l ih =>
    intro seen h
    simp only [planOk.planTop, Bool.and_eq_true] at h
    obtain ⟨⟨h1, h2⟩, h3⟩ := h
    obtain ⟨g1, g2, g3⟩ := ih h3
    refine ⟨?_, fun t ht => ?_, fun t ht => ?_⟩
    · simp only [List.map_cons, List.nodup_cons]
      refine ⟨fun hm => ?_, g1⟩
      obtain ⟨t, ht, e⟩ := List.mem_map.1 hm
      exact g2 t ht (by rw [e]; simp)
    · rcases List.mem_cons.1 ht with rfl | ht
      · simpa using h2
      · exact fun hm => g2 t ht (List.mem_cons_of_mem _ hm)
    · rcases List.mem_cons.1 ht with rfl | ht
      · rcases Nat.lt_or_ge t.i ops.size with h | h
        · exact h
        · rw [Array.getElem?_eq_none h] at h1; cases h1
      · exact g3 t ht

/-- THE REGIONS WHOSE ORDER IS DRAWN. -/
theorem draw_ok {C : Cfg} (hT : TOk C) (hX : XtOk C) (hm : C.P.follows .mixedOrders = true) {call : CallF} (hcall : CallOk C call) (f : FuncId) (n : Nat) : DrawOk C call f n := by
  intro b hb id ops k s r he E t ds w cs hs hrc
  simp only [evalC, if_true] at he
  split at he
  · rename_i hpl
    have hp := planP hpl
    obtain ⟨hpn, _, hplt⟩ := planTop_nodup _ hp.top
    obtain ⟨v, bw, ob, snaps, fs, g1, _, g3, rfl⟩ := run_of_draw _ hpn (by simp) he
    let R : Reg := { C, call, ops, p := planOf ops (masks ops.toList []), base := s.h.next, v, bw, ob, snaps, ρ0 := s.ρ, f := fs, E0 := E, h0 := s.h, w0 := { w with drawn := w.drawn + 1 }, rc0 := s.rc, cs0 := cs }
    have hY : ∀ i, ¬ R.Y R.p i := fun i h => by
      obtain ⟨t, ht, e⟩ := hp.all i h.1
      exact h.2 (List.mem_map.2 ⟨t, ht, e⟩)
    have hov : Ov ops v s.ρ (R.Y R.p) s.ρ := ⟨fun _ _ => rfl, fun i _ h => absurd h (hY i)⟩
    have hdY : Down ops.toList (R.Y R.p) := fun i _ _ h => absurd h (hY i)
    have htop : ∃ seen, planOk.planTop ops R.p seen = true ∧ ∀ i, i ∈ seen ↔ R.Y R.p i := ⟨[], hp.top, fun i => ⟨fun h => (by cases h), fun h => absurd h (hY i)⟩⟩
    have hl0 : ∀ i, (Array.replicate ops.size false).getD i false = false := fun i => by
      simp only [Array.getD_eq_getD_getElem?, Array.getElem?_replicate]
      split <;> rfl
    have hr0 : HR E s.h { w with drawn := w.drawn + 1 } := hs.h.world rfl
    have hr1 : HR E { s.h with next := s.h.next + ops.size } { w with drawn := w.drawn + 1 } := ⟨fun i x hx => by have := hr0.dom i x hx; simp; omega, hr0.live, hr0.inj, hr0.imm, hr0.apart⟩
    have I : R.Inv (fun i => (Array.replicate ops.size false).getD i false = true) R.p { s with h := { s.h with next := s.h.next + ops.size } } 0 E t s.ρ ds { w with drawn := w.drawn + 1 } cs := by
      refine ⟨g3, hpn, hplt, fun i _ => ?_, fun i _ _ h => ?_, fun i h => ?_, ⟨fun _ _ => rfl, fun i _ h => ?_⟩, rfl, hov, rfl, hdY, fun i _ h => absurd h (hY i), hs.ρ, hs.d, hr1, .inl ⟨rfl, rfl⟩, ?_, fun i _ h => ?_, fun i _ _ _ _ _ h => ?_, fun i _ _ => ?_, Nat.le_refl _, rfl, htop, ⟨[], rfl, rfl⟩⟩
      · rw [hl0]; exact ⟨fun h => (by cases h), fun h => absurd h (hY i)⟩
      · exact Bool.noConfusion ((hl0 i).symm.trans h)
      · exact Bool.noConfusion ((hl0 i).symm.trans h)
      · exact Bool.noConfusion ((hl0 i).symm.trans h)
      · exact ⟨E.le_refl, Nat.le_add_right _ _, rfl, rfl, rfl, Nat.le_refl _, fun _ _ _ => rfl, fun _ h => .inl h, fun _ _ h => .inl h, fun _ _ h => .inl h⟩
      · exact Bool.noConfusion ((hl0 i).symm.trans h)
      · exact Bool.noConfusion ((hl0 i).symm.trans h)
      · cases hq : E.m (s.h.next + i) with
        | none => rfl
        | some x => have := hs.h.dom _ _ hq; omega
    have hheap : R.snaps[0]? = some { s.h with next := s.h.next + ops.size } := by
      obtain ⟨tl, htl⟩ := g1
      show snaps[0]? = _
      rw [← htl]; rfl
    have hmom : ∀ t ∈ R.p, effAt R.ops t.i = false → ∃ o ρ Y, R.Moment t o ρ Y := Reg.moments hp R.p g3 hpn hplt hov rfl hdY htop
    obtain ⟨E', tm', ρ', ds', w', cs', l', s', j', I', st'⟩ := I.all hT hX hcall hp hpn hmom (b := b) (k := k) hrc ops.size (w.tape w.drawn (.order b.fn id)) (Array.replicate ops.size false) (by simp [R]) (by unfold left; exact Nat.le_trans List.countP_le_length (by simp [R])) hheap
    obtain ⟨q1, q2, q3⟩ := I'.done hp
    have q0 : Ext E s.h w E s.h { w with drawn := w.drawn + 1 } := Ext.world rfl rfl rfl rfl
    have q1 : Ext E s.h { w with drawn := w.drawn + 1 } E' fs.h w' := q1
    refine ⟨E', tm', ds', w', cs', q0.trans q1, q2, q3, .head st_region_draw ?_⟩
    have hsch : Region.schedule (C.P.follows .mixedOrders) ops (w.tape w.drawn (.order b.fn id)) = Region.linearise.go .any ops ops.size (w.tape w.drawn (.order b.fn id)) (Array.replicate ops.size false) [] := by
      rw [hm]
      simp [Region.schedule, Region.linearise]
    rw [hsch]
    exact st'.trans (.one st_region_end)
  · cases he

end Go.Ai
