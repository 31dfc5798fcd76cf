import Derived.Test.YtelmlhlkefmjkaaGreatDoorAiE
import Derived.Calls
set_option linter.unusedSimpArgs false
set_option linter.unusedVariables false
/- The machine's steps at a frame that runs, of whatever kind. -/
namespace Go.Ai
open Go.RowKit

/-- A frame as it runs. -/
def run (b : Frame) (tmps : Array Value) (ds : List Deferred) (todo : List Item) : Frame := { b with tmps, todo, defers := ds, mode := .run }

/-- The same frame, as it returns. -/
def leaves (b : Frame) (tmps : Array Value) (ds : List Deferred) (todo : List Item) (mode : FrameMode) : Frame := { b with tmps, todo, defers := ds, mode }

section steps
variable {P : Program} {b : Frame} {t : Array Value} {ds : List Deferred} {k : List Item} {cs : List Frame} {w : World}

theorem eval_run (x : Operand) : (run b t ds k).eval x = evT t x := by cases x <;> rfl
theorem eval_run' : (run b t ds k).eval = evT t := funext fun x => eval_run x

theorem st_skip : step P (lone (run b t ds (.code .skip :: k)) cs w) = .next (lone (run b t ds k) cs w) := step_lone_go (by simp [stepG, stepG.exec, run])
theorem st_label {l : Nat} : step P (lone (run b t ds (.code (.label l) :: k)) cs w) = .next (lone (run b t ds k) cs w) := step_lone_go (by simp [stepG, stepG.exec, run])
theorem st_inBlock {id : Nat} : step P (lone (run b t ds (.inBlock id :: k)) cs w) = .next (lone (run b t ds k) cs w) := step_lone_go (by simp [stepG, stepG.exec, run])
theorem st_inScope {c : Code} : step P (lone (run b t ds (.inScope c :: k)) cs w) = .next (lone (run b t ds k) cs w) := step_lone_go (by simp [stepG, stepG.exec, run])
theorem st_seq {x y : Code} : step P (lone (run b t ds (.code (.seq x y) :: k)) cs w) = .next (lone (run b t ds (.code x :: .code y :: k)) cs w) := step_lone_go (by simp [stepG, stepG.exec, run])
theorem st_cond {c : Operand} {x y : Code} {v : Bool} (h : evT t c = .bool v) :
    step P (lone (run b t ds (.code (.cond c x y) :: k)) cs w) = .next (lone (run b t ds (.code (if v then x else y) :: k)) cs w) :=
  step_lone_go (by
    have := eval_run (b := b) (t := t) (ds := ds) (k := .code (.cond c x y) :: k) c
    simp only [run] at this
    simp [stepG, stepG.exec, run, this, h])
theorem st_block {id : Nat} {c : Code} : step P (lone (run b t ds (.code (.block id c) :: k)) cs w) = .next (lone (run b t ds (.code c :: .inBlock id :: k)) cs w) := step_lone_go (by simp [stepG, stepG.exec, run])
theorem st_loop {c : Code} : step P (lone (run b t ds (.code (.loop c) :: k)) cs w) = .next (lone (run b t ds (.code c :: .inLoop c :: k)) cs w) := step_lone_go (by simp [stepG, stepG.exec, run])
theorem st_inLoop {c : Code} : step P (lone (run b t ds (.inLoop c :: k)) cs w) = .next (lone (run b t ds (.code c :: .inLoop c :: k)) cs w) := step_lone_go (by simp [stepG, stepG.exec, run])
theorem st_scope {c : Code} : step P (lone (run b t ds (.code (.scope c) :: k)) cs w) = .next (lone (run b t ds (.code c :: .inScope c :: k)) cs w) := step_lone_go (by simp [stepG, stepG.exec, run])
theorem st_exit {id : Nat} {k' : List Item} (h : exitTo id k = some k') : step P (lone (run b t ds (.code (.exit id) :: k)) cs w) = .next (lone (run b t ds k') cs w) := step_lone_go (by simp [stepG, stepG.exec, run, h])
theorem st_ret (h : b.roundOf = none) : step P (lone (run b t ds (.code .ret :: k)) cs w) = .next (lone (leaves b t ds (.code .ret :: k) .returning) cs w) := step_lone_go (by simp [stepG, stepG.exec, run, leaves, h])
theorem st_end (h : b.roundOf = none) : step P (lone (run b t ds []) cs w) = .next (lone (leaves b t ds [] .returning) cs w) := step_lone_go (by simp [stepG, stepG.exec, run, leaves, h])

theorem st_region {id : Nat} {ops : Array Oper} : step P (lone (run b t ds (.code (.region id ops false) :: k)) cs w) = .next (lone (run b t ds (.inRegion ops (List.range ops.size) :: k)) cs w) := step_lone_go (by simp [stepG, stepG.exec, run])
theorem st_region_draw {id : Nat} {ops : Array Oper} : step P (lone (run b t ds (.code (.region id ops true) :: k)) cs w) =
    .next (lone (run b t ds (.inRegion ops (Region.schedule (P.follows .mixedOrders) ops (w.tape w.drawn (.order b.fn id))) :: k)) cs { w with drawn := w.drawn + 1 }) :=
  step_lone_go (by simp [stepG, stepG.exec, run, choose, Sem.run, Question.forced, Question.cut])
theorem st_region_end {ops : Array Oper} : step P (lone (run b t ds (.inRegion ops [] :: k)) cs w) = .next (lone (run b t ds k) cs w) := step_lone_go (by simp [stepG, stepG.exec, run])

def putT (t : Array Value) (d : Option Tmp) (v : Value) : Array Value :=
  match d with
  | some d => t.setIfInBounds d v
  | none => t

theorem finish_run {ops : Array Oper} {i : Nat} {rest : List Nat} (v : Value) : (run b t ds (.inRegion ops (i :: rest) :: k)).finish v = run b (putT t ((ops[i]?).bind (·.dst)) v) ds (.inRegion ops rest :: k) := by
  cases h : (ops[i]?).bind (·.dst) <;> simp [Frame.finish, run, putT, h]

theorem st_op_skip {ops : Array Oper} {i : Nat} {rest : List Nat} (h : ((ops[i]?).map (Region.wanted · (yielded ops t))).getD false = false) :
    step P (lone (run b t ds (.inRegion ops (i :: rest) :: k)) cs w) = .next (lone (run b (putT t ((ops[i]?).bind (·.dst)) undef) ds (.inRegion ops rest :: k)) cs w) := by
  rw [← finish_run]
  exact step_lone_go (by
    have h' := h
    simp only [run] at *
    simp [stepG, stepG.exec, h'])

def isDefer : Op → Bool
  | .defer _ => true
  | _ => false

theorem stepG_op' {ops : Array Oper} {i : Nat} {rest : List Nat} {o : Oper} (ho : ops[i]? = some o) (hw : Region.wanted o (yielded ops t) = true) (hd : b.roundOf = none ∨ isDefer o.op = false) :
    stepG P true { frame := run b t ds (.inRegion ops (i :: rest) :: k), callers := cs, status := .running, dying := none } w =
      stepG.apply P true (run b t ds (.inRegion ops (i :: rest) :: k)) cs none (execOp (evT t) o) w := by
  have he := eval_run' (b := b) (t := t) (ds := ds) (k := .inRegion ops (i :: rest) :: k)
  simp only [run] at he
  rcases hd with hd | hd
  · simp [stepG, stepG.exec, stepG.oper, Frame.oper?, run, ho, hw, hd] at he ⊢
    rw [he]
  · simp only [stepG, stepG.exec, stepG.oper, Frame.oper?, run, ho, hw, Option.map_some, Option.getD_some, if_true, he]
    cases hr : b.roundOf with
    | none => simp
    | some l => cases hop : o.op <;> first | rfl | (rw [hop] at hd; simp [isDefer] at hd)

end steps
end Go.Ai

/- Code: what the interpreter says of it, the machine does. -/
namespace Go.Ai
open Go.RowKit

inductive DR (E : Env) : List D → List Deferred → Prop
  | nil : DR E [] []
  | call {f : FuncId} {args : List AV} {cargs cap : Array Value} {l : List D} {cl : List Deferred} (h : VRs E args (cargs ++ cap).toList) (hl : DR E l cl) :
      DR E (.call f args :: l) ({ target := .fn (.func f) cap, args := cargs } :: cl)
  | mark {id : Nat} {x : M} {l : List D} {cl : List Deferred} (h : E.m id = some x) (hl : DR E l cl) : DR E (.mark id :: l) ({ target := .collected x.blk, args := #[] } :: cl)

theorem DR.mono {E E' : Env} (hE : E.le E') {l : List D} {cl : List Deferred} (h : DR E l cl) : DR E' l cl := by
  induction h with
  | nil => exact .nil
  | call h _ ih => exact .call (h.mono hE) ih
  | mark h _ ih => exact .mark (hE.1 _ _ h) ih

structure SR (E : Env) (s : S) (t : Array Value) (ds : List Deferred) (w : World) : Prop where
  ρ : VRs E s.ρ t.toList
  d : DR E s.ds ds
  h : HR E s.h w

/-- What recover would find, with these frames above. -/
def RcOk (E : Env) (b : Frame) (cs : List Frame) : RC → Prop
  | .no => True
  | .nil => b.roundOf = none ∧ tryRecover b cs = none
  | .pan v => b.roundOf = none ∧ b.kind = .deferred ∧ ∃ c rest cv, cs = c :: rest ∧ c.mode = .panicking [{ v := cv, recovered := false }] ∧ VR E v cv

/-- The frames above: as they were, or with the panic recovered. -/
def CsTo (rc : RC) (cs : List Frame) (rc' : RC) (cs' : List Frame) : Prop :=
  (rc' = rc ∧ cs' = cs) ∨ (∃ v c rest cv, rc = .pan v ∧ rc' = .nil ∧ cs = c :: rest ∧ c.mode = .panicking [{ v := cv, recovered := false }] ∧
    cs' = { c with mode := .panicking [{ v := cv, recovered := true }] } :: rest)

theorem CsTo.trans {a b c : RC} {x y z : List Frame} (h : CsTo a x b y) (k : CsTo b y c z) : CsTo a x c z := by
  rcases h with ⟨rfl, rfl⟩ | ⟨v, f, rest, cv, rfl, rfl, rfl, hm, rfl⟩
  · exact k
  · rcases k with ⟨rfl, rfl⟩ | ⟨v', _, _, _, h, _⟩
    · exact .inr ⟨v, f, rest, cv, rfl, rfl, rfl, hm, rfl⟩
    · cases h

theorem RcOk.to {E E' : Env} (hE : E.le E') {b : Frame} {rc rc' : RC} {cs cs' : List Frame} (h : RcOk E b cs rc) (k : CsTo rc cs rc' cs') : RcOk E' b cs' rc' := by
  rcases k with ⟨rfl, rfl⟩ | ⟨v, c, rest, cv, rfl, rfl, rfl, hm, rfl⟩
  · cases rc' with
    | no => trivial
    | nil => exact h
    | pan v => obtain ⟨h1, h2, c, rest, cv, h3, h4, h5⟩ := h; exact ⟨h1, h2, c, rest, cv, h3, h4, h5.mono hE⟩
  · obtain ⟨h1, h2, _⟩ := h
    refine ⟨h1, ?_⟩
    unfold tryRecover
    rw [h2]

/-- Where the machine comes to, from m on, if the code of frame b ends so. -/
def Lands (P : Program) (b : Frame) (m : Machine) (k : List Item) (E : Env) (h : H) (w : World) (rc : RC) (cs : List Frame) (r : Ex × S) : Prop :=
  ∃ E' t' ds' w' cs', Ext E h w E' r.2.h w' ∧ SR E' r.2 t' ds' w' ∧ CsTo rc cs r.2.rc cs' ∧ match r.1 with
    | .normal => Steps P m (lone (run b t' ds' k) cs' w')
    | .exit id => ∀ k', exitTo id k = some k' → Steps P m (lone (run b t' ds' k') cs' w')
    | .ret => b.roundOf = none → ∃ todo, Steps P m (lone (leaves b t' ds' todo .returning) cs' w')
    | .panic v => ∃ todo cv, VR E' v cv ∧ Steps P m (lone (leaves b t' ds' todo (.panicking [{ v := cv, recovered := false }])) cs' w')

theorem Lands.of_steps {P : Program} {b : Frame} {m m₁ : Machine} {k : List Item} {E : Env} {h : H} {w : World} {rc : RC} {cs : List Frame} {r : Ex × S} (hs : Steps P m m₁) (hl : Lands P b m₁ k E h w rc cs r) : Lands P b m k E h w rc cs r := by
  obtain ⟨E', t', ds', w', cs', h1, h2, h3, h4⟩ := hl
  refine ⟨E', t', ds', w', cs', h1, h2, h3, ?_⟩
  obtain ⟨ex, s⟩ := r
  cases ex with
  | normal => exact hs.trans h4
  | exit id => exact fun k' hk => hs.trans (h4 k' hk)
  | ret => exact fun hr => let ⟨todo, h5⟩ := h4 hr; ⟨todo, hs.trans h5⟩
  | panic v => obtain ⟨todo, cv, h5, h6⟩ := h4; exact ⟨todo, cv, h5, hs.trans h6⟩

/-- What came first, and what came of it. -/
theorem Lands.after {P : Program} {b : Frame} {m : Machine} {k : List Item} {E E₁ : Env} {h h₁ : H} {w w₁ : World} {rc rc₁ : RC} {cs cs₁ : List Frame} {r : Ex × S} (hx : Ext E h w E₁ h₁ w₁) (hc : CsTo rc cs rc₁ cs₁)
    (hl : Lands P b m k E₁ h₁ w₁ rc₁ cs₁ r) : Lands P b m k E h w rc cs r := by
  obtain ⟨E', t', ds', w', cs', h1, h2, h3, h4⟩ := hl
  exact ⟨E', t', ds', w', cs', hx.trans h1, h2, hc.trans h3, h4⟩

/-! ### Calls -/
/-- How a function's frame ends. -/
def Ends (P : Program) (f : FuncId) (m : Machine) (kind : CallKind) (cs : List Frame) (E : Env) (w : World) : AR → Prop
  | .ret v => ∃ cv fr, VR E v cv ∧ Steps P m (lone fr cs w) ∧ fr.fn = f ∧ fr.kind = kind ∧ fr.mode = .returning ∧ fr.defers = [] ∧ ∃ fn, P.funcs[f]? = some fn ∧ (results fn fr.tmps).run P w = .ok cv w
  | .panic v => ∃ cv fr, VR E v cv ∧ Steps P m (lone fr cs w) ∧ fr.fn = f ∧ fr.kind = kind ∧ fr.mode = .panicking [{ v := cv, recovered := false }] ∧ fr.defers = [] ∧ ∃ fn, P.funcs[f]? = some fn

def KindOk (kind : CallKind) (cs : List Frame) : Prop := kind = .normal ∨ kind = .deferred ∧ ∃ c rest, cs = c :: rest ∧ c.mode = .returning

/-- A call of a function. -/
def FnOk (C : Cfg) (f : FuncId) (args : List AV) (h : H) (r : AR) (h' : H) : Prop :=
  ∀ E w (cargs : Array Value), HR E h w → VRs E args cargs.toList → (∀ w₀, (callFunc f cargs).run C.P w₀ = .ok (.enter f cargs) w₀) ∧
    ∀ kind cs, (kind = .normal ∨ (C.sp f).isNone ∧ KindOk kind cs) → ∃ E' w', Ext E h w E' h' w' ∧ HR E' h' w' ∧ Ends C.P f (lone (Frame.enter C.P f cargs kind) cs w) kind cs E' w' r

/-- A round of a loop over a function. -/
def RoundOk (C : Cfg) (id : Nat) (args : List AV) (h : H) (r : AR) (h' : H) : Prop :=
  ∀ E w (cargs : Array Value) (x : M), HR E h w → VRs E args cargs.toList → E.m id = some x → ∃ l f tmps as bd, (Instr.yield x.blk cargs).run C.P w = .ok (.round l f tmps as bd) w ∧
    ∀ c cs, ∃ E' w' v cv, r = .ret v ∧ VR E' v cv ∧ Ext E h w E' h' w' ∧ HR E' h' w' ∧ Steps C.P (lone (Frame.round l f tmps as bd .normal) (c :: cs) w) (lone (c.finish cv) cs w')

/-- A deferred call under a panic. -/
def DfnOk (C : Cfg) (f : FuncId) (v : AV) (args : List AV) (h : H) (r : AR) (h' : H) : Prop :=
  ∀ E w (cargs : Array Value), HR E h w → VRs E args cargs.toList → (∀ w₀, (callFunc f cargs).run C.P w₀ = .ok (.enter f cargs) w₀) ∧
    ∀ c cs cv, c.mode = .panicking [{ v := cv, recovered := false }] → VR E v cv → r = .ret (.bool true) → ∃ E' w', Ext E h w E' h' w' ∧ HR E' h' w' ∧
      Steps C.P (lone (Frame.enter C.P f cargs .deferred) (c :: cs) w) (lone { c with mode := .returning } cs w')

def CallOk (C : Cfg) (call : CallF) : Prop := ∀ cl args h r h', call cl args h = some (r, h') → match cl with
  | .fn f => FnOk C f args h r h'
  | .round id => RoundOk C id args h r h'
  | .dfn f v => DfnOk C f v args h r h'

/-! ### One operation -/
theorem wantedA_ok {E : Env} {ρ : List AV} {t : Array Value} (hρ : VRs E ρ t.toList) {ops : Array Oper} {o : Oper} {b : Bool} (h : wantedA ρ ops o = some b) : Region.wanted o (yielded ops t) = b := by
  unfold wantedA at h
  unfold Region.wanted
  split at h
  · rename_i hg; rw [hg]; cases h; rfl
  · rename_i j want hg
    rw [hg]
    simp only
    have key : ∀ v, ((ops[j]?).bind (·.dst)).bind (ρ[·]?) = some v → ∃ cv, ((ops[j]?).bind (·.dst)).bind (t[·]?) = some cv ∧ VR E v cv := fun v hv => by
      simp only [Option.bind_eq_some_iff] at hv
      obtain ⟨d, hd, hv⟩ := hv
      obtain ⟨cv, h1, h2⟩ := hρ.get hv
      rw [Array.getElem?_toList] at h1
      exact ⟨cv, by simp only [Option.bind_eq_some_iff]; exact ⟨d, hd, h1⟩, h2⟩
    split at h
    · rename_i c hc
      obtain ⟨cv, h1, h2⟩ := key _ hc
      cases h2
      cases h
      simp [yielded, h1]
    · rename_i hc
      obtain ⟨cv, h1, h2⟩ := key _ hc
      cases h
      cases h2
      simp [yielded, h1]
    · cases h

end Go.Ai

/- One operation of a region, on the machine. -/
namespace Go.Ai
open Go.RowKit

theorem execA_defer {C : Cfg} {ρ : List AV} {o : Oper} {h : H} {eff : Eff} (hd : isDefer o.op = true) (he : execA C ρ o h = some eff) : ∃ f args, eff = .defer f args := by
  cases hop : o.op <;> rw [hop] at hd <;> simp [isDefer] at hd
  rename_i c
  unfold execA at he
  simp only [hop, Option.bind_eq_bind, Option.bind_eq_some_iff] at he
  obtain ⟨args, _, he⟩ := he
  split at he
  · simp only [Option.bind_eq_some_iff] at he
    obtain ⟨a, _, he⟩ := he
    split at he
    · cases he; exact ⟨_, _, rfl⟩
    · cases he
  · cases he

theorem put_ρ {s : S} {d : Option Tmp} {v : AV} : (s.put d v).ρ = (match d with | some d => s.ρ.set d v | none => s.ρ) := by cases d <;> rfl
theorem put_ds {s : S} {d : Option Tmp} {v : AV} : (s.put d v).ds = s.ds := by cases d <;> rfl
theorem put_rc {s : S} {d : Option Tmp} {v : AV} : (s.put d v).rc = s.rc := by cases d <;> rfl
theorem put_h {s : S} {d : Option Tmp} {v : AV} : (s.put d v).h = s.h := by cases d <;> rfl

theorem SR.put {E : Env} {s : S} {t : Array Value} {ds : List Deferred} {w : World} (hs : SR E s t ds w) {v : AV} {cv : Value} (hv : VR E v cv) (d : Option Tmp) : SR E (s.put d v) (putT t d cv) ds w := by
  cases d with
  | none => exact hs
  | some d =>
    refine ⟨?_, hs.d, hs.h⟩
    show VRs E (s.ρ.set d v) (t.setIfInBounds d cv).toList
    rw [Array.toList_setIfInBounds]
    exact hs.ρ.set hv d

theorem SR.step {E E' : Env} {s : S} {t : Array Value} {ds : List Deferred} {w w' : World} {h' : H} (hs : SR E s t ds w) (hx : Ext E s.h w E' h' w') (hr : HR E' h' w') : SR E' { s with h := h' } t ds w' :=
  ⟨hs.ρ.mono hx.le, hs.d.mono hx.le, hr⟩

theorem op_ok {C : Cfg} (hT : TOk C) (hX : XtOk C) {call : CallF} (hcall : CallOk C call) {b : Frame} {ops : Array Oper} {i : Nat} {rest : List Nat} {o : Oper} {k : List Item} {s : S} {r : Ex × S} (ho : ops[i]? = some o)
    (he : stepOp C call ops o s = some r) {E : Env} {t : Array Value} {ds : List Deferred} {w : World} {cs : List Frame} (hs : SR E s t ds w) (hrc : RcOk E b cs s.rc) :
    Lands C.P b (lone (run b t ds (.inRegion ops (i :: rest) :: k)) cs w) (.inRegion ops rest :: k) E s.h w s.rc cs r := by
  have hdst : (ops[i]?).bind (·.dst) = o.dst := by rw [ho]; rfl
  simp only [stepOp, Option.bind_eq_some_iff] at he
  obtain ⟨bw, hbw, he⟩ := he
  have hwant := wantedA_ok hs.ρ hbw
  cases bw with
  | false =>
    simp only [Bool.false_eq_true, if_false, Option.some.injEq] at he
    subst he
    refine ⟨E, _, ds, w, cs, by rw [put_h]; exact Ext.refl _ _ _, hs.put (VR.undef E) o.dst, .inl ⟨put_rc, rfl⟩, .one ?_⟩
    rw [← hdst]
    exact st_op_skip (by rw [ho]; simpa using hwant)
  | true =>
    simp only [if_true, Option.bind_eq_some_iff] at he
    obtain ⟨eff, heff, he⟩ := he
    have hok := execA_ok hT hX hs.h hs.ρ heff
    have hd : b.roundOf = none ∨ isDefer o.op = false := by
      cases hq : isDefer o.op with
      | false => exact .inr rfl
      | true =>
        obtain ⟨f, args, rfl⟩ := execA_defer hq heff
        cases hr : s.rc with
        | no => simp only [hr] at he; cases he
        | nil => rw [hr] at hrc; exact .inl hrc.1
        | pan v => rw [hr] at hrc; exact .inl hrc.1
    have hg := stepG_op' (P := C.P) (b := b) (ds := ds) (k := k) (cs := cs) (w := w) (rest := rest) ho hwant hd
    have hfin : ∀ v, (run b t ds (.inRegion ops (i :: rest) :: k)).finish v = run b (putT t o.dst v) ds (.inRegion ops rest :: k) := fun v => by rw [finish_run, hdst]
    cases eff with
    | val v h' =>
      simp only [Option.some.injEq] at he; subst he
      obtain ⟨nx, cv, w', E', h1, h2, h3, h4, h5⟩ := hok
      refine ⟨E', _, ds, w', cs, by rw [put_h]; exact h5, (hs.step h5 h4).put h3 o.dst, .inl ⟨put_rc, rfl⟩, .one (step_lone_go ?_)⟩
      rw [hg, ← hfin]
      rcases h2 with rfl | ⟨rfl, rfl⟩
      · simp [stepG.apply, h1]
      · simp [stepG.apply, h1]
    | call cl args =>
      simp only [Option.bind_eq_some_iff] at he
      obtain ⟨⟨ar, h'⟩, hc, he⟩ := he
      have hcl := hcall cl args s.h ar h' hc
      cases cl with
      | fn f =>
        obtain ⟨cargs, h1, h2, h3⟩ := hok
        obtain ⟨g1, g2⟩ := hcl E w cargs hs.h h1
        obtain ⟨E', w', g3, g4, g5⟩ := g2 .normal (run b t ds (.inRegion ops (i :: rest) :: k) :: cs) (.inl rfl)
        have henter : step C.P (lone (run b t ds (.inRegion ops (i :: rest) :: k)) cs w) = .next (lone (Frame.enter C.P f cargs .normal) (run b t ds (.inRegion ops (i :: rest) :: k) :: cs) w) :=
          step_lone_go (by rw [hg]; simp [stepG.apply, h2, g1, run])
        cases ar with
        | ret v =>
          simp only [Option.some.injEq] at he; subst he
          obtain ⟨cv, fr, q1, q2, q3, q4, q5, q6, fn, q7, q8⟩ := g5
          refine ⟨E', _, ds, w', cs, by rw [put_h]; exact g3, (hs.step g3 g4).put q1 o.dst, .inl ⟨put_rc, rfl⟩, .head henter (q2.trans (.one ?_))⟩
          rw [← hfin]
          exact step_leave_returned ⟨q5, q6, q4, fn, by rw [q3]; exact q7, q8⟩
        | panic v =>
          simp only [Option.some.injEq] at he; subst he
          obtain ⟨cv, fr, q1, q2, q3, q4, q5, q6, fn, q7⟩ := g5
          refine ⟨E', _, ds, w', cs, g3, hs.step g3 g4, .inl ⟨rfl, rfl⟩, .inRegion ops (i :: rest) :: k, cv, q1, .head henter (q2.trans (.one ?_))⟩
          exact step_leave_panicked (chain := [{ v := cv, recovered := false }]) ⟨q5, q6, fn, by rw [q3]; exact q7⟩
      | round id =>
        obtain ⟨x, cargs, h0, h1, h2⟩ := hok
        obtain ⟨l, f, tm, as, bd, g1, g2⟩ := hcl E w cargs x hs.h h1 h0
        obtain ⟨E', w', v, cv, rfl, g3, g4, g5, g6⟩ := g2 (run b t ds (.inRegion ops (i :: rest) :: k)) cs
        simp only [Option.some.injEq] at he; subst he
        refine ⟨E', _, ds, w', cs, by rw [put_h]; exact g4, (hs.step g4 g5).put g3 o.dst, .inl ⟨put_rc, rfl⟩, .head (m₁ := lone (Frame.round l f tm as bd .normal) (run b t ds (.inRegion ops (i :: rest) :: k) :: cs) w) ?_ ?_⟩
        · exact step_lone_go (by rw [hg]; simp [stepG.apply, h2, g1])
        · rw [← hfin]; exact g6
      | dfn f v => exact hok.elim
    | panic v =>
      simp only [Option.some.injEq] at he; subst he
      obtain ⟨cv, h1, h2⟩ := hok
      refine ⟨E, t, ds, w, cs, Ext.refl _ _ _, hs, .inl ⟨rfl, rfl⟩, .inRegion ops (i :: rest) :: k, cv, h1, .one (step_lone_go ?_)⟩
      rw [hg]; simp [stepG.apply, h2, Frame.raise, run, leaves]
    | defer f args =>
      obtain ⟨cargs, cap, h1, h2⟩ := hok
      have he' : some (Ex.normal, { s with ds := .call f args :: s.ds }.put o.dst undefA) = some r := by
        cases hr : s.rc <;> simp only [hr] at he
        · cases he
        · rw [← he]
        · rw [← he]
      cases he'
      have hs' : SR E { s with ds := .call f args :: s.ds } t ({ target := .fn (.func f) cap, args := cargs } :: ds) w := ⟨hs.ρ, .call h1 hs.d, hs.h⟩
      refine ⟨E, _, _, w, cs, by rw [put_h]; exact Ext.refl _ _ _, hs'.put (VR.undef E) o.dst, .inl ⟨put_rc, rfl⟩, .one (step_lone_go ?_)⟩
      rw [hg]
      simp only [stepG.apply, Sem.runT_eq, h2, GStep.bare_after]
      have := finish_run (b := b) (t := t) (ds := { target := .fn (.func f) cap, args := cargs } :: ds) (k := k) (ops := ops) (i := i) (rest := rest) undef
      rw [hdst] at this
      rw [← this]
      rfl
    | recover =>
      have h1 : (execOp (evT t) o).run C.P w = .ok .recover w := hok
      cases hr : s.rc with
      | no => simp only [hr] at he; cases he
      | nil =>
        simp only [hr, Option.some.injEq] at he; subst he
        rw [hr] at hrc
        obtain ⟨h2, h3⟩ := hrc
        refine ⟨E, _, ds, w, cs, by rw [put_h]; exact Ext.refl _ _ _, hs.put .nili o.dst, .inl ⟨by rw [put_rc]; exact hr, rfl⟩, .one (step_lone_go ?_)⟩
        rw [hg, ← hfin]
        have h4 : tryRecover (run b t ds (.inRegion ops (i :: rest) :: k)) cs = none := by
          rw [← h3]; unfold tryRecover; rfl
        have h5 : (run b t ds (.inRegion ops (i :: rest) :: k)).roundOf = none := h2
        simp [stepG.apply, h1, h4, h5]
      | pan v =>
        simp only [hr, Option.some.injEq] at he; subst he
        rw [hr] at hrc
        obtain ⟨h2, h3, c, cs', cv, rfl, hm, hv⟩ := hrc
        have hs' : SR E { s with rc := .nil } t ds w := ⟨hs.ρ, hs.d, hs.h⟩
        refine ⟨E, _, ds, w, _, by rw [put_h]; exact Ext.refl _ _ _, hs'.put hv o.dst, .inr ⟨v, c, cs', cv, rfl, put_rc, rfl, hm, rfl⟩, .one (step_lone_go ?_)⟩
        rw [hg, ← hfin]
        have h4 : tryRecover (run b t ds (.inRegion ops (i :: rest) :: k)) (c :: cs') = some (cv, { c with mode := .panicking [{ v := cv, recovered := true }] } :: cs') := by
          unfold tryRecover
          rw [show (run b t ds (.inRegion ops (i :: rest) :: k)).kind = .deferred from h3]
          simp only [hm]
        have h5 : (run b t ds (.inRegion ops (i :: rest) :: k)).roundOf = none := h2
        simp [stepG.apply, h1, h4, h5]

end Go.Ai

/- All of a function's code. -/
namespace Go.Ai
open Go.RowKit

theorem ops_ok {C : Cfg} (hT : TOk C) (hX : XtOk C) {call : CallF} (hcall : CallOk C call) {b : Frame} {ops : Array Oper} {k : List Item} :
    ∀ (is : List Nat) (os : List Oper), is.map (ops[·]?) = os.map some → ∀ {s : S} {r : Ex × S}, runOps C call ops os s = some r → ∀ {E : Env} {t : Array Value} {ds : List Deferred} {w : World} {cs : List Frame}, SR E s t ds w → RcOk E b cs s.rc →
    Lands C.P b (lone (run b t ds (.inRegion ops is :: k)) cs w) k E s.h w s.rc cs r := by
  intro is
  induction is with
  | nil =>
    intro os hl s r he E t ds w cs hs hrc
    cases os with
    | cons => simp at hl
    | nil =>
      simp only [runOps, Option.some.injEq] at he; subst he
      exact ⟨E, t, ds, w, cs, Ext.refl _ _ _, hs, .inl ⟨rfl, rfl⟩, .one st_region_end⟩
  | cons i is ih =>
    intro os hl s r he E t ds w cs hs hrc
    cases os with
    | nil => simp at hl
    | cons o os =>
      simp only [List.map_cons, List.cons.injEq] at hl
      simp only [runOps, Option.bind_eq_some_iff] at he
      obtain ⟨⟨ex, s1⟩, h1, he⟩ := he
      have hop := op_ok hT hX hcall (b := b) (rest := is) (k := k) hl.1 h1 hs hrc
      obtain ⟨E', t', ds', w', cs', g1, g2, g3, g4⟩ := hop
      cases ex with
      | normal => exact Lands.after g1 g3 ((ih os hl.2 he g2 (hrc.to g1.le g3)).of_steps g4)
      | exit id => cases he; exact ⟨E', t', ds', w', cs', g1, g2, g3, fun k' hk => g4 k' hk⟩
      | ret => cases he; exact ⟨E', t', ds', w', cs', g1, g2, g3, g4⟩
      | panic v => cases he; exact ⟨E', t', ds', w', cs', g1, g2, g3, g4⟩

theorem range_map (ops : Array Oper) : (List.range ops.size).map (ops[·]?) = ops.toList.map some := by
  apply List.ext_getElem
  · simp
  · intro i h1 h2
    simp at h1
    simp [h1]

/-- What is to be shown of the regions whose order is drawn. -/
def DrawOk (C : Cfg) (call : CallF) (fid : FuncId) (n : Nat) : Prop :=
  ∀ (b : Frame), b.fn = fid → ∀ (id : Nat) (ops : Array Oper) (k : List Item) {s : S} {r : Ex × S}, evalC C call fid n (.region id ops true) s = some r → ∀ {E : Env} {t : Array Value} {ds : List Deferred} {w : World} {cs : List Frame},
    SR E s t ds w → RcOk E b cs s.rc → Lands C.P b (lone (run b t ds (.code (.region id ops true) :: k)) cs w) k E s.h w s.rc cs r

/-- Items that no exit stops at. -/
theorem Lands.pass {P : Program} {b : Frame} {m : Machine} {x : Item} {k : List Item} {E : Env} {h : H} {w : World} {rc : RC} {cs : List Frame} {r : Ex × S} (hx : x.plain = true) (hn : ∀ s, r ≠ (.normal, s))
    (hl : Lands P b m (x :: k) E h w rc cs r) : Lands P b m k E h w rc cs r := by
  obtain ⟨E', t', ds', w', cs', h1, h2, h3, h4⟩ := hl
  refine ⟨E', t', ds', w', cs', h1, h2, h3, ?_⟩
  obtain ⟨ex, s⟩ := r
  cases ex with
  | normal => exact absurd rfl (hn s)
  | exit id => exact fun k' hk => h4 k' (by cases x <;> simp_all [exitTo, Item.plain])
  | ret => exact h4
  | panic v => exact h4

def Code1 (C : Cfg) (call : CallF) (fid : FuncId) (n : Nat) (c : Code) : Prop :=
  ∀ {s : S} {r : Ex × S}, evalC C call fid n c s = some r → ∀ {b : Frame}, b.fn = fid → ∀ {E : Env} {t : Array Value} {ds : List Deferred} {w : World} {k : List Item} {cs : List Frame},
    SR E s t ds w → RcOk E b cs s.rc → Lands C.P b (lone (run b t ds (.code c :: k)) cs w) k E s.h w s.rc cs r

theorem loop_ok {C : Cfg} {call : CallF} {fid : FuncId} {n : Nat} {c : Code} (hc : Code1 C call fid n c) : ∀ (j : Nat) {s : S} {r : Ex × S}, iter (evalC C call fid n c) j s = some r → ∀ {b : Frame}, b.fn = fid →
    ∀ {E : Env} {t : Array Value} {ds : List Deferred} {w : World} {k : List Item} {cs : List Frame}, SR E s t ds w → RcOk E b cs s.rc → Lands C.P b (lone (run b t ds (.code c :: .inLoop c :: k)) cs w) k E s.h w s.rc cs r := by
  intro j
  induction j with
  | zero => intro s r he; simp [iter] at he
  | succ j ih =>
    intro s r he b hb E t ds w k cs hs hrc
    simp only [iter, Option.bind_eq_some_iff] at he
    obtain ⟨⟨ex, s1⟩, h1, he⟩ := he
    have hl := hc h1 hb (k := .inLoop c :: k) hs hrc
    cases ex with
    | normal =>
      obtain ⟨E', t', ds', w', cs', g1, g2, g3, g4⟩ := hl
      exact Lands.after g1 g3 ((ih he hb g2 (hrc.to g1.le g3)).of_steps (Steps.trans g4 (.one st_inLoop)))
    | exit id => cases he; exact hl.pass rfl (fun _ h => by cases h)
    | ret => cases he; exact hl.pass rfl (fun _ h => by cases h)
    | panic v => cases he; exact hl.pass rfl (fun _ h => by cases h)

theorem code_ok {C : Cfg} (hT : TOk C) (hX : XtOk C) {call : CallF} (hcall : CallOk C call) {fid : FuncId} {n : Nat} (hdraw : DrawOk C call fid n) (hrf : ∀ f ps as bd, Code1 C call fid n (.rangeFunc f ps as bd)) : ∀ c : Code, Code1 C call fid n c := by
  intro c
  induction c with
  | skip =>
    intro s r he b hb E t ds w k cs hs hrc
    simp only [evalC, Option.some.injEq] at he; subst he
    exact ⟨E, t, ds, w, cs, Ext.refl _ _ _, hs, .inl ⟨rfl, rfl⟩, .one st_skip⟩
  | region id ops draw =>
    intro s r he b hb E t ds w k cs hs hrc
    cases draw with
    | true => exact hdraw b hb id ops k he hs hrc
    | false =>
      simp only [evalC, Bool.false_eq_true, if_false] at he
      exact (ops_ok hT hX hcall _ _ (range_map ops) he hs hrc).of_steps (.one st_region)
  | seq x y ihx ihy =>
    intro s r he b hb E t ds w k cs hs hrc
    simp only [evalC, Option.bind_eq_some_iff] at he
    obtain ⟨⟨ex, s1⟩, h1, he⟩ := he
    have hl := ihx h1 hb (k := .code y :: k) hs hrc
    refine Lands.of_steps (.one st_seq) ?_
    cases ex with
    | normal =>
      obtain ⟨E', t', ds', w', cs', g1, g2, g3, g4⟩ := hl
      exact Lands.after g1 g3 ((ihy he hb g2 (hrc.to g1.le g3)).of_steps g4)
    | exit id => cases he; exact hl.pass rfl (fun _ h => by cases h)
    | ret => cases he; exact hl.pass rfl (fun _ h => by cases h)
    | panic v => cases he; exact hl.pass rfl (fun _ h => by cases h)
  | cond c x y ihx ihy =>
    intro s r he b hb E t ds w k cs hs hrc
    simp only [evalC, Option.bind_eq_some_iff] at he
    obtain ⟨a, ha, he⟩ := he
    split at he
    · rename_i v
      have h1 := opd_ok hs.ρ ha
      generalize hcv : evT t c = cv at h1
      cases h1
      refine Lands.of_steps (.one (st_cond hcv)) ?_
      cases v
      · simp only [Bool.false_eq_true, if_false] at he ⊢; exact ihy he hb hs hrc
      · simp only [if_true] at he ⊢; exact ihx he hb hs hrc
    · cases he
  | block id c ih =>
    intro s r he b hb E t ds w k cs hs hrc
    simp only [evalC, Option.bind_eq_some_iff] at he
    obtain ⟨⟨ex, s1⟩, h1, he⟩ := he
    have hl := ih h1 hb (k := .inBlock id :: k) hs hrc
    refine Lands.of_steps (.one st_block) ?_
    obtain ⟨E', t', ds', w', cs', g1, g2, g3, g4⟩ := hl
    cases ex with
    | normal => cases he; exact ⟨E', t', ds', w', cs', g1, g2, g3, Steps.trans g4 (.one st_inBlock)⟩
    | exit id' =>
      simp only at he
      split at he
      · rename_i h; subst h; cases he
        exact ⟨E', t', ds', w', cs', g1, g2, g3, g4 k (by simp [exitTo])⟩
      · rename_i h; cases he
        refine ⟨E', t', ds', w', cs', g1, g2, g3, fun k' hk => g4 k' ?_⟩
        have : (id == id') = false := by simp; exact fun e => h e.symm
        simp [exitTo, this, hk]
    | ret => cases he; exact ⟨E', t', ds', w', cs', g1, g2, g3, g4⟩
    | panic v => cases he; exact ⟨E', t', ds', w', cs', g1, g2, g3, g4⟩
  | loop c ih =>
    intro s r he b hb E t ds w k cs hs hrc
    simp only [evalC] at he
    exact (loop_ok ih n he hb hs hrc).of_steps (.one st_loop)
  | exit id =>
    intro s r he b hb E t ds w k cs hs hrc
    simp only [evalC, Option.some.injEq] at he; subst he
    exact ⟨E, t, ds, w, cs, Ext.refl _ _ _, hs, .inl ⟨rfl, rfl⟩, fun k' hk => .one (st_exit hk)⟩
  | label l =>
    intro s r he b hb E t ds w k cs hs hrc
    simp only [evalC, Option.some.injEq] at he; subst he
    exact ⟨E, t, ds, w, cs, Ext.refl _ _ _, hs, .inl ⟨rfl, rfl⟩, .one st_label⟩
  | ret =>
    intro s r he b hb E t ds w k cs hs hrc
    simp only [evalC, Option.some.injEq] at he; subst he
    exact ⟨E, t, ds, w, cs, Ext.refl _ _ _, hs, .inl ⟨rfl, rfl⟩, fun hr => ⟨_, .one (st_ret hr)⟩⟩
  | scope c ih =>
    intro s r he b hb E t ds w k cs hs hrc
    simp only [evalC] at he
    have hl := ih he hb (k := .inScope c :: k) hs hrc
    refine Lands.of_steps (.one st_scope) ?_
    obtain ⟨E', t', ds', w', cs', g1, g2, g3, g4⟩ := hl
    obtain ⟨ex, s1⟩ := r
    cases ex with
    | normal => exact ⟨E', t', ds', w', cs', g1, g2, g3, Steps.trans g4 (.one st_inScope)⟩
    | exit id' => exact ⟨E', t', ds', w', cs', g1, g2, g3, fun k' hk => g4 k' (by simp [exitTo, hk])⟩
    | ret => exact ⟨E', t', ds', w', cs', g1, g2, g3, g4⟩
    | panic v => exact ⟨E', t', ds', w', cs', g1, g2, g3, g4⟩
  | rangeFunc f ps as bd _ _ => exact hrf f ps as bd
  | goto l => intro s r he; simp [evalC] at he
  | refuse why => intro s r he; simp [evalC] at he

end Go.Ai

/- Loops over functions; deferred calls; functions. -/
namespace Go.Ai
open Go.RowKit

/-- An id goes, and its block may change. -/
theorem HR.gone {E : Env} {h : H} {w w' : World} (r : HR E h w) {i : Nat} {oi : Obj} {x : M} (hi : h.get i = some oi) (hx : E.m i = some x) (hold : ∀ b, b ≠ x.blk → w'.heap[b]? = w.heap[b]?) : HR E (h.del i) w' := by
  have key : ∀ {j : Nat} {oj : Obj}, (h.del i).get j = some oj → j ≠ i ∧ h.get j = some oj := fun {j oj} hj => by
    rw [H.get_del] at hj
    by_cases e : j = i
    · rw [if_pos e] at hj; cases hj
    · rw [if_neg e] at hj; exact ⟨e, hj⟩
  refine ⟨r.dom, fun j oj hj => ?_, fun j k oj ok xj xk hj hk => r.inj j k oj ok xj xk (key hj).2 (key hk).2, fun b o hb => ?_, fun b ob j oj y hb hj => r.apart b ob j oj y hb (key hj).2⟩
  · obtain ⟨hne, hj'⟩ := key hj
    obtain ⟨y, hy, hoy⟩ := r.live j oj hj'
    exact ⟨y, hy, hoy.mono E.le_refl (hold _ (fun e => hne (r.inj j i oj oi y x hj' hi hy hx e)))⟩
  · rw [hold b (fun e => r.apart b o i oi x hb hi hx e.symm)]; exact r.imm b o hb

theorem Ext.gone {E : Env} {h : H} {w w' : World} {i : Nat} {oi : Obj} {x : M} (hi : h.get i = some oi) (hx : E.m i = some x) (hos : w'.os = w.os) (ht : w'.tape = w.tape) (hout : w'.output = w.output) (hsize : w.heap.size ≤ w'.heap.size)
    (hold : ∀ b, b ≠ x.blk → w'.heap[b]? = w.heap[b]?) : Ext E h w E (h.del i) w' := by
  refine ⟨E.le_refl, by simp, hos, ht, hout, hsize, fun b hb hno => hold b (fun e => hno ⟨i, oi, x, hi, hx, e.symm⟩), fun b => ?_, fun b ob hb => .inl hb, fun _ _ h => .inl h⟩
  rintro ⟨j, oj, y, hj, hy, rfl⟩
  rw [H.get_del] at hj
  by_cases e : j = i
  · rw [if_pos e] at hj; cases hj
  · rw [if_neg e] at hj; exact .inl ⟨j, oj, y, hj, hy, rfl⟩

section
variable {P : Program} {w : World}

theorem run_getLoop {b : Nat} {l : Loop} (h : w.heap[b]? = some (.loop l)) : (Instr.getLoop b).run P w = .ok l w := by
  simp [Instr.getLoop, getObj, Sem.run, h]

theorem run_setLoop {b : Nat} {l l' : Loop} (h : w.heap[b]? = some (.loop l)) : (setObj b (.loop l')).run P w = .ok () { w with heap := w.heap.setIfInBounds b (.loop l') } :=
  run_setObj h (fun _ _ _ h => by cases h)

theorem run_enterLoop {fn : FuncId} {t : Array Value} {ps : Array Tmp} {as bd : Code} : (Instr.enterLoop fn t ps as bd none).run P w =
    .ok (w.heap.size + 1, [{ target := .collected w.heap.size, args := #[] }]) ((w.alloc (.deferred (some []))).alloc (.loop { state := .ready, pending := none, fn, tmps := t, params := ps, assign := as, body := bd, defers := w.heap.size })) := by
  simp only [Instr.enterLoop, Sem.run_bind, run_newObj, Result.andThen_ok, Sem.run_pure]
  simp
  rfl

theorem run_takeDeferred {b : Nat} (h : w.heap[b]? = some (.deferred (some []))) : (Instr.takeDeferred b).run P w = .ok [] { w with heap := w.heap.setIfInBounds b (.deferred none) } := by
  have h1 : (getObj b).run P w = .ok (.deferred (some [])) w := by simp [getObj, Sem.run, h]
  have h2 := run_setObj (P := P) (o' := .deferred none) h (fun _ _ _ h => by cases h)
  simp only [Instr.takeDeferred, Sem.run_bind, h1, Result.andThen_ok, h2, Sem.run_pure]
end

/-- A frame that has come to the end of its work, and has deferred calls to make. -/
theorem defers_ok {C : Cfg} {call : CallF} (hcall : CallOk C call) {b : Frame} {t : Array Value} {todo : List Item} {cs : List Frame} : ∀ (ds : List D) {h h' : H}, runDefers C call ds h = some h' →
    ∀ {E : Env} {w : World} {cds : List Deferred}, HR E h w → DR E ds cds → ∃ E' w', Ext E h w E' h' w' ∧ HR E' h' w' ∧
      Steps C.P (lone (leaves b t cds todo .returning) cs w) (lone (leaves b t [] todo .returning) cs w') := by
  intro ds
  induction ds with
  | nil =>
    intro h h' he E w cds hr hd
    simp only [runDefers, Option.some.injEq] at he; subst he
    cases hd
    exact ⟨E, w, Ext.refl _ _ _, hr, .refl _ _⟩
  | cons d ds ih =>
    intro h h' he E w cds hr hd
    cases hd with
    | @mark id x _ cl hid hl =>
      simp only [runDefers] at he
      split at he
      · rename_i hget
        obtain ⟨x', hx', hb⟩ := hr.live id _ hget
        rw [hid] at hx'; cases hx'
        have hrun := run_takeDeferred (P := C.P) hb
        have hold : ∀ k, k ≠ x.blk → ({ w with heap := w.heap.setIfInBounds x.blk (.deferred none) } : World).heap[k]? = w.heap[k]? := fun k hk => heap_set_other hk
        have r' := hr.gone (w' := { w with heap := w.heap.setIfInBounds x.blk (.deferred none) }) hget hid hold
        have x' := Ext.gone (w := w) (w' := { w with heap := w.heap.setIfInBounds x.blk (.deferred none) }) hget hid rfl rfl rfl (by simp) hold
        obtain ⟨E', w', g1, g2, g3⟩ := ih he r' (hl.mono E.le_refl)
        refine ⟨E', w', x'.trans g1, g2, .head (step_lone_go ?_) g3⟩
        simp [stepG, unwind, leaves, hrun]
      · cases he
    | @call f args cargs cap _ cl ha hl =>
      simp only [runDefers] at he
      split at he
      · cases he
      · rename_i hsp
        simp only [Option.bind_eq_some_iff] at he
        obtain ⟨⟨ar, h1⟩, hc, he⟩ := he
        cases ar with
        | panic v => cases he
        | ret v =>
          obtain ⟨g1, g2⟩ := hcall (.fn f) args h (.ret v) h1 hc E w (cargs ++ cap) hr ha
          have hsp' : (C.sp f).isNone = true := by cases hq : C.sp f <;> simp [hq] at hsp ⊢
          obtain ⟨E1, w1, g3, g4, cv, fr, q1, q2, q3, q4, q5, q6, fn, q7, q8⟩ := g2 .deferred (leaves b t cl todo .returning :: cs) (.inr ⟨hsp', .inr ⟨rfl, _, _, rfl, rfl⟩⟩)
          obtain ⟨E', w', g5, g6, g7⟩ := ih he g4 (hl.mono g3.le)
          refine ⟨E', w', g3.trans g5, g6, .head (m₁ := lone (Frame.enter C.P f (cargs ++ cap) .deferred) (leaves b t cl todo .returning :: cs) w) (step_lone_go ?_) (q2.trans (.head (step_lone_go ?_) g7))⟩
          · simp [stepG, unwind, callDeferred, leaves, invoke, g1]
          · simp [stepG, unwind, doReturn, leaves, q3, q4, q5, q6, q7, q8]

theorem endLoop_ok {P : Program} {E : Env} {h : H} {w : World} (r : HR E h w) {id : Nat} {f : FuncId} {ρ : List AV} {ps : List Tmp} {as bd : Code} (hget : h.get id = some (.loop true f ρ ps as bd)) {x : M} (hx : E.m id = some x) :
    ∃ w', (Instr.endLoop x.blk).run P w = .ok none w' ∧ HR E (h.del id) w' ∧ Ext E h w E (h.del id) w' := by
  obtain ⟨y, hy, tm, df, hb, _⟩ := r.live _ _ hget
  rw [hx] at hy; cases hy
  have hb' : w.heap[x.blk]? = some (.loop { state := .ready, pending := none, fn := f, tmps := tm, params := ps.toArray, assign := as, body := bd, defers := df }) := hb
  have e1 := run_getLoop (P := P) hb'
  have e2 := run_setLoop (P := P) hb' (l' := { state := .exhausted, pending := none, fn := f, tmps := tm, params := ps.toArray, assign := as, body := bd, defers := df })
  have e3 : (LoopState.ready == LoopState.busy) = false := rfl
  exact ⟨_, by simp only [Instr.endLoop, Sem.run_bind, e1, Result.andThen_ok, e3, Bool.false_eq_true, if_false, e2, Sem.run_pure]; rfl, r.gone hget hx (fun k hk => heap_set_other hk),
    Ext.gone hget hx rfl rfl rfl (by simp) (fun k hk => heap_set_other hk)⟩

theorem enterLoop_ok {P : Program} {E : Env} {h : H} {w : World} (r : HR E h w) {ρ : List AV} {t : Array Value} (hρ : VRs E ρ t.toList) (fid : FuncId) (ps : Array Tmp) (as bd : Code) :
    ∃ E' w' d l, (Instr.enterLoop fid t ps as bd none).run P w = .ok (l, [{ target := .collected d, args := #[] }]) w' ∧ HR E' ((h.new .dfr).new (.loop true fid ρ ps.toList as bd)) w' ∧
      Ext E h w E' ((h.new .dfr).new (.loop true fid ρ ps.toList as bd)) w' ∧ E'.m h.next = some ⟨d, 0, 0, 0⟩ ∧ E'.m (h.next + 1) = some ⟨l, 0, 0, 0⟩ := by
  have r1 := r.new (w' := w.alloc (.deferred (some []))) .dfr ⟨w.heap.size, 0, 0, 0⟩ (fun b hb _ => alloc_old w _ hb) (Nat.le_refl _) (heap_alloc_new w _)
  have x1 := Ext.new (w' := w.alloc (.deferred (some []))) r .dfr ⟨w.heap.size, 0, 0, 0⟩ rfl rfl rfl (by simp) (fun b hb => alloc_old w _ hb) (Nat.le_refl _)
  have hm1 := put_same E h.next ⟨w.heap.size, 0, 0, 0⟩
  have hs : (w.alloc (.deferred (some []))).heap.size = w.heap.size + 1 := by simp
  have hrun := run_enterLoop (P := P) (w := w) (fn := fid) (t := t) (ps := ps) (as := as) (bd := bd)
  generalize E.put h.next ⟨w.heap.size, 0, 0, 0⟩ = E1 at r1 x1 hm1
  generalize w.alloc (.deferred (some [])) = w1 at r1 x1 hs hrun
  have r2 := r1.new (w' := w1.alloc (.loop { state := .ready, pending := none, fn := fid, tmps := t, params := ps, assign := as, body := bd, defers := w.heap.size })) (.loop true fid ρ ps.toList as bd) ⟨w1.heap.size, 0, 0, 0⟩
    (fun b hb _ => alloc_old w1 _ hb) (Nat.le_refl _) ⟨t, w.heap.size, by rw [heap_alloc_new]; rfl, (hρ.mono x1.le).mono (Env.le_put _ r1.fresh)⟩
  have x2 := Ext.new (w' := w1.alloc (.loop { state := .ready, pending := none, fn := fid, tmps := t, params := ps, assign := as, body := bd, defers := w.heap.size })) r1 (.loop true fid ρ ps.toList as bd) ⟨w1.heap.size, 0, 0, 0⟩
    rfl rfl rfl (by simp) (fun b hb => alloc_old w1 _ hb) (Nat.le_refl _)
  have hm2 := put_same E1 (h.new Obj.dfr).next ⟨w1.heap.size, 0, 0, 0⟩
  exact ⟨_, _, w.heap.size, w1.heap.size, by rw [hs]; exact hrun, r2, x1.trans x2, x2.le.1 _ _ hm1, hm2⟩

/-- A loop over a function. -/
theorem rf_ok {C : Cfg} {call : CallF} (hcall : CallOk C call) (fid : FuncId) (n : Nat) (f : Operand) (ps : Array Tmp) (as bd : Code) : Code1 C call fid n (.rangeFunc f ps as bd) := by
  intro s r he b hb E t ds w k cs hs hrc
  have hro : s.rc ≠ .no ∧ (opd s.ρ f).bind (fun
      | .fn g first cap =>
        let h := (s.h.new .dfr).new (.loop true fid s.ρ ps.toList as bd)
        (call (.fn g) (first ++ [.yld (s.h.next + 1)] ++ cap) h).bind fun
          | (.ret _, h) => (match h.get (s.h.next + 1) with
            | some (.loop true ..) => some (Ex.normal, { s with h := h.del (s.h.next + 1), ds := .mark s.h.next :: s.ds })
            | _ => none)
          | _ => none
      | _ => none) = some r := by
    cases hr : s.rc <;> simp only [evalC, hr] at he
    · cases he
    · exact ⟨(by intro h; cases h), he⟩
    · exact ⟨(by intro h; cases h), he⟩
  obtain ⟨hno, he⟩ := hro
  have hround : b.roundOf = none := by
    cases hr : s.rc with
    | no => exact absurd hr hno
    | nil => rw [hr] at hrc; exact hrc.1
    | pan v => rw [hr] at hrc; exact hrc.1
  simp only [Option.bind_eq_some_iff] at he
  obtain ⟨a, ha, he⟩ := he
  split at he
  · rename_i g first cap
    simp only [Option.bind_eq_some_iff] at he
    obtain ⟨⟨ar, h3⟩, hc, he⟩ := he
    cases ar with
    | panic v => cases he
    | ret v =>
      simp only at he
      split at he
      · rename_i _ f3 ρ3 ps3 as3 bd3 hget
        cases he
        obtain ⟨E2, w2, d, l, hrun, r2, x2, hmd, hml⟩ := enterLoop_ok (P := C.P) hs.h hs.ρ fid ps as bd
        generalize hh2 : (s.h.new .dfr).new (.loop true fid s.ρ ps.toList as bd) = h2 at r2 x2 hc
        have h1' := opd_ok hs.ρ ha
        generalize hcv : evT t f = cv at h1'
        obtain ⟨cl, cm, rfl, hl, hm⟩ := callee_fn h1'
        have hyl : VR E2 (.yld (s.h.next + 1)) (.func (.yield l) #[] #[]) := .yld hml
        have hargs : VRs E2 (first ++ [.yld (s.h.next + 1)] ++ cap) (cl ++ #[Value.func (.yield l) #[] #[]] ++ cm).toList := by
          simp only [Array.toList_append]
          exact ((hl.mono x2.le).append (.cons hyl .nil)).append (hm.mono x2.le)
        obtain ⟨g1, g2⟩ := hcall (.fn g) _ _ _ _ hc E2 w2 _ r2 hargs
        obtain ⟨E3, w3, g3, g4, cv', fr', q1, q2, q3, q4, q5, q6, fn, q7, q8⟩ := g2 .normal (run b t ({ target := .collected d, args := #[] } :: ds) (.inRangeFunc l :: k) :: cs) (.inl rfl)
        obtain ⟨w4, hend, r4, x4⟩ := endLoop_ok (P := C.P) g4 hget (g3.le.1 _ _ hml)
        have hx := (x2.trans g3).trans x4
        have hsr : SR E3 { s with h := h3.del (s.h.next + 1), ds := .mark s.h.next :: s.ds } t ({ target := .collected d, args := #[] } :: ds) w4 :=
          ⟨hs.ρ.mono hx.le, DR.mark (x := ⟨d, 0, 0, 0⟩) (g3.le.1 _ _ hmd) (hs.d.mono hx.le), r4⟩
        have s1 : step C.P (lone (run b t ds (.code (.rangeFunc f ps as bd) :: k)) cs w) =
            .next (lone (Frame.enter C.P g (cl ++ #[Value.func (.yield l) #[] #[]] ++ cm) .normal) (run b t ({ target := .collected d, args := #[] } :: ds) (.inRangeFunc l :: k) :: cs) w2) := step_lone_go (by
          have hev : ∀ fr : Frame, fr.tmps = t → fr.eval = evT t := fun fr h => by funext x; cases x <;> simp [Frame.eval, evT, h]
          have hcr : (do let d ← resolve (evT t) { callee := Callee.value f, args := #[Operand.const (Value.func (Fn.yield l) #[] #[])], argTypes := #[] } 0; invoke d.target d.args : Sem Next).run C.P w2 =
              .ok (.enter g (cl ++ #[Value.func (.yield l) #[] #[]] ++ cm)) w2 := by
            simp only [resolve, hcv, Deferred.ofValue, Sem.run_bind, Sem.run_pure, Result.andThen_ok, invoke]
            have : Array.map (evT t) #[Operand.const (Value.func (Fn.yield l) #[] #[])] = #[Value.func (Fn.yield l) #[] #[]] := by simp [evT]
            rw [this]
            exact g1 w2
          subst hb
          simp only [stepG, stepG.exec, run, hround, Sem.runT_eq, hrun, GStep.bare_after, stepG.apply]
          rw [hev _ rfl]
          simp only [if_true, hcr, GStep.bare_go]
          rfl)
        have s2 : step C.P (lone fr' (run b t ({ target := .collected d, args := #[] } :: ds) (.inRangeFunc l :: k) :: cs) w3) = .next (lone (run b t ({ target := .collected d, args := #[] } :: ds) (.endRangeFunc l :: k)) cs w3) :=
          step_leave_returned ⟨q5, q6, q4, fn, by rw [q3]; exact q7, q8⟩
        have s3 : step C.P (lone (run b t ({ target := .collected d, args := #[] } :: ds) (.endRangeFunc l :: k)) cs w3) = .next (lone (run b t ({ target := .collected d, args := #[] } :: ds) k) cs w4) :=
          step_lone_go (by simp [stepG, stepG.exec, run, hend])
        exact ⟨E3, t, _, w4, cs, hx, hsr, .inl ⟨rfl, rfl⟩, .head s1 (q2.trans (.head s2 (.one s3)))⟩
      · cases he
  · cases he

end Go.Ai

/- Functions, rounds, deferred calls: the interpreter is sound. -/
namespace Go.Ai
open Go.RowKit

/-- What is asked of the program, and of what the interpreter is told. -/
structure CfgOk (C : Cfg) : Prop where
  T : TOk C
  X : XtOk C
  ng : ∀ (f : FuncId) (fn : Func) (c : Code), C.P.funcs[f]? = some fn → fn.body = some c → (fn.name == "runtime.NumGoroutine") = false
  fz : ∀ f, C.fz f = false
  sp : ∀ f g, C.sp f = some g → ∀ args h v h', g args h = some (v, h') → FnOk C f args h (.ret v) h'

theorem run_callFunc_body {C : Cfg} (hC : CfgOk C) {f : FuncId} {fn : Func} {c : Code} (hf : C.P.funcs[f]? = some fn) (hb : fn.body = some c) (args : Array Value) (w : World) : (callFunc f args).run C.P w = .ok (.enter f args) w := by
  have h1 : fn.name ≠ "runtime.NumGoroutine" := by simpa using hC.ng f fn c hf hb
  simp [callFunc, hf, h1, hb]

def baseF (f : FuncId) (kind : CallKind) : Frame := { (default : Frame) with fn := f, kind := kind, roundOf := none }

theorem enter_run {P : Program} {f : FuncId} {fn : Func} {c : Code} (hf : P.funcs[f]? = some fn) (hb : fn.body = some c) (args : Array Value) (kind : CallKind) :
    Frame.enter P f args kind = run (baseF f kind) (args ++ Array.replicate (fn.ntmps - args.size) undef) [] [.code c] := by
  simp [Frame.enter, run, baseF, hf, hb]

theorem ρ0_ok {E : Env} {args : List AV} {cargs : Array Value} (h : VRs E args cargs.toList) (n : Nat) : VRs E (args ++ List.replicate (n - args.length) undefA) (cargs ++ Array.replicate (n - cargs.size) undef).toList := by
  have hl : args.length = cargs.size := by simpa using h.length
  rw [hl, Array.toList_append, Array.toList_replicate]
  exact h.append (VRs.replicate (VR.undef E) _)

theorem resA_ok {C : Cfg} (hT : TOk C) {E : Env} {s : S} {t : Array Value} {w : World} (hρ : VRs E s.ρ t.toList) (hr : HR E s.h w) : ∀ {rs : List ResultVar} {l : List AV}, resA C s rs = some l →
    ∃ cl : List Value, VRs E l cl ∧ (rs.mapM fun r => (match r with
      | .tmp x => Pure.pure (t.getD x undef)
      | .cell a ty => do loadVar ty (← asAddr (t.getD a undef)) : Sem Value)).run C.P w = .ok cl w := by
  intro rs
  induction rs with
  | nil => intro l h; simp [resA] at h; subst h; exact ⟨[], .nil, rfl⟩
  | cons r rs ih =>
    intro l h
    have hget : ∀ {x : Nat} {v : AV}, s.ρ[x]? = some v → VR E v (t.getD x undef) := fun {x v} hx => by
      obtain ⟨cv, h1, h2⟩ := hρ.get hx
      rw [Array.getElem?_toList] at h1
      simpa [Array.getD_eq_getD_getElem?, h1] using h2
    cases r with
    | tmp x =>
      simp only [resA, Option.bind_eq_some_iff, Option.map_eq_some_iff] at h
      obtain ⟨v, hv, l', hl, rfl⟩ := h
      obtain ⟨cl, h1, h2⟩ := ih hl
      exact ⟨_, .cons (hget hv) h1, by simp only [List.mapM_cons, Sem.run_bind, Sem.run_pure, Result.andThen_ok, h2]⟩
    | cell a ty =>
      simp only [resA, Option.bind_eq_some_iff, Option.map_eq_some_iff] at h
      obtain ⟨ti, hti, p, hp, v, hv, l', hl, rfl⟩ := h
      obtain ⟨cl, h1, h2⟩ := ih hl
      have hpr := hget hp
      obtain ⟨cv, g1, _, g2⟩ := load_at hT hr hti hpr hv
      generalize hcv : t.getD a undef = cp at hpr g2
      have hrow : ∃ b o, cp = .pointer (some ⟨b, o, none⟩) := by
        simp only [ldA, Option.bind_eq_some_iff] at hv
        obtain ⟨⟨row, k⟩, hrow, _⟩ := hv
        obtain ⟨b, o, h, _⟩ := rowOf_sound hr hpr hrow
        exact ⟨b, o, h⟩
      obtain ⟨b, o, rfl⟩ := hrow
      simp only at g2
      have ha : ∀ w', (asAddr (t.getD a undef)).run C.P w' = .ok ⟨b, o, none⟩ w' := fun w' => by rw [hcv]; rfl
      exact ⟨_, .cons g1 h1, by simp only [List.mapM_cons, Sem.run_bind, Sem.run_pure, Result.andThen_ok, ha, g2, h2]⟩

theorem results_ok {C : Cfg} (hT : TOk C) {E : Env} {s : S} {t : Array Value} {w : World} (hρ : VRs E s.ρ t.toList) (hr : HR E s.h w) {fn : Func} {l : List AV} (h : resA C s fn.results.toList = some l) :
    ∃ cv, VR E (packRes l) cv ∧ (results fn t).run C.P w = .ok cv w := by
  obtain ⟨cl, h1, h2⟩ := resA_ok hT hρ hr h
  have e : (fn.results.mapM fun r => (match r with
      | .tmp x => Pure.pure (t.getD x undef)
      | .cell a ty => do loadVar ty (← asAddr (t.getD a undef)) : Sem Value)).run C.P w = .ok cl.toArray w := by
    rw [← Array.toArray_toList (xs := fn.results), List.mapM_toArray]
    simp only [Sem.run_map, h2, Result.andThen_ok]
  refine ⟨if h : cl.toArray.size = 1 then cl.toArray[0] else .tuple cl.toArray, ?_, ?_⟩
  · match l, cl, h1 with
    | [], _, .nil => exact .tup .nil
    | [v], [cv], .cons h _ => exact h
    | v :: v' :: l, _ :: _ :: cl, h => simp only [packRes]; exact .tup (by simpa using h)
  · simp only [results, Sem.run_bind]
    exact congrArg (fun q : Result (Array Value) => q.andThen fun vs w' => (Pure.pure (if h : vs.size = 1 then vs[0] else .tuple vs) : Sem Value).run C.P w') e

/-- A frame that returns: its deferred calls, its results. -/
theorem out_ok {C : Cfg} (hC : CfgOk C) {call : CallF} (hcall : CallOk C call) {f : FuncId} {fn : Func} (hf : C.P.funcs[f]? = some fn) {kind : CallKind} {t : Array Value} {todo : List Item} {cs : List Frame} {s : S} {ds : List D} {h h' : H} {r : AR} {h'' : H}
    (hd : runDefers C call ds h = some h') (ho : (resA C { s with h := h' } fn.results.toList).map (fun l => (AR.ret (packRes l), h')) = some (r, h''))
    {E : Env} {w : World} {cds : List Deferred} (hρ : VRs E s.ρ t.toList) (hr : HR E h w) (hds : DR E ds cds) {m : Machine} (hm : Steps C.P m (lone (leaves (baseF f kind) t cds todo .returning) cs w)) :
    ∃ E' w', Ext E h w E' h'' w' ∧ HR E' h'' w' ∧ Ends C.P f m kind cs E' w' r := by
  obtain ⟨E', w', g1, g2, g3⟩ := defers_ok hcall (b := baseF f kind) (t := t) (todo := todo) (cs := cs) ds hd hr hds
  simp only [Option.map_eq_some_iff, Prod.mk.injEq] at ho
  obtain ⟨l, hl, rfl, rfl⟩ := ho
  obtain ⟨cv, q1, q2⟩ := results_ok (s := { s with h := h' }) hC.T (hρ.mono g1.le) g2 hl
  exact ⟨E', w', g1, g2, cv, _, q1, hm.trans g3, rfl, rfl, rfl, rfl, fn, hf, q2⟩

theorem fnBody_ok {C : Cfg} (hC : CfgOk C) {n : Nat} (hcall : CallOk C (ai C n)) {f : FuncId} (hdraw : DrawOk C (ai C n) f n) {args : List AV} {h h' : H} {r : AR} (hsp : C.sp f = none) (he : ai C (n + 1) (.fn f) args h = some (r, h')) : FnOk C f args h r h' := by
  simp only [ai, hsp, Option.bind_eq_some_iff] at he
  obtain ⟨fn, hf, c, hb, ⟨ex, s1⟩, hev, he⟩ := he
  intro E w cargs hr ha
  refine ⟨run_callFunc_body hC hf hb cargs, fun kind cs hk => ?_⟩
  have hk' : KindOk kind cs := hk.elim .inl (·.2)
  have hrc : RcOk E (baseF f kind) cs .nil := by
    refine ⟨rfl, ?_⟩
    rcases hk' with rfl | ⟨rfl, c', rest, rfl, hm⟩
    · unfold tryRecover; simp [baseF]
    · unfold tryRecover; simp [baseF, hm]
  have hs0 : SR E { ρ := args ++ List.replicate (fn.ntmps - args.length) undefA, ds := [], h } (cargs ++ Array.replicate (fn.ntmps - cargs.size) undef) [] w := ⟨ρ0_ok ha _, .nil, hr⟩
  have hl := code_ok hC.T hC.X hcall hdraw (rf_ok hcall f n) c hev (b := baseF f kind) rfl (k := []) hs0 hrc
  rw [← enter_run hf hb cargs kind] at hl
  obtain ⟨E1, t1, ds1, w1, cs1, x1, sr1, hc1, hst⟩ := hl
  have hcs : cs1 = cs := by
    rcases hc1 with ⟨_, h⟩ | ⟨v, _, _, _, h, _⟩
    · exact h
    · cases h
  subst hcs
  have hfz := hC.fz f
  have hout : ∀ {h2 : H} {todo : List Item} {cds : List Deferred} {ds : List D} {h3 : H} {E2 : Env} {w2 : World}, runDefers C (ai C n) ds h2 = some h3 →
      ((resA C { s1 with h := h3 } fn.results.toList).bind fun l => if C.fz f then (frz h3 n (packRes l)).map fun (v, ids) => (AR.ret v, delAll h3 ids) else some (.ret (packRes l), h3)) = some (r, h') →
      VRs E2 s1.ρ t1.toList → HR E2 h2 w2 → DR E2 ds cds → Ext E h w E2 h2 w2 → Steps C.P (lone (Frame.enter C.P f cargs kind) cs1 w) (lone (leaves (baseF f kind) t1 cds todo .returning) cs1 w2) →
      ∃ E' w', Ext E h w E' h' w' ∧ HR E' h' w' ∧ Ends C.P f (lone (Frame.enter C.P f cargs kind) cs1 w) kind cs1 E' w' r := fun {h2 todo cds ds h3 E2 w2} hd ho hρ hr2 hds hx hm => by
    simp only [hfz, Bool.false_eq_true, if_false] at ho
    have ho' : (resA C { s1 with h := h3 } fn.results.toList).map (fun l => (AR.ret (packRes l), h3)) = some (r, h') := by
      rw [← ho]; cases resA C { s1 with h := h3 } fn.results.toList <;> rfl
    obtain ⟨E', w', g1, g2, g3⟩ := out_ok hC hcall hf hd ho' hρ hr2 hds hm
    exact ⟨E', w', hx.trans g1, g2, g3⟩
  cases ex with
  | normal =>
    simp only [Option.bind_eq_some_iff] at he
    obtain ⟨h3, hd, he⟩ := he
    exact hout hd (Option.bind_eq_some_iff.2 he) sr1.ρ sr1.h sr1.d x1 (Steps.trans hst (.one (st_end rfl)))
  | ret =>
    simp only [Option.bind_eq_some_iff] at he
    obtain ⟨h3, hd, he⟩ := he
    obtain ⟨todo, hst⟩ := hst rfl
    exact hout hd (Option.bind_eq_some_iff.2 he) sr1.ρ sr1.h sr1.d x1 hst
  | exit id => cases he
  | panic v =>
    obtain ⟨todo, cv, hv, hst⟩ := hst
    simp only at he
    have hds := sr1.d
    split at he
    · rename_i hnil
      cases he
      rw [hnil] at hds
      cases hds
      exact ⟨E1, w1, x1, sr1.h, cv, _, hv, hst, rfl, rfl, rfl, rfl, fn, hf⟩
    · cases he
    · rename_i g as ds hcons
      rw [hcons] at hds
      cases hds with
      | @call _ _ cargs' cap _ cl hga hgl =>
        simp only [Option.bind_eq_some_iff] at he
        obtain ⟨⟨ar, h2⟩, hdf, he⟩ := he
        split at he
        · rename_i _ h2' heq
          cases heq
          simp only [Option.bind_eq_some_iff] at he
          obtain ⟨h3, hd, he⟩ := he
          obtain ⟨g1, g2⟩ := hcall (.dfn g v) as s1.h _ _ hdf E1 w1 (cargs' ++ cap) sr1.h hga
          obtain ⟨E2, w2, x2, r2, s2⟩ := g2 (leaves (baseF f kind) t1 cl todo (.panicking [{ v := cv, recovered := false }])) cs1 cv rfl hv rfl
          refine hout hd (Option.bind_eq_some_iff.2 he) (sr1.ρ.mono x2.le) r2 (hgl.mono x2.le) (x1.trans x2) (hst.trans (.head (m₁ := lone (Frame.enter C.P g (cargs' ++ cap) .deferred) (leaves (baseF f kind) t1 cl todo (.panicking [{ v := cv, recovered := false }]) :: cs1) w1) (step_lone_go ?_) s2))
          simp [stepG, unwind, callDeferred, leaves, invoke, g1]
        · cases he

theorem dfn_ok {C : Cfg} (hC : CfgOk C) {n : Nat} (hcall : CallOk C (ai C n)) {f : FuncId} (hdraw : DrawOk C (ai C n) f n) {v : AV} {args : List AV} {h h' : H} {r : AR} (he : ai C (n + 1) (.dfn f v) args h = some (r, h')) : DfnOk C f v args h r h' := by
  simp only [ai, Option.bind_eq_some_iff] at he
  obtain ⟨fn, hf, c, hb, ⟨ex, s1⟩, hev, he⟩ := he
  intro E w cargs hr ha
  refine ⟨run_callFunc_body hC hf hb cargs, fun c' cs cv hm hv hrt => ?_⟩
  have hrc : RcOk E (baseF f .deferred) (c' :: cs) (.pan v) := ⟨rfl, rfl, c', cs, cv, rfl, hm, hv⟩
  have hs0 : SR E { ρ := args ++ List.replicate (fn.ntmps - args.length) undefA, ds := [], rc := .pan v, h } (cargs ++ Array.replicate (fn.ntmps - cargs.size) undef) [] w := ⟨ρ0_ok ha _, .nil, hr⟩
  have hl := code_ok hC.T hC.X hcall hdraw (rf_ok hcall f n) c hev (b := baseF f .deferred) rfl (k := []) hs0 hrc
  rw [← enter_run hf hb cargs .deferred] at hl
  obtain ⟨E1, t1, ds1, w1, cs1, x1, sr1, hc1, hst⟩ := hl
  have hkey : ∀ todo, (if s1.ds.isEmpty = true then (resA C s1 fn.results.toList).map fun _ => (AR.ret (.bool (match s1.rc with | .nil => true | _ => false)), s1.h) else none) = some (r, h') →
      Steps C.P (lone (Frame.enter C.P f cargs .deferred) (c' :: cs) w) (lone (leaves (baseF f .deferred) t1 ds1 todo .returning) cs1 w1) → ∃ E' w', Ext E h w E' h' w' ∧ HR E' h' w' ∧
      Steps C.P (lone (Frame.enter C.P f cargs .deferred) (c' :: cs) w) (lone { c' with mode := .returning } cs w') := fun todo he hst => by
    split at he
    · rename_i hem
      simp only [Option.map_eq_some_iff, Prod.mk.injEq] at he
      obtain ⟨l, hl, he2, rfl⟩ := he
      have hnil : s1.rc = .nil := by
        cases hq : s1.rc with
        | nil => rfl
        | no => rw [hq, hrt] at he2; simp at he2
        | pan v' => rw [hq, hrt] at he2; simp at he2
      have hds := sr1.d
      rw [List.isEmpty_iff.1 hem] at hds
      cases hds
      rcases hc1 with ⟨h1, _⟩ | ⟨v', c2, rest, cv', h1, _, h3, h4, h5⟩
      · exact absurd (h1.symm.trans hnil) (by intro h; cases h)
      · cases h3
        subst h5
        obtain ⟨rv, q1, q2⟩ := results_ok hC.T sr1.ρ sr1.h hl
        refine ⟨E1, w1, x1, sr1.h, hst.trans (.one (step_lone_go ?_))⟩
        simp [stepG, unwind, doReturn, leaves, baseF, hf, q2]
    · cases he
  cases ex with
  | normal => exact hkey [] he (Steps.trans hst (.one (st_end rfl)))
  | ret => obtain ⟨todo, hst⟩ := hst rfl; exact hkey todo he hst
  | exit id => cases he
  | panic v => cases he

end Go.Ai

/- The interpreter is sound. -/
namespace Go.Ai
open Go.RowKit

theorem setParams_ok {E : Env} : ∀ (ps : List Tmp) {args : List AV} {cargs : List Value}, VRs E args cargs → ps.length = args.length → ∀ {ρ : List AV} {t : Array Value}, VRs E ρ t.toList →
    VRs E (setParams ρ ps args) ((ps.zip cargs).foldl (fun tmps (x : Tmp × Value) => tmps.setIfInBounds x.1 x.2) t).toList := by
  intro ps
  induction ps with
  | nil => intro args cargs ha hl ρ t hρ; simpa [setParams] using hρ
  | cons p ps ih =>
    intro args cargs ha hl ρ t hρ
    cases ha with
    | nil => simp at hl
    | cons h hs =>
      simp only [setParams, List.zip_cons_cons, List.foldl_cons]
      exact ih hs (by simpa using hl) (by rw [Array.toList_setIfInBounds]; exact hρ.set h _)

theorem loop_live {E : Env} {h : H} {w : World} (r : HR E h w) {id : Nat} {rdy : Bool} {f : FuncId} {ρ : List AV} {ps : List Tmp} {as bd : Code} (hget : h.get id = some (.loop rdy f ρ ps as bd)) {x : M} (hx : E.m id = some x) :
    ∃ tm df, w.heap[x.blk]? = some (.loop { state := if rdy then .ready else .busy, pending := none, fn := f, tmps := tm, params := ps.toArray, assign := as, body := bd, defers := df }) ∧ VRs E ρ tm.toList := by
  obtain ⟨y, hy, tm, df, hb, hρ⟩ := r.live _ _ hget
  rw [hx] at hy; cases hy
  exact ⟨tm, df, hb, hρ⟩

/-- The loop's state is turned. -/
theorem loop_set {P : Program} {E : Env} {h : H} {w : World} (r : HR E h w) {id : Nat} {rdy : Bool} {f : FuncId} {ρ : List AV} {ps : List Tmp} {as bd : Code} (hget : h.get id = some (.loop rdy f ρ ps as bd)) {x : M} (hx : E.m id = some x) (rdy' : Bool) {tm : Array Value} {df : Nat}
    (hb : w.heap[x.blk]? = some (.loop { state := if rdy then .ready else .busy, pending := none, fn := f, tmps := tm, params := ps.toArray, assign := as, body := bd, defers := df })) (hρ : VRs E ρ tm.toList) :
    UnitOk P (setObj x.blk (.loop { state := if rdy' then .ready else .busy, pending := none, fn := f, tmps := tm, params := ps.toArray, assign := as, body := bd, defers := df })) E h w (h.set id (.loop rdy' f ρ ps as bd)) :=
  setObj_ok r hget hx hb (fun _ _ _ h => by cases h) (fun _ hw => ⟨tm, df, hw, hρ⟩)

def roundF (l : Nat) (f : FuncId) : Frame := { (default : Frame) with fn := f, kind := .normal, roundOf := some l }

theorem round_ok {C : Cfg} (hC : CfgOk C) {n : Nat} (hcall : CallOk C (ai C n)) (hdraw : ∀ f, DrawOk C (ai C n) f n) {id : Nat} {args : List AV} {h h' : H} {r : AR} (he : ai C (n + 1) (.round id) args h = some (r, h')) : RoundOk C id args h r h' := by
  simp only [ai] at he
  split at he
  · rename_i rdy fid ρ ps as bd hget
    split at he
    · rename_i hlen
      simp only [Option.bind_eq_some_iff] at he
      obtain ⟨⟨ex, s1⟩, hev, he⟩ := he
      cases ex with
      | exit _ => cases he
      | ret => cases he
      | panic _ => cases he
      | normal =>
        simp only at he
        split at he
        · rename_i f1 ρ1 ps1 as1 bd1 hget1
          simp only [Option.bind_eq_some_iff] at he
          obtain ⟨⟨ex, s2⟩, hev2, he⟩ := he
          cases ex with
          | exit _ => cases he
          | ret => cases he
          | panic _ => cases he
          | normal =>
            simp only at he
            split at he
            · rename_i hem
              split at he
              · rename_i rdy2 f2 ρ2 ps2 as2 bd2 hget2
                cases he
                intro E w cargs x hr ha hx
                obtain ⟨tm, df, hb, hρ⟩ := loop_live hr hget hx
                have hal : cargs.size = ps.length := by have := ha.length; simp at this; omega
                refine ⟨x.blk, fid, (ps.zip cargs.toList).foldl (fun tmps (x : Tmp × Value) => tmps.setIfInBounds x.1 x.2) tm, as, bd, ?_, fun c cs => ?_⟩
                · have e1 := run_getLoop (P := C.P) hb
                  have hz : (ps.toArray.zip cargs).foldl (fun tmps (x : Tmp × Value) => tmps.setIfInBounds x.1 x.2) tm = (ps.zip cargs.toList).foldl (fun tmps (x : Tmp × Value) => tmps.setIfInBounds x.1 x.2) tm := by
                    rw [← Array.foldl_toList, Array.toList_zip]
                  have hne : ¬ (cargs.size ≠ ps.toArray.size) := by simp [hal]
                  simp only [Instr.yield, Sem.run_bind, e1, Result.andThen_ok, if_neg hne, Sem.run_pure]
                  rw [← hz]
                · have hs0 : SR E { ρ := setParams ρ ps args, ds := [], rc := .no, h } ((ps.zip cargs.toList).foldl (fun tmps (x : Tmp × Value) => tmps.setIfInBounds x.1 x.2) tm) [] w :=
                    ⟨setParams_ok ps ha hlen hρ, .nil, hr⟩
                  have hcode : ∀ c, Code1 C (ai C n) fid n c := code_ok hC.T hC.X hcall (hdraw fid) (rf_ok hcall fid n)
                  have hl := hcode as hev (b := roundF x.blk fid) rfl (k := [.beginRound, .code bd]) (cs := c :: cs) hs0 trivial
                  obtain ⟨E1, t1, ds1, w1, cs1, x1, sr1, hc1, hst⟩ := hl
                  have hcs : cs1 = c :: cs := by
                    rcases hc1 with ⟨_, h⟩ | ⟨v, _, _, _, h, _⟩
                    · exact h
                    · cases h
                  subst hcs
                  -- the round begins
                  obtain ⟨tm1, df1, hb1, hρ1⟩ := loop_live sr1.h hget1 (x1.le.1 _ _ hx)
                  obtain ⟨w2, E2, q1, q2, q3⟩ := loop_set (P := C.P) sr1.h hget1 (x1.le.1 _ _ hx) false hb1 hρ1
                  have hbegin : (Instr.beginRound x.blk).run C.P w1 = .ok () w2 := by
                    have hb1' : w1.heap[x.blk]? = some (.loop { state := .ready, pending := none, fn := f1, tmps := tm1, params := ps1.toArray, assign := as1, body := bd1, defers := df1 }) := hb1
                    have q1' : (setObj x.blk (.loop { state := .busy, pending := none, fn := f1, tmps := tm1, params := ps1.toArray, assign := as1, body := bd1, defers := df1 })).run C.P w1 = .ok () w2 := q1
                    have e1 := run_getLoop (P := C.P) hb1'
                    simp only [Instr.beginRound, Sem.run_bind, e1, Result.andThen_ok, q1', Sem.run_pure]
                  have st1 : step C.P (lone (run (roundF x.blk fid) t1 ds1 [.beginRound, .code bd]) (c :: cs) w1) = .next (lone (run (roundF x.blk fid) t1 ds1 [.code bd]) (c :: cs) w2) :=
                    step_lone_go (by
                      simp [stepG, stepG.exec, stepG.apply, run, roundF, hbegin, Frame.finish])
                  have hrc : s1.rc = .no := by
                    rcases hc1 with ⟨h, _⟩ | ⟨v, _, _, _, h, _⟩
                    · exact h
                    · cases h
                  have hl2 := hcode bd hev2 (b := roundF x.blk fid) rfl (k := []) (cs := c :: cs) (sr1.step q3 q2) (by show RcOk _ _ _ s1.rc; rw [hrc]; trivial)
                  obtain ⟨E3, t3, ds3, w3, cs3, x3, sr3, hc3, hst3⟩ := hl2
                  have hcs : cs3 = c :: cs := by
                    rcases hc3 with ⟨_, h⟩ | ⟨v, _, _, _, h, _⟩
                    · exact h
                    · simp only at h; rw [hrc] at h; cases h
                  subst hcs
                  -- it ends
                  have hx3 : E3.m id = some x := x3.le.1 _ _ (q3.le.1 _ _ (x1.le.1 _ _ hx))
                  obtain ⟨tm3, df3, hb3, hρ3⟩ := loop_live sr3.h hget2 hx3
                  obtain ⟨w4, E4, p1, p2, p3⟩ := loop_set (P := C.P) sr3.h hget2 hx3 true hb3 hρ3
                  have hend : (Instr.endRound x.blk none).run C.P w3 = .ok (.bool true) w4 := by
                    have p1' : (setObj x.blk (.loop { state := .ready, pending := none, fn := f2, tmps := tm3, params := ps2.toArray, assign := as2, body := bd2, defers := df3 })).run C.P w3 = .ok () w4 := p1
                    have e1 := run_getLoop (P := C.P) hb3
                    simp only [Instr.endRound, Sem.run_bind, e1, Result.andThen_ok, Option.isNone_none, if_true, p1', Sem.run_pure]
                  refine ⟨E4, w4, .bool true, .bool true, rfl, .bool true, ((x1.trans q3).trans x3).trans p3, p2, ?_⟩
                  have hround : Frame.round x.blk fid ((ps.zip cargs.toList).foldl (fun tmps (x : Tmp × Value) => tmps.setIfInBounds x.1 x.2) tm) as bd .normal =
                      run (roundF x.blk fid) ((ps.zip cargs.toList).foldl (fun tmps (x : Tmp × Value) => tmps.setIfInBounds x.1 x.2) tm) [] [.code as, .beginRound, .code bd] := by
                    simp [Frame.round, run, roundF]
                  rw [hround]
                  refine hst.trans (.head st1 (hst3.trans (.one (step_lone_go ?_))))
                  simp [stepG, stepG.exec, run, roundF, hend, doReturn]
              · cases he
            · cases he
        · cases he
    · cases he
  · cases he

/-- THE INTERPRETER IS SOUND. -/
theorem ai_ok {C : Cfg} (hC : CfgOk C) (hdraw : ∀ call, CallOk C call → ∀ f n, DrawOk C call f n) : ∀ n, CallOk C (ai C n) := by
  intro n
  induction n with
  | zero =>
    intro cl args h r h' he
    cases cl <;> simp [ai] at he
  | succ n ih =>
    intro cl args h r h' he
    cases cl with
    | fn f =>
      cases hsp : C.sp f with
      | none => exact fnBody_ok hC ih (hdraw _ ih f n) hsp he
      | some g =>
        simp only [ai, hsp, Option.map_eq_some_iff] at he
        obtain ⟨⟨v, h2⟩, hg, he⟩ := he
        cases he
        exact hC.sp f g hsp args h v h2 hg
    | round id => exact round_ok hC ih (fun f => hdraw _ ih f n) he
    | dfn f v => exact dfn_ok hC ih (hdraw _ ih f n) he

end Go.Ai

/- New objects, whatever id they get. -/
namespace Go.Ai
open Go.RowKit

/-- It makes one new block, and says so for whatever id. -/
def AnyOk (P : Program) (s : Sem Value) (E : Env) (w : World) (id : Nat) (v : AV) (obj : Obj) : Prop :=
  ∃ cv w' x, s.run P w = .ok cv w' ∧ x.blk = w.heap.size ∧ (∀ b, b < w.heap.size → w'.heap[b]? = w.heap[b]?) ∧ w.heap.size < w'.heap.size ∧ w'.os = w.os ∧ w'.tape = w.tape ∧ w'.output = w.output ∧
    ∀ E', E.le E' → E'.m id = some x → VR E' v cv ∧ OR E' x w' obj

theorem cells_or {E E' : Env} (hE : E.le E') {w : World} {rows : List Row} {c : Array Value} (e : TypeId) {wd : Nat} (cap : Nat) (hr : RR E c 0 wd rows) (hl : rows.length ≤ cap) (hs : cap * wd ≤ c.size) :
    OR E' ⟨w.heap.size, 0, wd, cap⟩ (w.alloc (.cells c e)) (.blk wd rows) :=
  ⟨rfl, c, e, 0, 0, heap_alloc_new w _, hr.mono hE, hl, by simpa using hs, fun o _ _ h => by omega⟩

theorem box_any {P : Program} {E : Env} (w : World) (t : TypeId) {row : Row} {cv : Value} (hv : VRs E row cv.cells.toList) (id : Nat) :
    AnyOk P (do Pure.pure (.pointer (some (← newVar t cv)))) E w id (.ptr id 0 0) (.blk row.length [row]) := by
  have hl := hv.length
  simp at hl
  refine ⟨.pointer (some ⟨w.heap.size, 0, none⟩), w.alloc (.cells cv.cells t), ⟨w.heap.size, 0, row.length, 1⟩, by simp only [newVar, newRow, Sem.run_bind, run_newObj, Result.andThen_ok, Sem.run_pure]; rfl, rfl,
    fun b hb => alloc_old w _ hb, by simp, rfl, rfl, rfl, fun E' hE hm => ⟨?_, cells_or hE t 1 (RR_one hv) (by simp) (by omega)⟩⟩
  have := VR.ptr (E := E') (i := 0) (k := 0) hm
  simpa using this

theorem alloc_any {C : Cfg} (hT : TOk C) {E : Env} (w : World) {t : TypeId} {ti : TI} (ht : C.T t = some ti) (id : Nat) : AnyOk C.P (Instr.alloc t true (.tuple #[])) E w id (.ptr id 0 0) (.blk ti.zero.length [ti.zero]) := by
  obtain ⟨i, d, z, ty⟩ := hT.ty ht
  have hz : (zeroValue t).run C.P w = .ok z w := by simp [zeroValue, run_typeInfo_of ty.info, ty.zero]
  obtain ⟨cv, w', x, h1, h2⟩ := box_any (P := C.P) w t (ofVals_ok (E := E) _ _ ty.zeros) id
  refine ⟨cv, w', x, ?_, h2⟩
  simp only [Instr.alloc, Sem.run_bind, hz, Result.andThen_ok]
  simpa only [Sem.run_bind] using h1

theorem newRow_any {P : Program} {E : Env} (w : World) (e : TypeId) {rows : List Row} {size : Nat} {c : Array Value} (hall : ∀ r ∈ rows, r.length = size) (hc : VRs E rows.flatten c.toList) (id : Nat) :
    AnyOk P (do Pure.pure (.slice (some (← newRow e c)) rows.length rows.length)) E w id (.sl id 0 rows.length) (.blk size rows) := by
  have hrr : RR E c 0 size rows := RR_of_flat hall hc (fun j v hj => by rw [Nat.zero_add, ← Array.getElem?_toList]; exact hj)
  have hsz := hrr.flat.1
  have hl := hc.length
  simp only [Array.length_toList] at hl
  refine ⟨.slice (some ⟨w.heap.size, 0, none⟩) rows.length rows.length, w.alloc (.cells c e), ⟨w.heap.size, 0, size, rows.length⟩, by simp only [newRow, Sem.run_bind, run_newObj, Result.andThen_ok, Sem.run_pure]; rfl, rfl,
    fun b hb => alloc_old w _ hb, by simp, rfl, rfl, rfl, fun E' hE hm => ⟨?_, cells_or hE e rows.length hrr (Nat.le_refl _) (by omega)⟩⟩
  have := VR.sl (E := E') (i := 0) (n := rows.length) (c := rows.length) hm (Nat.le_refl _) (by simp)
  simpa using this

theorem buildSlice_any {C : Cfg} (hT : TOk C) {E : Env} (w : World) {t e : TypeId} {ti te : TI} (ht : C.T t = some ti) (hd : ti.d = .slice e) (he : C.T e = some te) {len : Nat} (hlim : ¬ len * te.size > 2 ^ 24)
    {ps : List (Nat × AV)} {cps : Array (Nat × Value)} (hlen : ps.length = cps.toList.length) (hps : ∀ (j : Nat) i v, ps[j]? = some (i, v) → ∃ cv, cps.toList[j]? = some (i, cv) ∧ VR E v cv)
    {rows : List Row} (hr : setRows (List.replicate len te.zero) te.size ps = some rows) (id : Nat) : AnyOk C.P (Instr.buildSlice t len cps) E w id (.sl id 0 len) (.blk te.size rows) := by
  obtain ⟨i, d, z, ty⟩ := hT.ty ht
  obtain ⟨ie, de, ze, tye⟩ := hT.ty he
  have hdesc := ty.desc
  rw [hd] at hdesc
  simp only [descOk] at hdesc; subst hdesc
  have hz := ofVals_ok (E := E) _ _ tye.zeros
  have hzl : ze.cells.size = te.size := by have := hz.length; simp at this; rw [← this]; exact tye.zlen
  obtain ⟨h1, h2, h3⟩ := setRows_flat (fun r hr => by rw [List.eq_of_mem_replicate hr]; exact tye.zlen) hr
  have h0 := zero_cells hz len
  obtain ⟨cr, h4, h5⟩ := fill_ok (E := E) (place := fun i => some (i * te.size, te.size)) (cplace := fun i => some (i * te.size, te.size)) (fun i x hx => hx) hlen hps h0 h1
  have hlr : rows.length = len := by rw [h3]; simp
  obtain ⟨cv, w', E', g1, g2⟩ := newRow_any (P := C.P) w e h2 h5 id
  rw [hlr] at g1 g2
  refine ⟨cv, w', E', ?_, g2⟩
  have hcells : (Array.range (len * te.size)).map (fun i => ze.cells[i % ze.cells.size]!) = Builtin.zeroCells ze.cells len := by simp [Builtin.zeroCells, hzl]
  simp only [Instr.buildSlice, Sem.run_bind, run_underlying_of ty.und, Result.andThen_ok, run_sizeOf_of tye.info, tye.size, if_neg hlim]
  by_cases h0 : len * te.size = 0
  · have e0 : ∀ f : Nat → Value, (Array.range 0).map f = #[] := fun f => by simp
    have : Builtin.zeroCells ze.cells len = #[] := by rw [← hcells, h0, e0]
    rw [this] at h4
    simp only [h0, if_true, Sem.run_pure, Result.andThen_ok, e0, h4]
    simpa only [Sem.run_bind, Sem.run_pure, Result.andThen_ok] using g1
  · simp only [h0, if_false, Sem.run_bind, run_zeroValue_of tye, Result.andThen_ok, Sem.run_pure, hcells, h4]
    simpa only [Sem.run_bind, Sem.run_pure, Result.andThen_ok] using g1

theorem makeSlice_any {C : Cfg} (hT : TOk C) {E : Env} (w : World) {t e : TypeId} {ti te : TI} (ht : C.T t = some ti) (hd : ti.d = .slice e) (he : C.T e = some te) {k k' : IntKind} {a b : Int} {n : Nat}
    (ha : natOf a = some n) (hb : natOf b = some n) (hlim : n * te.bytes ≤ 2 ^ 47) (hn : n < 2 ^ 47) (id : Nat) :
    AnyOk C.P (Instr.makeSlice t (.int k a) (.int k' b)) E w id (.sl id 0 n) (.blk te.size (List.replicate n te.zero)) := by
  obtain ⟨i, d, z, ty⟩ := hT.ty ht
  obtain ⟨ie, de, ze, tye⟩ := hT.ty he
  have hdesc := ty.desc
  rw [hd] at hdesc
  simp only [descOk] at hdesc; subst hdesc
  have hz := ofVals_ok (E := E) _ _ tye.zeros
  have hzl : ze.cells.size = te.size := by have := hz.length; simp at this; rw [← this]; exact tye.zlen
  obtain ⟨ha0, ha1⟩ := natOf_some ha
  obtain ⟨hb0, hb1⟩ := natOf_some hb
  obtain rfl : a = (n : Int) := by omega
  obtain rfl : b = (n : Int) := by omega
  have hwrap : IntKind.i64.wrap (n : Int) = n := wrap64_id (by omega) (by omega)
  have hall : ∀ r ∈ List.replicate n te.zero, r.length = te.size := fun r hr => by rw [List.eq_of_mem_replicate hr]; exact tye.zlen
  obtain ⟨cv, w', E', g1, g2⟩ := newRow_any (P := C.P) w e hall (zero_cells hz n) id
  simp only [List.length_replicate] at g1 g2
  refine ⟨cv, w', E', ?_, g2⟩
  have h47 : (te.bytes : Int) * n ≤ 140737488355328 := by
    have h1 : ((n * te.bytes : Nat) : Int) ≤ ((2 ^ 47 : Nat) : Int) := Int.ofNat_le.2 hlim
    rw [Int.natCast_mul] at h1
    rw [Int.mul_comm]
    simpa using h1
  have hlim' : ¬ ((te.bytes : Int) * n > 2 ^ 48) := by
    have e : (2 : Int) ^ 48 = 281474976710656 := by decide
    rw [e]; omega
  have hneg : ¬ ((n : Int) < 0) := by omega
  have hcells : (Array.range (n * te.size)).map (fun i => ze.cells[i % ze.cells.size]!) = Builtin.zeroCells ze.cells n := by simp [Builtin.zeroCells, hzl]
  simp only [Instr.makeSlice, Sem.run_bind, run_underlying_of ty.und, Result.andThen_ok, asInt, asIntOf, Sem.run_pure, run_typeInfo_of tye.info, hwrap, tye.bytes, hneg, hlim', decide_false, Bool.or_self, Bool.false_eq_true,
    gt_iff_lt, Int.lt_irrefl, if_false, run_askRoom, run_sizeOf_of tye.info, tye.size, Int.toNat_natCast]
  by_cases h0 : n * te.size = 0
  · have e0 : ∀ f : Nat → Value, (Array.range 0).map f = #[] := fun f => by simp
    have : Builtin.zeroCells ze.cells n = #[] := by rw [← hcells, h0, e0]
    rw [this] at g1
    simp only [h0, if_true, Sem.run_pure, Result.andThen_ok, e0]
    simpa only [Sem.run_bind, Sem.run_pure, Result.andThen_ok] using g1
  · simp only [h0, if_false, Sem.run_bind, run_zeroValue_of tye, Result.andThen_ok, Sem.run_pure, hcells]
    simpa only [Sem.run_bind, Sem.run_pure, Result.andThen_ok] using g1

theorem al_any {C : Cfg} (hT : TOk C) {E : Env} (w : World) {ρ : List AV} {tmps : Array Value} (hρ : VRs E ρ tmps.toList) {o : Oper} (ha : isAl o.op = true) {h : H} {eff : Eff} (he : execA C ρ o h = some eff) :
    ∃ v obj, eff = .val v (h.new obj) ∧ ∃ s, execOp (evT tmps) o = (do Pure.pure (.value (← s))) ∧ AnyOk C.P s E w h.next v obj := by
  unfold execA at he
  unfold execOp
  cases hop : o.op <;> rw [hop] at ha <;> simp [isAl] at ha <;> simp only [hop] at he ⊢
  case alloc t =>
    simp only [Option.map_eq_some_iff] at he
    obtain ⟨ti, ht, rfl⟩ := he
    exact ⟨_, _, rfl, _, rfl, alloc_any hT w ht _⟩
  case box t x =>
    simp only [Option.map_eq_some_iff] at he
    obtain ⟨v, hv, rfl⟩ := he
    exact ⟨_, _, rfl, _, rfl, box_any w _ (opd_ok hρ hv).cells _⟩
  case buildSlice t len ps =>
    simp only [Option.bind_eq_bind, Option.bind_eq_some_iff] at he
    obtain ⟨ti, ht, he⟩ := he
    split at he
    · rename_i e hd
      simp only [Option.bind_eq_some_iff] at he
      obtain ⟨te, hte, ps', hps, he⟩ := he
      split at he
      · cases he
      · rename_i hlim
        simp only [Option.bind_eq_some_iff, Option.pure_def, Option.some.injEq] at he
        obtain ⟨rows, hrows, rfl⟩ := he
        obtain ⟨hl, hp⟩ := parts_ok hρ hps
        exact ⟨_, _, rfl, _, rfl, buildSlice_any hT w ht hd hte hlim (by simpa using hl) (fun j i v hj => by
          obtain ⟨cv, h1, h2⟩ := hp j i v hj
          exact ⟨cv, by simpa using h1, h2⟩) hrows _⟩
    · cases he
  case makeMap t rs =>
    cases rs with
    | some _ => cases he
    | none =>
      cases he
      refine ⟨_, _, rfl, _, rfl, .map (some w.heap.size), w.alloc (.map #[] 0), ⟨w.heap.size, 0, 0, 0⟩, ?_, rfl, fun b hb => alloc_old w _ hb, by simp, rfl, rfl, rfl, fun E' hE hm => ⟨.map hm, #[], 0, heap_alloc_new w _, .nil⟩⟩
      simp only [Instr.makeMap, Option.map_none, Sem.run_bind, run_newObj, Result.andThen_ok, Sem.run_pure]
      rfl
  case makeSlice t l c =>
    simp only [Option.bind_eq_bind, Option.bind_eq_some_iff] at he
    obtain ⟨ti, ht, he⟩ := he
    split at he
    · rename_i e hd
      simp only [Option.bind_eq_some_iff] at he
      obtain ⟨te, hte, a, ha, i, hi, n, hn, b, hb, j, hj, m, hm, he⟩ := he
      split at he
      · rename_i hc
        obtain ⟨rfl, hlim, hlt⟩ := hc
        cases he
        obtain ⟨k, hk⟩ := opdInt hρ ha hi
        obtain ⟨k', hk'⟩ := opdInt hρ hb hj
        simp only [hk, hk']
        exact ⟨_, _, rfl, _, rfl, makeSlice_any hT w ht hd hte hn hm hlim hlt _⟩
      · cases he
    · cases he

end Go.Ai

/- What an operation looks at. -/
namespace Go.Ai
open Go.RowKit

theorem opds_congr {ρ ρ' : List AV} {l : List Operand} (h : ∀ x ∈ l, opd ρ x = opd ρ' x) : opds ρ l = opds ρ' l := by
  induction l with
  | nil => rfl
  | cons x l ih =>
    have h1 := h x (by simp)
    have h2 := ih fun y hy => h y (by simp [hy])
    simp only [opds] at h2
    simp only [opds, List.mapM_cons, h1, h2]

theorem parts_congr {ρ ρ' : List AV} {l : List (Nat × Operand)} (h : ∀ x ∈ l.map (·.2), opd ρ x = opd ρ' x) : parts ρ l = parts ρ' l := by
  induction l with
  | nil => rfl
  | cons x l ih =>
    have h1 := h x.2 (by simp)
    have h2 := ih fun y hy => h y (by simp at hy ⊢; exact .inr hy)
    simp only [parts] at h2
    simp only [parts, List.mapM_cons, h1, h2]

theorem boundA_congr {ρ ρ' : List AV} {d : Option Nat} {o : Option Operand} (h : ∀ x ∈ o.toArray, opd ρ x = opd ρ' x) : boundA ρ d o = boundA ρ' d o := by
  cases o with
  | none => rfl
  | some x => simp only [boundA, h x (by simp)]

theorem maxA_congr {ρ ρ' : List AV} {a : AV} {o : Option Operand} (h : ∀ x ∈ o.toArray, opd ρ x = opd ρ' x) : maxA ρ a o = maxA ρ' a o := by
  cases o with
  | none => rfl
  | some x => simp only [maxA, h x (by simp)]

theorem execA_congr {C : Cfg} {ρ ρ' : List AV} {o : Oper} {h : H} (hx : ∀ x ∈ o.op.operands, opd ρ x = opd ρ' x) : execA C ρ o h = execA C ρ' o h := by
  obtain ⟨dst, op, type, pos, after, guard⟩ := o
  simp only at hx
  cases op <;> simp only [Op.operands] at hx <;> simp only [execA]
  case build t ps => rw [parts_congr (ρ := ρ) (ρ' := ρ') fun x hm => hx x (by simpa using hm)]
  case buildSlice t n ps => rw [parts_congr (ρ := ρ) (ρ' := ρ') fun x hm => hx x (by simpa using hm)]
  case makeFunc f first cap =>
    rw [opds_congr (ρ := ρ) (ρ' := ρ') (l := first.toList) fun x hm => hx x (by simp at hm ⊢; exact .inl hm), opds_congr (ρ := ρ) (ρ' := ρ') (l := cap.toList) fun x hm => hx x (by simp at hm ⊢; exact .inr hm)]
  case slice t x lo hi mx =>
    rw [hx x (by simp), boundA_congr (ρ := ρ) (ρ' := ρ') (o := lo) fun y hy => hx y (by simp at hy ⊢; simp [hy])]
    simp only [boundA_congr (ρ := ρ) (ρ' := ρ') (o := hi) fun y hy => hx y (by simp at hy ⊢; simp [hy]), maxA_congr (ρ := ρ) (ρ' := ρ') (o := mx) fun y hy => hx y (by simp at hy ⊢; simp [hy])]
  case call c =>
    rw [opds_congr (ρ := ρ) (ρ' := ρ') (l := c.args.toList) fun x hm => hx x (by simp [Call.operands] at hm ⊢; exact .inr hm)]
    have hc : ∀ x ∈ (match c.callee with | .value f => #[f] | .invoke r _ => #[r] | .builtin _ => (#[] : Array Operand)), opd ρ x = opd ρ' x := fun x hm => hx x (by simp only [Call.operands, Array.mem_append]; exact .inl hm)
    cases hq : c.callee <;> rw [hq] at hc <;> simp only [] <;> simp at hc <;> try rw [hc]
  case defer c =>
    rw [opds_congr (ρ := ρ) (ρ' := ρ') (l := c.args.toList) fun x hm => hx x (by simp [Call.operands] at hm ⊢; exact .inr hm)]
    have hc : ∀ x ∈ (match c.callee with | .value f => #[f] | .invoke r _ => #[r] | .builtin _ => (#[] : Array Operand)), opd ρ x = opd ρ' x := fun x hm => hx x (by simp only [Call.operands, Array.mem_append]; exact .inl hm)
    cases hq : c.callee <;> rw [hq] at hc <;> simp only [] <;> simp at hc <;> try rw [hc]
  case makeMap t r => cases r <;> rfl
  case next it b => cases b <;> simp_all [execA]
  all_goals (first | rfl | (simp at hx; simp only [hx]; done) | (simp at hx; obtain ⟨h1, h2⟩ := hx; simp only [h1, h2]; done) | (simp at hx; obtain ⟨h1, h2, h3⟩ := hx; simp only [h1, h2, h3]; done))

theorem map_val {x : Option AV} {h : H} {eff : Eff} (he : x.map (Eff.val · h) = some eff) : ∃ v h', eff = .val v h' ∧ (h' = h ∨ h'.next = h.next + 1) := by
  simp only [Option.map_eq_some_iff] at he
  obtain ⟨v, _, rfl⟩ := he
  exact ⟨v, h, rfl, .inl rfl⟩

theorem still_ok {C : Cfg} {ρ : List AV} {o : Oper} {h : H} {eff : Eff} (h1 : isEff o.op = false) (h2 : isAl o.op = false) (he : execA C ρ o h = some eff) : ∃ v h', eff = .val v h' ∧ (h' = h ∨ h'.next = h.next + 1) := by
  obtain ⟨dst, op, type, pos, after, guard⟩ := o
  simp only at h1 h2
  cases op <;> simp [isEff, isAl] at h1 h2 <;> simp only [execA] at he <;> try (first | exact map_val he | (cases he; done))
  case pick c a b =>
    simp only [Option.bind_eq_some_iff] at he
    obtain ⟨_, _, he⟩ := he
    split at he
    · exact map_val he
    · cases he
  case build t ps =>
    simp only [Option.bind_eq_bind, Option.bind_eq_some_iff] at he
    obtain ⟨_, _, _, _, he⟩ := he
    split at he
    · exact map_val he
    · simp only [Option.bind_eq_some_iff] at he
      obtain ⟨_, _, he⟩ := he
      exact map_val he
    · cases he
  case load t a =>
    simp only [Option.bind_eq_bind, Option.bind_eq_some_iff] at he
    obtain ⟨_, _, _, _, he⟩ := he
    exact map_val he
  case nilCheck x =>
    simp only [Option.bind_eq_some_iff] at he
    obtain ⟨_, _, he⟩ := he
    split at he <;> first | (cases he; exact ⟨_, _, rfl, .inl rfl⟩) | cases he
  case binOp op t x y u =>
    simp only [Option.bind_eq_bind, Option.bind_eq_some_iff] at he
    obtain ⟨_, _, _, _, he⟩ := he
    split at he
    · cases he
    · exact map_val he
  case unOp op t x =>
    simp only [Option.bind_eq_bind, Option.bind_eq_some_iff] at he
    obtain ⟨_, _, he⟩ := he
    exact map_val he
  case convert src dst x =>
    simp only [Option.bind_eq_bind, Option.bind_eq_some_iff] at he
    obtain ⟨_, _, _, _, _, _, he⟩ := he
    split at he
    · exact map_val he
    · exact map_val he
    · simp only [Option.bind_eq_some_iff] at he
      obtain ⟨_, _, he⟩ := he
      split at he
      · cases he; exact ⟨_, _, rfl, .inr rfl⟩
      · cases he
    · simp only [Option.bind_eq_some_iff] at he
      obtain ⟨_, _, he⟩ := he
      split at he
      · simp only [Option.bind_eq_some_iff] at he
        obtain ⟨_, _, _, _, he⟩ := he
        exact map_val he
      · cases he
    · cases he
  case makeInterface t x =>
    simp only [Option.bind_eq_bind, Option.bind_eq_some_iff] at he
    obtain ⟨_, _, he⟩ := he
    split at he
    · cases he
    · exact map_val he
  case makeFunc f first cap =>
    split at he
    · simp only [Option.bind_eq_bind, Option.bind_eq_some_iff] at he
      obtain ⟨_, _, _, _, he⟩ := he
      exact map_val he
    · cases he
  case slice t x lo hi mx =>
    simp only [Option.bind_eq_some_iff] at he
    obtain ⟨_, _, he⟩ := he
    split at he
    · cases he
    · simp only [Option.bind_eq_some_iff] at he
      obtain ⟨_, _, _, _, _, _, _, _, he⟩ := he
      exact map_val he
  case fieldAddr t x f =>
    simp only [Option.bind_eq_bind, Option.bind_eq_some_iff] at he
    obtain ⟨_, _, he⟩ := he
    split at he
    · simp only [Option.bind_eq_some_iff] at he
      obtain ⟨_, _, he⟩ := he
      split at he
      · cases he
      · simp only [Option.bind_eq_some_iff] at he
        obtain ⟨_, _, he⟩ := he
        split at he
        · exact map_val he
        · exact map_val he
        · cases he
    · cases he
  case field t x f =>
    simp only [Option.bind_eq_bind, Option.bind_eq_some_iff] at he
    obtain ⟨_, _, he⟩ := he
    split at he
    · simp only [Option.bind_eq_some_iff] at he
      obtain ⟨_, _, _, _, he⟩ := he
      split at he
      · split at he
        · exact map_val he
        · cases he
      · cases he
    · cases he
  case indexAddr t x ix =>
    simp only [Option.bind_eq_bind, Option.bind_eq_some_iff] at he
    obtain ⟨_, _, _, _, _, _, _, _, _, _, he⟩ := he
    split at he
    · simp only [Option.bind_eq_some_iff] at he
      obtain ⟨_, _, _, _, he⟩ := he
      split at he
      · split at he
        · exact map_val he
        · exact map_val he
        · cases he
      · cases he
    · simp only [Option.bind_eq_some_iff] at he
      obtain ⟨_, _, he⟩ := he
      split at he
      · split at he
        · exact map_val he
        · exact map_val he
        · cases he
      · cases he
    · cases he
  case index t x ix =>
    simp only [Option.bind_eq_bind, Option.bind_eq_some_iff] at he
    obtain ⟨_, _, _, _, _, _, _, _, _, _, he⟩ := he
    split at he
    · exact map_val he
    · simp only [Option.bind_eq_some_iff] at he
      obtain ⟨_, _, he⟩ := he
      split at he
      · exact map_val he
      · cases he
    · cases he
  case lookup t x k ok =>
    simp only [Option.bind_eq_bind, Option.bind_eq_some_iff] at he
    obtain ⟨_, _, he⟩ := he
    split at he
    · simp only [Option.bind_eq_some_iff] at he
      obtain ⟨_, _, _, _, _, _, _, _, he⟩ := he
      split at he
      · simp only [Option.bind_eq_some_iff] at he
        obtain ⟨_, _, he⟩ := he
        exact map_val he
      · cases he
    · cases he
  case range t x =>
    simp only [Option.bind_eq_some_iff] at he
    obtain ⟨_, _, he⟩ := he
    split at he
    · simp only [Option.bind_eq_some_iff] at he
      obtain ⟨_, _, he⟩ := he
      split at he
      · cases he; exact ⟨_, _, rfl, .inr rfl⟩
      · cases he
    · cases he
  case typeAssert x u t ok =>
    simp only [Option.bind_eq_bind, Option.bind_eq_some_iff] at he
    obtain ⟨_, _, _, _, he⟩ := he
    split at he
    · cases he
    · split at he
      · exact map_val he
      · cases he
    · cases he
  case extract x i =>
    simp only [Option.bind_eq_some_iff] at he
    obtain ⟨_, _, he⟩ := he
    split at he
    · exact map_val he
    · cases he
  case call c =>
    simp only [Option.bind_eq_bind, Option.bind_eq_some_iff] at he
    obtain ⟨args, _, he⟩ := he
    cases hq : c.callee with
    | value f => rw [hq] at h1; simp at h1
    | invoke r m => rw [hq] at h1; simp at h1
    | builtin b =>
      rw [hq] at h1
      simp only [hq] at he
      unfold builtinA at he
      split at he <;> simp at h1
      · simp only [Option.bind_eq_some_iff] at he
        obtain ⟨_, _, _, _, he⟩ := he
        split at he
        · split at he
          · cases he; exact ⟨_, _, rfl, .inl rfl⟩
          · cases he
        · simp only [Option.map_eq_some_iff] at he
          obtain ⟨_, _, rfl⟩ := he
          exact ⟨_, _, rfl, .inl rfl⟩
        · simp only [Option.map_eq_some_iff] at he
          obtain ⟨_, _, rfl⟩ := he
          exact ⟨_, _, rfl, .inl rfl⟩
        · cases he; exact ⟨_, _, rfl, .inl rfl⟩
        · cases he
      · exact map_val he
      · exact map_val he
      · cases he

end Go.Ai
