import Derived.Test.YtelmlhlkefmjkaaGreatDoorAiI
set_option linter.unusedSimpArgs false
set_option linter.unusedVariables false
/- The interpreter in steps that simp can take: code with what comes behind it. -/
namespace Go.Ai

/-! ### recover finds nothing in a frame that began so -/
theorem put_rc' {s : S} {d : Option Tmp} {v : AV} : (s.put d v).rc = s.rc := by cases d <;> rfl

theorem stepOp_rc {C : Cfg} {c : CallF} {ops : Array Oper} {o : Oper} {s s' : S} {ex : Ex} (h : stepOp C c ops o s = some (ex, s')) (hr : s.rc = .nil) : s'.rc = .nil ∧ (ex = .normal ∨ ∃ v, ex = .panic v) := by
  unfold stepOp at h
  simp only [Option.bind_eq_some_iff] at h
  obtain ⟨b, _, h⟩ := h
  cases b with
  | false =>
    simp only [Bool.false_eq_true, if_false, Option.some.injEq, Prod.mk.injEq] at h
    obtain ⟨rfl, rfl⟩ := h
    exact ⟨put_rc'.trans hr, .inl rfl⟩
  | true =>
    simp only [if_true, Option.bind_eq_some_iff] at h
    obtain ⟨e, _, h⟩ := h
    cases e with
    | val v h' =>
      simp only [Option.some.injEq, Prod.mk.injEq] at h
      obtain ⟨rfl, rfl⟩ := h
      exact ⟨put_rc'.trans hr, .inl rfl⟩
    | call f args =>
      simp only [Option.bind_eq_some_iff] at h
      obtain ⟨⟨ar, h2⟩, _, h⟩ := h
      cases ar with
      | ret v =>
        simp only [Option.some.injEq, Prod.mk.injEq] at h
        obtain ⟨rfl, rfl⟩ := h
        exact ⟨put_rc'.trans hr, .inl rfl⟩
      | panic v =>
        simp only [Option.some.injEq, Prod.mk.injEq] at h
        obtain ⟨rfl, rfl⟩ := h
        exact ⟨hr, .inr ⟨v, rfl⟩⟩
    | panic v =>
      simp only [Option.some.injEq, Prod.mk.injEq] at h
      obtain ⟨rfl, rfl⟩ := h
      exact ⟨hr, .inr ⟨v, rfl⟩⟩
    | defer f args =>
      simp only [hr, Option.some.injEq, Prod.mk.injEq] at h
      obtain ⟨rfl, rfl⟩ := h
      exact ⟨by rw [put_rc'], .inl rfl⟩
    | recover =>
      simp only [hr, Option.some.injEq, Prod.mk.injEq] at h
      obtain ⟨rfl, rfl⟩ := h
      exact ⟨by rw [put_rc', hr], .inl rfl⟩

theorem runOps_rc {C : Cfg} {c : CallF} {ops : Array Oper} : ∀ (l : List Oper) {s s' : S} {ex : Ex}, runOps C c ops l s = some (ex, s') → s.rc = .nil → s'.rc = .nil ∧ (ex = .normal ∨ ∃ v, ex = .panic v) := by
  intro l
  induction l with
  | nil => intro s s' ex h hr; cases h; exact ⟨hr, .inl rfl⟩
  | cons o l ih =>
    intro s s' ex h hr
    unfold runOps at h
    simp only [Option.bind_eq_some_iff] at h
    obtain ⟨⟨e1, s1⟩, h1, h⟩ := h
    obtain ⟨r1, r2⟩ := stepOp_rc h1 hr
    rcases r2 with rfl | ⟨v, rfl⟩
    · exact ih h r1
    · cases h; exact ⟨r1, .inr ⟨v, rfl⟩⟩

theorem runDraw_rc {C : Cfg} {c : CallF} {ops : Array Oper} {base : Nat} : ∀ (l : List St) {s s' : S} {hs : List H} {as : List Again} {ex : Ex}, runDraw C c ops base l s hs as = some (ex, s') → s.rc = .nil → s'.rc = .nil ∧ ex = .normal := by
  intro l
  induction l with
  | nil =>
    intro s s' hs as ex h hr
    unfold runDraw at h
    split at h
    · cases h; exact ⟨hr, rfl⟩
    · cases h
  | cons t l ih =>
    intro s s' hs as ex h hr
    unfold runDraw at h
    simp only [Option.bind_eq_some_iff] at h
    obtain ⟨o, _, h⟩ := h
    split at h
    · simp only [Option.bind_eq_some_iff] at h
      obtain ⟨⟨e1, s1⟩, h1, h⟩ := h
      obtain ⟨r1, r2⟩ := stepOp_rc h1 hr
      rcases r2 with rfl | ⟨v, rfl⟩
      · exact ih h r1
      · cases h
    · simp only [Option.bind_eq_some_iff] at h
      obtain ⟨b, _, h⟩ := h
      cases b with
      | false => exact ih h (put_rc'.trans hr)
      | true =>
        simp only [if_true] at h
        split at h
        · simp only [Option.bind_eq_some_iff] at h
          obtain ⟨e, _, h⟩ := h
          cases e with
          | val v h' => exact ih h (put_rc'.trans hr)
          | _ => cases h
        · simp only [Option.bind_eq_some_iff] at h
          obtain ⟨hp, _, e, _, h⟩ := h
          cases e with
          | val v h' =>
            simp only at h
            split at h
            · split at h
              · exact ih h (put_rc'.trans hr)
              · exact ih h (put_rc'.trans hr)
            · cases h
          | _ => cases h

theorem iter_rc {f : S → Option (Ex × S)} (hf : ∀ s ex s', f s = some (ex, s') → s.rc = .nil → s'.rc = .nil) : ∀ n {s s' : S} {ex : Ex}, iter f n s = some (ex, s') → s.rc = .nil → s'.rc = .nil := by
  intro n
  induction n with
  | zero => intro s s' ex h; cases h
  | succ n ih =>
    intro s s' ex h hr
    unfold iter at h
    simp only [Option.bind_eq_some_iff] at h
    obtain ⟨⟨e1, s1⟩, h1, h⟩ := h
    have r1 := hf _ _ _ h1 hr
    cases e1 with
    | normal => exact ih h r1
    | _ => cases h; exact r1

theorem evalC_rc {C : Cfg} {call : CallF} {fid : FuncId} {n : Nat} : ∀ (c : Code) {s s' : S} {ex : Ex}, evalC C call fid n c s = some (ex, s') → s.rc = .nil → s'.rc = .nil := by
  intro c
  induction c with
  | skip => intro s s' ex h hr; cases h; exact hr
  | label _ => intro s s' ex h hr; cases h; exact hr
  | exit _ => intro s s' ex h hr; cases h; exact hr
  | ret => intro s s' ex h hr; cases h; exact hr
  | region id ops draw =>
    intro s s' ex h hr
    unfold evalC at h
    cases draw with
    | true =>
      simp only [if_true] at h
      split at h
      · exact (runDraw_rc _ h hr).1
      · cases h
    | false => exact (runOps_rc _ h hr).1
  | seq a b iha ihb =>
    intro s s' ex h hr
    unfold evalC at h
    simp only [Option.bind_eq_some_iff] at h
    obtain ⟨⟨e1, s1⟩, h1, h⟩ := h
    have r1 := iha h1 hr
    cases e1 with
    | normal => exact ihb h r1
    | _ => cases h; exact r1
  | cond x a b iha ihb =>
    intro s s' ex h hr
    unfold evalC at h
    simp only [Option.bind_eq_some_iff] at h
    obtain ⟨v, _, h⟩ := h
    cases v with
    | bool t => cases t with
      | true => exact iha h hr
      | false => exact ihb h hr
    | _ => cases h
  | block bid a ih =>
    intro s s' ex h hr
    unfold evalC at h
    simp only [Option.bind_eq_some_iff] at h
    obtain ⟨⟨e1, s1⟩, h1, h⟩ := h
    have r1 := ih h1 hr
    cases e1 with
    | exit i =>
      simp only at h
      split at h <;> (cases h; exact r1)
    | _ => cases h; exact r1
  | loop a ih =>
    intro s s' ex h hr
    unfold evalC at h
    exact iter_rc (fun s ex s' h hr => ih h hr) n h hr
  | scope a ih => intro s s' ex h hr; unfold evalC at h; exact ih h hr
  | rangeFunc f ps as bd _ _ =>
    intro s s' ex h hr
    unfold evalC at h
    simp only [hr, Option.bind_eq_some_iff] at h
    obtain ⟨v, _, h⟩ := h
    cases v with
    | fn g first cap =>
      simp only [Option.bind_eq_some_iff] at h
      obtain ⟨⟨ar, h2⟩, _, h⟩ := h
      cases ar with
      | ret v =>
        simp only at h
        split at h
        · cases h; rfl
        · cases h
      | panic v => cases h
    | _ => cases h
  | _ => intro s s' ex h; unfold evalC at h; cases h

section
variable {α : Type} {C : Cfg}

abbrev Kont (α : Type) := List AV → List D → H → Option α

/-- Code, and what comes behind it: when it ends, when it returns, when it leaves a block. -/
noncomputable def X (C : Cfg) (fid : FuncId) (c : Code) (ρ : List AV) (ds : List D) (h : H) (kn kr : Kont α) (kx : Nat → Kont α) : Option α :=
  (ev C fid c { ρ, ds, rc := .nil, h }).bind fun x => match x with
    | (.normal, s) => kn s.ρ s.ds s.h
    | (.ret, s) => kr s.ρ s.ds s.h
    | (.exit i, s) => kx i s.ρ s.ds s.h
    | (.panic _, _) => none

/-- A list of operations, and what comes behind them. -/
noncomputable def G (C : Cfg) (ops : Array Oper) (l : List Oper) (ρ : List AV) (ds : List D) (h : H) (k : Kont α) : Option α :=
  (runOps C (cl C) ops l { ρ, ds, rc := .nil, h }).bind fun x => match x with
    | (.normal, s) => k s.ρ s.ds s.h
    | _ => none

/-- One operation, and what comes behind it. -/
noncomputable def A (C : Cfg) (ρ : List AV) (op : Op) (ds : List D) (h : H) (k : AV → List D → H → Option α) : Option α :=
  (execA C ρ { (default : Oper) with op } h).bind fun x => match x with
    | .val v h => k v ds h
    | .call f args => (cl C f args h).bind fun y => match y with
      | (.ret v, h) => k v ds h
      | (.panic _, _) => none
    | .panic _ => none
    | .defer f args => k undefA (.call f args :: ds) h
    | .recover => k .nili ds h

theorem execA_op {ρ : List AV} {o : Oper} {h : H} : execA C ρ o h = execA C ρ { (default : Oper) with op := o.op } h := by
  obtain ⟨d, op, t, p, a, g⟩ := o
  cases op <;> rfl

/-- What is put where. -/
def putD (ρ : List AV) (d : Option Tmp) (v : AV) : List AV :=
  match d with
  | some d => ρ.set d v
  | none => ρ

theorem put_eq' {s : S} {d : Option Tmp} {v : AV} : s.put d v = { s with ρ := putD s.ρ d v } := by cases d <;> rfl

theorem G_nil {ops : Array Oper} {ρ : List AV} {ds : List D} {h : H} {k : Kont α} : G C ops [] ρ ds h k = k ρ ds h := rfl

theorem G_step {ops : Array Oper} {o : Oper} {l : List Oper} {ρ : List AV} {ds : List D} {h : H} {k : Kont α} (hw : wantedA ρ ops o = some true) :
    G C ops (o :: l) ρ ds h k = A C ρ o.op ds h fun v ds h => G C ops l (putD ρ o.dst v) ds h k := by
  unfold G A
  rw [← execA_op]
  simp only [runOps, stepOp, hw, Option.bind_some, if_true]
  cases he : execA C ρ o h with
  | none => rfl
  | some e =>
    simp only [Option.bind_some]
    cases e with
    | val v h' => simp only [Option.bind_some, put_eq']
    | call f args =>
      simp only
      cases hc : cl C f args h with
      | none => rfl
      | some y =>
        obtain ⟨ar, h'⟩ := y
        cases ar with
        | ret v => simp only [Option.bind_some, put_eq']
        | panic v => rfl
    | panic v => rfl
    | defer f args => simp only [Option.bind_some, put_eq']
    | recover => simp only [Option.bind_some, put_eq']

/-- An operation without a guard. -/
theorem G_cons {ops : Array Oper} {d : Option Tmp} {op : Op} {t : TypeId} {p : String} {a : Array Edge} {l : List Oper} {ρ : List AV} {ds : List D} {h : H} {k : Kont α} :
    G C ops (⟨d, op, t, p, a, none⟩ :: l) ρ ds h k = A C ρ op ds h fun v ds h => G C ops l (putD ρ d v) ds h k := G_step rfl

/-- An operation with a guard. -/
theorem G_guard {ops : Array Oper} {d : Option Tmp} {op : Op} {t : TypeId} {p : String} {a : Array Edge} {g : Nat} {w : Bool} {l : List Oper} {ρ : List AV} {ds : List D} {h : H} {k : Kont α} :
    G C ops (⟨d, op, t, p, a, some (g, w)⟩ :: l) ρ ds h k = match ((ops[g]?).bind (·.dst)).bind (ρ[·]?) with
      | some (.bool b) => if b = w then A C ρ op ds h fun v ds h => G C ops l (putD ρ d v) ds h k else G C ops l (putD ρ d undefA) ds h k
      | some (.tup []) => G C ops l (putD ρ d undefA) ds h k
      | _ => none := by
  have skip : wantedA ρ ops ⟨d, op, t, p, a, some (g, w)⟩ = some false → G C ops (⟨d, op, t, p, a, some (g, w)⟩ :: l) ρ ds h k = G C ops l (putD ρ d undefA) ds h k := fun hw => by
    unfold G
    simp only [runOps, stepOp, hw, Option.bind_some, Bool.false_eq_true, if_false, put_eq']
  have bad : wantedA ρ ops ⟨d, op, t, p, a, some (g, w)⟩ = none → G C ops (⟨d, op, t, p, a, some (g, w)⟩ :: l) ρ ds h k = none := fun hw => by
    unfold G
    simp only [runOps, stepOp, hw, Option.bind_none]
  split
  · rename_i b hb
    have hw : wantedA ρ ops ⟨d, op, t, p, a, some (g, w)⟩ = some (b == w) := by simp only [wantedA, hb]
    by_cases e : b = w
    · rw [if_pos e]
      exact G_step (by rw [hw]; simp [e])
    · rw [if_neg e]
      exact skip (by rw [hw]; simp [e])
  · rename_i hb
    exact skip (by simp only [wantedA, hb])
  · rename_i h1 h2
    exact bad (by
      unfold wantedA
      simp only)

section
variable {fid : FuncId} {ρ : List AV} {ds : List D} {h : H} {kn kr : Kont α} {kx : Nat → Kont α}
theorem X_scope {c : Code} : X C fid (.scope c) ρ ds h kn kr kx = X C fid c ρ ds h kn kr kx := by unfold X; rw [ev_scope]

theorem X_cond {c : Operand} {a b : Code} {t : Bool} (hc : opd ρ c = some (.bool t)) : X C fid (.cond c a b) ρ ds h kn kr kx = if t then X C fid a ρ ds h kn kr kx else X C fid b ρ ds h kn kr kx := by
  unfold X
  rw [ev_cond (s := { ρ, ds, rc := .nil, h }) hc]
  cases t <;> rfl

theorem resA_ds {ρ : List AV} {ds ds' : List D} {rc rc' : RC} {h : H} : ∀ l : List ResultVar, resA C { ρ, ds, rc, h } l = resA C { ρ, ds := ds', rc := rc', h } l := by
  intro l
  induction l with
  | nil => rfl
  | cons r l ih => cases r <;> simp only [resA, ih]


theorem ev_rc (hfz : ∀ f, C.fz f = false) {c : Code} {s s' : S} {ex : Ex} (e : ev C fid c s = some (ex, s')) (hr : s.rc = .nil) : s'.rc = .nil := by
  obtain ⟨n, hn⟩ := (ev_some hfz).1 e
  exact evalC_rc c hn hr

theorem X_skip (hfz : ∀ f, C.fz f = false) : X C fid .skip ρ ds h kn kr kx = kn ρ ds h := by unfold X; rw [ev_skip hfz]; rfl
theorem X_label (hfz : ∀ f, C.fz f = false) {l : Nat} : X C fid (.label l) ρ ds h kn kr kx = kn ρ ds h := by unfold X; rw [ev_label hfz]; rfl
theorem X_ret (hfz : ∀ f, C.fz f = false) : X C fid .ret ρ ds h kn kr kx = kr ρ ds h := by unfold X; rw [ev_ret hfz]; rfl
theorem X_exit (hfz : ∀ f, C.fz f = false) {i : Nat} : X C fid (.exit i) ρ ds h kn kr kx = kx i ρ ds h := by unfold X; rw [ev_exit hfz]; rfl
theorem X_seq (hfz : ∀ f, C.fz f = false) {a b : Code} : X C fid (.seq a b) ρ ds h kn kr kx = X C fid a ρ ds h (fun ρ ds h => X C fid b ρ ds h kn kr kx) kr kx := by
  unfold X
  rw [ev_seq hfz]
  cases he : ev C fid a { ρ, ds, rc := .nil, h } with
  | none => rfl
  | some x =>
    obtain ⟨ex, s⟩ := x
    have hr := ev_rc hfz he rfl
    obtain ⟨ρ', ds', rc', h'⟩ := s
    subst hr
    cases ex <;> rfl

theorem X_block (hfz : ∀ f, C.fz f = false) {id : Nat} {c : Code} : X C fid (.block id c) ρ ds h kn kr kx = X C fid c ρ ds h kn kr (fun i ρ ds h => if i = id then kn ρ ds h else kx i ρ ds h) := by
  unfold X
  rw [ev_block hfz]
  cases he : ev C fid c { ρ, ds, rc := .nil, h } with
  | none => rfl
  | some x =>
    obtain ⟨ex, s⟩ := x
    cases ex with
    | exit i =>
      simp only [Option.bind_some]
      by_cases e : i = id <;> simp [e]
    | _ => rfl

theorem X_loop (hfz : ∀ f, C.fz f = false) {c : Code} : X C fid (.loop c) ρ ds h kn kr kx = X C fid c ρ ds h (fun ρ ds h => X C fid (.loop c) ρ ds h kn kr kx) kr kx := by
  unfold X
  rw [ev_loop hfz]
  cases he : ev C fid c { ρ, ds, rc := .nil, h } with
  | none => rfl
  | some x =>
    obtain ⟨ex, s⟩ := x
    have hr := ev_rc hfz he rfl
    obtain ⟨ρ', ds', rc', h'⟩ := s
    subst hr
    cases ex <;> rfl

theorem X_region (hfz : ∀ f, C.fz f = false) {id : Nat} {ops : Array Oper} : X C fid (.region id ops false) ρ ds h kn kr kx = G C ops ops.toList ρ ds h kn := by
  unfold X G
  rw [ev_region hfz]
  cases he : runOps C (cl C) ops ops.toList { ρ, ds, rc := .nil, h } with
  | none => rfl
  | some x =>
    obtain ⟨ex, s⟩ := x
    rcases (runOps_rc _ he rfl).2 with rfl | ⟨v, rfl⟩ <;> rfl

/-- How a function's frame ends. -/
noncomputable def Fin (C : Cfg) (fn : Func) : Kont (AR × H) := fun ρ ds h => (runDefersL C ds h).bind fun h => (resA C { ρ, ds, rc := .nil, h } fn.results.toList).map fun l => (.ret (packRes l), h)
 where
  runDefersL (C : Cfg) (ds : List D) (h : H) : Option H := runDefers C (cl C) ds h

theorem runDefers_fin (hfz : ∀ f, C.fz f = false) : ∀ (l : List D) {h h' : H}, runDefers C (cl C) l h = some h' → ∃ n, runDefers C (ai C n) l h = some h' := by
  intro l
  induction l with
  | nil => intro h h' e; exact ⟨0, e⟩
  | cons d l ih =>
    intro h h' e
    cases d with
    | mark id =>
      unfold runDefers at e
      split at e
      · rename_i hg
        obtain ⟨n, hn⟩ := ih e
        exact ⟨n, by unfold runDefers; rw [hg]; exact hn⟩
      · cases e
    | call f args =>
      unfold runDefers at e
      split at e
      · cases e
      · rename_i hs
        simp only [Option.bind_eq_some_iff] at e
        obtain ⟨⟨ar, h2⟩, h1, e⟩ := e
        obtain ⟨n, hn⟩ := (cl_some hfz).1 h1
        cases ar with
        | panic _ => cases e
        | ret v =>
          obtain ⟨m, hm⟩ := ih e
          refine ⟨max n m, ?_⟩
          unfold runDefers
          rw [if_neg hs, ai_mono hfz (Nat.le_max_left n m) _ _ _ _ hn]
          exact runDefers_mono (ai_mono hfz (Nat.le_max_right n m)) l hm

/-- A CALL OF A FUNCTION: its code, and how its frame ends. -/
theorem cl_enter (hfz : ∀ f, C.fz f = false) {f : FuncId} (hsp : C.sp f = none) {fn : Func} (hf : C.P.funcs[f]? = some fn) {c : Code} (hc : fn.body = some c) {args : List AV} {r : AR × H}
    (he : X C f c (args ++ List.replicate (fn.ntmps - args.length) undefA) [] h (Fin C fn) (Fin C fn) (fun _ _ _ _ => none) = some r) : cl C (.fn f) args h = some r := by
  unfold X at he
  simp only [Option.bind_eq_some_iff] at he
  obtain ⟨⟨ex, s⟩, h1, he⟩ := he
  have key : (ex = .normal ∨ ex = .ret) → Fin C fn s.ρ s.ds s.h = some r → cl C (.fn f) args h = some r := fun hx he => by
    unfold Fin Fin.runDefersL at he
    simp only [Option.bind_eq_some_iff, Option.map_eq_some_iff] at he
    obtain ⟨h', h2, l, h3, rfl⟩ := he
    obtain ⟨n, hn⟩ := (ev_some hfz).1 h1
    obtain ⟨m, hm⟩ := runDefers_fin hfz _ h2
    refine (cl_some hfz).2 ⟨max n m + 1, ?_⟩
    have hn' := evalC_mono (fid := f) (ai_mono hfz (Nat.le_max_left n m)) (Nat.le_max_left n m) c hn
    have hm' := runDefers_mono (ai_mono hfz (Nat.le_max_right n m)) _ hm
    have h3' : resA C { s with h := h' } fn.results.toList = some l := by rw [← h3]; exact resA_ds _
    unfold ai
    have hn'' : evalC C (ai C (max n m)) f (max n m) c { ρ := args ++ List.replicate (fn.ntmps - args.length) undefA, ds := [], h } = some (ex, s) := hn'
    simp only [hsp, hf, hc, Option.bind_some, hn'', hfz, Bool.false_eq_true, if_false]
    rcases hx with rfl | rfl <;> simp only [hm', Option.bind_some, h3']
  cases ex with
  | normal => exact key (.inl rfl) he
  | ret => exact key (.inr rfl) he
  | exit _ => cases he
  | panic _ => cases he

end
end
end Go.Ai
