import Derived.Test.YtelmlhlkefmjkaaGreatDoorAiF
import Derived.Test.YtelmlhlkefmjkaaGreatDoorAiH
import Derived.Below
set_option linter.unusedSimpArgs false
set_option linter.unusedVariables false
/- More rounds give the same answer. -/
namespace Go.Ai

def CallLe (c c' : CallF) : Prop := ∀ cl args h r, c cl args h = some r → c' cl args h = some r

theorem bind_mono {α β : Type} {x x' : Option α} {f f' : α → Option β} (hx : ∀ a, x = some a → x' = some a) (hf : ∀ a r, f a = some r → f' a = some r) {r : β} (h : x.bind f = some r) : x'.bind f' = some r := by
  cases hq : x with
  | none => rw [hq] at h; cases h
  | some a => rw [hq] at h; rw [hx a hq]; exact hf a r h

theorem stepOp_mono {C : Cfg} {c c' : CallF} (hc : CallLe c c') {ops : Array Oper} {o : Oper} {s : S} {r : Ex × S} (h : stepOp C c ops o s = some r) : stepOp C c' ops o s = some r := by
  unfold stepOp at h ⊢
  refine bind_mono (fun _ => id) (fun b r h => ?_) h
  cases b with
  | false => exact h
  | true =>
    simp only [if_true] at h ⊢
    refine bind_mono (fun _ => id) (fun e r h => ?_) h
    cases e with
    | call f args => exact bind_mono (fun a ha => hc _ _ _ _ ha) (fun _ _ => id) h
    | val v h' => exact h
    | panic v => exact h
    | defer f args => exact h
    | recover => exact h

theorem runOps_mono {C : Cfg} {c c' : CallF} (hc : CallLe c c') {ops : Array Oper} : ∀ (l : List Oper) {s : S} {r : Ex × S}, runOps C c ops l s = some r → runOps C c' ops l s = some r := by
  intro l
  induction l with
  | nil => intro s r h; exact h
  | cons o l ih =>
    intro s r h
    unfold runOps at h ⊢
    refine bind_mono (fun _ => stepOp_mono hc) (fun a r h => ?_) h
    obtain ⟨ex, s'⟩ := a
    cases ex with
    | normal => exact ih h
    | exit _ => exact h
    | ret => exact h
    | panic _ => exact h

theorem runDraw_mono {C : Cfg} {c c' : CallF} (hc : CallLe c c') {ops : Array Oper} {base : Nat} : ∀ (l : List St) {s : S} {hs : List H} {as : List Again} {r : Ex × S}, runDraw C c ops base l s hs as = some r → runDraw C c' ops base l s hs as = some r := by
  intro l
  induction l with
  | nil => intro s hs as r h; exact h
  | cons t l ih =>
    intro s hs as r h
    unfold runDraw at h ⊢
    refine bind_mono (fun _ => id) (fun o r h => ?_) h
    split at h
    · rename_i he
      rw [if_pos he]
      refine bind_mono (fun _ => stepOp_mono hc) (fun a r h => ?_) h
      obtain ⟨ex, s'⟩ := a
      cases ex with
      | normal => exact ih h
      | exit _ => exact h
      | ret => exact h
      | panic _ => exact h
    · rename_i he
      rw [if_neg he]
      refine bind_mono (fun _ => id) (fun b r h => ?_) h
      cases b with
      | false => exact ih h
      | true =>
        simp only [if_true] at h ⊢
        split at h
        · rename_i ha
          rw [if_pos ha]
          refine bind_mono (fun _ => id) (fun e r h => ?_) h
          cases e with
          | val v h' => exact ih h
          | _ => exact h
        · rename_i ha
          rw [if_neg ha]
          refine bind_mono (fun _ => id) (fun hp r h => ?_) h
          refine bind_mono (fun _ => id) (fun e r h => ?_) h
          cases e with
          | val v h' =>
            simp only at h ⊢
            split at h
            · rename_i hn
              rw [if_pos hn]
              split at h
              · rename_i hl; rw [if_pos hl]; exact ih h
              · rename_i hl; rw [if_neg hl]; exact ih h
            · cases h
          | _ => exact h

theorem iter_mono {f f' : S → Option (Ex × S)} (hf : ∀ s r, f s = some r → f' s = some r) : ∀ (n m : Nat), n ≤ m → ∀ {s : S} {r : Ex × S}, iter f n s = some r → iter f' m s = some r := by
  intro n
  induction n with
  | zero => intro m _ s r h; cases h
  | succ n ih =>
    intro m hm s r h
    obtain ⟨m, rfl⟩ : ∃ k, m = k + 1 := ⟨m - 1, by omega⟩
    unfold iter at h ⊢
    refine bind_mono (hf s) (fun a r h => ?_) h
    obtain ⟨ex, s'⟩ := a
    cases ex with
    | normal => exact ih m (by omega) h
    | exit _ => exact h
    | ret => exact h
    | panic _ => exact h

theorem evalC_mono {C : Cfg} {c c' : CallF} (hc : CallLe c c') {fid : FuncId} {n m : Nat} (hnm : n ≤ m) : ∀ (k : Code) {s : S} {r : Ex × S}, evalC C c fid n k s = some r → evalC C c' fid m k s = some r := by
  intro k
  induction k with
  | skip => intro s r h; exact h
  | region id ops draw =>
    intro s r h
    unfold evalC at h ⊢
    cases draw with
    | true =>
      simp only [if_true] at h ⊢
      split at h
      · rename_i hp; rw [if_pos hp]; exact runDraw_mono hc _ h
      · cases h
    | false => exact runOps_mono hc _ h
  | seq a b iha ihb =>
    intro s r h
    unfold evalC at h ⊢
    refine bind_mono (fun _ => iha) (fun x r h => ?_) h
    obtain ⟨ex, s'⟩ := x
    cases ex with
    | normal => exact ihb h
    | exit _ => exact h
    | ret => exact h
    | panic _ => exact h
  | cond x a b iha ihb =>
    intro s r h
    unfold evalC at h ⊢
    refine bind_mono (fun _ => id) (fun v r h => ?_) h
    cases v with
    | bool t => cases t with
      | true => exact iha h
      | false => exact ihb h
    | _ => exact h
  | block bid a ih =>
    intro s r h
    unfold evalC at h ⊢
    exact bind_mono (fun _ => ih) (fun _ _ => id) h
  | loop a ih =>
    intro s r h
    unfold evalC at h ⊢
    exact iter_mono (fun s r => ih) n m hnm h
  | scope a ih => intro s r h; exact ih (by unfold evalC at h; exact h)
  | rangeFunc f ps as bd _ _ =>
    intro s r h
    unfold evalC at h ⊢
    cases hr : s.rc with
    | no => rw [hr] at h; cases h
    | nil =>
      rw [hr] at h
      simp only at h ⊢
      refine bind_mono (fun _ => id) (fun v r h => ?_) h
      cases v with
      | fn g first cap => exact bind_mono (fun a ha => hc _ _ _ _ ha) (fun _ _ => id) h
      | _ => exact h
    | pan v =>
      rw [hr] at h
      simp only at h ⊢
      refine bind_mono (fun _ => id) (fun v r h => ?_) h
      cases v with
      | fn g first cap => exact bind_mono (fun a ha => hc _ _ _ _ ha) (fun _ _ => id) h
      | _ => exact h
  | exit id => intro s r h; exact h
  | label _ => intro s r h; exact h
  | ret => intro s r h; exact h
  | _ => intro s r h; unfold evalC at h; cases h

theorem runDefers_mono {C : Cfg} {c c' : CallF} (hc : CallLe c c') : ∀ (l : List D) {h h' : H}, runDefers C c l h = some h' → runDefers C c' l h = some h' := by
  intro l
  induction l with
  | nil => intro h h' e; exact e
  | cons d l ih =>
    intro h h' e
    cases d with
    | mark id =>
      unfold runDefers at e ⊢
      split at e
      · exact ih e
      · cases e
    | call f args =>
      unfold runDefers at e ⊢
      split at e
      · cases e
      · rename_i hs
        rw [if_neg hs]
        refine bind_mono (fun a ha => hc _ _ _ _ ha) (fun a r h => ?_) e
        obtain ⟨ar, h2⟩ := a
        cases ar with
        | ret _ => exact ih h
        | panic _ => exact h

theorem ai_mono1 {C : Cfg} (hfz : ∀ f, C.fz f = false) : ∀ n, CallLe (ai C n) (ai C (n + 1)) := by
  intro n
  induction n with
  | zero => intro cl args h r e; cases cl <;> simp [ai] at e
  | succ n ih =>
    have hev : ∀ {fid : FuncId} {k : Code} {s : S} {r : Ex × S}, evalC C (ai C n) fid n k s = some r → evalC C (ai C (n + 1)) fid (n + 1) k s = some r := fun {fid k s r} h => evalC_mono ih (Nat.le_succ n) k h
    intro cl args h r e
    cases cl with
    | round rid =>
      unfold ai at e ⊢
      split at e
      · rename_i rdy fid ρ ps as bd hget
        split at e
        · rename_i hl
          rw [if_pos hl]
          refine bind_mono (fun _ => hev) (fun x r e => ?_) e
          obtain ⟨ex, s⟩ := x
          cases ex with
          | normal =>
            simp only at e ⊢
            split at e
            · exact bind_mono (fun _ => hev) (fun _ _ => id) e
            · cases e
          | _ => exact e
        · cases e
      · cases e
    | dfn f v =>
      unfold ai at e ⊢
      refine bind_mono (fun _ => id) (fun fn r e => ?_) e
      refine bind_mono (fun _ => id) (fun k r e => ?_) e
      exact bind_mono (fun _ => hev) (fun _ _ => id) e
    | fn f =>
      unfold ai at e ⊢
      simp only [hfz, Bool.false_eq_true, if_false] at e ⊢
      split at e
      · exact e
      · refine bind_mono (fun _ => id) (fun fn r e => ?_) e
        refine bind_mono (fun _ => id) (fun k r e => ?_) e
        refine bind_mono (fun _ => hev) (fun x r e => ?_) e
        obtain ⟨ex, s⟩ := x
        cases ex with
        | panic v =>
          simp only at e ⊢
          generalize s.ds = dl at e ⊢
          cases dl with
          | nil => exact e
          | cons d dl =>
            cases d with
            | mark _ => exact e
            | call g as =>
              refine bind_mono (fun a ha => ih _ _ _ _ ha) (fun a r e => ?_) e
              obtain ⟨ar, h2⟩ := a
              split at e
              · exact bind_mono (fun _ => runDefers_mono ih _) (fun _ _ => id) e
              · cases e
        | normal => exact bind_mono (fun _ => runDefers_mono ih _) (fun _ _ => id) e
        | ret => exact bind_mono (fun _ => runDefers_mono ih _) (fun _ _ => id) e
        | exit _ => exact e

theorem ai_mono {C : Cfg} (hfz : ∀ f, C.fz f = false) {n m : Nat} (h : n ≤ m) : CallLe (ai C n) (ai C m) := by
  obtain ⟨k, rfl⟩ := Nat.le.dest h
  induction k with
  | zero => intro cl args h r e; exact e
  | succ k ih => intro cl args hp r e; exact ai_mono1 hfz _ _ _ _ _ (ih (Nat.le_add_right _ _) cl args hp r e)

end Go.Ai

/- The interpreter without a bound on its rounds: equations. -/
namespace Go.Ai

/-- Rising partial answers. -/
def Up {α : Type} (g : Nat → Option α) : Prop := ∀ n m a, n ≤ m → g n = some a → g m = some a

noncomputable def lim {α : Type} (g : Nat → Option α) : Option α := @dite _ (∃ a n, g n = some a) (Classical.propDecidable _) (fun h => some h.choose) (fun _ => none)

theorem lim_some {α : Type} {g : Nat → Option α} (hg : Up g) {a : α} : lim g = some a ↔ ∃ n, g n = some a := by
  unfold lim
  constructor
  · intro h
    split at h
    · rename_i hx
      obtain ⟨n, hn⟩ := hx.choose_spec
      cases h
      exact ⟨n, hn⟩
    · cases h
  · rintro ⟨n, hn⟩
    rw [dif_pos ⟨a, n, hn⟩]
    congr 1
    obtain ⟨m, hm⟩ := (⟨a, n, hn⟩ : ∃ a n, g n = some a).choose_spec
    have h1 := hg n (max n m) _ (Nat.le_max_left _ _) hn
    have h2 := hg m (max n m) _ (Nat.le_max_right _ _) hm
    rw [h1] at h2
    exact (Option.some.inj h2).symm

theorem opt_ext {α : Type} {x y : Option α} (h : ∀ a, x = some a ↔ y = some a) : x = y := by
  cases y with
  | some b => exact (h b).2 rfl
  | none =>
    cases x with
    | none => rfl
    | some a => exact absurd ((h a).1 rfl) (by simp)

theorem lim_bind {α β : Type} {g : Nat → Option α} {f : Nat → α → Option β} (hg : Up g) (hf : ∀ a, Up (f · a)) : lim (fun n => (g n).bind (f n)) = (lim g).bind fun a => lim (f · a) := by
  have hu : Up fun n => (g n).bind (f n) := fun n m a hnm h => by
    simp only [Option.bind_eq_some_iff] at h ⊢
    obtain ⟨b, h1, h2⟩ := h
    exact ⟨b, hg n m b hnm h1, hf b n m a hnm h2⟩
  apply opt_ext
  intro a
  rw [lim_some hu]
  simp only [Option.bind_eq_some_iff, lim_some hg]
  constructor
  · rintro ⟨n, b, h1, h2⟩
    exact ⟨b, ⟨n, h1⟩, (lim_some (hf b)).2 ⟨n, h2⟩⟩
  · rintro ⟨b, ⟨n, h1⟩, h2⟩
    obtain ⟨m, h2⟩ := (lim_some (hf b)).1 h2
    exact ⟨max n m, b, hg n _ b (Nat.le_max_left _ _) h1, hf b m _ a (Nat.le_max_right _ _) h2⟩

theorem Up.const {α : Type} (x : Option α) : Up fun _ => x := fun _ _ _ _ h => h
theorem lim_const {α : Type} (x : Option α) : lim (fun _ => x) = x := opt_ext fun a => by rw [lim_some (Up.const x)]; exact ⟨fun ⟨_, h⟩ => h, fun h => ⟨0, h⟩⟩

theorem Up.bind {α β : Type} {g : Nat → Option α} {f : Nat → α → Option β} (hg : Up g) (hf : ∀ a, Up (f · a)) : Up fun n => (g n).bind (f n) := fun n m a hnm h => by
  simp only [Option.bind_eq_some_iff] at h ⊢
  obtain ⟨b, h1, h2⟩ := h
  exact ⟨b, hg n m b hnm h1, hf b n m a hnm h2⟩

section
variable {C : Cfg}

/-- A call, however many rounds it takes. -/
noncomputable def cl (C : Cfg) : CallF := fun f args h => lim fun n => ai C n f args h
/-- Code, however many rounds it takes. -/
noncomputable def ev (C : Cfg) (fid : FuncId) (c : Code) (s : S) : Option (Ex × S) := lim fun n => evalC C (ai C n) fid n c s

theorem ev_cond {fid : FuncId} {c : Operand} {a b : Code} {s : S} {t : Bool} (h : opd s.ρ c = some (.bool t)) : ev C fid (.cond c a b) s = if t then ev C fid a s else ev C fid b s := by
  show lim (fun n => (opd s.ρ c).bind fun v => (match v with | .bool t => if t then evalC C (ai C n) fid n a s else evalC C (ai C n) fid n b s | _ => none)) = _
  simp only [h, Option.bind_some]
  cases t <;> rfl

theorem ev_scope {fid : FuncId} {c : Code} {s : S} : ev C fid (.scope c) s = ev C fid c s := rfl

theorem up_ai (hfz : ∀ f, C.fz f = false) {f : Callee} {args : List AV} {h : H} : Up fun n => ai C n f args h := fun _ _ _ hnm e => ai_mono hfz hnm _ _ _ _ e
theorem up_ev (hfz : ∀ f, C.fz f = false) {fid : FuncId} {c : Code} {s : S} : Up fun n => evalC C (ai C n) fid n c s := fun _ _ _ hnm e => evalC_mono (ai_mono hfz hnm) hnm c e

theorem cl_some (hfz : ∀ f, C.fz f = false) {f : Callee} {args : List AV} {h : H} {r : AR × H} : cl C f args h = some r ↔ ∃ n, ai C n f args h = some r := lim_some (up_ai hfz)

theorem cl_of (hfz : ∀ f, C.fz f = false) {n : Nat} {f : Callee} {args : List AV} {h : H} {r : AR × H} (e : ai C n f args h = some r) : cl C f args h = some r := (cl_some hfz).2 ⟨n, e⟩

theorem le_cl (hfz : ∀ f, C.fz f = false) (n : Nat) : CallLe (ai C n) (cl C) := fun _ _ _ _ e => cl_of hfz e

theorem stepOp_fin (hfz : ∀ f, C.fz f = false) {ops : Array Oper} {o : Oper} {s : S} {r : Ex × S} (e : stepOp C (cl C) ops o s = some r) : ∃ n, stepOp C (ai C n) ops o s = some r := by
  unfold stepOp at e
  simp only [Option.bind_eq_some_iff] at e
  obtain ⟨b, hb, e⟩ := e
  cases b with
  | false => exact ⟨0, by unfold stepOp; simp only [hb, Option.bind_some]; exact e⟩
  | true =>
    simp only [if_true, Option.bind_eq_some_iff] at e
    obtain ⟨x, hx, e⟩ := e
    have key : ∀ n, (match x with
      | .val v h => some (Ex.normal, { s with h := h }.put o.dst v)
      | .call f args => (ai C n f args s.h).bind fun
        | (.ret v, h) => some (.normal, { s with h }.put o.dst v)
        | (.panic v, h) => some (.panic v, { s with h })
      | .panic v => some (.panic v, s)
      | .defer f args => match s.rc with
        | .no => none
        | _ => some (.normal, { s with ds := .call f args :: s.ds }.put o.dst undefA)
      | .recover => match s.rc with
        | .pan v => some (.normal, { s with rc := .nil }.put o.dst v)
        | .nil => some (.normal, s.put o.dst .nili)
        | .no => none) = some r → stepOp C (ai C n) ops o s = some r := fun n e => by
      unfold stepOp; simp only [hb, Option.bind_some, if_true, hx]; exact e
    cases x with
    | call f args =>
      simp only [Option.bind_eq_some_iff] at e
      obtain ⟨a, ha, e⟩ := e
      obtain ⟨n, hn⟩ := (cl_some hfz).1 ha
      exact ⟨n, key n (by simp only [hn, Option.bind_some]; exact e)⟩
    | val v h => exact ⟨0, key 0 e⟩
    | panic v => exact ⟨0, key 0 e⟩
    | defer f args => exact ⟨0, key 0 e⟩
    | recover => exact ⟨0, key 0 e⟩

theorem runOps_fin (hfz : ∀ f, C.fz f = false) {ops : Array Oper} : ∀ (l : List Oper) {s : S} {r : Ex × S}, runOps C (cl C) ops l s = some r → ∃ n, runOps C (ai C n) ops l s = some r := by
  intro l
  induction l with
  | nil => intro s r e; exact ⟨0, e⟩
  | cons o l ih =>
    intro s r e
    unfold runOps at e
    simp only [Option.bind_eq_some_iff] at e
    obtain ⟨⟨ex, s'⟩, h1, e⟩ := e
    obtain ⟨n, hn⟩ := stepOp_fin hfz h1
    have key : ∀ m, n ≤ m → (match (ex, s') with | (.normal, s) => runOps C (ai C m) ops l s | r => some r) = some r → runOps C (ai C m) ops (o :: l) s = some r := fun m hm e => by
      unfold runOps; rw [stepOp_mono (ai_mono hfz hm) hn]; exact e
    cases ex with
    | normal =>
      obtain ⟨m, hm⟩ := ih e
      exact ⟨max n m, key _ (Nat.le_max_left _ _) (runOps_mono (ai_mono hfz (Nat.le_max_right n m)) l hm)⟩
    | exit _ => exact ⟨n, key n (Nat.le_refl _) e⟩
    | ret => exact ⟨n, key n (Nat.le_refl _) e⟩
    | panic _ => exact ⟨n, key n (Nat.le_refl _) e⟩

theorem runDraw_fin (hfz : ∀ f, C.fz f = false) {ops : Array Oper} {base : Nat} : ∀ (l : List St) {s : S} {hs : List H} {as : List Again} {r : Ex × S}, runDraw C (cl C) ops base l s hs as = some r → ∃ n, runDraw C (ai C n) ops base l s hs as = some r := by
  intro l
  induction l with
  | nil => intro s hs as r e; exact ⟨0, e⟩
  | cons t l ih =>
    intro s hs as r e
    unfold runDraw at e
    simp only [Option.bind_eq_some_iff] at e
    obtain ⟨o, ho, e⟩ := e
    cases hE : isEff o.op with
    | true =>
      rw [hE] at e
      simp only [if_true, Option.bind_eq_some_iff] at e
      obtain ⟨⟨ex, s'⟩, h1, e⟩ := e
      obtain ⟨n, hn⟩ := stepOp_fin hfz h1
      cases ex with
      | normal =>
        obtain ⟨m, hm⟩ := ih e
        refine ⟨max n m, ?_⟩
        unfold runDraw
        simp only [ho, Option.bind_some, hE, if_true, stepOp_mono (ai_mono hfz (Nat.le_max_left n m)) hn]
        exact runDraw_mono (ai_mono hfz (Nat.le_max_right n m)) l hm
      | exit _ => cases e
      | ret => cases e
      | panic _ => cases e
    | false =>
      rw [hE] at e
      simp only [Bool.false_eq_true, if_false, Option.bind_eq_some_iff] at e
      obtain ⟨b, hb, e⟩ := e
      cases b with
      | false =>
        obtain ⟨n, hn⟩ := ih e
        exact ⟨n, by unfold runDraw; simp only [ho, Option.bind_some, hE, Bool.false_eq_true, if_false, hb]; exact hn⟩
      | true =>
        simp only [if_true] at e
        split at e
        · rename_i ha
          simp only [Option.bind_eq_some_iff] at e
          obtain ⟨x, hx, e⟩ := e
          cases x with
          | val v h' =>
            obtain ⟨n, hn⟩ := ih e
            exact ⟨n, by unfold runDraw; simp only [ho, Option.bind_some, hE, Bool.false_eq_true, if_false, hb, if_true, if_pos ha, hx]; exact hn⟩
          | _ => cases e
        · rename_i ha
          simp only [Option.bind_eq_some_iff] at e
          obtain ⟨hp, hhp, x, hx, e⟩ := e
          cases x with
          | val v h' =>
            simp only at e
            split at e
            · rename_i hn
              split at e
              · rename_i hl
                obtain ⟨n, hn'⟩ := ih e
                exact ⟨n, by unfold runDraw; simp only [ho, Option.bind_some, hE, Bool.false_eq_true, if_false, hb, if_true, if_neg ha, hhp, hx, if_pos hn, if_pos hl]; exact hn'⟩
              · rename_i hl
                obtain ⟨n, hn'⟩ := ih e
                exact ⟨n, by unfold runDraw; simp only [ho, Option.bind_some, hE, Bool.false_eq_true, if_false, hb, if_true, if_neg ha, hhp, hx, if_pos hn, if_neg hl]; exact hn'⟩
            · cases e
          | _ => cases e

theorem ev_some (hfz : ∀ f, C.fz f = false) {fid : FuncId} {c : Code} {s : S} {r : Ex × S} : ev C fid c s = some r ↔ ∃ n, evalC C (ai C n) fid n c s = some r := lim_some (up_ev hfz)

theorem ev_skip (hfz : ∀ f, C.fz f = false) {fid : FuncId} {s : S} : ev C fid .skip s = some (.normal, s) := (ev_some hfz).2 ⟨0, rfl⟩
theorem ev_label (hfz : ∀ f, C.fz f = false) {fid : FuncId} {l : Nat} {s : S} : ev C fid (.label l) s = some (.normal, s) := (ev_some hfz).2 ⟨0, rfl⟩
theorem ev_exit (hfz : ∀ f, C.fz f = false) {fid : FuncId} {id : Nat} {s : S} : ev C fid (.exit id) s = some (.exit id, s) := (ev_some hfz).2 ⟨0, rfl⟩
theorem ev_ret (hfz : ∀ f, C.fz f = false) {fid : FuncId} {s : S} : ev C fid .ret s = some (.ret, s) := (ev_some hfz).2 ⟨0, rfl⟩

theorem ev_region (hfz : ∀ f, C.fz f = false) {fid : FuncId} {id : Nat} {ops : Array Oper} {s : S} : ev C fid (.region id ops false) s = runOps C (cl C) ops ops.toList s := by
  apply opt_ext
  intro r
  rw [ev_some hfz]
  exact ⟨fun ⟨n, e⟩ => runOps_mono (le_cl hfz n) _ e, fun e => runOps_fin hfz _ e⟩

/-- A region whose order is drawn: the plan is checked. -/
theorem ev_draw (hfz : ∀ f, C.fz f = false) {fid : FuncId} {id : Nat} {ops : Array Oper} {s : S} (p : List St) (hp : planOf ops (masks ops.toList []) = p) (hk : planOk ops (masks ops.toList []) p = true) :
    ev C fid (.region id ops true) s = runDraw C (cl C) ops s.h.next p { s with h := { s.h with next := s.h.next + ops.size } } [{ s.h with next := s.h.next + ops.size }] [] := by
  subst hp
  have hev : ∀ n, evalC C (ai C n) fid n (.region id ops true) s = runDraw C (ai C n) ops s.h.next (planOf ops (masks ops.toList [])) { s with h := { s.h with next := s.h.next + ops.size } } [{ s.h with next := s.h.next + ops.size }] [] := fun n => by
    simp only [evalC, if_true, if_pos hk]
  apply opt_ext
  intro r
  rw [ev_some hfz]
  exact ⟨fun ⟨n, e⟩ => runDraw_mono (le_cl hfz n) _ (by rw [← hev]; exact e), fun e => by obtain ⟨n, h⟩ := runDraw_fin hfz _ e; exact ⟨n, by rw [hev]; exact h⟩⟩

theorem ev_seq (hfz : ∀ f, C.fz f = false) {fid : FuncId} {a b : Code} {s : S} : ev C fid (.seq a b) s = (ev C fid a s).bind fun x => match x with
    | (.normal, s) => ev C fid b s
    | r => some r := by
  have hup : ∀ x : Ex × S, Up fun n => (match x with | (.normal, s) => evalC C (ai C n) fid n b s | r => some r) := fun ⟨ex, s'⟩ n m r hnm e => by
    cases ex with
    | normal => exact up_ev hfz n m r hnm e
    | _ => exact e
  show lim (fun n => (evalC C (ai C n) fid n a s).bind fun x => (match x with | (.normal, s) => evalC C (ai C n) fid n b s | r => some r)) = _
  rw [lim_bind (up_ev hfz) hup]
  show (ev C fid a s).bind _ = _
  congr 1; funext x
  obtain ⟨ex, s'⟩ := x
  cases ex with
  | normal => rfl
  | exit _ => exact lim_const _
  | ret => exact lim_const _
  | panic _ => exact lim_const _

theorem ev_block (hfz : ∀ f, C.fz f = false) {fid : FuncId} {id : Nat} {c : Code} {s : S} : ev C fid (.block id c) s = (ev C fid c s).bind fun x => match x with
    | (.exit i, s) => if i = id then some (.normal, s) else some (.exit i, s)
    | r => some r := by
  refine (lim_bind (f := fun _ x => match x with | (.exit i, s) => if i = id then some (.normal, s) else some (.exit i, s) | r => some r) (up_ev hfz) fun _ => Up.const _).trans ?_
  show (ev C fid c s).bind _ = _
  congr 1; funext x; exact lim_const _

/-- One round of a loop. -/
theorem ev_loop (hfz : ∀ f, C.fz f = false) {fid : FuncId} {c : Code} {s : S} : ev C fid (.loop c) s = (ev C fid c s).bind fun x => match x with
    | (.normal, s) => ev C fid (.loop c) s
    | r => some r := by
  apply opt_ext
  intro r
  rw [ev_some hfz]
  simp only [Option.bind_eq_some_iff, ev_some hfz]
  constructor
  · rintro ⟨n, e⟩
    cases n with
    | zero => cases e
    | succ n =>
      have e : iter (evalC C (ai C (n + 1)) fid (n + 1) c) (n + 1) s = some r := e
      unfold iter at e
      simp only [Option.bind_eq_some_iff] at e
      obtain ⟨⟨ex, s'⟩, h1, e⟩ := e
      refine ⟨_, ⟨_, h1⟩, ?_⟩
      cases ex with
      | normal => exact (ev_some hfz).2 ⟨n + 1, iter_mono (fun _ _ => id) n (n + 1) (Nat.le_succ n) e⟩
      | exit _ => exact e
      | ret => exact e
      | panic _ => exact e
  · rintro ⟨⟨ex, s'⟩, ⟨n, h1⟩, e⟩
    have key : ∀ m, n ≤ m → (match (ex, s') with | (.normal, s) => iter (evalC C (ai C (m + 1)) fid (m + 1) c) m s | r => some r) = some r → ∃ n, evalC C (ai C n) fid n (.loop c) s = some r := fun m hm e =>
      ⟨m + 1, by
        show iter (evalC C (ai C (m + 1)) fid (m + 1) c) (m + 1) s = some r
        unfold iter
        rw [evalC_mono (ai_mono hfz (Nat.le_succ_of_le hm)) (Nat.le_succ_of_le hm) c h1]
        exact e⟩
    cases ex with
    | normal =>
      obtain ⟨m, hm⟩ := (ev_some hfz).1 e
      have hm : iter (evalC C (ai C m) fid m c) m s' = some r := hm
      exact key (max n m) (Nat.le_max_left _ _) (iter_mono (fun s r h => evalC_mono (ai_mono hfz (by omega)) (by omega) c h) m _ (Nat.le_max_right _ _) hm)
    | exit _ => exact key n (Nat.le_refl _) e
    | ret => exact key n (Nat.le_refl _) e
    | panic _ => exact key n (Nat.le_refl _) e

/-- What a function's frame gives, when its code has ended. -/
def outA (C : Cfg) (fn : Func) (s : S) (h : H) : Option (AR × H) := (resA C { s with h } fn.results.toList).map fun l => (.ret (packRes l), h)

/-- A function that defers nothing. -/
theorem cl_fn (hfz : ∀ f, C.fz f = false) {f : FuncId} (hsp : C.sp f = none) {fn : Func} (hf : C.P.funcs[f]? = some fn) {c : Code} (hc : fn.body = some c) {args : List AV} {h : H} {ex : Ex} {s : S} {r : AR × H}
    (he : ev C f c { ρ := args ++ List.replicate (fn.ntmps - args.length) undefA, ds := [], h } = some (ex, s)) (hx : ex = .normal ∨ ex = .ret) (hds : s.ds = []) (ho : outA C fn s s.h = some r) : cl C (.fn f) args h = some r := by
  obtain ⟨n, hn⟩ := (ev_some hfz).1 he
  refine (cl_some hfz).2 ⟨n + 1, ?_⟩
  unfold ai
  simp only [hsp, hf, hc, Option.bind_some, hn, hfz, Bool.false_eq_true, if_false]
  have : (runDefers C (ai C n) s.ds s.h) = some s.h := by rw [hds]; rfl
  unfold outA at ho
  simp only [Option.map_eq_some_iff] at ho
  obtain ⟨l, hl, ho⟩ := ho
  rcases hx with rfl | rfl <;> simp only [this, Option.bind_some, hl] <;> exact congrArg some ho

end
end Go.Ai

/- From the interpreter to the model's own word on a call. -/
namespace Go.Ai
open Go.RowKit

def Env.of (q : Nat → Option Go.Obj) : Env := ⟨fun _ => none, q⟩

theorem hr_of {q : Nat → Option Go.Obj} {w : World} (hq : ∀ b o, q b = some o → w.heap[b]? = some o) : HR (Env.of q) H.empty w :=
  ⟨fun _ _ h => (by cases h), fun _ _ h => (by cases h), fun _ _ _ _ _ _ h => (by cases h), hq, fun _ _ _ _ _ _ h => (by cases h)⟩

/-- WHAT THE INTERPRETER GIVES, THE MODEL GIVES. -/
theorem calls_of_ai {C : Cfg} (hC : CfgOk C) (hm : C.P.follows .mixedOrders = true) {f : FuncId} {args : List AV} {v : AV} {h' : H} (he : cl C (.fn f) args H.empty = some (.ret v, h'))
    {q : Nat → Option Go.Obj} {w : World} {cargs : Array Value} (hq : ∀ b o, q b = some o → w.heap[b]? = some o) (ha : VRs (Env.of q) args cargs.toList) :
    Calls C.P f cargs w fun e w' => ∃ cv E', VR E' v cv ∧ e = .returned cv ∧ Below w.heap.size w w' := by
  obtain ⟨n, hn⟩ := (cl_some hC.fz).1 he
  have hok : CallOk C (ai C n) := ai_ok hC (fun call hcall f n => draw_ok hC.T hC.X hm hcall f n) n
  have hf : FnOk C f args H.empty (.ret v) h' := hok _ _ _ _ _ hn
  obtain ⟨_, h2⟩ := hf (Env.of q) w cargs (hr_of hq) ha
  intro cs
  obtain ⟨E', w', g1, _, g3⟩ := h2 .normal cs (.inl rfl)
  obtain ⟨cv, fr, q1, q2, q3, q4, q5, q6, fn, q7, q8⟩ := g3
  refine ⟨.returned cv, w', fr, ⟨cv, E', q1, rfl, ?_⟩, q2, q3, q5, q6, q4, fn, by rw [q3]; exact q7, q8⟩
  exact ⟨g1.os, g1.tape, g1.output, g1.size, fun k hk => g1.block k hk fun ⟨i, o, x, h, _⟩ => (by cases h)⟩

theorem vr_bool {E : Env} {b : Bool} {cv : Value} (h : VR E (.bool b) cv) : cv = .bool b := by cases h; rfl

end Go.Ai
