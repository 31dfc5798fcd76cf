import Derived.Test.YtelmlhlkefmjkaaGreatDoorAiF
import Derived.Orders
set_option linter.unusedSimpArgs false
set_option linter.unusedVariables false
/- Regions whose order is drawn: what a plan says. -/
namespace Go.Ai
open Go.RowKit

/-- With each operation, those that bind it. -/
def Down (os : List Oper) (X : Nat → Prop) : Prop := ∀ i o, os[i]? = some o → X i → ∀ p ∈ preds o, X p

theorem fold_bits (acc : List Nat) : ∀ (ps : List Nat) (s k : Nat), (ps.foldl (fun s p => s ||| 2 ^ p ||| acc.getD p 0) s).testBit k = true → s.testBit k = true ∨ ∃ p ∈ ps, k = p ∨ (acc.getD p 0).testBit k = true := by
  intro ps
  induction ps with
  | nil => intro s k h; exact .inl h
  | cons p ps ih =>
    intro s k h
    simp only [List.foldl_cons] at h
    rcases ih _ _ h with h | ⟨q, hq, h⟩
    · simp only [Nat.testBit_or, Bool.or_eq_true, Nat.testBit_two_pow, decide_eq_true_eq] at h
      rcases h with (h | h) | h
      · exact .inl h
      · exact .inr ⟨p, by simp, .inl h.symm⟩
      · exact .inr ⟨p, by simp, .inr h⟩
    · exact .inr ⟨q, by simp [hq], h⟩

theorem masks_ok (os : List Oper) : ∀ (l : List Oper) (acc : List Nat), (∀ j o, l[j]? = some o → os[acc.length + j]? = some o) → (∀ i k, (acc.getD i 0).testBit k = true → ∀ X, Down os X → X i → X k) →
    ∀ i k, ((masks l acc).getD i 0).testBit k = true → ∀ X, Down os X → X i → X k := by
  intro l
  induction l with
  | nil => intro acc _ h; exact h
  | cons o l ih =>
    intro acc hl h
    simp only [masks]
    refine ih _ (fun j o' hj => ?_) (fun i k hb X hX hi => ?_)
    · have := hl (j + 1) o' (by simpa using hj)
      rw [← this]; congr 1; simp; omega
    · rw [List.getD_eq_getElem?_getD] at hb
      rcases Nat.lt_trichotomy i acc.length with hi' | hi' | hi'
      · rw [List.getElem?_append_left hi', ← List.getD_eq_getElem?_getD] at hb
        exact h i k hb X hX hi
      · subst hi'
        rw [List.getElem?_append_right (Nat.le_refl _)] at hb
        simp only [Nat.sub_self, List.getElem?_cons_zero, Option.getD_some, maskOf] at hb
        have ho := hl 0 o (by simp)
        rcases fold_bits acc _ _ _ hb with hb | ⟨p, hp, hb⟩
        · simp at hb
        · have hXp := hX _ o ho hi p hp
          rcases hb with rfl | hb
          · exact hXp
          · exact h p k hb X hX hXp
      · rw [List.getElem?_eq_none (by simp; omega)] at hb
        simp at hb

theorem masks_down (os : List Oper) {i k : Nat} (h : ((masks os []).getD i 0).testBit k = true) {X : Nat → Prop} (hX : Down os X) (hi : X i) : X k :=
  masks_ok os os [] (fun j o hj => by simpa using hj) (fun i k hb => by simp at hb) i k h X hX hi

end Go.Ai

/- One operation, at other temporaries and at other heaps. -/
namespace Go.Ai
open Go.RowKit

theorem al_heap {C : Cfg} {ρ : List AV} {o : Oper} (ha : isAl o.op = true) {h : H} {eff : Eff} (he : execA C ρ o h = some eff) :
    ∃ v obj, eff = .val v (h.new obj) ∧ ∀ h2 : H, h2.next = h.next → execA C ρ o h2 = some (.val v (h2.new obj)) := by
  obtain ⟨dst, op, type, pos, after, guard⟩ := o
  simp only at ha
  cases op <;> simp [isAl] at ha <;> simp only [execA] at he
  case alloc t =>
    simp only [Option.map_eq_some_iff] at he
    obtain ⟨ti, ht, rfl⟩ := he
    exact ⟨_, _, rfl, fun h2 hn => by simp only [execA, ht, Option.map_some, hn]⟩
  case box t x =>
    simp only [Option.map_eq_some_iff] at he
    obtain ⟨v, hv, rfl⟩ := he
    exact ⟨_, _, rfl, fun h2 hn => by simp only [execA, hv, Option.map_some, hn]⟩
  case buildSlice t len ps =>
    simp only [Option.bind_eq_bind, Option.bind_eq_some_iff] at he
    obtain ⟨ti, ht, he⟩ := he
    split at he
    · rename_i e hd
      simp only [Option.bind_eq_some_iff] at he
      obtain ⟨te, hte, ps', hps, he⟩ := he
      split at he
      · cases he
      · rename_i hlim
        simp only [Option.bind_eq_some_iff, Option.pure_def, Option.some.injEq] at he
        obtain ⟨rows, hrows, rfl⟩ := he
        refine ⟨_, _, rfl, fun h2 hn => ?_⟩
        simp only [execA, ht, hd, hte, hps, hrows, if_neg hlim, hn, Option.bind_eq_bind, Option.bind_some, Option.pure_def]
    · cases he
  case makeMap t rs =>
    cases rs with
    | some _ => cases he
    | none => cases he; exact ⟨_, _, rfl, fun h2 hn => by simp only [execA, hn]⟩
  case makeSlice t l c =>
    simp only [Option.bind_eq_bind, Option.bind_eq_some_iff] at he
    obtain ⟨ti, ht, he⟩ := he
    split at he
    · rename_i e hd
      simp only [Option.bind_eq_some_iff] at he
      obtain ⟨te, hte, a, ha, i, hi, n, hn, b, hb, j, hj, m, hm, he⟩ := he
      split at he
      · rename_i hc
        cases he
        refine ⟨_, _, rfl, fun h2 hnx => ?_⟩
        simp only [execA, ht, hd, hte, ha, hi, hn, hb, hj, hm, if_pos hc, hnx, Option.bind_eq_bind, Option.bind_some]
      · cases he
    · cases he

def putL (ρ : List AV) (d : Option Tmp) (v : AV) : List AV :=
  match d with
  | some d => ρ.set d v
  | none => ρ

theorem put_eq {s : S} {d : Option Tmp} {v : AV} : s.put d v = { s with ρ := putL s.ρ d v } := by cases d <;> rfl

/-- ρ and ρ' are alike at all that an operation looks at. -/
def Alike (ops : Array Oper) (o : Oper) (ρ ρ' : List AV) : Prop := ∀ d ∈ looksA ops o, ρ[d]? = ρ'[d]?

theorem Alike.opd {ops : Array Oper} {o : Oper} {ρ ρ' : List AV} (h : Alike ops o ρ ρ') : ∀ x ∈ o.op.operands, opd ρ x = opd ρ' x := by
  intro x hx
  cases x with
  | tmp t => exact h t (by simp only [looksA, List.mem_append, List.mem_filterMap]; exact .inl ⟨.tmp t, by simpa using hx, rfl⟩)
  | _ => rfl

theorem Alike.wanted {ops : Array Oper} {o : Oper} {ρ ρ' : List AV} (h : Alike ops o ρ ρ') : wantedA ρ ops o = wantedA ρ' ops o := by
  unfold wantedA
  cases hg : o.guard with
  | none => rfl
  | some gw =>
    obtain ⟨j, want⟩ := gw
    have : ((ops[j]?).bind (·.dst)).bind (ρ[·]?) = ((ops[j]?).bind (·.dst)).bind (ρ'[·]?) := by
      cases hd : (ops[j]?).bind (·.dst) with
      | none => rfl
      | some d => exact h d (by simp only [looksA, hg, dstAt, hd, List.mem_append]; exact .inr (by simp))
    simp only [this]

theorem Alike.exec {C : Cfg} {ops : Array Oper} {o : Oper} {ρ ρ' : List AV} (h : Alike ops o ρ ρ') (hp : H) : execA C ρ o hp = execA C ρ' o hp := execA_congr h.opd

theorem stepOp_put {C : Cfg} {call : CallF} {ops : Array Oper} {o : Oper} {s s' : S} (he : stepOp C call ops o s = some (.normal, s')) :
    ∃ v ds rc h, s' = { ρ := putL s.ρ o.dst v, ds, rc, h } ∧ ∀ ρ', Alike ops o s.ρ ρ' → stepOp C call ops o { s with ρ := ρ' } = some (.normal, { ρ := putL ρ' o.dst v, ds, rc, h }) := by
  simp only [stepOp, Option.bind_eq_some_iff] at he
  obtain ⟨bw, hbw, he⟩ := he
  cases bw with
  | false =>
    simp only [Bool.false_eq_true, if_false, Option.some.injEq, Prod.mk.injEq, true_and] at he
    subst he
    refine ⟨undefA, s.ds, s.rc, s.h, put_eq, fun ρ' ha => ?_⟩
    simp only [stepOp, ← ha.wanted, hbw, Option.bind_some, Bool.false_eq_true, if_false, put_eq]
  | true =>
    simp only [if_true, Option.bind_eq_some_iff] at he
    obtain ⟨eff, heff, he⟩ := he
    have hgo : ∀ ρ', Alike ops o s.ρ ρ' → wantedA ρ' ops o = some true ∧ execA C ρ' o s.h = some eff := fun ρ' ha => ⟨by rw [← ha.wanted]; exact hbw, by rw [← ha.exec]; exact heff⟩
    cases eff with
    | val v h' =>
      simp only [Option.some.injEq, Prod.mk.injEq, true_and] at he
      subst he
      refine ⟨v, s.ds, s.rc, h', put_eq, fun ρ' ha => ?_⟩
      simp only [stepOp, (hgo ρ' ha).1, (hgo ρ' ha).2, Option.bind_some, if_true, put_eq]
    | call f args =>
      simp only [Option.bind_eq_some_iff] at he
      obtain ⟨⟨ar, h'⟩, hc, he⟩ := he
      cases ar with
      | panic v => simp at he
      | ret v =>
        simp only [Option.some.injEq, Prod.mk.injEq, true_and] at he
        subst he
        refine ⟨v, s.ds, s.rc, h', put_eq, fun ρ' ha => ?_⟩
        simp only [stepOp, (hgo ρ' ha).1, (hgo ρ' ha).2, Option.bind_some, if_true, hc, put_eq]
    | panic v => simp at he
    | defer f args =>
      simp only at he
      cases hr : s.rc with
      | no => simp only [hr] at he; cases he
      | nil =>
        simp only [hr, Option.some.injEq, Prod.mk.injEq, true_and] at he
        subst he
        refine ⟨undefA, .call f args :: s.ds, .nil, s.h, by rw [put_eq], fun ρ' ha => ?_⟩
        simp only [stepOp, (hgo ρ' ha).1, (hgo ρ' ha).2, Option.bind_some, if_true, put_eq, hr]
      | pan v =>
        simp only [hr, Option.some.injEq, Prod.mk.injEq, true_and] at he
        subst he
        refine ⟨undefA, .call f args :: s.ds, .pan v, s.h, by rw [put_eq], fun ρ' ha => ?_⟩
        simp only [stepOp, (hgo ρ' ha).1, (hgo ρ' ha).2, Option.bind_some, if_true, put_eq, hr]
    | recover =>
      simp only at he
      cases hr : s.rc with
      | no => simp only [hr] at he; cases he
      | nil =>
        simp only [hr, Option.some.injEq, Prod.mk.injEq, true_and] at he
        subst he
        refine ⟨.nili, s.ds, .nil, s.h, by rw [put_eq, ← hr], fun ρ' ha => ?_⟩
        simp only [stepOp, (hgo ρ' ha).1, (hgo ρ' ha).2, Option.bind_some, if_true, put_eq, hr]
      | pan v =>
        simp only [hr, Option.some.injEq, Prod.mk.injEq, true_and] at he
        subst he
        refine ⟨v, s.ds, .nil, s.h, by rw [put_eq], fun ρ' ha => ?_⟩
        simp only [stepOp, (hgo ρ' ha).1, (hgo ρ' ha).2, Option.bind_some, if_true, put_eq, hr]

end Go.Ai

/- What the one order shows of each operation. -/
namespace Go.Ai
open Go.RowKit

/-- The run in the one order: v, bw, ob: what each operation gives, whether it is wanted, its new object; snaps: the heaps behind the effects. -/
inductive Run (C : Cfg) (call : CallF) (ops : Array Oper) (base : Nat) (v : Nat → AV) (bw : Nat → Bool) (ob : Nat → Obj) (snaps : List H) : List St → S → Nat → S → Prop
  | nil {s : S} {j : Nat} (hj : j + 1 = snaps.length) : Run C call ops base v bw ob snaps [] s j s
  | eff {t : St} {l : List St} {o : Oper} {s s' f : S} {j : Nat} (ho : ops[t.i]? = some o) (hc : isEff o.op = true) (hs : stepOp C call ops o s = some (.normal, s')) (hv : s'.ρ = putL s.ρ o.dst (v t.i))
      (hn : snaps[j + 1]? = some s'.h) (hl : Run C call ops base v bw ob snaps l s' (j + 1) f) : Run C call ops base v bw ob snaps (t :: l) s j f
  | skip {t : St} {l : List St} {o : Oper} {s f : S} {j : Nat} (ho : ops[t.i]? = some o) (hc : isEff o.op = false) (hw : wantedA s.ρ ops o = some false) (hb : bw t.i = false) (hv : v t.i = undefA)
      (hl : Run C call ops base v bw ob snaps l (s.put o.dst undefA) j f) : Run C call ops base v bw ob snaps (t :: l) s j f
  | al {t : St} {l : List St} {o : Oper} {s f : S} {j : Nat} (ho : ops[t.i]? = some o) (hc : isEff o.op = false) (ha : isAl o.op = true) (hw : wantedA s.ρ ops o = some true) (hb : bw t.i = true)
      (he : ∀ h : H, h.next = base + t.i → execA C s.ρ o h = some (.val (v t.i) (h.new (ob t.i)))) (hl : Run C call ops base v bw ob snaps l ({ s with h := s.h.set (base + t.i) (ob t.i) }.put o.dst (v t.i)) j f) :
      Run C call ops base v bw ob snaps (t :: l) s j f
  | look {t : St} {l : List St} {o : Oper} {s f : S} {j : Nat} (ho : ops[t.i]? = some o) (hc : isEff o.op = false) (ha : isAl o.op = false) (hw : wantedA s.ρ ops o = some true) (hb : bw t.i = true)
      (he : ∀ q, t.lo ≤ q → q ≤ t.hi → ∃ h, snaps[q]? = some h ∧ execA C s.ρ o h = some (.val (v t.i) h)) (hl : Run C call ops base v bw ob snaps l (s.put o.dst (v t.i)) j f) :
      Run C call ops base v bw ob snaps (t :: l) s j f

/-- What it says of the operations of l alone. -/
theorem Run.congr {C : Cfg} {call : CallF} {ops : Array Oper} {base : Nat} {v v' : Nat → AV} {bw bw' : Nat → Bool} {ob ob' : Nat → Obj} {snaps : List H} {l : List St} {s f : S} {j : Nat}
    (h : Run C call ops base v bw ob snaps l s j f) (hv : ∀ t ∈ l, v t.i = v' t.i ∧ bw t.i = bw' t.i ∧ ob t.i = ob' t.i) : Run C call ops base v' bw' ob' snaps l s j f := by
  induction h with
  | nil hj => exact .nil hj
  | @eff t l o s s' f j ho hc hs hv' hn _ ih =>
    have := hv t (by simp)
    exact .eff ho hc hs (by rw [← this.1]; exact hv') hn (ih fun t ht => hv t (by simp [ht]))
  | @skip t l o s f j ho hc hw hb hv' _ ih =>
    have := hv t (by simp)
    exact .skip ho hc hw (by rw [← this.2.1]; exact hb) (by rw [← this.1]; exact hv') (ih fun t ht => hv t (by simp [ht]))
  | @al t l o s f j ho hc ha hw hb he _ ih =>
    have h := hv t (by simp)
    have ih := ih fun t ht => hv t (by simp [ht])
    rw [h.1, h.2.2] at ih he
    exact .al ho hc ha hw (by rw [← h.2.1]; exact hb) he ih
  | @look t l o s f j ho hc ha hw hb he _ ih =>
    have h := hv t (by simp)
    have ih := ih fun t ht => hv t (by simp [ht])
    rw [h.1] at ih he
    exact .look ho hc ha hw (by rw [← h.2.1]; exact hb) he ih

theorem again_ok {C : Cfg} {hs : List H} {x : Again} (h : again C hs x = true) {q : Nat} (h1 : x.lo ≤ q) (h2 : q ≤ x.hi) : ∃ hp h', hs[q]? = some hp ∧ execA C x.ρ x.o hp = some (.val x.v h') ∧ h'.next = hp.next := by
  unfold again at h
  have := List.all_eq_true.1 h (q - x.lo) (by simp; omega)
  rw [show x.lo + (q - x.lo) = q from by omega] at this
  split at this
  · rename_i hp hq
    split at this
    · rename_i v h' he
      simp only [Bool.and_eq_true, beq_iff_eq] at this
      rw [AV.beq_eq _ _ this.1] at he
      exact ⟨hp, h', hq, he, this.2⟩
    · cases this
  · cases this

theorem still_same {C : Cfg} {ρ : List AV} {o : Oper} {h h' : H} {v : AV} (h1 : isEff o.op = false) (h2 : isAl o.op = false) (he : execA C ρ o h = some (.val v h')) (hn : h'.next = h.next) : h' = h := by
  obtain ⟨v', h'', hv, hh⟩ := still_ok h1 h2 he
  cases hv
  rcases hh with rfl | hh
  · rfl
  · omega

def upd {α : Type} (f : Nat → α) (i : Nat) (a : α) : Nat → α := fun k => if k = i then a else f k

theorem upd_same {α : Type} (f : Nat → α) (i : Nat) (a : α) : upd f i a i = a := by simp [upd]
theorem upd_ne {α : Type} (f : Nat → α) {i k : Nat} (a : α) (h : k ≠ i) : upd f i a k = f k := by simp [upd, h]

theorem run_of_draw {C : Cfg} {call : CallF} {ops : Array Oper} {base : Nat} : ∀ (l : List St) {s : S} {hs : List H} {as : List Again} {r : Ex × S}, (l.map (·.i)).Nodup → hs ≠ [] → runDraw C call ops base l s hs as = some r →
    ∃ v bw ob snaps f, hs.reverse <+: snaps ∧ (∀ a ∈ as, again C snaps a = true) ∧ Run C call ops base v bw ob snaps l s (hs.length - 1) f ∧ r = (.normal, f) := by
  intro l
  induction l with
  | nil =>
    intro s hs as r _ hne he
    simp only [runDraw] at he
    split at he
    · rename_i hall
      cases he
      have hl : hs.length ≠ 0 := fun h => hne (List.eq_nil_of_length_eq_zero h)
      exact ⟨fun _ => undefA, fun _ => false, fun _ => .dfr, hs.reverse, s, List.prefix_refl _, fun a ha => List.all_eq_true.1 hall a ha, .nil (by simp; omega), rfl⟩
    · cases he
  | cons t l ih =>
    intro s hs as r hnd hne he
    have hl0 : hs.length ≠ 0 := fun h => hne (List.eq_nil_of_length_eq_zero h)
    simp only [List.map_cons, List.nodup_cons] at hnd
    have hfresh : ∀ t' ∈ l, t'.i ≠ t.i := fun t' ht e => hnd.1 (List.mem_map.2 ⟨t', ht, e⟩)
    simp only [runDraw, Option.bind_eq_some_iff] at he
    obtain ⟨o, ho, he⟩ := he
    have upd3 : ∀ {v : Nat → AV} {bw : Nat → Bool} {ob : Nat → Obj} {a : AV} {b : Bool} {c : Obj}, ∀ t' ∈ l, v t'.i = upd v t.i a t'.i ∧ bw t'.i = upd bw t.i b t'.i ∧ ob t'.i = upd ob t.i c t'.i := fun t' ht =>
      ⟨(upd_ne _ _ (hfresh t' ht)).symm, (upd_ne _ _ (hfresh t' ht)).symm, (upd_ne _ _ (hfresh t' ht)).symm⟩
    split at he
    · rename_i hc
      simp only [Option.bind_eq_some_iff] at he
      obtain ⟨⟨ex, s'⟩, hst, he⟩ := he
      cases ex with
      | normal =>
        obtain ⟨v, bw, ob, snaps, f, h1, h2, h3, h4⟩ := ih hnd.2 (by simp) he
        obtain ⟨a, ds, rc, hp, rfl, _⟩ := stepOp_put hst
        have h1' : hs.reverse <+: snaps ∧ snaps[hs.length]? = some hp := by
          obtain ⟨tl, htl⟩ := h1
          simp only [List.reverse_cons, List.append_assoc] at htl
          refine ⟨⟨_, htl⟩, ?_⟩
          rw [← htl, List.getElem?_append_right (by simp)]
          simp
        refine ⟨upd v t.i a, upd bw t.i true, upd ob t.i .dfr, snaps, f, h1'.1, h2, ?_, h4⟩
        refine .eff ho hc hst (by rw [upd_same]) (by rw [show hs.length - 1 + 1 = hs.length from by omega]; exact h1'.2) ?_
        have := h3.congr (upd3 (a := a) (b := true) (c := .dfr))
        rw [show hs.length - 1 + 1 = hs.length from by omega]
        simpa using this
      | _ => cases he
    · rename_i hc
      have hc' : isEff o.op = false := by simpa using hc
      simp only [Option.bind_eq_some_iff] at he
      obtain ⟨b, hb, he⟩ := he
      split at he
      · rename_i hbt
        subst hbt
        split at he
        · rename_i ha
          simp only [Option.bind_eq_some_iff] at he
          obtain ⟨eff, heff, he⟩ := he
          obtain ⟨a, obj, rfl, hall⟩ := al_heap ha heff
          simp only at he
          obtain ⟨v, bw, ob, snaps, f, h1, h2, h3, h4⟩ := ih hnd.2 hne he
          refine ⟨upd v t.i a, upd bw t.i true, upd ob t.i obj, snaps, f, h1, h2, .al ho hc' ha hb (by rw [upd_same]) (fun h hn => by rw [upd_same, upd_same]; exact hall h hn) ?_, h4⟩
          have := h3.congr (upd3 (a := a) (b := true) (c := obj))
          rw [upd_same, upd_same]
          exact this
        · rename_i ha
          have ha' : isAl o.op = false := by simpa using ha
          simp only [Option.bind_eq_some_iff] at he
          obtain ⟨hp, hhd, eff, heff, he⟩ := he
          cases eff with
          | val a h' =>
            simp only at he
            split at he
            · rename_i hn
              have hsame := still_same hc' ha' heff hn
              subst hsame
              split at he
              · rename_i hlo
                obtain ⟨v, bw, ob, snaps, f, h1, h2, h3, h4⟩ := ih hnd.2 hne he
                refine ⟨upd v t.i a, upd bw t.i true, upd ob t.i .dfr, snaps, f, h1, h2, .look ho hc' ha' hb (by rw [upd_same]) (fun q hq1 hq2 => ?_) ?_, h4⟩
                · rw [upd_same]
                  refine ⟨h', ?_, heff⟩
                  obtain ⟨tl, htl⟩ := h1
                  rw [← htl, List.getElem?_append_left (by simp; omega)]
                  cases hs with
                  | nil => exact absurd rfl hne
                  | cons x xs =>
                    simp at hhd; subst hhd
                    simp only [List.reverse_cons]
                    rw [List.getElem?_append_right (by simp; simp at hlo; omega)]
                    simp at hlo ⊢
                    rw [show q - xs.length = 0 from by omega]; rfl
                · rw [upd_same]; exact h3.congr (upd3 (a := a) (b := true) (c := .dfr))
              · obtain ⟨v, bw, ob, snaps, f, h1, h2, h3, h4⟩ := ih hnd.2 hne he
                refine ⟨upd v t.i a, upd bw t.i true, upd ob t.i .dfr, snaps, f, h1, fun x hx => h2 x (by simp [hx]), .look ho hc' ha' hb (by rw [upd_same]) (fun q hq1 hq2 => ?_) ?_, h4⟩
                · rw [upd_same]
                  obtain ⟨hp, h', g1, g2, g3⟩ := again_ok (h2 _ List.mem_cons_self) hq1 hq2
                  have := still_same hc' ha' g2 g3
                  subst this
                  exact ⟨h', g1, g2⟩
                · rw [upd_same]; exact h3.congr (upd3 (a := a) (b := true) (c := .dfr))
            · cases he
          | _ => cases he
      · rename_i hbf
        have hbf' : b = false := by simpa using hbf
        subst hbf'
        obtain ⟨v, bw, ob, snaps, f, h1, h2, h3, h4⟩ := ih hnd.2 hne he
        exact ⟨upd v t.i undefA, upd bw t.i false, upd ob t.i .dfr, snaps, f, h1, h2, .skip ho hc' hb (by rw [upd_same]) (by rw [upd_same]) (h3.congr (upd3 (a := undefA) (b := false) (c := .dfr))), h4⟩

end Go.Ai

/- The temporaries behind a set of operations. -/
namespace Go.Ai
open Go.RowKit

/-- ρ is ρ0, but for what the operations of X have given. -/
def Ov (ops : Array Oper) (v : Nat → AV) (ρ0 : List AV) (X : Nat → Prop) (ρ : List AV) : Prop :=
  (∀ d, (∀ k, X k → dstAt ops k ≠ some d) → ρ[d]? = ρ0[d]?) ∧ (∀ k d, X k → dstAt ops k = some d → ρ[d]? = (ρ0[d]?).map fun _ => v k)

/-- What a plan that passes its check shows. -/
structure PlanP (ops : Array Oper) (b : List Nat) (p : List St) : Prop where
  len : p.length = ops.size
  all : ∀ i, i < ops.size → ∃ t ∈ p, t.i = i
  pre : ∀ i o, ops[i]? = some o → ∀ q ∈ preds o, q < i
  dst : ∀ i k d, i ≠ k → dstAt ops i = some d → dstAt ops k ≠ some d
  looks : ∀ i o, ops[i]? = some o → ∀ d ∈ looksA ops o, ∀ k, i ≠ k → dstAt ops k = some d → (b.getD i 0).testBit k = true ∨ (b.getD k 0).testBit i = true
  top : planOk.planTop ops p [] = true
  chain : planOk.planChain (fun k i => (b.getD i 0).testBit k) ((p.map (·.i)).filter (effAt ops)) = true
  late : planOk.planLate ops (fun k i => (b.getD i 0).testBit k) p = true
  win : ∀ t ∈ p, effAt ops t.i = false → alAt ops t.i = false → t.lo ≤ t.hi ∧ t.hi ≤ ((p.map (·.i)).filter (effAt ops)).length ∧
    (t.lo = 0 ∨ (b.getD t.i 0).testBit (((p.map (·.i)).filter (effAt ops)).getD (t.lo - 1) 0) = true) ∧
    (t.hi = ((p.map (·.i)).filter (effAt ops)).length ∨ (b.getD (((p.map (·.i)).filter (effAt ops)).getD t.hi 0) 0).testBit t.i = true)

theorem dstAt_lt {ops : Array Oper} {i : Nat} {d : Tmp} (h : dstAt ops i = some d) : i < ops.size := by
  rcases Nat.lt_or_ge i ops.size with h' | h'
  · exact h'
  · simp [dstAt, Array.getElem?_eq_none h'] at h

theorem zipIdx_mem {ops : Array Oper} {i : Nat} {o : Oper} (h : ops[i]? = some o) : (o, i) ∈ ops.toList.zipIdx := by
  rw [List.mem_zipIdx_iff_getElem?]
  simpa using h

theorem planP {ops : Array Oper} {b : List Nat} {p : List St} (h : planOk ops b p = true) : PlanP ops b p := by
  simp only [planOk, Bool.and_eq_true] at h
  obtain ⟨⟨⟨⟨⟨⟨⟨⟨h1, h2⟩, h3⟩, h4⟩, h5⟩, h6⟩, h7⟩, h8⟩, h9⟩ := h
  refine ⟨by simpa using h1, fun i hi => ?_, fun i o ho q hq => ?_, fun i k d hne hd => ?_, fun i o ho d hd k hne hk => ?_, h6, h7, h8, fun t ht he ha => ?_⟩
  · have := List.all_eq_true.1 h2 i (List.mem_range.2 hi)
    obtain ⟨t, ht, e⟩ := List.any_eq_true.1 this
    exact ⟨t, ht, by simpa using e⟩
  · have := List.all_eq_true.1 h3 (o, i) (zipIdx_mem ho)
    simpa using List.all_eq_true.1 this q hq
  · intro hk
    have := List.all_eq_true.1 (List.all_eq_true.1 h4 i (List.mem_range.2 (dstAt_lt hd))) k (List.mem_range.2 (dstAt_lt hk))
    simp [hd, hk, hne] at this
  · have := List.all_eq_true.1 h5 (o, i) (zipIdx_mem ho)
    have := List.all_eq_true.1 (List.all_eq_true.1 this d hd) k (List.mem_range.2 (dstAt_lt hk))
    simp only [hk, Bool.or_eq_true, bne_self_eq_false, Bool.false_eq_true, or_false] at this
    rcases this with (h | h) | h
    · simp at h; exact absurd h hne
    · exact .inl h
    · exact .inr h
  · have := List.all_eq_true.1 h9 t ht
    simp only [he, ha, Bool.false_or, Bool.and_eq_true, decide_eq_true_eq, Bool.or_eq_true, beq_iff_eq] at this
    obtain ⟨⟨⟨g1, g2⟩, g3⟩, g4⟩ := this
    exact ⟨g1, g2, g3, g4⟩

theorem Ov.put {ops : Array Oper} {b : List Nat} {p : List St} (hp : PlanP ops b p) {v : Nat → AV} {ρ0 ρ : List AV} {X : Nat → Prop} (h : Ov ops v ρ0 X ρ) {i : Nat} {o : Oper} (ho : ops[i]? = some o) (hi : ¬ X i) (hlen : ρ.length = ρ0.length) :
    Ov ops v ρ0 (fun k => X k ∨ k = i) (putL ρ o.dst (v i)) := by
  have hd : dstAt ops i = o.dst := by simp [dstAt, ho]
  cases hq : o.dst with
  | none =>
    rw [hq] at hd
    refine ⟨fun d hk => h.1 d fun k hX => hk k (.inl hX), fun k d hX hkd => ?_⟩
    rcases hX with hX | rfl
    · exact h.2 k d hX hkd
    · rw [hd] at hkd; cases hkd
  | some e =>
    rw [hq] at hd
    refine ⟨fun d hk => ?_, fun k d hX hkd => ?_⟩
    · have hne : e ≠ d := fun e' => hk i (.inr rfl) (by rw [hd, e'])
      show (ρ.set e (v i))[d]? = _
      rw [List.getElem?_set_ne hne]
      exact h.1 d fun k hX => hk k (.inl hX)
    · show (ρ.set e (v i))[d]? = _
      rcases hX with hX | rfl
      · have hki : k ≠ i := fun e' => hi (e' ▸ hX)
        have hne : e ≠ d := fun e' => hp.dst k i d hki hkd (by rw [hd, e'])
        rw [List.getElem?_set_ne hne]
        exact h.2 k d hX hkd
      · rw [hd] at hkd; cases hkd
        rcases Nat.lt_or_ge e ρ.length with hl | hl
        · rw [List.getElem?_set_self hl, List.getElem?_eq_getElem (by omega)]; rfl
        · rw [List.getElem?_eq_none (by simpa using hl), List.getElem?_eq_none (by omega)]; rfl

theorem putL_length (ρ : List AV) (d : Option Tmp) (v : AV) : (putL ρ d v).length = ρ.length := by cases d <;> simp [putL]

/-- Behind two sets, an operation that may come behind both finds the same. -/
theorem Ov.alike {ops : Array Oper} {p : List St} (hp : PlanP ops (masks ops.toList []) p) {v : Nat → AV} {ρ0 ρ ρ' : List AV} {X Y : Nat → Prop} (h : Ov ops v ρ0 X ρ) (h' : Ov ops v ρ0 Y ρ')
    (hX : Down ops.toList X) (hY : Down ops.toList Y) {i : Nat} {o : Oper} (ho : ops[i]? = some o) (hiX : ¬ X i) (hiY : ¬ Y i) (hpX : ∀ q ∈ preds o, X q) (hpY : ∀ q ∈ preds o, Y q) : Alike ops o ρ ρ' := by
  have hext : ∀ {Z : Nat → Prop}, Down ops.toList Z → (∀ q ∈ preds o, Z q) → Down ops.toList (fun m => Z m ∨ m = i) := fun {Z} hZ hq j o' hj hm q hq' => by
    rcases hm with hm | rfl
    · exact .inl (hZ j o' hj hm q hq')
    · have : o' = o := by simp at hj; rw [ho] at hj; cases hj; rfl
      subst this
      exact .inl (hq q hq')
  intro d hd
  by_cases hk : ∃ k, k ≠ i ∧ dstAt ops k = some d
  · obtain ⟨k, hki, hkd⟩ := hk
    rcases hp.looks i o ho d hd k (Ne.symm hki) hkd with hb | hb
    · have h1 : X k := (masks_down _ hb (hext hX hpX) (.inr rfl)).resolve_right hki
      have h2 : Y k := (masks_down _ hb (hext hY hpY) (.inr rfl)).resolve_right hki
      rw [h.2 k d h1 hkd, h'.2 k d h2 hkd]
    · have key : ∀ {Z : Nat → Prop}, Down ops.toList Z → ¬ Z i → ∀ m, Z m → dstAt ops m ≠ some d := fun {Z} hZ hiZ m hm hmd => by
        by_cases e : m = k
        · subst e; exact hiZ (masks_down _ hb hZ hm)
        · exact hp.dst m k d e hmd hkd
      rw [h.1 d (key hX hiX), h'.1 d (key hY hiY)]
  · have key : ∀ {Z : Nat → Prop}, ¬ Z i → ∀ m, Z m → dstAt ops m ≠ some d := fun {Z} hiZ m hm hmd => hk ⟨m, fun e => hiZ (e ▸ hm), hmd⟩
    rw [h.1 d (key hiX), h'.1 d (key hiY)]

end Go.Ai

/- A drawn region on the machine. -/
namespace Go.Ai
open Go.RowKit

/-- A new id for a block that is in no use yet: the heap doesn't know it. -/
theorem HR.putE {E : Env} {h : H} {w w' : World} (r : HR E h w) {id : Nat} (x : M) (hn : E.m id = none) (hid : id < h.next) (hold : ∀ b, b < w.heap.size → w'.heap[b]? = w.heap[b]?) : HR (E.put id x) h w' := by
  have hle := Env.le_put x hn
  have key : ∀ {i : Nat} {o : Obj} {y : M}, h.get i = some o → (E.put id x).m i = some y → E.m i = some y := fun {i o y} hi hy => by
    obtain ⟨z, hz, _⟩ := r.live i o hi
    have := hle.1 _ _ hz
    rw [this] at hy; cases hy; exact hz
  refine ⟨fun i y hi => ?_, fun i o hi => ?_, fun i j oi oj xi xj hi hj hxi hxj hb => r.inj i j oi oj xi xj hi hj (key hi hxi) (key hj hxj) hb, fun b o hb => ?_, fun b o i oi y hb hi hy => r.apart b o i oi y hb hi (key hi hy)⟩
  · by_cases e : i = id
    · subst e; exact hid
    · simp [Env.put, e] at hi; exact r.dom i y hi
  · obtain ⟨y, hy, ho⟩ := r.live i o hi
    exact ⟨y, hle.1 _ _ hy, ho.mono hle (hold _ ho.there)⟩
  · have h1 := r.imm b o hb
    rw [hold b (heap_lt h1)]; exact h1

/-- An id whose block lies ready comes into the heap. -/
theorem HR.enter {E : Env} {h : H} {w : World} (r : HR E h w) {id : Nat} {x : M} {o : Obj} (hx : E.m id = some x) (hno : ¬ Own E h x.blk) (hq : ∀ ob, E.q x.blk ≠ some ob) (ho : OR E x w o) : HR E (h.set id o) w := by
  have key : ∀ {j : Nat} {oj : Obj}, (h.set id o).get j = some oj → (j = id ∧ oj = o) ∨ (j ≠ id ∧ h.get j = some oj) := fun {j oj} hj => by
    rw [H.get_set] at hj
    by_cases e : j = id
    · rw [if_pos e] at hj; cases hj; exact .inl ⟨e, rfl⟩
    · rw [if_neg e] at hj; exact .inr ⟨e, hj⟩
  refine ⟨r.dom, fun j oj hj => ?_, fun i j oi oj xi xj hi hj hxi hxj hb => ?_, r.imm, fun b ob j oj y hb hj hy => ?_⟩
  · rcases key hj with ⟨rfl, rfl⟩ | ⟨_, hj'⟩
    · exact ⟨x, hx, ho⟩
    · exact r.live j oj hj'
  · rcases key hi with ⟨rfl, _⟩ | ⟨_, hi'⟩ <;> rcases key hj with ⟨rfl, _⟩ | ⟨_, hj'⟩
    · rfl
    · rw [hx] at hxi; cases hxi
      exact absurd ⟨j, oj, xj, hj', hxj, hb.symm⟩ hno
    · rw [hx] at hxj; cases hxj
      exact absurd ⟨i, oi, xi, hi', hxi, hb⟩ hno
    · exact r.inj i j oi oj xi xj hi' hj' hxi hxj hb
  · rcases key hj with ⟨rfl, _⟩ | ⟨_, hj'⟩
    · rw [hx] at hy; cases hy
      intro e
      rw [← e] at hb
      exact hq ob hb
    · exact r.apart b ob j oj y hb hj' hy

theorem Own.enter {E : Env} {h : H} {id : Nat} {x : M} {o : Obj} (hx : E.m id = some x) {b : Nat} (hb : Own E (h.set id o) b) : Own E h b ∨ b = x.blk := by
  obtain ⟨i, oi, y, hi, hy, rfl⟩ := hb
  rw [H.get_set] at hi
  by_cases e : i = id
  · subst e; rw [hx] at hy; cases hy; exact .inr rfl
  · rw [if_neg e] at hi; exact .inl ⟨i, oi, y, hi, hy, rfl⟩

end Go.Ai

/- What holds behind a set of operations of a drawn region. -/
namespace Go.Ai
open Go.RowKit

/-- What does not change in a region. -/
structure Reg where
  C : Cfg
  call : CallF
  ops : Array Oper
  p : List St
  base : Nat
  v : Nat → AV
  bw : Nat → Bool
  ob : Nat → Obj
  snaps : List H
  ρ0 : List AV
  f : S
  E0 : Env
  h0 : H
  w0 : World
  rc0 : RC
  cs0 : List Frame

/-- What the one order has done, with l before it. -/
def Reg.Y (R : Reg) (l : List St) (i : Nat) : Prop := i < R.ops.size ∧ i ∉ l.map (·.i)

structure Reg.Inv (R : Reg) (X : Nat → Prop) (l : List St) (s : S) (j : Nat) (E : Env) (t : Array Value) (ρ : List AV) (ds : List Deferred) (w : World) (cs : List Frame) : Prop where
  run : Run R.C R.call R.ops R.base R.v R.bw R.ob R.snaps l s j R.f
  nodup : (l.map (·.i)).Nodup
  lin : ∀ t ∈ l, t.i < R.ops.size
  eff : ∀ i, effAt R.ops i = true → (X i ↔ R.Y l i)
  down : Down R.ops.toList X
  lt : ∀ i, X i → i < R.ops.size
  ov : Ov R.ops R.v R.ρ0 X ρ
  len : ρ.length = R.ρ0.length
  ovY : Ov R.ops R.v R.ρ0 (R.Y l) s.ρ
  lenY : s.ρ.length = R.ρ0.length
  downY : Down R.ops.toList (R.Y l)
  sub : ∀ i, alAt R.ops i = true → R.Y l i → X i
  vr : VRs E ρ t.toList
  dr : DR E s.ds ds
  hr : HR E s.h w
  cs : CsTo R.rc0 R.cs0 s.rc cs
  ext : Ext R.E0 R.h0 R.w0 E s.h w
  extra : ∀ i, alAt R.ops i = true → X i → ¬ R.Y l i → R.bw i = true → ∃ x, E.m (R.base + i) = some x ∧ x.blk < w.heap.size ∧ R.w0.heap.size ≤ x.blk ∧ ¬ Own E s.h x.blk ∧ (∀ ob, E.q x.blk ≠ some ob) ∧ OR E x w (R.ob i)
  apart : ∀ i k x y, i ≠ k → alAt R.ops i = true → X i → ¬ R.Y l i → R.bw i = true → alAt R.ops k = true → X k → ¬ R.Y l k → R.bw k = true → E.m (R.base + i) = some x → E.m (R.base + k) = some y → x.blk ≠ y.blk
  fresh : ∀ i, i < R.ops.size → ¬ (X i ∧ alAt R.ops i = true ∧ R.bw i = true) → E.m (R.base + i) = none
  next : R.base + R.ops.size ≤ s.h.next
  base : R.base = R.h0.next
  top : ∃ seen, planOk.planTop R.ops l seen = true ∧ ∀ i, i ∈ seen ↔ R.Y l i
  suf : ∃ pre, R.p = pre ++ l ∧ ((pre.map (·.i)).filter (effAt R.ops)).length = j

theorem Reg.Y_cons {R : Reg} {t : St} {l : List St} (hnd : ((t :: l).map (·.i)).Nodup) (hlt : t.i < R.ops.size) (i : Nat) : R.Y l i ↔ (R.Y (t :: l) i ∨ i = t.i) := by
  simp only [List.map_cons, List.nodup_cons] at hnd
  simp only [Reg.Y, List.map_cons, List.mem_cons, not_or]
  constructor
  · rintro ⟨h1, h2⟩
    by_cases e : i = t.i
    · exact .inr e
    · exact .inl ⟨h1, e, h2⟩
  · rintro (⟨h1, _, h2⟩ | rfl)
    · exact ⟨h1, h2⟩
    · exact ⟨hlt, hnd.1⟩

theorem Ov.congr {ops : Array Oper} {v : Nat → AV} {ρ0 ρ : List AV} {X X' : Nat → Prop} (h : Ov ops v ρ0 X ρ) (hX : ∀ i, X' i ↔ X i) : Ov ops v ρ0 X' ρ :=
  ⟨fun d hk => h.1 d fun k hx => hk k ((hX k).2 hx), fun k d hx hd => h.2 k d ((hX k).1 hx) hd⟩

theorem Down.congr {os : List Oper} {X X' : Nat → Prop} (h : Down os X) (hX : ∀ i, X' i ↔ X i) : Down os X' :=
  fun i o ho hi p hp => (hX p).2 (h i o ho ((hX i).1 hi) p hp)

/-- The one order goes a step that is no effect. -/
theorem Reg.Inv.walk {R : Reg} (hp : PlanP R.ops (masks R.ops.toList []) R.p) {X : Nat → Prop} {t : St} {l : List St} {s : S} {j : Nat} {E : Env} {tm : Array Value} {ρ : List AV} {ds : List Deferred} {w : World} {cs : List Frame}
    (I : R.Inv X (t :: l) s j E tm ρ ds w cs) (hne : effAt R.ops t.i = false) (hal : alAt R.ops t.i = true → X t.i) : ∃ s', R.Inv X l s' j E tm ρ ds w cs := by
  have hlt := I.lin t (by simp)
  have hY := Reg.Y_cons (R := R) I.nodup hlt
  have hnY : ¬ R.Y (t :: l) t.i := fun h => h.2 (by simp)
  obtain ⟨seen, htop, hseen⟩ := I.top
  have htop' := htop
  simp only [planOk.planTop, Bool.and_eq_true] at htop
  obtain ⟨⟨hpr, _⟩, htl⟩ := htop
  obtain ⟨o, ho⟩ : ∃ o, R.ops[t.i]? = some o := ⟨_, Array.getElem?_eq_getElem hlt⟩
  rw [ho] at hpr
  have hpre : ∀ q ∈ preds o, R.Y (t :: l) q := fun q hq => by
    have := List.all_eq_true.1 hpr q hq
    exact (hseen q).1 (by simpa using this)
  have hdown : Down R.ops.toList (R.Y l) := fun i o' ho' hi q hq => by
    rcases (hY i).1 hi with hi | rfl
    · exact (hY q).2 (.inl (I.downY i o' ho' hi q hq))
    · have : o' = o := by simp at ho'; rw [ho] at ho'; cases ho'; rfl
      subst this
      exact (hY q).2 (.inl (hpre q hq))
  have heff : ∀ i, effAt R.ops i = true → (X i ↔ R.Y l i) := fun i hi => by
    rw [I.eff i hi, hY i]
    exact ⟨.inl, fun h => h.resolve_right fun e => by subst e; rw [hne] at hi; cases hi⟩
  have hsub : ∀ i, alAt R.ops i = true → R.Y l i → X i := fun i ha hi => by
    rcases (hY i).1 hi with hi | rfl
    · exact I.sub i ha hi
    · exact hal ha
  have hnd : (l.map (·.i)).Nodup := by have := I.nodup; simp only [List.map_cons, List.nodup_cons] at this; exact this.2
  have htopl : ∃ seen, planOk.planTop R.ops l seen = true ∧ ∀ i, i ∈ seen ↔ R.Y l i := ⟨t.i :: seen, htl, fun i => by rw [List.mem_cons, hseen, hY]; exact Or.comm⟩
  have hov : Ov R.ops R.v R.ρ0 (R.Y l) (putL s.ρ o.dst (R.v t.i)) := (I.ovY.put hp ho hnY I.lenY).congr hY
  have hlin : ∀ t ∈ l, t.i < R.ops.size := fun t ht => I.lin t (by simp [ht])
  have hsuf : ∃ pre, R.p = pre ++ l ∧ ((pre.map (·.i)).filter (effAt R.ops)).length = j := by
    obtain ⟨pre, h1, h2⟩ := I.suf
    exact ⟨pre ++ [t], by rw [h1]; simp, by simp [hne, h2]⟩
  have hnl : ∀ i, ¬ R.Y l i → ¬ R.Y (t :: l) i := fun i h h' => h ((hY i).2 (.inl h'))
  have still : ∀ {s' : S}, s'.ρ = putL s.ρ o.dst (R.v t.i) → s'.ds = s.ds → s'.rc = s.rc → s'.h = s.h → Run R.C R.call R.ops R.base R.v R.bw R.ob R.snaps l s' j R.f → ∃ s', R.Inv X l s' j E tm ρ ds w cs := fun {s'} h1 h2 h3 h4 hl =>
    ⟨s', hl, hnd, hlin, heff, I.down, I.lt, I.ov, I.len, by rw [h1]; exact hov, by rw [h1, putL_length]; exact I.lenY, hdown, hsub, I.vr, by rw [h2]; exact I.dr, by rw [h4]; exact I.hr, by rw [h3]; exact I.cs, by rw [h4]; exact I.ext,
      fun i ha hx hy hb => by rw [h4]; exact I.extra i ha hx (hnl i hy) hb, fun i k x y hik a1 a2 a3 a4 b1 b2 b3 b4 => I.apart i k x y hik a1 a2 (hnl i a3) a4 b1 b2 (hnl k b3) b4, I.fresh, by rw [h4]; exact I.next, I.base, htopl, hsuf⟩
  cases I.run with
  | eff ho' hc _ _ _ _ => simp [effAt, ho', hc] at hne
  | skip ho' hc hw hb hv hl =>
    rw [ho] at ho'; cases ho'
    exact still (by rw [put_ρ, hv]; rfl) put_ds put_rc put_h hl
  | look ho' hc ha hw hb he hl =>
    rw [ho] at ho'; cases ho'
    exact still (by rw [put_ρ]; rfl) put_ds put_rc put_h hl
  | al ho' hc ha hw hb he hl =>
    rw [ho] at ho'; cases ho'
    have hat : alAt R.ops t.i = true := by simp [alAt, ho, hc, ha]
    obtain ⟨x, hx, g1, g2, g3, g4, g5⟩ := I.extra t.i hat (hal hat) hnY hb
    have hown : ∀ {b}, Own E (s.h.set (R.base + t.i) (R.ob t.i)) b → Own E s.h b ∨ b = x.blk := fun h => Own.enter hx h
    refine ⟨_, hl, hnd, hlin, heff, I.down, I.lt, I.ov, I.len, by rw [put_ρ]; exact hov, ?_, hdown, hsub, I.vr, by rw [put_ds]; exact I.dr, by rw [put_h]; exact I.hr.enter hx g3 g4 g5, by rw [put_rc]; exact I.cs, ?_, ?_, ?_, I.fresh, by rw [put_h]; exact I.next, I.base, htopl, hsuf⟩
    · rw [put_eq]; simp only [putL_length]; exact I.lenY
    · rw [put_h]
      exact { I.ext with next := I.ext.next, own := fun b hb => (hown hb).elim (I.ext.own b) (fun e => .inr (e ▸ g2)) }
    · intro i hai hxi hyi hbi
      obtain ⟨y, q1, q2, q3, q4, q5, q6⟩ := I.extra i hai hxi (hnl i hyi) hbi
      refine ⟨y, q1, q2, q3, ?_, q5, q6⟩
      rw [put_h]
      intro hb'
      rcases hown hb' with h | h
      · exact q4 h
      · have hne' : i ≠ t.i := fun e => hyi ((hY i).2 (.inr e))
        exact I.apart i t.i y x hne' hai hxi (hnl i hyi) hbi hat (hal hat) hnY hb q1 hx h
    · exact fun i k x y hik a1 a2 a3 a4 b1 b2 b3 b4 => I.apart i k x y hik a1 a2 (hnl i a3) a4 b1 b2 (hnl k b3) b4

end Go.Ai

/- The moments of the one order, and the steps of the machine. -/
namespace Go.Ai
open Go.RowKit

/-- What the one order has shown of an operation that is no effect. -/
structure Reg.Moment (R : Reg) (t : St) (o : Oper) (ρ : List AV) (Y : Nat → Prop) : Prop where
  op : R.ops[t.i]? = some o
  ov : Ov R.ops R.v R.ρ0 Y ρ
  down : Down R.ops.toList Y
  not : ¬ Y t.i
  pre : ∀ q ∈ preds o, Y q
  wanted : wantedA ρ R.ops o = some (R.bw t.i)
  skip : R.bw t.i = false → R.v t.i = undefA
  al : R.bw t.i = true → isAl o.op = true → ∀ h : H, h.next = R.base + t.i → execA R.C ρ o h = some (.val (R.v t.i) (h.new (R.ob t.i)))
  look : R.bw t.i = true → isAl o.op = false → ∀ q, t.lo ≤ q → q ≤ t.hi → ∃ h, R.snaps[q]? = some h ∧ execA R.C ρ o h = some (.val (R.v t.i) h)

theorem Reg.moments {R : Reg} (hp : PlanP R.ops (masks R.ops.toList []) R.p) : ∀ (l : List St) {s : S} {j : Nat}, Run R.C R.call R.ops R.base R.v R.bw R.ob R.snaps l s j R.f → (l.map (·.i)).Nodup → (∀ t ∈ l, t.i < R.ops.size) →
    Ov R.ops R.v R.ρ0 (R.Y l) s.ρ → s.ρ.length = R.ρ0.length → Down R.ops.toList (R.Y l) → (∃ seen, planOk.planTop R.ops l seen = true ∧ ∀ i, i ∈ seen ↔ R.Y l i) → ∀ t ∈ l, effAt R.ops t.i = false → ∃ o ρ Y, R.Moment t o ρ Y := by
  intro l
  induction l with
  | nil => intro s j _ _ _ _ _ _ _ t ht; cases ht
  | cons a l ih =>
    intro s j hrun hnd hlin hov hlen hdown htop t ht hne
    have hlt := hlin a (by simp)
    have hY := Reg.Y_cons (R := R) hnd hlt
    have hnY : ¬ R.Y (a :: l) a.i := fun h => h.2 (by simp)
    obtain ⟨seen, htop, hseen⟩ := htop
    simp only [planOk.planTop, Bool.and_eq_true] at htop
    obtain ⟨⟨hpr, _⟩, htl⟩ := htop
    obtain ⟨o, ho⟩ : ∃ o, R.ops[a.i]? = some o := ⟨_, Array.getElem?_eq_getElem hlt⟩
    rw [ho] at hpr
    have hpre : ∀ q ∈ preds o, R.Y (a :: l) q := fun q hq => by
      have := List.all_eq_true.1 hpr q hq
      exact (hseen q).1 (by simpa using this)
    have hdown' : Down R.ops.toList (R.Y l) := fun i o' ho' hi q hq => by
      rcases (hY i).1 hi with hi | rfl
      · exact (hY q).2 (.inl (hdown i o' ho' hi q hq))
      · have : o' = o := by simp at ho'; rw [ho] at ho'; cases ho'; rfl
        subst this
        exact (hY q).2 (.inl (hpre q hq))
    have hnd' : (l.map (·.i)).Nodup := by simp only [List.map_cons, List.nodup_cons] at hnd; exact hnd.2
    have htopl : ∃ seen, planOk.planTop R.ops l seen = true ∧ ∀ i, i ∈ seen ↔ R.Y l i := ⟨a.i :: seen, htl, fun i => by rw [List.mem_cons, hseen, hY]; exact Or.comm⟩
    have hov' : Ov R.ops R.v R.ρ0 (R.Y l) (putL s.ρ o.dst (R.v a.i)) := (hov.put hp ho hnY hlen).congr hY
    have hlin' : ∀ t ∈ l, t.i < R.ops.size := fun t ht => hlin t (by simp [ht])
    have go : ∀ {s' : S} {j' : Nat}, s'.ρ = putL s.ρ o.dst (R.v a.i) → Run R.C R.call R.ops R.base R.v R.bw R.ob R.snaps l s' j' R.f → t ∈ l → ∃ o ρ Y, R.Moment t o ρ Y := fun {s' j'} h1 hl htl =>
      ih hl hnd' hlin' (by rw [h1]; exact hov') (by rw [h1, putL_length]; exact hlen) hdown' htopl t htl hne
    cases hrun with
    | eff ho' hc hs hv _ hl =>
      rw [ho] at ho'; cases ho'
      rcases List.mem_cons.1 ht with rfl | ht
      · simp [effAt, ho, hc] at hne
      · exact go hv hl ht
    | skip ho' hc hw hb hv hl =>
      rw [ho] at ho'; cases ho'
      rcases List.mem_cons.1 ht with rfl | ht
      · exact ⟨o, s.ρ, _, ho, hov, hdown, hnY, hpre, by rw [hb]; exact hw, fun _ => hv, (fun h => by rw [hb] at h; cases h), (fun h => by rw [hb] at h; cases h)⟩
      · exact go (by rw [put_ρ, hv]; rfl) hl ht
    | al ho' hc ha hw hb he hl =>
      rw [ho] at ho'; cases ho'
      rcases List.mem_cons.1 ht with rfl | ht
      · exact ⟨o, s.ρ, _, ho, hov, hdown, hnY, hpre, by rw [hb]; exact hw, (fun h => by rw [hb] at h; cases h), fun _ _ => he, (fun _ h => by rw [ha] at h; cases h)⟩
      · exact go (by rw [put_ρ]; rfl) hl ht
    | look ho' hc ha hw hb he hl =>
      rw [ho] at ho'; cases ho'
      rcases List.mem_cons.1 ht with rfl | ht
      · exact ⟨o, s.ρ, _, ho, hov, hdown, hnY, hpre, by rw [hb]; exact hw, (fun h => by rw [hb] at h; cases h), (fun _ h => by rw [ha] at h; cases h), fun _ _ => he⟩
      · exact go (by rw [put_ρ]; rfl) hl ht

end Go.Ai
