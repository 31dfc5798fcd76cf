import Derived.Test.YtelmlhlkefmjkaaGreatDoorAiM
import Derived.Test.YtelmlhlkefmjkaaGreatDoorAiK
import Derived.Test.YtelmlhlkefmjkaaGreatDoorAiF
import Derived.Test.YtelmlhlkefmjkaaGreatDoorAiG
set_option linter.unusedSimpArgs false
set_option linter.unusedVariables false
/- Regions whose order is drawn, in the form that simp takes step by step. -/
namespace Go.Ai

section
variable {α : Type} {C : Cfg}

noncomputable def DW (C : Cfg) (os : List Oper) (base : Nat) (l : List St) (ρ : List AV) (ds : List D) (h : H) (hs : List H) (as : List Again) (k : Kont α) : Option α :=
  (runDraw C (cl C) os.toArray base l { ρ, ds, rc := .nil, h } hs as).bind fun x => match x with
    | (.normal, s) => k s.ρ s.ds s.h
    | _ => none
@[congr] theorem DW_congr {os : List Oper} {base base' : Nat} {l : List St} {ρ ρ' : List AV} {ds : List D} {h h' : H} {hs hs' : List H} {as as' : List Again} {k : Kont α} (h0 : base = base') (h1 : ρ = ρ') (h2 : h = h') (h3 : hs = hs') (h4 : as = as') :
    DW C os base l ρ ds h hs as k = DW C os base' l ρ' ds h' hs' as' k := by rw [h0, h1, h2, h3, h4]

/-- The heap with room for a region's own objects. -/
def H.room (h : H) (n : Nat) : H := { h with next := h.next + n }
@[simp] theorem H.get_room (h : H) (n i : Nat) : (h.room n).get i = h.get i := rfl
@[simp] theorem H.next_room (h : H) (n : Nat) : (h.room n).next = h.next + n := rfl

theorem S_draw (hfz : ∀ f, C.fz f = false) {fid : FuncId} {id : Nat} {os : List Oper} {ρ : List AV} {ds : List D} {h : H} {kn kr : Kont α} {kx : Nat → Kont α} (p : List St) (hp : planOf ⟨os⟩ (masks os []) = p) (hk : planQ ⟨os⟩ (masks os []) p = true) :
    X C fid (.region id ⟨os⟩ true) ρ ds h kn kr kx = DW C os h.next p ρ ds (h.room os.length) [h.room os.length] [] kn := by
  unfold X DW
  rw [ev_draw hfz (s := { ρ, ds, rc := .nil, h }) p hp (planQ_ok hk)]
  cases he : runDraw C (cl C) os.toArray h.next p { ρ, ds, rc := .nil, h := h.room os.length } [h.room os.length] [] with
  | none =>
    have : runDraw C (cl C) ⟨os⟩ h.next p { ρ, ds, rc := .nil, h := { h with next := h.next + (⟨os⟩ : Array Oper).size } } [{ h with next := h.next + (⟨os⟩ : Array Oper).size }] [] = none := he
    rw [this]; rfl
  | some x =>
    have : runDraw C (cl C) ⟨os⟩ h.next p { ρ, ds, rc := .nil, h := { h with next := h.next + (⟨os⟩ : Array Oper).size } } [{ h with next := h.next + (⟨os⟩ : Array Oper).size }] [] = some x := he
    rw [this]
    obtain ⟨ex, s⟩ := x
    have := (runDraw_rc _ he rfl).2
    subst this
    rfl

/-- Does a look that is asked again find the same? -/
noncomputable def ag (C : Cfg) (x : Again) (h : H) : Bool := match A C x.ρ x.o.op [] h (fun v _ h' => some (v.beq x.v && h'.next == h.next)) with
  | some b => b
  | none => false
/-- At the heaps from lo to hi. -/
noncomputable def agL (C : Cfg) (x : Again) : List H → Nat → Bool
  | [], i => decide (x.hi < i)
  | h :: l, i => (if x.lo ≤ i ∧ i ≤ x.hi then ag C x h else true) && agL C x l (i + 1)

theorem ag_ok {x : Again} {h : H} (hx : isEff x.o.op = false) (hb : ag C x h = true) : ∃ h', execA C x.ρ x.o h = some (.val x.v h') ∧ h'.next = h.next := by
  unfold ag A at hb
  rw [← execA_op] at hb
  cases he : execA C x.ρ x.o h with
  | none => rw [he] at hb; cases hb
  | some e =>
    rw [he] at hb
    have hval : ∃ v h', e = .val v h' := by
      cases ha : isAl x.o.op with
      | true => obtain ⟨v, o, rfl, _⟩ := al_heap ha he; exact ⟨_, _, rfl⟩
      | false => obtain ⟨v, h', rfl, _⟩ := still_ok hx ha he; exact ⟨_, _, rfl⟩
    obtain ⟨v, h', rfl⟩ := hval
    simp only [Option.bind_some, Bool.and_eq_true, beq_iff_eq] at hb
    rw [AV.beq_eq _ _ hb.1]
    exact ⟨h', rfl, hb.2⟩

theorem agL_ok {x : Again} (hx : isEff x.o.op = false) : ∀ (l : List H) (i : Nat), agL C x l i = true → ∀ q, x.lo ≤ q → q ≤ x.hi → i ≤ q → ∃ h, l[q - i]? = some h ∧ ag C x h = true := by
  intro l
  induction l with
  | nil => intro i hb q h1 h2 h3; simp only [agL, decide_eq_true_eq] at hb; omega
  | cons h l ih =>
    intro i hb q h1 h2 h3
    simp only [agL, Bool.and_eq_true] at hb
    by_cases e : q = i
    · subst e
      rw [if_pos ⟨h1, h2⟩] at hb
      exact ⟨h, by simp, hb.1⟩
    · obtain ⟨h', g1, g2⟩ := ih (i + 1) hb.2 q h1 h2 (by omega)
      exact ⟨h', by rw [show q - i = (q - (i + 1)) + 1 by omega]; simpa using g1, g2⟩

theorem again_of {x : Again} (hx : isEff x.o.op = false) {hs : List H} (hb : agL C x hs 0 = true) : again C hs x = true := by
  unfold again
  refine List.all_eq_true.2 fun d hd => ?_
  have hd' : d < x.hi + 1 - x.lo := List.mem_range.1 hd
  obtain ⟨h, g1, g2⟩ := agL_ok hx hs 0 hb (x.lo + d) (by omega) (by omega) (by omega)
  obtain ⟨h', e1, e2⟩ := ag_ok hx g2
  rw [Nat.sub_zero] at g1
  simp only [g1, e1, AV.beq_refl, e2, beq_self_eq_true, Bool.and_self]

/-- What is asked again at the end. -/
noncomputable def agAll (C : Cfg) (hs : List H) : List Again → Bool
  | [] => true
  | x :: l => !isEff x.o.op && agL C x hs 0 && agAll C hs l

theorem agAll_ok {hs : List H} : ∀ (as : List Again), agAll C hs as = true → as.all (again C hs) = true := by
  intro as
  induction as with
  | nil => intro _; rfl
  | cons x l ih =>
    intro h
    simp only [agAll, Bool.and_eq_true, Bool.not_eq_true'] at h
    simp only [List.all_cons, Bool.and_eq_true]
    exact ⟨again_of h.1.1 h.1.2, ih h.2⟩

theorem DW_nil {os : List Oper} {base : Nat} {ρ : List AV} {ds : List D} {h : H} {hs : List H} {as : List Again} {k : Kont α} {r : α} (ha : agAll C hs.reverse as = true) (hk : k ρ ds h = some r) : DW C os base [] ρ ds h hs as k = some r := by
  unfold DW runDraw
  rw [if_pos (agAll_ok as ha)]
  exact hk
theorem DW_nilE {os : List Oper} {base : Nat} {ρ : List AV} {ds : List D} {h : H} {hs : List H} {as : List Again} {k : Kont α} (ha : agAll C hs.reverse as = true) : DW C os base [] ρ ds h hs as k = k ρ ds h := by
  unfold DW runDraw
  rw [if_pos (agAll_ok as ha)]
  rfl
theorem DW_nil0 {os : List Oper} {base : Nat} {ρ : List AV} {ds : List D} {h : H} {hs : List H} {k : Kont α} : DW C os base [] ρ ds h hs [] k = k ρ ds h := by
  unfold DW runDraw; rfl

/-- The op of a place. -/
def ro : List Oper → Nat → Option Oper
  | [], _ => none
  | o :: _, 0 => some o
  | _ :: l, n + 1 => ro l n
@[congr] theorem ro_congr {l : List Oper} {n : Nat} : ro l n = ro l n := rfl
theorem ro0 {o : Oper} {l : List Oper} : ro (o :: l) 0 = some o := rfl
theorem ro1 {o : Oper} {l : List Oper} {n : Nat} : ro (o :: l) (n + 1) = ro l n := rfl
theorem ro4 {o1 o2 o3 o4 : Oper} {l : List Oper} {n : Nat} : ro (o1 :: o2 :: o3 :: o4 :: l) (n + 4) = ro l n := rfl
theorem ro_eq : ∀ (os : List Oper) (g : Nat), os.toArray[g]? = ro os g := by
  intro os g
  simp only [List.getElem?_toArray]
  induction os generalizing g with
  | nil => rfl
  | cons o l ih => cases g with
    | zero => rfl
    | succ g => simpa [ro] using ih g

/-- An operation of the region, its guard held. -/
noncomputable def DO (C : Cfg) (os : List Oper) (base : Nat) (t : St) (o : Oper) (l : List St) (ρ : List AV) (ds : List D) (h : H) (hs : List H) (as : List Again) (k : Kont α) : Option α :=
  if isEff o.op then A C ρ o.op ds h fun v ds h' => DW C os base l (putD ρ o.dst v) ds h' (h' :: hs) as k
  else if isAl o.op then A C ρ o.op ds { h with next := base + t.i } fun v _ h' => DW C os base l (putD ρ o.dst v) ds { h' with next := h.next } hs as k
  else bnd hs.head? fun hd => A C ρ o.op ds hd fun v _ h' => if h'.next = hd.next then
    (if t.lo + 1 = hs.length ∧ t.hi = t.lo then DW C os base l (putD ρ o.dst v) ds h hs as k else DW C os base l (putD ρ o.dst v) ds h hs (⟨o, ρ, v, t.lo, t.hi⟩ :: as) k) else none
/-- And not held. -/
noncomputable def DN (C : Cfg) (os : List Oper) (base : Nat) (o : Oper) (l : List St) (ρ : List AV) (ds : List D) (h : H) (hs : List H) (as : List Again) (k : Kont α) : Option α :=
  if isEff o.op then DW C os base l (putD ρ o.dst undefA) ds h (h :: hs) as k else DW C os base l (putD ρ o.dst undefA) ds h hs as k
@[congr] theorem DO_congr {os : List Oper} {base base' : Nat} {t : St} {o : Oper} {l : List St} {ρ ρ' : List AV} {ds : List D} {h h' : H} {hs hs' : List H} {as as' : List Again} {k : Kont α} (h0 : base = base') (h1 : ρ = ρ') (h2 : h = h') (h3 : hs = hs') (h4 : as = as') :
    DO C os base t o l ρ ds h hs as k = DO C os base' t o l ρ' ds h' hs' as' k := by rw [h0, h1, h2, h3, h4]

theorem DW_step {os : List Oper} {base : Nat} {t : St} {l : List St} {ρ : List AV} {ds : List D} {h : H} {hs : List H} {as : List Again} {k : Kont α} {o : Oper} (ho : ro os t.i = some o) (hw : wantedA ρ os.toArray o = some true) :
    DW C os base (t :: l) ρ ds h hs as k = DO C os base t o l ρ ds h hs as k := by
  unfold DW runDraw DO
  rw [ro_eq, ho]
  simp only [Option.bind_some]
  cases hE : isEff o.op with
  | true =>
    simp only [if_true, stepOp, hw, Option.bind_some]
    unfold A
    rw [← execA_op]
    cases he : execA C ρ o h with
    | none => rfl
    | some e =>
      simp only [Option.bind_some]
      cases e with
      | val v h' => simp only [Option.bind_some, put_eq', DW]
      | call f args =>
        simp only
        cases hc : cl C f args h with
        | none => rfl
        | some y =>
          obtain ⟨ar, h'⟩ := y
          cases ar with
          | ret v => simp only [Option.bind_some, put_eq', DW]
          | panic v => rfl
      | panic v => rfl
      | defer f args => simp only [Option.bind_some, put_eq', DW]
      | recover => simp only [Option.bind_some, put_eq', DW]
  | false =>
    simp only [Bool.false_eq_true, if_false, hw, Option.bind_some, if_true]
    cases hA : isAl o.op with
    | true =>
      simp only [if_true]
      unfold A
      rw [← execA_op]
      cases he : execA C ρ o { h with next := base + t.i } with
      | none => rfl
      | some e =>
        obtain ⟨v, ob, rfl, _⟩ := al_heap hA he
        simp only [Option.bind_some, put_eq', DW]
    | false =>
      simp only [Bool.false_eq_true, if_false]
      unfold bnd
      cases hs.head? with
      | none => rfl
      | some hd =>
        simp only [Option.bind_some]
        unfold A
        rw [← execA_op]
        cases he : execA C ρ o hd with
        | none => rfl
        | some e =>
          obtain ⟨v, h', rfl, _⟩ := still_ok hE hA he
          simp only [Option.bind_some]
          split
          · split
            · simp only [put_eq', DW]
            · simp only [put_eq', DW]
          · rfl

theorem DW_skip {os : List Oper} {base : Nat} {t : St} {l : List St} {ρ : List AV} {ds : List D} {h : H} {hs : List H} {as : List Again} {k : Kont α} {o : Oper} (ho : ro os t.i = some o) (hw : wantedA ρ os.toArray o = some false) :
    DW C os base (t :: l) ρ ds h hs as k = DN C os base o l ρ ds h hs as k := by
  unfold DW runDraw DN
  rw [ro_eq, ho]
  simp only [Option.bind_some]
  cases hE : isEff o.op with
  | true => simp only [if_true, stepOp, hw, Option.bind_some, Bool.false_eq_true, if_false, put_eq', DW]
  | false => simp only [Bool.false_eq_true, if_false, hw, Option.bind_some, put_eq', DW]

/-- An operation with its guard, in the drawn order. -/
noncomputable def DG (C : Cfg) (os : List Oper) (base : Nat) (t : St) (o : Oper) (l : List St) (ρ : List AV) (ds : List D) (h : H) (hs : List H) (as : List Again) (k : Kont α) : Option α :=
  match o.guard with
  | none => DO C os base t o l ρ ds h hs as k
  | some (g, w) => bnd (gd os g) fun q => bnd (lk ρ q) fun v => match v with
    | .bool b => if b = w then DO C os base t o l ρ ds h hs as k else DN C os base o l ρ ds h hs as k
    | .tup [] => DN C os base o l ρ ds h hs as k
    | _ => none

theorem DW_cons {os : List Oper} {base i lo hi : Nat} {l : List St} {ρ : List AV} {ds : List D} {h : H} {hs : List H} {as : List Again} {k : Kont α} :
    DW C os base (⟨i, lo, hi⟩ :: l) ρ ds h hs as k = bnd (ro os i) fun o => DG C os base ⟨i, lo, hi⟩ o l ρ ds h hs as k := by
  cases ho : ro os i with
  | none => unfold DW runDraw; rw [ro_eq, ho]; rfl
  | some o =>
    rw [bnd_some]
    unfold DG
    cases hg : o.guard with
    | none => exact DW_step ho (by unfold wantedA; rw [hg])
    | some gw =>
      obtain ⟨g, w⟩ := gw
      simp only
      have hd := gd_eq os g
      unfold bnd lk
      have bad : wantedA ρ os.toArray o = none → DW C os base (⟨i, lo, hi⟩ :: l) ρ ds h hs as k = none := fun hw => by
        unfold DW runDraw
        rw [ro_eq, ho]
        simp only [Option.bind_some]
        cases hE : isEff o.op with
        | true => simp only [if_true, stepOp, hw, Option.bind_none]
        | false => simp only [Bool.false_eq_true, if_false, hw, Option.bind_none]
      cases hq : gd os g with
      | none => exact bad (by unfold wantedA; rw [hg]; simp only [hd, hq, Option.bind_none])
      | some q =>
        simp only [Option.bind_some]
        cases hv : ρ[q]? with
        | none => exact bad (by unfold wantedA; rw [hg]; simp only [hd, hq, Option.bind_some, hv])
        | some v =>
          simp only [Option.bind_some]
          have hwv : wantedA ρ os.toArray o = (match v with | .bool b => some (b == w) | .tup [] => some false | _ => none) := by
            unfold wantedA; rw [hg]; simp only [hd, hq, Option.bind_some, hv]
            cases v <;> first | rfl | skip
            rename_i l; cases l <;> rfl
          cases v with
          | bool b =>
            by_cases e : b = w
            · simp only [if_pos e]; exact DW_step ho (by rw [hwv]; simp [e])
            · simp only [if_neg e]; exact DW_skip ho (by rw [hwv]; simp [e])
          | tup l' =>
            cases l' with
            | nil => exact DW_skip ho hwv
            | cons _ _ => exact bad hwv
          | _ => exact bad hwv

theorem DG_none {os : List Oper} {base : Nat} {t : St} {d : Option Tmp} {op : Op} {ty : TypeId} {p : String} {a : Array Edge} {l : List St} {ρ : List AV} {ds : List D} {h : H} {hs : List H} {as : List Again} {k : Kont α} :
    DG C os base t ⟨d, op, ty, p, a, none⟩ l ρ ds h hs as k = DO C os base t ⟨d, op, ty, p, a, none⟩ l ρ ds h hs as k := rfl
theorem DG_some {os : List Oper} {base : Nat} {t : St} {d : Option Tmp} {op : Op} {ty : TypeId} {p : String} {a : Array Edge} {g : Nat} {w : Bool} {l : List St} {ρ : List AV} {ds : List D} {h : H} {hs : List H} {as : List Again} {k : Kont α} :
    DG C os base t ⟨d, op, ty, p, a, some (g, w)⟩ l ρ ds h hs as k = bnd (gd os g) fun q => bnd (lk ρ q) fun v => match v with
    | .bool b => if b = w then DO C os base t ⟨d, op, ty, p, a, some (g, w)⟩ l ρ ds h hs as k else DN C os base ⟨d, op, ty, p, a, some (g, w)⟩ l ρ ds h hs as k
    | .tup [] => DN C os base ⟨d, op, ty, p, a, some (g, w)⟩ l ρ ds h hs as k
    | _ => none := rfl
/-- An operation that makes an object, at its own place. -/
noncomputable def AL (C : Cfg) (ρ : List AV) (op : Op) (h : H) (n : Nat) (k : AV → H → Option α) : Option α := A C ρ op [] { h with next := n } fun v _ h' => k v { h' with next := h.next }
@[congr] theorem AL_congr {ρ ρ' : List AV} {op : Op} {h h' : H} {n n' : Nat} {k : AV → H → Option α} (h1 : ρ = ρ') (h2 : h = h') (h3 : n = n') : AL C ρ op h n k = AL C ρ' op h' n' k := by rw [h1, h2, h3]
theorem AL_alloc {ρ : List AV} {h : H} {n : Nat} {k : AV → H → Option α} {t : TypeId} : AL C ρ (.alloc t) h n k = bnd (C.T t) fun ti => k (.ptr n 0 0) (h.set n (.blk ti.zero.length [ti.zero])) := by
  unfold AL; rw [A_alloc]; rfl
theorem AL_box {ρ : List AV} {h : H} {n : Nat} {k : AV → H → Option α} {t : TypeId} {x : Operand} : AL C ρ (.box t x) h n k = bnd (opd ρ x) fun x => k (.ptr n 0 0) (h.set n (.blk x.cells.length [x.cells])) := by
  unfold AL; rw [A_box]; rfl
theorem AL_makeMap {ρ : List AV} {h : H} {n : Nat} {k : AV → H → Option α} {t : TypeId} : AL C ρ (.makeMap t none) h n k = k (.map n) (h.set n (.map [])) := by
  unfold AL; rw [A_makeMap]; rfl
theorem AL_buildSlice {ρ : List AV} {h : H} {n : Nat} {k : AV → H → Option α} {t : TypeId} {m : Nat} {ps : Array (Nat × Operand)} : AL C ρ (.buildSlice t m ps) h n k = bnd (C.T t) fun ti => bnd (elT C ti) fun te => bnd (parts ρ ps.toList) fun ps =>
    if m * te.size > 2 ^ 24 then none else bnd (setRows (List.replicate m te.zero) te.size ps) fun rows => k (.sl n 0 m) (h.set n (.blk te.size rows)) := by
  unfold AL; rw [B_buildSlice]; rfl
/-- The size of a slice that is made. -/
def mkN (te : TI) (l c : AV) : Option Nat := (intA l).bind fun l => (natOf l).bind fun n => (intA c).bind fun c => (natOf c).bind fun m => if n = m ∧ n * te.bytes ≤ 2 ^ 47 ∧ n < 2 ^ 47 then some n else none
theorem mkA_eq {te : TI} {l c : AV} {h : H} : mkA te l c h = (mkN te l c).map fun n => (.sl h.next 0 n, h.new (.blk te.size (List.replicate n te.zero))) := by
  unfold mkA mkN
  cases intA l with
  | none => rfl
  | some l =>
    simp only [Option.bind_some]
    cases natOf l with
    | none => rfl
    | some n =>
      simp only [Option.bind_some]
      cases intA c with
      | none => rfl
      | some c =>
        simp only [Option.bind_some]
        cases natOf c with
        | none => rfl
        | some m => simp only [Option.bind_some]; split <;> rfl
theorem AL_makeSlice {ρ : List AV} {h : H} {n : Nat} {k : AV → H → Option α} {t : TypeId} {l c : Operand} : AL C ρ (.makeSlice t l c) h n k = bnd (C.T t) fun ti => bnd (elT C ti) fun te => bnd (opd ρ l) fun l => bnd (opd ρ c) fun c => bnd (mkN te l c) fun m => k (.sl n 0 m) (h.set n (.blk te.size (List.replicate m te.zero))) := by
  unfold AL; rw [B_makeSlice]
  unfold bnd
  congr 1; funext ti; congr 1; funext te; congr 1; funext l; congr 1; funext c
  rw [mkA_eq]
  cases mkN te l c <;> rfl

/-- The first of the heaps behind the effects. -/
noncomputable def lookD (C : Cfg) (os : List Oper) (base i lo hi : Nat) (d : Option Tmp) (o : Oper) (l : List St) (ρ : List AV) (ds : List D) (h : H) (hs : List H) (as : List Again) (k : Kont α) : Option α :=
  bnd hs.head? fun hd => A C ρ o.op ds hd fun v _ h' => if h'.next = hd.next then
    (if lo + 1 = hs.length ∧ hi = lo then DW C os base l (putD ρ d v) ds h hs as k else DW C os base l (putD ρ d v) ds h hs (⟨o, ρ, v, lo, hi⟩ :: as) k) else none
theorem DO_eq {os : List Oper} {base i lo hi : Nat} {d : Option Tmp} {op : Op} {ty : TypeId} {p : String} {a : Array Edge} {g : Option (Nat × Bool)} {l : List St} {ρ : List AV} {ds : List D} {h : H} {hs : List H} {as : List Again} {k : Kont α} :
    DO C os base ⟨i, lo, hi⟩ ⟨d, op, ty, p, a, g⟩ l ρ ds h hs as k = if isEff op = true then A C ρ op ds h fun v ds h' => DW C os base l (putD ρ d v) ds h' (h' :: hs) as k
      else if isAl op = true then AL C ρ op h (base + i) fun v h' => DW C os base l (putD ρ d v) ds h' hs as k
      else lookD C os base i lo hi d ⟨d, op, ty, p, a, g⟩ l ρ ds h hs as k := by
  unfold DO lookD
  cases hE : isEff op with
  | true => rfl
  | false =>
    cases hA : isAl op with
    | false => rfl
    | true =>
      simp only [Bool.false_eq_true, if_false, if_true]
      unfold AL A
      cases he : execA C ρ { (default : Oper) with op } { h with next := base + i } with
      | none => rfl
      | some e =>
        obtain ⟨v, ob, rfl, _⟩ := al_heap (o := { (default : Oper) with op }) hA he
        rfl
theorem lookD_eq {os : List Oper} {base i lo hi : Nat} {d : Option Tmp} {op : Op} {ty : TypeId} {p : String} {a : Array Edge} {g : Option (Nat × Bool)} {l : List St} {ρ : List AV} {ds : List D} {h hd : H} {hs : List H} {as : List Again} {k : Kont α} :
    lookD C os base i lo hi d ⟨d, op, ty, p, a, g⟩ l ρ ds h (hd :: hs) as k = A C ρ op ds hd fun v _ h' => if h'.next = hd.next then
    (if lo = hs.length ∧ hi = lo then DW C os base l (putD ρ d v) ds h (hd :: hs) as k else DW C os base l (putD ρ d v) ds h (hd :: hs) (⟨⟨d, op, ty, p, a, g⟩, ρ, v, lo, hi⟩ :: as) k) else none := by
  unfold lookD; simp only [List.head?_cons, bnd_some, List.length_cons, Nat.add_right_cancel_iff]
@[congr] theorem lookD_congr {os : List Oper} {base base' i lo hi : Nat} {d : Option Tmp} {o : Oper} {l : List St} {ρ ρ' : List AV} {ds : List D} {h h' : H} {hs hs' : List H} {as as' : List Again} {k : Kont α} (h0 : base = base') (h1 : ρ = ρ') (h2 : h = h') (h3 : hs = hs') (h4 : as = as') :
    lookD C os base i lo hi d o l ρ ds h hs as k = lookD C os base' i lo hi d o l ρ' ds h' hs' as' k := by rw [h0, h1, h2, h3, h4]
theorem DN_eq {os : List Oper} {base : Nat} {d : Option Tmp} {op : Op} {ty : TypeId} {p : String} {a : Array Edge} {g : Option (Nat × Bool)} {l : List St} {ρ : List AV} {ds : List D} {h : H} {hs : List H} {as : List Again} {k : Kont α} :
    DN C os base ⟨d, op, ty, p, a, g⟩ l ρ ds h hs as k = if isEff op = true then DW C os base l (putD ρ d undefA) ds h (h :: hs) as k else DW C os base l (putD ρ d undefA) ds h hs as k := rfl

/-- A new object at its own place. -/
theorem new_at {h : H} {n m : Nat} {o : Obj} : ({ (({ h with next := n } : H).new o) with next := m } : H) = { (h.set n o) with next := m } := rfl
theorem set_next {h : H} {n : Nat} {o : Obj} : ({ (h.set n o) with next := h.next } : H) = h.set n o := rfl

end
end Go.Ai

/- What a call leaves as it was; slices; appends. -/
namespace Go.Ai

/-- All that was there is there yet. -/
structure Keep (h h' : H) : Prop where
  next : h.next ≤ h'.next
  get : ∀ i, i < h.next → h'.get i = h.get i

theorem Keep.refl (h : H) : Keep h h := ⟨Nat.le_refl _, fun _ _ => rfl⟩
theorem Keep.trans {a b c : H} (x : Keep a b) (y : Keep b c) : Keep a c := ⟨Nat.le_trans x.next y.next, fun i hi => (y.get i (Nat.lt_of_lt_of_le hi x.next)).trans (x.get i hi)⟩
theorem Keep.new {a b : H} (x : Keep a b) (o : Obj) : Keep a (b.new o) := ⟨Nat.le_succ_of_le x.next, fun i hi => by rw [H.get_new, if_neg (by have := x.next; omega)]; exact x.get i hi⟩
theorem Keep.set {a b : H} (x : Keep a b) {i : Nat} (hi : a.next ≤ i) (o : Obj) : Keep a (b.set i o) := ⟨x.next, fun j hj => by rw [H.get_set, if_neg (by omega)]; exact x.get j hj⟩
theorem Keep.room {a b : H} (x : Keep a b) (n : Nat) : Keep a { b with next := b.next + n } := ⟨Nat.le_add_right_of_le x.next, x.get⟩
theorem Keep.del {a b : H} (x : Keep a b) {i : Nat} (hi : a.next ≤ i) : Keep a (b.del i) := ⟨x.next, fun j hj => by rw [H.get_del, if_neg (by omega)]; exact x.get j hj⟩

/-- All but some is as it was. -/
structure KeepBut (p : Nat → Prop) (h h' : H) : Prop where
  next : h.next ≤ h'.next
  get : ∀ i, i < h.next → ¬ p i → h'.get i = h.get i

theorem Keep.but {a b : H} (x : Keep a b) (p : Nat → Prop) : KeepBut p a b := ⟨x.next, fun i hi _ => x.get i hi⟩
theorem KeepBut.trans {p : Nat → Prop} {a b c : H} (x : KeepBut p a b) (y : KeepBut p b c) : KeepBut p a c := ⟨Nat.le_trans x.next y.next, fun i hi hp => (y.get i (Nat.lt_of_lt_of_le hi x.next) hp).trans (x.get i hi hp)⟩
theorem KeepBut.mono {p q : Nat → Prop} {a b : H} (x : KeepBut p a b) (hq : ∀ i, i < a.next → p i → q i) : KeepBut q a b := ⟨x.next, fun i hi hn => x.get i hi fun hp => hn (hq i hi hp)⟩
theorem KeepBut.refl (p : Nat → Prop) (h : H) : KeepBut p h h := ⟨Nat.le_refl _, fun _ _ _ => rfl⟩

/-- A slice's rows. -/
def SlIs (h : H) (w : Nat) (rows : List Row) : AV → Prop
  | .nils => rows = []
  | .sl id 0 n => n = rows.length ∧ h.get id = some (.blk w rows)
  | _ => False

/-- The block of a slice. -/
def slB (v : AV) (i : Nat) : Prop := match v with
  | .sl id _ _ => i = id
  | _ => False

theorem SlIs.len {h : H} {w : Nat} {rows : List Row} {v : AV} (x : SlIs h w rows v) : slLen v = some rows.length := by
  cases v with
  | nils => have : rows = [] := x; subst this; rfl
  | sl id i n => cases i with
    | zero => obtain ⟨e, _⟩ := x; subst e; rfl
    | succ _ => exact x.elim
  | _ => exact x.elim

theorem SlIs.rows {h : H} {w : Nat} {rows : List Row} {v : AV} (x : SlIs h w rows v) : slRows h v = some rows := by
  cases v with
  | nils => have : rows = [] := x; subst this; rfl
  | sl id i n => cases i with
    | zero => obtain ⟨e, g⟩ := x; subst e; simp [slRows, H.rows, g]
    | succ _ => exact x.elim
  | _ => exact x.elim

theorem SlIs.keep {h h' : H} {w : Nat} {rows : List Row} {v : AV} (x : SlIs h w rows v) (k : ∀ i, slB v i → h'.get i = h.get i) : SlIs h' w rows v := by
  cases v with
  | nils => exact x
  | sl id i n => cases i with
    | zero => obtain ⟨e, g⟩ := x; exact ⟨e, (k id rfl).trans g⟩
    | succ _ => exact x.elim
  | _ => exact x.elim

theorem SlIs.lt {h : H} {w : Nat} {rows : List Row} {v : AV} (x : SlIs h w rows v) (hl : ∀ i o, h.get i = some o → i < h.next) : ∀ i, slB v i → i < h.next := by
  intro i hi
  cases v with
  | sl id j n => cases j with
    | zero => obtain ⟨_, g⟩ := x; have : i = id := hi; subst this; exact hl _ _ g
    | succ _ => exact x.elim
  | _ => exact hi.elim

/-- append of one row behind a slice: a new block; the old one is gone. -/
theorem SlIs.append {h : H} {te : TI} {rows new : List Row} {v x : AV} (hv : SlIs h te.size rows v) (hx : newRows h x = some new) (hne : new ≠ []) (hw : ∀ r ∈ new, r.length = te.size) (ho : ∀ r ∈ new, r.all oneA = true) (hs : 0 < te.size) (hb : 0 < te.bytes) (hl : (rows.length + new.length) * te.bytes ≤ 2 ^ 40) :
    ∃ h', appA te v x h = some (.sl h.next 0 (rows.length + new.length), h') ∧ h'.next = h.next + 1 ∧ h'.get h.next = some (.blk te.size (rows ++ new)) ∧ ∀ j, j ≠ h.next → ¬ slB v j → h'.get j = h.get j := by
  have hwide : wide te.size new = true := by
    cases new with
    | nil => rfl
    | cons r l => simp only [wide, beq_iff_eq]; exact hw r (by simp)
  have hemp : new.isEmpty = false := by cases new with
    | nil => exact absurd rfl hne
    | cons _ _ => rfl
  have hall : (new.all fun r => r.all oneA) = true := List.all_eq_true.2 fun r hr => ho r hr
  have hcond : (wide te.size new && decide (0 < te.bytes) && decide (0 < te.size) && decide ((rows.length + new.length) * te.bytes ≤ 2 ^ 40)) = true := by simp [hwide, hb, hs, hl]
  cases v with
  | nils =>
    have : rows = [] := hv
    subst this
    refine ⟨h.new (.blk te.size new), ?_, rfl, by simp, fun j hj _ => by rw [H.get_new, if_neg hj]⟩
    unfold appA
    rw [hx, hv.rows]
    simp only [Option.bind_some, hcond, if_true, appendA, hemp, Bool.false_eq_true, if_false]
    simp
  | sl id i n =>
    cases i with
    | succ _ => exact hv.elim
    | zero =>
      obtain ⟨e, g⟩ := hv
      subst e
      have hr : SlIs h te.size rows (.sl id 0 rows.length) := ⟨rfl, g⟩
      refine ⟨(h.del id).new (.blk te.size (rows ++ new)), ?_, rfl, by have := H.get_new_same (h.del id) (.blk te.size (rows ++ new)); simpa using this, fun j hj hn => ?_⟩
      · unfold appA
        rw [hx, hr.rows]
        simp only [Option.bind_some, hcond, if_true, appendA, hemp, Bool.false_eq_true, if_false, hr.rows, H.width, g, hall, and_self, H.next_del]
      · rw [H.get_new, if_neg (by simpa using hj), H.get_del, if_neg (show ¬ j = id from hn)]
  | _ => exact hv.elim

/-- A slice's element. -/
theorem SlIs.row {h : H} {w : Nat} {rows : List Row} {v : AV} (x : SlIs h w rows v) {j : Nat} {r : Row} (hj : rows[j]? = some r) : slRow h v j = some r := by
  have hlt : j < rows.length := (List.getElem?_eq_some_iff.1 hj).1
  cases v with
  | nils => have : rows = [] := x; subst this; simp at hj
  | sl id i n => cases i with
    | zero => obtain ⟨e, g⟩ := x; subst e; simp only [slRow, H.rows, g, Option.bind_some, if_pos hlt, Nat.zero_add]; exact hj
    | succ _ => exact x.elim
  | _ => exact x.elim

/-- It answers, and so. -/
def Ok {α : Type} (x : Option α) (Q : α → Prop) : Prop := ∃ a, x = some a ∧ Q a
theorem Ok.mono {α : Type} {x : Option α} {Q R : α → Prop} (h : Ok x Q) (k : ∀ a, Q a → R a) : Ok x R := let ⟨a, e, q⟩ := h; ⟨a, e, k a q⟩
theorem Ok.of_eq {α : Type} {x y : Option α} {Q : α → Prop} (e : x = y) (h : Ok y Q) : Ok x Q := e ▸ h
theorem Ok.some {α : Type} {a : α} {Q : α → Prop} (h : Q a) : Ok (some a) Q := ⟨a, rfl, h⟩

/-- The loops of code, in order. -/
def loops : Code → List Code
  | .seq a b => loops a ++ loops b
  | .cond _ a b => loops a ++ loops b
  | .block _ a => loops a
  | .loop a => a :: loops a
  | .scope a => loops a
  | .rangeFunc _ _ a b => loops a ++ loops b
  | _ => []
def lp (f : Func) (n : Nat) : Code := match f.body with
  | some c => (loops c).getD n .skip
  | none => .skip
end Go.Ai
