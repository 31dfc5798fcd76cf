import Derived.Test.YtelmlhlkefmjkaaGreatDoorAiB
import Derived.Laws.Append
set_option linter.unusedSimpArgs false
set_option linter.unusedVariables false
/- Operations that compute: each against the model's. -/
namespace Go.Ai
open Go.RowKit

/-- 'sem', in every world, hands back what stands for v, and leaves the world. -/
def Comp (P : Program) (sem : Sem Value) (E : Env) (v : AV) : Prop := ∃ cv, VR E v cv ∧ ∀ w, sem.run P w = .ok cv w

theorem putAt_length : ∀ (cs : List AV) (row : List AV) (k : Nat), (putAt row k cs).length = row.length
  | [], _, _ => rfl
  | c :: cs, row, k => by simp [putAt, putAt_length cs]

/-- putAt, on the model's side. -/
def putV : List Value → Nat → List Value → List Value
  | row, _, [] => row
  | row, k, c :: cs => putV (row.set k c) (k + 1) cs

theorem VRs.putAt {E : Env} : ∀ {cs : List AV} {ccs : List Value}, VRs E cs ccs → ∀ {row : List AV} {crow : List Value}, VRs E row crow → ∀ k, VRs E (putAt row k cs) (putV crow k ccs) := by
  intro cs
  induction cs with
  | nil => intro ccs h; cases h; intro row crow hr k; exact hr
  | cons c cs ih => intro ccs h; rcases h with _ | ⟨h1, h2⟩; intro row crow hr k; exact ih h2 (hr.set h1 k) (k + 1)

theorem fold_putV : ∀ (l : List Value) (j off : Nat) (cs : Array Value), ((l.zipIdx j).foldl (fun (cs : Array Value) (x : Value × Nat) => cs.setIfInBounds (off + x.2) x.1) cs).toList = putV cs.toList (off + j) l := by
  intro l
  induction l with
  | nil => intro j off cs; rfl
  | cons a l ih => intro j off cs; simp only [List.zipIdx_cons, List.foldl_cons, putV]; rw [ih]; simp [Nat.add_assoc]

theorem fill_ok {E : Env} {place : Nat → Option (Nat × Nat)} {cplace : Nat → Option (Nat × Nat)} (hp : ∀ i x, place i = some x → cplace i = some x) :
    ∀ {ps : List (Nat × AV)} {cps : List (Nat × Value)}, ps.length = cps.length → (∀ (j : Nat) i v, ps[j]? = some (i, v) → ∃ cv, cps[j]? = some (i, cv) ∧ VR E v cv) →
    ∀ {cells r : List AV} {ccells : Array Value}, VRs E cells ccells.toList → fillA place cells ps = some r → ∃ cr, Instr.fill cplace ccells cps = some cr ∧ VRs E r cr.toList := by
  intro ps
  induction ps with
  | nil =>
    intro cps hl _ cells r ccells hc h
    cases cps with
    | nil => simp [fillA] at h; subst h; exact ⟨_, rfl, hc⟩
    | cons => simp at hl
  | cons p ps ih =>
    intro cps hl hps cells r ccells hc h
    obtain ⟨i, v⟩ := p
    cases cps with
    | nil => simp at hl
    | cons q cps =>
      obtain ⟨cv, h1, h2⟩ := hps 0 i v (by simp)
      simp at h1; subst h1
      simp only [fillA, Option.bind_eq_some_iff] at h
      obtain ⟨⟨off, size⟩, hpl, h⟩ := h
      split at h
      · rename_i hsz
        have hcl := h2.cells
        have hlen := hcl.length
        have hcc := hc.length
        simp at hlen hcc
        simp only [Instr.fill, hp _ _ hpl]
        have hcond : ¬ (cv.cells.size ≠ size ∨ off + cv.cells.size > ccells.size) := by simp at hsz ⊢; omega
        rw [if_neg (by simpa using hcond)]
        refine ih (by simpa using hl) (fun j i v hj => by simpa using hps (j + 1) i v (by simpa using hj)) ?_ h
        have := fold_putV cv.cells.toList 0 off ccells
        rw [← Array.foldl_toList, Array.toList_zipIdx, this]
        exact hcl.putAt hc off
      · cases h

theorem parts_ok {E : Env} {ρ : List AV} {tmps : Array Value} (hρ : VRs E ρ tmps.toList) : ∀ {l : List (Nat × Operand)} {ps : List (Nat × AV)}, parts ρ l = some ps →
    ps.length = l.length ∧ ∀ (j : Nat) i v, ps[j]? = some (i, v) → ∃ cv, (l.map fun (i, x) => (i, evT tmps x))[j]? = some (i, cv) ∧ VR E v cv := by
  intro l
  induction l with
  | nil => intro ps h; simp [parts] at h; subst h; exact ⟨rfl, fun j i v h => by simp at h⟩
  | cons x l ih =>
    intro ps h
    obtain ⟨i, o⟩ := x
    simp only [parts, List.mapM_cons, Option.bind_eq_bind, Option.pure_def, Option.bind_eq_some_iff, Option.map_eq_some_iff] at h
    obtain ⟨a, ⟨v, hv, rfl⟩, ps', hps, he⟩ := h
    simp at he; subst he
    obtain ⟨h1, h2⟩ := ih (ps := ps') hps
    refine ⟨by simp [h1], fun j i' v' hj => ?_⟩
    cases j with
    | zero => simp at hj; obtain ⟨rfl, rfl⟩ := hj; exact ⟨_, by simp, opd_ok hρ hv⟩
    | succ j => simpa using h2 j i' v' (by simpa using hj)

theorem fieldsOf_get {P : Program} : ∀ {l : List Field} {fs : List (Nat × Nat × Bool)}, fieldsOf P l = some fs → l.length = fs.length ∧ ∀ (j : Nat) x, fs[j]? = some x → ∃ f, l[j]? = some f ∧ fieldOf P f = some x := by
  intro l
  induction l with
  | nil => intro fs h; simp [fieldsOf] at h; subst h; exact ⟨rfl, fun j x h => by simp at h⟩
  | cons f l ih =>
    intro fs h
    simp only [fieldsOf, Option.bind_eq_some_iff, Option.map_eq_some_iff] at h
    obtain ⟨x, hx, fs', hfs, rfl⟩ := h
    obtain ⟨h1, h2⟩ := ih hfs
    refine ⟨by simp [h1], fun j y hj => ?_⟩
    cases j with
    | zero => simp at hj; subst hj; exact ⟨f, by simp, hx⟩
    | succ j => simpa using h2 j y (by simpa using hj)

theorem fieldOf_ok {P : Program} {f : Field} {off size : Nat} {ag : Bool} (h : fieldOf P f = some (off, size, ag)) : ∃ i d, P.info? f.type = some i ∧ P.underlying f.type = some d ∧ f.offset = off ∧ i.size = size ∧ isAggD d = ag := by
  simp only [fieldOf, Option.bind_eq_some_iff, Option.map_eq_some_iff] at h
  obtain ⟨i, hi, d, hd, he⟩ := h
  simp at he
  exact ⟨i, d, hi, hd, he.1, he.2.1, he.2.2⟩

/-- The places of a struct's fields. -/
theorem run_places {P : Program} {fs : Array Field} {l : List (Nat × Nat × Bool)} (h : fieldsOf P fs.toList = some l) (w : World) :
    ∃ pl : Array (Nat × Nat), ((fs.mapM fun (f : Field) => do Pure.pure (f.offset, ← sizeOf f.type)) : Sem (Array (Nat × Nat))).run P w = .ok pl w ∧ pl.toList = l.map fun x => (x.1, x.2.1) := by
  obtain ⟨fs⟩ := fs
  simp only at h
  have key : ∀ (fs : List Field) (l : List (Nat × Nat × Bool)), fieldsOf P fs = some l →
      ((fs.mapM fun (f : Field) => do Pure.pure (f.offset, ← sizeOf f.type)) : Sem (List (Nat × Nat))).run P w = .ok (l.map fun x => (x.1, x.2.1)) w := by
    intro fs
    induction fs with
    | nil => intro l h; simp [fieldsOf] at h; subst h; rfl
    | cons f fs ih =>
      intro l h
      simp only [fieldsOf, Option.bind_eq_some_iff, Option.map_eq_some_iff] at h
      obtain ⟨⟨off, size, ag⟩, hx, l', hl', rfl⟩ := h
      obtain ⟨i, d, hi, hd, ho, hs, _⟩ := fieldOf_ok hx
      simp only [List.mapM_cons, Sem.run_bind, run_sizeOf_of hi, Result.andThen_ok, Sem.run_pure, ih l' hl', List.map_cons, ho, hs]
  refine ⟨(l.map fun x => (x.1, x.2.1)).toArray, ?_, rfl⟩
  rw [List.mapM_toArray]
  simp only [Sem.run_map, key fs l h, Result.andThen_ok]

end Go.Ai

/- Operations on memory. -/
namespace Go.Ai
open Go.RowKit

def ValOk (P : Program) (s : Sem Value) (E : Env) (h : H) (w : World) (v : AV) (h' : H) : Prop :=
  ∃ cv w' E', s.run P w = .ok cv w' ∧ VR E' v cv ∧ HR E' h' w' ∧ Ext E h w E' h' w'

def UnitOk (P : Program) (s : Sem Unit) (E : Env) (h : H) (w : World) (h' : H) : Prop :=
  ∃ w' E', s.run P w = .ok () w' ∧ HR E' h' w' ∧ Ext E h w E' h' w'

def OpOk (P : Program) (s : Sem Next) (E : Env) (h : H) (w : World) (v : AV) (h' : H) : Prop :=
  ∃ nx cv w' E', s.run P w = .ok nx w' ∧ (nx = .value cv ∨ nx = .skip ∧ cv = undef) ∧ VR E' v cv ∧ HR E' h' w' ∧ Ext E h w E' h' w'

theorem ValOk.op {P : Program} {s : Sem Value} {E : Env} {h : H} {w : World} {v : AV} {h' : H} (k : ValOk P s E h w v h') : OpOk P (do Pure.pure (.value (← s))) E h w v h' := by
  obtain ⟨cv, w', E', h1, h2, h3, h4⟩ := k
  exact ⟨.value cv, cv, w', E', by simp only [Sem.run_bind, h1, Result.andThen_ok, Sem.run_pure], .inl rfl, h2, h3, h4⟩

theorem VR.undef (E : Env) : VR E undefA undef := .tup (by simpa using VRs.nil)

theorem UnitOk.op {P : Program} {s : Sem Unit} {E : Env} {h : H} {w : World} {h' : H} (k : UnitOk P s E h w h') : OpOk P (do s; Pure.pure .skip) E h w undefA h' := by
  obtain ⟨w', E', h1, h3, h4⟩ := k
  exact ⟨.skip, Go.undef, w', E', by simp only [Sem.run_bind, h1, Result.andThen_ok, Sem.run_pure], .inr ⟨rfl, rfl⟩, VR.undef _, h3, h4⟩

theorem Comp.val {P : Program} {s : Sem Value} {E : Env} {h : H} {w : World} {v : AV} (k : Comp P s E v) (r : HR E h w) : ValOk P s E h w v h := by
  obtain ⟨cv, h1, h2⟩ := k
  exact ⟨cv, w, E, h2 w, h1, r, Ext.refl _ _ _⟩

theorem alloc_old (w : World) (o : Go.Obj) {b : Nat} (hb : b < w.heap.size) : (w.alloc o).heap[b]? = w.heap[b]? := heap_alloc_old w o b hb

/-- A new row of cells. -/
theorem newBlk {E : Env} {h : H} {w : World} (r : HR E h w) {rows : List Row} {c : Array Value} (e : TypeId) {wd : Nat} (cap : Nat) (hr : RR E c 0 wd rows) (hl : rows.length ≤ cap) (hs : cap * wd ≤ c.size) :
    HR (E.put h.next ⟨w.heap.size, 0, wd, cap⟩) (h.new (.blk wd rows)) (w.alloc (.cells c e)) ∧
    Ext E h w (E.put h.next ⟨w.heap.size, 0, wd, cap⟩) (h.new (.blk wd rows)) (w.alloc (.cells c e)) := by
  refine ⟨r.new _ _ (fun b hb _ => alloc_old w _ hb) (Nat.le_refl _) ?_, Ext.new r _ _ rfl rfl rfl (by simp) (fun b hb => alloc_old w _ hb) (Nat.le_refl _)⟩
  exact ⟨rfl, c, e, 0, 0, heap_alloc_new w _, hr.mono (Env.le_put _ r.fresh), hl, by simpa using hs, fun o _ _ h => by omega⟩

theorem put_same (E : Env) (i : Nat) (x : M) : (E.put i x).m i = some x := by simp [Env.put]

theorem RR_one {E : Env} {c : Array Value} {row : Row} (h : VRs E row c.toList) : RR E c 0 row.length [row] :=
  RR_iff.2 fun i r hi => by
    cases i with
    | zero =>
      simp at hi; subst hi
      refine ⟨rfl, fun j v hj => ?_⟩
      obtain ⟨cv, h1, h2⟩ := h.get hj
      exact ⟨cv, by simpa using h1, h2⟩
    | succ i => simp at hi

theorem box_ok {P : Program} {E : Env} {h : H} {w : World} (r : HR E h w) (t : TypeId) {row : Row} {cv : Value} (hv : VRs E row cv.cells.toList) :
    ValOk P (do Pure.pure (.pointer (some (← newVar t cv)))) E h w (.ptr h.next 0 0) (h.new (.blk row.length [row])) := by
  have hl := hv.length
  simp at hl
  obtain ⟨h1, h2⟩ := newBlk r t 1 (RR_one hv) (by simp) (by omega)
  refine ⟨.pointer (some ⟨w.heap.size, 0, none⟩), _, _, by simp only [newVar, newRow, Sem.run_bind, run_newObj, Result.andThen_ok, Sem.run_pure]; rfl, ?_, h1, h2⟩
  have := VR.ptr (E := E.put h.next ⟨w.heap.size, 0, row.length, 1⟩) (i := 0) (k := 0) (put_same E h.next _)
  simpa using this

theorem alloc_ok {C : Cfg} (hT : TOk C) {E : Env} {h : H} {w : World} (r : HR E h w) {t : TypeId} {ti : TI} (ht : C.T t = some ti) :
    ValOk C.P (Instr.alloc t true (.tuple #[])) E h w (.ptr h.next 0 0) (h.new (.blk ti.zero.length [ti.zero])) := by
  obtain ⟨i, d, z, ty⟩ := hT.ty ht
  have hz : (zeroValue t).run C.P w = .ok z w := by simp [zeroValue, run_typeInfo_of ty.info, ty.zero]
  obtain ⟨cv, w', E', h1, h2⟩ := box_ok (P := C.P) r t (ofVals_ok (E := E) _ _ ty.zeros)
  refine ⟨cv, w', E', ?_, h2⟩
  simp only [Instr.alloc, Sem.run_bind, hz, Result.andThen_ok]
  simpa only [Sem.run_bind] using h1

/-- Loading. -/
theorem load_at {C : Cfg} (hT : TOk C) {E : Env} {h : H} {w : World} (r : HR E h w) {t : TypeId} {ti : TI} (ht : C.T t = some ti) {p v : AV} {cp : Value} (hp : VR E p cp)
    (hv : ldA h ti.agg ti.size p = some v) : ∃ cv, VR E v cv ∧ (Instr.loadAt t cp).run C.P w = .ok cv w ∧ (loadVar t (match cp with | .pointer (some a) => a | _ => default)).run C.P w = .ok cv w := by
  obtain ⟨i, d, z, ty⟩ := hT.ty ht
  simp only [ldA, Option.bind_eq_some_iff] at hv
  obtain ⟨⟨row, k⟩, hrow, hv⟩ := hv
  obtain ⟨b, o, rfl, hcells⟩ := rowOf_sound r hp hrow
  simp only at hv
  cases hag : ti.agg
  · rw [hag] at hv
    simp only [Bool.false_eq_true, if_false] at hv
    obtain ⟨cv, h1, h2⟩ := hcells 0 v (by simpa using hv)
    refine ⟨cv, h2, ?_⟩
    simp only [Addr.add, if_true] at h1
    simp [Instr.loadAt, Instr.sureAddr, loadVar, run_isAgg_of ty.und, ty.agg, hag, h1]
  · rw [hag] at hv
    simp only [if_true] at hv
    split at hv
    · rename_i hle
      simp at hv; subst hv
      obtain ⟨cs, hcs, hc⟩ := list_of_cells (E := E) (w := w) (a := ⟨b, o, none⟩) ((row.drop k).take ti.size) 0 (fun j v hj => by
        have hj' : row[k + j]? = some v := by
          rw [List.getElem?_take] at hj
          split at hj
          · rw [List.getElem?_drop] at hj; exact hj
          · cases hj
        simpa using hcells j v hj')
      have hlen := hcs.length
      have hl : cs.length = ti.size := by rw [← hlen]; simp; omega
      refine ⟨.agg cs.toArray, .agg (by simpa using hcs), ?_⟩
      have hrun := run_loadCells_list (P := C.P) (w := w) (⟨b, o, none⟩ : Addr) cs (fun j v hj => by simpa using hc j v hj)
      rw [hl] at hrun
      simp [Instr.loadAt, Instr.sureAddr, loadVar, run_isAgg_of ty.und, ty.agg, hag, run_sizeOf_of ty.info, ty.size, hrun]
    · cases hv

theorem load_ok {C : Cfg} (hT : TOk C) {E : Env} {h : H} {w : World} (r : HR E h w) {t : TypeId} {ti : TI} (ht : C.T t = some ti) {p v : AV} {cp : Value} (hp : VR E p cp)
    (hv : ldA h ti.agg ti.size p = some v) : ValOk C.P (Instr.loadAt t cp) E h w v h :=
  let ⟨cv, h1, h2, _⟩ := load_at hT r ht hp hv
  ⟨cv, w, E, h2, h1, r, Ext.refl _ _ _⟩

/-! ### Storing -/
def oneV : Value → Bool
  | .agg _ | .tuple _ => false
  | _ => true

def setV (c : Array Value) : Nat → List Value → Array Value
  | _, [] => c
  | o, v :: vs => setV (c.setIfInBounds o v) (o + 1) vs

theorem setV_size : ∀ (vs : List Value) (c : Array Value) (o : Nat), (setV c o vs).size = c.size
  | [], _, _ => rfl
  | v :: vs, c, o => by simp [setV, setV_size vs]

theorem setV_get : ∀ (vs : List Value) (c : Array Value) (o x : Nat), o + vs.length ≤ c.size → (setV c o vs)[x]? = if o ≤ x ∧ x < o + vs.length then vs[x - o]? else c[x]? := by
  intro vs
  induction vs with
  | nil => intro c o x _; simp [setV]; omega
  | cons v vs ih =>
    intro c o x hs
    simp only [setV]
    rw [ih _ _ _ (by simp at hs ⊢; omega)]
    by_cases h1 : o + 1 ≤ x ∧ x < o + 1 + vs.length
    · rw [if_pos h1, if_pos (by simp; omega)]
      rw [show x - o = (x - (o + 1)) + 1 from by omega]; simp
    · rw [if_neg h1]
      by_cases h2 : x = o
      · subst h2
        have hlt : x < c.size := by simp at hs; omega
        rw [if_pos (by simp)]; simp [hlt]
      · rw [if_neg (by simp; omega), Array.getElem?_setIfInBounds_ne (by omega)]

theorem putAt_get : ∀ (vs : List AV) (c : List AV) (o x : Nat), o + vs.length ≤ c.length → (putAt c o vs)[x]? = if o ≤ x ∧ x < o + vs.length then vs[x - o]? else c[x]? := by
  intro vs
  induction vs with
  | nil => intro c o x _; simp [putAt]; omega
  | cons v vs ih =>
    intro c o x hs
    simp only [putAt]
    rw [ih _ _ _ (by simp at hs ⊢; omega)]
    by_cases h1 : o + 1 ≤ x ∧ x < o + 1 + vs.length
    · rw [if_pos h1, if_pos (by simp; omega)]
      rw [show x - o = (x - (o + 1)) + 1 from by omega]; simp
    · rw [if_neg h1]
      by_cases h2 : x = o
      · subst h2
        have hlt : x < c.length := by simp at hs; omega
        rw [if_pos (by simp)]; simp [hlt]
      · rw [if_neg (by simp; omega), List.getElem?_set_ne (by omega)]

theorem run_store_cell {P : Program} {w : World} {b o : Nat} {c : Array Value} {e : TypeId} {lo hi : Nat} (hb : w.heap[b]? = some (.cells c e (lo, hi))) (ho : o < c.size) (hf : ¬ (lo ≤ o ∧ o < hi))
    {v : Value} (hv : oneV v = true) (sp : Option Nat) (hsp : sp = none) : (store ⟨b, o, sp⟩ v).run P w = .ok () (w.setCell ⟨b, o, none⟩ v) := by
  subst hsp
  have hc : w.cell? ⟨b, o, none⟩ = some c[o] := by simp [World.cell?, hb, ho]
  have hfz : w.frozen? ⟨b, o, none⟩ = false := by simp [World.frozen?, hb]; omega
  cases v <;> simp [oneV] at hv <;> simp [store, Sem.run, hc, hfz]

theorem setCell_heap {w : World} {b o : Nat} {c : Array Value} {e : TypeId} {f : Nat × Nat} (hb : w.heap[b]? = some (.cells c e f)) (v : Value) :
    (w.setCell ⟨b, o, none⟩ v).heap[b]? = some (.cells (c.setIfInBounds o v) e f) := by
  simp only [World.setCell, Array.getElem?_modify, hb]
  simp

theorem addr_add (b o i : Nat) : (⟨b, o, none⟩ : Addr).add i = ⟨b, o + i, none⟩ := by
  unfold Addr.add; split
  · rename_i h; subst h; rfl
  · rfl

theorem run_storeCells {P : Program} {b o : Nat} {e : TypeId} {lo hi : Nat} : ∀ (vs : List Value) (i : Nat) (w : World) (c : Array Value), w.heap[b]? = some (.cells c e (lo, hi)) → o + i + vs.length ≤ c.size →
    (∀ x, o ≤ x → x < o + i + vs.length → ¬ (lo ≤ x ∧ x < hi)) → (∀ v ∈ vs, oneV v = true) →
    ∃ w', (storeCells ⟨b, o, none⟩ vs i).run P w = .ok () w' ∧ w'.heap[b]? = some (.cells (setV c (o + i) vs) e (lo, hi)) ∧ (∀ k, k ≠ b → w'.heap[k]? = w.heap[k]?) ∧ w'.heap.size = w.heap.size ∧
      w'.os = w.os ∧ w'.tape = w.tape ∧ w'.output = w.output := by
  intro vs
  induction vs with
  | nil => intro i w c hb _ _ _; exact ⟨w, rfl, hb, fun _ _ => rfl, rfl, rfl, rfl, rfl⟩
  | cons v vs ih =>
    intro i w c hb hs hf hone
    have h1 := run_store_cell (P := P) (o := o + i) hb (by simp at hs; omega) (hf _ (by omega) (by simp)) (hone v (by simp)) none rfl
    obtain ⟨w', h2, h3, h4, h5, h6, h7, h8⟩ := ih (i + 1) (w.setCell ⟨b, o + i, none⟩ v) (c.setIfInBounds (o + i) v) (setCell_heap hb v) (by simp only [List.length_cons, Array.size_setIfInBounds] at hs ⊢; omega)
      (fun x h1 h2 => hf x h1 (by simp only [List.length_cons] at h2 ⊢; omega)) (fun u hu => hone u (by simp [hu]))
    refine ⟨w', ?_, by simpa [setV, Nat.add_assoc] using h3, fun k hk => (h4 k hk).trans (heap_setCell_other w _ k v hk), h5.trans (by simp), h6, h7, h8⟩
    simp only [storeCells, Sem.run_bind, addr_add, h1, Result.andThen_ok]
    exact h2

theorem VR.one {E : Env} {v : AV} {cv : Value} (h : VR E v cv) (ho : oneA v = true) : oneV cv = true := by
  cases h <;> first | rfl | simp [oneA] at ho

/-- A row's cells are written. -/
theorem store_ok {C : Cfg} (hT : TOk C) {E : Env} {h : H} {w : World} (r : HR E h w) {t : TypeId} {ti : TI} (ht : C.T t = some ti) {p x : AV} {cp cx : Value} (hp : VR E p cp) (hx : VR E x cx)
    (hs : x.cells.length = ti.size) {h' : H} (hv : stA h p x.cells = some h') : UnitOk C.P (Instr.storeAt t cp cx) E h w h' := by
  obtain ⟨i, d, z, ty⟩ := hT.ty ht
  cases hp with
  | @ptr id i k y hy =>
    simp only [stA, Option.bind_eq_some_iff] at hv
    obtain ⟨rs, hrs, row, hrow, hv⟩ := hv
    split at hv
    · rename_i hle
      obtain ⟨hle, hone⟩ := hle
      simp at hv; subst hv
      have hget := rows_spec hrs
      obtain ⟨y', hy', h0, c, e, lo, hi, h1, h2, h3, h4, h5⟩ := r.live id _ hget
      rw [hy] at hy'; cases hy'
      have hrr := RR_iff.1 h2
      obtain ⟨hw, hcell⟩ := hrr i row hrow
      have hilt : i < rs.length := by
        rcases Nat.lt_or_ge i rs.length with h | h
        · exact h
        · rw [List.getElem?_eq_none h] at hrow; cases hrow
      have hxc := hx.cells
      have hxl := hxc.length
      have hmul : (i + 1) * y.w ≤ y.cap * y.w := Nat.mul_le_mul_right _ (by omega)
      rw [Nat.succ_mul] at hmul
      have hbound : y.d + i * y.w + k + cx.cells.toList.length ≤ y.d + y.cap * y.w := by omega
      obtain ⟨w', g1, g2, g3, g4, g5, g6, g7⟩ := run_storeCells (P := C.P) (o := y.d + i * y.w + k) cx.cells.toList 0 w c h1 (by omega)
        (fun x hx1 hx2 => h5 x (by omega) (by omega)) (fun v hv => by
          obtain ⟨j, hj, hjv⟩ := List.getElem_of_mem hv
          obtain ⟨cv, hc1, hc2⟩ := hxc.get (j := j) (v := x.cells[j]'(by omega)) (by simp)
          rw [List.getElem?_eq_getElem hj, hjv] at hc1
          cases hc1
          exact hc2.one (by
            have := List.all_eq_true.1 hone (x.cells[j]'(by omega)) (List.getElem_mem _)
            exact this))
      refine ⟨w', E, ?_, r.set hget hy (fun b hb => g3 b hb) ⟨h0, _, e, lo, hi, g2, ?_, by simpa using h3, by rw [setV_size]; exact h4, h5⟩, Ext.set _ hget hy g5 g6 g7 (by omega) (fun b _ hb => g3 b hb)⟩
      · have hsz : ¬ (cx.cells.size ≠ ti.size) := by simp at hxl; omega
        simp only [Instr.storeAt, Instr.sureAddr, storeVar, Sem.run_bind, Sem.run_pure, Result.andThen_ok, run_sizeOf_of ty.info, ty.size, if_neg hsz]
        exact g1
      · refine RR_iff.2 fun i' r' hi' => ?_
        rw [List.getElem?_set] at hi'
        by_cases e1 : i = i'
        · subst e1
          simp [hilt] at hi'; subst hi'
          refine ⟨by rw [putAt_length]; exact hw, fun j v hj => ?_⟩
          rw [putAt_get _ _ _ _ hle] at hj
          rw [setV_get _ _ _ _ (by omega)]
          by_cases e2 : k ≤ j ∧ j < k + x.cells.length
          · rw [if_pos e2] at hj
            obtain ⟨cv, hc1, hc2⟩ := hxc.get hj
            rw [if_pos (by omega)]
            exact ⟨cv, by rw [← hc1]; congr 1; omega, hc2⟩
          · rw [if_neg e2] at hj
            obtain ⟨cv, hc1, hc2⟩ := hcell j v hj
            rw [if_neg (by omega)]
            exact ⟨cv, hc1, hc2⟩
        · rw [if_neg e1] at hi'
          obtain ⟨hw', hcell'⟩ := hrr i' r' hi'
          refine ⟨hw', fun j v hj => ?_⟩
          obtain ⟨cv, hc1, hc2⟩ := hcell' j v hj
          have hjlt : j < y.w := by
            rcases Nat.lt_or_ge j r'.length with h | h
            · omega
            · rw [List.getElem?_eq_none h] at hj; cases hj
          rw [setV_get _ _ _ _ (by omega), if_neg (by
            rcases Nat.lt_or_ge i i' with h | h
            · have := Nat.mul_le_mul_right y.w (show i + 1 ≤ i' by omega); rw [Nat.succ_mul] at this; omega
            · have := Nat.mul_le_mul_right y.w (show i' + 1 ≤ i by omega); rw [Nat.succ_mul] at this; omega)]
          exact ⟨cv, hc1, hc2⟩
    · cases hv
  | _ => simp [stA] at hv

end Go.Ai

/- Slices: what they hold; append. -/
namespace Go.Ai
open Go.RowKit

theorem RR.flat {E : Env} {c : Array Value} {w : Nat} : ∀ {rs : List Row} {p : Nat}, RR E c p w rs → rs.flatten.length = rs.length * w ∧ ∀ j v, rs.flatten[j]? = some v → ∃ cv, c[p + j]? = some cv ∧ VR E v cv := by
  intro rs
  induction rs with
  | nil => intro p _; exact ⟨by simp, fun j v h => by simp at h⟩
  | cons r rs ih =>
    intro p h
    rcases h with _ | ⟨hw, hc, hl⟩
    obtain ⟨h1, h2⟩ := ih hl
    refine ⟨by simp only [List.flatten_cons, List.length_append, h1, hw, List.length_cons, Nat.succ_mul]; omega, fun j v hj => ?_⟩
    rw [List.flatten_cons, List.getElem?_append] at hj
    split at hj
    · exact CR_iff.1 hc j v hj
    · obtain ⟨cv, h3, h4⟩ := h2 _ v hj
      exact ⟨cv, by rw [← h3]; congr 1; omega, h4⟩

theorem RR_of_flat {E : Env} {c : Array Value} {size : Nat} : ∀ {rs : List Row} {cs : List Value} {p : Nat}, (∀ r ∈ rs, r.length = size) → VRs E rs.flatten cs → (∀ j v, cs[j]? = some v → c[p + j]? = some v) → RR E c p size rs := by
  intro rs
  induction rs with
  | nil => intro cs p _ _ _; exact .nil
  | cons r rs ih =>
    intro cs p hl h hc
    have hr := hl r (by simp)
    rw [List.flatten_cons] at h
    have h1 := h.take r.length
    have h2 := h.drop r.length
    rw [List.take_left] at h1
    rw [List.drop_left] at h2
    refine .cons hr (CR_iff.2 fun j v hj => ?_) (ih (fun r' hr' => hl r' (by simp [hr'])) h2 fun j v hj => ?_)
    · obtain ⟨cv, h3, h4⟩ := h1.get hj
      refine ⟨cv, hc j cv ?_, h4⟩
      rw [List.getElem?_take] at h3
      split at h3
      · exact h3
      · cases h3
    · rw [List.getElem?_drop] at hj
      have := hc _ _ hj
      rw [← this]; congr 1; omega

theorem RR.all {E : Env} {c : Array Value} {p w : Nat} {rs : List Row} (h : RR E c p w rs) : ∀ r ∈ rs, r.length = w := by
  intro r hr
  obtain ⟨i, hi, e⟩ := List.getElem_of_mem hr
  exact (RR_iff.1 h i r (by rw [List.getElem?_eq_getElem hi, e])).1

theorem RR.wide {E : Env} {c : Array Value} {p w size : Nat} {rs : List Row} (h : RR E c p w rs) (hw : wide size rs = true) : rs = [] ∨ w = size := by
  cases rs with
  | nil => exact .inl rfl
  | cons r rs =>
    right
    rcases h with _ | ⟨hr, _, _⟩
    simp [Ai.wide] at hw
    omega

theorem RR.sub {E : Env} {c : Array Value} {p w : Nat} {rs : List Row} (h : RR E c p w rs) (i n : Nat) : RR E c (p + i * w) w ((rs.drop i).take n) :=
  RR_iff.2 fun j r hj => by
    rw [List.getElem?_take] at hj
    split at hj
    · rw [List.getElem?_drop] at hj
      obtain ⟨h1, h2⟩ := RR_iff.1 h _ r hj
      refine ⟨h1, fun k v hk => ?_⟩
      obtain ⟨cv, h3, h4⟩ := h2 k v hk
      exact ⟨cv, by rw [← h3]; congr 1; rw [Nat.add_mul]; omega, h4⟩
    · cases hj

theorem list_of_arr {E : Env} {c : Array Value} : ∀ (l : List AV) (p : Nat), (∀ j v, l[j]? = some v → ∃ cv, c[p + j]? = some cv ∧ VR E v cv) →
    ∃ cs : List Value, VRs E l cs ∧ ∀ j cv, cs[j]? = some cv → c[p + j]? = some cv := by
  intro l
  induction l with
  | nil => exact fun p _ => ⟨[], .nil, fun j cv h => by simp at h⟩
  | cons v l ih =>
    intro p h
    obtain ⟨cv, h1, h2⟩ := h 0 v (by simp)
    obtain ⟨cs, h3, h4⟩ := ih (p + 1) (fun j v hj => by
      obtain ⟨cv, h5, h6⟩ := h (j + 1) v (by simpa using hj)
      exact ⟨cv, by rw [← h5]; congr 1; omega, h6⟩)
    refine ⟨cv :: cs, .cons h2 h3, fun j cv' hj => ?_⟩
    cases j with
    | zero => simp at hj; subst hj; exact h1
    | succ j => simp at hj; rw [← h4 j cv' hj]; congr 1; omega

theorem run_loadCells_RR {P : Program} {E : Env} {p wd : Nat} {c : Array Value} {rs : List Row} (h : RR E c p wd rs) :
    ∃ cs : List Value, cs.length = rs.length * wd ∧ VRs E rs.flatten cs ∧ ∀ (w : World) (b : Nat) (e : TypeId) (f : Nat × Nat), w.heap[b]? = some (.cells c e f) →
      (loadCells ⟨b, p, none⟩ (rs.length * wd)).run P w = .ok cs.toArray w := by
  obtain ⟨h1, h2⟩ := h.flat
  obtain ⟨cs, h3, h4⟩ := list_of_arr (E := E) (c := c) rs.flatten p h2
  have hl := h3.length
  refine ⟨cs, by omega, h3, fun w b e f hb => ?_⟩
  have := run_loadCells_list (P := P) (w := w) (⟨b, p, none⟩ : Addr) cs (fun j v hj => by rw [cell_add hb]; exact h4 j v hj)
  rwa [← hl, h1] at this

/-- What a slice holds. -/
theorem sl_cells {P : Program} {E : Env} {h : H} {w : World} (r : HR E h w) {x : AV} {cx : Value} (hx : VR E x cx) {rs : List Row} (hrs : slRows h x = some rs) :
    ∃ base n c, cx = .slice base n c ∧ n = rs.length ∧ ∀ size, wide size rs = true → (∀ r ∈ rs, r.length = size) ∧
      ∃ cs : List Value, cs.length = n * size ∧ VRs E rs.flatten cs ∧ ∀ w', w'.heap = w.heap → (Builtin.firstCells size n cx).run P w' = .ok cs.toArray w' := by
  have none0 : ∀ (base : Option Addr) (c : Nat), ∃ (b : Option Addr) (n c' : Nat), Value.slice base 0 c = Value.slice b n c' ∧ n = ([] : List Row).length ∧ ∀ size, wide size ([] : List Row) = true →
      (∀ r ∈ ([] : List Row), r.length = size) ∧ ∃ cs : List Value, cs.length = n * size ∧ VRs E ([] : List Row).flatten cs ∧ ∀ w' : World, w'.heap = w.heap → (Builtin.firstCells size n (.slice base 0 c)).run P w' = .ok cs.toArray w' := fun base c =>
    ⟨base, 0, c, rfl, rfl, fun size _ => ⟨fun r hr => (by cases hr), [], by simp, .nil, fun w' _ => by cases base <;> simp [Builtin.firstCells, loadCells, loadCellsFrom]⟩⟩
  cases hx with
  | @sl id i n c x hid hn hc =>
    simp only [slRows, Option.bind_eq_some_iff] at hrs
    obtain ⟨all, hall, hrs⟩ := hrs
    split at hrs
    · rename_i hle
      simp at hrs; subst hrs
      obtain ⟨x', hx', h0, cc, e, lo, hi, h1, h2, _⟩ := r.live id _ (rows_spec hall)
      rw [hid] at hx'; cases hx'
      have hlen : ((all.drop i).take n).length = n := by simp; omega
      refine ⟨_, n, c, rfl, hlen.symm, fun size hw => ?_⟩
      have hsub := h2.sub i n
      rcases hsub.wide hw with he | rfl
      · have hn0 : n = 0 := by rw [he] at hlen; simpa using hlen.symm
        subst hn0
        exact ⟨fun r hr => (by rw [he] at hr; cases hr), [], by simp, by rw [he]; exact .nil, fun w' _ => by simp [Builtin.firstCells, loadCells, loadCellsFrom]⟩
      · refine ⟨hsub.all, ?_⟩
        obtain ⟨cs, g1, g2, g3⟩ := run_loadCells_RR (P := P) hsub
        rw [hlen] at g1 g3
        exact ⟨cs, g1, g2, fun w' hw' => by simpa [Builtin.firstCells] using g3 w' _ e (lo, hi) (by rw [hw']; exact h1)⟩
    · cases hrs
  | sl0 hid =>
    simp only [slRows, Option.bind_eq_some_iff] at hrs
    obtain ⟨all, hall, hrs⟩ := hrs
    split at hrs
    · simp at hrs; subst hrs; exact none0 _ _
    · cases hrs
  | @imm rows n cp b d wd c e f hq hr hn hcp =>
    simp [slRows] at hrs; subst hrs
    refine ⟨_, n, cp, rfl, hn.symm, fun size hw => ?_⟩
    rcases hr.wide hw with he | rfl
    · subst he
      simp at hn; subst hn
      exact ⟨fun r hr => (by cases hr), [], by simp, .nil, fun w' _ => by simp [Builtin.firstCells, loadCells, loadCellsFrom]⟩
    · refine ⟨hr.all, ?_⟩
      obtain ⟨cs, g1, g2, g3⟩ := run_loadCells_RR (P := P) hr
      rw [hn] at g1 g3
      exact ⟨cs, g1, g2, fun w' hw' => by simpa [Builtin.firstCells] using g3 w' _ e f (by rw [hw']; exact r.imm _ _ hq)⟩
  | imm0 => simp [slRows] at hrs; subst hrs; exact none0 _ _
  | nils => simp [slRows] at hrs; subst hrs; exact none0 _ _
  | zs => simp [slRows] at hrs; subst hrs; exact none0 _ _
  | _ => simp [slRows] at hrs

theorem bytesRows_flat (s : ByteArray) : (bytesRows s).flatten = s.data.toList.map fun b => AV.int .u8 b.toNat := by
  unfold bytesRows
  induction s.data.toList with
  | nil => rfl
  | cons a l ih => simp [ih]

theorem new_cells {P : Program} {E : Env} {h : H} {w : World} (r : HR E h w) {x : AV} {cx : Value} (hx : VR E x cx) {rs : List Row} (hrs : newRows h x = some rs) (size : Nat) (hw : wide size rs = true) :
    (∀ w', (Builtin.lenOf cx).run P w' = .ok rs.length w') ∧ (∀ r ∈ rs, r.length = size) ∧
      ∃ cs : List Value, cs.length = rs.length * size ∧ VRs E rs.flatten cs ∧ ∀ w', w'.heap = w.heap → (Builtin.firstCells size rs.length cx).run P w' = .ok cs.toArray w' := by
  by_cases hstr : isStr x = true
  · cases hx <;> simp [isStr] at hstr
    rename_i s
    simp [newRows] at hrs; subst hrs
    have hl : (bytesRows s).length = s.size := by simp [bytesRows]
    have hall : ∀ r ∈ bytesRows s, r.length = size := by
      intro r hr
      cases hs : bytesRows s with
      | nil => rw [hs] at hr; cases hr
      | cons a l =>
        have h1 : ∀ r ∈ bytesRows s, r.length = 1 := by intro r hr; simp [bytesRows] at hr; obtain ⟨b, _, rfl⟩ := hr; rfl
        rw [hs] at hw
        simp [wide] at hw
        have := h1 a (by rw [hs]; simp)
        rw [h1 r hr]; omega
    refine ⟨fun w' => by rw [hl]; rfl, hall, s.data.toList.map (fun b => .int .u8 b.toNat), ?_, ?_, fun w' _ => ?_⟩
    · rw [List.length_map]
      have h0 : (bytesRows s).length = s.data.toList.length := by simp [bytesRows]
      rw [h0]
      cases hs : bytesRows s with
      | nil => rw [hs] at h0; rw [← h0]; simp
      | cons a l =>
        have h1 : a.length = 1 := by
          have : a ∈ bytesRows s := by rw [hs]; simp
          simp only [bytesRows, List.mem_map] at this; obtain ⟨b, _, rfl⟩ := this; rfl
        have h2 := hall a (by rw [hs]; simp)
        rw [← h2, h1]; omega
    · rw [bytesRows_flat]
      induction s.data.toList with
      | nil => exact .nil
      | cons a l ih => exact .cons (.int _ _) ih
    · have : s.extract 0 s.size = s := by
        apply ByteArray.ext
        rw [ByteArray.data_extract]
        exact Array.extract_size
      rw [hl]
      simp only [Builtin.firstCells, this, Sem.run_pure]
      congr 1
      apply Array.toList_inj.1
      simp
  · have hrs' : slRows h x = some rs := by cases x <;> first | exact hrs | (simp [isStr] at hstr; done)
    obtain ⟨base, n, c, rfl, rfl, hc⟩ := sl_cells (P := P) r hx hrs'
    obtain ⟨h1, h2⟩ := hc size hw
    exact ⟨fun w' => rfl, h1, h2⟩

theorem VRs.all_one {E : Env} {l : List AV} {cl : List Value} (h : VRs E l cl) (ho : ∀ v ∈ l, oneA v = true) : ∀ v ∈ cl, oneV v = true := by
  intro v hv
  obtain ⟨j, hj, rfl⟩ := List.getElem_of_mem hv
  obtain ⟨cv, h1, h2⟩ := h.get (j := j) (v := l[j]'(by rw [h.length]; exact hj)) (by simp)
  rw [List.getElem?_eq_getElem hj] at h1
  cases h1
  exact h2.one (ho _ (List.getElem_mem _))

theorem zeroCells_size (z : Array Value) (n : Nat) : (Builtin.zeroCells z n).size = n * z.size := by simp [Builtin.zeroCells]

/-- The part of append behind its checks. -/
theorem append_ok {C : Cfg} (hT : TOk C) {E : Env} {h : H} {w : World} (r : HR E h w) {argTypes : Array TypeId} {type t e tx : TypeId} {ti te tix : TI} (h0 : argTypes[0]? = some t) (h1 : argTypes[1]? = some tx)
    (ht : C.T t = some ti) (hd : ti.d = .slice e) (he : C.T e = some te) (hx1 : C.T tx = some tix) (hx2 : isIntD tix.d = false)
    {s x : AV} {cs cx : Value} (hs : VR E s cs) (hx : VR E x cx) {new old : List Row} (hnew : newRows h x = some new) (hold : slRows h s = some old)
    (hw : wide te.size new = true) (hb : 0 < te.bytes) (hsz : 0 < te.size) (hbound : (old.length + new.length) * te.bytes ≤ 2 ^ 40) {v : AV} {h' : H} (hv : appendA h te.size s new = some (v, h')) :
    ValOk C.P (Builtin.append_ argTypes type #[cs, cx]) E h w v h' := by
  obtain ⟨i, d, z, ty⟩ := hT.ty ht
  obtain ⟨ie, de, ze, tye⟩ := hT.ty he
  obtain ⟨ix, dx, zx, tyx⟩ := hT.ty hx1
  have hde : d = .slice e := by have := ty.desc; rw [hd] at this; exact this
  have hdx : ∀ k, dx ≠ .int k := by
    intro k hk
    have := tyx.desc
    cases hq : tix.d <;> rw [hq] at this hx2 <;> simp [descOk, isIntD] at this hx2 <;> simp_all
  obtain ⟨hlen, hall, cn, hcn1, hcn2, hcn3⟩ := new_cells (P := C.P) r hx hnew te.size hw
  obtain ⟨base, n, c, rfl, hn, hcells⟩ := sl_cells (P := C.P) r hs hold
  have hzero : ∀ w', (zeroValue e).run C.P w' = .ok ze w' := fun w' => by simp [zeroValue, run_typeInfo_of tye.info, tye.zero]
  subst hde
  have hm : ∀ (α : Type) (a b : α), (match dx with | .int _ => a | _ => b) = b := fun α a b => by
    cases dx <;> first | rfl | exact absurd rfl (hdx _)
  have hnew0 : new.length = 0 → cn = [] := fun e0 => List.eq_nil_of_length_eq_zero (by rw [hcn1, e0]; simp)
  by_cases hfit : n + new.length ≤ c
  · -- there is room
    have hrun : (Builtin.append_ argTypes type #[.slice base n c, cx]).run C.P w =
        (match base with
          | some a => (storeCells (a.add (n * te.size)) cn).run C.P w
          | none => .ok () w).andThen fun _ w' => .ok (.slice base (n + new.length) c) w' := by
      unfold Builtin.append_
      simp only [h0, h1, List.getElem?_toArray, List.getElem?_cons_zero, List.getElem?_cons_succ, Sem.run_bind, run_underlying_of ty.und, Result.andThen_ok, run_sizeOf_of tye.info, run_underlying_of tyx.und, Sem.run_pure, Bool.false_eq_true, if_false, hlen w, if_pos hfit, Bool.not_false, if_true, tye.size, hcn3 w rfl]
      cases base <;> simp
    rw [ValOk, hrun]
    cases hs with
    | @sl id i n c x hid hn' hc' =>
      simp only [appendA] at hv
      split at hv
      · rename_i hem
        simp at hv; obtain ⟨rfl, rfl⟩ := hv
        have hnil : new = [] := by simpa using hem
        have hcn := hnew0 (by rw [hnil]; rfl)
        subst hcn
        refine ⟨_, w, E, by simp [storeCells]; rfl, ?_, r, Ext.refl _ _ _⟩
        rw [hnil]
        exact VR.sl hid hn' hc'
      · simp only [Option.bind_eq_some_iff] at hv
        obtain ⟨old', hold', hv⟩ := hv
        rw [hold] at hold'; cases hold'
        split at hv
        · rename_i hcond
          obtain ⟨hwid, hone⟩ := hcond
          simp at hv
          obtain ⟨rfl, rfl⟩ := hv
          simp only [slRows, Option.bind_eq_some_iff] at hold
          obtain ⟨all, hall', hold⟩ := hold
          split at hold
          · rename_i hle
            simp at hold; subst hold
            have hget := rows_spec hall'
            obtain ⟨x', hx', g0, cc, ee, lo, hi, g1, g2, g3, g4, g5⟩ := r.live id _ hget
            rw [hid] at hx'; cases hx'
            rw [hwid] at g0
            obtain ⟨xb, xd, xw, xc⟩ := x
            simp only at g0 g1 g2 g3 g4 g5 hc'
            subst g0
            have hcap : (i + c) * te.size ≤ xc * te.size := Nat.mul_le_mul_right _ hc'
            have hfit' : (n + new.length) * te.size ≤ c * te.size := Nat.mul_le_mul_right _ hfit
            rw [Nat.add_mul] at hcap hfit'
            have hcl : cn.length = new.length * te.size := hcn1
            obtain ⟨w', s1, s2, s3, s4, s5, s6, s7⟩ := run_storeCells (P := C.P) (b := xb) (o := xd + i * te.size + n * te.size) cn 0 w cc g1 (by omega)
              (fun y hy1 hy2 => g5 y (by omega) (by omega)) (hcn2.all_one (fun v hv => by
                obtain ⟨rw', hr1, hr2⟩ := List.mem_flatten.1 hv
                exact List.all_eq_true.1 (List.all_eq_true.1 hone rw' hr1) v hr2))
            have hdel := r.del id
            have hfresh : (E.m h.next) = none := r.fresh
            have hblk : xb < w.heap.size := heap_lt g1
            refine ⟨.slice (some ⟨xb, xd + i * te.size, none⟩) (n + new.length) c, w', E.put h.next ⟨xb, xd + i * te.size, te.size, xc - i⟩, ?_, ?_, ?_, ?_⟩
            · simp only [addr_add]; rw [s1]; rfl
            · have := VR.sl (E := E.put h.next ⟨xb, xd + i * te.size, te.size, xc - i⟩) (i := 0) (n := n + new.length) (c := c) (put_same E h.next _) hfit (by simp; omega)
              simpa using this
            · refine r.move hget hid rfl s3 ⟨rfl, _, ee, lo, hi, s2, ?_, by simp; omega, ?_, fun y hy1 hy2 => ?_⟩
              · have hrows := g2.sub i n
                show RR _ _ (xd + i * te.size) te.size _
                refine RR_iff.2 fun j rw' hj => ?_
                rw [List.getElem?_append] at hj
                have hlold : ((all.drop i).take n).length = n := by simp; omega
                have hnl : ((all.drop i).take n ++ new).length = n + new.length := by simp; omega
                split at hj
                · rename_i hjn
                  obtain ⟨k1, k2⟩ := RR_iff.1 hrows j rw' hj
                  refine ⟨k1, fun k v hk => ?_⟩
                  obtain ⟨cv, k3, k4⟩ := k2 k v hk
                  have hkl : k < te.size := by
                    rcases Nat.lt_or_ge k rw'.length with h | h
                    · omega
                    · rw [List.getElem?_eq_none h] at hk; cases hk
                  have hjm := Nat.mul_le_mul_right te.size (show j + 1 ≤ n by omega)
                  rw [Nat.succ_mul] at hjm
                  refine ⟨cv, ?_, k4.mono (Env.le_put _ hfresh)⟩
                  rw [setV_get _ _ _ _ (by omega), if_neg (by omega)]
                  exact k3
                · rename_i hjn
                  rw [hlold] at hj hjn
                  have hrr := RR_of_flat (E := E) (c := cn.toArray) (p := 0) hall hcn2 (fun j v h => by simpa using h)
                  obtain ⟨k1, k2⟩ := RR_iff.1 hrr _ rw' hj
                  refine ⟨k1, fun k v hk => ?_⟩
                  obtain ⟨cv, k3, k4⟩ := k2 k v hk
                  refine ⟨cv, ?_, k4.mono (Env.le_put _ hfresh)⟩
                  have hlt : 0 + (j - n) * te.size + k < cn.length := by
                    rcases Nat.lt_or_ge (0 + (j - n) * te.size + k) cn.length with h | h
                    · exact h
                    · rw [Array.getElem?_eq_none (by simpa using h)] at k3; cases k3
                  have hje : j * te.size = n * te.size + (j - n) * te.size := by rw [← Nat.add_mul]; congr 1; omega
                  rw [setV_get _ _ _ _ (by omega), if_pos (by omega)]
                  rw [← k3]
                  simp only [List.getElem?_toArray]
                  congr 1; omega
              · show xd + i * te.size + (xc - i) * te.size ≤ (setV cc _ cn).size
                rw [setV_size, Nat.sub_mul]; omega
              · exact g5 y (by simp only [] at hy1; omega) (by simp only [] at hy2; rw [Nat.sub_mul] at hy2; omega)
            · exact Ext.move r _ hget hid rfl s5 s6 s7 (by omega) s3
          · cases hold
        · cases hv
    | sl0 hid =>
      have hm0 : new = [] := List.eq_nil_of_length_eq_zero (by omega)
      subst hm0
      simp [appendA] at hv; obtain ⟨rfl, rfl⟩ := hv
      have hcn := hnew0 rfl
      subst hcn
      rename_i b o _
      exact ⟨.slice (some ⟨b, o, none⟩) 0 0, w, E, by simp [storeCells], VR.sl0 hid, r, Ext.refl _ _ _⟩
    | nils =>
      have hm0 : new = [] := List.eq_nil_of_length_eq_zero (by omega)
      subst hm0
      simp [appendA] at hv; obtain ⟨rfl, rfl⟩ := hv
      exact ⟨.slice none 0 0, w, E, by simp, .nils, r, Ext.refl _ _ _⟩
    | zs =>
      have hm0 : new = [] := List.eq_nil_of_length_eq_zero (by omega)
      subst hm0
      simp [appendA] at hv; obtain ⟨rfl, rfl⟩ := hv
      have hcn := hnew0 rfl
      subst hcn
      refine ⟨.slice base 0 0, w, E, ?_, .zs, r, Ext.refl _ _ _⟩
      cases base <;> simp [storeCells]
    | imm => simp [appendA] at hv
    | imm0 => simp [appendA] at hv
  · -- there is not
    have hne : new.isEmpty = false := by
      cases hq : new with
      | nil =>
        exfalso; subst hq
        cases hs with
        | sl hid hn' hc' => exact hfit (by simpa using hn')
        | sl0 => exact hfit (by simp)
        | nils => exact hfit (by simp)
        | zs => exact hfit (by simp)
        | imm => simp [appendA] at hv
        | imm0 => simp [appendA] at hv
      | cons => rfl
    -- what becomes of the heap: the old block goes, if there is one
    have hkey : ∃ h1 : H, HR E h1 w ∧ Ext E h w E h1 w ∧ v = .sl h1.next 0 (n + new.length) ∧ h' = h1.new (.blk te.size (old ++ new)) ∧ wide te.size old = true := by
      cases hs with
      | @sl id i n c x hid hn' hc' =>
        simp only [appendA, hne, Bool.false_eq_true, if_false, Option.bind_eq_some_iff] at hv
        obtain ⟨old', hold', hv⟩ := hv
        rw [hold] at hold'; cases hold'
        split at hv
        · rename_i hcond
          simp at hv
          obtain ⟨rfl, rfl⟩ := hv
          refine ⟨h.del id, r.del id, Ext.del _ _ _ _, rfl, rfl, ?_⟩
          simp only [slRows, Option.bind_eq_some_iff] at hold
          obtain ⟨all, hall', hold⟩ := hold
          split at hold
          · simp at hold; subst hold
            obtain ⟨x', hx', g0, cc, ee, lo, hi, g1, g2, _⟩ := r.live id _ (rows_spec hall')
            rw [hid] at hx'; cases hx'
            have hsub := (g2.sub i n).all
            cases hq : (all.drop i).take n with
            | nil => rfl
            | cons a l => have := hsub a (by rw [hq]; simp); simp [wide]; omega
          · cases hold
        · cases hv
      | @sl0 id i b o x hid =>
        simp only [appendA, hne, Bool.false_eq_true, if_false, Option.bind_eq_some_iff] at hv
        obtain ⟨old', hold', hv⟩ := hv
        rw [hold] at hold'; cases hold'
        split at hv
        · simp at hv
          obtain ⟨rfl, rfl⟩ := hv
          refine ⟨h.del id, r.del id, Ext.del _ _ _ _, by simp, rfl, ?_⟩
          rw [List.eq_nil_of_length_eq_zero hn.symm]; rfl
        · cases hv
      | nils =>
        simp [slRows] at hold; subst hold
        simp [appendA, hne] at hv
        obtain ⟨rfl, rfl⟩ := hv
        exact ⟨h, r, Ext.refl _ _ _, by simp, by simp, rfl⟩
      | zs =>
        simp [slRows] at hold; subst hold
        simp [appendA, hne] at hv
        obtain ⟨rfl, rfl⟩ := hv
        exact ⟨h, r, Ext.refl _ _ _, by simp, by simp, rfl⟩
      | imm => simp [appendA] at hv
      | imm0 => simp [appendA] at hv
    obtain ⟨h1', r1, x1, rfl, rfl, hwold⟩ := hkey
    obtain ⟨hallo, co, hco1, hco2, hco3⟩ := hcells te.size hwold
    have hn63 : n + new.length ≤ 2 ^ 40 := by
      have : (n + new.length) * 1 ≤ (n + new.length) * te.bytes := Nat.mul_le_mul_left _ hb
      rw [hn] at this ⊢; omega
    have hns : ¬ (Builtin.nextslicecap (n + new.length) c * te.bytes > 2 ^ 48) := by
      have h1 := nextslicecap_le (need := n + new.length) (old := c) (by omega)
      have h2 : Builtin.nextslicecap (n + new.length) c * te.bytes ≤ 2 * (n + new.length) * te.bytes := Nat.mul_le_mul_right _ h1
      rw [hn] at h2 ⊢
      rw [Nat.mul_assoc] at h2
      omega
    have hb0 : (te.bytes = 0) = False := by simp; omega
    have hforced : ∀ a b, Question.forced (.appendCap a b e) = false := fun _ _ => rfl
    generalize hK : (Question.appendCap (n + new.length) c e).cut (w.tape w.drawn (.appendCap (n + new.length) c e)) = K
    have hKn : n + new.length ≤ K := by rw [← hK]; simp [Question.cut]
    have hrun : (Builtin.append_ argTypes type #[.slice base n c, cx]).run C.P w =
        .ok (.slice (some ⟨w.heap.size, 0, none⟩) (n + new.length) K) ({ w with drawn := w.drawn + 1 }.alloc (.cells (co.toArray ++ cn.toArray ++ Builtin.zeroCells ze.cells (K - (n + new.length))) e)) := by
      unfold Builtin.append_
      have hz' : ∀ w', (zeroValue e).run C.P w' = .ok ze w' := hzero
      simp only [h0, h1, List.getElem?_toArray, List.getElem?_cons_zero, List.getElem?_cons_succ, Sem.run_bind, run_underlying_of ty.und, Result.andThen_ok, run_sizeOf_of tye.info, run_underlying_of tyx.und, Sem.run_pure, Bool.false_eq_true, if_false, hlen w, if_neg hfit, Bool.not_false, if_true, tye.size,
        run_typeInfo_of tye.info, hb0, false_or, and_false, tye.bytes, hns, run_choose, hforced, hK, run_askRoom]
      rw [hco3 { w with drawn := w.drawn + 1 } rfl]
      simp only [Result.andThen_ok, Sem.run_bind]
      rw [hcn3 { w with drawn := w.drawn + 1 } rfl]
      simp only [Result.andThen_ok, Sem.run_bind, hz', newRow, run_newObj, Sem.run_pure]
      rfl
    have hw1 : ({ w with drawn := w.drawn + 1 } : World).heap = w.heap := rfl
    have r2 := r1.world (w' := { w with drawn := w.drawn + 1 }) rfl
    have x2 : Ext E h1' w E h1' { w with drawn := w.drawn + 1 } := Ext.world rfl rfl rfl rfl
    have hzs : ze.cells.size = te.size := by
      have := (ofVals_ok (E := E) _ _ tye.zeros).length
      simp at this; rw [← this]; exact tye.zlen
    have hrows : ∀ r ∈ old ++ new, r.length = te.size := fun r hr => (List.mem_append.1 hr).elim (hallo r) (hall r)
    obtain ⟨g1, g2⟩ := newBlk r2 e K (rows := old ++ new) (c := co.toArray ++ cn.toArray ++ Builtin.zeroCells ze.cells (K - (n + new.length))) (wd := te.size)
      (RR_of_flat hrows (by rw [List.flatten_append]; exact hco2.append hcn2) (fun j v hj => by
        have hlt : j < (co ++ cn).length := by
          rcases Nat.lt_or_ge j (co ++ cn).length with h | h
          · exact h
          · rw [List.getElem?_eq_none h] at hj; cases hj
        rw [Nat.zero_add, Array.getElem?_append_left (by simpa using hlt)]
        rw [← hj]; simp)) (by simp; omega) (by
          simp only [Array.size_append, zeroCells_size, hzs, List.size_toArray, hco1, hcn1]
          rw [← Nat.add_mul, ← Nat.add_mul]
          exact Nat.mul_le_mul_right _ (by omega))
    refine ⟨_, _, _, hrun, ?_, g1, (x1.trans x2).trans g2⟩
    have := VR.sl (E := E.put h1'.next ⟨w.heap.size, 0, te.size, K⟩) (i := 0) (n := n + new.length) (c := K) (put_same E h1'.next _) hKn (by simp)
    simpa using this

end Go.Ai

/- The other operations, one by one. -/
namespace Go.Ai
open Go.RowKit

theorem Comp.of_pure {P : Program} {E : Env} {v : AV} {cv : Value} (h : VR E v cv) : Comp P (Pure.pure cv) E v := ⟨cv, h, fun _ => rfl⟩

theorem fieldAddr_ok {C : Cfg} (hT : TOk C) {E : Env} {t : TypeId} {ti : TI} (ht : C.T t = some ti) {fs : List (Nat × Nat × Bool)} (hd : ti.d = .struct fs) {f off size : Nat} {ag : Bool}
    (hf : fs[f]? = some (off, size, ag)) (hs : size ≠ 0) {x v : AV} {cx : Value} (hx : VR E x cx)
    (hv : (match x with | .ptr id i k => some (AV.ptr id i (k + off)) | .iptr rs i k => some (.iptr rs i (k + off)) | _ => none) = some v) : Comp C.P (Instr.fieldAt t cx f) E v := by
  obtain ⟨i, d, z, ty⟩ := hT.ty ht
  have hdesc := ty.desc
  rw [hd] at hdesc
  obtain ⟨a, rfl, hfs⟩ := hdesc
  obtain ⟨_, hget⟩ := fieldsOf_get hfs
  obtain ⟨fl, hfl, hfo⟩ := hget f _ hf
  obtain ⟨j, du, hj, hdu, ho, hsz, _⟩ := fieldOf_ok hfo
  have hfl' : a[f]? = some fl := by rw [← Array.getElem?_toList]; exact hfl
  have hrun : ∀ b o w, (Instr.fieldAt t (.pointer (some ⟨b, o, none⟩)) f).run C.P w = .ok (.pointer (some ⟨b, o + off, none⟩)) w := fun b o w => by
    have : j.size ≠ 0 := by omega
    simp [Instr.fieldAt, run_underlying_of ty.und, hfl', Instr.sureAddr, fieldPlace, run_sizeOf_of hj, this, addr_add, ho]
  cases hx with
  | ptr h =>
    simp at hv; subst hv
    refine ⟨_, ?_, hrun _ _⟩
    rw [Nat.add_assoc]; exact .ptr h
  | iptr h hr =>
    simp at hv; subst hv
    refine ⟨_, ?_, hrun _ _⟩
    rw [Nat.add_assoc]; exact .iptr h hr
  | _ => simp at hv

theorem part_ok {P : Program} {E : Env} {t : TypeId} {i : TypeInfo} {d : TypeDesc} (hi : P.info? t = some i) (hd : P.underlying t = some d) {l : List AV} {xs : Array Value} (hl : VRs E l xs.toList) {off : Nat} {v : AV}
    (hle : off + i.size ≤ l.length) (hv : (if isAggD d then some (.agg ((l.drop off).take i.size)) else l[off]?) = some v) : Comp P (part t xs off) E v := by
  cases hg : isAggD d
  · rw [hg] at hv
    simp only [Bool.false_eq_true, if_false] at hv
    obtain ⟨cv, h1, h2⟩ := hl.get hv
    refine ⟨cv, h2, fun w => ?_⟩
    rw [Array.getElem?_toList] at h1
    simp only [part, Sem.run_bind, run_isAgg_of hd, hg, Result.andThen_ok, Bool.false_eq_true, if_false, h1, Sem.run_pure]
  · rw [hg] at hv
    simp at hv; subst hv
    refine ⟨.agg (xs.extract off (off + i.size)), .agg ?_, fun w => ?_⟩
    · have := (hl.drop off).take i.size
      simpa [List.extract_eq_take_drop] using this
    · simp only [part, Sem.run_bind, run_isAgg_of hd, hg, Result.andThen_ok, if_true, run_sizeOf_of hi, Sem.run_pure]

theorem field_ok {C : Cfg} (hT : TOk C) {E : Env} {t : TypeId} {ti : TI} (ht : C.T t = some ti) {fs : List (Nat × Nat × Bool)} (hd : ti.d = .struct fs) {f off size : Nat} {ag : Bool}
    (hf : fs[f]? = some (off, size, ag)) {l : List AV} {v : AV} {cx : Value} (hx : VR E (.agg l) cx)
    (hle : off + size ≤ l.length) (hv : (if ag then some (.agg ((l.drop off).take size)) else l[off]?) = some v) : Comp C.P (Instr.field t cx f) E v := by
  obtain ⟨i, d, z, ty⟩ := hT.ty ht
  have hdesc := ty.desc
  rw [hd] at hdesc
  obtain ⟨a, rfl, hfs⟩ := hdesc
  obtain ⟨_, hget⟩ := fieldsOf_get hfs
  obtain ⟨fl, hfl, hfo⟩ := hget f _ hf
  obtain ⟨j, du, hj, hdu, ho, hsz, hag⟩ := fieldOf_ok hfo
  have hfl' : a[f]? = some fl := by rw [← Array.getElem?_toList]; exact hfl
  cases hx with
  | @agg _ cl hl =>
    obtain ⟨cv, h1, h2⟩ := part_ok (P := C.P) hj hdu hl (off := off) (v := v) (by omega) (by rw [hag, hsz]; exact hv)
    refine ⟨cv, h1, fun w => ?_⟩
    simp only [Instr.field, Sem.run_bind, run_underlying_of ty.und, Result.andThen_ok, hfl', asAgg, Sem.run_pure, ho]
    exact h2 w

theorem natOf_some {n : Int} {k : Nat} (h : natOf n = some k) : 0 ≤ n ∧ n.toNat = k := by
  unfold natOf at h; split at h <;> simp at h; exact ⟨by assumption, h⟩

theorem intA_some {v : AV} {n : Int} (h : intA v = some n) : ∃ k, v = .int k n := by
  cases v <;> simp [intA] at h; subst h; exact ⟨_, rfl⟩

/-- A row of a slice: where it lies. -/
theorem slRow_ok {E : Env} {h : H} {w : World} (r : HR E h w) {x : AV} {cx : Value} (hx : VR E x cx) {j : Nat} {row : Row} (hrow : slRow h x j = some row) :
    ∃ b o n c, cx = .slice (some ⟨b, o, none⟩) n c ∧ j < n ∧
      VR E (match x with | .sl id i _ => .ptr id (i + j) 0 | .imm rs => .iptr rs j 0 | _ => undefA) (.pointer (some ⟨b, o + j * row.length, none⟩)) := by
  cases hx with
  | @sl id i n c y hid hn hc =>
    simp only [slRow] at hrow
    split at hrow
    · rename_i hj
      simp only [Option.bind_eq_some_iff] at hrow
      obtain ⟨rs, hrs, hrow⟩ := hrow
      obtain ⟨y', hy', g0, cc, ee, lo, hi, g1, g2, _⟩ := r.live id _ (rows_spec hrs)
      rw [hid] at hy'; cases hy'
      have hl := (RR_iff.1 g2 _ _ hrow).1
      refine ⟨_, _, n, c, rfl, hj, ?_⟩
      have := VR.ptr (E := E) (i := i + j) (k := 0) hid
      rw [hl, Nat.add_assoc, ← Nat.add_mul]
      exact this
    · cases hrow
  | sl0 hid => simp [slRow] at hrow
  | @imm rows n cp b d wd c e f hq hr hn hcp =>
    simp only [slRow] at hrow
    have hl := (RR_iff.1 hr _ _ hrow).1
    refine ⟨_, _, n, cp, rfl, ?_, ?_⟩
    · rcases Nat.lt_or_ge j rows.length with h | h
      · omega
      · rw [List.getElem?_eq_none h] at hrow; cases hrow
    · rw [hl]; exact .iptr (k := 0) hq hr
  | imm0 => simp [slRow] at hrow
  | _ => simp [slRow] at hrow

theorem indexAddr_slice_ok {C : Cfg} (hT : TOk C) {E : Env} {h : H} {w : World} (r : HR E h w) {t e : TypeId} {ti te : TI} (ht : C.T t = some ti) (hd : ti.d = .slice e) (he : C.T e = some te)
    {k : IntKind} {n : Int} {j : Nat} (hj : natOf n = some j) {x v : AV} {cx : Value} (hx : VR E x cx) {row : Row} (hrow : slRow h x j = some row) (hl : row.length = te.size)
    (hv : (match x with | .sl id i _ => some (AV.ptr id (i + j) 0) | .imm rs => some (.iptr rs j 0) | _ => none) = some v) : ∃ cv, VR E v cv ∧ (Instr.indexAt t cx (.int k n)).run C.P w = .ok cv w := by
  obtain ⟨i, d, z, ty⟩ := hT.ty ht
  obtain ⟨ie, de, ze, tye⟩ := hT.ty he
  have hdesc := ty.desc
  rw [hd] at hdesc
  simp only [descOk] at hdesc; subst hdesc
  obtain ⟨b, o, m, c, rfl, hlt, hvr⟩ := slRow_ok r hx hrow
  obtain ⟨h0, hnj⟩ := natOf_some hj
  refine ⟨.pointer (some ⟨b, o + j * row.length, none⟩), ?_, ?_⟩
  · cases x <;> simp at hv <;> subst hv <;> exact hvr
  · have hlt' : 0 ≤ n ∧ n < (m : Int) := ⟨h0, by omega⟩
    simp only [Instr.indexAt, asIntOf, Sem.run_bind, Sem.run_pure, Result.andThen_ok, run_underlying_of ty.und, hlt', and_self, if_true, run_sizeOf_of tye.info, tye.size, addr_add, hnj, hl]

end Go.Ai
