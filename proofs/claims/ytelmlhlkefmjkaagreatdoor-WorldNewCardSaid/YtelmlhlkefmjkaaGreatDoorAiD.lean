import Derived.Test.YtelmlhlkefmjkaaGreatDoorAiC
set_option linter.unusedSimpArgs false
set_option linter.unusedVariables false
/- Building, slicing, indexing. -/
namespace Go.Ai
open Go.RowKit

theorem run_zeroValue_of {P : Program} {t : TypeId} {ti : TI} {i : TypeInfo} {d : TypeDesc} {z : Value} (ty : TyOk P t ti i d z) (w : World) : (zeroValue t).run P w = .ok z w := by
  simp [zeroValue, run_typeInfo_of ty.info, ty.zero]

theorem build_ok {C : Cfg} (hT : TOk C) {E : Env} {t : TypeId} {ti : TI} (ht : C.T t = some ti) {ps : List (Nat × AV)} {cps : Array (Nat × Value)} (hlen : ps.length = cps.toList.length)
    (hps : ∀ (j : Nat) i v, ps[j]? = some (i, v) → ∃ cv, cps.toList[j]? = some (i, cv) ∧ VR E v cv) {r : List AV}
    (hr : (∃ fs, ti.d = .struct fs ∧ fillA (fun i => (fs[i]?).map fun f => (f.1, f.2.1)) ti.zero ps = some r) ∨
      (∃ n e te, ti.d = .arr n e ∧ C.T e = some te ∧ fillA (fun i => some (i * te.size, te.size)) ti.zero ps = some r)) : Comp C.P (Instr.build t cps) E (.agg r) := by
  obtain ⟨i, d, z, ty⟩ := hT.ty ht
  have hz := ofVals_ok (E := E) _ _ ty.zeros
  rcases hr with ⟨fs, hd, hr⟩ | ⟨n, e, te, hd, he, hr⟩
  · have hdesc := ty.desc
    rw [hd] at hdesc
    obtain ⟨a, rfl, hfs⟩ := hdesc
    obtain ⟨pl, hpl1, hpl2⟩ := run_places hfs (default : World)
    have hpl : ∀ w, ∃ pl' : Array (Nat × Nat), ((a.mapM fun (f : Field) => do Pure.pure (f.offset, ← sizeOf f.type)) : Sem (Array (Nat × Nat))).run C.P w = .ok pl' w ∧ pl' = pl := fun w => by
      obtain ⟨pl', h1, h2⟩ := run_places hfs w
      exact ⟨pl', h1, Array.toList_inj.1 (h2.trans hpl2.symm)⟩
    obtain ⟨cr, h1, h2⟩ := fill_ok (E := E) (place := fun i => (fs[i]?).map fun f => (f.1, f.2.1)) (cplace := (pl[·]?)) (fun i x hx => by
      simp only [Option.map_eq_some_iff] at hx
      obtain ⟨f, hf, rfl⟩ := hx
      show pl[i]? = _
      rw [← Array.getElem?_toList, hpl2]; simp [hf]) hlen hps hz hr
    refine ⟨.agg cr, .agg h2, fun w => ?_⟩
    obtain ⟨pl', h3, rfl⟩ := hpl w
    simp only [Instr.build, Sem.run_bind, run_zeroValue_of ty, Result.andThen_ok, run_underlying_of ty.und, h3, h1, Sem.run_pure]
  · obtain ⟨ie, de, ze, tye⟩ := hT.ty he
    have hdesc := ty.desc
    rw [hd] at hdesc
    simp only [descOk] at hdesc; subst hdesc
    obtain ⟨cr, h1, h2⟩ := fill_ok (E := E) (place := fun i => some (i * te.size, te.size)) (cplace := fun i => some (i * te.size, te.size)) (fun i x hx => hx) hlen hps hz hr
    refine ⟨.agg cr, .agg h2, fun w => ?_⟩
    simp only [Instr.build, Sem.run_bind, run_zeroValue_of ty, Result.andThen_ok, run_underlying_of ty.und, run_sizeOf_of tye.info, tye.size, h1, Sem.run_pure]

/-! ### New slices -/
theorem flatten_set : ∀ (rows : List Row) (size i : Nat) (cs : List AV), (∀ r ∈ rows, r.length = size) → cs.length = size → i < rows.length → putAt rows.flatten (i * size) cs = (rows.set i cs).flatten := by
  intro rows size i cs hl hc hi
  have hflat : ∀ (rs : List Row), (∀ r ∈ rs, r.length = size) → rs.flatten.length = rs.length * size := by
    intro rs
    induction rs with
    | nil => simp
    | cons a rs ih => intro h; simp only [List.flatten_cons, List.length_append, h a (by simp), ih (fun r hr => h r (by simp [hr])), List.length_cons, Nat.succ_mul]; omega
  have h1 := hflat rows hl
  have hb : i * size + size ≤ rows.length * size := by have := Nat.mul_le_mul_right size (show i + 1 ≤ rows.length by omega); rw [Nat.succ_mul] at this; omega
  apply List.ext_getElem?
  intro j
  rw [putAt_get _ _ _ _ (by omega)]
  have hget : ∀ (rs : List Row), (∀ r ∈ rs, r.length = size) → ∀ j, rs.flatten[j]? = if size = 0 then none else (rs[j / size]?).bind fun r => r[j % size]? := by
    intro rs
    induction rs with
    | nil => intro _ j; simp
    | cons a rs ih =>
      intro h j
      have ha := h a (by simp)
      rw [List.flatten_cons, List.getElem?_append]
      by_cases hj : j < a.length
      · rw [if_pos hj]
        rw [if_neg (by omega), Nat.div_eq_of_lt (by omega), Nat.mod_eq_of_lt (by omega)]; simp
      · rw [if_neg hj, ih (fun r hr => h r (by simp [hr]))]
        by_cases hs : size = 0
        · simp [hs]
        · rw [if_neg hs, if_neg hs]
          have e1 : j / size = (j - a.length) / size + 1 := by rw [ha, Nat.div_eq_sub_div (by omega) (by omega)]
          have e2 : j % size = (j - a.length) % size := by rw [ha, ← Nat.mod_eq_sub_mod (by omega)]
          rw [e1, e2]; simp
  have hl' : ∀ r ∈ rows.set i cs, r.length = size := fun r hr => by
    rcases List.mem_or_eq_of_mem_set hr with h | h
    · exact hl r h
    · rw [h]; exact hc
  rw [hget _ hl, hget _ hl']
  by_cases hs : size = 0
  · simp [hs]; omega
  · rw [if_neg hs, if_neg hs, List.getElem?_set]
    by_cases hj : i * size ≤ j ∧ j < i * size + cs.length
    · have e1 : j / size = i := by
        rw [Nat.div_eq_iff (by omega)]; constructor
        · omega
        · omega
      have e2 : j % size = j - i * size := by
        have := Nat.div_add_mod j size
        rw [e1, Nat.mul_comm] at this; omega
      rw [if_pos hj, if_pos e1.symm, if_pos hi, e2]; rfl
    · rw [if_neg hj]
      by_cases e1 : i = j / size
      · exfalso
        have h1 := Nat.div_add_mod j size
        have h2 := Nat.mod_lt j (show 0 < size by omega)
        rw [← e1, Nat.mul_comm] at h1
        omega
      · rw [if_neg e1]

theorem setRows_flat {size : Nat} : ∀ {ps : List (Nat × AV)} {rows rows' : List Row}, (∀ r ∈ rows, r.length = size) → setRows rows size ps = some rows' →
    fillA (fun i => some (i * size, size)) rows.flatten ps = some rows'.flatten ∧ (∀ r ∈ rows', r.length = size) ∧ rows'.length = rows.length := by
  intro ps
  induction ps with
  | nil => intro rows rows' hl h; simp [setRows] at h; subst h; exact ⟨rfl, hl, rfl⟩
  | cons p ps ih =>
    intro rows rows' hl h
    obtain ⟨i, v⟩ := p
    simp only [setRows] at h
    split at h
    · rename_i hc
      obtain ⟨hc, hi⟩ := hc
      have hl' : ∀ r ∈ rows.set i v.cells, r.length = size := fun r hr => by
        rcases List.mem_or_eq_of_mem_set hr with h | h
        · exact hl r h
        · rw [h]; exact hc
      obtain ⟨h1, h2, h3⟩ := ih hl' h
      refine ⟨?_, h2, by rw [h3]; simp⟩
      have hb : i * size + size ≤ rows.flatten.length := by
        have : rows.flatten.length = rows.length * size := by
          clear h1 h2 h3 h hi hl'
          induction rows with
          | nil => simp
          | cons a rs ih => simp only [List.flatten_cons, List.length_append, hl a (by simp), ih (fun r hr => hl r (by simp [hr])), List.length_cons, Nat.succ_mul]; omega
        have h4 := Nat.mul_le_mul_right size (show i + 1 ≤ rows.length by omega); rw [Nat.succ_mul] at h4; omega
      simp only [fillA, Option.bind_some]
      rw [if_pos ⟨hc, hb⟩, flatten_set rows size i v.cells hl hc hi]
      exact h1
    · cases h

theorem zero_cells {E : Env} {z : List AV} {cz : Array Value} (hz : VRs E z cz.toList) (n : Nat) : VRs E (List.replicate n z).flatten (Builtin.zeroCells cz n).toList := by
  have hl := hz.length
  simp at hl
  have key : (Builtin.zeroCells cz n).toList = (List.replicate n cz.toList).flatten := by
    apply List.ext_getElem?
    intro j
    have hget : ∀ n j, (List.replicate n cz.toList).flatten[j]? = if j < n * cz.size then cz[j % cz.size]? else none := by
      intro n
      induction n with
      | zero => intro j; simp
      | succ n ih =>
        intro j
        rw [List.replicate_succ, List.flatten_cons, List.getElem?_append]
        by_cases hj : j < cz.toList.length
        · rw [if_pos hj, if_pos (by simp at hj; rw [Nat.succ_mul]; omega)]
          simp at hj
          rw [Nat.mod_eq_of_lt hj]; simp
        · rw [if_neg hj, ih]
          simp at hj ⊢
          have e2 : j % cz.size = (j - cz.size) % cz.size := Nat.mod_eq_sub_mod hj
          rw [Nat.succ_mul, e2]
          by_cases h : j - cz.size < n * cz.size
          · rw [if_pos h, if_pos (by omega)]
          · rw [if_neg h, if_neg (by omega)]
    rw [hget]
    simp only [Builtin.zeroCells, Array.toList_map, Array.toList_range, List.getElem?_map]
    by_cases hj : j < n * cz.size
    · have hp : 0 < cz.size := by
        rcases Nat.eq_zero_or_pos cz.size with h | h
        · rw [h] at hj; simp at hj
        · exact h
      have := Nat.mod_lt j hp
      simp [hj, this]
    · simp [hj]
  rw [key]
  clear key
  induction n with
  | zero => exact .nil
  | succ n ih => rw [List.replicate_succ, List.replicate_succ, List.flatten_cons, List.flatten_cons]; exact hz.append ih

end Go.Ai

/- New slices; slicing; indexing; conversions. -/
namespace Go.Ai
open Go.RowKit

theorem newRow_val {P : Program} {E : Env} {h : H} {w : World} (r : HR E h w) (e : TypeId) {rows : List Row} {size : Nat} {c : Array Value} (hall : ∀ r ∈ rows, r.length = size) (hc : VRs E rows.flatten c.toList) :
    ValOk P (do Pure.pure (.slice (some (← newRow e c)) rows.length rows.length)) E h w (.sl h.next 0 rows.length) (h.new (.blk size rows)) := by
  have hrr : RR E c 0 size rows := RR_of_flat hall hc (fun j v hj => by rw [Nat.zero_add, ← Array.getElem?_toList]; exact hj)
  have hsz := hrr.flat.1
  have hl := hc.length
  simp only [Array.length_toList] at hl
  obtain ⟨g1, g2⟩ := newBlk r e rows.length hrr (Nat.le_refl _) (by omega)
  refine ⟨.slice (some ⟨w.heap.size, 0, none⟩) rows.length rows.length, _, _, by simp only [newRow, Sem.run_bind, run_newObj, Result.andThen_ok, Sem.run_pure]; rfl, ?_, g1, g2⟩
  have := VR.sl (E := E.put h.next ⟨w.heap.size, 0, size, rows.length⟩) (i := 0) (n := rows.length) (c := rows.length) (put_same E h.next _) (Nat.le_refl _) (by simp)
  simpa using this

theorem buildSlice_ok {C : Cfg} (hT : TOk C) {E : Env} {h : H} {w : World} (r : HR E h w) {t e : TypeId} {ti te : TI} (ht : C.T t = some ti) (hd : ti.d = .slice e) (he : C.T e = some te) {len : Nat} (hlim : ¬ len * te.size > 2 ^ 24)
    {ps : List (Nat × AV)} {cps : Array (Nat × Value)} (hlen : ps.length = cps.toList.length) (hps : ∀ (j : Nat) i v, ps[j]? = some (i, v) → ∃ cv, cps.toList[j]? = some (i, cv) ∧ VR E v cv)
    {rows : List Row} (hr : setRows (List.replicate len te.zero) te.size ps = some rows) : ValOk C.P (Instr.buildSlice t len cps) E h w (.sl h.next 0 len) (h.new (.blk te.size rows)) := by
  obtain ⟨i, d, z, ty⟩ := hT.ty ht
  obtain ⟨ie, de, ze, tye⟩ := hT.ty he
  have hdesc := ty.desc
  rw [hd] at hdesc
  simp only [descOk] at hdesc; subst hdesc
  have hz := ofVals_ok (E := E) _ _ tye.zeros
  have hzl : ze.cells.size = te.size := by have := hz.length; simp at this; rw [← this]; exact tye.zlen
  obtain ⟨h1, h2, h3⟩ := setRows_flat (fun r hr => by rw [List.eq_of_mem_replicate hr]; exact tye.zlen) hr
  have h0 := zero_cells hz len
  obtain ⟨cr, h4, h5⟩ := fill_ok (E := E) (place := fun i => some (i * te.size, te.size)) (cplace := fun i => some (i * te.size, te.size)) (fun i x hx => hx) hlen hps h0 h1
  have hlr : rows.length = len := by rw [h3]; simp
  obtain ⟨cv, w', E', g1, g2⟩ := newRow_val (P := C.P) r e h2 h5
  rw [hlr] at g1 g2
  refine ⟨cv, w', E', ?_, g2⟩
  have hcells : (Array.range (len * te.size)).map (fun i => ze.cells[i % ze.cells.size]!) = Builtin.zeroCells ze.cells len := by simp [Builtin.zeroCells, hzl]
  simp only [Instr.buildSlice, Sem.run_bind, run_underlying_of ty.und, Result.andThen_ok, run_sizeOf_of tye.info, tye.size, if_neg hlim]
  by_cases h0 : len * te.size = 0
  · have e0 : ∀ f : Nat → Value, (Array.range 0).map f = #[] := fun f => by simp
    have : Builtin.zeroCells ze.cells len = #[] := by rw [← hcells, h0, e0]
    rw [this] at h4
    simp only [h0, if_true, Sem.run_pure, Result.andThen_ok, e0, h4]
    simpa only [Sem.run_bind, Sem.run_pure, Result.andThen_ok] using g1
  · simp only [h0, if_false, Sem.run_bind, run_zeroValue_of tye, Result.andThen_ok, Sem.run_pure, hcells, h4]
    simpa only [Sem.run_bind, Sem.run_pure, Result.andThen_ok] using g1

theorem wrap64_id {n : Int} (h0 : 0 ≤ n) (h1 : n < 2 ^ 63) : IntKind.i64.wrap n = n := by
  have e : ∀ m : Int, IntKind.i64.wrap m = if m % 18446744073709551616 ≥ 9223372036854775808 then m % 18446744073709551616 - 18446744073709551616 else m % 18446744073709551616 := fun m => by
    simp [IntKind.wrap, IntKind.bits, IntKind.signed]
  rw [e]; omega

theorem makeSlice_ok {C : Cfg} (hT : TOk C) {E : Env} {h : H} {w : World} (r : HR E h w) {t e : TypeId} {ti te : TI} (ht : C.T t = some ti) (hd : ti.d = .slice e) (he : C.T e = some te) {k k' : IntKind} {a b : Int} {n : Nat}
    (ha : natOf a = some n) (hb : natOf b = some n) (hlim : n * te.bytes ≤ 2 ^ 47) (hn : n < 2 ^ 47) :
    ValOk C.P (Instr.makeSlice t (.int k a) (.int k' b)) E h w (.sl h.next 0 n) (h.new (.blk te.size (List.replicate n te.zero))) := by
  obtain ⟨i, d, z, ty⟩ := hT.ty ht
  obtain ⟨ie, de, ze, tye⟩ := hT.ty he
  have hdesc := ty.desc
  rw [hd] at hdesc
  simp only [descOk] at hdesc; subst hdesc
  have hz := ofVals_ok (E := E) _ _ tye.zeros
  have hzl : ze.cells.size = te.size := by have := hz.length; simp at this; rw [← this]; exact tye.zlen
  obtain ⟨ha0, ha1⟩ := natOf_some ha
  obtain ⟨hb0, hb1⟩ := natOf_some hb
  obtain rfl : a = (n : Int) := by omega
  obtain rfl : b = (n : Int) := by omega
  have hwrap : IntKind.i64.wrap (n : Int) = n := wrap64_id (by omega) (by omega)
  have hall : ∀ r ∈ List.replicate n te.zero, r.length = te.size := fun r hr => by rw [List.eq_of_mem_replicate hr]; exact tye.zlen
  obtain ⟨cv, w', E', g1, g2⟩ := newRow_val (P := C.P) r e hall (zero_cells hz n)
  simp only [List.length_replicate] at g1 g2
  refine ⟨cv, w', E', ?_, g2⟩
  have h47 : (te.bytes : Int) * n ≤ 140737488355328 := by
    have h1 : ((n * te.bytes : Nat) : Int) ≤ ((2 ^ 47 : Nat) : Int) := Int.ofNat_le.2 hlim
    rw [Int.natCast_mul] at h1
    rw [Int.mul_comm]
    simpa using h1
  have hlim' : ¬ ((te.bytes : Int) * n > 2 ^ 48) := by
    have e : (2 : Int) ^ 48 = 281474976710656 := by decide
    rw [e]; omega
  have hneg : ¬ ((n : Int) < 0) := by omega
  have hcells : (Array.range (n * te.size)).map (fun i => ze.cells[i % ze.cells.size]!) = Builtin.zeroCells ze.cells n := by simp [Builtin.zeroCells, hzl]
  simp only [Instr.makeSlice, Sem.run_bind, run_underlying_of ty.und, Result.andThen_ok, asInt, asIntOf, Sem.run_pure, run_typeInfo_of tye.info, hwrap, tye.bytes, hneg, hlim', decide_false, Bool.or_self, Bool.false_eq_true,
    gt_iff_lt, Int.lt_irrefl, if_false, run_askRoom, run_sizeOf_of tye.info, tye.size, Int.toNat_natCast]
  by_cases h0 : n * te.size = 0
  · have e0 : ∀ f : Nat → Value, (Array.range 0).map f = #[] := fun f => by simp
    have : Builtin.zeroCells ze.cells n = #[] := by rw [← hcells, h0, e0]
    rw [this] at g1
    simp only [h0, if_true, Sem.run_pure, Result.andThen_ok, e0]
    simpa only [Sem.run_bind, Sem.run_pure, Result.andThen_ok] using g1
  · simp only [h0, if_false, Sem.run_bind, run_zeroValue_of tye, Result.andThen_ok, Sem.run_pure, hcells]
    simpa only [Sem.run_bind, Sem.run_pure, Result.andThen_ok] using g1

end Go.Ai

/- Slicing, indexing, conversions. -/
namespace Go.Ai
open Go.RowKit

/-- A bound that is told, or isn't. -/
def BoundIs (v : Option Value) (n dflt : Nat) : Prop := (v = none ∧ n = dflt) ∨ ∃ k i, v = some (.int k i) ∧ natOf i = some n

theorem run_sliceBound {P : Program} {k : IntKind} {i : Int} {n y : Nat} (h : natOf i = some n) (hn : n ≤ y) (code : BoundsCode) (w : World) : (Instr.sliceBound (.int k i) y code).run P w = .ok n w := by
  obtain ⟨h0, h1⟩ := natOf_some h
  have hc : 0 ≤ i ∧ i ≤ (y : Int) := ⟨h0, by omega⟩
  simp only [Instr.sliceBound, asIntOf, Sem.run_bind, Sem.run_pure, Result.andThen_ok, hc, and_self, if_true, h1]

theorem run_sliceBounds {P : Program} {isSlice : Bool} {len cap lo hi m : Nat} {lowV highV maxV : Option Value} (hlo : BoundIs lowV lo 0) (hhi : BoundIs highV hi len) (hm : BoundIs maxV m cap)
    (hmx : maxV.isSome = true → highV.isSome = true) (h1 : lo ≤ hi) (h2 : hi ≤ m) (h3 : m ≤ cap) (h4 : maxV = none → hi ≤ cap) (w : World) : (Instr.sliceBounds isSlice len cap lowV highV maxV).run P w = .ok (lo, hi, m) w := by
  rcases hm with ⟨rfl, rfl⟩ | ⟨k, i, rfl, hm⟩
  · rcases hhi with ⟨rfl, rfl⟩ | ⟨kh, ih, rfl, hhi⟩
    · rcases hlo with ⟨rfl, rfl⟩ | ⟨kl, il, rfl, hlo⟩
      · simp only [Instr.sliceBounds, Sem.run_bind, Sem.run_pure, Result.andThen_ok]
      · simp only [Instr.sliceBounds, Sem.run_bind, Sem.run_pure, Result.andThen_ok, run_sliceBound hlo h1]
    · rcases hlo with ⟨rfl, rfl⟩ | ⟨kl, il, rfl, hlo⟩
      · simp only [Instr.sliceBounds, Sem.run_bind, Sem.run_pure, Result.andThen_ok, run_sliceBound hhi h2]
      · simp only [Instr.sliceBounds, Sem.run_bind, Sem.run_pure, Result.andThen_ok, run_sliceBound hhi h2, run_sliceBound hlo h1]
  · rcases hhi with ⟨rfl, rfl⟩ | ⟨kh, ih, rfl, hhi⟩
    · simp at hmx
    · rcases hlo with ⟨rfl, rfl⟩ | ⟨kl, il, rfl, hlo⟩
      · simp only [Instr.sliceBounds, Sem.run_bind, Sem.run_pure, Result.andThen_ok, run_sliceBound hm h3, run_sliceBound hhi h2]
      · simp only [Instr.sliceBounds, Sem.run_bind, Sem.run_pure, Result.andThen_ok, run_sliceBound hm h3, run_sliceBound hhi h2, run_sliceBound hlo h1]

theorem slice_str_ok {C : Cfg} (hT : TOk C) {E : Env} {t : TypeId} {ti : TI} (ht : C.T t = some ti) (hd : ti.d = .str) {s : ByteArray} {cx : Value} (hx : VR E (.str s) cx) {lo hi : Nat} {lowV highV : Option Value}
    (hlo : BoundIs lowV lo 0) (hhi : BoundIs highV hi s.size) (h1 : lo ≤ hi) (h2 : hi ≤ s.size) : Comp C.P (Instr.sliceAt t cx lowV highV none) E (.str (s.extract lo hi)) := by
  obtain ⟨i, d, z, ty⟩ := hT.ty ht
  have hdesc := ty.desc
  rw [hd] at hdesc
  simp only [descOk] at hdesc; subst hdesc
  cases hx
  refine ⟨_, .str _, fun w => ?_⟩
  simp only [Instr.sliceAt, Instr.slice, Sem.run_bind, run_underlying_of ty.und, Result.andThen_ok, Option.isSome_none, Bool.false_eq_true, if_false,
    run_sliceBounds (maxV := none) hlo hhi (.inl ⟨rfl, rfl⟩) (by simp) h1 h2 (Nat.le_refl _) (fun _ => h2), Sem.run_pure]

theorem slLen_ok {E : Env} {x : AV} {cx : Value} (hx : VR E x cx) {n : Nat} (h : slLen x = some n) : ∃ base c, cx = .slice base n c := by
  cases hx <;> simp [slLen] at h <;> subst h
  · exact ⟨_, _, rfl⟩
  · exact ⟨_, _, rfl⟩
  · rename_i hn _; rw [hn]; exact ⟨_, _, rfl⟩
  · exact ⟨_, _, rfl⟩
  · exact ⟨_, _, rfl⟩
  · exact ⟨_, _, rfl⟩

theorem slice_ok {C : Cfg} (hT : TOk C) {E : Env} {h : H} {w : World} (r : HR E h w) {t e : TypeId} {ti te : TI} (ht : C.T t = some ti) (hd : ti.d = .slice e) (he : C.T e = some te) {x v : AV} {cx : Value} (hx : VR E x cx)
    {n lo hi : Nat} (hn : slLen x = some n) {lowV highV maxV : Option Value} (hlo : BoundIs lowV lo 0) (hhi : BoundIs highV hi n) (hm : maxV = none ∨ ∃ k i m, maxV = some (.int k i) ∧ natOf i = some m ∧ m ≤ n ∧ hi ≤ m)
    (hmx : maxV.isSome = true → highV.isSome = true) (h1 : lo ≤ hi) (h2 : hi ≤ n)
    (hv : (lo = 0 ∧ hi = 0 ∧ (∃ k i, maxV = some (.int k i) ∧ natOf i = some 0) ∧ v = .zs) ∨
      ((lo = 0 ∨ ∃ row, slRow h x 0 = some row ∧ row.length = te.size) ∧ (match x with
          | .sl id i _ => some (AV.sl id (i + lo) (hi - lo))
          | .imm rs => some (.imm ((rs.drop lo).take (hi - lo)))
          | .nils => some .nils
          | .zs => some .zs
          | _ => none) = some v)) : ∃ cv, VR E v cv ∧ (Instr.sliceAt t cx lowV highV maxV).run C.P w = .ok cv w := by
  obtain ⟨i, d, z, ty⟩ := hT.ty ht
  obtain ⟨ie, de, ze, tye⟩ := hT.ty he
  have hdesc := ty.desc
  rw [hd] at hdesc
  simp only [descOk] at hdesc; subst hdesc
  obtain ⟨base, c, rfl⟩ := slLen_ok hx hn
  have hnc : n ≤ c := by cases hx <;> simp [slLen] at hn <;> omega
  -- the bounds
  have hb : ∃ m, (Instr.sliceBounds true n c lowV highV maxV).run C.P w = .ok (lo, hi, m) w ∧ m ≤ c ∧ hi ≤ m ∧ (∀ k i, maxV = some (.int k i) → natOf i = some m) := by
    rcases hm with rfl | ⟨k, i', m, rfl, hm1, hm2, hm3⟩
    · exact ⟨c, run_sliceBounds (maxV := none) hlo hhi (.inl ⟨rfl, rfl⟩) (by simp) h1 (by omega) (Nat.le_refl _) (fun _ => by omega) w, Nat.le_refl _, by omega, fun _ _ h => by cases h⟩
    · exact ⟨m, run_sliceBounds hlo hhi (.inr ⟨k, i', rfl, hm1⟩) hmx h1 hm3 (by omega) (fun h => by cases h) w, by omega, hm3, fun _ _ h => by cases h; exact hm1⟩
  obtain ⟨m, hrun, hmc, hhm, hmm⟩ := hb
  have hres : (Instr.sliceAt t (.slice base n c) lowV highV maxV).run C.P w = .ok (.slice (if m = lo then base else base.map (·.add (lo * te.size))) (hi - lo) (m - lo)) w := by
    simp only [Instr.sliceAt, Instr.slice, Sem.run_bind, run_underlying_of ty.und, Result.andThen_ok, hrun, run_sizeOf_of tye.info, tye.size, Sem.run_pure]
  refine ⟨_, ?_, hres⟩
  rcases hv with ⟨rfl, rfl, ⟨k, i', hmv, hmi⟩, rfl⟩ | ⟨hwid, hv⟩
  · have : m = 0 := by have := hmm k i' hmv; rw [hmi] at this; simpa using this.symm
    subst this
    simp; exact .zs
  · have hwid' : ∀ b o, base = some ⟨b, o, none⟩ → lo ≠ 0 → ∀ (wd : Nat), (∀ row, slRow h x 0 = some row → row.length = wd) → wd = te.size := fun b o _ hl wd hw => by
      rcases hwid with h0 | ⟨row, hr1, hr2⟩
      · exact absurd h0 hl
      · rw [← hw row hr1, hr2]
    cases hx with
    | @sl id j _ _ y hid hn' hc' =>
      simp at hv; subst hv
      by_cases hml : m = lo
      · have hz : hi - lo = 0 := by omega
        rw [if_pos hml, hz, show m - lo = 0 from by omega]; exact .sl0 hid
      · rw [if_neg hml]
        have key : ∀ wd, wd = y.w → (lo ≠ 0 → wd = te.size) → VR E (.sl id (j + lo) (hi - lo)) (.slice ((some (⟨y.blk, y.d + j * y.w, none⟩ : Addr)).map (·.add (lo * te.size))) (hi - lo) (m - lo)) := fun wd e1 e2 => by
          simp only [Option.map_some, addr_add]
          have : y.d + j * y.w + lo * te.size = y.d + (j + lo) * y.w := by
            by_cases hl : lo = 0
            · subst hl; simp
            · rw [← e2 hl, e1, Nat.add_mul]; omega
          rw [this]
          exact .sl hid (by omega) (by omega)
        refine key y.w rfl (fun hl => hwid' _ _ rfl hl y.w fun row hr => ?_)
        simp only [slRow] at hr
        split at hr
        · simp only [Option.bind_eq_some_iff] at hr
          obtain ⟨rs, hrs, hr⟩ := hr
          obtain ⟨y', hy', g0, cc, ee, l', h', g1, g2, _⟩ := r.live id _ (rows_spec hrs)
          rw [hid] at hy'; cases hy'
          exact (RR_iff.1 g2 _ _ hr).1
        · cases hr
    | @sl0 id j b o y hid =>
      simp at hv; subst hv
      have : hi = 0 := by omega
      have : lo = 0 := by omega
      have : m = 0 := by omega
      subst_vars
      simp; exact .sl0 hid
    | @imm rows _ cp b dd wd cc ee f hq hr hlen hcp =>
      simp at hv; subst hv
      by_cases hz : hi - lo = 0
      · rw [hz]; simp
        by_cases hml : m = lo
        · rw [if_pos hml]; exact .imm0
        · rw [if_neg hml]; exact .imm0
      · have hml : m ≠ lo := by omega
        rw [if_neg hml]
        simp only [Option.map_some, addr_add]
        have : dd + lo * te.size = dd + lo * wd := by
          by_cases hl : lo = 0
          · subst hl; simp
          · rw [hwid' _ _ rfl hl wd fun row hrow => ?_]
            simp only [slRow] at hrow
            exact (RR_iff.1 hr _ _ hrow).1
        rw [this]
        exact .imm hq (hr.sub lo (hi - lo)) (by simp; omega) (by omega)
    | imm0 =>
      simp at hv; subst hv
      have : hi = 0 := by omega
      have : lo = 0 := by omega
      subst_vars
      simp
      by_cases hml : m = 0
      · rw [if_pos hml]; exact .imm0
      · rw [if_neg hml]; exact .imm0
    | nils =>
      simp at hv; subst hv
      have : m = 0 := by omega
      have : hi = 0 := by omega
      have : lo = 0 := by omega
      subst_vars
      simp; exact .nils
    | zs =>
      simp at hv; subst hv
      have : m = 0 := by omega
      have : hi = 0 := by omega
      have : lo = 0 := by omega
      subst_vars
      simp; exact .zs

end Go.Ai

/- Maps. -/
namespace Go.Ai
open Go.RowKit

theorem zeroV_ok {P : Program} {E : Env} {t : TypeId} {ti : TI} {i : TypeInfo} {d : TypeDesc} {z : Value} (ty : TyOk P t ti i d z) : VR E (if ti.agg then .agg ti.zero else ti.zero.headD undefA) z := by
  have hz := ofVals_ok (E := E) _ _ ty.zeros
  have h1 := ty.zagg
  rw [ty.agg] at h1
  cases hag : ti.agg
  · rw [hag] at h1
    have hc : z.cells = #[z] := by cases z <;> first | rfl | (simp [isAggV] at h1)
    rw [hc] at hz
    generalize ti.zero = zz at hz
    rcases hz with _ | ⟨h2, h3⟩
    cases h3
    simpa using h2
  · rw [hag] at h1
    cases z <;> simp [isAggV] at h1
    simp only [if_true]
    exact .agg hz

/-- Whether a field's part may be in a key. -/
theorem checkKey_fields {P : Program} (k : Nat) (empty : Bool) (cs : Array Value) (w : World) : ∀ (fs : List Field), (∀ f ∈ fs, ∃ v, (part f.type cs f.offset).run P w = .ok v w ∧ (Instr.checkKey empty k f.type v).run P w = .ok () w) →
    ((forIn fs PUnit.unit fun (f : Field) (_ : PUnit) => do
      if f.name ≠ "_" then do
        Instr.checkKey empty k f.type (← part f.type cs f.offset)
        Pure.pure (ForInStep.yield PUnit.unit)
      else Pure.pure (ForInStep.yield PUnit.unit)) : Sem PUnit).run P w = .ok PUnit.unit w := by
  intro fs
  induction fs with
  | nil => intro _; rfl
  | cons f fs ih =>
    intro h
    obtain ⟨v, h1, h2⟩ := h f (by simp)
    rw [List.forIn_cons]
    by_cases hn : f.name ≠ "_"
    · simp only [Sem.run_bind, if_pos hn, h1, Result.andThen_ok, h2, Sem.run_pure]
      exact ih (fun g hg => h g (by simp [hg]))
    · simp only [Sem.run_bind, if_neg hn, Result.andThen_ok, Sem.run_pure]
      exact ih (fun g hg => h g (by simp [hg]))

mutual
theorem checkKey_flat {P : Program} {E : Env} (empty : Bool) (w : World) : ∀ (n : Nat) (t : TypeId) (ps : List P3), flatTy P n t = some ps → ∀ (l : List AV) (cl : List Value), VRs E l cl → fitsFlat ps l = true → ∀ k, n ≤ k →
    ∃ d, P.underlying t = some d ∧ (isAggD d = false → ps.length = 1) ∧ (Instr.checkKey empty k t (asV d cl)).run P w = .ok () w
  | 0, t, ps, h => by simp [flatTy] at h
  | n + 1, t, ps, h => by
    intro l cl hl fl k hk
    obtain ⟨k, rfl⟩ : ∃ j, k = j + 1 := ⟨k - 1, by omega⟩
    simp only [flatTy] at h
    cases hd : P.underlying t with
    | none => simp [hd] at h
    | some d =>
      cases d <;> simp only [hd] at h <;> try (cases h; done)
      case int kk =>
        simp at h; subst h
        refine ⟨_, rfl, by simp, ?_⟩
        rw [Instr.checkKey, Sem.run_bind, run_underlying_of hd]; rfl
      case bool =>
        simp at h; subst h
        refine ⟨_, rfl, by simp, ?_⟩
        rw [Instr.checkKey, Sem.run_bind, run_underlying_of hd]; rfl
      case string =>
        simp at h; subst h
        refine ⟨_, rfl, by simp, ?_⟩
        rw [Instr.checkKey, Sem.run_bind, run_underlying_of hd]; rfl
      case struct fs =>
        split at h
        · cases h
        · refine ⟨_, rfl, by simp [isAggD], ?_⟩
          rw [Instr.checkKey, Sem.run_bind, run_underlying_of hd]
          simp only [Result.andThen_ok, asV, isAggD, if_true]
          have := checkKey_fields (P := P) k empty ⟨cl⟩ w fs.toList (checkKey_flatFs empty w n fs.toList 0 ps h l ⟨cl⟩ hl (by simpa using fl) k (by omega))
          rw [← Array.forIn_toList]
          simp only [Sem.run_bind, this, Result.andThen_ok, Sem.run_pure]
theorem checkKey_flatFs {P : Program} {E : Env} (empty : Bool) (w : World) : ∀ (n : Nat) (fs : List Field) (off : Nat) (ps : List P3), flatFs P n fs off = some ps → ∀ (l : List AV) (xs : Array Value),
    VRs E l xs.toList → fitsFlat ps (l.drop off) = true → ∀ k, n ≤ k → ∀ f ∈ fs, ∃ v, (part f.type xs f.offset).run P w = .ok v w ∧ (Instr.checkKey empty k f.type v).run P w = .ok () w
  | 0, fs, off, ps, h => by simp [flatFs] at h
  | n + 1, [], off, ps, h => by intro l xs hl fl k hk f hf; cases hf
  | n + 1, f :: fs, off, ps, h => by
    intro l xs hl fl k hk g hg
    simp only [flatFs] at h
    split at h
    · cases h
    · rename_i hn
      have hn2 : f.offset = off := Decidable.byContradiction fun e => hn (.inr e)
      simp only [Option.bind_eq_some_iff] at h
      obtain ⟨a, ha, j, hj, h⟩ := h
      split at h
      · rename_i hja0
        obtain ⟨hja, hpos⟩ := hja0
        simp only [Option.map_eq_some_iff] at h
        obtain ⟨q, hq, rfl⟩ := h
        obtain ⟨fl1, fl2⟩ := fitsFlat_append a q _ fl
        have ll := fitsFlat_length _ _ fl
        have sl := hl.length
        simp at ll sl
        rcases List.mem_cons.1 hg with rfl | hg
        · obtain ⟨d, hd, hd1, hr⟩ := checkKey_flat empty w n g.type a ha _ _ ((hl.drop off).take a.length) fl1 k (by omega)
          refine ⟨_, run_part hj hd xs g.offset (by omega) (fun e => by rw [hja]; exact hd1 e) w, ?_⟩
          rw [hn2, hja]; exact hr
        · rw [List.drop_drop] at fl2
          exact checkKey_flatFs empty w n fs (off + a.length) q hq l xs hl fl2 k (by omega) g hg
      · cases h
end

/-- A key of a map that may be one. -/
theorem keyOk_ok {C : Cfg} (hT : TOk C) {E : Env} {t : TypeId} {k : AV} {ck : Value} (hk : VR E k ck) (h : keyOk (C.T t) k = true) (empty : Bool) (w : World) : (Instr.checkKey empty 10000 t ck).run C.P w = .ok () w := by
  unfold keyOk at h
  split at h
  · cases hk
    split at h
    · rename_i ti hti
      obtain ⟨i, d, z, ty⟩ := hT.ty hti
      split at h
      · rename_i kk hd
        have hdesc := ty.desc
        rw [hd] at hdesc
        simp only [descOk] at hdesc; subst hdesc
        obtain ⟨j, hj⟩ : ∃ j, 10000 = j + 1 := ⟨9999, rfl⟩
        rw [hj, Instr.checkKey, Sem.run_bind, run_underlying_of ty.und]; rfl
      · cases h
    · cases h
  · rename_i l
    cases hk with
    | @agg _ cl hl =>
      split at h
      · rename_i ti hti
        split at h
        · rename_i ps hps
          obtain ⟨hg, hfl⟩ := tiOf_flat (hT t ti hti) hps
          obtain ⟨hag, h⟩ : ti.agg = true ∧ fitsFlat ps l = true := by simpa using h
          obtain ⟨d, hd, _, hr⟩ := checkKey_flat (P := C.P) empty w 40 t ps hfl l cl.toList hl h 10000 (by omega)
          obtain ⟨i, d', z, ty⟩ := hT.ty hti
          have hd' := ty.und
          rw [hd] at hd'; cases hd'
          simpa [asV, ty.agg, hag] using hr
        · cases h
      · cases h
  · cases h

theorem sameBits_of_eq {E : Env} {C : Cfg} {t : TypeId} {a b : AV} {ca cb : Value} (ha : VR E a ca) (hb : VR E b cb) (hk : keyOk (C.T t) a = true) (h : eqT (C.T t) a b = some true) : Instr.sameBits 10000 cb ca = true := by
  unfold keyOk at hk
  split at hk
  · cases ha
    rename_i k n
    cases b <;> simp only [eqT, Option.bind_eq_some_iff] at h <;> obtain ⟨ti, _, h⟩ := h <;> split at h <;> simp [eqA] at h
    obtain ⟨rfl, rfl⟩ := h
    cases hb
    simp [Instr.sameBits]
  · cases b <;> simp only [eqT, Option.bind_eq_some_iff] at h <;> obtain ⟨ti, hti, h⟩ := h
    case agg m =>
      obtain ⟨ps, hps, h⟩ := h
      split at h
      · rename_i l hf
        simp only [Bool.and_eq_true] at hf
        have key : ∀ (ps : List P3) (l m : List AV) (cl cm : List Value), VRs E l cl → VRs E m cm → fitsFlat ps l = true → fitsFlat ps m = true → eqFlat ps l m = some true →
            cm.length = cl.length ∧ (cm.zip cl).all (fun x => Instr.sameBits 9999 x.1 x.2) = true := by
          intro ps
          induction ps with
          | nil =>
            intro l m cl cm h1 h2 f1 f2 _
            cases l <;> simp [fitsFlat] at f1
            cases m <;> simp [fitsFlat] at f2
            cases h1; cases h2; simp
          | cons p ps ih =>
            intro l m cl cm h1 h2 f1 f2 he
            cases l with
            | nil => cases p <;> simp [fitsFlat] at f1
            | cons a l =>
              cases m with
              | nil => cases p <;> simp [fitsFlat] at f2
              | cons b m =>
                rcases h1 with _ | ⟨g1, g2⟩
                rcases h2 with _ | ⟨k1, k2⟩
                cases p <;> cases a <;> simp [fitsFlat] at f1 <;> cases b <;> simp [fitsFlat] at f2 <;> simp [eqFlat] at he <;> cases g1 <;> cases k1
                · obtain ⟨rfl, he⟩ := he
                  split at he
                  · rename_i e; subst e
                    obtain ⟨q1, q2⟩ := ih _ _ _ _ g2 k2 f1 f2 he
                    exact ⟨by simp [q1], by simp only [List.zip_cons_cons, List.all_cons, q2, Instr.sameBits]; simp⟩
                  · simp at he
                · split at he
                  · rename_i e; subst e
                    obtain ⟨q1, q2⟩ := ih _ _ _ _ g2 k2 f1 f2 he
                    exact ⟨by simp [q1], by simp only [List.zip_cons_cons, List.all_cons, q2, Instr.sameBits]; simp⟩
                  · simp at he
                · split at he
                  · rename_i hs
                    obtain ⟨q1, q2⟩ := ih _ _ _ _ g2 k2 f1 f2 he
                    refine ⟨by simp [q1], ?_⟩
                    simp only [List.zip_cons_cons, List.all_cons, q2, Instr.sameBits, Bool.and_true]
                    rw [beq_toListBytes, beq_iff_eq]; exact hs.symm
                  · simp at he
        cases ha with
        | @agg _ cl hl => cases hb with
          | @agg _ cm hm =>
            obtain ⟨q1, q2⟩ := key ps _ _ _ _ hl hm hf.1.2 hf.2 h
            obtain ⟨j, hj⟩ : ∃ j, 10000 = j + 1 := ⟨9999, rfl⟩
            have hj' : j = 9999 := by omega
            rw [hj, hj']
            simp only [Instr.sameBits, Bool.and_eq_true, beq_iff_eq]
            exact ⟨by simpa using q1, by simpa using q2⟩
      · cases h
    all_goals (split at h <;> simp [eqA] at h)
  · cases hk

end Go.Ai

/- Maps: looking up, storing, deleting. -/
namespace Go.Ai
open Go.RowKit

theorem keyOk_same {C : Cfg} {t : TypeId} {a b : AV} (hk : keyOk (C.T t) a = true) {r : Bool} (h : eqT (C.T t) a b = some r) : keyOk (C.T t) b = true := by
  unfold keyOk at hk
  split at hk
  · cases b <;> simp only [eqT, Option.bind_eq_some_iff] at h <;> obtain ⟨ti, hti, h⟩ := h <;> split at h <;> simp [eqA] at h
    rw [hti] at hk ⊢
    exact hk
  · cases b <;> simp only [eqT, Option.bind_eq_some_iff] at h <;> obtain ⟨ti, hti, h⟩ := h
    case agg m =>
      obtain ⟨ps, hps, h⟩ := h
      split at h
      · rename_i hf
        simp only [Bool.and_eq_true] at hf
        rw [hti]
        simp only [keyOk, hps, hf.1.1, hf.2, Bool.and_self]
      · cases h
    all_goals (split at h <;> simp [eqA] at h)
  · cases hk

theorem findAsking_ok {C : Cfg} (hT : TOk C) {E : Env} {t : TypeId} {k : AV} {ck : Value} (hk : VR E k ck) (w : World) : ∀ {es : List (AV × AV)} {ces : List MapEntry}, ER E es ces → ∀ {i : Nat} {r : Option Nat}, findKey (C.T t) k es i = some r →
    (Instr.findAsking t ck ces i).run C.P w = .ok (r.map fun j => (j, ((ces[j - i]?).map (·.val)).getD undef)) w ∧ (∀ j, r = some j → i ≤ j ∧ j - i < es.length) := by
  intro es
  induction es with
  | nil => intro ces h i r hr; cases h; simp [findKey] at hr; subst hr; exact ⟨rfl, fun j h => by cases h⟩
  | cons e es ih =>
    intro ces h i r hr
    obtain ⟨ek, ev⟩ := e
    rcases h with _ | ⟨h1, h2, h3⟩
    rename_i ce ces
    simp only [findKey, Option.bind_eq_some_iff] at hr
    obtain ⟨b, hb, hr⟩ := hr
    have he := (eqT_ok hT hk h1 hb).1 w 10000 (by omega)
    cases b
    · simp only [Bool.false_eq_true, if_false] at hr
      obtain ⟨g1, g2⟩ := ih h3 hr
      refine ⟨?_, fun j hj => by have := g2 j hj; simp; omega⟩
      simp only [Instr.findAsking, Op.equal, Op.maxDepth, Sem.run_bind, he, Result.andThen_ok, Bool.false_eq_true, if_false, g1]
      cases r with
      | none => rfl
      | some j =>
        have := g2 j rfl
        simp only [Option.map_some]
        rw [show j - i = (j - (i + 1)) + 1 from by omega]; simp
    · simp at hr; subst hr
      refine ⟨?_, fun j hj => by cases hj; simp⟩
      simp [Instr.findAsking, Op.equal, Op.maxDepth, he]

theorem findNow_int {C : Cfg} {E : Env} {t : TypeId} {kk k : IntKind} {n : Int} {ti : TI} (hti : C.T t = some ti) (_hd : ti.d = .int kk) : ∀ {es : List (AV × AV)} {ces : List MapEntry}, ER E es ces → ∀ {i : Nat} {r : Option Nat}, findKey (C.T t) (.int k n) es i = some r →
    Instr.findNow (.int kk) (.int k n) ces i = some (r.map fun j => (j, ((ces[j - i]?).map (·.val)).getD undef)) ∧ (∀ j, r = some j → i ≤ j ∧ j - i < es.length) := by
  intro es
  induction es with
  | nil => intro ces h i r hr; cases h; simp [findKey] at hr; subst hr; exact ⟨rfl, fun j h => by cases h⟩
  | cons e es ih =>
    intro ces h i r hr
    obtain ⟨ek, ev⟩ := e
    rcases h with _ | ⟨h1, h2, h3⟩
    rename_i ce ces
    simp only [findKey, Option.bind_eq_some_iff] at hr
    obtain ⟨b, hb, hr⟩ := hr
    have : ∃ m, ek = .int k m ∧ b = (n == m) := by
      cases ek <;> simp only [eqT, hti, Option.bind_some] at hb <;> split at hb <;> simp [eqA] at hb
      obtain ⟨rfl, rfl⟩ := hb
      exact ⟨_, rfl, rfl⟩
    obtain ⟨m, rfl, rfl⟩ := this
    obtain ⟨ck, cv, born⟩ := ce
    cases h1
    by_cases he : n = m
    · subst he
      simp at hr; subst hr
      refine ⟨?_, fun j hj => by cases hj; simp⟩
      simp [Instr.findNow, Instr.sameNow]
    · have hbf : (n == m) = false := by simp [he]
      rw [hbf] at hr
      simp only [Bool.false_eq_true, if_false] at hr
      obtain ⟨g1, g2⟩ := ih h3 hr
      refine ⟨?_, fun j hj => by have := g2 j hj; simp; omega⟩
      simp only [Instr.findNow, Instr.sameNow, if_true, hbf, g1]
      cases r with
      | none => rfl
      | some j =>
        have := g2 j rfl
        simp only [Option.map_some]
        rw [show j - i = (j - (i + 1)) + 1 from by omega]; simp

theorem findKey_ok {C : Cfg} (hT : TOk C) {E : Env} {t : TypeId} {k : AV} {ck : Value} (hk : VR E k ck) (hko : keyOk (C.T t) k = true) (w : World) {es : List (AV × AV)} {ces : List MapEntry} (h : ER E es ces) {r : Option Nat} (hr : findKey (C.T t) k es 0 = some r) :
    (Instr.findKey t ck ces).run C.P w = .ok (r.map fun j => (j, ((ces[j]?).map (·.val)).getD undef)) w ∧ (∀ j, r = some j → j < es.length) := by
  have hko' := hko
  unfold keyOk at hko
  split at hko
  · rename_i kk n
    cases hk
    split at hko
    · rename_i ti hti
      obtain ⟨i, d, z, ty⟩ := hT.ty hti
      split at hko
      · rename_i kd hd
        have hdesc := ty.desc
        rw [hd] at hdesc
        simp only [descOk] at hdesc; subst hdesc
        obtain ⟨g1, g2⟩ := findNow_int hti hd h hr
        refine ⟨?_, fun j hj => by simpa using (g2 j hj).2⟩
        simp only [Instr.findKey, Sem.run_bind, run_underlying_of ty.und, Result.andThen_ok, g1, Sem.run_pure, Nat.sub_zero]
      · cases hko
    · cases hko
  · rename_i l
    obtain ⟨g1, g2⟩ := findAsking_ok hT hk w h hr
    refine ⟨?_, fun j hj => by simpa using (g2 j hj).2⟩
    split at hko
    · rename_i ti hti
      obtain ⟨i, d, z, ty⟩ := hT.ty hti
      cases hk with
      | @agg _ cl hl =>
        cases es with
        | nil =>
          cases h
          simp [findKey] at hr; subst hr
          simp [Instr.findKey, run_underlying_of ty.und, Instr.findNow]
        | cons e es =>
          obtain ⟨ek, ev⟩ := e
          rcases h with _ | ⟨h1, h2, h3⟩
          have hn : ∀ d' : TypeDesc, Instr.findNow d' (.agg cl) (‹MapEntry› :: ‹List MapEntry›) 0 = none := fun d' => by
            simp only [Instr.findNow]
            have : ∀ v, Instr.sameNow d' (.agg cl) v = none := fun v => by cases d' <;> rfl
            rw [this]
          simp only [Instr.findKey, Sem.run_bind, run_underlying_of ty.und, Result.andThen_ok, hn]
          simpa using g1
    · cases hko
  · cases hko

theorem ER.length {E : Env} : ∀ {es : List (AV × AV)} {ces : List MapEntry}, ER E es ces → es.length = ces.length := by
  intro es
  induction es with
  | nil => intro ces h; cases h; rfl
  | cons e es ih => intro ces h; obtain ⟨k, v⟩ := e; rcases h with _ | ⟨_, _, h3⟩; simp [ih h3]

theorem ER.get {E : Env} : ∀ {es : List (AV × AV)} {ces : List MapEntry}, ER E es ces → ∀ {j : Nat} {x : AV × AV}, es[j]? = some x → ∃ ce, ces[j]? = some ce ∧ VR E x.1 ce.key ∧ VR E x.2 ce.val := by
  intro es
  induction es with
  | nil => intro ces h j x hj; simp at hj
  | cons e es ih =>
    intro ces h j x hj
    obtain ⟨k, v⟩ := e
    rcases h with _ | ⟨h1, h2, h3⟩
    cases j with
    | zero => simp at hj; subst hj; exact ⟨_, by simp, h1, h2⟩
    | succ j => simpa using ih h3 (by simpa using hj)

theorem ER.push {E : Env} : ∀ {es : List (AV × AV)} {ces : List MapEntry}, ER E es ces → ∀ {k v : AV} {ce : MapEntry}, VR E k ce.key → VR E v ce.val → ER E (es ++ [(k, v)]) (ces ++ [ce]) := by
  intro es
  induction es with
  | nil => intro ces h k v ce hk hv; cases h; exact .cons hk hv .nil
  | cons e es ih => intro ces h k v ce hk hv; obtain ⟨a, b⟩ := e; rcases h with _ | ⟨h1, h2, h3⟩; exact .cons h1 h2 (ih h3 hk hv)

theorem ER.set {E : Env} : ∀ {es : List (AV × AV)} {ces : List MapEntry}, ER E es ces → ∀ (i : Nat) {k v : AV} {f : MapEntry → MapEntry}, (∀ ce, ces[i]? = some ce → VR E k (f ce).key ∧ VR E v (f ce).val) → ER E (es.set i (k, v)) (ces.modify i f) := by
  intro es
  induction es with
  | nil => intro ces h i k v f _; cases h; simpa using ER.nil
  | cons e es ih =>
    intro ces h i k v f hf
    obtain ⟨a, b⟩ := e
    rcases h with _ | ⟨h1, h2, h3⟩
    cases i with
    | zero => obtain ⟨g1, g2⟩ := hf _ rfl; simpa using ER.cons g1 g2 h3
    | succ i => simpa using ER.cons h1 h2 (ih h3 i (fun ce hce => hf ce (by simpa using hce)))

theorem ER.erase {E : Env} : ∀ {es : List (AV × AV)} {ces : List MapEntry}, ER E es ces → ∀ (i : Nat), ER E (es.eraseIdx i) (ces.eraseIdx i) := by
  intro es
  induction es with
  | nil => intro ces h i; cases h; simpa using ER.nil
  | cons e es ih =>
    intro ces h i
    obtain ⟨a, b⟩ := e
    rcases h with _ | ⟨h1, h2, h3⟩
    cases i with
    | zero => simpa using h3
    | succ i => simpa using ER.cons h1 h2 (ih h3 i)

/-- The entries of a map. -/
theorem mapOf_ok {E : Env} {h : H} {w : World} (r : HR E h w) {m : AV} {cm : Value} (hm : VR E m cm) {es : List (AV × AV)} (h1 : mapOf h m = some es) :
    (cm = .map none ∧ es = []) ∨ ∃ b ces clk, cm = .map (some b) ∧ w.heap[b]? = some (.map ces clk) ∧ ER E es ces.toList := by
  cases hm with
  | @map id x hid =>
    simp only [mapOf] at h1
    split at h1
    · rename_i es' hget
      simp at h1; subst h1
      obtain ⟨x', hx', ces, clk, g1, g2⟩ := r.live id _ hget
      rw [hid] at hx'; cases hx'
      exact .inr ⟨_, ces, clk, rfl, g1, g2⟩
    · cases h1
  | imap hq he => simp [mapOf] at h1; subst h1; exact .inr ⟨_, _, _, rfl, r.imm _ _ hq, he⟩
  | nilm => simp [mapOf] at h1; subst h1; exact .inl ⟨rfl, rfl⟩
  | _ => simp [mapOf] at h1

theorem run_getObj_map {P : Program} {w : World} {b : Nat} {ces : Array MapEntry} {clk : Nat} (h : w.heap[b]? = some (.map ces clk)) : (getObj b).run P w = .ok (.map ces clk) w := by
  simp [getObj, Sem.run, h]

theorem lookup_ok {C : Cfg} (hT : TOk C) {E : Env} {h : H} {w : World} (r : HR E h w) {t kt e : TypeId} {ti te : TI} (ht : C.T t = some ti) (hd : ti.d = .map kt e) (he : C.T e = some te) {m k : AV} {cm ck : Value} (hm : VR E m cm) (hk : VR E k ck)
    (hko : keyOk (C.T kt) k = true) {es : List (AV × AV)} (hes : mapOf h m = some es) {x : Option Nat} (hx : findKey (C.T kt) k es 0 = some x) (ok : Bool) :
    ∃ cv, (Instr.lookup t cm ck ok).run C.P w = .ok cv w ∧
      VR E (lookRes te ok es x) cv := by
  obtain ⟨i, d, z, ty⟩ := hT.ty ht
  obtain ⟨ie, de, ze, tye⟩ := hT.ty he
  have hdesc := ty.desc
  rw [hd] at hdesc
  simp only [descOk] at hdesc; subst hdesc
  have hzero := zeroV_ok (E := E) tye
  have tup2 : ∀ {y : AV} {cy : Value} (b : Bool), VR E y cy → VR E (.tup [y, .bool b]) (.tuple #[cy, .bool b]) := fun b h => .tup (.cons h (.cons (.bool b) .nil))
  have fin : ∀ (ces : List MapEntry), ER E es ces → ∃ cy b, VR E (match x with | some i => ((es[i]?).map (·.2) |>.getD undefA) | none => if te.agg then .agg te.zero else te.zero.headD undefA) cy ∧
      b = x.isSome ∧ ∀ w', ((do
        let (v, o) ← match (x.map fun j => (j, ((ces[j]?).map (·.val)).getD undef) : Option (Nat × Value)) with
          | some (_, v) => Pure.pure (v, true)
          | none => Pure.pure (← zeroValue e, false)
        Pure.pure (if ok then Value.tuple #[v, .bool o] else v)) : Sem Value).run C.P w' = .ok (if ok then Value.tuple #[cy, .bool b] else cy) w' := fun ces her => by
    cases x with
    | none => exact ⟨ze, false, hzero, rfl, fun w' => by simp [run_zeroValue_of tye]⟩
    | some j =>
      obtain ⟨_, hj⟩ := findKey_ok hT hk hko w her hx
      have hjl := hj j rfl
      obtain ⟨ce, g1, _, g2⟩ := her.get (List.getElem?_eq_getElem hjl)
      exact ⟨ce.val, true, by simpa [List.getElem?_eq_getElem hjl] using g2, rfl, fun w' => by simp [g1]⟩
  have hend : ∀ (cy : Value) (b : Bool), b = x.isSome → VR E (match x with | some i => ((es[i]?).map (·.2) |>.getD undefA) | none => if te.agg then .agg te.zero else te.zero.headD undefA) cy →
      VR E (lookRes te ok es x) (if ok then Value.tuple #[cy, .bool b] else cy) := fun cy b hb hv => by
    subst hb
    unfold lookRes
    cases x <;> cases ok <;> simp at hv ⊢ <;> first | exact hv | exact tup2 _ hv
  rcases mapOf_ok r hm hes with ⟨rfl, rfl⟩ | ⟨b, ces, clk, rfl, hb, her⟩
  · obtain ⟨cy, b, g1, g2, g3⟩ := fin [] .nil
    obtain ⟨hf, _⟩ := findKey_ok hT hk hko w (ER.nil (E := E)) hx
    refine ⟨_, ?_, hend cy b g2 g1⟩
    simp only [Instr.lookup, Sem.run_bind, run_underlying_of ty.und, Result.andThen_ok, Sem.run_pure, keyOk_ok hT hk hko, hf]
    have g := g3 w
    cases x <;> exact g
  · obtain ⟨cy, b', g1, g2, g3⟩ := fin ces.toList her
    obtain ⟨hf, _⟩ := findKey_ok hT hk hko w her hx
    refine ⟨_, ?_, hend cy b' g2 g1⟩
    simp only [Instr.lookup, Sem.run_bind, run_underlying_of ty.und, Result.andThen_ok, Sem.run_pure, run_getObj_map hb, keyOk_ok hT hk hko, hf]
    have g := g3 w
    cases x <;> exact g

end Go.Ai
