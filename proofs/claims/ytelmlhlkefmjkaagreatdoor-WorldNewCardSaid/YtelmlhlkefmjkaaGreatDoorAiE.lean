import Derived.Test.YtelmlhlkefmjkaaGreatDoorAiD
import Derived.Lib.ConvBytes
import Derived.Lib.Bytealg
set_option linter.unusedSimpArgs false
set_option linter.unusedVariables false
/- Storing into maps; deleting; lengths; texts. -/
namespace Go.Ai
open Go.RowKit

theorem run_setObj {P : Program} {w : World} {b : Nat} {o o' : Go.Obj} (h : w.heap[b]? = some o) (hc : ∀ c e f, o ≠ .cells c e f) : (setObj b o').run P w = .ok () { w with heap := w.heap.setIfInBounds b o' } := by
  cases o <;> first | (simp [setObj, Sem.run, h]; done) | exact absurd rfl (hc _ _ _)

theorem heap_set_same {w : World} {b : Nat} {o o' : Go.Obj} (h : w.heap[b]? = some o) : ({ w with heap := w.heap.setIfInBounds b o' } : World).heap[b]? = some o' := by
  have := heap_lt h
  simp [this]

theorem heap_set_other {w : World} {b k : Nat} {o' : Go.Obj} (h : k ≠ b) : ({ w with heap := w.heap.setIfInBounds b o' } : World).heap[k]? = w.heap[k]? := by
  simp only
  rw [Array.getElem?_setIfInBounds_ne (by omega)]

/-- An object that is no row of cells is turned. -/
theorem setObj_ok {P : Program} {E : Env} {h : H} {w : World} (r : HR E h w) {id : Nat} {x : M} {oi o : Obj} {co co' : Go.Obj} (hi : h.get id = some oi) (hx : E.m id = some x) (hb : w.heap[x.blk]? = some co) (hc : ∀ c e f, co ≠ .cells c e f)
    (ho : ∀ w', w'.heap[x.blk]? = some co' → OR E x w' o) : UnitOk P (setObj x.blk co') E h w (h.set id o) :=
  ⟨_, E, run_setObj hb hc, r.set hi hx (fun _ hk => heap_set_other hk) (ho _ (heap_set_same hb)), Ext.set _ hi hx rfl rfl rfl (by simp) (fun _ _ hk => heap_set_other hk)⟩

theorem mapUpdate_ok {C : Cfg} (hT : TOk C) {E : Env} {h : H} {w : World} (r : HR E h w) {t kt e : TypeId} {ti : TI} (ht : C.T t = some ti) (hd : ti.d = .map kt e) {id : Nat} {k v : AV} {cm ck cv : Value} (hm : VR E (.map id) cm) (hk : VR E k ck) (hv : VR E v cv)
    (hko : keyOk (C.T kt) k = true) {es : List (AV × AV)} (hes : mapOf h (.map id) = some es) {x : Option Nat} (hx : findKey (C.T kt) k es 0 = some x) :
    UnitOk C.P (Instr.mapUpdate t cm ck cv) E h w (h.set id (.map (match x with | some i => es.set i (k, v) | none => es ++ [(k, v)]))) := by
  obtain ⟨i, d, z, ty⟩ := hT.ty ht
  have hdesc := ty.desc
  rw [hd] at hdesc
  simp only [descOk] at hdesc; subst hdesc
  cases hm with
  | @map _ y hid =>
    simp only [mapOf] at hes
    split at hes
    · rename_i es' hget
      simp at hes; subst hes
      obtain ⟨y', hy', ces, clk, g1, g2⟩ := r.live id _ hget
      rw [hid] at hy'; cases hy'
      obtain ⟨hf, hlt⟩ := findKey_ok hT hk hko w g2 hx
      cases x with
      | none =>
        have hset := setObj_ok (P := C.P) r hget hid g1 (fun _ _ _ h => by cases h) (o := .map (es' ++ [(k, v)])) (co' := .map (ces.push { key := ck, val := cv, born := clk }) (clk + 1))
          (fun w' hw' => ⟨_, _, hw', by simpa using g2.push (ce := { key := ck, val := cv, born := clk }) hk hv⟩)
        obtain ⟨w', E', q1, q2⟩ := hset
        refine ⟨w', E', ?_, q2⟩
        simp only [Instr.mapUpdate, Sem.run_bind, run_underlying_of ty.und, Result.andThen_ok, run_getObj_map g1, keyOk_ok hT hk hko, hf, Option.map_none]
        exact q1
      | some j =>
        have hj := hlt j rfl
        have hjc : j < ces.toList.length := by rw [← g2.length]; exact hj
        obtain ⟨ce, q1, q2, q3⟩ := g2.get (List.getElem?_eq_getElem hj)
        have hb : eqT (C.T kt) k (es'[j]).1 = some true := by
          have key : ∀ (es : List (AV × AV)) (i : Nat) (j : Nat), findKey (C.T kt) k es i = some (some j) → i ≤ j ∧ ∃ x, es[j - i]? = some x ∧ eqT (C.T kt) k x.1 = some true := by
            intro es
            induction es with
            | nil => intro i j h; simp [findKey] at h
            | cons a es ih =>
              intro i j h
              simp only [findKey, Option.bind_eq_some_iff] at h
              obtain ⟨b, hb, h⟩ := h
              cases b
              · simp only [Bool.false_eq_true, if_false] at h
                obtain ⟨h1, x, h2, h3⟩ := ih _ _ h
                refine ⟨by omega, x, ?_, h3⟩
                rw [show j - i = (j - (i + 1)) + 1 from by omega]; simpa using h2
              · simp at h; subst h; exact ⟨Nat.le_refl _, a, by simp, hb⟩
          obtain ⟨_, x, h2, h3⟩ := key _ _ _ hx
          rw [Nat.sub_zero, List.getElem?_eq_getElem hj] at h2
          cases h2; exact h3
        have hsame := sameBits_of_eq hk q2 hko hb
        have hce : ces[j]? = some ce := by rw [← Array.getElem?_toList]; exact q1
        have hset := setObj_ok (P := C.P) r hget hid g1 (fun _ _ _ h => by cases h) (o := .map (es'.set j (k, v))) (co' := .map (ces.modify j fun e => { e with key := ck, val := cv }) clk)
          (fun w' hw' => ⟨_, _, hw', by rw [Array.toList_modify]; exact g2.set j (fun ce _ => ⟨hk, hv⟩)⟩)
        obtain ⟨w', E', s1, s2⟩ := hset
        refine ⟨w', E', ?_, s2⟩
        simp only [Instr.mapUpdate, Sem.run_bind, run_underlying_of ty.und, Result.andThen_ok, run_getObj_map g1, keyOk_ok hT hk hko, hf, Option.map_some, hce, Option.getD_some, Instr.keyThatStays, hsame, if_true, Sem.run_pure]
        exact s1
    · cases hes

theorem delete_ok {C : Cfg} (hT : TOk C) {E : Env} {h : H} {w : World} (r : HR E h w) {argTypes : Array TypeId} {type t kt e : TypeId} {ti : TI} (h0 : argTypes[0]? = some t) (ht : C.T t = some ti) (hd : ti.d = .map kt e) {id : Nat} {k : AV} {cm ck : Value}
    (hm : VR E (.map id) cm) (hk : VR E k ck) (hko : keyOk (C.T kt) k = true) {es : List (AV × AV)} (hes : mapOf h (.map id) = some es) {x : Option Nat} (hx : findKey (C.T kt) k es 0 = some x) :
    ValOk C.P (Builtin.delete_ argTypes type #[cm, ck]) E h w (.tup []) (match x with | some i => h.set id (.map (es.eraseIdx i)) | none => h) := by
  obtain ⟨i, d, z, ty⟩ := hT.ty ht
  have hdesc := ty.desc
  rw [hd] at hdesc
  simp only [descOk] at hdesc; subst hdesc
  cases hm with
  | @map _ y hid =>
    simp only [mapOf] at hes
    split at hes
    · rename_i es' hget
      simp at hes; subst hes
      obtain ⟨y', hy', ces, clk, g1, g2⟩ := r.live id _ hget
      rw [hid] at hy'; cases hy'
      obtain ⟨hf, hlt⟩ := findKey_ok hT hk hko w g2 hx
      cases x with
      | none =>
        have hrun := run_setObj (P := C.P) (o' := .map ces clk) g1 (fun _ _ _ h => by cases h)
        have hsame : (w.heap.setIfInBounds y.blk (.map ces clk)) = w.heap := by
          apply Array.ext_getElem?
          intro j
          by_cases hj : y.blk = j
          · subst hj; rw [g1]; simp [heap_lt g1]
          · rw [Array.getElem?_setIfInBounds_ne hj]
        refine ⟨.tuple #[], w, E, ?_, .tup (by simpa using VRs.nil), r, Ext.refl _ _ _⟩
        simp only [Builtin.delete_, h0, List.getElem?_toArray, List.getElem?_cons_zero, List.getElem?_cons_succ, Sem.run_bind, run_underlying_of ty.und, Result.andThen_ok, run_getObj_map g1, keyOk_ok hT hk hko, hf, Option.map_none, hrun, hsame, Sem.run_pure]
      | some j =>
        have hset := setObj_ok (P := C.P) r hget hid g1 (fun _ _ _ h => by cases h) (o := .map (es'.eraseIdx j)) (co' := .map (ces.eraseIdxIfInBounds j) clk)
          (fun w' hw' => ⟨_, _, hw', by rw [Array.toList_eraseIdxIfInBounds]; exact g2.erase j⟩)
        obtain ⟨w', E', s1, s2⟩ := hset
        refine ⟨.tuple #[], w', E', ?_, .tup (by simpa using VRs.nil), s2⟩
        simp only [Builtin.delete_, h0, List.getElem?_toArray, List.getElem?_cons_zero, List.getElem?_cons_succ, Sem.run_bind, run_underlying_of ty.und, Result.andThen_ok, run_getObj_map g1, keyOk_ok hT hk hko, hf, Option.map_some, s1, Sem.run_pure]
    · cases hes

end Go.Ai

/- Every operation. -/
namespace Go.Ai
open Go.RowKit

/-- What stands for the library's functions without a body is so. -/
structure XtOk (C : Cfg) : Prop where
  count : ∀ f, C.ext f = some .countString → ∀ args w, (callFunc f args).run C.P w = (do Pure.pure (Next.value (← Extern.BytealgCount.count args)) : Sem Next).run C.P w
  index : ∀ f, C.ext f = some .indexByteString → ∀ args w, (callFunc f args).run C.P w = (do Pure.pure (Next.value (← Extern.BytealgIndexByte.indexByte args)) : Sem Next).run C.P w
  clone : ∀ f, C.ext f = some .mapsClone → ∀ args w, (callFunc f args).run C.P w = (do Pure.pure (Next.value (← Extern.MapsClone.clone args)) : Sem Next).run C.P w

def EffOk (C : Cfg) (E : Env) (h : H) (w : World) (sem : Sem Next) : Eff → Prop
  | .val v h' => OpOk C.P sem E h w v h'
  | .call (.fn f) args => ∃ cargs : Array Value, VRs E args cargs.toList ∧ sem.run C.P w = (callFunc f cargs).run C.P w ∧ C.ext f = none
  | .call (.round id) args => ∃ (x : M) (cargs : Array Value), E.m id = some x ∧ VRs E args cargs.toList ∧ sem.run C.P w = (Instr.yield x.blk cargs).run C.P w
  | .call (.dfn ..) _ => False
  | .panic v => ∃ cv, VR E v cv ∧ sem.run C.P w = .halt (.panic cv) w
  | .defer f args => ∃ (cargs cap : Array Value), VRs E args (cargs ++ cap).toList ∧ sem.run C.P w = .ok (.defer { target := .fn (.func f) cap, args := cargs }) w
  | .recover => sem.run C.P w = .ok .recover w

theorem vOk {C : Cfg} {E : Env} {h : H} {w : World} {s : Sem Value} {v : AV} (r : HR E h w) (k : ∃ cv, VR E v cv ∧ s.run C.P w = .ok cv w) : EffOk C E h w (do Pure.pure (.value (← s))) (.val v h) := by
  obtain ⟨cv, h1, h2⟩ := k
  exact ⟨.value cv, cv, w, E, by simp only [Sem.run_bind, h2, Result.andThen_ok, Sem.run_pure], .inl rfl, h1, r, Ext.refl _ _ _⟩

theorem cOk {C : Cfg} {E : Env} {h : H} {w : World} {s : Sem Value} {v : AV} (r : HR E h w) (k : Comp C.P s E v) : EffOk C E h w (do Pure.pure (.value (← s))) (.val v h) :=
  let ⟨cv, h1, h2⟩ := k; vOk r ⟨cv, h1, h2 w⟩

theorem minA_ok {P : Program} {E : Env} (isMax : Bool) {a b v : AV} {ca cb : Value} (ha : VR E a ca) (hb : VR E b cb) (h : minA isMax a b = some v) :
    ∃ cv, VR E v cv ∧ ∀ w, (if isMax then Builtin.max2 ca cb else Builtin.min2 ca cb).run P w = .ok cv w := by
  cases ha <;> simp only [minA] at h <;> try (cases h; done)
  cases hb <;> simp only [] at h <;> try (cases h; done)
  rename_i k n k' n'
  split at h
  · rename_i hk; subst hk
    cases isMax
    · simp at h; subst h; exact ⟨_, .int _ _, fun w => by simp [Builtin.min2]⟩
    · simp at h; subst h; exact ⟨_, .int _ _, fun w => by simp [Builtin.max2]⟩
  · cases h

theorem fold_ok {P : Program} {E : Env} (isMax : Bool) : ∀ {l : List AV} {cl : List Value}, VRs E l cl → ∀ {a v : AV} {ca : Value}, VR E a ca → l.foldlM (minA isMax) a = some v →
    ∃ cv, VR E v cv ∧ ∀ w, (cl.foldlM (fun x y => if isMax then Builtin.max2 x y else Builtin.min2 x y) ca).run P w = .ok cv w := by
  intro l
  induction l with
  | nil => intro cl h a v ca ha hv; cases h; simp at hv; subst hv; exact ⟨ca, ha, fun w => rfl⟩
  | cons x l ih =>
    intro cl h a v ca ha hv
    rcases h with _ | ⟨h1, h2⟩
    simp only [List.foldlM_cons, Option.bind_eq_bind, Option.bind_eq_some_iff] at hv
    obtain ⟨b, hb, hv⟩ := hv
    obtain ⟨cb, g1, g2⟩ := minA_ok (P := P) isMax ha h1 hb
    obtain ⟨cv, g3, g4⟩ := ih h2 g1 hv
    exact ⟨cv, g3, fun w => by simp only [List.foldlM_cons, Sem.run_bind, g2, Result.andThen_ok, g4]⟩

/-- Rows behind one another, all of one kind, in place of others. -/
theorem clear_ok {C : Cfg} (hT : TOk C) {E : Env} {h : H} {w : World} (r : HR E h w) {argTypes : Array TypeId} {type t e : TypeId} {ti te : TI} (h0 : argTypes[0]? = some t) (ht : C.T t = some ti) (hd : ti.d = .slice e) (he : C.T e = some te)
    {x : AV} {cx : Value} (hx : VR E x cx) {v : AV} {h' : H} (hv : clearA h te x = some (.val v h')) : ValOk C.P (Builtin.clear_ argTypes type #[cx]) E h w v h' := by
  obtain ⟨ii, d, z, ty⟩ := hT.ty ht
  obtain ⟨ie, de, ze, tye⟩ := hT.ty he
  have hdesc := ty.desc
  rw [hd] at hdesc
  simp only [descOk] at hdesc; subst hdesc
  simp only [clearA, Option.bind_eq_some_iff] at hv
  obtain ⟨n, hn, hv⟩ := hv
  obtain ⟨base, c, rfl⟩ := slLen_ok hx hn
  split at hv
  · rename_i h0n; subst h0n
    simp only [Option.some.injEq, Eff.val.injEq] at hv
    obtain ⟨rfl, rfl⟩ := hv
    refine ⟨.tuple #[], w, E, ?_, .tup (by simpa using VRs.nil), r, Ext.refl _ _ _⟩
    cases base <;> simp only [Builtin.clear_, h0, List.getElem?_toArray, List.getElem?_cons_zero, Sem.run_bind, run_underlying_of ty.und, Result.andThen_ok, Sem.run_pure]
  · rename_i hne
    cases hx with
    | @sl id i n c' y hid hn0 hc' =>
      simp only [Option.bind_eq_some_iff] at hv
      obtain ⟨rs, hrs, hv⟩ := hv
      split at hv
      · rename_i hc
        obtain ⟨hle, hwid, hone⟩ := hc
        simp only [Option.some.injEq, Eff.val.injEq] at hv
        obtain ⟨rfl, rfl⟩ := hv
        have hget := rows_spec hrs
        obtain ⟨y', hy', g0, cc, ee, lo, hi, g1, g2, g3, g4, g5⟩ := r.live id _ hget
        rw [hid] at hy'; cases hy'
        rw [hwid] at g0
        obtain ⟨yb, yd, yw, yc⟩ := y
        simp only at g0 g1 g2 g3 g4 g5 hc'
        subst g0
        have hz := ofVals_ok (E := E) _ _ tye.zeros
        have hzl : ze.cells.size = te.size := by have := hz.length; simp at this; rw [← this]; exact tye.zlen
        have h0 := zero_cells hz n
        have hsz := zeroCells_size ze.cells n
        rw [hzl] at hsz
        generalize hvs : (Builtin.zeroCells ze.cells n).toList = vs at h0
        have hvl : vs.length = n * te.size := by rw [← hvs]; simpa using hsz
        have hcap : (i + n) * te.size ≤ yc * te.size := Nat.mul_le_mul_right _ (by omega)
        rw [Nat.add_mul] at hcap
        obtain ⟨w', s1, s2, s3, s4, s5, s6, s7⟩ := run_storeCells (P := C.P) (b := yb) (o := yd + i * te.size) vs 0 w cc g1 (by omega)
          (fun q h1 h2 => g5 q (by omega) (by omega)) (h0.all_one (fun v hv => by
            obtain ⟨l, hl, hv⟩ := List.mem_flatten.1 hv
            rw [List.eq_of_mem_replicate hl] at hv
            exact List.all_eq_true.1 hone v hv))
        refine ⟨.tuple #[], w', E, ?_, .tup (by simpa using VRs.nil), r.set hget hid (fun b hb => s3 b hb) ⟨rfl, _, ee, lo, hi, s2, ?_, ?_, by rw [setV_size]; exact g4, g5⟩, Ext.set _ hget hid s5 s6 s7 (by omega) (fun b _ hb => s3 b hb)⟩
        · obtain ⟨m, rfl⟩ : ∃ m, n = m + 1 := ⟨n - 1, by omega⟩
          simp only [Builtin.clear_, ‹argTypes[0]? = some t›, List.getElem?_toArray, List.getElem?_cons_zero, Sem.run_bind, run_underlying_of ty.und, Result.andThen_ok, run_zeroValue_of tye, hvs, s1, Sem.run_pure]
        · have htl : (rs.take i).length = i := by simp; omega
          show RR _ _ yd te.size _
          refine RR_iff.2 fun j r' hj => ?_
          by_cases hin : i ≤ j ∧ j < i + n
          · have hj' : r' = te.zero := by
              rw [List.append_assoc, List.getElem?_append_right (by omega), htl, List.getElem?_append_left (by simp; omega)] at hj
              exact List.eq_of_mem_replicate (List.mem_of_getElem? hj)
            subst hj'
            refine ⟨tye.zlen, fun k v hk => ?_⟩
            have hkl : k < te.size := by
              rcases Nat.lt_or_ge k te.zero.length with h | h
              · rw [← tye.zlen]; exact h
              · rw [List.getElem?_eq_none h] at hk; cases hk
            have hjm := Nat.mul_le_mul_right te.size (show j + 1 ≤ i + n by omega)
            rw [Nat.succ_mul, Nat.add_mul] at hjm
            have hij : j * te.size = i * te.size + (j - i) * te.size := by rw [← Nat.add_mul]; congr 1; omega
            have hrr := RR_of_flat (E := E) (c := vs.toArray) (p := 0) (size := te.size) (rs := List.replicate n te.zero) (fun r hr => by rw [List.eq_of_mem_replicate hr]; exact tye.zlen) h0 (fun j v h => by simpa using h)
            obtain ⟨_, k2⟩ := RR_iff.1 hrr (j - i) te.zero (by rw [List.getElem?_replicate, if_pos (by omega)])
            obtain ⟨cv, k3, k4⟩ := k2 k v hk
            refine ⟨cv, ?_, k4⟩
            rw [setV_get _ _ _ _ (by omega), if_pos (by omega), ← k3]
            simp only [List.getElem?_toArray]
            congr 1; omega
          · have hj' : rs[j]? = some r' := by
              rcases Nat.lt_or_ge j i with h | h
              · rw [List.append_assoc, List.getElem?_append_left (by omega), List.getElem?_take, if_pos h] at hj; exact hj
              · rw [List.getElem?_append_right (by simp; omega)] at hj
                rw [List.getElem?_drop] at hj
                rw [← hj]; congr 1; simp; omega
            obtain ⟨k1, k2⟩ := RR_iff.1 g2 j r' hj'
            refine ⟨k1, fun k v hk => ?_⟩
            obtain ⟨cv, k3, k4⟩ := k2 k v hk
            have hkl : k < te.size := by
              rcases Nat.lt_or_ge k r'.length with h | h
              · omega
              · rw [List.getElem?_eq_none h] at hk; cases hk
            refine ⟨cv, ?_, k4⟩
            rw [setV_get _ _ _ _ (by omega), if_neg (by
              rcases Nat.lt_or_ge j i with h | h
              · have := Nat.mul_le_mul_right te.size (show j + 1 ≤ i by omega); rw [Nat.succ_mul] at this; omega
              · have := Nat.mul_le_mul_right te.size (show i + n ≤ j by omega); rw [Nat.add_mul] at this; omega)]
            exact k3
        · simp; omega
      · cases hv
    | sl0 => simp [slLen] at hn; omega
    | _ => cases hv

theorem builtin_ok {C : Cfg} (hT : TOk C) {E : Env} {h : H} {w : World} (r : HR E h w) {b : Builtin} {argTypes : Array TypeId} {type : TypeId} {consts : Array Bool} {args : List AV} {cargs : Array Value} (hargs : VRs E args cargs.toList) {eff : Eff}
    (he : builtinA C b argTypes.toList args h = some eff) : EffOk C E h w (Go.builtin b argTypes type consts cargs) eff := by
  obtain ⟨cargs⟩ := cargs
  simp only at hargs
  unfold builtinA at he
  split at he
  · -- append
    rename_i s x
    rcases hargs with _ | ⟨h1, h2⟩
    rcases h2 with _ | ⟨h2, h3⟩
    cases h3
    simp only [Option.bind_eq_bind, Option.bind_eq_some_iff] at he
    obtain ⟨t, ht0, ti, ht, he⟩ := he
    split at he
    · rename_i e hd
      simp only [Option.bind_eq_some_iff] at he
      obtain ⟨te, hte, tx, hx0, tix, hx1, he⟩ := he
      split at he
      · cases he
      · rename_i hint
        simp only [Option.bind_eq_some_iff] at he
        obtain ⟨new, hnew, old, hold, he⟩ := he
        split at he
        · rename_i hc
          simp only [Bool.and_eq_true, decide_eq_true_eq] at hc
          obtain ⟨⟨⟨hw, hb⟩, hs⟩, hl⟩ := hc
          simp only [Option.bind_eq_some_iff] at he
          obtain ⟨⟨v, h'⟩, hv, he⟩ := he
          simp only [Option.pure_def, Option.some.injEq] at he; subst he
          exact ValOk.op (append_ok hT r (by rw [← Array.getElem?_toList]; exact ht0) (by rw [← Array.getElem?_toList]; exact hx0) ht hd hte hx1 (by simpa using hint) h1 h2 hnew hold hw hb hs hl hv)
        · cases he
    · cases he
  · -- len
    rename_i x
    rcases hargs with _ | ⟨h1, h2⟩
    cases h2
    simp only [Option.bind_eq_some_iff] at he
    obtain ⟨t, ht0, ti, ht, he⟩ := he
    rw [Array.getElem?_toList] at ht0
    obtain ⟨i, d, z, ty⟩ := hT.ty ht
    have hdesc := ty.desc
    have key : ∀ {n : Nat} {cx : Value}, (Builtin.len_ argTypes type #[cx]).run C.P w = .ok (goInt n) w → EffOk C E h w (Go.builtin .len argTypes type consts #[cx]) (.val (.int .i64 n) h) := fun {n} {cx} hr =>
      vOk r ⟨goInt n, .int _ _, hr⟩
    split at he
    · rename_i hd; rw [hd] at hdesc; simp only [descOk] at hdesc; subst hdesc
      split at he
      · cases he; cases h1
        exact key (by simp only [Builtin.len_, ht0, List.getElem?_toArray, List.getElem?_cons_zero, Sem.run_bind, run_underlying_of ty.und, Result.andThen_ok, Sem.run_pure])
      · cases he
    · rename_i hd; rw [hd] at hdesc; simp only [descOk] at hdesc; subst hdesc
      simp only [Option.map_eq_some_iff] at he
      obtain ⟨n, hn, rfl⟩ := he
      obtain ⟨base, c, rfl⟩ := slLen_ok h1 hn
      exact key (by simp only [Builtin.len_, ht0, List.getElem?_toArray, List.getElem?_cons_zero, Sem.run_bind, run_underlying_of ty.und, Result.andThen_ok, Sem.run_pure])
    · rename_i hd; rw [hd] at hdesc; simp only [descOk] at hdesc; subst hdesc
      simp only [Option.map_eq_some_iff] at he
      obtain ⟨es, hes, rfl⟩ := he
      cases h1 with
      | @map id y hid =>
        simp only [mapOf] at hes
        split at hes
        · rename_i es' hget
          cases hes
          obtain ⟨y', hy', ces, clk, g1, g2⟩ := r.live id _ hget
          rw [hid] at hy'; cases hy'
          have hl := g2.length
          simp only [Array.length_toList] at hl
          exact key (by simp only [Builtin.len_, ht0, List.getElem?_toArray, List.getElem?_cons_zero, Sem.run_bind, run_underlying_of ty.und, Result.andThen_ok, run_getObj_map g1, Sem.run_pure, hl])
        · cases hes
      | @imap _ b ces clk hq her =>
        simp only [mapOf, Option.some.injEq] at hes; subst hes
        have hl := her.length
        simp only [Array.length_toList] at hl
        exact key (by simp only [Builtin.len_, ht0, List.getElem?_toArray, List.getElem?_cons_zero, Sem.run_bind, run_underlying_of ty.und, Result.andThen_ok, run_getObj_map (r.imm _ _ hq), Sem.run_pure, hl])
      | nilm =>
        simp only [mapOf, Option.some.injEq] at hes; subst hes
        exact key (n := 0) (by simp only [Builtin.len_, ht0, List.getElem?_toArray, List.getElem?_cons_zero, Sem.run_bind, run_underlying_of ty.und, Result.andThen_ok, Sem.run_pure]; rfl)
      | _ => simp [mapOf] at hes
    · rename_i hd; rw [hd] at hdesc; simp only [descOk] at hdesc; subst hdesc
      cases he
      refine key ?_
      simp only [Builtin.len_, ht0, List.getElem?_toArray, List.getElem?_cons_zero, Sem.run_bind, run_underlying_of ty.und, Result.andThen_ok]
      cases h1 <;> rfl
    · cases he
  · -- delete
    rename_i id k
    rcases hargs with _ | ⟨h1, h2⟩
    rcases h2 with _ | ⟨h2, h3⟩
    cases h3
    simp only [Option.bind_eq_some_iff] at he
    obtain ⟨t, ht0, ti, ht, he⟩ := he
    rw [Array.getElem?_toList] at ht0
    split at he
    · rename_i hd
      simp only [Option.bind_eq_some_iff] at he
      obtain ⟨es, hes, he⟩ := he
      split at he
      · rename_i hko
        simp only [Option.map_eq_some_iff] at he
        obtain ⟨x, hx, rfl⟩ := he
        cases x <;> exact (delete_ok hT r ht0 ht hd h1 h2 hko hes hx).op
      · cases he
    · cases he
  · -- min
    rcases hargs with _ | ⟨h1, h2⟩
    simp only [Option.map_eq_some_iff] at he
    obtain ⟨v, hv, rfl⟩ := he
    obtain ⟨cv, g1, g2⟩ := fold_ok (P := C.P) false h2 h1 hv
    exact vOk r ⟨cv, g1, by simpa [Builtin.min_] using g2 w⟩
  · rcases hargs with _ | ⟨h1, h2⟩
    simp only [Option.map_eq_some_iff] at he
    obtain ⟨v, hv, rfl⟩ := he
    obtain ⟨cv, g1, g2⟩ := fold_ok (P := C.P) true h2 h1 hv
    exact vOk r ⟨cv, g1, by simpa [Builtin.max_] using g2 w⟩
  · -- recover
    cases hargs
    simp at he; subst he
    rfl
  · -- clear
    rcases hargs with _ | ⟨h1, h2⟩
    cases h2
    simp only [Option.bind_eq_some_iff] at he
    obtain ⟨t, ht0, ti, ht, he⟩ := he
    rw [Array.getElem?_toList] at ht0
    split at he
    · rename_i e hd
      simp only [Option.bind_eq_some_iff] at he
      obtain ⟨te, hte, he⟩ := he
      have hval : ∃ v h', eff = .val v h' := by
        simp only [clearA, Option.bind_eq_some_iff] at he
        obtain ⟨n, _, he⟩ := he
        split at he
        · cases he; exact ⟨_, _, rfl⟩
        · split at he
          · simp only [Option.bind_eq_some_iff] at he
            obtain ⟨rs, _, he⟩ := he
            split at he
            · cases he; exact ⟨_, _, rfl⟩
            · cases he
          · cases he
      obtain ⟨v, h', rfl⟩ := hval
      exact (clear_ok hT r ht0 ht hd hte h1 he).op
    · cases he
  · cases he

end Go.Ai

/- Indexing, converting, stepping over a text, interfaces, tuples. -/
namespace Go.Ai
open Go.RowKit

theorem indexAddr_arr_ok {C : Cfg} (hT : TOk C) {E : Env} {t e : TypeId} {ti te : TI} (ht : C.T t = some ti) {len : Nat} (hd : ti.d = .arr len e) (he : C.T e = some te)
    {k : IntKind} {n : Int} {j : Nat} (hj : natOf n = some j) (hlt : j < len) {x v : AV} {cx : Value} (hx : VR E x cx)
    (hv : (match x with | .ptr id i k => some (AV.ptr id i (k + j * te.size)) | .iptr rs i k => some (.iptr rs i (k + j * te.size)) | _ => none) = some v) :
    Comp C.P (Instr.indexAt t cx (.int k n)) E v := by
  obtain ⟨i, d, z, ty⟩ := hT.ty ht
  obtain ⟨ie, de, ze, tye⟩ := hT.ty he
  have hdesc := ty.desc
  rw [hd] at hdesc
  simp only [descOk] at hdesc; subst hdesc
  obtain ⟨h0, hnj⟩ := natOf_some hj
  have hlt' : 0 ≤ n ∧ n < (len : Int) := ⟨h0, by omega⟩
  have hrun : ∀ (b o : Nat) (w : World), (Instr.indexAt t (.pointer (some ⟨b, o, none⟩)) (.int k n)).run C.P w = .ok (.pointer (some ⟨b, o + j * te.size, none⟩)) w := fun b o w => by
    simp only [Instr.indexAt, asIntOf, Instr.sureAddr, Sem.run_bind, Sem.run_pure, Result.andThen_ok, run_underlying_of ty.und, hlt', and_self, if_true, run_sizeOf_of tye.info, tye.size, addr_add, hnj]
  cases hx with
  | ptr h =>
    simp at hv; subst hv
    refine ⟨_, ?_, hrun _ _⟩
    rw [Nat.add_assoc]; exact .ptr h
  | iptr h hr =>
    simp at hv; subst hv
    refine ⟨_, ?_, hrun _ _⟩
    rw [Nat.add_assoc]; exact .iptr h hr
  | _ => simp at hv

theorem index_str_ok {C : Cfg} (hT : TOk C) {E : Env} {t : TypeId} {ti : TI} (ht : C.T t = some ti) (hd : ti.d = .str)
    {k : IntKind} {n : Int} {j : Nat} (hj : natOf n = some j) {s : ByteArray} {cx : Value} (hx : VR E (.str s) cx) {b : UInt8} (hb : s[j]? = some b) :
    Comp C.P (Instr.index t cx (.int k n)) E (.int .u8 b.toNat) := by
  obtain ⟨i, d, z, ty⟩ := hT.ty ht
  have hdesc := ty.desc
  rw [hd] at hdesc
  simp only [descOk] at hdesc; subst hdesc
  obtain ⟨h0, hnj⟩ := natOf_some hj
  cases hx
  refine ⟨_, .int _ _, fun w => ?_⟩
  simp only [Instr.index, asIntOf, Sem.run_bind, Sem.run_pure, Result.andThen_ok, run_underlying_of ty.und, h0, if_true, hnj, hb]

theorem index_arr_ok {C : Cfg} (hT : TOk C) {E : Env} {t e : TypeId} {ti te : TI} (ht : C.T t = some ti) {len : Nat} (hd : ti.d = .arr len e) (he : C.T e = some te)
    {k : IntKind} {n : Int} {j : Nat} (hj : natOf n = some j) (hlt : j < len) {l : List AV} {v : AV} {cx : Value} (hx : VR E (.agg l) cx) (hle : j * te.size + te.size ≤ l.length)
    (hv : (if te.agg then some (.agg ((l.drop (j * te.size)).take te.size)) else l[j * te.size]?) = some v) :
    Comp C.P (Instr.index t cx (.int k n)) E v := by
  obtain ⟨i, d, z, ty⟩ := hT.ty ht
  obtain ⟨ie, de, ze, tye⟩ := hT.ty he
  have hdesc := ty.desc
  rw [hd] at hdesc
  simp only [descOk] at hdesc; subst hdesc
  obtain ⟨h0, hnj⟩ := natOf_some hj
  have hlt' : 0 ≤ n ∧ n < (len : Int) := ⟨h0, by omega⟩
  cases hx with
  | @agg _ cl hl =>
    obtain ⟨cv, h1, h2⟩ := part_ok (P := C.P) tye.info tye.und hl (off := j * te.size) (v := v) (by rw [tye.size]; exact hle) (by rw [tye.agg, tye.size]; exact hv)
    refine ⟨cv, h1, fun w => ?_⟩
    simp only [Instr.index, asIntOf, Sem.run_bind, Sem.run_pure, Result.andThen_ok, run_underlying_of ty.und, hlt', and_self, if_true, run_sizeOf_of tye.info, tye.size, hnj]
    exact h2 w

/-! ### Conversions -/
theorem convert_int_ok {C : Cfg} (hT : TOk C) {E : Env} {src dst : TypeId} {ts td : TI} (hs : C.T src = some ts) (hd : C.T dst = some td) {k k' : IntKind} (hdd : td.d = .int k) {n : Int} {cx : Value} (hx : VR E (.int k' n) cx) :
    Comp C.P (convert src dst cx) E (.int k (k.wrap n)) := by
  obtain ⟨i, d, z, ty⟩ := hT.ty hs
  obtain ⟨i', d', z', ty'⟩ := hT.ty hd
  have hdesc := ty'.desc
  rw [hdd] at hdesc
  simp only [descOk] at hdesc; subst hdesc
  cases hx
  exact ⟨_, .int _ _, fun w => by simp only [convert, Sem.run_bind, run_underlying_of ty.und, run_underlying_of ty'.und, Result.andThen_ok, Conv.intToInt, Sem.run_pure]⟩

theorem convert_str_ok {C : Cfg} (hT : TOk C) {E : Env} {src dst : TypeId} {ts td : TI} (hs : C.T src = some ts) (hd : C.T dst = some td) (hdd : td.d = .str) {s : ByteArray} {cx : Value} (hx : VR E (.str s) cx) :
    Comp C.P (convert src dst cx) E (.str s) := by
  obtain ⟨i, d, z, ty⟩ := hT.ty hs
  obtain ⟨i', d', z', ty'⟩ := hT.ty hd
  have hdesc := ty'.desc
  rw [hdd] at hdesc
  simp only [descOk] at hdesc; subst hdesc
  cases hx
  exact ⟨_, .str _, fun w => by simp only [convert, Sem.run_bind, run_underlying_of ty.und, run_underlying_of ty'.und, Result.andThen_ok, Sem.run_pure]⟩

theorem bytesRows_RR {E : Env} (s : ByteArray) (c : Array Value) (hc : ∀ (j : Nat) (b : UInt8), s.data.toList[j]? = some b → c[j]? = some (Value.int .u8 b.toNat)) : RR E c 0 1 (bytesRows s) := by
  refine RR_iff.2 fun i r hi => ?_
  simp only [bytesRows, List.getElem?_map, Option.map_eq_some_iff] at hi
  obtain ⟨b, hb, rfl⟩ := hi
  refine ⟨rfl, fun j v hj => ?_⟩
  cases j with
  | zero => simp at hj; subst hj; exact ⟨_, by simpa using hc i b hb, .int _ _⟩
  | succ j => simp at hj

theorem convert_bytes_ok {C : Cfg} (hT : TOk C) {E : Env} {h : H} {w : World} (r : HR E h w) {src dst e : TypeId} {ts td te : TI} (hs : C.T src = some ts) (hd : C.T dst = some td) (hdd : td.d = .slice e)
    (he : C.T e = some te) (hee : te.d = .int .u8) {s : ByteArray} {cx : Value} (hx : VR E (.str s) cx) :
    ValOk C.P (convert src dst cx) E h w (.sl h.next 0 s.size) (h.new (.blk 1 (bytesRows s))) := by
  obtain ⟨i, d, z, ty⟩ := hT.ty hs
  obtain ⟨i', d', z', ty'⟩ := hT.ty hd
  obtain ⟨ie, de, ze, tye⟩ := hT.ty he
  have hdesc := ty'.desc
  rw [hdd] at hdesc
  simp only [descOk] at hdesc; subst hdesc
  have hdesc := tye.desc
  rw [hee] at hdesc
  simp only [descOk] at hdesc; subst hdesc
  cases hx
  have hsz : (Lib.bytesCells w e s).size = grownCap w s.size 0 e := by
    have : s.size ≤ grownCap w s.size 0 e := by simp [grownCap, Question.cut]
    have hd : s.data.size = s.size := rfl
    simp [Lib.bytesCells]; omega
  have hcap : s.size ≤ grownCap w s.size 0 e := by simp [grownCap, Question.cut]
  have hr := bytesRows_RR (E := E) s (Lib.bytesCells w e s) (fun j b hb => by
    have hj : j < s.data.size := by
      rcases Nat.lt_or_ge j s.data.toList.length with h | h
      · simpa using h
      · rw [List.getElem?_eq_none h] at hb; cases hb
    rw [Array.getElem?_toList] at hb
    have hj' : j < s.size := hj
    simp only [Lib.bytesCells, Array.getElem?_append, Array.size_map, hj, if_true, Array.getElem?_map, hb, Option.map_some])
  refine ⟨_, _, _, Lib.run_convert_string_bytes w src dst e s ty.und ty'.und tye.und, ?_,
    r.new (.blk 1 (bytesRows s)) ⟨w.heap.size, 0, 1, grownCap w s.size 0 e⟩ (fun b hb _ => Lib.bytesWorld_at_old w e s b hb) (Nat.le_refl _) ?_,
    Ext.new r _ _ rfl rfl rfl (by rw [Lib.bytesWorld_size]; omega) (fun b hb => Lib.bytesWorld_at_old w e s b hb) (Nat.le_refl _)⟩
  · have := VR.sl (E := E.put h.next ⟨w.heap.size, 0, 1, grownCap w s.size 0 e⟩) (i := 0) (n := s.size) (c := grownCap w s.size 0 e) (put_same E h.next _) hcap (by simp)
    simpa using this
  · refine ⟨rfl, _, e, _, _, Lib.bytesWorld_at_new w e s, hr.mono (Env.le_put _ r.fresh), ?_, ?_, fun o h1 h2 h3 => ?_⟩
    · simpa [bytesRows] using hcap
    · show 0 + grownCap w s.size 0 e * 1 ≤ _
      omega
    · simp only [Nat.zero_add, Nat.mul_one] at h2; omega

theorem rowsBytes_ok {E : Env} : ∀ {rs : List Row} {l : List UInt8}, rowsBytes rs = some l → ∀ {cs : List Value}, VRs E rs.flatten cs → wide 1 rs = true ∧ ∀ (P : Program) (w : World) (s : ByteArray),
    (forIn (m := Sem) cs s fun c s => (match c with | .int .u8 n => do Pure.pure (ForInStep.yield (s.push (UInt8.ofNat n.toNat))) | _ => do (stuck "bytesToString: byte expected" : Sem PUnit); Pure.pure (ForInStep.yield s) : Sem (ForInStep ByteArray))).run P w = .ok ⟨⟨s.data.toList ++ l⟩⟩ w := by
  intro rs
  induction rs with
  | nil => intro l h cs hc; simp [rowsBytes] at h; subst h; cases hc; exact ⟨rfl, fun P w s => by simp⟩
  | cons r rs ih =>
    intro l h cs hc
    match r, h, hc with
    | [.int .u8 n], h, hc =>
      simp only [rowsBytes, Option.map_eq_some_iff] at h
      obtain ⟨l', hl', rfl⟩ := h
      simp only [List.flatten_cons, List.cons_append, List.nil_append] at hc
      rcases hc with _ | ⟨h1, h2⟩
      obtain ⟨g1, g2⟩ := ih hl' h2
      refine ⟨by simp [wide], fun P w s => ?_⟩
      cases h1
      simp only [List.forIn_cons, Sem.run_bind, Sem.run_pure, Result.andThen_ok, g2]
      simp [ByteArray.push]

theorem convert_text_ok {C : Cfg} (hT : TOk C) {E : Env} {h : H} {w : World} (r : HR E h w) {src dst e : TypeId} {ts td te : TI} (hs : C.T src = some ts) (hd : C.T dst = some td) (hsd : ts.d = .slice e) (hdd : td.d = .str)
    (he : C.T e = some te) (hee : te.d = .int .u8) {x : AV} {cx : Value} (hx : VR E x cx) {rs : List Row} (hrs : slRows h x = some rs) {l : List UInt8} (hl : rowsBytes rs = some l) :
    ∃ cv, VR E (.str ⟨⟨l⟩⟩) cv ∧ (convert src dst cx).run C.P w = .ok cv w := by
  obtain ⟨i, d, z, ty⟩ := hT.ty hs
  obtain ⟨i', d', z', ty'⟩ := hT.ty hd
  obtain ⟨ie, de, ze, tye⟩ := hT.ty he
  have hdesc := ty'.desc
  rw [hdd] at hdesc
  simp only [descOk] at hdesc; subst hdesc
  have hdesc := ty.desc
  rw [hsd] at hdesc
  simp only [descOk] at hdesc; subst hdesc
  have hdesc := tye.desc
  rw [hee] at hdesc
  simp only [descOk] at hdesc; subst hdesc
  obtain ⟨base, n, c, rfl, hn, hc⟩ := sl_cells (P := C.P) r hx hrs
  have hwide : wide 1 rs = true := by
    match rs, hl with
    | [], _ => rfl
    | [.int .u8 n] :: l, _ => rfl
  obtain ⟨_, cs, h1, h2, h3⟩ := hc 1 hwide
  have h4 := h3 w rfl
  obtain ⟨_, h5⟩ := rowsBytes_ok hl h2
  refine ⟨_, .str _, ?_⟩
  cases base with
  | none =>
    simp only [Builtin.firstCells] at h4
    simp at h4
    subst h4
    have := h5 C.P w ByteArray.empty
    simp at this
    have hl0 : l = [] := by
      have h6 := congrArg (fun x : ByteArray => x.data.toList) this
      simpa using h6.symm
    subst hl0
    simp only [convert, Sem.run_bind, run_underlying_of ty.und, run_underlying_of ty'.und, run_underlying_of tye.und, Result.andThen_ok, Conv.bytesToString, Sem.run_pure]
    rfl
  | some a =>
    simp only [Builtin.firstCells, Nat.mul_one] at h4
    have h6 := h5 C.P w ByteArray.empty
    simp only [convert, Sem.run_bind, run_underlying_of ty.und, run_underlying_of ty'.und, run_underlying_of tye.und, Result.andThen_ok, Conv.bytesToString, h4, List.forIn_toArray]
    exact congrArg (fun q : Result ByteArray => q.andThen fun a w' => Sem.run C.P (Pure.pure (Value.string a)) w') h6

/-! ### Stepping over a text -/
theorem range_ok {C : Cfg} (hT : TOk C) {E : Env} {h : H} {w : World} (r : HR E h w) {t : TypeId} {ti : TI} (ht : C.T t = some ti) (hd : ti.d = .str) {s : ByteArray} {cx : Value} (hx : VR E (.str s) cx) :
    ValOk C.P (Instr.range t cx) E h w (.ptr h.next 0 0) (h.new (.siter s 0)) := by
  obtain ⟨i, d, z, ty⟩ := hT.ty ht
  have hdesc := ty.desc
  rw [hd] at hdesc
  simp only [descOk] at hdesc; subst hdesc
  cases hx
  refine ⟨_, w.alloc (.stringIter s 0), _, by simp only [Instr.range, Sem.run_bind, run_underlying_of ty.und, Result.andThen_ok, Sem.run_pure, run_newObj]; rfl, ?_,
    r.new (.siter s 0) ⟨w.heap.size, 0, 0, 0⟩ (fun b hb _ => alloc_old w _ hb) (Nat.le_refl _) ⟨rfl, heap_alloc_new w _⟩,
    Ext.new r _ _ rfl rfl rfl (by simp) (fun b hb => alloc_old w _ hb) (Nat.le_refl _)⟩
  have := VR.ptr (E := E.put h.next ⟨w.heap.size, 0, 0, 0⟩) (i := 0) (k := 0) (put_same E h.next _)
  simpa using this

theorem next_ok {C : Cfg} {E : Env} {h : H} {w : World} (r : HR E h w) {t : TypeId} {id : Nat} {cx : Value} (hx : VR E (.ptr id 0 0) cx) {s : ByteArray} {pos : Nat} (hget : h.get id = some (.siter s pos)) {v : AV} {h' : H}
    (hv : (if pos < s.size then some (AV.tup [.bool true, .int .i64 pos, .int .i32 (Utf8.decode s pos).1], h.set id (.siter s (pos + (Utf8.decode s pos).2))) else some (.tup [.bool false], h)) = some (v, h')) :
    ValOk C.P (Instr.next cx true t) E h w v h' := by
  cases hx with
  | @ptr _ _ _ y hid =>
    obtain ⟨y', hy', g1⟩ := r.live id _ hget
    rw [hid] at hy'; cases hy'
    obtain ⟨g0, g1⟩ := g1
    have hg : ∀ P, (getObj y.blk).run P w = .ok (.stringIter s pos) w := fun P => by simp [getObj, Sem.run, g1]
    have hcx : y.d + 0 * y.w + 0 = 0 := by omega
    rw [hcx]
    split at hv
    · rename_i hlt
      simp only [Option.some.injEq, Prod.mk.injEq] at hv
      obtain ⟨rfl, rfl⟩ := hv
      obtain ⟨w', E', q1, q2, q3⟩ := setObj_ok (P := C.P) r hget hid g1 (fun _ _ _ h => by cases h) (o := .siter s (pos + (Utf8.decode s pos).2)) (co' := .stringIter s (pos + (Utf8.decode s pos).2)) (fun w' hw' => ⟨g0, hw'⟩)
      refine ⟨_, w', E', ?_, .tup (.cons (.bool true) (.cons (.int _ _) (.cons (.int _ _) .nil))), q2, q3⟩
      simp only [Instr.next, Sem.run_bind, hg, Result.andThen_ok, if_pos hlt, q1, Sem.run_pure]
      rfl
    · rename_i hlt
      simp only [Option.some.injEq, Prod.mk.injEq] at hv
      obtain ⟨rfl, rfl⟩ := hv
      refine ⟨_, w, E, ?_, .tup (.cons (.bool false) .nil), r, Ext.refl _ _ _⟩
      simp only [Instr.next, Sem.run_bind, hg, Result.andThen_ok, if_neg hlt, Sem.run_pure]

end Go.Ai

/- Calls: methods, functions without a body. -/
namespace Go.Ai
open Go.RowKit

theorem count_ok {E : Env} {s : ByteArray} {c : Int} {cargs : Array Value} (h : VRs E [.str s, .int .u8 c] cargs.toList) (P : Program) (w : World) :
    (Extern.BytealgCount.count cargs).run P w = .ok (.int .i64 ((s.data.toList.filter (· == c.toNat.toUInt8)).length : Nat)) w := by
  obtain ⟨cargs⟩ := cargs
  rcases h with _ | ⟨h1, h⟩
  rcases h with _ | ⟨h2, h⟩
  cases h; cases h1; cases h2
  rw [Lib.run_countString]
  simp [Lib.countByte, List.count, List.countP_eq_length_filter]

theorem indexByte_find (c : UInt8) : ∀ l : List UInt8, Lib.indexByte l c = match l.findIdx? (· == c) with | some i => (i : Int) | none => -1
  | [] => rfl
  | b :: l => by
    simp only [Lib.indexByte, List.findIdx?_cons]
    by_cases h : (b == c) = true
    · simp [h]
    · simp only [h, Bool.false_eq_true, if_false, indexByte_find c l]
      cases l.findIdx? (· == c) with
      | none => simp
      | some i =>
        have h1 : ((i : Int) == -1) = false := by simp
        simp [h1]

theorem index_ok {E : Env} {s : ByteArray} {c : Int} {cargs : Array Value} (h : VRs E [.str s, .int .u8 c] cargs.toList) (P : Program) (w : World) :
    (Extern.BytealgIndexByte.indexByte cargs).run P w = .ok (.int .i64 (match s.data.toList.findIdx? (· == c.toNat.toUInt8) with | some i => (i : Int) | none => -1)) w := by
  obtain ⟨cargs⟩ := cargs
  rcases h with _ | ⟨h1, h⟩
  rcases h with _ | ⟨h2, h⟩
  cases h; cases h1; cases h2
  rw [Lib.run_indexByteString, indexByte_find]

theorem clone_ok {P : Program} {E : Env} {h : H} {w : World} (r : HR E h w) {t : TypeId} {m : AV} {es : List (AV × AV)} (hes : mapOf h m = some es) (hm : m ≠ .nilm) {cargs : Array Value} (ha : VRs E [.ifc t m] cargs.toList) :
    ValOk P (Extern.MapsClone.clone cargs) E h w (.ifc t (.map h.next)) (h.new (.map es)) := by
  obtain ⟨cargs⟩ := cargs
  rcases ha with _ | ⟨h1, h2⟩
  cases h2
  cases h1 with
  | @ifc _ _ cv h1 =>
    have key : ∃ b ces clk, cv = .map (some b) ∧ w.heap[b]? = some (.map ces clk) ∧ ER E es ces.toList := by
      cases h1 with
      | @map id y hid =>
        simp only [mapOf] at hes
        split at hes
        · rename_i es' hget
          cases hes
          obtain ⟨y', hy', ces, clk, g1, g2⟩ := r.live id _ hget
          rw [hid] at hy'; cases hy'
          exact ⟨y.blk, ces, clk, rfl, g1, g2⟩
        · cases hes
      | @imap _ b ces clk hq her =>
        cases hes
        exact ⟨b, ces, clk, rfl, r.imm _ _ hq, her⟩
      | nilm => exact absurd rfl hm
      | _ => simp [mapOf] at hes
    obtain ⟨b, ces, clk, rfl, hb, her⟩ := key
    have e : Extern.MapsClone.clone #[.iface t (.map (some b))] = (getObj b >>= fun o => match o with
      | .map entries clock => (newObj (.map entries clock) >>= fun n => Pure.pure (.iface t (.map (some n))))
      | _ => stuck "maps.clone: a map expected") := rfl
    refine ⟨.iface t (.map (some w.heap.size)), w.alloc (.map ces clk), _, ?_, .ifc (.map (put_same E h.next ⟨w.heap.size, 0, 0, 0⟩)),
      r.new (.map es) ⟨w.heap.size, 0, 0, 0⟩ (fun b hb _ => alloc_old w _ hb) (Nat.le_refl _) ⟨ces, clk, heap_alloc_new w _, her.mono (Env.le_put _ r.fresh)⟩,
      Ext.new r _ _ rfl rfl rfl (by simp) (fun b hb => alloc_old w _ hb) (Nat.le_refl _)⟩
    rw [e]
    simp only [Sem.run_bind, run_getObj_map hb, Result.andThen_ok, run_newObj, Sem.run_pure]
    rfl

theorem callA_ok {C : Cfg} (hX : XtOk C) {E : Env} {h : H} {w : World} (r : HR E h w) {f : FuncId} {args : List AV} {cargs : Array Value} (ha : VRs E args cargs.toList) {eff : Eff} (he : callA C f args h = some eff) :
    EffOk C E h w (callFunc f cargs) eff := by
  unfold callA at he
  split at he
  · rename_i hx
    cases he
    exact ⟨cargs, ha, rfl, hx⟩
  · rename_i hx
    split at he
    · cases he
      exact ⟨_, _, w, E, (hX.count f hx cargs w).trans (by simp only [Sem.run_bind, count_ok ha, Result.andThen_ok, Sem.run_pure]), .inl rfl, .int _ _, r, Ext.refl _ _ _⟩
    · cases he
  · rename_i hx
    split at he
    · cases he
      exact ⟨_, _, w, E, (hX.index f hx cargs w).trans (by simp only [Sem.run_bind, index_ok ha, Result.andThen_ok, Sem.run_pure]; rfl), .inl rfl, .int _ _, r, Ext.refl _ _ _⟩
    · cases he
  · rename_i hx
    split at he
    · rename_i t m
      simp only [Option.bind_eq_some_iff] at he
      obtain ⟨es, hes, he⟩ := he
      have hm : m ≠ .nilm := fun e => by subst e; cases he
      have he' : eff = .val (.ifc t (.map h.next)) (h.new (.map es)) := by
        split at he
        · cases he
        · cases he; rfl
      subst he'
      obtain ⟨nx, cv, w', E', h1, h2⟩ := (clone_ok (P := C.P) r hes hm ha).op
      exact ⟨nx, cv, w', E', (hX.clone f hx cargs w).trans h1, h2⟩
    · cases he

theorem method_ok {P : Program} {t : TypeId} {name : String} {f : FuncId} (h : methodOf P t name = some f) (cv : Value) (n : Nat) (w : World) : (method (n + 1) t cv name).run P w = .ok (f, cv) w := by
  simp only [methodOf, Option.bind_eq_some_iff] at h
  obtain ⟨i, hi, m, hm, h⟩ := h
  split at h
  · rename_i hp
    have hp' : m.path.toList = [] := by simpa using hp
    split at h
    · rename_i g hf
      split at h
      · rename_i e hu
        cases h
        simp only [method, Sem.run_bind, run_typeInfo_of hi, Result.andThen_ok, hm, hp', follow, Sem.run_pure, hf, receiverAt, run_underlying_of hu, Place.get]
      · cases h
    · rename_i g hf
      split at h
      · cases h
      · rename_i d hnp hu
        cases h
        simp only [method, Sem.run_bind, run_typeInfo_of hi, Result.andThen_ok, hm, hp', follow, Sem.run_pure, hf, receiverAt, run_underlying_of hu]
        cases d <;> first | rfl | (exfalso; exact hnp _ hu)
      · cases h
    · cases h
  · cases h

end Go.Ai

/- Every operation. -/
namespace Go.Ai
open Go.RowKit

/-- A computed value, if the interpreter has one. -/
theorem mapOk {C : Cfg} {E : Env} {h : H} {w : World} {s : Sem Value} {x : Option AV} {eff : Eff} (he : x.map (Eff.val · h) = some eff) (r : HR E h w)
    (k : ∀ v, x = some v → ∃ cv, VR E v cv ∧ s.run C.P w = .ok cv w) : EffOk C E h w (do Pure.pure (.value (← s))) eff := by
  simp only [Option.map_eq_some_iff] at he
  obtain ⟨v, hv, rfl⟩ := he
  exact vOk r (k v hv)

theorem Comp.at {P : Program} {s : Sem Value} {E : Env} {v : AV} (k : Comp P s E v) (w : World) : ∃ cv, VR E v cv ∧ s.run P w = .ok cv w :=
  let ⟨cv, h1, h2⟩ := k; ⟨cv, h1, h2 w⟩

theorem opdInt {ρ : List AV} {E : Env} {tmps : Array Value} (hρ : VRs E ρ tmps.toList) {x : Operand} {a : AV} {i : Int} (hx : opd ρ x = some a) (hi : intA a = some i) : ∃ k, evT tmps x = .int k i := by
  have h := opd_ok hρ hx
  obtain ⟨k, rfl⟩ := intA_some hi
  generalize evT tmps x = cv at h
  cases h
  exact ⟨k, rfl⟩

theorem EffOk.of_run {C : Cfg} {E : Env} {h : H} {w : World} {s s' : Sem Next} {eff : Eff} (k : EffOk C E h w s eff) (hs : s'.run C.P w = s.run C.P w) : EffOk C E h w s' eff := by
  cases eff with
  | val v h' => obtain ⟨nx, cv, w', E', h1, h2⟩ := k; exact ⟨nx, cv, w', E', hs.trans h1, h2⟩
  | call c args =>
    cases c with
    | fn f => obtain ⟨ca, h1, h2, h3⟩ := k; exact ⟨ca, h1, hs.trans h2, h3⟩
    | round id => obtain ⟨x, ca, h1, h2, h3⟩ := k; exact ⟨x, ca, h1, h2, hs.trans h3⟩
    | dfn => exact k
  | panic v => obtain ⟨cv, h1, h2⟩ := k; exact ⟨cv, h1, hs.trans h2⟩
  | defer f args => obtain ⟨ca, cp, h1, h2⟩ := k; exact ⟨ca, cp, h1, hs.trans h2⟩
  | recover => exact hs.trans k

theorem arr_head (x : Value) (l : Array Value) : (#[x] ++ l)[0]? = some x := by
  rw [Array.getElem?_append_left (by simp)]; rfl

theorem arr_tail (x : Value) (l : Array Value) : (#[x] ++ l).extract 1 (#[x] ++ l).size = l := by
  obtain ⟨l⟩ := l
  simp

theorem callee_fn {E : Env} {f : FuncId} {first cap : List AV} {cv : Value} (h : VR E (.fn f first cap) cv) : ∃ cl cm : Array Value, cv = .func (.func f) cl cm ∧ VRs E first cl.toList ∧ VRs E cap cm.toList := by
  cases h with
  | fn hl hm => exact ⟨_, _, rfl, hl, hm⟩

theorem execA_ok {C : Cfg} (hT : TOk C) (hX : XtOk C) {E : Env} {h : H} {w : World} (r : HR E h w) {ρ : List AV} {tmps : Array Value} (hρ : VRs E ρ tmps.toList) {o : Oper} {eff : Eff}
    (he : execA C ρ o h = some eff) : EffOk C E h w (execOp (evT tmps) o) eff := by
  have upd : ∀ {t : TypeId} {m k x : Operand}, (do
      let k ← opd ρ k
      if keyOk (keyTy C.T t) k then
      let x ← opd ρ x
      match ← opd ρ m with
      | .map id => do
        let es ← mapOf h (.map id)
        match ← findKey (keyTy C.T t) k es 0 with
        | some i => some (Eff.val undefA (h.set id (.map (es.set i (k, x)))))
        | none => some (.val undefA (h.set id (.map (es ++ [(k, x)]))))
      | _ => none
      else none) = some eff → EffOk C E h w (do Instr.mapUpdate t (evT tmps m) (evT tmps k) (evT tmps x); Pure.pure .skip) eff := fun {t m k x} he => by
    simp only [Option.bind_eq_bind, Option.bind_eq_some_iff] at he
    obtain ⟨a, ha, he⟩ := he
    split at he
    · rename_i hko
      simp only [Option.bind_eq_some_iff] at he
      obtain ⟨v, hv, p, hp, he⟩ := he
      split at he
      · rename_i id
        simp only [Option.bind_eq_some_iff] at he
        obtain ⟨es, hes, y, hy, he⟩ := he
        have hkt : ∃ ti kt e, C.T t = some ti ∧ ti.d = .map kt e ∧ keyTy C.T t = C.T kt := by
          have hne : keyTy C.T t ≠ none := fun e0 => by rw [e0] at hko; cases a <;> simp [keyOk] at hko
          unfold keyTy at hne ⊢
          cases ht : C.T t with
          | none => rw [ht] at hne; exact absurd rfl hne
          | some ti =>
            rw [ht] at hne
            simp only [Option.bind_some] at hne ⊢
            cases hd : ti.d <;> rw [hd] at hne <;> first | exact absurd rfl hne | exact ⟨ti, _, _, rfl, hd, by simp⟩
        obtain ⟨ti, kt, e, ht, hd, hkt⟩ := hkt
        rw [hkt] at hko hy
        cases y <;> cases he <;> exact (mapUpdate_ok hT r ht hd (opd_ok hρ hp) (opd_ok hρ ha) (opd_ok hρ hv) hko hes hy).op
      · cases he
    · cases he
  unfold execA at he
  unfold execOp
  split at he
  · -- move
    rename_i x ho
    simp only [Option.map_eq_some_iff] at he
    obtain ⟨v, hv, rfl⟩ := he
    rw [ho]
    exact ⟨.value _, _, w, E, rfl, .inl rfl, opd_ok hρ hv, r, Ext.refl _ _ _⟩
  · rename_i x ho
    simp only [Option.map_eq_some_iff] at he
    obtain ⟨v, hv, rfl⟩ := he
    rw [ho]
    exact ⟨.value _, _, w, E, rfl, .inl rfl, opd_ok hρ hv, r, Ext.refl _ _ _⟩
  · -- pick
    rename_i c a b ho
    simp only [Option.bind_eq_some_iff] at he
    obtain ⟨cv, hc, he⟩ := he
    rw [ho]
    split at he
    · rename_i t
      simp only [Option.map_eq_some_iff] at he
      obtain ⟨v, hv, rfl⟩ := he
      have h1 := opd_ok hρ hc
      have h2 : VR E v (if t then evT tmps a else evT tmps b) := by cases t <;> exact opd_ok hρ hv
      generalize hcc : evT tmps c = cc at h1
      cases h1
      refine ⟨.value (if t then evT tmps a else evT tmps b), _, w, E, ?_, .inl rfl, h2, r, Ext.refl _ _ _⟩
      simp only [asBool, hcc, Sem.run_bind, Sem.run_pure, Result.andThen_ok]
    · cases he
  · -- alloc
    rename_i t ho
    simp only [Option.map_eq_some_iff] at he
    obtain ⟨ti, ht, rfl⟩ := he
    rw [ho]
    exact (alloc_ok hT r ht).op
  · -- box
    rename_i t x ho
    simp only [Option.map_eq_some_iff] at he
    obtain ⟨v, hv, rfl⟩ := he
    rw [ho]
    exact ValOk.op (box_ok r _ (opd_ok hρ hv).cells)
  · -- build
    rename_i t ps ho
    simp only [Option.bind_eq_bind, Option.bind_eq_some_iff] at he
    obtain ⟨ti, ht, ps', hps, he⟩ := he
    rw [ho]
    obtain ⟨hl, hp⟩ := parts_ok hρ hps
    have hl' : ps'.length = (ps.map fun (i, x) => (i, evT tmps x)).toList.length := by simpa using hl
    have hp' : ∀ (j : Nat) i v, ps'[j]? = some (i, v) → ∃ cv, (ps.map fun (i, x) => (i, evT tmps x)).toList[j]? = some (i, cv) ∧ VR E v cv := fun j i v hj => by
      obtain ⟨cv, h1, h2⟩ := hp j i v hj
      exact ⟨cv, by simpa using h1, h2⟩
    split at he
    · rename_i fs hd
      refine mapOk he r fun v hv => ?_
      simp only [Option.map_eq_some_iff] at hv
      obtain ⟨l, hl0, rfl⟩ := hv
      exact (build_ok hT ht hl' hp' (.inl ⟨fs, hd, hl0⟩)).at w
    · rename_i n e hd
      simp only [Option.bind_eq_some_iff] at he
      obtain ⟨te, hte, he⟩ := he
      refine mapOk he r fun v hv => ?_
      simp only [Option.map_eq_some_iff] at hv
      obtain ⟨l, hl0, rfl⟩ := hv
      exact (build_ok hT ht hl' hp' (.inr ⟨n, e, te, hd, hte, hl0⟩)).at w
    · cases he
  · -- buildSlice
    rename_i t len ps ho
    simp only [Option.bind_eq_bind, Option.bind_eq_some_iff] at he
    obtain ⟨ti, ht, he⟩ := he
    rw [ho]
    split at he
    · rename_i e hd
      simp only [Option.bind_eq_some_iff] at he
      obtain ⟨te, hte, ps', hps, he⟩ := he
      split at he
      · cases he
      · rename_i hlim
        simp only [Option.bind_eq_some_iff, Option.pure_def, Option.some.injEq] at he
        obtain ⟨rows, hrows, rfl⟩ := he
        obtain ⟨hl, hp⟩ := parts_ok hρ hps
        exact ValOk.op (buildSlice_ok hT r ht hd hte hlim (by simpa using hl) (fun j i v hj => by
          obtain ⟨cv, h1, h2⟩ := hp j i v hj
          exact ⟨cv, by simpa using h1, h2⟩) hrows)
    · cases he
  · -- load
    rename_i t a ho
    simp only [Option.bind_eq_bind, Option.bind_eq_some_iff, Option.map_eq_some_iff] at he
    obtain ⟨ti, ht, p, hp, v, hv, rfl⟩ := he
    rw [ho]
    exact (load_ok hT r ht (opd_ok hρ hp) hv).op
  · -- store
    rename_i t a x ho
    simp only [Option.bind_eq_bind, Option.bind_eq_some_iff] at he
    obtain ⟨ti, ht, v, hv, he⟩ := he
    rw [ho]
    split at he
    · rename_i hsz
      simp only [Option.bind_eq_some_iff, Option.map_eq_some_iff] at he
      obtain ⟨p, hp, h', hst, rfl⟩ := he
      exact (store_ok hT r ht (opd_ok hρ hp) (opd_ok hρ hv) hsz hst).op
    · cases he
  · -- nilCheck
    rename_i x ho
    simp only [Option.bind_eq_some_iff] at he
    obtain ⟨v, hv, he⟩ := he
    rw [ho]
    have h1 := opd_ok hρ hv
    generalize hcv : evT tmps x = cv at h1
    split at he
    · cases he; cases h1 with
      | ptr hp => simp only [hcv]; exact ⟨.value _, _, w, E, rfl, .inl rfl, .ptr hp, r, Ext.refl _ _ _⟩
    · cases he; cases h1 with
      | iptr hp hr => simp only [hcv]; exact ⟨.value _, _, w, E, rfl, .inl rfl, .iptr hp hr, r, Ext.refl _ _ _⟩
    · cases he; cases h1 with
      | fn hl hm => simp only [hcv]; exact ⟨.value _, _, w, E, rfl, .inl rfl, .fn hl hm, r, Ext.refl _ _ _⟩
    · cases he; cases h1 with
      | ifc hp => simp only [hcv]; exact ⟨.value _, _, w, E, rfl, .inl rfl, .ifc hp, r, Ext.refl _ _ _⟩
    · cases he
  · -- binOp
    rename_i op t x y _ ho
    simp only [Option.bind_eq_bind, Option.bind_eq_some_iff] at he
    obtain ⟨a, ha, b, hb, he⟩ := he
    rw [ho]
    split at he
    · cases he
    · rename_i hn
      exact mapOk he r fun v hv => (show Comp C.P _ E v from binA_ok hT (opd_ok hρ ha) (opd_ok hρ hb) (by simpa using hn) hv).at w
  · -- unOp
    rename_i op _ x ho
    simp only [Option.bind_eq_bind, Option.bind_eq_some_iff] at he
    obtain ⟨a, ha, he⟩ := he
    rw [ho]
    exact mapOk he r fun v hv => (show Comp C.P _ E v from unA_ok (opd_ok hρ ha) hv).at w
  · -- convert
    rename_i src dst x ho
    simp only [Option.bind_eq_bind, Option.bind_eq_some_iff] at he
    obtain ⟨a, ha, ts, hts, td, htd, he⟩ := he
    rw [ho]
    have h1 := opd_ok hρ ha
    split at he
    · rename_i hd; cases he
      exact vOk r ((convert_int_ok hT hts htd hd h1).at w)
    · rename_i hd; cases he
      exact vOk r ((convert_str_ok hT hts htd hd h1).at w)
    · rename_i e s hs hd
      simp only [Option.bind_eq_some_iff] at he
      obtain ⟨te, hte, he⟩ := he
      split at he
      · rename_i hee; cases he
        exact (convert_bytes_ok hT r hts htd hd hte hee h1).op
      · cases he
    · rename_i e hs hd _
      simp only [Option.bind_eq_some_iff] at he
      obtain ⟨te, hte, he⟩ := he
      split at he
      · rename_i hee
        simp only [Option.bind_eq_some_iff] at he
        obtain ⟨rs, hrs, l, hl, he⟩ := he
        cases he
        exact vOk r (convert_text_ok hT r hts htd hs hd hte hee h1 hrs hl)
      · cases he
    · cases he
  · -- makeInterface
    rename_i t x ho
    simp only [Option.bind_eq_bind, Option.bind_eq_some_iff] at he
    obtain ⟨ti, ht, he⟩ := he
    rw [ho]
    split at he
    · cases he
    · rename_i hni
      refine mapOk he r fun v hv => ?_
      simp only [Option.map_eq_some_iff] at hv
      obtain ⟨a, ha, rfl⟩ := hv
      obtain ⟨i, d, z, ty⟩ := hT.ty ht
      have hnd : ∀ m, d ≠ .interface m := fun m e => by
        have hdesc := ty.desc
        rw [e] at hdesc
        cases hq : ti.d <;> rw [hq] at hdesc hni <;> simp [descOk] at hdesc hni
      refine ⟨_, .ifc (opd_ok hρ ha), ?_⟩
      simp only [Instr.makeInterface, Sem.run_bind, run_underlying_of ty.und, Result.andThen_ok]
      cases d <;> first | rfl | exact absurd rfl (hnd _)
  · -- makeFunc
    rename_i f first cap ho
    rw [ho]
    split at he
    · rename_i g
      simp only [Option.bind_eq_bind, Option.bind_eq_some_iff] at he
      obtain ⟨l, hl, m, hm, he⟩ := he
      cases he
      refine vOk r ⟨_, .fn (cl := first.map (evT tmps)) (cm := cap.map (evT tmps)) (by simpa using opds_ok hρ hl) (by simpa using opds_ok hρ hm), rfl⟩
    · cases he
  · -- makeMap
    rename_i t ho
    rw [ho]
    cases he
    refine ⟨.value (.map (some w.heap.size)), _, w.alloc (.map #[] 0), _, ?_, .inl rfl, .map (put_same E h.next ⟨w.heap.size, 0, 0, 0⟩),
      r.new (.map []) ⟨w.heap.size, 0, 0, 0⟩ (fun b hb _ => alloc_old w _ hb) (Nat.le_refl _) ⟨#[], 0, heap_alloc_new w _, .nil⟩,
      Ext.new r _ _ rfl rfl rfl (by simp) (fun b hb => alloc_old w _ hb) (Nat.le_refl _)⟩
    simp only [Instr.makeMap, Option.map_none, Sem.run_bind, run_newObj, Result.andThen_ok, Sem.run_pure]
    rfl
  · -- makeSlice
    rename_i t l c ho
    simp only [Option.bind_eq_bind, Option.bind_eq_some_iff] at he
    obtain ⟨ti, ht, he⟩ := he
    rw [ho]
    split at he
    · rename_i e hd
      simp only [Option.bind_eq_some_iff] at he
      obtain ⟨te, hte, a, ha, i, hi, n, hn, b, hb, j, hj, m, hm, he⟩ := he
      split at he
      · rename_i hc
        obtain ⟨rfl, hlim, hlt⟩ := hc
        cases he
        obtain ⟨k, hk⟩ := opdInt hρ ha hi
        obtain ⟨k', hk'⟩ := opdInt hρ hb hj
        simp only [hk, hk']
        exact (makeSlice_ok hT r ht hd hte hn hm hlim hlt).op
      · cases he
    · cases he
  · -- slice
    rename_i t x lo hi mx ho
    simp only [Option.bind_eq_some_iff] at he
    obtain ⟨ti, ht, he⟩ := he
    rw [ho]
    split at he
    · cases he
    · rename_i hmh
      simp only [Option.bind_eq_some_iff] at he
      obtain ⟨a, ha, m, hm, l, hl, u, hu, he⟩ := he
      refine mapOk he r fun v hv => ?_
      have h1 := opd_ok hρ ha
      have hb : ∀ {o : Option Operand} {d : Option Nat} {n : Nat}, boundA ρ d o = some n → o = none ∧ d = some n ∨ ∃ k i, o.map (evT tmps) = some (.int k i) ∧ natOf i = some n := fun {o d n} h => by
        cases o with
        | none => exact .inl ⟨rfl, h⟩
        | some o =>
          simp only [boundA, Option.bind_eq_some_iff] at h
          obtain ⟨b, hb, i, hi, h⟩ := h
          obtain ⟨k, hk⟩ := opdInt hρ hb hi
          exact .inr ⟨k, i, by rw [Option.map_some, hk], h⟩
      have hlo : BoundIs (lo.map (evT tmps)) l 0 := by
        rcases hb hl with ⟨rfl, h⟩ | ⟨k, i, h, h'⟩
        · cases h; exact .inl ⟨rfl, rfl⟩
        · exact .inr ⟨k, i, h, h'⟩
      have hhi : ∀ n, lenA a = some n → BoundIs (hi.map (evT tmps)) u n := fun n hn => by
        rcases hb hu with ⟨rfl, h⟩ | ⟨k, i, h, h'⟩
        · rw [hn] at h; cases h; exact .inl ⟨rfl, rfl⟩
        · exact .inr ⟨k, i, h, h'⟩
      unfold sliceA at hv
      split at hv
      · split at hv
        · rename_i s hd _
          split at hv
          · rename_i hc
            cases hv
            have hmx : mx = none := by
              cases mx with
              | none => rfl
              | some o =>
                simp only [maxA, Option.bind_eq_some_iff] at hm
                obtain ⟨_, _, _, _, _, _, _, hn, _⟩ := hm
                simp [slLen] at hn
            subst hmx
            exact (slice_str_ok hT ht hd h1 hlo (hhi s.size rfl) hc.1 hc.2).at w
          · cases hv
        · cases hv
      · rename_i hnstr
        split at hv
        · rename_i e hd
          simp only [Option.bind_eq_some_iff] at hv
          obtain ⟨te, hte, n, hn, hv⟩ := hv
          have hhi' := hhi n (by cases a <;> first | exact hn | (simp [slLen] at hn; done))
          have hmv : mx.map (evT tmps) = none ∧ m = 1 ∨ ∃ k i, mx.map (evT tmps) = some (.int k i) ∧ natOf i = some m ∧ (m = 0 ∨ m = n) := by
            cases mx with
            | none => cases hm; exact .inl ⟨rfl, rfl⟩
            | some o =>
              simp only [maxA, Option.bind_eq_some_iff] at hm
              obtain ⟨b, hb, i, hi, y, hy, n', hn', hm⟩ := hm
              rw [hn] at hn'; cases hn'
              split at hm
              · rename_i hc
                cases hm
                obtain ⟨k, hk⟩ := opdInt hρ hb hi
                exact .inr ⟨k, i, by rw [Option.map_some, hk], hy, hc⟩
              · cases hm
          have hmx : (mx.map (evT tmps)).isSome = true → (hi.map (evT tmps)).isSome = true := by
            cases mx <;> cases hi <;> simp at hmh ⊢
          split at hv
          · rename_i hle
            split at hv
            · rename_i h0
              obtain ⟨rfl, rfl, rfl⟩ := h0
              cases hv
              rcases hmv with ⟨_, h⟩ | ⟨k, i, hmv, hi, _⟩
              · cases h
              · exact slice_ok hT r ht hd hte h1 hn hlo hhi' (.inr ⟨k, i, 0, hmv, hi, Nat.zero_le _, Nat.le_refl _⟩) hmx hle.1 hle.2 (.inl ⟨rfl, rfl, ⟨k, i, hmv, hi⟩, rfl⟩)
            · split at hv
              · cases hv
              · rename_i hm0
                have hm' : mx.map (evT tmps) = none ∨ ∃ k i m', mx.map (evT tmps) = some (.int k i) ∧ natOf i = some m' ∧ m' ≤ n ∧ u ≤ m' := by
                  rcases hmv with ⟨h, _⟩ | ⟨k, i, hmv, hi, hz⟩
                  · exact .inl h
                  · exact .inr ⟨k, i, m, hmv, hi, by omega, by omega⟩
                split at hv
                · rename_i hw
                  have hw' : l = 0 ∨ ∃ row, slRow h a 0 = some row ∧ row.length = te.size := by
                    rcases hw with h | h
                    · exact .inl h
                    · simp only [Option.map_eq_some_iff, beq_iff_eq] at h
                      exact .inr h
                  cases a <;> first | exact slice_ok hT r ht hd hte h1 hn hlo hhi' hm' hmx hle.1 hle.2 (.inr ⟨hw', hv⟩) | cases hv
                · cases hv
          · cases hv
        · cases hv
  · -- fieldAddr
    rename_i t x f ho
    simp only [Option.bind_eq_bind, Option.bind_eq_some_iff] at he
    obtain ⟨ti, ht, he⟩ := he
    rw [ho]
    split at he
    · rename_i fs hd
      simp only [Option.bind_eq_some_iff] at he
      obtain ⟨⟨off, size, ag⟩, hf, he⟩ := he
      simp only at he
      split at he
      · cases he
      · rename_i hsz
        simp only [Option.bind_eq_some_iff] at he
        obtain ⟨p, hp, he⟩ := he
        split at he
        · cases he; exact vOk r ((fieldAddr_ok hT ht hd hf hsz (opd_ok hρ hp) rfl).at w)
        · cases he; exact vOk r ((fieldAddr_ok hT ht hd hf hsz (opd_ok hρ hp) rfl).at w)
        · cases he
    · cases he
  · -- field
    rename_i t x f ho
    simp only [Option.bind_eq_bind, Option.bind_eq_some_iff] at he
    obtain ⟨ti, ht, he⟩ := he
    rw [ho]
    split at he
    · rename_i fs hd
      simp only [Option.bind_eq_some_iff] at he
      obtain ⟨⟨off, size, ag⟩, hf, p, hp, he⟩ := he
      simp only at he
      split at he
      · split at he
        · rename_i hle
          exact mapOk he r fun v hv => (field_ok hT ht hd hf (opd_ok hρ hp) hle hv).at w
        · cases he
      · cases he
    · cases he
  · -- indexAddr
    rename_i t x ix ho
    simp only [Option.bind_eq_bind, Option.bind_eq_some_iff] at he
    obtain ⟨ti, ht, a, ha, i, hi, j, hj, p, hp, he⟩ := he
    rw [ho]
    obtain ⟨k, hk⟩ := opdInt hρ ha hi
    simp only [hk]
    split at he
    · rename_i e hd
      simp only [Option.bind_eq_some_iff] at he
      obtain ⟨te, hte, row, hrow, he⟩ := he
      split at he
      · rename_i hl
        split at he
        · cases he; exact vOk r (indexAddr_slice_ok hT r ht hd hte hj (opd_ok hρ hp) hrow hl rfl)
        · cases he; exact vOk r (indexAddr_slice_ok hT r ht hd hte hj (opd_ok hρ hp) hrow hl rfl)
        · cases he
      · cases he
    · rename_i n e hd
      simp only [Option.bind_eq_some_iff] at he
      obtain ⟨te, hte, he⟩ := he
      split at he
      · rename_i hlt
        split at he
        · cases he; exact vOk r ((indexAddr_arr_ok hT ht hd hte hj hlt (opd_ok hρ hp) rfl).at w)
        · cases he; exact vOk r ((indexAddr_arr_ok hT ht hd hte hj hlt (opd_ok hρ hp) rfl).at w)
        · cases he
      · cases he
    · cases he
  · -- index
    rename_i t x ix ho
    simp only [Option.bind_eq_bind, Option.bind_eq_some_iff] at he
    obtain ⟨ti, ht, a, ha, i, hi, j, hj, p, hp, he⟩ := he
    rw [ho]
    obtain ⟨k, hk⟩ := opdInt hρ ha hi
    simp only [hk]
    split at he
    · rename_i s hd
      refine mapOk he r fun v hv => ?_
      simp only [Option.map_eq_some_iff] at hv
      obtain ⟨b, hb, rfl⟩ := hv
      exact (index_str_ok hT ht hd hj (opd_ok hρ hp) hb).at w
    · rename_i n e l hd
      simp only [Option.bind_eq_some_iff] at he
      obtain ⟨te, hte, he⟩ := he
      split at he
      · rename_i hc
        exact mapOk he r fun v hv => (index_arr_ok hT ht hd hte hj hc.1 (opd_ok hρ hp) hc.2 hv).at w
      · cases he
    · cases he
  · -- lookup
    rename_i t x k ok ho
    simp only [Option.bind_eq_bind, Option.bind_eq_some_iff] at he
    obtain ⟨ti, ht, he⟩ := he
    rw [ho]
    split at he
    · rename_i kt e hd
      simp only [Option.bind_eq_some_iff] at he
      obtain ⟨te, hte, m, hm, es, hes, a, ha, he⟩ := he
      have hkt : keyTy C.T t = C.T kt := by simp [keyTy, ht, hd]
      rw [hkt] at he
      split at he
      · rename_i hko
        simp only [Option.bind_eq_some_iff] at he
        obtain ⟨y, hy, he⟩ := he
        cases he
        obtain ⟨cv, h1, h2⟩ := lookup_ok hT r ht hd hte (opd_ok hρ hm) (opd_ok hρ ha) hko hes hy ok
        exact vOk r ⟨cv, h2, h1⟩
      · cases he
    · cases he
  · -- mapUpdate
    rename_i t m k x ho
    rw [ho]
    exact upd he
  · rename_i t m k x ho
    rw [ho]
    exact upd he
  · -- range
    rename_i t x ho
    simp only [Option.bind_eq_some_iff] at he
    obtain ⟨ti, ht, he⟩ := he
    rw [ho]
    split at he
    · rename_i hd
      simp only [Option.bind_eq_some_iff] at he
      obtain ⟨a, ha, he⟩ := he
      split at he
      · cases he
        exact (range_ok hT r ht hd (opd_ok hρ ha)).op
      · cases he
    · cases he
  · -- next
    rename_i it ho
    simp only [Option.bind_eq_some_iff] at he
    obtain ⟨a, ha, he⟩ := he
    rw [ho]
    split at he
    · rename_i id
      split at he
      · rename_i s pos hget
        split at he
        · rename_i hlt
          cases he
          exact (next_ok r (opd_ok hρ ha) hget (by rw [if_pos hlt])).op
        · rename_i hlt
          cases he
          exact (next_ok r (opd_ok hρ ha) hget (by rw [if_neg hlt])).op
      · cases he
    · cases he
  · -- typeAssert
    rename_i x _ t ok ho
    simp only [Option.bind_eq_bind, Option.bind_eq_some_iff] at he
    obtain ⟨ti, ht, a, ha, he⟩ := he
    rw [ho]
    split at he
    · cases he
    · rename_i t' y hni
      split at he
      · rename_i htt
        subst htt
        cases he
        have h1 := opd_ok hρ ha
        generalize hcv : evT tmps x = cv at h1
        cases h1 with
        | @ifc _ _ cy hy =>
          obtain ⟨i, d, z, ty⟩ := hT.ty ht
          have hnd : ∀ m, d ≠ .interface m := fun m e => by
            have hdesc := ty.desc
            rw [e] at hdesc
            cases hq : ti.d <;> rw [hq] at hdesc hni <;> simp [descOk] at hdesc hni
          refine vOk r ⟨if ok then .tuple #[cy, .bool true] else cy, ?_, ?_⟩
          · cases ok
            · exact hy
            · exact .tup (.cons hy (.cons (.bool true) .nil))
          · simp only [Instr.typeAssert, hcv, Sem.run_bind, run_underlying_of ty.und, Result.andThen_ok]
            cases d <;> first | (exact absurd rfl (hnd _)) | (simp only [if_true, Sem.run_pure])
      · cases he
    · cases he
  · -- extract
    rename_i x i ho
    simp only [Option.bind_eq_some_iff] at he
    obtain ⟨a, ha, he⟩ := he
    rw [ho]
    split at he
    · rename_i l
      refine mapOk he r fun v hv => ?_
      have h1 := opd_ok hρ ha
      generalize evT tmps x = cv at h1
      cases h1 with
      | @tup _ cl hl =>
        obtain ⟨cv, h2, h3⟩ := hl.get hv
        rw [Array.getElem?_toList] at h2
        exact ⟨cv, h3, by simp only [Instr.extract, h2, Sem.run_pure]⟩
    · cases he
  · -- call
    rename_i c ho
    simp only [Option.bind_eq_bind, Option.bind_eq_some_iff] at he
    obtain ⟨args, hargs, he⟩ := he
    rw [ho]
    have ha := opds_ok hρ hargs
    have ha' : VRs E args (c.args.map (evT tmps)).toList := by simpa using ha
    split at he
    · rename_i b hb
      have := builtin_ok hT r (type := o.type) (consts := c.args.map fun | .const _ => true | _ => false) ha' he
      simp only [resolve, hb]
      exact this
    · rename_i x name hb
      simp only [Option.bind_eq_some_iff] at he
      obtain ⟨a, hrc, he⟩ := he
      split at he
      · rename_i t y
        simp only [Option.bind_eq_some_iff] at he
        obtain ⟨f, hf, he⟩ := he
        have h1 := opd_ok hρ hrc
        generalize hcv : evT tmps x = cv at h1
        cases h1 with
        | @ifc _ _ cy hy =>
          have hrun : (do let d ← resolve (evT tmps) c o.type; invoke d.target d.args : Sem Next).run C.P w = (callFunc f (#[cy] ++ c.args.map (evT tmps))).run C.P w := by
            have hm := fun w' => method_ok hf cy (C.P.types.size + (Made.depth - 1)) w'
            have hd : C.P.types.size + (Made.depth - 1) + 1 = C.P.types.size + Made.depth := rfl
            rw [hd] at hm
            simp only [resolve, hb, hcv, Sem.run_bind, Sem.run_pure, Result.andThen_ok, invoke, arr_head, arr_tail, callMethod, run_program, hm]
          have hargs' : VRs E (y :: args) (#[cy] ++ c.args.map (evT tmps)).toList := by
            have := VRs.cons hy ha'
            simpa using this
          have hk := callA_ok hX r hargs' he
          exact EffOk.of_run hk hrun
      · cases he
    · rename_i f hb
      simp only [Option.bind_eq_some_iff] at he
      obtain ⟨a, hfo, he⟩ := he
      have h1 := opd_ok hρ hfo
      generalize hcv : evT tmps f = cv at h1
      split at he
      · rename_i g first cap
        obtain ⟨cl, cm, rfl, hl, hm⟩ := callee_fn h1
        have hrun : (do let d ← resolve (evT tmps) c o.type; invoke d.target d.args : Sem Next) = callFunc g (cl ++ c.args.map (evT tmps) ++ cm) := by
          simp only [resolve, hb, hcv, Deferred.ofValue]
          rfl
        simp only [hrun]
        exact callA_ok hX r (by simp only [Array.toList_append]; exact (hl.append ha').append hm) he
      · rename_i id
        cases he
        cases h1 with
        | @yld _ y hid =>
          refine ⟨y, c.args.map (evT tmps), hid, ha', ?_⟩
          have e1 : #[] ++ c.args.map (evT tmps) = c.args.map (evT tmps) := by simp
          simp only [resolve, hb, hcv, Deferred.ofValue, Sem.run_bind, Sem.run_pure, Result.andThen_ok, invoke, e1]
      · cases he
  · -- defer
    rename_i c ho
    simp only [Option.bind_eq_bind, Option.bind_eq_some_iff] at he
    obtain ⟨args, hargs, he⟩ := he
    rw [ho]
    have ha := opds_ok hρ hargs
    have ha' : VRs E args (c.args.map (evT tmps)).toList := by simpa using ha
    split at he
    · rename_i f hb
      simp only [Option.bind_eq_some_iff] at he
      obtain ⟨a, hfo, he⟩ := he
      have h1 := opd_ok hρ hfo
      generalize hcv : evT tmps f = cv at h1
      split at he
      · rename_i g first cap
        cases he
        obtain ⟨cl, cm, rfl, hl, hm⟩ := callee_fn h1
        refine ⟨cl ++ c.args.map (evT tmps), cm, by simp only [Array.toList_append]; exact (hl.append ha').append hm, ?_⟩
        simp only [resolve, hb, hcv, Deferred.ofValue, Sem.run_bind, Sem.run_pure, Result.andThen_ok]
      · cases he
    · cases he
  · -- panic
    rename_i x ho
    simp only [Option.bind_eq_some_iff] at he
    obtain ⟨a, ha, he⟩ := he
    rw [ho]
    split at he
    · cases he
      have h1 := opd_ok hρ ha
      refine ⟨_, h1, ?_⟩
      generalize hcv : evT tmps x = cv at h1
      cases h1
      simp only [Instr.panic, goPanic, hcv]
      rfl
    · cases he
  · cases he

end Go.Ai
