import Derived.Test.YtelmlhlkefmjkaaGreatDoorWnK
import Derived.Laws.Externs
import Derived.Test.YtelmlhlkefmjkaaGreatDoorRows
import Derived.Test.YtelmlhlkefmjkaaGreatDoorTie
import Derived.Test.YtelmlhlkefmjkaaGreatDoorCards
import Derived.ProofKit
import Derived.OpenShut
import Derived.LaidMore
import Derived.Lay
import Derived.SevenTiedAt
import Derived.Stop.Joined
import Derived.Below
import Derived.ChangeSame
import Derived.Lib.SmallJoins
set_option linter.unusedSimpArgs false
set_option linter.unusedVariables false
/- What the program is, for the interpreter: each thing that it leans on is so. -/
namespace Go.Ai
open Go Go.Proofs Go.RowKit
set_option maxRecDepth 100000

theorem ext_of {f : FuncId} {fn : Func} {e : Array Value → Sem Value} (hf : Tryz.prog.funcs[f]? = some fn) (h1 : (fn.name == "runtime.NumGoroutine") = false) (hb : fn.body.isNone = true) (hn : Extern.findNext fn = none) (he : Extern.find fn = some e) (args : Array Value) (w : World) :
    (callFunc f args).run Tryz.prog w = (do Pure.pure (Next.value (← e args)) : Sem Next).run Tryz.prog w := by
  rw [run_callFunc_extern hf h1 hb hn he, Sem.run_bind]
  rfl

theorem cfgX : XtOk cfg where
  count := by
    intro f hf args w
    rw [cfg_ext] at hf
    split at hf
    · rename_i h; subst h
      exact ext_of (f := 251) (fn := (Tryz.prog.funcs[251]?).get (by kernel_rfl)) (by simp) (by kernel_rfl) (by kernel_rfl) (by kernel_rfl) (by kernel_rfl) args w
    · split at hf
      · cases hf
      · split at hf <;> cases hf
  index := by
    intro f hf args w
    rw [cfg_ext] at hf
    split at hf
    · cases hf
    · split at hf
      · rename_i h; subst h
        exact ext_of (f := 327) (fn := (Tryz.prog.funcs[327]?).get (by kernel_rfl)) (by simp) (by kernel_rfl) (by kernel_rfl) (by kernel_rfl) (by kernel_rfl) args w
      · split at hf <;> cases hf
  clone := by
    intro f hf args w
    rw [cfg_ext] at hf
    split at hf
    · cases hf
    · split at hf
      · cases hf
      · split at hf
        · rename_i h; subst h
          exact ext_of (f := 334) (fn := (Tryz.prog.funcs[334]?).get (by kernel_rfl)) (by simp) (by kernel_rfl) (by kernel_rfl) (by kernel_rfl) (by kernel_rfl) args w
        · cases hf

theorem no_goroutine : (Tryz.prog.funcs.all fun fn => !(fn.name == "runtime.NumGoroutine")) = true := by kernel_rfl

theorem cfgOk : CfgOk cfg where
  T := fun _ _ h => h
  X := cfgX
  ng := by
    intro f fn c hf _
    have := Array.all_eq_true.1 no_goroutine
    obtain ⟨hl, rfl⟩ := Array.getElem?_eq_some_iff.1 hf
    have h1 := this f hl
    simp only [Bool.not_eq_true'] at h1
    exact h1
  fz := hfz
  sp := fun _ _ h => by cases h

theorem mixed : Tryz.prog.follows .mixedOrders = true := by kernel_rfl
end Go.Ai

/- The law of the making of a world: the row and the card. -/
namespace Go.Proofs.YtelmlhlkefmjkaaGreatDoor
open Go.ChangeShapes Go.WideShapes Go.ChangeAt Go.RowKit Go.Joins Go.Deep Go.Ai
set_option maxRecDepth 100000

section
variable {H : Type} {enc : TypeId × Value → H} {P : Program} {w : World} {base : Nat} {spare : Nat → Bool} {held : Bool}
/-- A struct of five ints by value, opened. -/
theorem open_five {r : Reach} {b0 : Nat} {t : TypeId} {f0 f1 f2 f3 f4 : Field} {v : Value} {d : DataW H} {p : List MemPlace} (hs : P.underlying t = some (.struct #[f0, f1, f2, f3, f4])) (hone : oneCellFields P #[f0, f1, f2, f3, f4] = true) (hC : P.cellsOf t = 5)
    (hv : Value.okWide P w r b0 t v) (h : DataW.Trod enc P w base spare held t v d p) :
    ∃ (v0 v1 v2 v3 v4 : Value) (y0 y1 y2 y3 y4 : DataW H × List MemPlace) (n : Nat), v = .agg #[v0, v1, v2, v3, v4] ∧ d = .agg [y0.1, y1.1, y2.1, y3.1, y4.1] ∧ p = y0.2 ++ (y1.2 ++ (y2.2 ++ (y3.2 ++ y4.2))) ∧
      DataW.trod enc P w base spare held n f0.type [v0] = some y0 ∧ DataW.trod enc P w base spare held n f1.type [v1] = some y1 ∧ DataW.trod enc P w base spare held n f2.type [v2] = some y2 ∧ DataW.trod enc P w base spare held n f3.type [v3] = some y3 ∧ DataW.trod enc P w base spare held n f4.type [v4] = some y4 := by
  obtain ⟨cs, rfl, hsz⟩ := okWide_struct hs hv
  obtain ⟨l⟩ := cs
  match l, hsz.trans hC with
  | [c0, c1, c2, c3, c4], _ =>
    obtain ⟨fuel, hf⟩ := h
    obtain ⟨xs, n, _, hx, _, hlen, hg⟩ := DataW.trod_struct hs hf
    obtain ⟨o0, k0⟩ := hone_of hone 0 f0 rfl
    obtain ⟨o1, k1⟩ := hone_of hone 1 f1 rfl
    obtain ⟨o2, k2⟩ := hone_of hone 2 f2 rfl
    obtain ⟨o3, k3⟩ := hone_of hone 3 f3 rfl
    obtain ⟨o4, k4⟩ := hone_of hone 4 f4 rfl
    match xs, hlen with
    | [y0, y1, y2, y3, y4], _ =>
      simp only [Prod.mk.injEq] at hx
      exact ⟨c0, c1, c2, c3, c4, y0, y1, y2, y3, y4, n, rfl, by simpa using hx.1, by simpa using hx.2, by simpa [Value.cells, o0, k0] using hg 0 f0 rfl, by simpa [Value.cells, o1, k1] using hg 1 f1 rfl, by simpa [Value.cells, o2, k2] using hg 2 f2 rfl, by simpa [Value.cells, o3, k3] using hg 3 f3 rfl, by simpa [Value.cells, o4, k4] using hg 4 f4 rfl⟩

/-- And shut. -/
theorem shut_five {t : TypeId} {f0 f1 f2 f3 f4 : Field} {v0 v1 v2 v3 v4 : Value} {y0 y1 y2 y3 y4 : DataW H × List MemPlace} (hs : P.underlying t = some (.struct #[f0, f1, f2, f3, f4])) (hone : oneCellFields P #[f0, f1, f2, f3, f4] = true) (hC : P.cellsOf t = 5)
    (t0 : ∃ n, DataW.trod enc P w base spare held n f0.type [v0] = some y0) (t1 : ∃ n, DataW.trod enc P w base spare held n f1.type [v1] = some y1) (t2 : ∃ n, DataW.trod enc P w base spare held n f2.type [v2] = some y2) (t3 : ∃ n, DataW.trod enc P w base spare held n f3.type [v3] = some y3) (t4 : ∃ n, DataW.trod enc P w base spare held n f4.type [v4] = some y4) :
    DataW.Trod enc P w base spare held t (.agg #[v0, v1, v2, v3, v4]) (.agg [y0.1, y1.1, y2.1, y3.1, y4.1]) (y0.2 ++ (y1.2 ++ (y2.2 ++ (y3.2 ++ y4.2)))) := by
  obtain ⟨n0, t0⟩ := t0
  obtain ⟨n1, t1⟩ := t1
  obtain ⟨n2, t2⟩ := t2
  obtain ⟨n3, t3⟩ := t3
  obtain ⟨n4, t4⟩ := t4
  obtain ⟨o0, k0⟩ := hone_of hone 0 f0 rfl
  obtain ⟨o1, k1⟩ := hone_of hone 1 f1 rfl
  obtain ⟨o2, k2⟩ := hone_of hone 2 f2 rfl
  obtain ⟨o3, k3⟩ := hone_of hone 3 f3 rfl
  obtain ⟨o4, k4⟩ := hone_of hone 4 f4 rfl
  have e0 := DataW.trod_le (show n0 ≤ n0 + n1 + n2 + n3 + n4 by omega) t0
  have e1 := DataW.trod_le (show n1 ≤ n0 + n1 + n2 + n3 + n4 by omega) t1
  have e2 := DataW.trod_le (show n2 ≤ n0 + n1 + n2 + n3 + n4 by omega) t2
  have e3 := DataW.trod_le (show n3 ≤ n0 + n1 + n2 + n3 + n4 by omega) t3
  have e4 := DataW.trod_le (show n4 ≤ n0 + n1 + n2 + n3 + n4 by omega) t4
  have ts := trod_struct_mk (enc := enc) (w := w) (base := base) (spare := spare) (held := held) (n := n0 + n1 + n2 + n3 + n4) (xs := [y0, y1, y2, y3, y4]) (cs := [v0, v1, v2, v3, v4]) hs (by simp [hC]) (by simp [o0, o1, o2, o3, o4, k0, k1, k2, k3, k4, e0, e1, e2, e3, e4])
  exact ⟨_, by simpa [Value.cells] using ts⟩

/-- What is kept below is kept. -/
theorem post_of_below {f : Func} {s : ChangeSpec} {apart fresh handsOn again : Bool} {W W' : World} {args : Array Value} {v : Value} {ds gs : List (DataW H)} {before pa pv : List MemPlace}
    (hW : DataW.Whole enc P f.params.toList s.vars apart W args.toList ds gs before)
    (hres : ∀ (b : Nat) (sp : Nat → Bool) (hd : Bool), DataW.TrodAll enc P W' b sp hd f.resultTypes.toList (v.resultList f.resultTypes.size) (s.fn H (ds ++ gs)).results [])
    (hargs : ∀ sp : Nat → Bool, (∀ p ∈ before, sp p.block = true) → DataW.TrodAll enc P W' 0 sp true f.params.toList args.toList (s.fn H (ds ++ gs)).args pa)
    (hvars : ∀ sp : Nat → Bool, (∀ p ∈ before, sp p.block = true) → DataW.TrodVars enc P W' sp s.vars (s.fn H (ds ++ gs)).vars pv)
    (hps : before = pa ++ pv) (hb : Below W.heap.size W W')
    (hok : ∀ (j : Nat) (t : TypeId) (r : Value), f.resultTypes[j]? = some t → (v.resultList f.resultTypes.size)[j]? = some r → Value.okWide P W' .any 0 t r) :
    s.post enc P f apart fresh handsOn again W args v W' := by
  have hlt : ∀ p ∈ before, p.block < W.heap.size := fun p hp => hW.lt p hp
  have hold : ∀ p ∈ before, (fun b => decide (b < W.heap.size)) p.block = true := fun p hp => by simpa using hlt p hp
  refine ⟨ds, gs, before, [], pa, pv, hW, hres _ _ _, hargs _ hold, hvars _ hold, World.keptBut_mono (fun p hp => ⟨hp, ?_⟩) (hb.frame (· ∈ before)), fun _ => ?_⟩
  · rw [hps, List.mem_append] at hp
    exact Or.inr hp
  · obtain ⟨_, _, _, _, _, hz, hn⟩ := hW
    refine ⟨hok, _, _, ([] ++ pa) ++ pv, ⟨[] ++ pa, pv, trodAll_append (hargs _ (fun _ _ => rfl)) (hres _ _ _), hvars _ (fun _ _ => rfl), rfl, ?_, ?_⟩, ?_⟩
    · intro b off hp
      have hin : MemPlace.cell b off ∈ before := by rw [hps]; simpa using hp
      rw [hb.frozen (hlt _ hin)]
      exact hz b off hin
    · intro ha
      have := hn ha
      rw [hps] at this
      simpa using this
    · intro p hp _
      rw [hps]
      simpa using hp
end

theorem own : ownKnob Tryz.prog.godebug = none := by kernel_rfl

theorem lifted (os : Os) (started : os.Started) (H : Type) (enc : TypeId × Value → H) :
    ReturnsInHanded {} Tryz.checked os 7 .any (fun w args => (Rows.worldNewSpec.pre enc Tryz.prog Tryz.f7 Rows.worldNewRow.domain false w args ∧ laidMetH Tryz.prog Rows.worldNewRow.laid w) ∧ sizedMet enc Tryz.prog Tryz.f7 (OpenSpec.ofChange Rows.worldNewSpec) false w args)
      (Rows.worldNewSpec.post enc Tryz.prog Tryz.f7 false true false false) := by
  refine returnsInHanded_of_change_and (C := Tryz.checked) (X := fun w _ => laidMetH Tryz.prog Rows.worldNewRow.laid w) (fun _ _ _ hh h => h.of_heap hh) own started (by kernel_rfl) Tryz.func7
    (ChangeSpec.witness_shaped (enc := enc) (C := Tryz.checked) (os := os) (X := fun w _ => laidMetH Tryz.prog Rows.worldNewRow.laid w) false (World.laidAll Tryz.prog os Rows.worldNewRow.laid) #[.int .i64 0, .agg #[.int .i64 0, .int .i64 0, .int .i64 0, .int .i64 0, .int .i64 0], .int .u8 0] 8 (World.laidAll_os _ _ _)
      (World.shaped_of_ZipB (by kernel_rfl) (by kernel_rfl)) (by kernel_rfl) (by kernel_rfl) (by kernel_rfl)
      (by rw [MakeChecks.laidMetH_plain _ _ _ (by kernel_rfl)]; exact laidMet_laidAll _ (by kernel_rfl) (by kernel_rfl))) ?_
  intro W base args ds gs before hval0 hW hc _ hL _
  have hval : ∀ (j : Nat) t v, Tryz.f7.params[j]? = some t → args[j]? = some v → Value.okWide Tryz.prog W .any base t v := hval0
  have hW' := hW
  obtain ⟨p, q, hA0, hV, rfl, _, _⟩ := hW
  have hA : DataW.TrodAll enc Tryz.prog W 0 (fun _ => true) true Tryz.f7.params.toList args.toList ds p := hA0
  rw [Tryz.params7] at hA hval
  obtain ⟨v0, v1, v2, d0, d1, d2, p0, p1, p2, rfl, rfl, rfl, h0, h1, h2⟩ := trodAll_three hA
  obtain ⟨rfl, rfl⟩ := trodVars_none hV
  obtain ⟨x, rfl, rfl, rfl, wx⟩ := open_int Tryz.underlying3 (hval 0 3 v0 rfl rfl) h0
  obtain ⟨k, rfl, rfl, rfl, wk⟩ := open_int Tryz.underlying5 (hval 2 5 v2 rfl rfl) h2
  obtain ⟨c0, c1, c2, c3, c4, y0, y1, y2, y3, y4, m, rfl, rfl, rfl, hy0, hy1, hy2, hy3, hy4⟩ := open_five Tryz.underlying29 (by kernel_rfl) (by kernel_rfl) (hval 1 29 v1 rfl rfl) h1
  obtain ⟨z0, e0, rfl, wz0⟩ := DataW.trod_int Tryz.underlying3 hy0
  obtain ⟨z1, e1, rfl, wz1⟩ := DataW.trod_int Tryz.underlying3 hy1
  obtain ⟨z2, e2, rfl, wz2⟩ := DataW.trod_int Tryz.underlying3 hy2
  obtain ⟨z3, e3, rfl, wz3⟩ := DataW.trod_int Tryz.underlying3 hy3
  obtain ⟨z4, e4, rfl, wz4⟩ := DataW.trod_int Tryz.underlying3 hy4
  simp at e0 e1 e2 e3 e4
  subst e0 e1 e2 e3 e4
  clear hA0 hval0
  simp only [List.append_nil] at hW'
  have hk : 0 ≤ k ∧ k ≤ 255 := by 
    have e1 : IntKind.min .u8 = 0 := by decide
    have e2 : IntKind.max .u8 = 255 := by decide
    simp only [Lit.wf, e1, e2, Bool.and_eq_true, decide_eq_true_eq] at wk
    exact wk
  obtain ⟨r, rfl⟩ : ∃ r : Nat, k = r := ⟨k.toNat, by omega⟩
  obtain ⟨h', he⟩ := law_ok x z0 z1 z2 z3 z4 r (by omega)
  have fin : Calls Tryz.prog 7 #[.int .i64 x, .agg #[.int .i64 z0, .int .i64 z1, .int .i64 z2, .int .i64 z3, .int .i64 z4], .int .u8 r] W fun e w' => ∃ cv E', VR E' (.bool true) cv ∧ e = .returned cv ∧ Below W.heap.size W w' :=
    calls_of_ai cfgOk mixed he (q := fun _ => none) (fun _ _ h => by cases h) (.cons (.int _ _) (.cons (.agg (.cons (.int _ _) (.cons (.int _ _) (.cons (.int _ _) (.cons (.int _ _) (.cons (.int _ _) .nil)))))) (.cons (.int _ _) .nil)))
  refine fin.mono fun e W' ⟨cv, E', hv, he, hb⟩ => ?_
  subst he
  obtain rfl := vr_bool hv
  exact ⟨_, rfl, post_of_below (pa := []) (pv := []) hW' (fun _ _ _ => trodAll_mk1 (shut_bool Tryz.underlying4 _))
    (fun sp _ => trodAll_mk3 (shut_int Tryz.underlying3 wx) (shut_five (y0 := (.lit (.int .i64 z0), [])) (y1 := (.lit (.int .i64 z1), [])) (y2 := (.lit (.int .i64 z2), [])) (y3 := (.lit (.int .i64 z3), [])) (y4 := (.lit (.int .i64 z4), [])) Tryz.underlying29 (by kernel_rfl) (by kernel_rfl)
      (field_of_Trod (shut_int Tryz.underlying3 wz0) rfl) (field_of_Trod (shut_int Tryz.underlying3 wz1) rfl) (field_of_Trod (shut_int Tryz.underlying3 wz2) rfl) (field_of_Trod (shut_int Tryz.underlying3 wz3) rfl) (field_of_Trod (shut_int Tryz.underlying3 wz4) rfl)) (shut_int Tryz.underlying5 wk))
    (fun _ _ => rfl) rfl hb (ok_one (by kernel_rfl) rfl (okWide_bool_mk Tryz.underlying4 _))⟩

end Go.Proofs.YtelmlhlkefmjkaaGreatDoor
