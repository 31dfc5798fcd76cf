import Derived.Test.YtelmlhlkefmjkaaGreatDoorWnG
import Derived.Test.YtelmlhlkefmjkaaGreatDoorAw
set_option linter.unusedSimpArgs false
set_option linter.unusedVariables false
/- A run; whether there is a world; reports. -/
namespace Go.Ai
open Go Go.Proofs
set_option maxRecDepth 100000
set_option linter.unusedSimpArgs false

instance (n : Nat) (r q log ar bt clock : Int) : Decidable (Can n r q log ar bt clock) := by unfold Can; infer_instance

theorem can (n : Nat) (r q log ar bt clock : Int) (cid : Nat) (pk : AV) (h : H) : ∃ h', cl cfg (.fn 21) [.agg (sRow r q log ar bt clock cid n pk)] h = some (.ret (.bool (decide (Can n r q log ar bt clock))), h') ∧ Keep h h' := by
  unfold sRow
  have k : Keep h (((h.new (.blk 8 [[.int .i64 r, .int .i64 q, .int .i64 log, .int .i64 ar, .int .i64 bt, .int .i64 clock, .sl cid 0 n, pk]])).new (.blk 5 [[.int .i64 0, .int .i64 0, .int .i64 0, .int .i64 0, .int .i64 0]])).set (h.next + 1) (.blk 5 [[.int .i64 q, .int .i64 log, .int .i64 ar, .int .i64 bt, .int .i64 clock]])) := (((Keep.refl h).new _).new _).set (by omega) _
  refine ⟨_, ?_, k⟩
  refine enter Tryz.func21 rfl rfl Tryz.ntmps21 ?_
  have step : ∀ {p : Prop} [Decidable p], ∀ b, decide p = b → (b = true ↔ p) := fun b hb => by subst hb; exact decide_eq_true_iff
  cases c1 : decide ((n : Int) > 64) with
  | true =>
    have hc : decide (Can n r q log ar bt clock) = false := dfalse fun h => by have := (step _ c1).1 rfl; have := h.1.1; omega
    simp -implicitDefEqProofs only [go_sem, ↓reduceIte, Nat.reduceAdd, Nat.reduceSub, Nat.reduceMul, Nat.reduceLeDiff, Nat.reduceEqDiff, Nat.reduceGT, Nat.reduceLT, Nat.reduceMod, Nat.reduceDiv, Nat.reducePow, reduceCtorEq, c1, hc]; rfl
  | false =>
  cases c2 : decide (r < 0) with
  | true =>
    have hc : decide (Can n r q log ar bt clock) = false := dfalse fun h => by have := (step _ c2).1 rfl; have := h.2.2.1.1; omega
    simp -implicitDefEqProofs only [go_sem, ↓reduceIte, Nat.reduceAdd, Nat.reduceSub, Nat.reduceMul, Nat.reduceLeDiff, Nat.reduceEqDiff, Nat.reduceGT, Nat.reduceLT, Nat.reduceMod, Nat.reduceDiv, Nat.reducePow, reduceCtorEq, c1, c2, hc]; rfl
  | false =>
  cases c3 : decide (r > 255) with
  | true =>
    have hc : decide (Can n r q log ar bt clock) = false := dfalse fun h => by have := (step _ c3).1 rfl; have := h.2.2.1.2.1; omega
    simp -implicitDefEqProofs only [go_sem, ↓reduceIte, Nat.reduceAdd, Nat.reduceSub, Nat.reduceMul, Nat.reduceLeDiff, Nat.reduceEqDiff, Nat.reduceGT, Nat.reduceLT, Nat.reduceMod, Nat.reduceDiv, Nat.reducePow, reduceCtorEq, c1, c2, c3, hc]; rfl
  | false =>
  cases c4 : decide (log < 0) with
  | true =>
    have hc : decide (Can n r q log ar bt clock) = false := dfalse fun h => by have := (step _ c4).1 rfl; have := h.2.2.1.2.2.1; omega
    simp -implicitDefEqProofs only [go_sem, ↓reduceIte, Nat.reduceAdd, Nat.reduceSub, Nat.reduceMul, Nat.reduceLeDiff, Nat.reduceEqDiff, Nat.reduceGT, Nat.reduceLT, Nat.reduceMod, Nat.reduceDiv, Nat.reducePow, reduceCtorEq, c1, c2, c3, c4, hc]; rfl
  | false =>
  cases c5 : decide (clock < 0) with
  | true =>
    have hc : decide (Can n r q log ar bt clock) = false := dfalse fun h => by have := (step _ c5).1 rfl; have := h.2.2.1.2.2.2.1; omega
    simp -implicitDefEqProofs only [go_sem, ↓reduceIte, Nat.reduceAdd, Nat.reduceSub, Nat.reduceMul, Nat.reduceLeDiff, Nat.reduceEqDiff, Nat.reduceGT, Nat.reduceLT, Nat.reduceMod, Nat.reduceDiv, Nat.reducePow, reduceCtorEq, c1, c2, c3, c4, c5, hc]; rfl
  | false =>
  cases c6 : decide (clock > 16777215) with
  | true =>
    have hc : decide (Can n r q log ar bt clock) = false := dfalse fun h => by have := (step _ c6).1 rfl; have := h.2.2.1.2.2.2.2; omega
    simp -implicitDefEqProofs only [go_sem, ↓reduceIte, Nat.reduceAdd, Nat.reduceSub, Nat.reduceMul, Nat.reduceLeDiff, Nat.reduceEqDiff, Nat.reduceGT, Nat.reduceLT, Nat.reduceMod, Nat.reduceDiv, Nat.reducePow, reduceCtorEq, c1, c2, c3, c4, c5, c6, hc]; rfl
  | false =>
  cases c7 : decide (q ≥ 0) with
  | false =>
    have hc : decide (Can n r q log ar bt clock) = false := dfalse fun h => by have := of_decide_eq_false c7; have := h.1.2.1; omega
    simp -implicitDefEqProofs only [go_sem, ↓reduceIte, Nat.reduceAdd, Nat.reduceSub, Nat.reduceMul, Nat.reduceLeDiff, Nat.reduceEqDiff, Nat.reduceGT, Nat.reduceLT, Nat.reduceMod, Nat.reduceDiv, Nat.reducePow, reduceCtorEq, c1, c2, c3, c4, c5, c6, c7, hc]; rfl
  | true =>
  cases c8 : decide (q ≤ 65536) with
  | false =>
    have hc : decide (Can n r q log ar bt clock) = false := dfalse fun h => by have := of_decide_eq_false c8; have := h.1.2.2; omega
    simp -implicitDefEqProofs only [go_sem, ↓reduceIte, Nat.reduceAdd, Nat.reduceSub, Nat.reduceMul, Nat.reduceLeDiff, Nat.reduceEqDiff, Nat.reduceGT, Nat.reduceLT, Nat.reduceMod, Nat.reduceDiv, Nat.reducePow, reduceCtorEq, c1, c2, c3, c4, c5, c6, c7, c8, hc]; rfl
  | true =>
  cases c9 : decide (ar ≥ 0) with
  | false =>
    have hc : decide (Can n r q log ar bt clock) = false := dfalse fun h => by have := of_decide_eq_false c9; have := h.2.1.1; omega
    simp -implicitDefEqProofs only [go_sem, ↓reduceIte, Nat.reduceAdd, Nat.reduceSub, Nat.reduceMul, Nat.reduceLeDiff, Nat.reduceEqDiff, Nat.reduceGT, Nat.reduceLT, Nat.reduceMod, Nat.reduceDiv, Nat.reducePow, reduceCtorEq, c1, c2, c3, c4, c5, c6, c7, c8, c9, hc]; rfl
  | true =>
  cases c10 : decide (ar ≤ 1048576) with
  | false =>
    have hc : decide (Can n r q log ar bt clock) = false := dfalse fun h => by have := of_decide_eq_false c10; have := h.2.1.2; omega
    simp -implicitDefEqProofs only [go_sem, ↓reduceIte, Nat.reduceAdd, Nat.reduceSub, Nat.reduceMul, Nat.reduceLeDiff, Nat.reduceEqDiff, Nat.reduceGT, Nat.reduceLT, Nat.reduceMod, Nat.reduceDiv, Nat.reducePow, reduceCtorEq, c1, c2, c3, c4, c5, c6, c7, c8, c9, c10, hc]; rfl
  | true =>
  cases c11 : decide (bt ≥ 1) with
  | false =>
    have hc : decide (Can n r q log ar bt clock) = false := dfalse fun h => by have := of_decide_eq_false c11; have := h.2.2.2; omega
    simp -implicitDefEqProofs only [go_sem, ↓reduceIte, Nat.reduceAdd, Nat.reduceSub, Nat.reduceMul, Nat.reduceLeDiff, Nat.reduceEqDiff, Nat.reduceGT, Nat.reduceLT, Nat.reduceMod, Nat.reduceDiv, Nat.reducePow, reduceCtorEq, c1, c2, c3, c4, c5, c6, c7, c8, c9, c10, c11, hc]; rfl
  | true =>
    have hc : decide (Can n r q log ar bt clock) = true := dtrue (by
      have := of_decide_eq_false c1; have := of_decide_eq_false c2; have := of_decide_eq_false c3; have := of_decide_eq_false c4; have := of_decide_eq_false c5; have := of_decide_eq_false c6
      have := of_decide_eq_true c7; have := of_decide_eq_true c8; have := of_decide_eq_true c9; have := of_decide_eq_true c10; have := of_decide_eq_true c11
      exact ⟨⟨by omega, by omega, by omega⟩, ⟨by omega, by omega⟩, ⟨by omega, by omega, by omega, by omega, by omega⟩, by omega⟩)
    simp -implicitDefEqProofs only [go_sem, ↓reduceIte, Nat.reduceAdd, Nat.reduceSub, Nat.reduceMul, Nat.reduceLeDiff, Nat.reduceEqDiff, Nat.reduceGT, Nat.reduceLT, Nat.reduceMod, Nat.reduceDiv, Nat.reducePow, reduceCtorEq, c1, c2, c3, c4, c5, c6, c7, c8, c9, c10, c11, hc]; rfl

theorem res14 : Tryz.f14.results.toList = [.cell 2 42] := rfl

theorem run_no (n : Nat) (r q log ar bt clock : Int) (cid : Nat) (pk : AV) (h : H) (hn : ¬ Can n r q log ar bt clock) : ∃ h', cl cfg (.fn 14) [.agg (sRow r q log ar bt clock cid n pk)] h = some (.ret (.agg [.nils, .nils, .int .i64 0]), h') ∧ Keep h h' := by
  unfold sRow
  obtain ⟨h1, e, k⟩ := world_no n r q log ar bt clock cid pk ((h.new (.blk 8 [[.int .i64 r, .int .i64 q, .int .i64 log, .int .i64 ar, .int .i64 bt, .int .i64 clock, .sl cid 0 n, pk]])).new (.blk 3 [[.nils, .nils, .int .i64 0]])) hn
  have kn := k.next
  simp -implicitDefEqProofs only [go_sem, ↓reduceIte, Nat.reduceAdd, Nat.reduceSub, Nat.reduceMul, Nat.reduceLeDiff, Nat.reduceEqDiff, Nat.reduceGT, Nat.reduceLT, Nat.reduceMod, Nat.reduceDiv, Nat.reducePow, reduceCtorEq] at kn
  have gt : h1.get (h.next + 1) = some (.blk 3 [[.nils, .nils, .int .i64 0]]) := (k.get _ (by simp -implicitDefEqProofs only [go_sem, ↓reduceIte, Nat.reduceAdd, Nat.reduceSub, Nat.reduceMul, Nat.reduceLeDiff, Nat.reduceEqDiff, Nat.reduceGT, Nat.reduceLT, Nat.reduceMod, Nat.reduceDiv, Nat.reducePow, reduceCtorEq]; omega)).trans gt_new_same
  have k1 : Keep h h1 := (((Keep.refl h).new _).new _).trans k
  refine ⟨_, enter Tryz.func14 rfl rfl Tryz.ntmps14 ?_, k1.set (i := h.next + 1) (by omega) (.blk 3 [[.nils, .nils, .int .i64 0]])⟩
  simp -implicitDefEqProofs only [go_sem, ↓reduceIte, Nat.reduceAdd, Nat.reduceSub, Nat.reduceMul, Nat.reduceLeDiff, Nat.reduceEqDiff, Nat.reduceGT, Nat.reduceLT, Nat.reduceMod, Nat.reduceDiv, Nat.reducePow, reduceCtorEq, callF_some e, gt]
  simp -implicitDefEqProofs only [go_sem, ↓reduceIte, Nat.reduceAdd, Nat.reduceSub, Nat.reduceMul, Nat.reduceLeDiff, Nat.reduceEqDiff, Nat.reduceGT, Nat.reduceLT, Nat.reduceMod, Nat.reduceDiv, Nat.reducePow, reduceCtorEq, res14, gt]

theorem run_ok (n : Nat) (r q log ar bt clock : Int) (cid pid : Nat) (h : H) (hn : Can n r q log ar bt clock) (hcid : h.get cid = some (.blk 1 (List.replicate n [.nils]))) (hlt : cid < h.next) {pr : List Row} (hp : h.get pid = some (.blk 1 pr)) (hpl : pid < h.next) (np : Nat) (hnp : np = pr.length) (hb : np < 2 ^ 60) (hints : ∀ i, i < np → ∃ p, pr[i]? = some [.int .i64 p]) :
    ∃ h' v, cl cfg (.fn 14) [.agg (sRow r q log ar bt clock cid n (.sl pid 0 np))] h = some (.ret (.agg [v, .nils, .int .i64 0]), h') ∧ Keep h h' ∧ LenIs v n ∧ v.cells = [v] ∧ oneA v = true := by
  unfold sRow
  have k0 : Keep h ((h.new (.blk 8 [[.int .i64 r, .int .i64 q, .int .i64 log, .int .i64 ar, .int .i64 bt, .int .i64 clock, .sl cid 0 n, .sl pid 0 np]])).new (.blk 3 [[.nils, .nils, .int .i64 0]])) := ((Keep.refl h).new _).new _
  obtain ⟨⟨x1, h1⟩, e, k, m, w, d, s, ig, cl', cs, ws, hx, hcl, W⟩ := world_new n r q log ar bt clock cid (.sl pid 0 np) ((h.new (.blk 8 [[.int .i64 r, .int .i64 q, .int .i64 log, .int .i64 ar, .int .i64 bt, .int .i64 clock, .sl cid 0 n, .sl pid 0 np]])).new (.blk 3 [[.nils, .nils, .int .i64 0]])) hn ((k0.get _ hlt).trans hcid) (by have := k0.next; omega)
  simp only at hx W k
  subst hx
  have kn := k.next
  simp -implicitDefEqProofs only [go_sem, ↓reduceIte, Nat.reduceAdd, Nat.reduceSub, Nat.reduceMul, Nat.reduceLeDiff, Nat.reduceEqDiff, Nat.reduceGT, Nat.reduceLT, Nat.reduceMod, Nat.reduceDiv, Nat.reducePow, reduceCtorEq] at kn
  have gb : h1.get h.next = some (.blk 8 [[.int .i64 r, .int .i64 q, .int .i64 log, .int .i64 ar, .int .i64 bt, .int .i64 clock, .sl cid 0 n, .sl pid 0 np]]) := (k.get _ (by simp -implicitDefEqProofs only [go_sem, ↓reduceIte, Nat.reduceAdd, Nat.reduceSub, Nat.reduceMul, Nat.reduceLeDiff, Nat.reduceEqDiff, Nat.reduceGT, Nat.reduceLT, Nat.reduceMod, Nat.reduceDiv, Nat.reducePow, reduceCtorEq]; omega)).trans (by rw [gt_new_lt (by simp -implicitDefEqProofs only [go_sem, ↓reduceIte, Nat.reduceAdd, Nat.reduceSub, Nat.reduceMul, Nat.reduceLeDiff, Nat.reduceEqDiff, Nat.reduceGT, Nat.reduceLT, Nat.reduceMod, Nat.reduceDiv, Nat.reducePow, reduceCtorEq]; omega)]; exact gt_new_same)
  have gt1 : h1.get (h.next + 1) = some (.blk 3 [[.nils, .nils, .int .i64 0]]) := (k.get _ (by simp -implicitDefEqProofs only [go_sem, ↓reduceIte, Nat.reduceAdd, Nat.reduceSub, Nat.reduceMul, Nat.reduceLeDiff, Nat.reduceEqDiff, Nat.reduceGT, Nat.reduceLT, Nat.reduceMod, Nat.reduceDiv, Nat.reducePow, reduceCtorEq]; omega)).trans gt_new_same
  have k1 : Keep h h1 := k0.trans k
  have W1 := W.keep (h' := h1.room 12) ((Keep.refl h1).room 12)
  obtain ⟨h2, e2, k2⟩ := sched_none W1 (pid := pid) (n := np) (pr := pr) ((k1.get _ hpl).trans hp) (by have := k1.next; simp only [nx_room]; omega) hnp hb hints
  have gw1 : h1.get w = _ := W.row
  have gw2 : h2.get w = _ := (k2.get _ W1.wl).trans W1.row
  have W2 := W1.keep (k2.same W1.wl W1.row)
  obtain ⟨h3, v, e3, k3, hv, v1, v2⟩ := report W2 hcl hn.1.1
  have k2n := k2.next
  simp only [nx_room] at k2n
  have k3n := k3.next
  simp only [nx_set] at k3n
  have gt3 : h3.get (h.next + 1) = some (.blk 3 [[.nils, .nils, .int .i64 0]]) := by
    rw [k3.get _ (by simp only [nx_set]; omega), (k2.same W1.wl W1.row).get _ (by simp only [nx_room]; omega)]
    exact gt1
  have kall : Keep h h3 := k1.trans (((Keep.refl h1).room 12).trans ((k2.same W1.wl W1.row).trans k3))
  refine ⟨_, v, enter Tryz.func14 rfl rfl Tryz.ntmps14 ?_, kall.set (i := h.next + 1) (by omega) (.blk 3 [[v, .nils, .int .i64 0]]), hv, v1, v2⟩
  simp -implicitDefEqProofs only [go_sem, ↓reduceIte, Nat.reduceAdd, Nat.reduceSub, Nat.reduceMul, Nat.reduceLeDiff, Nat.reduceEqDiff, Nat.reduceGT, Nat.reduceLT, Nat.reduceMod, Nat.reduceDiv, Nat.reducePow, reduceCtorEq, callF_some e]
  refine (S_dr [⟨1, 0, 0⟩, ⟨2, 0, 0⟩, ⟨3, 0, 0⟩, ⟨4, 0, 0⟩, ⟨5, 0, 0⟩, ⟨6, 0, 0⟩, ⟨7, 0, 1⟩, ⟨0, 0, 1⟩, ⟨8, 1, 1⟩, ⟨9, 1, 1⟩, ⟨10, 1, 1⟩, ⟨11, 1, 2⟩] (by kernel_rfl) (by kernel_rfl)).trans ?_
  simp -implicitDefEqProofs only [go_sem, ↓reduceIte, Nat.reduceAdd, Nat.reduceSub, Nat.reduceMul, Nat.reduceLeDiff, Nat.reduceEqDiff, Nat.reduceGT, Nat.reduceLT, Nat.reduceMod, Nat.reduceDiv, Nat.reducePow, reduceCtorEq, gb, gw1, callF_some e2, gw2]
  refine (DW_nilE ?_).trans ?_
  · simp -implicitDefEqProofs only [go_sem, ↓reduceIte, Nat.reduceAdd, Nat.reduceSub, Nat.reduceMul, Nat.reduceLeDiff, Nat.reduceEqDiff, Nat.reduceGT, Nat.reduceLT, Nat.reduceMod, Nat.reduceDiv, Nat.reducePow, reduceCtorEq]
  simp -implicitDefEqProofs only [go_sem, ↓reduceIte, Nat.reduceAdd, Nat.reduceSub, Nat.reduceMul, Nat.reduceLeDiff, Nat.reduceEqDiff, Nat.reduceGT, Nat.reduceLT, Nat.reduceMod, Nat.reduceDiv, Nat.reducePow, reduceCtorEq, callF_some e3, gt3, v1, v2]
  simp -implicitDefEqProofs only [go_sem, ↓reduceIte, Nat.reduceAdd, Nat.reduceSub, Nat.reduceMul, Nat.reduceLeDiff, Nat.reduceEqDiff, Nat.reduceGT, Nat.reduceLT, Nat.reduceMod, Nat.reduceDiv, Nat.reducePow, reduceCtorEq, res14, gt3, v1, v2]

theorem events_nil (h : H) : cl cfg (.fn 35) [.nils, .nils] h = some (.ret (.bool true), h) := by
  refine enter Tryz.func35 rfl rfl Tryz.ntmps35 ?_
  have e0 : ((0 : Int) != 0) = false := by decide
  have e1 : decide ((0 : Int) < 0) = false := by decide
  simp -implicitDefEqProofs only [go_sem, ↓reduceIte, Nat.reduceAdd, Nat.reduceSub, Nat.reduceMul, Nat.reduceLeDiff, Nat.reduceEqDiff, Nat.reduceGT, Nat.reduceLT, Nat.reduceMod, Nat.reduceDiv, Nat.reducePow, reduceCtorEq, e0]
  refine S_loop.trans ?_
  simp -implicitDefEqProofs only [go_sem, ↓reduceIte, Nat.reduceAdd, Nat.reduceSub, Nat.reduceMul, Nat.reduceLeDiff, Nat.reduceEqDiff, Nat.reduceGT, Nat.reduceLT, Nat.reduceMod, Nat.reduceDiv, Nat.reducePow, reduceCtorEq, e1]
  rfl

theorem reports_zero (h : H) : ∃ h', cl cfg (.fn 16) [.agg [.nils, .nils, .int .i64 0], .agg [.nils, .nils, .int .i64 0]] h = some (.ret (.bool true), h') ∧ Keep h h' := by
  refine ⟨(h.new (.blk 3 [[.nils, .nils, .int .i64 0]])).new (.blk 3 [[.nils, .nils, .int .i64 0]]), enter Tryz.func16 rfl rfl Tryz.ntmps16 ?_, ((Keep.refl h).new _).new _⟩
  have e0 : ((0 : Int) != 0) = false := by decide
  have e1 : decide ((0 : Int) < 0) = false := by decide
  simp -implicitDefEqProofs only [go_sem, ↓reduceIte, Nat.reduceAdd, Nat.reduceSub, Nat.reduceMul, Nat.reduceLeDiff, Nat.reduceEqDiff, Nat.reduceGT, Nat.reduceLT, Nat.reduceMod, Nat.reduceDiv, Nat.reducePow, reduceCtorEq, e0]
  refine S_loop.trans ?_
  simp -implicitDefEqProofs only [go_sem, ↓reduceIte, Nat.reduceAdd, Nat.reduceSub, Nat.reduceMul, Nat.reduceLeDiff, Nat.reduceEqDiff, Nat.reduceGT, Nat.reduceLT, Nat.reduceMod, Nat.reduceDiv, Nat.reducePow, reduceCtorEq, e1, callF_some (events_nil _)]
  rfl
end Go.Ai

/- The law of the making of a world. -/
namespace Go.Ai
open Go Go.Proofs
set_option maxRecDepth 100000
set_option linter.unusedSimpArgs false

section
variable {α : Type} {ρ : List AV} {ds : List D} {h : H} {k : AV → List D → H → Option α}
@[go_sem ↓] theorem cv_5_3 {x : Operand} : A cfg ρ (.convert 5 3 x) ds h k = bnd (opd ρ x) fun v => match v with | .int _ n => k (.int .i64 (IntKind.wrap .i64 n)) ds h | _ => none := A_conv_int T5 T3 rfl rfl
end

theorem wrap_small (i : Nat) (h : i < 2 ^ 62) : IntKind.wrap .i64 (i : Int) = (i : Int) := by simp [IntKind.wrap, IntKind.signed, IntKind.bits]; omega

/-- The picks of the law. -/
def pkRows : List Row := [[.int .i64 0], [.int .i64 1], [.int .i64 2], [.int .i64 (-1)]]

/-- The heap of the law. -/
def hL (h : H) (r q log ar bt clock : Int) (n : Nat) : H :=
  (((h.room 10).set (h.next + 5) (.blk 1 (List.replicate n [.nils]))).set (h.next + 6) (.blk 1 pkRows)).set (h.next + 8) (.blk 8 [sRow r q log ar bt clock (h.next + 5) n (.sl (h.next + 6) 0 4)])

theorem hL_facts (h : H) (r q log ar bt clock : Int) (n : Nat) (hA : H) (e : hA = hL h r q log ar bt clock n) :
    hA.next = h.next + 10 ∧ hA.get (h.next + 5) = some (.blk 1 (List.replicate n [.nils])) ∧ hA.get (h.next + 6) = some (.blk 1 pkRows) ∧ hA.get (h.next + 8) = some (.blk 8 [sRow r q log ar bt clock (h.next + 5) n (.sl (h.next + 6) 0 4)]) := by
  subst e
  unfold hL
  refine ⟨rfl, ?_, ?_, ?_⟩ <;> simp -implicitDefEqProofs only [go_sem, ↓reduceIte, Nat.reduceAdd, Nat.reduceSub, Nat.reduceMul, Nat.reduceLeDiff, Nat.reduceEqDiff, Nat.reduceGT, Nat.reduceLT, Nat.reduceMod, Nat.reduceDiv, Nat.reducePow, reduceCtorEq]

theorem nx_empty : H.empty.next = 0 := rfl

theorem law_no (r q log ar bt clock : Int) (k : Nat) (hk : k < 256) (hn : ¬ Can (k % 70) r q log ar bt clock) : ∃ h', cl cfg (.fn 7) [.int .i64 r, .agg [.int .i64 q, .int .i64 log, .int .i64 ar, .int .i64 bt, .int .i64 clock], .int .u8 k] H.empty = some (.ret (.bool true), h') := by
  obtain ⟨h0, e0, g0, n0⟩ := awake_ok (.int .i64 q) (.int .i64 log) (.int .i64 ar) (.int .i64 bt) (.int .i64 clock)
  have em : (k : Int).tmod 70 = ((k % 70 : Nat) : Int) := by rw [Int.tmod_eq_emod_of_nonneg (by omega)]; omega
  have ew := wrap_small (k % 70) (by omega)
  have e70 : ¬ ((70 : Int) = 0) := by decide
  obtain ⟨n, hnn⟩ : ∃ n, n = k % 70 := ⟨_, rfl⟩
  rw [← hnn] at em ew hn
  have hlt : n < 70 := by omega
  have emk : mkN ⟨false, 1, 24, [.nils], .slice 65, none⟩ (.int .i64 (n : Int)) (.int .i64 (n : Int)) = some n := by
    simp only [mkN, intA, Option.bind_some, natOf_cast]
    exact if_pos ⟨trivial, by show n * 24 ≤ _; omega, by omega⟩
  obtain ⟨hA, hAe⟩ : ∃ hA, hA = hL h0 r q log ar bt clock n := ⟨_, rfl⟩
  obtain ⟨nA, gA5, gA6, gA8⟩ := hL_facts h0 r q log ar bt clock n hA hAe
  unfold hL sRow pkRows at hAe
  unfold sRow at gA8
  obtain ⟨h1, e1, k1⟩ := world_no n r q log ar bt clock (h0.next + 5) (.sl (h0.next + 6) 0 4) hA hn
  have g18 := (k1.get _ (by omega)).trans gA8
  obtain ⟨h2, e2, k2⟩ := run_no n r q log ar bt clock (h0.next + 5) (.sl (h0.next + 6) 0 4) h1 hn
  have n1 := k1.next
  have n2 := k2.next
  have g28 := (k2.get _ (by omega)).trans g18
  have kB : Keep h2 (h2.new (.blk 3 [[.nils, .nils, .int .i64 0]])) := (Keep.refl _).new _
  obtain ⟨h3, e3, k3⟩ := can n r q log ar bt clock (h0.next + 5) (.sl (h0.next + 6) 0 4) (h2.new (.blk 3 [[.nils, .nils, .int .i64 0]]))
  unfold sRow at e2 e3
  rw [dfalse hn] at e3
  have ne : ¬ h0.next + 8 = h2.next := by omega
  have g310 : h3.get h2.next = some (.blk 3 [[.nils, .nils, .int .i64 0]]) := (k3.get _ (by simp -implicitDefEqProofs only [go_sem, ↓reduceIte, Nat.reduceAdd, Nat.reduceSub, Nat.reduceMul, Nat.reduceLeDiff, Nat.reduceEqDiff, Nat.reduceGT, Nat.reduceLT, Nat.reduceMod, Nat.reduceDiv, Nat.reducePow, reduceCtorEq]; omega)).trans gt_new_same
  obtain ⟨h4, e4, k4⟩ := reports_zero h3
  have key : Ok (X cfg 7 (Tryz.f7.body.get rfl) ([.int .i64 r, .agg [.int .i64 q, .int .i64 log, .int .i64 ar, .int .i64 bt, .int .i64 clock], .int .u8 k] ++ List.replicate (106 - 3) undefA) [] H.empty (fin Tryz.f7.results.toList) (fin Tryz.f7.results.toList) (fun _ _ _ _ => none)) fun x => x.1 = .ret (.bool true) := by
    simp -implicitDefEqProofs only [go_sem, ↓reduceIte, Nat.reduceAdd, Nat.reduceSub, Nat.reduceMul, Nat.reduceLeDiff, Nat.reduceEqDiff, Nat.reduceGT, Nat.reduceLT, Nat.reduceMod, Nat.reduceDiv, Nat.reducePow, reduceCtorEq, Tryz.f7, Option.get_some, nx_empty, callF_some e0]
    refine Ok.of_eq (S_dr [⟨0, 0, 0⟩, ⟨1, 0, 0⟩, ⟨2, 0, 0⟩, ⟨3, 0, 0⟩, ⟨4, 0, 0⟩, ⟨5, 0, 0⟩, ⟨6, 0, 0⟩, ⟨7, 0, 0⟩, ⟨8, 0, 0⟩, ⟨9, 0, 1⟩] (by kernel_rfl) (by kernel_rfl)) ?_
    simp -implicitDefEqProofs only [go_sem, ↓reduceIte, Nat.reduceAdd, Nat.reduceSub, Nat.reduceMul, Nat.reduceLeDiff, Nat.reduceEqDiff, Nat.reduceGT, Nat.reduceLT, Nat.reduceMod, Nat.reduceDiv, Nat.reducePow, reduceCtorEq, g0, e70, em, ew, emk, ← hAe, gA8, callF_some e1]
    simp -implicitDefEqProofs only [go_sem, ↓reduceIte, Nat.reduceAdd, Nat.reduceSub, Nat.reduceMul, Nat.reduceLeDiff, Nat.reduceEqDiff, Nat.reduceGT, Nat.reduceLT, Nat.reduceMod, Nat.reduceDiv, Nat.reducePow, reduceCtorEq, g18, callF_some e2, ne, g28, callF_some e3, callF_some e4, g310]
    exact Ok.some rfl
  obtain ⟨⟨a, h'⟩, e, q1⟩ := key
  simp only at q1
  subst q1
  exact ⟨h', enter Tryz.func7 rfl rfl Tryz.ntmps7 e⟩
theorem law_yes (r q log ar bt clock : Int) (k : Nat) (hk : k < 256) (hn : Can (k % 70) r q log ar bt clock) : ∃ h', cl cfg (.fn 7) [.int .i64 r, .agg [.int .i64 q, .int .i64 log, .int .i64 ar, .int .i64 bt, .int .i64 clock], .int .u8 k] H.empty = some (.ret (.bool true), h') := by
  obtain ⟨h0, e0, g0, n0⟩ := awake_ok (.int .i64 q) (.int .i64 log) (.int .i64 ar) (.int .i64 bt) (.int .i64 clock)
  have em : (k : Int).tmod 70 = ((k % 70 : Nat) : Int) := by rw [Int.tmod_eq_emod_of_nonneg (by omega)]; omega
  have ew := wrap_small (k % 70) (by omega)
  have e70 : ¬ ((70 : Int) = 0) := by decide
  obtain ⟨n, hnn⟩ : ∃ n, n = k % 70 := ⟨_, rfl⟩
  rw [← hnn] at em ew hn
  have hlt : n < 70 := by omega
  have emk : mkN ⟨false, 1, 24, [.nils], .slice 65, none⟩ (.int .i64 (n : Int)) (.int .i64 (n : Int)) = some n := by
    simp only [mkN, intA, Option.bind_some, natOf_cast]
    exact if_pos ⟨trivial, by show n * 24 ≤ _; omega, by omega⟩
  obtain ⟨hA, hAe⟩ : ∃ hA, hA = hL h0 r q log ar bt clock n := ⟨_, rfl⟩
  obtain ⟨nA, gA5, gA6, gA8⟩ := hL_facts h0 r q log ar bt clock n hA hAe
  unfold hL sRow pkRows at hAe
  unfold sRow at gA8
  obtain ⟨⟨x1, h1⟩, e1, k1, m, w, d, s, ig, cl', cs, ws, hx, hcl, W⟩ := world_new n r q log ar bt clock (h0.next + 5) (.sl (h0.next + 6) 0 4) hA hn gA5 (by omega)
  simp only at hx k1 W
  subst hx
  have n1 := k1.next
  have g15 := (k1.get _ (by omega)).trans gA5
  have g16 := (k1.get _ (by omega)).trans gA6
  have g18 := (k1.get _ (by omega)).trans gA8
  obtain ⟨h2, v, e2, k2, hv, v1, v2⟩ := run_ok n r q log ar bt clock (h0.next + 5) (h0.next + 6) h1 hn g15 (by omega) (pr := pkRows) g16 (by omega) 4 rfl (by decide) (fun i hi => by
    match i, hi with
    | 0, _ => exact ⟨0, rfl⟩
    | 1, _ => exact ⟨1, rfl⟩
    | 2, _ => exact ⟨2, rfl⟩
    | 3, _ => exact ⟨-1, rfl⟩)
  have n2 := k2.next
  have g28 := (k2.get _ (by omega)).trans g18
  have kB : Keep h2 (h2.new (.blk 3 [[v, .nils, .int .i64 0]])) := (Keep.refl _).new _
  obtain ⟨h3, e3, k3⟩ := can n r q log ar bt clock (h0.next + 5) (.sl (h0.next + 6) 0 4) (h2.new (.blk 3 [[v, .nils, .int .i64 0]]))
  unfold sRow at e2 e3
  rw [dtrue hn] at e3
  have n3 := k3.next
  simp -implicitDefEqProofs only [go_sem, ↓reduceIte, Nat.reduceAdd, Nat.reduceSub, Nat.reduceMul, Nat.reduceLeDiff, Nat.reduceEqDiff, Nat.reduceGT, Nat.reduceLT, Nat.reduceMod, Nat.reduceDiv, Nat.reducePow, reduceCtorEq] at n3
  have ne : ¬ h0.next + 8 = h2.next := by omega
  have g310 : h3.get h2.next = some (.blk 3 [[v, .nils, .int .i64 0]]) := (k3.get _ (by simp -implicitDefEqProofs only [go_sem, ↓reduceIte, Nat.reduceAdd, Nat.reduceSub, Nat.reduceMul, Nat.reduceLeDiff, Nat.reduceEqDiff, Nat.reduceGT, Nat.reduceLT, Nat.reduceMod, Nat.reduceDiv, Nat.reducePow, reduceCtorEq]; omega)).trans gt_new_same
  have g38 : h3.get (h0.next + 8) = _ := (k3.get _ (by simp -implicitDefEqProofs only [go_sem, ↓reduceIte, Nat.reduceAdd, Nat.reduceSub, Nat.reduceMul, Nat.reduceLeDiff, Nat.reduceEqDiff, Nat.reduceGT, Nat.reduceLT, Nat.reduceMod, Nat.reduceDiv, Nat.reducePow, reduceCtorEq]; omega)).trans ((gt_new_lt (by omega)).trans g28)
  have W3 := W.keep (k2.trans (kB.trans k3))
  have ews := workers W3
  obtain ⟨h4, e4, k4⟩ := world_ready W3 0 (by omega)
  have W4 := W3.keep k4
  obtain ⟨h5, e5, k5⟩ := world_ready W4 n (by omega)
  have W5 := W4.keep k5
  obtain ⟨h6, e6, k6⟩ := world_ready W5 (-1) (by omega)
  have W6 := W5.keep k6
  obtain ⟨h7, e7, k7⟩ := world_step W6 n
  have W7 := W6.keep k7
  obtain ⟨h8, e8, k8⟩ := world_add W7 n (.inr (by omega)) [.int .i64 0, .int .i64 0, .int .i64 0, .str ⟨#[]⟩, .nils]
  have W8 := W7.keep k8
  obtain ⟨h9, e9, k9⟩ := world_add W8 (-1) (.inl (by omega)) [.int .i64 0, .int .i64 0, .int .i64 0, .str ⟨#[]⟩, .nils]
  have k39 : Keep h3 h9 := k4.trans (k5.trans (k6.trans (k7.trans (k8.trans k9))))
  have g910 := (k39.get _ (by omega)).trans g310
  have hlv : ∀ h, lenB (.slice 49) h v = some (.int .i64 n) := fun h => hv 49 h
  have ewr := wrap_succ n (by omega)
  rw [hcl] at ews
  have key : Ok (X cfg 7 (Tryz.f7.body.get rfl) ([.int .i64 r, .agg [.int .i64 q, .int .i64 log, .int .i64 ar, .int .i64 bt, .int .i64 clock], .int .u8 k] ++ List.replicate (106 - 3) undefA) [] H.empty (fin Tryz.f7.results.toList) (fin Tryz.f7.results.toList) (fun _ _ _ _ => none)) fun x => x.1 = .ret (.bool true) := by
    simp -implicitDefEqProofs only [go_sem, ↓reduceIte, Nat.reduceAdd, Nat.reduceSub, Nat.reduceMul, Nat.reduceLeDiff, Nat.reduceEqDiff, Nat.reduceGT, Nat.reduceLT, Nat.reduceMod, Nat.reduceDiv, Nat.reducePow, reduceCtorEq, Tryz.f7, Option.get_some, nx_empty, callF_some e0]
    refine Ok.of_eq (S_dr [⟨0, 0, 0⟩, ⟨1, 0, 0⟩, ⟨2, 0, 0⟩, ⟨3, 0, 0⟩, ⟨4, 0, 0⟩, ⟨5, 0, 0⟩, ⟨6, 0, 0⟩, ⟨7, 0, 0⟩, ⟨8, 0, 0⟩, ⟨9, 0, 1⟩] (by kernel_rfl) (by kernel_rfl)) ?_
    simp -implicitDefEqProofs only [go_sem, ↓reduceIte, Nat.reduceAdd, Nat.reduceSub, Nat.reduceMul, Nat.reduceLeDiff, Nat.reduceEqDiff, Nat.reduceGT, Nat.reduceLT, Nat.reduceMod, Nat.reduceDiv, Nat.reducePow, reduceCtorEq, g0, e70, em, ew, emk, ← hAe, gA8, callF_some e1]
    simp -implicitDefEqProofs only [go_sem, ↓reduceIte, Nat.reduceAdd, Nat.reduceSub, Nat.reduceMul, Nat.reduceLeDiff, Nat.reduceEqDiff, Nat.reduceGT, Nat.reduceLT, Nat.reduceMod, Nat.reduceDiv, Nat.reducePow, reduceCtorEq, g18, callF_some e2, ne, g28, callF_some e3, g38, v2]
    simp -implicitDefEqProofs only [go_sem, ↓reduceIte, Nat.reduceAdd, Nat.reduceSub, Nat.reduceMul, Nat.reduceLeDiff, Nat.reduceEqDiff, Nat.reduceGT, Nat.reduceLT, Nat.reduceMod, Nat.reduceDiv, Nat.reducePow, reduceCtorEq, callF_some ews, ewr]
    simp -implicitDefEqProofs only [go_sem, ↓reduceIte, Nat.reduceAdd, Nat.reduceSub, Nat.reduceMul, Nat.reduceLeDiff, Nat.reduceEqDiff, Nat.reduceGT, Nat.reduceLT, Nat.reduceMod, Nat.reduceDiv, Nat.reducePow, reduceCtorEq, callF_some e4, callF_some e5, callF_some e6]
    simp -implicitDefEqProofs only [go_sem, ↓reduceIte, Nat.reduceAdd, Nat.reduceSub, Nat.reduceMul, Nat.reduceLeDiff, Nat.reduceEqDiff, Nat.reduceGT, Nat.reduceLT, Nat.reduceMod, Nat.reduceDiv, Nat.reducePow, reduceCtorEq, callF_some e7, callF_some e8, callF_some e9, g910, v1, v2, hlv]
    exact Ok.some rfl
  obtain ⟨⟨a, h'⟩, e, q1⟩ := key
  simp only at q1
  subst q1
  exact ⟨h', enter Tryz.func7 rfl rfl Tryz.ntmps7 e⟩

/-- THE LAW ANSWERS YES. -/
theorem law_ok (r q log ar bt clock : Int) (k : Nat) (hk : k < 256) : ∃ h', cl cfg (.fn 7) [.int .i64 r, .agg [.int .i64 q, .int .i64 log, .int .i64 ar, .int .i64 bt, .int .i64 clock], .int .u8 k] H.empty = some (.ret (.bool true), h') := by
  by_cases hn : Can (k % 70) r q log ar bt clock
  · exact law_yes r q log ar bt clock k hk hn
  · exact law_no r q log ar bt clock k hk hn
end Go.Ai
