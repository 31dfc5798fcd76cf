import Derived.Test.YtelmlhlkefmjkaaGreatDoorCf
set_option linter.unusedSimpArgs false
set_option linter.unusedVariables false
/- What the makers give. -/
namespace Go.Ai
open Go Go.Proofs
set_option maxRecDepth 100000
set_option linter.unusedSimpArgs false

theorem ring_new (n : Int) (h : H) (h1 : decide (n < 0) = false) (h2 : decide (n > 65536) = false) : cl cfg (.fn 46) [.int .i64 n] h = some (.ret (.ptr h.next 0 0), h.new (.blk 3 [[.int .i64 n, .nils, .bool false]])) := by
  refine enter Tryz.func46 rfl rfl Tryz.ntmps46 ?_
  simp -implicitDefEqProofs only [go_sem, ↓reduceIte, Nat.reduceAdd, Nat.reduceSub, Nat.reduceMul, Nat.reduceLeDiff, Nat.reduceEqDiff, Nat.reduceGT, Nat.reduceLT, Nat.reduceMod, Nat.reduceDiv, Nat.reducePow, reduceCtorEq, h1, h2]
  rfl
theorem ring_no (n : Int) (h : H) (h1 : (n < 0) ∨ (n > 65536)) : cl cfg (.fn 46) [.int .i64 n] h = some (.ret .nilp, h) := by
  refine enter Tryz.func46 rfl rfl Tryz.ntmps46 ?_
  by_cases h2 : n < 0
  · have e1 : decide (n < 0) = true := by simp [h2]
    simp -implicitDefEqProofs only [go_sem, ↓reduceIte, Nat.reduceAdd, Nat.reduceSub, Nat.reduceMul, Nat.reduceLeDiff, Nat.reduceEqDiff, Nat.reduceGT, Nat.reduceLT, Nat.reduceMod, Nat.reduceDiv, Nat.reducePow, reduceCtorEq, e1]
    rfl
  · have e1 : decide (n < 0) = false := by simp [h2]
    have e2 : decide (n > 65536) = true := by simp; omega
    simp -implicitDefEqProofs only [go_sem, ↓reduceIte, Nat.reduceAdd, Nat.reduceSub, Nat.reduceMul, Nat.reduceLeDiff, Nat.reduceEqDiff, Nat.reduceGT, Nat.reduceLT, Nat.reduceMod, Nat.reduceDiv, Nat.reducePow, reduceCtorEq, e1, e2]
    rfl
theorem arenaK_new (n : Int) (h : H) (h1 : decide (n < 0) = false) (h2 : decide (n > 1048576) = false) : cl cfg (.fn 61) [.int .i64 n] h = some (.ret (.ptr h.next 0 0), h.new (.blk 3 [[.int .i64 n, .nils, .nils]])) := by
  refine enter Tryz.func61 rfl rfl Tryz.ntmps61 ?_
  simp -implicitDefEqProofs only [go_sem, ↓reduceIte, Nat.reduceAdd, Nat.reduceSub, Nat.reduceMul, Nat.reduceLeDiff, Nat.reduceEqDiff, Nat.reduceGT, Nat.reduceLT, Nat.reduceMod, Nat.reduceDiv, Nat.reducePow, reduceCtorEq, h1, h2]
  rfl
theorem arenaK_no (n : Int) (h : H) (h1 : (n < 0) ∨ (n > 1048576)) : cl cfg (.fn 61) [.int .i64 n] h = some (.ret .nilp, h) := by
  refine enter Tryz.func61 rfl rfl Tryz.ntmps61 ?_
  by_cases h2 : n < 0
  · have e1 : decide (n < 0) = true := by simp [h2]
    simp -implicitDefEqProofs only [go_sem, ↓reduceIte, Nat.reduceAdd, Nat.reduceSub, Nat.reduceMul, Nat.reduceLeDiff, Nat.reduceEqDiff, Nat.reduceGT, Nat.reduceLT, Nat.reduceMod, Nat.reduceDiv, Nat.reducePow, reduceCtorEq, e1]
    rfl
  · have e1 : decide (n < 0) = false := by simp [h2]
    have e2 : decide (n > 1048576) = true := by simp; omega
    simp -implicitDefEqProofs only [go_sem, ↓reduceIte, Nat.reduceAdd, Nat.reduceSub, Nat.reduceMul, Nat.reduceLeDiff, Nat.reduceEqDiff, Nat.reduceGT, Nat.reduceLT, Nat.reduceMod, Nat.reduceDiv, Nat.reducePow, reduceCtorEq, e1, e2]
    rfl
theorem arenaS_new (n : Int) (h : H) (h1 : decide (n < 0) = false) (h2 : decide (n > 1048576) = false) : cl cfg (.fn 64) [.int .i64 n] h = some (.ret (.ptr h.next 0 0), h.new (.blk 3 [[.int .i64 n, .nils, .nils]])) := by
  refine enter Tryz.func64 rfl rfl Tryz.ntmps64 ?_
  simp -implicitDefEqProofs only [go_sem, ↓reduceIte, Nat.reduceAdd, Nat.reduceSub, Nat.reduceMul, Nat.reduceLeDiff, Nat.reduceEqDiff, Nat.reduceGT, Nat.reduceLT, Nat.reduceMod, Nat.reduceDiv, Nat.reducePow, reduceCtorEq, h1, h2]
  rfl
theorem mapK_new (n : Int) (f : FuncId) (h : H) (h1 : decide (n < 0) = false) (h2 : decide (n > 1048576) = false) : cl cfg (.fn 47) [.int .i64 n, .fn f [] []] h =
    some (.ret (.ptr (h.next + 1) 0 0), (h.new (.blk 3 [[.int .i64 n, .nils, .nils]])).new (.blk 2 [[.ptr h.next 0 0, .fn f [] []]])) := by
  refine enter Tryz.func47 rfl rfl Tryz.ntmps47 ?_
  simp -implicitDefEqProofs only [go_sem, ↓reduceIte, Nat.reduceAdd, Nat.reduceSub, Nat.reduceMul, Nat.reduceLeDiff, Nat.reduceEqDiff, Nat.reduceGT, Nat.reduceLT, Nat.reduceMod, Nat.reduceDiv, Nat.reducePow, reduceCtorEq, callF_some (arenaK_new n _ h1 h2)]
  rfl
theorem mapK_no (n : Int) (f : FuncId) (h : H) (h1 : (n < 0) ∨ (n > 1048576)) : cl cfg (.fn 47) [.int .i64 n, .fn f [] []] h = some (.ret .nilp, h) := by
  refine enter Tryz.func47 rfl rfl Tryz.ntmps47 ?_
  simp -implicitDefEqProofs only [go_sem, ↓reduceIte, Nat.reduceAdd, Nat.reduceSub, Nat.reduceMul, Nat.reduceLeDiff, Nat.reduceEqDiff, Nat.reduceGT, Nat.reduceLT, Nat.reduceMod, Nat.reduceDiv, Nat.reducePow, reduceCtorEq, callF_some (arenaK_no n _ h1)]
  rfl
theorem mapS_new (n : Int) (f : FuncId) (h : H) (h1 : decide (n < 0) = false) (h2 : decide (n > 1048576) = false) : cl cfg (.fn 49) [.int .i64 n, .fn f [] []] h =
    some (.ret (.ptr (h.next + 1) 0 0), (h.new (.blk 3 [[.int .i64 n, .nils, .nils]])).new (.blk 2 [[.ptr h.next 0 0, .fn f [] []]])) := by
  refine enter Tryz.func49 rfl rfl Tryz.ntmps49 ?_
  simp -implicitDefEqProofs only [go_sem, ↓reduceIte, Nat.reduceAdd, Nat.reduceSub, Nat.reduceMul, Nat.reduceLeDiff, Nat.reduceEqDiff, Nat.reduceGT, Nat.reduceLT, Nat.reduceMod, Nat.reduceDiv, Nat.reducePow, reduceCtorEq, callF_some (arenaS_new n _ h1 h2)]
  rfl
/-- The store's blocks. -/
def storeH (h : H) (n : Int) : H := ((((h.new (.blk 3 [[.int .i64 n, .nils, .nils]])).new (.blk 2 [[.ptr h.next 0 0, .fn 48 [] []]])).new (.blk 3 [[.int .i64 n, .nils, .nils]])).new (.blk 2 [[.ptr (h.next + 2) 0 0, .fn 50 [] []]])).new
  (.blk 2 [[.ptr (h.next + 1) 0 0, .ptr (h.next + 3) 0 0]])
theorem store_new (n : Int) (h : H) (h1 : decide (n < 0) = false) (h2 : decide (n > 1048576) = false) : cl cfg (.fn 27) [.int .i64 n] h = some (.ret (.ptr (h.next + 4) 0 0), storeH h n) := by
  refine enter Tryz.func27 rfl rfl Tryz.ntmps27 ?_
  simp -implicitDefEqProofs only [go_sem, ↓reduceIte, Nat.reduceAdd, Nat.reduceSub, Nat.reduceMul, Nat.reduceLeDiff, Nat.reduceEqDiff, Nat.reduceGT, Nat.reduceLT, Nat.reduceMod, Nat.reduceDiv, Nat.reducePow, reduceCtorEq, callF_some (mapK_new n 48 _ h1 h2), callF_some (mapS_new n 50 _ h1 h2)]
  rfl
theorem store_no (n : Int) (h : H) (h1 : (n < 0) ∨ (n > 1048576)) : cl cfg (.fn 27) [.int .i64 n] h = some (.ret .nilp, h) := by
  refine enter Tryz.func27 rfl rfl Tryz.ntmps27 ?_
  simp -implicitDefEqProofs only [go_sem, ↓reduceIte, Nat.reduceAdd, Nat.reduceSub, Nat.reduceMul, Nat.reduceLeDiff, Nat.reduceEqDiff, Nat.reduceGT, Nat.reduceLT, Nat.reduceMod, Nat.reduceDiv, Nat.reducePow, reduceCtorEq, callF_some (mapK_no n 48 _ h1)]
  rfl
theorem tree_new (h : H) : cl cfg (.fn 66) [] h = some (.ret (.ptr (h.next + 1) 0 0), (h.new (.map [])).new (.blk 2 [[.map h.next, .nils]])) := by
  refine enter Tryz.func66 rfl rfl Tryz.ntmps66 ?_
  simp -implicitDefEqProofs only [go_sem, ↓reduceIte, Nat.reduceAdd, Nat.reduceSub, Nat.reduceMul, Nat.reduceLeDiff, Nat.reduceEqDiff, Nat.reduceGT, Nat.reduceLT, Nat.reduceMod, Nat.reduceDiv, Nat.reducePow, reduceCtorEq]
  rfl
theorem log_new (n : Int) (h : H) (h1 : decide (n < 0) = false) : cl cfg (.fn 51) [.int .i64 n] h =
    some (.ret (.ptr (h.next + 2) 0 0), ((h.new (.map [])).new (.blk 2 [[.map h.next, .nils]])).new (.blk 3 [[.int .i64 n, .nils, .ptr (h.next + 1) 0 0]])) := by
  refine enter Tryz.func51 rfl rfl Tryz.ntmps51 ?_
  simp -implicitDefEqProofs only [go_sem, ↓reduceIte, Nat.reduceAdd, Nat.reduceSub, Nat.reduceMul, Nat.reduceLeDiff, Nat.reduceEqDiff, Nat.reduceGT, Nat.reduceLT, Nat.reduceMod, Nat.reduceDiv, Nat.reducePow, reduceCtorEq, h1, callF_some (tree_new _)]
  rfl
theorem limbo_new (h : H) : cl cfg (.fn 54) [] h = some (.ret (.ptr h.next 0 0), h.new (.blk 2 [[.int .i64 0, .nils]])) := by
  refine enter Tryz.func54 rfl rfl Tryz.ntmps54 ?_
  simp -implicitDefEqProofs only [go_sem, ↓reduceIte, Nat.reduceAdd, Nat.reduceSub, Nat.reduceMul, Nat.reduceLeDiff, Nat.reduceEqDiff, Nat.reduceGT, Nat.reduceLT, Nat.reduceMod, Nat.reduceDiv, Nat.reducePow, reduceCtorEq]
  rfl
theorem cloneCalls_nil (h : H) : cl cfg (.fn 52) [.nils] h = some (.ret .nils, h) := by
  refine enter Tryz.func52 rfl rfl Tryz.ntmps52 ?_
  simp -implicitDefEqProofs only [go_sem, ↓reduceIte, Nat.reduceAdd, Nat.reduceSub, Nat.reduceMul, Nat.reduceLeDiff, Nat.reduceEqDiff, Nat.reduceGT, Nat.reduceLT, Nat.reduceMod, Nat.reduceDiv, Nat.reducePow, reduceCtorEq]
  rfl
end Go.Ai

/- What the makers give: the desk, the replica, a client, the integrator. -/
namespace Go.Ai
open Go Go.Proofs
set_option maxRecDepth 100000
set_option linter.unusedSimpArgs false

theorem natOf_cast (n : Nat) : natOf (n : Int) = some n := by simp [natOf]
attribute [go_sem] natOf_cast
@[go_sem] theorem intA_int {k : IntKind} {n : Int} : intA (.int k n) = some n := rfl

/-- The desk's blocks. -/
def deskH (h : H) (n : Nat) (q : Int) : H := let h1 := h.new (.blk 3 [[.int .i64 q, .nils, .bool false]])
  (((h1.room 10).set (h.next + 1 + 1) (.blk 1 (List.replicate n [.int .i64 0]))).set (h.next + 1 + 4) (.blk 6 (List.replicate n [.int .i64 0, .int .i64 0, .int .i64 0, .nils, .nils, .bool false]))).set (h.next + 1 + 8)
    (.blk 10 [[.int .i64 0, .int .i64 0, .int .i64 0, .int .i64 0, .int .i64 0, .int .i64 0, .sl (h.next + 1 + 1) 0 n, .sl (h.next + 1 + 4) 0 n, .ptr h.next 0 0, .int .i64 0]])
theorem desk_new (n : Nat) (q : Int) (h : H) (hn : n ≤ 64) (h1 : decide (q < 0) = false) (h2 : decide (q > 65536) = false) : cl cfg (.fn 26) [.int .i64 n, .int .i64 q] h = some (.ret (.ptr (h.next + 1 + 8) 0 0), deskH h n q) := by
  have e1 : decide ((n : Int) < 0) = false := by simp
  have e2 : decide ((n : Int) > 64) = false := by simp; omega
  have e3 : n ≤ 70368744177664 := by omega
  have e4 : n * 8 ≤ 140737488355328 := by omega
  have e5 : n < 140737488355328 := by omega
  have e6 : n * 80 ≤ 140737488355328 := by omega
  refine enter Tryz.func26 rfl rfl Tryz.ntmps26 ?_
  simp -implicitDefEqProofs only [go_sem, ↓reduceIte, Nat.reduceAdd, Nat.reduceSub, Nat.reduceMul, Nat.reduceLeDiff, Nat.reduceEqDiff, Nat.reduceGT, Nat.reduceLT, Nat.reduceMod, Nat.reduceDiv, Nat.reducePow, reduceCtorEq, callF_some (ring_new q _ h1 h2), e1, e2]
  refine (S_dr [⟨0, 0, 0⟩, ⟨1, 0, 0⟩, ⟨2, 0, 0⟩, ⟨3, 0, 0⟩, ⟨4, 0, 0⟩, ⟨5, 0, 0⟩, ⟨6, 0, 0⟩, ⟨7, 0, 0⟩, ⟨8, 0, 0⟩, ⟨9, 0, 0⟩] (by kernel_rfl) (by kernel_rfl)).trans ?_
  simp -implicitDefEqProofs only [go_sem, ↓reduceIte, Nat.reduceAdd, Nat.reduceSub, Nat.reduceMul, Nat.reduceLeDiff, Nat.reduceEqDiff, Nat.reduceGT, Nat.reduceLT, Nat.reduceMod, Nat.reduceDiv, Nat.reducePow, reduceCtorEq, mkN, natOf_cast, e3, e4, e5, e6]
  rfl

/-- The replica's blocks, behind the box of its caps. -/
def coreH (h : H) (r log clock : Int) (l : List AV) : H := let h1 := h.new (.blk 5 [l])
  let h2 := ((((h1.room 9).new (.map [])).new (.blk 2 [[.map (h.next + 1 + 9), .nils]])).new (.blk 3 [[.int .i64 log, .nils, .ptr (h.next + 1 + 9 + 1) 0 0]]))
  h2.set (h.next + 1 + 7) (.blk 5 [[.int .i64 r, .int .i64 clock, .ptr (h.next + 1 + 9 + 2) 0 0, .int .i64 0, .bool false]])
theorem core_new (r q log ar bt clock : Int) (h : H) (h1 : decide (r < 0) = false) (h2 : decide (r ≥ 256) = false) (h3 : decide (log < 0) = false) (h4 : decide (clock < 0) = false) (h5 : decide (clock > 16777215) = false) :
    cl cfg (.fn 28) [.int .i64 r, .agg [.int .i64 q, .int .i64 log, .int .i64 ar, .int .i64 bt, .int .i64 clock]] h = some (.ret (.ptr (h.next + 1 + 7) 0 0), coreH h r log clock [.int .i64 q, .int .i64 log, .int .i64 ar, .int .i64 bt, .int .i64 clock]) := by
  refine enter Tryz.func28 rfl rfl Tryz.ntmps28 ?_
  simp -implicitDefEqProofs only [go_sem, ↓reduceIte, Nat.reduceAdd, Nat.reduceSub, Nat.reduceMul, Nat.reduceLeDiff, Nat.reduceEqDiff, Nat.reduceGT, Nat.reduceLT, Nat.reduceMod, Nat.reduceDiv, Nat.reducePow, reduceCtorEq, h1, h2, h3, h4, h5]
  refine (S_dr [⟨3, 0, 0⟩, ⟨4, 0, 0⟩, ⟨5, 0, 1⟩, ⟨0, 0, 1⟩, ⟨1, 0, 1⟩, ⟨2, 0, 1⟩, ⟨6, 1, 1⟩, ⟨7, 1, 1⟩, ⟨8, 1, 1⟩] (by kernel_rfl) (by kernel_rfl)).trans ?_
  simp -implicitDefEqProofs only [go_sem, ↓reduceIte, Nat.reduceAdd, Nat.reduceSub, Nat.reduceMul, Nat.reduceLeDiff, Nat.reduceEqDiff, Nat.reduceGT, Nat.reduceLT, Nat.reduceMod, Nat.reduceDiv, Nat.reducePow, reduceCtorEq, callF_some (log_new log _ h3)]
  refine DW_nil ?_ ?_
  · simp -implicitDefEqProofs only [go_sem, ↓reduceIte, Nat.reduceAdd, Nat.reduceSub, Nat.reduceMul, Nat.reduceLeDiff, Nat.reduceEqDiff, Nat.reduceGT, Nat.reduceLT, Nat.reduceMod, Nat.reduceDiv, Nat.reducePow, reduceCtorEq]
  · simp -implicitDefEqProofs only [go_sem, ↓reduceIte, Nat.reduceAdd, Nat.reduceSub, Nat.reduceMul, Nat.reduceLeDiff, Nat.reduceEqDiff, Nat.reduceGT, Nat.reduceLT, Nat.reduceMod, Nat.reduceDiv, Nat.reducePow, reduceCtorEq]
    rfl

/-- A client without calls. -/
def clRow (d s : Nat) (i : Int) (w c : Nat) : Row := [.ptr d 0 0, .ptr s 0 0, .int .i64 i, .nils, .int .i64 0, .fn 30 [.ptr w 0 0] [], .fn 53 [.ptr c 0 0] [], .bool false, .int .i64 0, .int .i64 0, .int .i64 0, .int .i64 0, .int .i64 0, .int .i64 0, .bool false, .nilp, .nils]
theorem client_new (d s : Nat) (i : Int) (w : Nat) (h : H) : cl cfg (.fn 29) [.ptr d 0 0, .ptr s 0 0, .int .i64 i, .nils, .fn 30 [.ptr w 0 0] []] h = some (.ret (.ptr h.next 0 0), h.new (.blk 17 [clRow d s i w h.next])) := by
  refine enter Tryz.func29 rfl rfl Tryz.ntmps29 ?_
  simp -implicitDefEqProofs only [go_sem, ↓reduceIte, Nat.reduceAdd, Nat.reduceSub, Nat.reduceMul, Nat.reduceLeDiff, Nat.reduceEqDiff, Nat.reduceGT, Nat.reduceLT, Nat.reduceMod, Nat.reduceDiv, Nat.reducePow, reduceCtorEq, callF_some (cloneCalls_nil _)]
  rfl

def igRow0 (d s c : Nat) (n b : Int) (w k1 k2 : Nat) : Row := [.ptr d 0 0, .ptr s 0 0, .ptr c 0 0, .int .i64 n, .int .i64 b, .fn 30 [.ptr w 0 0] [], .nilf, .bool false, .int .i64 0, .int .i64 0, .int .i64 0, .int .i64 0, .int .i64 0, .ptr k1 0 0, .ptr k2 0 0, .nils, .nilp, .nils, .int .i64 0, .bool false]
/-- The integrator ahead of a batch. -/
def igRow (d s c : Nat) (n b : Int) (w k1 k2 x : Nat) : Row := [.ptr d 0 0, .ptr s 0 0, .ptr c 0 0, .int .i64 n, .int .i64 b, .fn 30 [.ptr w 0 0] [], .fn 72 [.ptr x 0 0] [], .bool true, .int .i64 0, .int .i64 0, .int .i64 0, .int .i64 0, .int .i64 0, .ptr k1 0 0, .ptr k2 0 0, .nils, .nilp, .nils, .int .i64 0, .bool false]
theorem integ_begin (d s c : Nat) (n b : Int) (w k1 k2 x : Nat) (h : H) (hx : h.get x = some (.blk 20 [igRow0 d s c n b w k1 k2])) : cl cfg (.fn 55) [.ptr x 0 0] h = some (.ret (.tup []), h.set x (.blk 20 [igRow d s c n b w k1 k2 x])) := by
  unfold igRow0 at hx
  refine enter Tryz.func55 rfl rfl Tryz.ntmps55 ?_
  simp -implicitDefEqProofs only [go_sem, ↓reduceIte, Nat.reduceAdd, Nat.reduceSub, Nat.reduceMul, Nat.reduceLeDiff, Nat.reduceEqDiff, Nat.reduceGT, Nat.reduceLT, Nat.reduceMod, Nat.reduceDiv, Nat.reducePow, reduceCtorEq, hx]
  rfl
theorem integ_new (d s c : Nat) (n b : Int) (w : Nat) (h : H) (h1 : decide (n < 0) = false) (h2 : decide (b < 1) = false) : cl cfg (.fn 31) [.ptr d 0 0, .ptr s 0 0, .ptr c 0 0, .int .i64 n, .int .i64 b, .fn 30 [.ptr w 0 0] []] h =
    some (.ret (.ptr (h.next + 2) 0 0), ((h.new (.blk 2 [[.int .i64 0, .nils]])).new (.blk 2 [[.int .i64 0, .nils]])).new (.blk 20 [igRow d s c n b w h.next (h.next + 1) (h.next + 2)])) := by
  refine enter Tryz.func31 rfl rfl Tryz.ntmps31 ?_
  simp -implicitDefEqProofs only [go_sem, ↓reduceIte, Nat.reduceAdd, Nat.reduceSub, Nat.reduceMul, Nat.reduceLeDiff, Nat.reduceEqDiff, Nat.reduceGT, Nat.reduceLT, Nat.reduceMod, Nat.reduceDiv, Nat.reducePow, reduceCtorEq, h1, h2, callF_some (limbo_new _)]
  refine (callF_some (integ_begin d s c n b w h.next (h.next + 1) (h.next + 2) _ ?_)).trans ?_
  · simp -implicitDefEqProofs only [go_sem, ↓reduceIte, Nat.reduceAdd, Nat.reduceSub, Nat.reduceMul, Nat.reduceLeDiff, Nat.reduceEqDiff, Nat.reduceGT, Nat.reduceLT, Nat.reduceMod, Nat.reduceDiv, Nat.reducePow, reduceCtorEq]; rfl
  simp -implicitDefEqProofs only [go_sem, ↓reduceIte, Nat.reduceAdd, Nat.reduceSub, Nat.reduceMul, Nat.reduceLeDiff, Nat.reduceEqDiff, Nat.reduceGT, Nat.reduceLT, Nat.reduceMod, Nat.reduceDiv, Nat.reducePow, reduceCtorEq]
  have e : ∀ (h0 : H) (m : Nat), h0.next = m → ∀ o o', (h0.new o).set m o' = h0.new o' := fun h0 m e o o' => by subst e; exact new_set
  rw [e _ (h.next + 2) rfl]
  rfl
end Go.Ai

/- The makers, in all cases: what they leave. -/
namespace Go.Ai
open Go Go.Proofs
set_option maxRecDepth 100000
set_option linter.unusedSimpArgs false

theorem dfalse {p : Prop} [Decidable p] (h : ¬ p) : decide p = false := by simp [h]
theorem dtrue {p : Prop} [Decidable p] (h : p) : decide p = true := by simp [h]

/-- A desk: its queue is empty. -/
def DeskAt (h : H) (m d : Nat) : Prop := ∃ row r q, h.get d = some (.blk 10 [row]) ∧ row[8]? = some (.ptr r 0 0) ∧ h.get r = some (.blk 3 [[.int .i64 q, .nils, .bool false]]) ∧ d < h.next ∧ r < h.next ∧ m ≤ d ∧ m ≤ r

theorem DeskAt.keep {h h' : H} {m d : Nat} (x : DeskAt h m d) (k : KeepBut (· < m) h h') : DeskAt h' m d := by
  obtain ⟨row, r, q, h1, h2, h3, h4, h5, h6, h7⟩ := x
  exact ⟨row, r, q, (k.get _ h4 (by simp; omega)).trans h1, h2, (k.get _ h5 (by simp; omega)).trans h3, Nat.lt_of_lt_of_le h4 k.next, Nat.lt_of_lt_of_le h5 k.next, h6, h7⟩

theorem desk_any (n : Nat) (q : Int) (h : H) : ∃ v h', cl cfg (.fn 26) [.int .i64 n, .int .i64 q] h = some (.ret v, h') ∧ Keep h h' ∧
    ((n ≤ 64 ∧ 0 ≤ q ∧ q ≤ 65536) ∧ (∃ d, v = .ptr d 0 0 ∧ DeskAt h' h.next d) ∨ ¬ (n ≤ 64 ∧ 0 ≤ q ∧ q ≤ 65536) ∧ v = .nilp) := by
  by_cases hq : 0 ≤ q ∧ q ≤ 65536
  · have h1 : decide (q < 0) = false := dfalse (by omega)
    have h2 : decide (q > 65536) = false := dfalse (by omega)
    by_cases hn : n ≤ 64
    · refine ⟨_, _, desk_new n q h hn h1 h2, ?_, .inl ⟨⟨hn, hq⟩, _, rfl, ?_⟩⟩
      · exact ((((Keep.refl h).new _).room 10).set (by omega) _ |>.set (by omega) _).set (by omega) _
      · refine ⟨_, h.next, q, H.get_set_same _ _ _, rfl, ?_, ?_, ?_, by omega, by omega⟩
        · simp -implicitDefEqProofs only [go_sem, ↓reduceIte, Nat.reduceAdd, Nat.reduceSub, Nat.reduceMul, Nat.reduceLeDiff, Nat.reduceEqDiff, Nat.reduceGT, Nat.reduceLT, Nat.reduceMod, Nat.reduceDiv, Nat.reducePow, reduceCtorEq, deskH]
        · simp -implicitDefEqProofs only [go_sem, ↓reduceIte, Nat.reduceAdd, Nat.reduceSub, Nat.reduceMul, Nat.reduceLeDiff, Nat.reduceEqDiff, Nat.reduceGT, Nat.reduceLT, Nat.reduceMod, Nat.reduceDiv, Nat.reducePow, reduceCtorEq, deskH]; omega
        · simp -implicitDefEqProofs only [go_sem, ↓reduceIte, Nat.reduceAdd, Nat.reduceSub, Nat.reduceMul, Nat.reduceLeDiff, Nat.reduceEqDiff, Nat.reduceGT, Nat.reduceLT, Nat.reduceMod, Nat.reduceDiv, Nat.reducePow, reduceCtorEq, deskH]; omega
    · have e1 : decide ((n : Int) < 0) = false := dfalse (by omega)
      have e2 : decide ((n : Int) > 64) = true := dtrue (by omega)
      refine ⟨.nilp, h.new (.blk 3 [[.int .i64 q, .nils, .bool false]]), ?_, (Keep.refl h).new _, .inr ⟨fun h => hn h.1, rfl⟩⟩
      refine enter Tryz.func26 rfl rfl Tryz.ntmps26 ?_
      simp -implicitDefEqProofs only [go_sem, ↓reduceIte, Nat.reduceAdd, Nat.reduceSub, Nat.reduceMul, Nat.reduceLeDiff, Nat.reduceEqDiff, Nat.reduceGT, Nat.reduceLT, Nat.reduceMod, Nat.reduceDiv, Nat.reducePow, reduceCtorEq, callF_some (ring_new q _ h1 h2), e1, e2]
      rfl
  · refine ⟨.nilp, h, ?_, Keep.refl h, .inr ⟨fun h => hq h.2, rfl⟩⟩
    have e1 : decide ((n : Int) < 0) = false := dfalse (by omega)
    refine enter Tryz.func26 rfl rfl Tryz.ntmps26 ?_
    have hr := ring_no q h (by omega)
    cases e2 : decide ((n : Int) > 64) with
    | true => simp -implicitDefEqProofs only [go_sem, ↓reduceIte, Nat.reduceAdd, Nat.reduceSub, Nat.reduceMul, Nat.reduceLeDiff, Nat.reduceEqDiff, Nat.reduceGT, Nat.reduceLT, Nat.reduceMod, Nat.reduceDiv, Nat.reducePow, reduceCtorEq, callF_some hr, e1, e2]; rfl
    | false => simp -implicitDefEqProofs only [go_sem, ↓reduceIte, Nat.reduceAdd, Nat.reduceSub, Nat.reduceMul, Nat.reduceLeDiff, Nat.reduceEqDiff, Nat.reduceGT, Nat.reduceLT, Nat.reduceMod, Nat.reduceDiv, Nat.reducePow, reduceCtorEq, callF_some hr, e1, e2]; rfl

theorem store_any (n : Int) (h : H) : ∃ v h', cl cfg (.fn 27) [.int .i64 n] h = some (.ret v, h') ∧ Keep h h' ∧ ((0 ≤ n ∧ n ≤ 1048576) ∧ (∃ s, v = .ptr s 0 0 ∧ s < h'.next) ∨ ¬ (0 ≤ n ∧ n ≤ 1048576) ∧ v = .nilp) := by
  by_cases hn : 0 ≤ n ∧ n ≤ 1048576
  · refine ⟨_, _, store_new n h (dfalse (by omega)) (dfalse (by omega)), ?_, .inl ⟨hn, _, rfl, ?_⟩⟩
    · exact ((((Keep.refl h).new _).new _).new _ |>.new _).new _
    · simp -implicitDefEqProofs only [go_sem, ↓reduceIte, Nat.reduceAdd, Nat.reduceSub, Nat.reduceMul, Nat.reduceLeDiff, Nat.reduceEqDiff, Nat.reduceGT, Nat.reduceLT, Nat.reduceMod, Nat.reduceDiv, Nat.reducePow, reduceCtorEq, storeH]; omega
  · exact ⟨_, _, store_no n h (by omega), Keep.refl h, .inr ⟨hn, rfl⟩⟩

theorem core_any (r q log ar bt clock : Int) (h : H) : ∃ v h', cl cfg (.fn 28) [.int .i64 r, .agg [.int .i64 q, .int .i64 log, .int .i64 ar, .int .i64 bt, .int .i64 clock]] h = some (.ret v, h') ∧ Keep h h' ∧
    ((0 ≤ r ∧ r ≤ 255 ∧ 0 ≤ log ∧ 0 ≤ clock ∧ clock ≤ 16777215) ∧ (∃ c, v = .ptr c 0 0) ∨ ¬ (0 ≤ r ∧ r ≤ 255 ∧ 0 ≤ log ∧ 0 ≤ clock ∧ clock ≤ 16777215) ∧ v = .nilp) := by
  have no : ∀ (b1 b2 b3 b4 b5 : Bool), decide (r < 0) = b1 → decide (r ≥ 256) = b2 → decide (log < 0) = b3 → decide (clock < 0) = b4 → decide (clock > 16777215) = b5 → (b1 || b2 || b3 || b4 || b5) = true →
      cl cfg (.fn 28) [.int .i64 r, .agg [.int .i64 q, .int .i64 log, .int .i64 ar, .int .i64 bt, .int .i64 clock]] h = some (.ret .nilp, h.new (.blk 5 [[.int .i64 q, .int .i64 log, .int .i64 ar, .int .i64 bt, .int .i64 clock]])) := by
    intro b1 b2 b3 b4 b5 h1 h2 h3 h4 h5 hb
    refine enter Tryz.func28 rfl rfl Tryz.ntmps28 ?_
    cases b1 with
    | true => simp -implicitDefEqProofs only [go_sem, ↓reduceIte, Nat.reduceAdd, Nat.reduceSub, Nat.reduceMul, Nat.reduceLeDiff, Nat.reduceEqDiff, Nat.reduceGT, Nat.reduceLT, Nat.reduceMod, Nat.reduceDiv, Nat.reducePow, reduceCtorEq, h1]; rfl
    | false =>
      cases b2 with
      | true => simp -implicitDefEqProofs only [go_sem, ↓reduceIte, Nat.reduceAdd, Nat.reduceSub, Nat.reduceMul, Nat.reduceLeDiff, Nat.reduceEqDiff, Nat.reduceGT, Nat.reduceLT, Nat.reduceMod, Nat.reduceDiv, Nat.reducePow, reduceCtorEq, h1, h2]; rfl
      | false =>
        cases b3 with
        | true => simp -implicitDefEqProofs only [go_sem, ↓reduceIte, Nat.reduceAdd, Nat.reduceSub, Nat.reduceMul, Nat.reduceLeDiff, Nat.reduceEqDiff, Nat.reduceGT, Nat.reduceLT, Nat.reduceMod, Nat.reduceDiv, Nat.reducePow, reduceCtorEq, h1, h2, h3]; rfl
        | false =>
          cases b4 with
          | true => simp -implicitDefEqProofs only [go_sem, ↓reduceIte, Nat.reduceAdd, Nat.reduceSub, Nat.reduceMul, Nat.reduceLeDiff, Nat.reduceEqDiff, Nat.reduceGT, Nat.reduceLT, Nat.reduceMod, Nat.reduceDiv, Nat.reducePow, reduceCtorEq, h1, h2, h3, h4]; rfl
          | false =>
            cases b5 with
            | true => simp -implicitDefEqProofs only [go_sem, ↓reduceIte, Nat.reduceAdd, Nat.reduceSub, Nat.reduceMul, Nat.reduceLeDiff, Nat.reduceEqDiff, Nat.reduceGT, Nat.reduceLT, Nat.reduceMod, Nat.reduceDiv, Nat.reducePow, reduceCtorEq, h1, h2, h3, h4, h5]; rfl
            | false => cases hb
  by_cases hc : 0 ≤ r ∧ r ≤ 255 ∧ 0 ≤ log ∧ 0 ≤ clock ∧ clock ≤ 16777215
  · refine ⟨_, _, core_new r q log ar bt clock h (dfalse (by omega)) (dfalse (by omega)) (dfalse (by omega)) (dfalse (by omega)) (dfalse (by omega)), ?_, .inl ⟨hc, _, rfl⟩⟩
    exact (((((Keep.refl h).new _).room 9).new _).new _ |>.new _).set (by omega) _
  · refine ⟨_, _, no _ _ _ _ _ rfl rfl rfl rfl rfl ?_, (Keep.refl h).new _, .inr ⟨hc, rfl⟩⟩
    simp only [Bool.or_eq_true, decide_eq_true_eq]
    omega
end Go.Ai

/- A world: how it is made. -/
namespace Go.Ai
open Go Go.Proofs
set_option maxRecDepth 100000
set_option linter.unusedSimpArgs false


def Can (n : Nat) (r q log ar bt clock : Int) : Prop := (n ≤ 64 ∧ 0 ≤ q ∧ q ≤ 65536) ∧ (0 ≤ ar ∧ ar ≤ 1048576) ∧ (0 ≤ r ∧ r ≤ 255 ∧ 0 ≤ log ∧ 0 ≤ clock ∧ clock ≤ 16777215) ∧ 1 ≤ bt

/-- The script's box. -/
def sRow (r q log ar bt clock : Int) (cid n : Nat) (pk : AV) : Row := [.int .i64 r, .int .i64 q, .int .i64 log, .int .i64 ar, .int .i64 bt, .int .i64 clock, .sl cid 0 n, pk]

theorem world_no (n : Nat) (r q log ar bt clock : Int) (cid : Nat) (pk : AV) (h : H) (hn : ¬ Can n r q log ar bt clock) : ∃ h', cl cfg (.fn 11) [.agg [.int .i64 r, .int .i64 q, .int .i64 log, .int .i64 ar, .int .i64 bt, .int .i64 clock, .sl cid 0 n, pk]] h = some (.ret .nilp, h') ∧ Keep h h' := by
  have k0 : Keep h ((h.new (.blk 8 [sRow r q log ar bt clock cid n pk])).room 14) := ((Keep.refl h).new _).room 14
  obtain ⟨vd, hd, ed, kd, cd⟩ := desk_any n q ((h.new (.blk 8 [sRow r q log ar bt clock cid n pk])).room 14)
  obtain ⟨vs, hs, es, ks, cs⟩ := store_any ar hd
  have n1 := kd.next
  have n2 := ks.next
  have g0 : ((h.new (.blk 8 [sRow r q log ar bt clock cid n pk])).room 14).get h.next = some (.blk 8 [sRow r q log ar bt clock cid n pk]) := H.get_new_same _ _
  have g1 : hd.get h.next = some (.blk 8 [sRow r q log ar bt clock cid n pk]) := (kd.get _ (by simp -implicitDefEqProofs only [go_sem, ↓reduceIte, Nat.reduceAdd, Nat.reduceSub, Nat.reduceMul, Nat.reduceLeDiff, Nat.reduceEqDiff, Nat.reduceGT, Nat.reduceLT, Nat.reduceMod, Nat.reduceDiv, Nat.reducePow, reduceCtorEq]; omega)).trans g0
  simp -implicitDefEqProofs only [go_sem, ↓reduceIte, Nat.reduceAdd, Nat.reduceSub, Nat.reduceMul, Nat.reduceLeDiff, Nat.reduceEqDiff, Nat.reduceGT, Nat.reduceLT, Nat.reduceMod, Nat.reduceDiv, Nat.reducePow, reduceCtorEq] at n1
  have g2 : hs.get h.next = some (.blk 8 [sRow r q log ar bt clock cid n pk]) := (ks.get _ (by omega)).trans g1
  obtain ⟨vc, hcr, ec, kc, cc⟩ := core_any r q log ar bt clock (hs.set (h.next + 13) (.blk 7 [[vd, vs, .nils, .nilp, .nils, .nils, .int .i64 0]]))
  have n3 := kc.next
  simp -implicitDefEqProofs only [go_sem, ↓reduceIte, Nat.reduceAdd, Nat.reduceSub, Nat.reduceMul, Nat.reduceLeDiff, Nat.reduceEqDiff, Nat.reduceGT, Nat.reduceLT, Nat.reduceMod, Nat.reduceDiv, Nat.reducePow, reduceCtorEq] at n3
  have g3 : hcr.get h.next = some (.blk 8 [sRow r q log ar bt clock cid n pk]) := (kc.get _ (by simp -implicitDefEqProofs only [go_sem, ↓reduceIte, Nat.reduceAdd, Nat.reduceSub, Nat.reduceMul, Nat.reduceLeDiff, Nat.reduceEqDiff, Nat.reduceGT, Nat.reduceLT, Nat.reduceMod, Nat.reduceDiv, Nat.reducePow, reduceCtorEq]; omega)).trans (by simp -implicitDefEqProofs only [go_sem, ↓reduceIte, Nat.reduceAdd, Nat.reduceSub, Nat.reduceMul, Nat.reduceLeDiff, Nat.reduceEqDiff, Nat.reduceGT, Nat.reduceLT, Nat.reduceMod, Nat.reduceDiv, Nat.reducePow, reduceCtorEq]; exact g2)
  have g4 : hcr.get (h.next + 13) = some (.blk 7 [[vd, vs, .nils, .nilp, .nils, .nils, .int .i64 0]]) := (kc.get _ (by simp -implicitDefEqProofs only [go_sem, ↓reduceIte, Nat.reduceAdd, Nat.reduceSub, Nat.reduceMul, Nat.reduceLeDiff, Nat.reduceEqDiff, Nat.reduceGT, Nat.reduceLT, Nat.reduceMod, Nat.reduceDiv, Nat.reducePow, reduceCtorEq]; omega)).trans (by simp -implicitDefEqProofs only [go_sem, ↓reduceIte, Nat.reduceAdd, Nat.reduceSub, Nat.reduceMul, Nat.reduceLeDiff, Nat.reduceEqDiff, Nat.reduceGT, Nat.reduceLT, Nat.reduceMod, Nat.reduceDiv, Nat.reducePow, reduceCtorEq])
  refine ⟨hcr, ?_, ((k0.trans kd).trans ks |>.set (by omega) _).trans kc⟩
  clear k0 kd ks kc g0 n1 n2 n3
  unfold sRow at *
  refine enter Tryz.func11 rfl rfl Tryz.ntmps11 ?_
  simp -implicitDefEqProofs only [go_sem, ↓reduceIte, Nat.reduceAdd, Nat.reduceSub, Nat.reduceMul, Nat.reduceLeDiff, Nat.reduceEqDiff, Nat.reduceGT, Nat.reduceLT, Nat.reduceMod, Nat.reduceDiv, Nat.reducePow, reduceCtorEq]
  refine (S_dr [⟨0, 0, 0⟩, ⟨1, 0, 0⟩, ⟨2, 0, 0⟩, ⟨3, 0, 0⟩, ⟨4, 0, 0⟩, ⟨5, 0, 0⟩, ⟨6, 0, 1⟩, ⟨7, 0, 1⟩, ⟨8, 0, 1⟩, ⟨9, 0, 1⟩, ⟨10, 1, 2⟩, ⟨11, 2, 2⟩, ⟨12, 2, 2⟩, ⟨13, 2, 2⟩] (by kernel_rfl) (by kernel_rfl)).trans ?_
  rcases cd with ⟨hd1, d, rfl, _⟩ | ⟨hd1, rfl⟩ <;> rcases cs with ⟨hs1, s, rfl, _⟩ | ⟨hs1, rfl⟩ <;> rcases cc with ⟨hc1, c, rfl⟩ | ⟨hc1, rfl⟩
  case inl.inl.inl =>
    have hb : decide (bt < 1) = true := dtrue (by by_cases hb : bt < 1; exact hb; exact absurd ⟨hd1, hs1, hc1, by omega⟩ hn)
    simp -implicitDefEqProofs only [go_sem, ↓reduceIte, Nat.reduceAdd, Nat.reduceSub, Nat.reduceMul, Nat.reduceLeDiff, Nat.reduceEqDiff, Nat.reduceGT, Nat.reduceLT, Nat.reduceMod, Nat.reduceDiv, Nat.reducePow, reduceCtorEq, callF_some ed, callF_some es, g1, g2]
    refine (DW_nilE ?_).trans ?_
    · simp -implicitDefEqProofs only [go_sem, ↓reduceIte, Nat.reduceAdd, Nat.reduceSub, Nat.reduceMul, Nat.reduceLeDiff, Nat.reduceEqDiff, Nat.reduceGT, Nat.reduceLT, Nat.reduceMod, Nat.reduceDiv, Nat.reducePow, reduceCtorEq, g1, g2]
    simp -implicitDefEqProofs only [go_sem, ↓reduceIte, Nat.reduceAdd, Nat.reduceSub, Nat.reduceMul, Nat.reduceLeDiff, Nat.reduceEqDiff, Nat.reduceGT, Nat.reduceLT, Nat.reduceMod, Nat.reduceDiv, Nat.reducePow, reduceCtorEq, callF_some ec, g2, g3, g4, hb]
    rfl
  all_goals
    simp -implicitDefEqProofs only [go_sem, ↓reduceIte, Nat.reduceAdd, Nat.reduceSub, Nat.reduceMul, Nat.reduceLeDiff, Nat.reduceEqDiff, Nat.reduceGT, Nat.reduceLT, Nat.reduceMod, Nat.reduceDiv, Nat.reducePow, reduceCtorEq, callF_some ed, callF_some es, g1, g2]
    refine (DW_nilE ?_).trans ?_
    · simp -implicitDefEqProofs only [go_sem, ↓reduceIte, Nat.reduceAdd, Nat.reduceSub, Nat.reduceMul, Nat.reduceLeDiff, Nat.reduceEqDiff, Nat.reduceGT, Nat.reduceLT, Nat.reduceMod, Nat.reduceDiv, Nat.reducePow, reduceCtorEq, g1, g2]
    simp -implicitDefEqProofs only [go_sem, ↓reduceIte, Nat.reduceAdd, Nat.reduceSub, Nat.reduceMul, Nat.reduceLeDiff, Nat.reduceEqDiff, Nat.reduceGT, Nat.reduceLT, Nat.reduceMod, Nat.reduceDiv, Nat.reducePow, reduceCtorEq, callF_some ec, g2, g3, g4]
    rfl
end Go.Ai
