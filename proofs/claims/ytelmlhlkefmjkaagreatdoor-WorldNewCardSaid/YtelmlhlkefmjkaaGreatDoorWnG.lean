import Derived.Test.YtelmlhlkefmjkaaGreatDoorWnE
set_option linter.unusedSimpArgs false
set_option linter.unusedVariables false
/- Nobody is ready. -/
namespace Go.Ai
open Go Go.Proofs
set_option maxRecDepth 100000
set_option linter.unusedSimpArgs false

theorem client_ready {h : H} {w c : Nat} (x : ClAt h w c) : cl cfg (.fn 407) [.ptr c 0 0] h = some (.ret (.bool false), h.room 29) := by
  obtain ⟨_, d, s, i, hg⟩ := x
  unfold clRow at hg
  have e0 : decide ((0 : Int) < 0) = false := by decide
  refine enter Tryz.func407 rfl rfl Tryz.ntmps407 ?_
  simp -implicitDefEqProofs only [go_sem, ↓reduceIte, Nat.reduceAdd, Nat.reduceSub, Nat.reduceMul, Nat.reduceLeDiff, Nat.reduceEqDiff, Nat.reduceGT, Nat.reduceLT, Nat.reduceMod, Nat.reduceDiv, Nat.reducePow, reduceCtorEq]
  refine (S_dr [⟨0, 0, 0⟩, ⟨1, 0, 0⟩, ⟨2, 0, 0⟩, ⟨3, 0, 0⟩, ⟨4, 0, 0⟩, ⟨5, 0, 0⟩, ⟨6, 0, 0⟩, ⟨7, 0, 0⟩, ⟨8, 0, 0⟩, ⟨9, 0, 0⟩, ⟨10, 0, 0⟩, ⟨11, 0, 0⟩, ⟨12, 0, 0⟩, ⟨13, 0, 0⟩, ⟨14, 0, 0⟩, ⟨15, 0, 0⟩, ⟨16, 0, 0⟩, ⟨17, 0, 0⟩, ⟨18, 0, 0⟩, ⟨19, 0, 0⟩, ⟨20, 0, 0⟩, ⟨21, 0, 0⟩, ⟨22, 0, 0⟩, ⟨23, 0, 0⟩, ⟨24, 0, 0⟩, ⟨25, 0, 1⟩, ⟨26, 1, 1⟩, ⟨27, 1, 1⟩, ⟨28, 1, 1⟩] (by kernel_rfl) (by kernel_rfl)).trans ?_
  simp -implicitDefEqProofs only [go_sem, ↓reduceIte, Nat.reduceAdd, Nat.reduceSub, Nat.reduceMul, Nat.reduceLeDiff, Nat.reduceEqDiff, Nat.reduceGT, Nat.reduceLT, Nat.reduceMod, Nat.reduceDiv, Nat.reducePow, reduceCtorEq, hg, e0]
  rfl

theorem desk_waiting {h : H} {m d : Nat} (x : DeskAt h m d) : cl cfg (.fn 405) [.ptr d 0 0] h = some (.ret (.int .i64 0), h) := by
  obtain ⟨row, r, q, h1, h2, h3, _⟩ := x
  have e : cl cfg (.fn 406) [.ptr r 0 0] h = some (.ret (.int .i64 0), h) := by
    refine enter Tryz.func406 rfl rfl Tryz.ntmps406 ?_
    simp -implicitDefEqProofs only [go_sem, ↓reduceIte, Nat.reduceAdd, Nat.reduceSub, Nat.reduceMul, Nat.reduceLeDiff, Nat.reduceEqDiff, Nat.reduceGT, Nat.reduceLT, Nat.reduceMod, Nat.reduceDiv, Nat.reducePow, reduceCtorEq, h3]
    rfl
  refine enter Tryz.func405 rfl rfl Tryz.ntmps405 ?_
  simp -implicitDefEqProofs only [go_sem, ↓reduceIte, Nat.reduceAdd, Nat.reduceSub, Nat.reduceMul, Nat.reduceLeDiff, Nat.reduceEqDiff, Nat.reduceGT, Nat.reduceLT, Nat.reduceMod, Nat.reduceDiv, Nat.reducePow, reduceCtorEq, h1, h2, callF_some e]
  rfl

theorem integ_ready {h : H} {m w ig d : Nat} (x : IgAt h w ig d) (y : DeskAt h m d) : cl cfg (.fn 403) [.ptr ig 0 0] h = some (.ret (.bool false), h) := by
  obtain ⟨_, s, c, n, b, k1, k2, hg⟩ := x
  unfold igRow at hg
  have e0 : decide ((0 : Int) > 0) = false := by decide
  refine enter Tryz.func403 rfl rfl Tryz.ntmps403 ?_
  simp -implicitDefEqProofs only [go_sem, ↓reduceIte, Nat.reduceAdd, Nat.reduceSub, Nat.reduceMul, Nat.reduceLeDiff, Nat.reduceEqDiff, Nat.reduceGT, Nat.reduceLT, Nat.reduceMod, Nat.reduceDiv, Nat.reducePow, reduceCtorEq, hg, callF_some (desk_waiting y), e0]
  rfl

@[go_sem] theorem ready84 : methodOf cfg.P 84 "Ready" = some 407 := by kernel_rfl
@[go_sem] theorem ready78 : methodOf cfg.P 78 "Ready" = some 403 := by kernel_rfl

/-- A worker of a world whose clients have no calls. -/
theorem worker {h : H} {m w d s ig : Nat} {cl : List Nat} {cs ws : AV} (W : WorldAt h m w d s ig cl cs ws) (i : Nat) (hi : i ≤ cl.length) :
    ∃ v : AV, (wkRows cl ++ [[.ifc 78 (.ptr ig 0 0)]])[i]? = some [v] ∧ (v = .ifc 78 (.ptr ig 0 0) ∨ ∃ c ∈ cl, v = .ifc 84 (.ptr c 0 0)) := by
  by_cases h1 : i < cl.length
  · refine ⟨.ifc 84 (.ptr cl[i] 0 0), ?_, .inr ⟨cl[i], List.getElem_mem h1, rfl⟩⟩
    rw [List.getElem?_append_left (by simpa [wkRows] using h1)]
    simp [wkRows, h1]
  · refine ⟨.ifc 78 (.ptr ig 0 0), ?_, .inl rfl⟩
    rw [List.getElem?_append_right (by simp [wkRows]; omega)]
    simp [wkRows, show i - cl.length = 0 by omega]

theorem SlIs.eq {h : H} {w : Nat} {rows : List Row} {v : AV} (x : SlIs h w rows v) (hne : rows ≠ []) : ∃ id n, v = .sl id 0 n ∧ n = rows.length ∧ h.get id = some (.blk w rows) := by
  cases v with
  | nils => exact absurd x hne
  | sl id i n => cases i with
    | zero => obtain ⟨e, g⟩ := x; exact ⟨id, n, rfl, e, g⟩
    | succ _ => exact x.elim
  | _ => exact x.elim

theorem world_ready {h : H} {m w d s ig : Nat} {cl : List Nat} {cs ws : AV} (W : WorldAt h m w d s ig cl cs ws) (i : Int) (hi : i ≤ cl.length) : ∃ h', Ai.cl cfg (.fn 12) [.ptr w 0 0, .int .i64 i] h = some (.ret (.bool false), h') ∧ Keep h h' := by
  have gw := W.row
  obtain ⟨id, N, rfl, hN, gid⟩ := W.isW.eq (by simp)
  have hNl : N = cl.length + 1 := by rw [hN]; simp [wkRows]
  have hwk := worker W
  generalize wkRows cl ++ [[.ifc 78 (.ptr ig 0 0)]] = rs at gid hwk hN
  by_cases h0 : 0 ≤ i
  · obtain ⟨j, rfl⟩ : ∃ j : Nat, i = j := ⟨i.toNat, by omega⟩
    have e1 : decide ((j : Int) ≥ 0) = true := dtrue h0
    have e2 : decide ((j : Int) < (N : Int)) = true := dtrue (by omega)
    obtain ⟨v, hv, hk⟩ := hwk j (by omega)
    have hia : ∀ te : TI, te.size = 1 → iadA h te (.sl id 0 N) j = some (.ptr id (0 + j) 0) := fun te ht => iad_row gid (by omega) (r := [v]) (by rw [Nat.zero_add]; exact hv) (by rw [ht]; rfl)
    rcases hk with rfl | ⟨c, hc, rfl⟩
    · refine ⟨h, enter Tryz.func12 rfl rfl Tryz.ntmps12 ?_, Keep.refl h⟩
      simp -implicitDefEqProofs only [go_sem, ↓reduceIte, Nat.reduceAdd, Nat.reduceSub, Nat.reduceMul, Nat.reduceLeDiff, Nat.reduceEqDiff, Nat.reduceGT, Nat.reduceLT, Nat.reduceMod, Nat.reduceDiv, Nat.reducePow, reduceCtorEq, gw, e1, e2, natOf_cast, intA_int, hia, Nat.zero_add, gid, hv, callM_ifc ready78, callF_some (integ_ready W.ig W.desk)]
      rfl
    · refine ⟨h.room 29, enter Tryz.func12 rfl rfl Tryz.ntmps12 ?_, (Keep.refl h).room 29⟩
      simp -implicitDefEqProofs only [go_sem, ↓reduceIte, Nat.reduceAdd, Nat.reduceSub, Nat.reduceMul, Nat.reduceLeDiff, Nat.reduceEqDiff, Nat.reduceGT, Nat.reduceLT, Nat.reduceMod, Nat.reduceDiv, Nat.reducePow, reduceCtorEq, gw, e1, e2, natOf_cast, intA_int, hia, Nat.zero_add, gid, hv, callM_ifc ready84, callF_some (client_ready (W.all c hc))]
      rfl
  · refine ⟨h, enter Tryz.func12 rfl rfl Tryz.ntmps12 ?_, Keep.refl h⟩
    have e1 : decide (i ≥ 0) = false := dfalse h0
    simp -implicitDefEqProofs only [go_sem, ↓reduceIte, Nat.reduceAdd, Nat.reduceSub, Nat.reduceMul, Nat.reduceLeDiff, Nat.reduceEqDiff, Nat.reduceGT, Nat.reduceLT, Nat.reduceMod, Nat.reduceDiv, Nat.reducePow, reduceCtorEq, gw, e1]
    rfl
end Go.Ai

/- Nobody steps; what is reported. -/
namespace Go.Ai
open Go Go.Proofs
set_option maxRecDepth 100000
set_option linter.unusedSimpArgs false

def tm32 (g : Nat → AV) (ws : AV) (pid n : Nat) (i : Int) : List AV := [ws, g 1, g 2, g 3, g 4, .nils, g 6, g 7, .sl pid 0 n, .int .i64 n, .int .i64 i, g 11, g 12, g 13, g 14, g 15, g 16, g 17, g 18, g 19, g 20, g 21, g 22, g 23, g 24, g 25, g 26, g 27, g 28, g 29, g 30, g 31, g 32, g 33, g 34, g 35, g 36, g 37, g 38, g 39, g 40, g 41, g 42, g 43, g 44, g 45, g 46, g 47]

def Live32 (ρ : List AV) (ws : AV) (pid n : Nat) (i : Int) : Prop := ρ = tm32 (fun j => ρ.getD j undefA) ws pid n i

theorem wrap_succ (i : Nat) (h : i < 2 ^ 62) : IntKind.wrap .i64 ((i : Int) + 1) = ((i + 1 : Nat) : Int) := by simp [IntKind.wrap, IntKind.signed, IntKind.bits]; omega

/-- A round of picks: nobody steps. -/
theorem sched_round {h : H} {m w d s ig : Nat} {cl : List Nat} {cs ws : AV} (W : WorldAt h m w d s ig cl cs ws) {pid n i : Nat} {pr : List Row} {p : Int} (gp : h.get pid = some (.blk 1 pr)) (hn : n = pr.length) (hi : i < n) (hb : n < 2 ^ 60) (hp : pr[i]? = some [.int .i64 p])
    {ρ : List AV} (hρ : Live32 ρ ws pid n i) {kn kr : Kont (AR × H)} {kx : Nat → Kont (AR × H)} {Q : AR × H → Prop}
    (K : ∀ h' ρ', Keep h h' → Live32 ρ' ws pid n (i + 1 : Nat) → Ok (X cfg 32 (.loop (lp Tryz.f32 0)) ρ' [] h' kn kr kx) Q) : Ok (X cfg 32 (.loop (lp Tryz.f32 0)) ρ [] h kn kr kx) Q := by
  refine Ok.of_eq S_loop ?_
  unfold Live32 at hρ
  generalize (fun j => ρ.getD j undefA) = g at hρ
  subst hρ
  have gw := W.row
  obtain ⟨id, N, rfl, hN, gid⟩ := W.isW.eq (by simp)
  have hNl : N = cl.length + 1 := by rw [hN]; simp [wkRows]
  have hwk := worker W
  generalize wkRows cl ++ [[.ifc 78 (.ptr ig 0 0)]] = rs at gid hwk hN
  unfold tm32
  have e1 : decide ((i : Int) < (n : Int)) = true := dtrue (by omega)
  have hwrap := wrap_succ i (by omega)
  have hia : ∀ te : TI, te.size = 1 → iadA h te (.sl pid 0 n) i = some (.ptr pid (0 + i) 0) := fun te ht => iad_row gp hi (r := [.int .i64 p]) (by rw [Nat.zero_add]; exact hp) (by rw [ht]; rfl)
  conv => arg 1; unfold lp
  by_cases p0 : p < 0
  · have e2 : decide (p < 0) = true := dtrue p0
    simp -implicitDefEqProofs only [go_sem, ↓reduceIte, Nat.reduceAdd, Nat.reduceSub, Nat.reduceMul, Nat.reduceLeDiff, Nat.reduceEqDiff, Nat.reduceGT, Nat.reduceLT, Nat.reduceMod, Nat.reduceDiv, Nat.reducePow, reduceCtorEq, Tryz.f32, loops, List.nil_append, List.getD_cons_zero, e1, natOf_cast, intA_int, hia, Nat.zero_add, gp, hp, e2, hwrap]
    exact K _ _ (Keep.refl h) rfl
  · have e2 : decide (p < 0) = false := dfalse p0
    obtain ⟨j, rfl⟩ : ∃ j : Nat, p = j := ⟨p.toNat, by omega⟩
    by_cases p1 : N ≤ j
    · have e3 : decide ((j : Int) ≥ (N : Int)) = true := dtrue (by omega)
      simp -implicitDefEqProofs only [go_sem, ↓reduceIte, Nat.reduceAdd, Nat.reduceSub, Nat.reduceMul, Nat.reduceLeDiff, Nat.reduceEqDiff, Nat.reduceGT, Nat.reduceLT, Nat.reduceMod, Nat.reduceDiv, Nat.reducePow, reduceCtorEq, Tryz.f32, loops, List.nil_append, List.getD_cons_zero, e1, natOf_cast, intA_int, hia, Nat.zero_add, gp, hp, e2, e3, hwrap]
      exact K _ _ (Keep.refl h) rfl
    · have e3 : decide ((j : Int) ≥ (N : Int)) = false := dfalse (by omega)
      obtain ⟨v, hv, hk⟩ := hwk j (by omega)
      have hib : ∀ te : TI, te.size = 1 → iadA h te (.sl id 0 N) j = some (.ptr id (0 + j) 0) := fun te ht => iad_row gid (by omega) (r := [v]) (by rw [Nat.zero_add]; exact hv) (by rw [ht]; rfl)
      rcases hk with rfl | ⟨c, hc, rfl⟩
      · simp -implicitDefEqProofs only [go_sem, ↓reduceIte, Nat.reduceAdd, Nat.reduceSub, Nat.reduceMul, Nat.reduceLeDiff, Nat.reduceEqDiff, Nat.reduceGT, Nat.reduceLT, Nat.reduceMod, Nat.reduceDiv, Nat.reducePow, reduceCtorEq, Tryz.f32, loops, List.nil_append, List.getD_cons_zero, e1, natOf_cast, intA_int, hia, Nat.zero_add, gp, hp, e2, e3, hib, gid, hv, callM_ifc ready78, callF_some (integ_ready W.ig W.desk), hwrap]
        exact K _ _ (Keep.refl h) rfl
      · simp -implicitDefEqProofs only [go_sem, ↓reduceIte, Nat.reduceAdd, Nat.reduceSub, Nat.reduceMul, Nat.reduceLeDiff, Nat.reduceEqDiff, Nat.reduceGT, Nat.reduceLT, Nat.reduceMod, Nat.reduceDiv, Nat.reducePow, reduceCtorEq, Tryz.f32, loops, List.nil_append, List.getD_cons_zero, e1, natOf_cast, intA_int, hia, Nat.zero_add, gp, hp, e2, e3, hib, gid, hv, callM_ifc ready84, callF_some (client_ready (W.all c hc)), hwrap]
        exact K _ _ ((Keep.refl h).room 29) rfl

theorem sched_loop {m w d s ig : Nat} {cl : List Nat} {cs ws : AV} {pid n : Nat} {pr : List Row} (hn : n = pr.length) (hb : n < 2 ^ 60) (hints : ∀ i, i < n → ∃ p, pr[i]? = some [.int .i64 p]) {kn kr : Kont (AR × H)} {kx : Nat → Kont (AR × H)} {Q : AR × H → Prop} {h0 : H}
    (K : ∀ h' ρ', Keep h0 h' → Live32 ρ' ws pid n n → Ok (kx 0 ρ' [] h') Q) : ∀ (q : Nat) {i : Nat} {h : H} {ρ : List AV}, i + q = n → Keep h0 h → WorldAt h m w d s ig cl cs ws → h.get pid = some (.blk 1 pr) → pid < h.next → Live32 ρ ws pid n i → Ok (X cfg 32 (.loop (lp Tryz.f32 0)) ρ [] h kn kr kx) Q := by
  intro q
  induction q with
  | zero =>
    intro i h ρ hiq k W gp hl hρ
    have hin : i = n := by omega
    subst hin
    refine Ok.of_eq S_loop ?_
    unfold Live32 at hρ
    generalize (fun j => ρ.getD j undefA) = g at hρ
    subst hρ
    unfold tm32
    have e1 : decide ((i : Int) < (i : Int)) = false := dfalse (by omega)
    conv => arg 1; unfold lp
    simp -implicitDefEqProofs only [go_sem, ↓reduceIte, Nat.reduceAdd, Nat.reduceSub, Nat.reduceMul, Nat.reduceLeDiff, Nat.reduceEqDiff, Nat.reduceGT, Nat.reduceLT, Nat.reduceMod, Nat.reduceDiv, Nat.reducePow, reduceCtorEq, Tryz.f32, loops, List.nil_append, List.getD_cons_zero, e1]
    exact K _ _ k rfl
  | succ q ih =>
    intro i h ρ hiq k W gp hl hρ
    obtain ⟨p, hp⟩ := hints i (by omega)
    exact sched_round W gp hn (by omega) hb hp hρ fun h' ρ' k' hρ' => ih (by omega) (k.trans k') (W.keep k') ((k'.get _ hl).trans gp) (Nat.lt_of_lt_of_le hl k'.next) hρ'

theorem sched_none {h : H} {m w d s ig : Nat} {cl : List Nat} {cs ws : AV} (W : WorldAt h m w d s ig cl cs ws) {pid n : Nat} {pr : List Row} (gp : h.get pid = some (.blk 1 pr)) (hl : pid < h.next) (hn : n = pr.length) (hb : n < 2 ^ 60) (hints : ∀ i, i < n → ∃ p, pr[i]? = some [.int .i64 p]) :
    ∃ h', Ai.cl cfg (.fn 32) [ws, .sl pid 0 n] h = some (.ret .nils, h') ∧ Keep h h' := by
  have key : Ok (X cfg 32 (Tryz.f32.body.get rfl) ([ws, .sl pid 0 n] ++ List.replicate (48 - 2) undefA) [] h (fin Tryz.f32.results.toList) (fin Tryz.f32.results.toList) (fun _ _ _ _ => none)) fun x => x.1 = .ret .nils ∧ Keep h x.2 := by
    simp -implicitDefEqProofs only [go_sem, ↓reduceIte, Nat.reduceAdd, Nat.reduceSub, Nat.reduceMul, Nat.reduceLeDiff, Nat.reduceEqDiff, Nat.reduceGT, Nat.reduceLT, Nat.reduceMod, Nat.reduceDiv, Nat.reducePow, reduceCtorEq, Tryz.f32, Option.get_some]
    refine sched_loop (h0 := h) hn hb hints (fun h' ρ' k hρ => ?_) n (i := 0) (Nat.zero_add n) (Keep.refl h) W gp hl rfl
    unfold Live32 at hρ
    generalize (fun j => ρ'.getD j undefA) = g at hρ
    subst hρ
    unfold tm32
    simp -implicitDefEqProofs only [go_sem, ↓reduceIte, Nat.reduceAdd, Nat.reduceSub, Nat.reduceMul, Nat.reduceLeDiff, Nat.reduceEqDiff, Nat.reduceGT, Nat.reduceLT, Nat.reduceMod, Nat.reduceDiv, Nat.reducePow, reduceCtorEq]
    exact Ok.some ⟨rfl, k⟩
  obtain ⟨⟨r, h'⟩, e, q1, q2⟩ := key
  simp only at q1
  subst q1
  exact ⟨h', enter Tryz.func32 rfl rfl Tryz.ntmps32 e, q2⟩
end Go.Ai

/- What is reported of a world where nobody steps. -/
namespace Go.Ai
open Go Go.Proofs
set_option maxRecDepth 100000
set_option linter.unusedSimpArgs false

theorem cloneAns_nil (h : H) : cl cfg (.fn 56) [.nils] h = some (.ret .nils, h) := by
  refine enter Tryz.func56 rfl rfl Tryz.ntmps56 ?_
  simp -implicitDefEqProofs only [go_sem, ↓reduceIte, Nat.reduceAdd, Nat.reduceSub, Nat.reduceMul, Nat.reduceLeDiff, Nat.reduceEqDiff, Nat.reduceGT, Nat.reduceLT, Nat.reduceMod, Nat.reduceDiv, Nat.reducePow, reduceCtorEq]
  rfl
theorem cloneEv_nil (h : H) : cl cfg (.fn 33) [.nils] h = some (.ret .nils, h) := by
  refine enter Tryz.func33 rfl rfl Tryz.ntmps33 ?_
  simp -implicitDefEqProofs only [go_sem, ↓reduceIte, Nat.reduceAdd, Nat.reduceSub, Nat.reduceMul, Nat.reduceLeDiff, Nat.reduceEqDiff, Nat.reduceGT, Nat.reduceLT, Nat.reduceMod, Nat.reduceDiv, Nat.reducePow, reduceCtorEq]
  rfl
theorem client_answers {h : H} {w c : Nat} (x : ClAt h w c) : cl cfg (.fn 34) [.ptr c 0 0] h = some (.ret .nils, h) := by
  obtain ⟨_, d, s, i, hg⟩ := x
  unfold clRow at hg
  refine enter Tryz.func34 rfl rfl Tryz.ntmps34 ?_
  simp -implicitDefEqProofs only [go_sem, ↓reduceIte, Nat.reduceAdd, Nat.reduceSub, Nat.reduceMul, Nat.reduceLeDiff, Nat.reduceEqDiff, Nat.reduceGT, Nat.reduceLT, Nat.reduceMod, Nat.reduceDiv, Nat.reducePow, reduceCtorEq, hg, callF_some (cloneAns_nil _)]
  rfl

theorem Keep.same {h h' : H} (k : Keep h h') {i : Nat} {o : Obj} (hi : i < h.next) (ho : h.get i = some o) : Keep h (h'.set i o) :=
  ⟨by simpa using k.next, fun j hj => by
    by_cases e : j = i
    · subst e; rw [gt_set_same, ho]
    · rw [gt_set_ne e]; exact k.get j hj⟩

def tm15 (g : Nat → AV) (w a t : Nat) (cs : AV) (n : Nat) (i : Int) : List AV := [.ptr w 0 0, g 1, .ptr a 0 0, .ptr t 0 0, g 4, g 5, g 6, g 7, g 8, g 9, g 10, g 11, g 12, g 13, g 14, g 15, g 16, g 17, g 18, cs, .int .i64 n, .int .i64 i, g 22, g 23, g 24, g 25, g 26, g 27, g 28, g 29, g 30, g 31, g 32, g 33]

def Live15 (ρ : List AV) (w a t : Nat) (cs : AV) (n : Nat) (i : Int) : Prop := ρ = tm15 (fun j => ρ.getD j undefA) w a t cs n i

/-- While answers are gathered. -/
structure Gath (h0 h : H) (a t i : Nat) (v : AV) : Prop where
  keep : Keep h0 h
  tl : t < h.next ∧ h0.next ≤ t
  row : h.get t = some (.blk 3 [[v, .nils, .int .i64 0]])
  al : a < h.next ∧ h0.next ≤ a ∧ a ≠ t
  cell : h.get a = some (.blk 3 [[.nils, .nils, .int .i64 0]])
  isA : SlIs h 1 (List.replicate i [.nils]) v
  vl : ∀ j, slB v j → j < h.next ∧ h0.next ≤ j ∧ j ≠ t ∧ j ≠ a

theorem rep_round {h0 h : H} {m w d s ig a t : Nat} {cl : List Nat} {cs ws v : AV} {n i : Nat} (W : WorldAt h0 m w d s ig cl cs ws) (hcl : cl.length = n) (hn : n ≤ 64) (hi : i < n) (I : Gath h0 h a t i v) {ρ : List AV} (hρ : Live15 ρ w a t cs n i)
    {kn kr : Kont (AR × H)} {kx : Nat → Kont (AR × H)} {Q : AR × H → Prop}
    (K : ∀ h' ρ' v', Gath h0 h' a t (i + 1) v' → Live15 ρ' w a t cs n (i + 1 : Nat) → Ok (X cfg 15 (.loop (lp Tryz.f15 0)) ρ' [] h' kn kr kx) Q) : Ok (X cfg 15 (.loop (lp Tryz.f15 0)) ρ [] h kn kr kx) Q := by
  refine Ok.of_eq S_loop ?_
  unfold Live15 at hρ
  generalize (fun j => ρ.getD j undefA) = g at hρ
  subst hρ
  obtain ⟨id, N, rfl, hN, gid⟩ := W.isC.eq (by intro e; have := congrArg List.length e; simp [clRows, hcl] at this; omega)
  have hNn : N = n := by rw [hN]; simp [clRows, hcl]
  subst hNn
  have hidl : id < h0.next := W.csl id rfl
  have gid' : h.get id = some (.blk 1 (clRows cl)) := (I.keep.get _ hidl).trans gid
  have hrow : (clRows cl)[i]? = some [.ptr cl[i] 0 0] := by simp [clRows, show i < cl.length by omega]
  have hcm : ClAt h0 w cl[i] := W.all _ (List.getElem_mem _)
  unfold tm15
  have e1 : decide ((i : Int) < (N : Int)) = true := dtrue (by omega)
  have hwrap := wrap_succ i (by omega)
  have hia : ∀ te : TI, te.size = 1 → iadA h te (.sl id 0 N) i = some (.ptr id (0 + i) 0) := fun te ht => iad_row gid' hi (r := [.ptr cl[i] 0 0]) (by rw [Nat.zero_add]; exact hrow) (by rw [ht]; rfl)
  conv => arg 1; unfold lp
  simp -implicitDefEqProofs only [go_sem, ↓reduceIte, Nat.reduceAdd, Nat.reduceSub, Nat.reduceMul, Nat.reduceLeDiff, Nat.reduceEqDiff, Nat.reduceGT, Nat.reduceLT, Nat.reduceMod, Nat.reduceDiv, Nat.reducePow, reduceCtorEq, Tryz.f15, loops, List.nil_append, List.getD_cons_zero, e1, natOf_cast, intA_int, hia, Nat.zero_add, gid', hrow]
  refine Ok.of_eq (S_dr [⟨2, 0, 0⟩, ⟨3, 0, 1⟩, ⟨0, 0, 1⟩, ⟨1, 0, 1⟩, ⟨4, 1, 1⟩, ⟨5, 1, 2⟩, ⟨6, 2, 2⟩, ⟨7, 2, 3⟩] (by kernel_rfl) (by kernel_rfl)) ?_
  have hca := client_answers (show ClAt (h.room 8) w cl[i] from hcm.keep (I.keep.room 8))
  have hkn := I.keep.next
  obtain ⟨t1, t2⟩ := I.tl
  obtain ⟨a1, a2, a3⟩ := I.al
  have grow := I.row
  -- the answers' list
  have top : ((h.room 8).set (h.next + 4) (.blk 1 [[.nils]])).get (h.next + 4) = some (.blk 1 [[.nils]]) := gt_set_same
  have old : ∀ j, j < h.next → ((h.room 8).set (h.next + 4) (.blk 1 [[.nils]])).get j = h.get j := fun j hj => by rw [gt_set_ne (by omega), gt_room]
  have isA2 : SlIs ((h.room 8).set (h.next + 4) (.blk 1 [[.nils]])) 1 (List.replicate i [.nils]) v := I.isA.keep fun j hj => old j (I.vl j hj).1
  obtain ⟨h3, b3, n3, g3, f3⟩ := isA2.append (te := ⟨false, 1, 24, [.nils], .slice 58, none⟩) (newRows_one top) (by simp) (by simp) (by simp [oneA]) (by decide) (by decide) (by simp; omega)
  simp only [nx_set, nx_room, List.length_replicate, List.length_cons, List.length_nil, Nat.zero_add] at b3 n3 g3 f3
  simp only [Nat.add_assoc, Nat.reduceAdd] at n3
  have w3 : h3.get t = some (.blk 3 [[v, .nils, .int .i64 0]]) := (f3 t (by omega) fun hb => (I.vl t hb).2.2.1 rfl).trans ((old t t1).trans grow)
  have et : ∀ k, ¬ t = h.next + k := fun k => by omega
  simp -implicitDefEqProofs only [go_sem, ↓reduceIte, Nat.reduceAdd, Nat.reduceSub, Nat.reduceMul, Nat.reduceLeDiff, Nat.reduceEqDiff, Nat.reduceGT, Nat.reduceLT, Nat.reduceMod, Nat.reduceDiv, Nat.reducePow, reduceCtorEq, callF_some hca, grow, b3, w3, et, hwrap]
  refine Ok.of_eq (DW_nilE ?_) ?_
  · simp -implicitDefEqProofs only [go_sem, ↓reduceIte, Nat.reduceAdd, Nat.reduceSub, Nat.reduceMul, Nat.reduceLeDiff, Nat.reduceEqDiff, Nat.reduceGT, Nat.reduceLT, Nat.reduceMod, Nat.reduceDiv, Nat.reducePow, reduceCtorEq, grow]
  simp -implicitDefEqProofs only [go_sem, ↓reduceIte, Nat.reduceAdd, Nat.reduceSub, Nat.reduceMul, Nat.reduceLeDiff, Nat.reduceEqDiff, Nat.reduceGT, Nat.reduceLT, Nat.reduceMod, Nat.reduceDiv, Nat.reducePow, reduceCtorEq, hwrap]
  refine K _ _ (.sl (h.next + 8) 0 (i + 1)) ⟨⟨by simp only [nx_set]; omega, fun j hj => ?_⟩, ⟨by simp only [nx_set]; omega, t2⟩, gt_set_same, ⟨by simp only [nx_set]; omega, a2, a3⟩, ?_, ⟨by simp, ?_⟩, fun j hj => ?_⟩ rfl
  · rw [gt_set_ne (by omega), f3 j (by omega) fun hb => (by have := (I.vl j hb).2.1; omega), old j (by omega)]
    exact I.keep.get j hj
  · rw [gt_set_ne a3, f3 a (by omega) fun hb => (I.vl a hb).2.2.2 rfl, old a a1]
    exact I.cell
  · rw [gt_set_ne (by omega), g3, ← List.replicate_succ']
  · have : j = h.next + 8 := hj
    simp only [nx_set]
    omega
end Go.Ai

/- A report; a run; a step; a call more. -/
namespace Go.Ai
open Go Go.Proofs
set_option maxRecDepth 100000
set_option linter.unusedSimpArgs false

theorem rep_loop {h0 : H} {m w d s ig a t : Nat} {cl : List Nat} {cs ws : AV} {n : Nat} (W : WorldAt h0 m w d s ig cl cs ws) (hcl : cl.length = n) (hn : n ≤ 64) {kn kr : Kont (AR × H)} {kx : Nat → Kont (AR × H)} {Q : AR × H → Prop}
    (K : ∀ h' ρ' v', Gath h0 h' a t n v' → Live15 ρ' w a t cs n n → Ok (kx 0 ρ' [] h') Q) : ∀ (q : Nat) {i : Nat} {h : H} {v : AV} {ρ : List AV}, i + q = n → Gath h0 h a t i v → Live15 ρ w a t cs n i → Ok (X cfg 15 (.loop (lp Tryz.f15 0)) ρ [] h kn kr kx) Q := by
  intro q
  induction q with
  | zero =>
    intro i h v ρ hiq I hρ
    have hin : i = n := by omega
    subst hin
    refine Ok.of_eq S_loop ?_
    unfold Live15 at hρ
    generalize (fun j => ρ.getD j undefA) = g at hρ
    subst hρ
    unfold tm15
    have e1 : decide ((i : Int) < (i : Int)) = false := dfalse (by omega)
    conv => arg 1; unfold lp
    simp -implicitDefEqProofs only [go_sem, ↓reduceIte, Nat.reduceAdd, Nat.reduceSub, Nat.reduceMul, Nat.reduceLeDiff, Nat.reduceEqDiff, Nat.reduceGT, Nat.reduceLT, Nat.reduceMod, Nat.reduceDiv, Nat.reducePow, reduceCtorEq, Tryz.f15, loops, List.nil_append, List.getD_cons_zero, e1]
    exact K _ _ _ I rfl
  | succ q ih =>
    intro i h v ρ hiq I hρ
    exact rep_round W hcl hn (by omega) I hρ fun h' ρ' v' I' hρ' => ih (by omega) I' hρ'

/-- How long a list of answers is. -/
def LenIs (v : AV) (n : Nat) : Prop := ∀ (e : TypeId) (h : H), lenB (.slice e) h v = some (.int .i64 n)

theorem SlIs.lenIs {h : H} {w : Nat} {rows : List Row} {v : AV} (x : SlIs h w rows v) : LenIs v rows.length := by
  intro e h'
  have := x.len
  simp only [lenB, this, Option.map_some]

theorem SlIs.one {h : H} {w : Nat} {rows : List Row} {v : AV} (x : SlIs h w rows v) : v.cells = [v] ∧ oneA v = true := by
  cases v with
  | nils => exact ⟨rfl, rfl⟩
  | sl id i n => exact ⟨rfl, rfl⟩
  | _ => exact x.elim

theorem report {h : H} {m w d s ig : Nat} {cl : List Nat} {cs ws : AV} {n : Nat} (W : WorldAt h m w d s ig cl cs ws) (hcl : cl.length = n) (hn : n ≤ 64) :
    ∃ h' v, Ai.cl cfg (.fn 15) [.ptr w 0 0] h = some (.ret (.agg [v, .nils, .int .i64 0]), h') ∧ Keep h h' ∧ LenIs v n ∧ v.cells = [v] ∧ oneA v = true := by
  have gw := W.row
  have hwl := W.wl
  have hlen : LenIs cs n := by have := W.isC.lenIs; simpa [clRows, hcl] using this
  have key : Ok (X cfg 15 (Tryz.f15.body.get rfl) ([.ptr w 0 0] ++ List.replicate (34 - 1) undefA) [] h (fin Tryz.f15.results.toList) (fin Tryz.f15.results.toList) (fun _ _ _ _ => none)) fun x => Keep h x.2 ∧ ∃ v, x.1 = .ret (.agg [v, .nils, .int .i64 0]) ∧ LenIs v n ∧ v.cells = [v] ∧ oneA v = true := by
    have ew : ∀ k, ¬ w = h.next + k := fun k => by omega
    have ew0 : ¬ w = h.next := by omega
    simp -implicitDefEqProofs only [go_sem, ↓reduceIte, Nat.reduceAdd, Nat.reduceSub, Nat.reduceMul, Nat.reduceLeDiff, Nat.reduceEqDiff, Nat.reduceGT, Nat.reduceLT, Nat.reduceMod, Nat.reduceDiv, Nat.reducePow, reduceCtorEq, Tryz.f15, Option.get_some]
    refine Ok.of_eq (S_dr [⟨0, 0, 0⟩, ⟨1, 0, 0⟩, ⟨2, 0, 0⟩, ⟨3, 0, 0⟩, ⟨4, 0, 1⟩, ⟨5, 0, 1⟩, ⟨6, 0, 1⟩, ⟨7, 0, 1⟩, ⟨8, 0, 1⟩, ⟨9, 1, 1⟩, ⟨10, 0, 1⟩, ⟨11, 1, 2⟩] (by kernel_rfl) (by kernel_rfl)) ?_
    simp -implicitDefEqProofs only [go_sem, ↓reduceIte, Nat.reduceAdd, Nat.reduceSub, Nat.reduceMul, Nat.reduceLeDiff, Nat.reduceEqDiff, Nat.reduceGT, Nat.reduceLT, Nat.reduceMod, Nat.reduceDiv, Nat.reducePow, reduceCtorEq, gw, ew, ew0, callF_some (cloneEv_nil _)]
    refine Ok.of_eq (DW_nilE ?_) ?_
    · simp -implicitDefEqProofs only [go_sem, ↓reduceIte, Nat.reduceAdd, Nat.reduceSub, Nat.reduceMul, Nat.reduceLeDiff, Nat.reduceEqDiff, Nat.reduceGT, Nat.reduceLT, Nat.reduceMod, Nat.reduceDiv, Nat.reducePow, reduceCtorEq, gw, ew, ew0]
    simp -implicitDefEqProofs only [go_sem, ↓reduceIte, Nat.reduceAdd, Nat.reduceSub, Nat.reduceMul, Nat.reduceLeDiff, Nat.reduceEqDiff, Nat.reduceGT, Nat.reduceLT, Nat.reduceMod, Nat.reduceDiv, Nat.reducePow, reduceCtorEq, gw, ew, ew0, hlen 84 _]
    have G0 : Gath h (((h.new (.blk 3 [[.nils, .nils, .int .i64 0]])).room 12).set (h.next + 11) (.blk 3 [[.nils, .nils, .int .i64 0]])) h.next (h.next + 11) 0 .nils := by
      refine ⟨((Keep.refl h).new _ |>.room 12).set (by omega) _, ⟨by simp -implicitDefEqProofs only [go_sem, ↓reduceIte, Nat.reduceAdd, Nat.reduceSub, Nat.reduceMul, Nat.reduceLeDiff, Nat.reduceEqDiff, Nat.reduceGT, Nat.reduceLT, Nat.reduceMod, Nat.reduceDiv, Nat.reducePow, reduceCtorEq]; omega, by omega⟩, gt_set_same, ⟨by simp -implicitDefEqProofs only [go_sem, ↓reduceIte, Nat.reduceAdd, Nat.reduceSub, Nat.reduceMul, Nat.reduceLeDiff, Nat.reduceEqDiff, Nat.reduceGT, Nat.reduceLT, Nat.reduceMod, Nat.reduceDiv, Nat.reducePow, reduceCtorEq]; omega, by omega, by omega⟩, ?_, rfl, fun j hj => hj.elim⟩
      rw [gt_set_ne (by omega), gt_room]; exact gt_new_same
    refine rep_loop W hcl hn (a := h.next) (t := h.next + 11) (fun h' ρ' v' I hρ => ?_) n (i := 0) (Nat.zero_add n) G0 rfl
    unfold Live15 at hρ
    generalize (fun j => ρ'.getD j undefA) = g at hρ
    subst hρ
    unfold tm15
    have hr := I.row
    have hc := I.cell
    obtain ⟨o1, o2⟩ := I.isA.one
    simp -implicitDefEqProofs only [go_sem, ↓reduceIte, Nat.reduceAdd, Nat.reduceSub, Nat.reduceMul, Nat.reduceLeDiff, Nat.reduceEqDiff, Nat.reduceGT, Nat.reduceLT, Nat.reduceMod, Nat.reduceDiv, Nat.reducePow, reduceCtorEq, hr, hc, o2]
    refine Ok.some ⟨⟨by have := I.keep.next; simpa using this, fun j hj => ?_⟩, v', rfl, by have := I.isA.lenIs; simpa using this, o1, o2⟩
    rw [gt_set_ne (by omega)]
    exact I.keep.get j hj
  obtain ⟨⟨r, h'⟩, e, q1, v, q2, q3⟩ := key
  simp only at q2
  subst q2
  exact ⟨h', v, enter Tryz.func15 rfl rfl Tryz.ntmps15 e, q1, q3⟩

/-- A step that nobody takes. -/
theorem world_step {h : H} {m w d s ig : Nat} {cl : List Nat} {cs ws : AV} (W : WorldAt h m w d s ig cl cs ws) (i : Int) : ∃ h', Ai.cl cfg (.fn 13) [.ptr w 0 0, .int .i64 i] h = some (.ret (.bool false), h') ∧ Keep h h' := by
  have gw := W.row
  have hwl := W.wl
  have ew0 : ¬ w = h.next := by omega
  obtain ⟨h', e, k⟩ := sched_none (W.keep ((Keep.refl h).new (.blk 1 [[.int .i64 i]]))) (pid := h.next) (n := 1) (pr := [[.int .i64 i]]) gt_new_same (by simp) rfl (by decide) (fun j hj => by
    cases j with
    | zero => exact ⟨i, rfl⟩
    | succ j => omega)
  have k0 : Keep h h' := ((Keep.refl h).new _).trans k
  have gw' : h'.get w = _ := (k0.get _ hwl).trans gw
  have e0 : decide ((0 : Int) > 0) = false := by decide
  have e1 : IntKind.wrap .i64 ((0 : Int) + 0) = 0 := by decide
  refine ⟨_, enter Tryz.func13 rfl rfl Tryz.ntmps13 ?_, k0.same hwl gw⟩
  simp -implicitDefEqProofs only [go_sem, ↓reduceIte, Nat.reduceAdd, Nat.reduceSub, Nat.reduceMul, Nat.reduceLeDiff, Nat.reduceEqDiff, Nat.reduceGT, Nat.reduceLT, Nat.reduceMod, Nat.reduceDiv, Nat.reducePow, reduceCtorEq, gw, ew0, callF_some e, gw', e0, e1]
  rfl

theorem workers {h : H} {m w d s ig : Nat} {cl : List Nat} {cs ws : AV} (W : WorldAt h m w d s ig cl cs ws) : Ai.cl cfg (.fn 22) [.ptr w 0 0] h = some (.ret (.int .i64 (cl.length + 1 : Nat)), h) := by
  have gw := W.row
  have hlen : LenIs ws (cl.length + 1) := by have := W.isW.lenIs; simpa [wkRows] using this
  refine enter Tryz.func22 rfl rfl Tryz.ntmps22 ?_
  simp -implicitDefEqProofs only [go_sem, ↓reduceIte, Nat.reduceAdd, Nat.reduceSub, Nat.reduceMul, Nat.reduceLeDiff, Nat.reduceEqDiff, Nat.reduceGT, Nat.reduceLT, Nat.reduceMod, Nat.reduceDiv, Nat.reducePow, reduceCtorEq, gw, hlen 89 _]
  rfl

/-- There is no such client. -/
theorem no_client {h : H} {m w d s ig : Nat} {cl : List Nat} {cs ws : AV} (W : WorldAt h m w d s ig cl cs ws) (i : Int) (hi : i < 0 ∨ i ≥ cl.length) : Ai.cl cfg (.fn 42) [.ptr w 0 0, .int .i64 i] h = some (.ret .nilp, h) := by
  have gw := W.row
  have hlen : LenIs cs cl.length := by have := W.isC.lenIs; simpa [clRows] using this
  refine enter Tryz.func42 rfl rfl Tryz.ntmps42 ?_
  by_cases h0 : i < 0
  · simp -implicitDefEqProofs only [go_sem, ↓reduceIte, Nat.reduceAdd, Nat.reduceSub, Nat.reduceMul, Nat.reduceLeDiff, Nat.reduceEqDiff, Nat.reduceGT, Nat.reduceLT, Nat.reduceMod, Nat.reduceDiv, Nat.reducePow, reduceCtorEq, dtrue h0]
    rfl
  · simp -implicitDefEqProofs only [go_sem, ↓reduceIte, Nat.reduceAdd, Nat.reduceSub, Nat.reduceMul, Nat.reduceLeDiff, Nat.reduceEqDiff, Nat.reduceGT, Nat.reduceLT, Nat.reduceMod, Nat.reduceDiv, Nat.reducePow, reduceCtorEq, dfalse h0, gw, hlen 84 _, dtrue (show i ≥ (cl.length : Int) by omega)]
    rfl

theorem world_add {h : H} {m w d s ig : Nat} {cl : List Nat} {cs ws : AV} (W : WorldAt h m w d s ig cl cs ws) (i : Int) (hi : i < 0 ∨ i ≥ cl.length) (l : List AV) : ∃ h', Ai.cl cfg (.fn 23) [.ptr w 0 0, .int .i64 i, .agg l] h = some (.ret (.bool false), h') ∧ Keep h h' := by
  have k := (Keep.refl h).new (.blk l.length [l])
  refine ⟨_, enter Tryz.func23 rfl rfl Tryz.ntmps23 ?_, k⟩
  simp -implicitDefEqProofs only [go_sem, ↓reduceIte, Nat.reduceAdd, Nat.reduceSub, Nat.reduceMul, Nat.reduceLeDiff, Nat.reduceEqDiff, Nat.reduceGT, Nat.reduceLT, Nat.reduceMod, Nat.reduceDiv, Nat.reducePow, reduceCtorEq, callF_some (no_client (W.keep k) i hi)]
  rfl
end Go.Ai
