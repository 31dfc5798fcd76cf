import Derived.Test.YtelmlhlkefmjkaaGreatDoorWnA
set_option linter.unusedSimpArgs false
set_option linter.unusedVariables false
/- A world: its makers' loop. -/
namespace Go.Ai
open Go Go.Proofs
set_option maxRecDepth 100000
set_option linter.unusedSimpArgs false

def tm11 (g : Nat → AV) (b w c cid n : Nat) (i : Int) : List AV := [g 0, .ptr b 0 0, g 2, .ptr w 0 0, .ptr c 0 0, g 5, g 6, g 7, g 8, g 9, g 10, g 11, g 12, g 13, g 14, g 15, g 16, g 17, g 18, g 19, g 20, g 21, g 22, g 23, g 24, g 25, g 26, g 27, g 28, g 29, g 30, g 31, g 32, g 33, g 34, g 35, g 36, g 37, g 38, g 39, g 40, g 41, g 42, g 43, g 44, g 45, g 46, g 47, g 48, .sl cid 0 n, .int .i64 n, .int .i64 i, g 52, g 53, g 54, g 55, g 56, g 57, g 58, g 59, g 60, g 61, g 62, g 63, g 64, g 65, g 66, g 67, g 68, g 69, g 70, g 71, g 72, g 73, g 74, g 75, g 76, g 77, g 78, g 79, g 80, g 81, g 82, g 83, g 84, g 85, g 86, g 87, g 88, g 89, g 90, g 91, g 92, g 93, g 94, g 95, g 96, g 97, g 98, g 99, g 100, g 101, g 102, g 103, g 104, g 105, g 106, g 107, g 108, g 109, g 110, g 111, g 112, g 113, g 114, g 115, g 116, g 117, g 118, g 119, g 120, g 121, g 122, g 123, g 124, g 125, g 126]

def Live11 (ρ : List AV) (b w c cid n : Nat) (i : Int) : Prop := ρ = tm11 (fun j => ρ.getD j undefA) b w c cid n i

/-- A client without calls. -/
def ClAt (h : H) (w c : Nat) : Prop := c < h.next ∧ ∃ d s i, h.get c = some (.blk 17 [clRow d s i w c])
def clRows (cl : List Nat) : List Row := cl.map fun c => [.ptr c 0 0]
def wkRows (cl : List Nat) : List Row := cl.map fun c => [.ifc 84 (.ptr c 0 0)]

/-- A world that is made: so many clients. -/
structure Making (h0 h : H) (w d s : Nat) (cl : List Nat) (cs ws : AV) : Prop where
  keep : KeepBut (· = w) h0 h
  low : w < h0.next
  row : h.get w = some (.blk 7 [[.ptr d 0 0, .ptr s 0 0, cs, .nilp, ws, .nils, .int .i64 0]])
  isC : SlIs h 1 (clRows cl) cs
  isW : SlIs h 1 (wkRows cl) ws
  all : ∀ c ∈ cl, ClAt h w c ∧ h0.next ≤ c
  csl : ∀ j, slB cs j → j < h.next ∧ h0.next ≤ j
  wsl : ∀ j, slB ws j → j < h.next ∧ h0.next ≤ j
  apart : ∀ j, slB cs j → ¬ slB ws j

theorem iad_row {h : H} {te : TI} {id i j : Nat} {n : Nat} {r : Row} {rs : List Row} {w : Nat} (hg : h.get id = some (.blk w rs)) (hj : j < n) (hr : rs[i + j]? = some r) (hl : r.length = te.size) : iadA h te (.sl id i n) j = some (.ptr id (i + j) 0) := by
  unfold iadA slRow
  simp only [H.rows, hg, if_pos hj, Option.bind_some, hr, if_pos hl]

theorem newRows_one {h : H} {id w : Nat} {r : Row} (hg : h.get id = some (.blk w [r])) : newRows h (.sl id 0 1) = some [r] := by
  simp [newRows, slRows, H.rows, hg]

/-- One more client. -/
theorem new_round {h0 h : H} {b w c cid n d s : Nat} {i : Nat} {cl : List Nat} {cs ws : AV} (I : Making h0 h w d s cl cs ws) (hi : i < n) (hn : n ≤ 64) (hcl : cl.length = i) (hcid : h0.get cid = some (.blk 1 (List.replicate n [.nils]))) (hcl0 : cid < h0.next) (hcw : cid ≠ w) {ρ : List AV} (hρ : Live11 ρ b w c cid n i)
    {kn kr : Kont (AR × H)} {kx : Nat → Kont (AR × H)} {Q : AR × H → Prop}
    (K : ∀ h' ρ' cs' ws' c', Making h0 h' w d s (cl ++ [c']) cs' ws' → Live11 ρ' b w c cid n (i + 1 : Nat) → Ok (X cfg 11 (.loop (lp Tryz.f11 0)) ρ' [] h' kn kr kx) Q) : Ok (X cfg 11 (.loop (lp Tryz.f11 0)) ρ [] h kn kr kx) Q := by
  refine Ok.of_eq S_loop ?_
  unfold Live11 at hρ
  generalize (fun j => ρ.getD j undefA) = g at hρ
  subst hρ
  unfold tm11
  have e1 : decide ((i : Int) < (n : Int)) = true := dtrue (by omega)
  have gcid : h.get cid = some (.blk 1 (List.replicate n [.nils])) := (I.keep.get _ hcl0 hcw).trans hcid
  have hia : ∀ te : TI, te.size = 1 → iadA h te (.sl cid 0 n) i = some (.ptr cid (0 + i) 0) := fun te ht => iad_row gcid hi (r := [.nils]) (by rw [Nat.zero_add, List.getElem?_replicate, if_pos hi]) (by rw [ht]; rfl)
  conv => arg 1; unfold lp
  simp -implicitDefEqProofs only [go_sem, ↓reduceIte, Nat.reduceAdd, Nat.reduceSub, Nat.reduceMul, Nat.reduceLeDiff, Nat.reduceEqDiff, Nat.reduceGT, Nat.reduceLT, Nat.reduceMod, Nat.reduceDiv, Nat.reducePow, reduceCtorEq, Tryz.f11, loops, List.nil_append, List.getD_cons_zero, e1, natOf_cast, intA_int, hia, Nat.zero_add, gcid, List.getElem?_replicate, if_pos hi]
  -- the client
  refine Ok.of_eq (S_dr [⟨0, 0, 0⟩, ⟨1, 0, 0⟩, ⟨2, 0, 0⟩, ⟨3, 0, 0⟩, ⟨4, 0, 0⟩, ⟨5, 0, 0⟩, ⟨6, 0, 0⟩, ⟨7, 0, 0⟩, ⟨8, 0, 0⟩, ⟨9, 0, 0⟩, ⟨10, 0, 0⟩, ⟨11, 0, 0⟩, ⟨12, 0, 1⟩, ⟨13, 1, 1⟩] (by kernel_rfl) (by kernel_rfl)) ?_
  have grow := I.row
  have e2 := client_new d s i w (h.room 14)
  have hlt := I.keep.next
  have hlow := I.low
  have hw1 : ¬ w = h.next + 14 := by omega
  -- the clients' list
  have old2 : ∀ j, j < h.next → (((h.room 14).new (.blk 17 [clRow d s i w (h.next + 14)])).new (.blk 1 [[.ptr (h.next + 14) 0 0]])).get j = h.get j := fun j hj => by
    rw [gt_new_lt (by simp -implicitDefEqProofs only [go_sem, ↓reduceIte, Nat.reduceAdd, Nat.reduceSub, Nat.reduceMul, Nat.reduceLeDiff, Nat.reduceEqDiff, Nat.reduceGT, Nat.reduceLT, Nat.reduceMod, Nat.reduceDiv, Nat.reducePow, reduceCtorEq]; omega), gt_new_lt (by simp -implicitDefEqProofs only [go_sem, ↓reduceIte, Nat.reduceAdd, Nat.reduceSub, Nat.reduceMul, Nat.reduceLeDiff, Nat.reduceEqDiff, Nat.reduceGT, Nat.reduceLT, Nat.reduceMod, Nat.reduceDiv, Nat.reducePow, reduceCtorEq]; omega)]; rfl
  have top2 : (((h.room 14).new (.blk 17 [clRow d s i w (h.next + 14)])).new (.blk 1 [[.ptr (h.next + 14) 0 0]])).get (h.next + 15) = some (.blk 1 [[.ptr (h.next + 14) 0 0]]) := by simp -implicitDefEqProofs only [go_sem, ↓reduceIte, Nat.reduceAdd, Nat.reduceSub, Nat.reduceMul, Nat.reduceLeDiff, Nat.reduceEqDiff, Nat.reduceGT, Nat.reduceLT, Nat.reduceMod, Nat.reduceDiv, Nat.reducePow, reduceCtorEq]
  have cl2 : (((h.room 14).new (.blk 17 [clRow d s i w (h.next + 14)])).new (.blk 1 [[.ptr (h.next + 14) 0 0]])).get (h.next + 14) = some (.blk 17 [clRow d s i w (h.next + 14)]) := by simp -implicitDefEqProofs only [go_sem, ↓reduceIte, Nat.reduceAdd, Nat.reduceSub, Nat.reduceMul, Nat.reduceLeDiff, Nat.reduceEqDiff, Nat.reduceGT, Nat.reduceLT, Nat.reduceMod, Nat.reduceDiv, Nat.reducePow, reduceCtorEq]
  have n2 : (((h.room 14).new (.blk 17 [clRow d s i w (h.next + 14)])).new (.blk 1 [[.ptr (h.next + 14) 0 0]])).next = h.next + 16 := by simp -implicitDefEqProofs only [go_sem, ↓reduceIte, Nat.reduceAdd, Nat.reduceSub, Nat.reduceMul, Nat.reduceLeDiff, Nat.reduceEqDiff, Nat.reduceGT, Nat.reduceLT, Nat.reduceMod, Nat.reduceDiv, Nat.reducePow, reduceCtorEq]
  have cs2 : SlIs (((h.room 14).new (.blk 17 [clRow d s i w (h.next + 14)])).new (.blk 1 [[.ptr (h.next + 14) 0 0]])) 1 (clRows cl) cs := I.isC.keep fun j hj => old2 j (I.csl j hj).1
  have new2 : newRows (((h.room 14).new (.blk 17 [clRow d s i w (h.next + 14)])).new (.blk 1 [[.ptr (h.next + 14) 0 0]])) (.sl (h.next + 15) 0 1) = some [[.ptr (h.next + 14) 0 0]] := newRows_one top2
  obtain ⟨h3, a3, n3, g3, f3⟩ := cs2.append (te := ⟨false, 1, 8, [.nilp], .ptr, none⟩) new2 (by simp) (by simp) (by simp [oneA]) (by decide) (by decide) (by simp [clRows, hcl]; omega)
  rw [n2] at a3 n3 g3 f3
  have hlen : (clRows cl).length = i := by simp [clRows, hcl]
  have hlenw : (wkRows cl).length = i := by simp [wkRows, hcl]
  rw [hlen] at a3
  simp only [List.length_cons, List.length_nil, Nat.zero_add, Nat.add_assoc, Nat.reduceAdd] at a3 n3 g3
  have hcsw : ¬ slB cs w := fun hb => by have := (I.csl w hb).2; omega
  have hwsw : ¬ slB ws w := fun hb => by have := (I.wsl w hb).2; omega
  have f3' : ∀ j, j < h.next → ¬ slB cs j → h3.get j = h.get j := fun j hj hc => (f3 j (by omega) hc).trans (old2 j hj)
  have w3 : h3.get w = some (.blk 7 [[.ptr d 0 0, .ptr s 0 0, cs, .nilp, ws, .nils, .int .i64 0]]) := (f3' w (by omega) hcsw).trans grow
  -- the workers' list
  have n5 : ((h3.set w (.blk 7 [[.ptr d 0 0, .ptr s 0 0, .sl (h.next + 16) 0 (i + 1), .nilp, ws, .nils, .int .i64 0]])).new (.blk 1 [[.ifc 84 (.ptr (h.next + 14) 0 0)]])).next = h.next + 18 := by simp -implicitDefEqProofs only [go_sem, ↓reduceIte, Nat.reduceAdd, Nat.reduceSub, Nat.reduceMul, Nat.reduceLeDiff, Nat.reduceEqDiff, Nat.reduceGT, Nat.reduceLT, Nat.reduceMod, Nat.reduceDiv, Nat.reducePow, reduceCtorEq, n3]
  have old5 : ∀ j, j < h3.next → j ≠ w → ((h3.set w (.blk 7 [[.ptr d 0 0, .ptr s 0 0, .sl (h.next + 16) 0 (i + 1), .nilp, ws, .nils, .int .i64 0]])).new (.blk 1 [[.ifc 84 (.ptr (h.next + 14) 0 0)]])).get j = h3.get j := fun j hj hw => by
    rw [gt_new_lt (by simpa using hj), gt_set_ne hw]
  have top5 : ((h3.set w (.blk 7 [[.ptr d 0 0, .ptr s 0 0, .sl (h.next + 16) 0 (i + 1), .nilp, ws, .nils, .int .i64 0]])).new (.blk 1 [[.ifc 84 (.ptr (h.next + 14) 0 0)]])).get (h.next + 17) = some (.blk 1 [[.ifc 84 (.ptr (h.next + 14) 0 0)]]) := by
    have := gt_new_same (h := h3.set w (.blk 7 [[.ptr d 0 0, .ptr s 0 0, .sl (h.next + 16) 0 (i + 1), .nilp, ws, .nils, .int .i64 0]])) (o := .blk 1 [[.ifc 84 (.ptr (h.next + 14) 0 0)]])
    rw [nx_set, n3] at this; exact this
  have w5 : ((h3.set w (.blk 7 [[.ptr d 0 0, .ptr s 0 0, .sl (h.next + 16) 0 (i + 1), .nilp, ws, .nils, .int .i64 0]])).new (.blk 1 [[.ifc 84 (.ptr (h.next + 14) 0 0)]])).get w = some (.blk 7 [[.ptr d 0 0, .ptr s 0 0, .sl (h.next + 16) 0 (i + 1), .nilp, ws, .nils, .int .i64 0]]) := by
    rw [gt_new_lt (by simp only [nx_set, n3]; omega), gt_set_same]
  have ws2 : SlIs ((h3.set w (.blk 7 [[.ptr d 0 0, .ptr s 0 0, .sl (h.next + 16) 0 (i + 1), .nilp, ws, .nils, .int .i64 0]])).new (.blk 1 [[.ifc 84 (.ptr (h.next + 14) 0 0)]])) 1 (wkRows cl) ws := I.isW.keep fun j hj => (old5 j (by have := (I.wsl j hj).1; omega) (fun e => hwsw (by rw [← e]; exact hj))).trans (f3' j (I.wsl j hj).1 fun hc => I.apart j hc hj)
  have new3 : newRows ((h3.set w (.blk 7 [[.ptr d 0 0, .ptr s 0 0, .sl (h.next + 16) 0 (i + 1), .nilp, ws, .nils, .int .i64 0]])).new (.blk 1 [[.ifc 84 (.ptr (h.next + 14) 0 0)]])) (.sl (h.next + 17) 0 1) = some [[.ifc 84 (.ptr (h.next + 14) 0 0)]] := newRows_one top5
  obtain ⟨h6, a6, n6, g6, f6⟩ := ws2.append (te := ⟨false, 1, 16, [.nili], .iface, none⟩) new3 (by simp) (by simp) (by simp [oneA]) (by decide) (by decide) (by simp [wkRows, hcl]; omega)
  rw [n5] at a6 n6 g6 f6
  rw [hlenw] at a6
  simp only [List.length_cons, List.length_nil, Nat.zero_add, Nat.add_assoc, Nat.reduceAdd] at a6 n6 g6
  have w6 : h6.get w = some (.blk 7 [[.ptr d 0 0, .ptr s 0 0, .sl (h.next + 16) 0 (i + 1), .nilp, ws, .nils, .int .i64 0]]) := (f6 w (by omega) hwsw).trans w5
  have hwrap : IntKind.wrap .i64 ((i : Int) + 1) = ((i + 1 : Nat) : Int) := by simp [IntKind.wrap, IntKind.signed, IntKind.bits]; omega
  simp -implicitDefEqProofs only [go_sem, ↓reduceIte, Nat.reduceAdd, Nat.reduceSub, Nat.reduceMul, Nat.reduceLeDiff, Nat.reduceEqDiff, Nat.reduceGT, Nat.reduceLT, Nat.reduceMod, Nat.reduceDiv, Nat.reducePow, reduceCtorEq, grow, callF_some e2, hw1, a3, w3, n3, a6, w6, hwrap]
  have f6' : ∀ j, j < h3.next → j ≠ w → ¬ slB ws j → h6.get j = h3.get j := fun j hj hw hs => (f6 j (by omega) hs).trans (old5 j hj hw)
  refine K _ _ (.sl (h.next + 16) 0 (i + 1)) (.sl (h.next + 18) 0 (i + 1)) (h.next + 14) ?_ ?_
  · refine ⟨⟨by simp only [nx_set]; omega, fun j hj hw => ?_⟩, I.low, gt_set_same, ⟨by simp [clRows, hcl], ?_⟩, ⟨by simp [wkRows, hcl], ?_⟩, fun c hc => ?_, fun j hj => ?_, fun j hj => ?_, fun j hj hk => ?_⟩
    · rw [gt_set_ne hw, f6' j (by omega) hw fun hs => (by have := (I.wsl j hs).2; omega), f3' j (by omega) fun hs => (by have := (I.csl j hs).2; omega)]
      exact I.keep.get j hj hw
    · rw [gt_set_ne (by omega), f6' _ (by omega) (by omega) fun hs => (by have := (I.wsl _ hs).1; omega), g3]
      simp [clRows]
    · rw [gt_set_ne (by omega), g6]
      simp [wkRows]
    · rcases List.mem_append.1 hc with hc | hc
      · obtain ⟨⟨hl, d', s', i', hg⟩, hm⟩ := I.all c hc
        refine ⟨⟨by simp only [nx_set]; omega, d', s', i', ?_⟩, hm⟩
        have hnc : ¬ slB cs c := fun hb => by
          have := I.isC; cases cs with
          | sl id k m => cases k with
            | zero => obtain ⟨_, hh⟩ := this; have : c = id := hb; subst this; rw [hg] at hh; simp at hh
            | succ _ => exact this.elim
          | _ => exact hb.elim
        have hnw : ¬ slB ws c := fun hb => by
          have := I.isW; cases ws with
          | sl id k m => cases k with
            | zero => obtain ⟨_, hh⟩ := this; have : c = id := hb; subst this; rw [hg] at hh; simp at hh
            | succ _ => exact this.elim
          | _ => exact hb.elim
        rw [gt_set_ne (by omega), f6' c (by omega) (by omega) hnw, f3' c hl hnc]; exact hg
      · have : c = h.next + 14 := by simpa using hc
        subst this
        refine ⟨⟨by simp only [nx_set]; omega, d, s, i, ?_⟩, by omega⟩
        rw [gt_set_ne (by omega), f6' _ (by omega) (by omega) fun hs => (by have := (I.wsl _ hs).1; omega), f3 _ (by omega) fun hs => (by have := (I.csl _ hs).1; omega), cl2]
    · have : j = h.next + 16 := hj
      simp only [nx_set]; omega
    · have : j = h.next + 18 := hj
      simp only [nx_set]; omega
    · have e1 : j = h.next + 16 := hj
      have e2 : j = h.next + 18 := hk
      omega
  · rfl
end Go.Ai

/- A world: all of its making. -/
namespace Go.Ai
open Go Go.Proofs
set_option maxRecDepth 100000
set_option linter.unusedSimpArgs false

/-- All clients. -/
theorem new_loop {h0 : H} {b w c cid n d s : Nat} (hn : n ≤ 64) (hcid : h0.get cid = some (.blk 1 (List.replicate n [.nils]))) (hcl0 : cid < h0.next) (hcw : cid ≠ w) {kn kr : Kont (AR × H)} {kx : Nat → Kont (AR × H)} {Q : AR × H → Prop}
    (K : ∀ h' ρ' cs' ws' cl', Making h0 h' w d s cl' cs' ws' → cl'.length = n → Live11 ρ' b w c cid n n → Ok (kx 0 ρ' [] h') Q) :
    ∀ (m : Nat) {i : Nat} {h : H} {cl : List Nat} {cs ws : AV} {ρ : List AV}, i + m = n → Making h0 h w d s cl cs ws → cl.length = i → Live11 ρ b w c cid n i → Ok (X cfg 11 (.loop (lp Tryz.f11 0)) ρ [] h kn kr kx) Q := by
  intro m
  induction m with
  | zero =>
    intro i h cl cs ws ρ him I hcl hρ
    have hin : i = n := by omega
    subst hin
    refine Ok.of_eq S_loop ?_
    unfold Live11 at hρ
    generalize (fun j => ρ.getD j undefA) = g at hρ
    subst hρ
    unfold tm11
    have e1 : decide ((i : Int) < (i : Int)) = false := dfalse (by omega)
    conv => arg 1; unfold lp
    simp -implicitDefEqProofs only [go_sem, ↓reduceIte, Nat.reduceAdd, Nat.reduceSub, Nat.reduceMul, Nat.reduceLeDiff, Nat.reduceEqDiff, Nat.reduceGT, Nat.reduceLT, Nat.reduceMod, Nat.reduceDiv, Nat.reducePow, reduceCtorEq, Tryz.f11, loops, List.nil_append, List.getD_cons_zero, e1]
    exact K _ _ _ _ _ I hcl rfl
  | succ m ih =>
    intro i h cl cs ws ρ him I hcl hρ
    refine new_round I (by omega) hn hcl hcid hcl0 hcw hρ fun h' ρ' cs' ws' c' I' hρ' => ?_
    exact ih (by omega) I' (by simp [hcl]) hρ'

/-- The integrator of a world. -/
def IgAt (h : H) (w ig d : Nat) : Prop := ig < h.next ∧ ∃ s c n b k1 k2, h.get ig = some (.blk 20 [igRow d s c n b w k1 k2 ig])

/-- A world whose clients have no calls. -/
structure WorldAt (h : H) (m w d s ig : Nat) (cl : List Nat) (cs ws : AV) : Prop where
  wl : w < h.next
  row : h.get w = some (.blk 7 [[.ptr d 0 0, .ptr s 0 0, cs, .ptr ig 0 0, ws, .nils, .int .i64 0]])
  isC : SlIs h 1 (clRows cl) cs
  isW : SlIs h 1 (wkRows cl ++ [[.ifc 78 (.ptr ig 0 0)]]) ws
  all : ∀ c ∈ cl, ClAt h w c
  ig : IgAt h w ig d
  desk : DeskAt h m d
  csl : ∀ j, slB cs j → j < h.next
  wsl : ∀ j, slB ws j → j < h.next

theorem ClAt.keep {h h' : H} {w c : Nat} (x : ClAt h w c) (k : Keep h h') : ClAt h' w c := let ⟨l, d, s, i, g⟩ := x; ⟨Nat.lt_of_lt_of_le l k.next, d, s, i, (k.get _ l).trans g⟩

theorem WorldAt.keep {h h' : H} {m w d s ig : Nat} {cl : List Nat} {cs ws : AV} (x : WorldAt h m w d s ig cl cs ws) (k : Keep h h') : WorldAt h' m w d s ig cl cs ws where
  wl := Nat.lt_of_lt_of_le x.wl k.next
  row := (k.get _ x.wl).trans x.row
  isC := x.isC.keep fun j hj => k.get _ (x.csl j hj)
  isW := x.isW.keep fun j hj => k.get _ (x.wsl j hj)
  all := fun c hc => (x.all c hc).keep k
  ig := let ⟨l, s, c, n, b, k1, k2, g⟩ := x.ig; ⟨Nat.lt_of_lt_of_le l k.next, s, c, n, b, k1, k2, (k.get _ l).trans g⟩
  desk := x.desk.keep (k.but _)
  csl := fun j hj => Nat.lt_of_lt_of_le (x.csl j hj) k.next
  wsl := fun j hj => Nat.lt_of_lt_of_le (x.wsl j hj) k.next

theorem world_new (n : Nat) (r q log ar bt clock : Int) (cid : Nat) (pk : AV) (h : H) (hn : Can n r q log ar bt clock) (hcid : h.get cid = some (.blk 1 (List.replicate n [.nils]))) (hlt : cid < h.next) :
    Ok (cl cfg (.fn 11) [.agg [.int .i64 r, .int .i64 q, .int .i64 log, .int .i64 ar, .int .i64 bt, .int .i64 clock, .sl cid 0 n, pk]] h) fun x => Keep h x.2 ∧ ∃ m w d s ig cl cs ws, x.1 = .ret (.ptr w 0 0) ∧ cl.length = n ∧ WorldAt x.2 m w d s ig cl cs ws := by
  have k0 : Keep h ((h.new (.blk 8 [sRow r q log ar bt clock cid n pk])).room 14) := ((Keep.refl h).new _).room 14
  obtain ⟨vd, hd, ed, kd, cd⟩ := desk_any n q ((h.new (.blk 8 [sRow r q log ar bt clock cid n pk])).room 14)
  obtain ⟨vs, hs, es, ks, cs⟩ := store_any ar hd
  have n1 := kd.next
  have n2 := ks.next
  have g0 : ((h.new (.blk 8 [sRow r q log ar bt clock cid n pk])).room 14).get h.next = some (.blk 8 [sRow r q log ar bt clock cid n pk]) := H.get_new_same _ _
  have g1 : hd.get h.next = some (.blk 8 [sRow r q log ar bt clock cid n pk]) := (kd.get _ (by simp -implicitDefEqProofs only [go_sem, ↓reduceIte, Nat.reduceAdd, Nat.reduceSub, Nat.reduceMul, Nat.reduceLeDiff, Nat.reduceEqDiff, Nat.reduceGT, Nat.reduceLT, Nat.reduceMod, Nat.reduceDiv, Nat.reducePow, reduceCtorEq]; omega)).trans g0
  simp -implicitDefEqProofs only [go_sem, ↓reduceIte, Nat.reduceAdd, Nat.reduceSub, Nat.reduceMul, Nat.reduceLeDiff, Nat.reduceEqDiff, Nat.reduceGT, Nat.reduceLT, Nat.reduceMod, Nat.reduceDiv, Nat.reducePow, reduceCtorEq] at n1
  have g2 : hs.get h.next = some (.blk 8 [sRow r q log ar bt clock cid n pk]) := (ks.get _ (by omega)).trans g1
  obtain ⟨hd1, d, rfl, hdd⟩ := cd.resolve_right fun h => h.1 hn.1
  obtain ⟨hs1, s, rfl, hsd⟩ := cs.resolve_right fun h => h.1 hn.2.1
  obtain ⟨vc, hcr, ec, kc, cc⟩ := core_any r q log ar bt clock (hs.set (h.next + 13) (.blk 7 [[.ptr d 0 0, .ptr s 0 0, .nils, .nilp, .nils, .nils, .int .i64 0]]))
  obtain ⟨hc1, c, rfl⟩ := cc.resolve_right fun h => h.1 hn.2.2.1
  have n3 := kc.next
  simp -implicitDefEqProofs only [go_sem, ↓reduceIte, Nat.reduceAdd, Nat.reduceSub, Nat.reduceMul, Nat.reduceLeDiff, Nat.reduceEqDiff, Nat.reduceGT, Nat.reduceLT, Nat.reduceMod, Nat.reduceDiv, Nat.reducePow, reduceCtorEq] at n3
  have g3 : hcr.get h.next = some (.blk 8 [sRow r q log ar bt clock cid n pk]) := (kc.get _ (by simp -implicitDefEqProofs only [go_sem, ↓reduceIte, Nat.reduceAdd, Nat.reduceSub, Nat.reduceMul, Nat.reduceLeDiff, Nat.reduceEqDiff, Nat.reduceGT, Nat.reduceLT, Nat.reduceMod, Nat.reduceDiv, Nat.reducePow, reduceCtorEq]; omega)).trans (by simp -implicitDefEqProofs only [go_sem, ↓reduceIte, Nat.reduceAdd, Nat.reduceSub, Nat.reduceMul, Nat.reduceLeDiff, Nat.reduceEqDiff, Nat.reduceGT, Nat.reduceLT, Nat.reduceMod, Nat.reduceDiv, Nat.reducePow, reduceCtorEq]; exact g2)
  have g4 : hcr.get (h.next + 13) = some (.blk 7 [[.ptr d 0 0, .ptr s 0 0, .nils, .nilp, .nils, .nils, .int .i64 0]]) := (kc.get _ (by simp -implicitDefEqProofs only [go_sem, ↓reduceIte, Nat.reduceAdd, Nat.reduceSub, Nat.reduceMul, Nat.reduceLeDiff, Nat.reduceEqDiff, Nat.reduceGT, Nat.reduceLT, Nat.reduceMod, Nat.reduceDiv, Nat.reducePow, reduceCtorEq]; omega)).trans (by simp -implicitDefEqProofs only [go_sem, ↓reduceIte, Nat.reduceAdd, Nat.reduceSub, Nat.reduceMul, Nat.reduceLeDiff, Nat.reduceEqDiff, Nat.reduceGT, Nat.reduceLT, Nat.reduceMod, Nat.reduceDiv, Nat.reducePow, reduceCtorEq])
  have hb : decide (bt < 1) = false := dfalse (by have := hn.2.2.2; omega)
  have khc : Keep h hcr := ((k0.trans kd).trans ks |>.set (by omega) _).trans kc
  -- the desk
  have dk : DeskAt hcr (h.next + 15) d := by
    have e : ((h.new (.blk 8 [sRow r q log ar bt clock cid n pk])).room 14).next = h.next + 15 := by simp -implicitDefEqProofs only [go_sem, ↓reduceIte, Nat.reduceAdd, Nat.reduceSub, Nat.reduceMul, Nat.reduceLeDiff, Nat.reduceEqDiff, Nat.reduceGT, Nat.reduceLT, Nat.reduceMod, Nat.reduceDiv, Nat.reducePow, reduceCtorEq]
    rw [e] at hdd
    refine ((hdd.keep (ks.but _)).keep (h' := hs.set (h.next + 13) (.blk 7 [[.ptr d 0 0, .ptr s 0 0, .nils, .nilp, .nils, .nils, .int .i64 0]])) ⟨Nat.le_refl _, fun i _ hi => gt_set_ne (by simp at hi; omega)⟩).keep (kc.but _)
  have mk0 : Making hcr hcr (h.next + 13) d s [] .nils .nils := ⟨.refl _ _, by omega, g4, rfl, rfl, fun c hc => (by cases hc), fun j hj => hj.elim, fun j hj => hj.elim, fun j hj => hj.elim⟩
  have hcid' : hcr.get cid = some (.blk 1 (List.replicate n [.nils])) := (khc.get _ hlt).trans hcid
  have key : Ok (X cfg 11 (Tryz.f11.body.get rfl) ([.agg [.int .i64 r, .int .i64 q, .int .i64 log, .int .i64 ar, .int .i64 bt, .int .i64 clock, .sl cid 0 n, pk]] ++ List.replicate (127 - 1) undefA) [] h (fin Tryz.f11.results.toList) (fin Tryz.f11.results.toList) (fun _ _ _ _ => none)) fun x => Keep h x.2 ∧ ∃ m w d s ig cl cs ws, x.1 = .ret (.ptr w 0 0) ∧ cl.length = n ∧ WorldAt x.2 m w d s ig cl cs ws := by
    clear k0 kd ks kc g0
    unfold sRow at *
    simp -implicitDefEqProofs only [go_sem, ↓reduceIte, Nat.reduceAdd, Nat.reduceSub, Nat.reduceMul, Nat.reduceLeDiff, Nat.reduceEqDiff, Nat.reduceGT, Nat.reduceLT, Nat.reduceMod, Nat.reduceDiv, Nat.reducePow, reduceCtorEq, Tryz.f11, Option.get_some]
    refine Ok.of_eq (S_dr [⟨0, 0, 0⟩, ⟨1, 0, 0⟩, ⟨2, 0, 0⟩, ⟨3, 0, 0⟩, ⟨4, 0, 0⟩, ⟨5, 0, 0⟩, ⟨6, 0, 1⟩, ⟨7, 0, 1⟩, ⟨8, 0, 1⟩, ⟨9, 0, 1⟩, ⟨10, 1, 2⟩, ⟨11, 2, 2⟩, ⟨12, 2, 2⟩, ⟨13, 2, 2⟩] (by kernel_rfl) (by kernel_rfl)) ?_
    simp -implicitDefEqProofs only [go_sem, ↓reduceIte, Nat.reduceAdd, Nat.reduceSub, Nat.reduceMul, Nat.reduceLeDiff, Nat.reduceEqDiff, Nat.reduceGT, Nat.reduceLT, Nat.reduceMod, Nat.reduceDiv, Nat.reducePow, reduceCtorEq, callF_some ed, callF_some es, g1, g2]
    refine Ok.of_eq (DW_nilE ?_) ?_
    · simp -implicitDefEqProofs only [go_sem, ↓reduceIte, Nat.reduceAdd, Nat.reduceSub, Nat.reduceMul, Nat.reduceLeDiff, Nat.reduceEqDiff, Nat.reduceGT, Nat.reduceLT, Nat.reduceMod, Nat.reduceDiv, Nat.reducePow, reduceCtorEq, g1, g2]
    simp -implicitDefEqProofs only [go_sem, ↓reduceIte, Nat.reduceAdd, Nat.reduceSub, Nat.reduceMul, Nat.reduceLeDiff, Nat.reduceEqDiff, Nat.reduceGT, Nat.reduceLT, Nat.reduceMod, Nat.reduceDiv, Nat.reducePow, reduceCtorEq, callF_some ec, g2, g3, g4, hb]
    refine new_loop (h0 := hcr) (b := h.next) (w := h.next + 13) (c := c) (d := d) (s := s) hn.1.1 hcid' (by have := khc.next; omega) (by omega) (fun h' ρ' cs' ws' cl' I hcl hρ => ?_) n (i := 0) (Nat.zero_add n) mk0 rfl rfl
    unfold Live11 at hρ
    generalize (fun j => ρ'.getD j undefA) = g at hρ
    subst hρ
    unfold tm11
    have gb : h'.get h.next = some (.blk 8 [[.int .i64 r, .int .i64 q, .int .i64 log, .int .i64 ar, .int .i64 bt, .int .i64 clock, .sl cid 0 n, pk]]) := (I.keep.get _ (by omega) (by omega)).trans g3
    have gw := I.row
    simp -implicitDefEqProofs only [go_sem, ↓reduceIte, Nat.reduceAdd, Nat.reduceSub, Nat.reduceMul, Nat.reduceLeDiff, Nat.reduceEqDiff, Nat.reduceGT, Nat.reduceLT, Nat.reduceMod, Nat.reduceDiv, Nat.reducePow, reduceCtorEq]
    refine Ok.of_eq (S_dr [⟨1, 0, 0⟩, ⟨2, 0, 0⟩, ⟨3, 0, 0⟩, ⟨4, 0, 0⟩, ⟨5, 0, 0⟩, ⟨6, 0, 0⟩, ⟨7, 0, 0⟩, ⟨8, 0, 0⟩, ⟨9, 0, 0⟩, ⟨10, 0, 0⟩, ⟨11, 0, 0⟩, ⟨12, 0, 0⟩, ⟨13, 0, 0⟩, ⟨14, 0, 0⟩, ⟨15, 0, 0⟩, ⟨16, 0, 0⟩, ⟨17, 0, 0⟩, ⟨18, 0, 1⟩, ⟨0, 0, 1⟩, ⟨19, 1, 1⟩, ⟨20, 1, 1⟩, ⟨21, 1, 2⟩] (by kernel_rfl) (by kernel_rfl)) ?_
    have e3 := integ_new d s c n bt (h.next + 13) (h'.room 22) (dfalse (by omega)) hb
    have hn' := I.keep.next
    have hn'' : ∀ k, ¬ h.next + 13 = h'.next + k := fun k => by omega
    simp -implicitDefEqProofs only [go_sem, ↓reduceIte, Nat.reduceAdd, Nat.reduceSub, Nat.reduceMul, Nat.reduceLeDiff, Nat.reduceEqDiff, Nat.reduceGT, Nat.reduceLT, Nat.reduceMod, Nat.reduceDiv, Nat.reducePow, reduceCtorEq, gb, gw, callF_some e3, hn'']
    refine Ok.of_eq (DW_nilE ?_) ?_
    · simp -implicitDefEqProofs only [go_sem, ↓reduceIte, Nat.reduceAdd, Nat.reduceSub, Nat.reduceMul, Nat.reduceLeDiff, Nat.reduceEqDiff, Nat.reduceGT, Nat.reduceLT, Nat.reduceMod, Nat.reduceDiv, Nat.reducePow, reduceCtorEq]
    simp -implicitDefEqProofs only [go_sem, ↓reduceIte, Nat.reduceAdd, Nat.reduceSub, Nat.reduceMul, Nat.reduceLeDiff, Nat.reduceEqDiff, Nat.reduceGT, Nat.reduceLT, Nat.reduceMod, Nat.reduceDiv, Nat.reducePow, reduceCtorEq]
    refine Ok.of_eq (S_dr [⟨1, 0, 0⟩, ⟨2, 0, 0⟩, ⟨3, 0, 0⟩, ⟨4, 0, 0⟩, ⟨5, 0, 0⟩, ⟨6, 0, 0⟩, ⟨7, 0, 0⟩, ⟨8, 0, 0⟩, ⟨9, 0, 0⟩, ⟨10, 0, 0⟩, ⟨11, 0, 1⟩, ⟨0, 0, 1⟩, ⟨12, 1, 1⟩, ⟨13, 1, 1⟩, ⟨14, 1, 2⟩] (by kernel_rfl) (by kernel_rfl)) ?_
    have old8 : ∀ j, j < h'.next → j ≠ h.next + 13 → (((((((h'.room 22).new (.blk 2 [[.int .i64 0, .nils]])).new (.blk 2 [[.int .i64 0, .nils]])).new (.blk 20 [igRow d s c n bt (h.next + 13) (h'.next + 22) (h'.next + 23) (h'.next + 24)])).set (h.next + 13) (.blk 7 [[.ptr d 0 0, .ptr s 0 0, cs', .ptr (h'.next + 24) 0 0, ws', .nils, .int .i64 0]])).room 15).set (h'.next + 35) (.blk 1 [[.ifc 78 (.ptr (h'.next + 24) 0 0)]])).get j = h'.get j := fun j hj hw => by
      rw [gt_set_ne (by omega), gt_room, gt_set_ne hw, gt_new_lt (by simp -implicitDefEqProofs only [go_sem, ↓reduceIte, Nat.reduceAdd, Nat.reduceSub, Nat.reduceMul, Nat.reduceLeDiff, Nat.reduceEqDiff, Nat.reduceGT, Nat.reduceLT, Nat.reduceMod, Nat.reduceDiv, Nat.reducePow, reduceCtorEq]; omega), gt_new_lt (by simp -implicitDefEqProofs only [go_sem, ↓reduceIte, Nat.reduceAdd, Nat.reduceSub, Nat.reduceMul, Nat.reduceLeDiff, Nat.reduceEqDiff, Nat.reduceGT, Nat.reduceLT, Nat.reduceMod, Nat.reduceDiv, Nat.reducePow, reduceCtorEq]; omega), gt_new_lt (by simp -implicitDefEqProofs only [go_sem, ↓reduceIte, Nat.reduceAdd, Nat.reduceSub, Nat.reduceMul, Nat.reduceLeDiff, Nat.reduceEqDiff, Nat.reduceGT, Nat.reduceLT, Nat.reduceMod, Nat.reduceDiv, Nat.reducePow, reduceCtorEq]; omega), gt_room]
    have top8 : (((((((h'.room 22).new (.blk 2 [[.int .i64 0, .nils]])).new (.blk 2 [[.int .i64 0, .nils]])).new (.blk 20 [igRow d s c n bt (h.next + 13) (h'.next + 22) (h'.next + 23) (h'.next + 24)])).set (h.next + 13) (.blk 7 [[.ptr d 0 0, .ptr s 0 0, cs', .ptr (h'.next + 24) 0 0, ws', .nils, .int .i64 0]])).room 15).set (h'.next + 35) (.blk 1 [[.ifc 78 (.ptr (h'.next + 24) 0 0)]])).get (h'.next + 35) = some (.blk 1 [[.ifc 78 (.ptr (h'.next + 24) 0 0)]]) := gt_set_same
    have w8 : (((((((h'.room 22).new (.blk 2 [[.int .i64 0, .nils]])).new (.blk 2 [[.int .i64 0, .nils]])).new (.blk 20 [igRow d s c n bt (h.next + 13) (h'.next + 22) (h'.next + 23) (h'.next + 24)])).set (h.next + 13) (.blk 7 [[.ptr d 0 0, .ptr s 0 0, cs', .ptr (h'.next + 24) 0 0, ws', .nils, .int .i64 0]])).room 15).set (h'.next + 35) (.blk 1 [[.ifc 78 (.ptr (h'.next + 24) 0 0)]])).get (h.next + 13) = some (.blk 7 [[.ptr d 0 0, .ptr s 0 0, cs', .ptr (h'.next + 24) 0 0, ws', .nils, .int .i64 0]]) := by
      rw [gt_set_ne (by omega), gt_room, gt_set_same]
    have ig8 : (((((((h'.room 22).new (.blk 2 [[.int .i64 0, .nils]])).new (.blk 2 [[.int .i64 0, .nils]])).new (.blk 20 [igRow d s c n bt (h.next + 13) (h'.next + 22) (h'.next + 23) (h'.next + 24)])).set (h.next + 13) (.blk 7 [[.ptr d 0 0, .ptr s 0 0, cs', .ptr (h'.next + 24) 0 0, ws', .nils, .int .i64 0]])).room 15).set (h'.next + 35) (.blk 1 [[.ifc 78 (.ptr (h'.next + 24) 0 0)]])).get (h'.next + 24) = some (.blk 20 [igRow d s c n bt (h.next + 13) (h'.next + 22) (h'.next + 23) (h'.next + 24)]) := by
      rw [gt_set_ne (by omega), gt_room, gt_set_ne (by omega)]; simp -implicitDefEqProofs only [go_sem, ↓reduceIte, Nat.reduceAdd, Nat.reduceSub, Nat.reduceMul, Nat.reduceLeDiff, Nat.reduceEqDiff, Nat.reduceGT, Nat.reduceLT, Nat.reduceMod, Nat.reduceDiv, Nat.reducePow, reduceCtorEq]
    have n8 : (((((((h'.room 22).new (.blk 2 [[.int .i64 0, .nils]])).new (.blk 2 [[.int .i64 0, .nils]])).new (.blk 20 [igRow d s c n bt (h.next + 13) (h'.next + 22) (h'.next + 23) (h'.next + 24)])).set (h.next + 13) (.blk 7 [[.ptr d 0 0, .ptr s 0 0, cs', .ptr (h'.next + 24) 0 0, ws', .nils, .int .i64 0]])).room 15).set (h'.next + 35) (.blk 1 [[.ifc 78 (.ptr (h'.next + 24) 0 0)]])).next = h'.next + 40 := by simp -implicitDefEqProofs only [go_sem, ↓reduceIte, Nat.reduceAdd, Nat.reduceSub, Nat.reduceMul, Nat.reduceLeDiff, Nat.reduceEqDiff, Nat.reduceGT, Nat.reduceLT, Nat.reduceMod, Nat.reduceDiv, Nat.reducePow, reduceCtorEq]
    have hwsw : ∀ j, slB ws' j → j ≠ h.next + 13 := fun j hj => by have := (I.wsl j hj).2; omega
    have hcsw : ∀ j, slB cs' j → j ≠ h.next + 13 := fun j hj => by have := (I.csl j hj).2; omega
    have ws8 : SlIs (((((((h'.room 22).new (.blk 2 [[.int .i64 0, .nils]])).new (.blk 2 [[.int .i64 0, .nils]])).new (.blk 20 [igRow d s c n bt (h.next + 13) (h'.next + 22) (h'.next + 23) (h'.next + 24)])).set (h.next + 13) (.blk 7 [[.ptr d 0 0, .ptr s 0 0, cs', .ptr (h'.next + 24) 0 0, ws', .nils, .int .i64 0]])).room 15).set (h'.next + 35) (.blk 1 [[.ifc 78 (.ptr (h'.next + 24) 0 0)]])) 1 (wkRows cl') ws' := I.isW.keep fun j hj => old8 j (I.wsl j hj).1 (hwsw j hj)
    have hlenw : (wkRows cl').length = n := by simp [wkRows, hcl]
    obtain ⟨h9, a9, n9, g9, f9⟩ := ws8.append (te := ⟨false, 1, 16, [.nili], .iface, none⟩) (newRows_one top8) (by simp) (by simp) (by simp [oneA]) (by decide) (by decide) (by rw [hlenw]; have := hn.1.1; simp; omega)
    rw [n8] at a9 n9 g9 f9
    rw [hlenw] at a9
    simp only [List.length_cons, List.length_nil, Nat.zero_add, Nat.add_assoc, Nat.reduceAdd] at a9 n9 g9
    have w9 : h9.get (h.next + 13) = some (.blk 7 [[.ptr d 0 0, .ptr s 0 0, cs', .ptr (h'.next + 24) 0 0, ws', .nils, .int .i64 0]]) := (f9 _ (by omega) fun hj => hwsw _ hj rfl).trans w8
    simp -implicitDefEqProofs only [go_sem, ↓reduceIte, Nat.reduceAdd, Nat.reduceSub, Nat.reduceMul, Nat.reduceLeDiff, Nat.reduceEqDiff, Nat.reduceGT, Nat.reduceLT, Nat.reduceMod, Nat.reduceDiv, Nat.reducePow, reduceCtorEq, a9, w9, hn'']
    refine Ok.of_eq (DW_nilE ?_) ?_
    · simp -implicitDefEqProofs only [go_sem, ↓reduceIte, Nat.reduceAdd, Nat.reduceSub, Nat.reduceMul, Nat.reduceLeDiff, Nat.reduceEqDiff, Nat.reduceGT, Nat.reduceLT, Nat.reduceMod, Nat.reduceDiv, Nat.reducePow, reduceCtorEq]
    simp -implicitDefEqProofs only [go_sem, ↓reduceIte, Nat.reduceAdd, Nat.reduceSub, Nat.reduceMul, Nat.reduceLeDiff, Nat.reduceEqDiff, Nat.reduceGT, Nat.reduceLT, Nat.reduceMod, Nat.reduceDiv, Nat.reducePow, reduceCtorEq]
    have f9' : ∀ j, j < h'.next → j ≠ h.next + 13 → ¬ slB ws' j → h9.get j = h'.get j := fun j hj hw hs => (f9 j (by omega) hs).trans (old8 j hj hw)
    refine Ok.some ⟨⟨by simp only [nx_set]; have := khc.next; omega, fun j hj => ?_⟩, h.next + 15, h.next + 13, d, s, h'.next + 24, cl', cs', .sl (h'.next + 40) 0 (n + 1), rfl, hcl, ?_⟩
    · rw [gt_set_ne (by omega), f9' j (by omega) (by omega) fun hs => (by have := (I.wsl j hs).2; omega), I.keep.get j (by omega) (by omega)]
      exact khc.get j hj
    · refine ⟨by simp only [nx_set]; omega, gt_set_same, I.isC.keep fun j hj => ?_, ⟨by simp [wkRows, hcl], ?_⟩, fun cc hc => ?_, ⟨by simp only [nx_set]; omega, s, c, n, bt, h'.next + 22, h'.next + 23, ?_⟩, ?_, fun j hj => ?_, fun j hj => ?_⟩
      · rw [gt_set_ne (hcsw j hj), f9' j (I.csl j hj).1 (hcsw j hj) (I.apart j hj)]
      · rw [gt_set_ne (by omega), g9]
      · obtain ⟨⟨hl, d', s', i', hg⟩, hm⟩ := I.all cc hc
        refine ⟨by simp only [nx_set]; omega, d', s', i', ?_⟩
        have hnw : ¬ slB ws' cc := fun hb => by
          have := I.isW; cases ws' with
          | sl id k m => cases k with
            | zero => obtain ⟨_, hh⟩ := this; have : cc = id := hb; subst this; rw [hg] at hh; simp at hh
            | succ _ => exact this.elim
          | _ => exact hb.elim
        rw [gt_set_ne (by omega), f9' cc hl (by omega) hnw]; exact hg
      · rw [gt_set_ne (by omega), f9 _ (by omega) fun hs => (by have := (I.wsl _ hs).1; omega), ig8]
      · have dk' := dk.keep (h' := h') ⟨I.keep.next, fun i hi hm => I.keep.get i hi (by simp at hm; omega)⟩
        obtain ⟨row, rr, qq, q1, q2, q3, q4, q5, q6, q7⟩ := dk'
        have hnb : ∀ x, h.next + 15 ≤ x → x < h'.next → (∀ rs, h'.get x ≠ some (.blk 1 rs)) → (h9.set (h.next + 13) (.blk 7 [[.ptr d 0 0, .ptr s 0 0, cs', .ptr (h'.next + 24) 0 0, .sl (h'.next + 40) 0 (n + 1), .nils, .int .i64 0]])).get x = h'.get x := fun x h1 h2 h3 => by
          have hnw : ¬ slB ws' x := fun hb => by
            have := I.isW; cases ws' with
            | sl id k m => cases k with
              | zero => obtain ⟨_, hh⟩ := this; have : x = id := hb; subst this; exact h3 _ hh
              | succ _ => exact this.elim
            | _ => exact hb.elim
          rw [gt_set_ne (by omega), f9' x h2 (by omega) hnw]
        exact ⟨row, rr, qq, (hnb d q6 q4 (by rw [q1]; simp)).trans q1, q2, (hnb rr q7 q5 (by rw [q3]; simp)).trans q3, by simp only [nx_set]; omega, by simp only [nx_set]; omega, q6, q7⟩
      · have := (I.csl j hj).1; simp only [nx_set]; omega
      · have : j = h'.next + 40 := hj
        simp only [nx_set]; omega
  obtain ⟨x, e, q⟩ := key
  exact ⟨x, enter Tryz.func11 rfl rfl Tryz.ntmps11 e, q⟩
end Go.Ai
