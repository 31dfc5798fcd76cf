import Derived.Test.YtelmlhlkefmjkaaGreatDoorAiI
import Derived.Test.YtelmlhlkefmjkaaGreatDoorAiM
import Derived.Test.YtelmlhlkefmjkaaGreatDoorAiK
import Derived.Test.YtelmlhlkefmjkaaGreatDoorAiL
import Derived.KernelRfl
import Derived.Test.YtelmlhlkefmjkaaGreatDoorProg
set_option linter.unusedSimpArgs false
set_option linter.unusedVariables false
/- The program, as the interpreter takes it; what simp needs. -/
namespace Go.Ai
open Go Go.Proofs
noncomputable def cfg : Cfg := { P := Tryz.prog, T := tiOf Tryz.prog, ext := fun f => if f = 251 then some .countString else if f = 327 then some .indexByteString else if f = 334 then some .mapsClone else none, fz := fun _ => false, sp := fun _ => none, ri := fun _ _ => none }
theorem hfz : ∀ f, cfg.fz f = false := fun _ => rfl
theorem cfgP : cfg.P = Tryz.prog := rfl
@[go_sem] theorem cfg_ext (f : FuncId) : cfg.ext f = if f = 251 then some .countString else if f = 327 then some .indexByteString else if f = 334 then some .mapsClone else none := rfl

section
variable {α : Type} {fid : FuncId} {v0 : AV} {ρ : List AV} {ds : List D} {h : H} {kn kr : Kont α} {kx : Nat → Kont α} {k : Kont α}
@[go_sem ↓] theorem S_seq {a b : Code} : X cfg fid (.seq a b) (v0 :: ρ) [] h kn kr kx = X cfg fid a (v0 :: ρ) [] h (fun ρ ds h => X cfg fid b ρ ds h kn kr kx) kr kx := X_seq hfz
@[go_sem ↓] theorem S_skip : X cfg fid .skip (v0 :: ρ) [] h kn kr kx = kn (v0 :: ρ) [] h := X_skip hfz
@[go_sem ↓] theorem S_label {l : Nat} : X cfg fid (.label l) (v0 :: ρ) [] h kn kr kx = kn (v0 :: ρ) [] h := X_label hfz
@[go_sem ↓] theorem S_ret : X cfg fid .ret (v0 :: ρ) [] h kn kr kx = kr (v0 :: ρ) [] h := X_ret hfz
@[go_sem ↓] theorem S_exit {i : Nat} : X cfg fid (.exit i) (v0 :: ρ) [] h kn kr kx = kx i (v0 :: ρ) [] h := X_exit hfz
@[go_sem ↓] theorem S_block {id : Nat} {c : Code} : X cfg fid (.block id c) (v0 :: ρ) [] h kn kr kx = X cfg fid c (v0 :: ρ) [] h kn kr (fun i ρ ds h => if i = id then kn ρ ds h else kx i ρ ds h) := X_block hfz
@[go_sem ↓] theorem S_scope {c : Code} : X cfg fid (.scope c) (v0 :: ρ) [] h kn kr kx = X cfg fid c (v0 :: ρ) [] h kn kr kx := X_scope
@[go_sem ↓] theorem S_reg {id : Nat} {os : List Oper} : X cfg fid (.region id ⟨os⟩ false) (v0 :: ρ) [] h kn kr kx = G' cfg os os (v0 :: ρ) [] h kn := X_region hfz
@[go_sem ↓] theorem S_if {c : Operand} {a b : Code} : X cfg fid (.cond c a b) (v0 :: ρ) [] h kn kr kx = bnd (opd (v0 :: ρ) c) fun v => match v with
      | .bool true => X cfg fid a (v0 :: ρ) [] h kn kr kx
      | .bool false => X cfg fid b (v0 :: ρ) [] h kn kr kx
      | _ => none := X_ift
@[go_sem ↓] theorem S_op {os : List Oper} {d : Option Tmp} {op : Op} {t : TypeId} {p : String} {a : Array Edge} {l : List Oper} :
    G' cfg os (⟨d, op, t, p, a, none⟩ :: l) (v0 :: ρ) [] h k = A cfg (v0 :: ρ) op [] h fun v ds h => G' cfg os l (putD (v0 :: ρ) d v) ds h k := G_op
@[go_sem ↓] theorem S_gd {os : List Oper} {d : Option Tmp} {op : Op} {t : TypeId} {p : String} {a : Array Edge} {g : Nat} {w : Bool} {l : List Oper} :
    G' cfg os (⟨d, op, t, p, a, some (g, w)⟩ :: l) (v0 :: ρ) [] h k = bnd (gd os g) fun q => bnd (lk (v0 :: ρ) q) fun v => match v with
      | .bool b => if b = w then A cfg (v0 :: ρ) op [] h fun v ds h => G' cfg os l (putD (v0 :: ρ) d v) ds h k else G' cfg os l (putD (v0 :: ρ) d undefA) [] h k
      | .tup [] => G' cfg os l (putD (v0 :: ρ) d undefA) [] h k
      | _ => none := G_gd
@[go_sem ↓] theorem S_nil {os : List Oper} : G' cfg os [] (v0 :: ρ) [] h k = k (v0 :: ρ) [] h := rfl
@[go_sem ↓] theorem S_dcons {os : List Oper} {base i lo hi : Nat} {l : List St} {hs : List H} {bs : List Again} :
    DW cfg os base (⟨i, lo, hi⟩ :: l) (v0 :: ρ) [] h hs bs k = bnd (ro os i) fun o => DG cfg os base ⟨i, lo, hi⟩ o l (v0 :: ρ) [] h hs bs k := DW_cons
@[go_sem ↓] theorem S_dnil {os : List Oper} {base : Nat} {hs : List H} : DW cfg os base [] (v0 :: ρ) [] h hs [] k = k (v0 :: ρ) [] h := DW_nil0
attribute [go_sem ↓] A_move A_assign A_pick A_alloc A_box A_build A_load A_store A_nilCheck A_bin A_un A_makeFunc A_makeMap A_extract A_call_fn B_buildSlice B_fieldAddr B_field B_makeSlice B_len B_call_val B_invoke
attribute [go_sem ↓] bnd_some
attribute [go_sem] opd_tmp opd_func opd_int opd_bool opd_str opd_nilp opd_nils opd_nilm opd_nilf opd_nili opds_nil opds_cons parts_nil parts_cons putD_some putD_none lk0 lk1 lk2 lk3 lk4 lk16 st0 st1 st2 st3 st4 st16 gd0 gd1 gd4
attribute [go_sem ↓] ro0 ro1 ro4 DG_none DG_some DO_eq lookD_eq DN_eq AL_alloc AL_box AL_makeMap AL_buildSlice AL_makeSlice
theorem S_dr {id : Nat} {os : List Oper} (p : List St) (hp : planOf ⟨os⟩ (masks os []) = p) (hk : planQ ⟨os⟩ (masks os []) p = true) :
    X cfg fid (.region id ⟨os⟩ true) ρ ds h kn kr kx = DW cfg os h.next p ρ ds (h.room os.length) [h.room os.length] [] kn := S_draw hfz p hp hk
theorem S_loop {c : Code} : X cfg fid (.loop c) ρ ds h kn kr kx = X cfg fid c ρ ds h (fun ρ ds h => X cfg fid (.loop c) ρ ds h kn kr kx) kr kx := X_loop hfz
end

section
variable {k : IntKind} {a b : Int} {ti : Option TI} {x y : Operand}
@[go_sem] theorem bop_lss : bop .lss ti x y (.int k a) (.int k b) = some (.bool (decide (a < b))) := by simp [bop, isNili, binA, binII, binInt]
@[go_sem] theorem bop_gtr : bop .gtr ti x y (.int k a) (.int k b) = some (.bool (decide (a > b))) := by simp [bop, isNili, binA, binII, binInt]
@[go_sem] theorem bop_leq : bop .leq ti x y (.int k a) (.int k b) = some (.bool (decide (a ≤ b))) := by simp [bop, isNili, binA, binII, binInt]
@[go_sem] theorem bop_geq : bop .geq ti x y (.int k a) (.int k b) = some (.bool (decide (a ≥ b))) := by simp [bop, isNili, binA, binII, binInt]
@[go_sem] theorem bop_eql : bop .eql ti x y (.int k a) (.int k b) = some (.bool (a == b)) := by simp [bop, isNili, binA, binII, binInt]
@[go_sem] theorem bop_neq : bop .neq ti x y (.int k a) (.int k b) = some (.bool (a != b)) := by simp [bop, isNili, binA, binII, binInt]
@[go_sem] theorem bop_add : bop .add ti x y (.int k a) (.int k b) = some (.int k (k.wrap (a + b))) := by simp [bop, isNili, binA, binII, binInt]
@[go_sem] theorem bop_sub : bop .sub ti x y (.int k a) (.int k b) = some (.int k (k.wrap (a - b))) := by simp [bop, isNili, binA, binII, binInt]
@[go_sem] theorem bop_rem : bop .rem ti x y (.int k a) (.int k b) = if b = 0 then none else some (.int k (a.tmod b)) := by simp [bop, isNili, binA, binII, binInt]
end

/-- Nil, or not: pointers, slices, functions. -/
def isPtrT : Option TI → Bool | some ti => (match ti.d with | .ptr => true | _ => false) | none => false
def isSlT : Option TI → Bool | some ti => (match ti.d with | .slice _ => true | _ => false) | none => false
def isFnT : Option TI → Bool | some ti => (match ti.d with | .func => true | _ => false) | none => false
@[go_sem] theorem bop_ptr_nil {id i j : Nat} {x y : Operand} {ag : Bool} {sz by' : Nat} {z : List AV} {fl : Option (List P3)} : bop .eql (some ⟨ag, sz, by', z, .ptr, fl⟩) x y (.ptr id i j) .nilp = some (.bool false) := by simp [bop, isNili, binA, binE, eqT, eqTd, eqA]
@[go_sem] theorem bop_nil_nil {x y : Operand} {ag : Bool} {sz by' : Nat} {z : List AV} {fl : Option (List P3)} : bop .eql (some ⟨ag, sz, by', z, .ptr, fl⟩) x y .nilp .nilp = some (.bool true) := by simp [bop, isNili, binA, binE, eqT, eqTd, eqA]
@[go_sem] theorem bop_sl_nil {id i n : Nat} {x y : Operand} {ag : Bool} {sz by' : Nat} {z : List AV} {fl : Option (List P3)} {e : TypeId} : bop .eql (some ⟨ag, sz, by', z, .slice e, fl⟩) x y (.sl id i n) .nils = some (.bool false) := by simp [bop, isNili, binA, binE, eqT, eqTd, eqA]
@[go_sem] theorem bop_nils_nil {x y : Operand} {ag : Bool} {sz by' : Nat} {z : List AV} {fl : Option (List P3)} {e : TypeId} : bop .eql (some ⟨ag, sz, by', z, .slice e, fl⟩) x y .nils .nils = some (.bool true) := by simp [bop, isNili, binA, binE, eqT, eqTd, eqA]
@[go_sem] theorem bop_fn_nil {f : FuncId} {l m : List AV} {x y : Operand} {ag : Bool} {sz by' : Nat} {z : List AV} {fl : Option (List P3)} : bop .eql (some ⟨ag, sz, by', z, .func, fl⟩) x y (.fn f l m) .nilf = some (.bool false) := by simp [bop, isNili, binA, binE, eqT, eqTd, eqA]
@[go_sem] theorem un_not {b : Bool} : unA .not (.bool b) = some (.bool !b) := rfl
@[go_sem] theorem nc_ptr {id i k : Nat} : ncA (.ptr id i k) = some (.ptr id i k) := rfl
@[go_sem] theorem fad_ptr {id i k off : Nat} : fadA off (.ptr id i k) = some (.ptr id i (k + off)) := rfl

theorem Fin_nil {C : Cfg} {fn : Func} {ρ : List AV} {h : H} : Fin C fn ρ [] h = (resA C { ρ, ds := [], rc := .nil, h } fn.results.toList).map fun l => (.ret (packRes l), h) := rfl
/-- The results of a frame. -/
noncomputable def resL (ρ : List AV) (h : H) : List ResultVar → Option (List AV)
  | [] => some []
  | .tmp t :: l => bnd (lk ρ t) fun v => bnd (resL ρ h l) fun vs => some (v :: vs)
  | .cell a t :: l => bnd (cfg.T t) fun ti => bnd (lk ρ a) fun p => bnd (ldA h ti.agg ti.size p) fun v => bnd (resL ρ h l) fun vs => some (v :: vs)
@[go_sem] theorem resL_nil {ρ : List AV} {h : H} : resL ρ h [] = some [] := rfl
@[go_sem] theorem resL_tmp {ρ : List AV} {h : H} {t : Tmp} {l : List ResultVar} : resL ρ h (.tmp t :: l) = bnd (lk ρ t) fun v => bnd (resL ρ h l) fun vs => some (v :: vs) := rfl
@[go_sem] theorem resL_cell {ρ : List AV} {h : H} {a : Tmp} {t : TypeId} {l : List ResultVar} : resL ρ h (.cell a t :: l) = bnd (cfg.T t) fun ti => bnd (lk ρ a) fun p => bnd (ldA h ti.agg ti.size p) fun v => bnd (resL ρ h l) fun vs => some (v :: vs) := rfl
theorem resA_L {ρ : List AV} {ds : List D} {rc : RC} {h : H} : ∀ l, resA cfg { ρ, ds, rc, h } l = resL ρ h l := by
  intro l
  induction l with
  | nil => rfl
  | cons r l ih =>
    cases r with
    | cell a t =>
      simp only [resA, resL, bnd, lk]
      rw [ih]
      congr 1; funext ti; congr 1; funext p; congr 1; funext v
      cases resL ρ h l <;> rfl
    | tmp t =>
      simp only [resA, resL, bnd, lk]
      rw [ih]
      congr 1; funext v
      cases resL ρ h l <;> rfl
/-- What a frame ends in. -/
noncomputable def fin (rs : List ResultVar) : Kont (AR × H) := fun ρ ds h => match ds with
  | [] => bnd (resL ρ h rs) fun l => some (.ret (packRes l), h)
  | _ => none
@[go_sem ↓] theorem fin_nil {rs : List ResultVar} {v0 : AV} {ρ : List AV} {h : H} : fin rs (v0 :: ρ) [] h = bnd (resL (v0 :: ρ) h rs) fun l => some (.ret (packRes l), h) := rfl
@[go_sem] theorem pack1 {v : AV} : packRes [v] = v := rfl
@[go_sem] theorem pack0 : packRes [] = .tup [] := rfl
@[go_sem] theorem pack2 {v w : AV} : packRes [v, w] = .tup [v, w] := rfl
@[go_sem] theorem pack3 {v w x : AV} : packRes [v, w, x] = .tup [v, w, x] := rfl

theorem fin_le {fn : Func} {ρ : List AV} {ds : List D} {h : H} {r : AR × H} (e : fin fn.results.toList ρ ds h = some r) : Fin cfg fn ρ ds h = some r := by
  cases ds with
  | cons _ _ => cases e
  | nil =>
    rw [Fin_nil, resA_L]
    unfold fin bnd at e
    cases hq : resL ρ h fn.results.toList with
    | none => rw [hq] at e; cases e
    | some l => rw [hq] at e; simpa using e

theorem X_mono {α : Type} {C : Cfg} {fid : FuncId} {c : Code} {ρ : List AV} {ds : List D} {h : H} {kn kr kn' kr' : Kont α} {kx kx' : Nat → Kont α} {r : α} (h1 : ∀ ρ ds h, kn ρ ds h = some r → kn' ρ ds h = some r) (h2 : ∀ ρ ds h, kr ρ ds h = some r → kr' ρ ds h = some r)
    (h3 : ∀ i ρ ds h, kx i ρ ds h = some r → kx' i ρ ds h = some r) (e : X C fid c ρ ds h kn kr kx = some r) : X C fid c ρ ds h kn' kr' kx' = some r := by
  unfold X at e ⊢
  cases hq : ev C fid c { ρ, ds, rc := .nil, h } with
  | none => rw [hq] at e; cases e
  | some x =>
    rw [hq] at e
    obtain ⟨ex, s⟩ := x
    cases ex with
    | normal => exact h1 _ _ _ e
    | ret => exact h2 _ _ _ e
    | exit i => exact h3 _ _ _ _ e
    | panic _ => cases e

/-- A CALL OF A FUNCTION whose results are temporaries. -/
theorem enter {f : FuncId} {fn : Func} (hf : Tryz.prog.funcs[f]? = some fn) {c : Code} (hc : fn.body = some c) {rs : List ResultVar} (hr : fn.results.toList = rs) {args : List AV} {n : Nat} (hm : fn.ntmps = n) {h : H} {r : AR × H}
    (he : X cfg f c (args ++ List.replicate (n - args.length) undefA) [] h (fin rs) (fin rs) (fun _ _ _ _ => none) = some r) : cl cfg (.fn f) args h = some r := by
  subst hr hm
  exact cl_enter hfz rfl hf hc (X_mono (fun _ _ _ => fin_le) (fun _ _ _ => fin_le) (fun _ _ _ _ e => (by cases e)) he)

/-! ### Data -/
attribute [go_sem] Nat.add_assoc Nat.left_eq_add Nat.add_eq_left Nat.add_left_cancel_iff Option.bind_some undefA and_self and_true true_and Bool.false_eq_true Bool.not_true Bool.not_false Nat.add_zero isEff isAl List.replicate_succ List.replicate_zero List.cons_append List.nil_append List.append_nil Option.map_some List.length_cons List.length_nil List.getElem?_cons_zero List.getElem?_cons_succ List.set_cons_zero List.set_cons_succ
@[go_sem] theorem cells_int {k : IntKind} {n : Int} : AV.cells (.int k n) = [.int k n] := rfl
@[go_sem] theorem cells_bool {b : Bool} : AV.cells (.bool b) = [.bool b] := rfl
@[go_sem] theorem cells_agg {l : List AV} : AV.cells (.agg l) = l := rfl
@[go_sem] theorem cells_str {b : ByteArray} : AV.cells (.str b) = [.str b] := rfl
@[go_sem] theorem cells_ptr {a b c : Nat} : AV.cells (.ptr a b c) = [.ptr a b c] := rfl
@[go_sem] theorem cells_sl {a b c : Nat} : AV.cells (.sl a b c) = [.sl a b c] := rfl
@[go_sem] theorem cells_map {a : Nat} : AV.cells (.map a) = [.map a] := rfl
@[go_sem] theorem cells_fn {f : FuncId} {l m : List AV} : AV.cells (.fn f l m) = [.fn f l m] := rfl
@[go_sem] theorem cells_ifc {t : TypeId} {v : AV} : AV.cells (.ifc t v) = [.ifc t v] := rfl
@[go_sem] theorem cells_nilp : AV.cells .nilp = [.nilp] := rfl
@[go_sem] theorem cells_nils : AV.cells .nils = [.nils] := rfl
@[go_sem] theorem cells_nilf : AV.cells .nilf = [.nilf] := rfl
@[go_sem] theorem cells_nilm : AV.cells .nilm = [.nilm] := rfl
@[go_sem] theorem cells_nili : AV.cells .nili = [.nili] := rfl
@[go_sem] theorem fdP_struct {ag : Bool} {sz by' : Nat} {z : List AV} {fl : Option (List P3)} {fs : List (Nat × Nat × Bool)} {f : Nat} : fdP ⟨ag, sz, by', z, .struct fs, fl⟩ f = fs[f]? := rfl
@[go_sem] theorem elT_slice {C : Cfg} {ag : Bool} {sz by' : Nat} {z : List AV} {fl : Option (List P3)} {e : TypeId} : elT C ⟨ag, sz, by', z, .slice e, fl⟩ = C.T e := rfl
/-- A struct built of parts. -/
def bld (fs : List (Nat × Nat × Bool)) (z : List AV) : List (Nat × AV) → Option (List AV)
  | [] => some z
  | (i, v) :: l => bnd (fs[i]?) fun q => if v.cells.length = q.2.1 ∧ q.1 + q.2.1 ≤ z.length then bld fs (putAt z q.1 v.cells) l else none
theorem bld_eq (fs : List (Nat × Nat × Bool)) : ∀ (l : List (Nat × AV)) (z : List AV), fillA (fun i => (fs[i]?).map fun f => (f.1, f.2.1)) z l = bld fs z l := by
  intro l
  induction l with
  | nil => intro z; rfl
  | cons x l ih =>
    intro z
    obtain ⟨i, v⟩ := x
    simp only [fillA, bld, bnd]
    cases fs[i]? with
    | none => rfl
    | some q => simp only [Option.map_some, Option.bind_some, ih]
@[go_sem] theorem buildA_struct {C : Cfg} {ag : Bool} {sz by' : Nat} {z : List AV} {fl : Option (List P3)} {fs : List (Nat × Nat × Bool)} {ps : List (Nat × AV)} : buildA C ⟨ag, sz, by', z, .struct fs, fl⟩ ps = bnd (bld fs z ps) fun l => some (.agg l) := by
  simp only [buildA, bld_eq]; cases bld fs z ps <;> rfl
@[go_sem] theorem bld_nil {fs : List (Nat × Nat × Bool)} {z : List AV} : bld fs z [] = some z := rfl
@[go_sem] theorem bld_cons {fs : List (Nat × Nat × Bool)} {z : List AV} {i : Nat} {v : AV} {l : List (Nat × AV)} : bld fs z ((i, v) :: l) = bnd (fs[i]?) fun q => if v.cells.length = q.2.1 ∧ q.1 + q.2.1 ≤ z.length then bld fs (putAt z q.1 v.cells) l else none := rfl
@[go_sem] theorem putAt_nil {z : List AV} {i : Nat} : putAt z i [] = z := by cases z <;> rfl
@[go_sem] theorem putAt_cons {z : List AV} {i : Nat} {c : AV} {l : List AV} : putAt z i (c :: l) = putAt (z.set i c) (i + 1) l := by cases z <;> rfl

/-! ### The heap -/
section
variable {h : H} {i j n m : Nat} {o : Obj}
@[go_sem] theorem nx_room : (h.room n).next = h.next + n := rfl
@[go_sem] theorem nx_new : (h.new o).next = h.next + 1 := rfl
@[go_sem] theorem nx_set : (h.set i o).next = h.next := rfl
@[go_sem] theorem nx_del : (h.del i).next = h.next := rfl
@[go_sem] theorem gt_room : (h.room n).get i = h.get i := rfl
theorem gt_new : (h.new o).get j = if j = h.next then some o else h.get j := H.get_new h j o
@[go_sem] theorem gt_new_same : (h.new o).get h.next = some o := by simp [H.get_new]
theorem gt_set : (h.set i o).get j = if j = i then some o else h.get j := H.get_set h i j o
@[go_sem] theorem gt_set_same : (h.set i o).get i = some o := by simp [H.get_set]
theorem gt_new_lt (hj : j < h.next) : (h.new o).get j = h.get j := by rw [gt_new, if_neg (by omega)]
theorem gt_set_ne (hj : j ≠ i) : (h.set i o).get j = h.get j := by rw [gt_set, if_neg hj]
theorem gt_del_ne (hj : j ≠ i) : (h.del i).get j = h.get j := by rw [H.get_del, if_neg hj]
/-- The region's own object, in its place. -/
@[go_sem ↓] theorem at_new : ({ (({ h with next := n } : H).new o) with next := h.next } : H) = h.set n o := rfl
end
theorem rows_of {h : H} {i w : Nat} {rs : List Row} (e : h.get i = some (.blk w rs)) : h.rows i = some rs := by simp [H.rows, e]
theorem width_of {h : H} {i w : Nat} {rs : List Row} (e : h.get i = some (.blk w rs)) : h.width i = w := by simp [H.width, e]
/-- A load of one cell. -/
theorem ld1 {h : H} {i w k sz : Nat} {r : Row} (e : h.get i = some (.blk w [r])) : ldA h false sz (.ptr i 0 k) = r[k]? := by simp [ldA, rowOf, rows_of e]
theorem ldS {h : H} {i w k sz : Nat} {r : Row} (e : h.get i = some (.blk w [r])) (hk : k + sz ≤ r.length) : ldA h true sz (.ptr i 0 k) = some (.agg ((r.drop k).take sz)) := by simp [ldA, rowOf, rows_of e, hk]
theorem st_ {h : H} {i w k : Nat} {r : Row} {l : List AV} (e : h.get i = some (.blk w [r])) (hk : k + l.length ≤ r.length) (ho : l.all oneA = true) : stA h (.ptr i 0 k) l = some (h.set i (.blk w [putAt r k l])) := by
  simp only [stA, rows_of e, width_of e, Option.bind_some, List.getElem?_cons_zero, if_pos (show k + l.length ≤ r.length ∧ l.all oneA = true from ⟨hk, ho⟩), List.set_cons_zero]

@[go_sem] theorem ldA_ptr {h : H} {ag : Bool} {sz i j k : Nat} : ldA h ag sz (.ptr i j k) = bnd (h.get i) fun o => match o with
    | .blk _ rs => bnd (rs[j]?) fun r => if ag = true then (if k + sz ≤ r.length then some (.agg ((r.drop k).take sz)) else none) else r[k]?
    | _ => none := by
  simp only [ldA, rowOf, H.rows, bnd]
  cases h.get i with
  | none => rfl
  | some o =>
    cases o with
    | blk w rs =>
      simp only [Option.bind_some]
      cases rs[j]? with
      | none => rfl
      | some r => rfl
    | _ => rfl
@[go_sem] theorem stA_ptr {h : H} {i j k : Nat} {l : List AV} : stA h (.ptr i j k) l = bnd (h.get i) fun o => match o with
    | .blk w rs => bnd (rs[j]?) fun r => if k + l.length ≤ r.length ∧ l.all oneA = true then some (h.set i (.blk w (rs.set j (putAt r k l)))) else none
    | _ => none := by
  simp only [stA, H.rows, bnd]
  cases hg : h.get i with
  | none => rfl
  | some o =>
    cases o with
    | blk w rs =>
      simp only [Option.bind_some]
      cases rs[j]? with
      | none => rfl
      | some r => simp only [Option.bind_some, H.width, hg]
    | _ => rfl
attribute [go_sem] gt_new gt_set List.drop_succ_cons List.drop_zero List.take_succ_cons List.take_zero List.all_cons List.all_nil Bool.and_true Bool.true_and
@[go_sem] theorem one_int {k : IntKind} {n : Int} : oneA (.int k n) = true := rfl
@[go_sem] theorem one_bool {b : Bool} : oneA (.bool b) = true := rfl
@[go_sem] theorem one_str {b : ByteArray} : oneA (.str b) = true := rfl
@[go_sem] theorem one_ptr {a b c : Nat} : oneA (.ptr a b c) = true := rfl
@[go_sem] theorem one_sl {a b c : Nat} : oneA (.sl a b c) = true := rfl
@[go_sem] theorem one_map {a : Nat} : oneA (.map a) = true := rfl
@[go_sem] theorem one_fn {f : FuncId} {l m : List AV} : oneA (.fn f l m) = true := rfl
@[go_sem] theorem one_ifc {t : TypeId} {v : AV} : oneA (.ifc t v) = true := rfl
@[go_sem] theorem one_nilp : oneA .nilp = true := rfl
@[go_sem] theorem one_nils : oneA .nils = true := rfl
@[go_sem] theorem one_nilf : oneA .nilf = true := rfl
@[go_sem] theorem one_nilm : oneA .nilm = true := rfl
@[go_sem] theorem one_nili : oneA .nili = true := rfl
@[go_sem] theorem agAll_nil {C : Cfg} {hs : List H} : agAll C hs [] = true := rfl
@[go_sem] theorem agAll_cons {C : Cfg} {hs : List H} {x : Again} {l : List Again} : agAll C hs (x :: l) = (!isEff x.o.op && agL C x hs 0 && agAll C hs l) := rfl
@[go_sem] theorem agL_nil {C : Cfg} {x : Again} {i : Nat} : agL C x [] i = decide (x.hi < i) := rfl
@[go_sem] theorem agL_cons {C : Cfg} {x : Again} {h : H} {l : List H} {i : Nat} : agL C x (h :: l) i = ((if x.lo ≤ i ∧ i ≤ x.hi then ag C x h else true) && agL C x l (i + 1)) := rfl
@[go_sem] theorem ag_eq {C : Cfg} {x : Again} {h : H} : ag C x h = match A C x.ρ x.o.op [] h (fun v _ h' => some (v.beq x.v && h'.next == h.next)) with
  | some b => b
  | none => false := rfl
attribute [go_sem] AV.beq_refl beq_self_eq_true List.reverse_cons List.reverse_nil

theorem tr_set_set (o o' : Option Obj) : ∀ (f : Nat) (t : Tr) (i : Nat), (t.set o f i).set o' f i = t.set o' f i := by
  intro f
  induction f with
  | zero => intro t i; rfl
  | succ f ih =>
    intro t i
    rcases hs : t.split with ⟨v, l, r⟩
    simp only [Tr.set, hs]
    by_cases h0 : i = 0
    · simp only [h0, if_true, Tr.split]
    · by_cases h1 : i % 2 = 1
      · simp only [if_neg h0, if_pos h1, Tr.split, ih]
      · simp only [if_neg h0, if_neg h1, Tr.split, ih]
@[go_sem] theorem set_set {h : H} {i : Nat} {o o' : Obj} : (h.set i o).set i o' = h.set i o' := by
  unfold H.set; simp only [tr_set_set]
@[go_sem] theorem new_set {h : H} {o o' : Obj} : (h.new o).set h.next o' = h.new o' := by
  unfold H.set H.new; simp only [tr_set_set]
attribute [go_sem] decide_true decide_false Nat.one_lt_two

@[go_sem] theorem setRows_nil {rows : List Row} {n : Nat} : setRows rows n [] = some rows := rfl
@[go_sem] theorem setRows_cons {rows : List Row} {n i : Nat} {v : AV} {l : List (Nat × AV)} : setRows rows n ((i, v) :: l) = if v.cells.length = n ∧ i < rows.length then setRows (rows.set i v.cells) n l else none := rfl

@[go_sem] theorem slLen_sl {a b n : Nat} : slLen (.sl a b n) = some n := rfl
@[go_sem] theorem slLen_nils : slLen .nils = some 0 := rfl
@[go_sem] theorem lenB_str {h : H} {s : ByteArray} : lenB .str h (.str s) = some (.int .i64 s.size) := rfl
@[go_sem] theorem lenB_sl {h : H} {e : TypeId} {a b n : Nat} : lenB (.slice e) h (.sl a b n) = some (.int .i64 n) := rfl
@[go_sem] theorem lenB_nils {h : H} {e : TypeId} : lenB (.slice e) h .nils = some (.int .i64 0) := rfl
@[go_sem] theorem lenB_map {h : H} {k e : TypeId} {x : AV} : lenB (.map k e) h x = (mapOf h x).map fun es => .int .i64 es.length := rfl

@[go_sem] theorem bop_ifc_nil {t : TypeId} {v : AV} {x y : Operand} {ag : Bool} {sz by' : Nat} {z : List AV} {fl : Option (List P3)} : bop .eql (some ⟨ag, sz, by', z, .iface, fl⟩) x y (.ifc t v) .nili = some (.bool false) := by simp [bop, isNili, binA, binE, eqT, eqTd, eqA]
end Go.Ai

/- The types that are used. -/
namespace Go.Ai
open Go Go.Proofs
@[go_sem] theorem T1 : cfg.T 1 = some ⟨false, 1, 8, [.nilf], .func, none⟩ := by kernel_rfl
@[go_sem] theorem T3 : cfg.T 3 = some ⟨false, 1, 8, [.int .i64 0], .int .i64, some [.int]⟩ := by kernel_rfl
@[go_sem] theorem T4 : cfg.T 4 = some ⟨false, 1, 1, [.bool false], .bool, some [.bool]⟩ := by kernel_rfl
@[go_sem] theorem T5 : cfg.T 5 = some ⟨false, 1, 1, [.int .u8 0], .int .u8, some [.int]⟩ := by kernel_rfl
@[go_sem] theorem T9 : cfg.T 9 = some ⟨false, 1, 16, [.str ⟨#[]⟩], .str, some [.str]⟩ := by kernel_rfl
@[go_sem] theorem T23 : cfg.T 23 = some ⟨false, 1, 24, [.nils], .slice 5, none⟩ := by kernel_rfl
@[go_sem] theorem T29 : cfg.T 29 = some ⟨true, 5, 40, [.int .i64 0, .int .i64 0, .int .i64 0, .int .i64 0, .int .i64 0], .struct [(0, (1, false)), (1, (1, false)), (2, (1, false)), (3, (1, false)), (4, (1, false))], some [.int, .int, .int, .int, .int]⟩ := by kernel_rfl
@[go_sem] theorem T30 : cfg.T 30 = some ⟨false, 1, 24, [.nils], .slice 50, none⟩ := by kernel_rfl
@[go_sem] theorem T31 : cfg.T 31 = some ⟨false, 1, 24, [.nils], .slice 3, none⟩ := by kernel_rfl
@[go_sem] theorem T33 : cfg.T 33 = some ⟨true, 8, 96, [.int .i64 0, .int .i64 0, .int .i64 0, .int .i64 0, .int .i64 0, .int .i64 0, .nils, .nils], .struct [(0, (1, false)), (1, (5, true)), (6, (1, false)), (7, (1, false))], none⟩ := by kernel_rfl
@[go_sem] theorem T36 : cfg.T 36 = some ⟨false, 1, 8, [.nilp], .ptr, none⟩ := by kernel_rfl
@[go_sem] theorem T39 : cfg.T 39 = some ⟨false, 1, 24, [.nils], .slice 49, none⟩ := by kernel_rfl
@[go_sem] theorem T40 : cfg.T 40 = some ⟨false, 1, 24, [.nils], .slice 48, none⟩ := by kernel_rfl
@[go_sem] theorem T42 : cfg.T 42 = some ⟨true, 3, 56, [.nils, .nils, .int .i64 0], .struct [(0, (1, false)), (1, (1, false)), (2, (1, false))], none⟩ := by kernel_rfl
@[go_sem] theorem T48 : cfg.T 48 = some ⟨true, 4, 32, [.int .i64 0, .int .i64 0, .int .i64 0, .int .i64 0], .struct [(0, (1, false)), (1, (1, false)), (2, (1, false)), (3, (1, false))], some [.int, .int, .int, .int]⟩ := by kernel_rfl
@[go_sem] theorem T49 : cfg.T 49 = some ⟨false, 1, 24, [.nils], .slice 58, none⟩ := by kernel_rfl
@[go_sem] theorem T50 : cfg.T 50 = some ⟨false, 1, 24, [.nils], .slice 65, none⟩ := by kernel_rfl
@[go_sem] theorem T55 : cfg.T 55 = some ⟨false, 1, 8, [.int .i64 0], .int .i64, some [.int]⟩ := by kernel_rfl
@[go_sem] theorem T56 : cfg.T 56 = some ⟨false, 1, 24, [.nils], .slice 130, none⟩ := by kernel_rfl
@[go_sem] theorem T58 : cfg.T 58 = some ⟨true, 5, 72, [.int .i64 0, .int .i64 0, .int .i64 0, .nils, .nils], .struct [(0, (1, false)), (1, (1, false)), (2, (1, false)), (3, (1, false)), (4, (1, false))], none⟩ := by kernel_rfl
@[go_sem] theorem T65 : cfg.T 65 = some ⟨true, 5, 64, [.int .i64 0, .int .i64 0, .int .i64 0, .str ⟨#[]⟩, .nils], .struct [(0, (1, false)), (1, (1, false)), (2, (1, false)), (3, (1, false)), (4, (1, false))], none⟩ := by kernel_rfl
@[go_sem] theorem T73 : cfg.T 73 = some ⟨false, 1, 8, [.nilp], .ptr, none⟩ := by kernel_rfl
@[go_sem] theorem T75 : cfg.T 75 = some ⟨false, 1, 8, [.nilp], .ptr, none⟩ := by kernel_rfl
@[go_sem] theorem T77 : cfg.T 77 = some ⟨false, 1, 24, [.nils], .slice 84, none⟩ := by kernel_rfl
@[go_sem] theorem T78 : cfg.T 78 = some ⟨false, 1, 8, [.nilp], .ptr, none⟩ := by kernel_rfl
@[go_sem] theorem T79 : cfg.T 79 = some ⟨false, 1, 24, [.nils], .slice 89, none⟩ := by kernel_rfl
@[go_sem] theorem T81 : cfg.T 81 = some ⟨true, 7, 104, [.nilp, .nilp, .nils, .nilp, .nils, .nils, .int .i64 0], .struct [(0, (1, false)), (1, (1, false)), (2, (1, false)), (3, (1, false)), (4, (1, false)), (5, (1, false)), (6, (1, false))], none⟩ := by kernel_rfl
@[go_sem] theorem T82 : cfg.T 82 = some ⟨false, 1, 8, [.nilp], .ptr, none⟩ := by kernel_rfl
@[go_sem] theorem T84 : cfg.T 84 = some ⟨false, 1, 8, [.nilp], .ptr, none⟩ := by kernel_rfl
@[go_sem] theorem T86 : cfg.T 86 = some ⟨false, 1, 8, [.nilf], .func, none⟩ := by kernel_rfl
@[go_sem] theorem T89 : cfg.T 89 = some ⟨false, 1, 16, [.nili], .iface, none⟩ := by kernel_rfl
@[go_sem] theorem T112 : cfg.T 112 = some ⟨false, 1, 8, [.nilp], .ptr, none⟩ := by kernel_rfl
@[go_sem] theorem T115 : cfg.T 115 = some ⟨true, 7, 80, [.int .i64 0, .int .i64 0, .int .i64 0, .int .i64 0, .int .i64 0, .str ⟨#[]⟩, .nils], .struct [(0, (1, false)), (1, (1, false)), (2, (5, true))], none⟩ := by kernel_rfl
@[go_sem] theorem T117 : cfg.T 117 = some ⟨true, 1, 24, [.nils], .struct [(0, (1, false))], none⟩ := by kernel_rfl
@[go_sem] theorem T118 : cfg.T 118 = some ⟨false, 1, 24, [.nils], .slice 265, none⟩ := by kernel_rfl
@[go_sem] theorem T120 : cfg.T 120 = some ⟨true, 1, 24, [.nils], .struct [(0, (1, false))], none⟩ := by kernel_rfl
@[go_sem] theorem T126 : cfg.T 126 = some ⟨true, 10, 112, [.int .i64 0, .int .i64 0, .int .i64 0, .int .i64 0, .int .i64 0, .int .i64 0, .nils, .nils, .nilp, .int .i64 0], .struct [(0, (5, true)), (5, (1, false)), (6, (1, true)), (7, (1, true)), (8, (1, false)), (9, (1, false))], none⟩ := by kernel_rfl
@[go_sem] theorem T127 : cfg.T 127 = some ⟨false, 1, 8, [.nilp], .ptr, none⟩ := by kernel_rfl
@[go_sem] theorem T130 : cfg.T 130 = some ⟨true, 3, 32, [.int .i64 0, .str ⟨#[]⟩, .int .i64 0], .struct [(0, (1, false)), (1, (1, false)), (2, (1, false))], some [.int, .str, .int]⟩ := by kernel_rfl
@[go_sem] theorem T131 : cfg.T 131 = some ⟨false, 1, 8, [.nilf], .func, none⟩ := by kernel_rfl
@[go_sem] theorem T135 : cfg.T 135 = some ⟨true, 3, 32, [.bool false, .int .i64 0, .str ⟨#[]⟩], .struct [(0, (1, false)), (1, (1, false)), (2, (1, false))], some [.bool, .int, .str]⟩ := by kernel_rfl
@[go_sem] theorem T136 : cfg.T 136 = some ⟨false, 1, 8, [.nilf], .func, none⟩ := by kernel_rfl
@[go_sem] theorem T138 : cfg.T 138 = some ⟨true, 2, 16, [.nilp, .nilp], .struct [(0, (1, false)), (1, (1, false))], none⟩ := by kernel_rfl
@[go_sem] theorem T142 : cfg.T 142 = some ⟨true, 5, 40, [.int .i64 0, .int .i64 0, .nilp, .int .i64 0, .bool false], .struct [(0, (1, false)), (1, (1, false)), (2, (1, false)), (3, (1, false)), (4, (1, false))], none⟩ := by kernel_rfl
@[go_sem] theorem T146 : cfg.T 146 = some ⟨true, 17, 168, [.nilp, .nilp, .int .i64 0, .nils, .int .i64 0, .nilf, .nilf, .bool false, .int .i64 0, .int .i64 0, .int .i64 0, .int .i64 0, .int .i64 0, .int .i64 0, .bool false, .nilp, .nils], .struct [(0, (1, false)), (1, (1, false)), (2, (1, false)), (3, (1, false)), (4, (1, false)), (5, (1, false)), (6, (1, false)), (7, (1, false)), (8, (1, false)), (9, (5, true)), (14, (1, false)), (15, (1, false)), (16, (1, false))], none⟩ := by kernel_rfl
@[go_sem] theorem T149 : cfg.T 149 = some ⟨false, 1, 24, [.nils], .slice 115, none⟩ := by kernel_rfl
@[go_sem] theorem T150 : cfg.T 150 = some ⟨false, 1, 8, [.nilp], .ptr, none⟩ := by kernel_rfl
@[go_sem] theorem T152 : cfg.T 152 = some ⟨true, 20, 192, [.nilp, .nilp, .nilp, .int .i64 0, .int .i64 0, .nilf, .nilf, .bool false, .int .i64 0, .int .i64 0, .int .i64 0, .int .i64 0, .int .i64 0, .nilp, .nilp, .nils, .nilp, .nils, .int .i64 0, .bool false], .struct [(0, (1, false)), (1, (1, false)), (2, (1, false)), (3, (1, false)), (4, (1, false)), (5, (1, false)), (6, (1, false)), (7, (1, false)), (8, (5, true)), (13, (1, false)), (14, (1, false)), (15, (1, false)), (16, (1, false)), (17, (1, false)), (18, (1, false)), (19, (1, false))], none⟩ := by kernel_rfl
@[go_sem] theorem T165 : cfg.T 165 = some ⟨true, 3, 40, [.int .i64 0, .nils, .bool false], .struct [(0, (1, false)), (1, (1, false)), (2, (1, false))], none⟩ := by kernel_rfl
@[go_sem] theorem T166 : cfg.T 166 = some ⟨false, 1, 8, [.nilp], .ptr, none⟩ := by kernel_rfl
@[go_sem] theorem T171 : cfg.T 171 = some ⟨true, 2, 16, [.nilp, .nilf], .struct [(0, (1, false)), (1, (1, false))], none⟩ := by kernel_rfl
@[go_sem] theorem T174 : cfg.T 174 = some ⟨false, 1, 8, [.nilp], .ptr, none⟩ := by kernel_rfl
@[go_sem] theorem T179 : cfg.T 179 = some ⟨true, 2, 16, [.nilp, .nilf], .struct [(0, (1, false)), (1, (1, false))], none⟩ := by kernel_rfl
@[go_sem] theorem T183 : cfg.T 183 = some ⟨true, 3, 40, [.int .i64 0, .nils, .nilp], .struct [(0, (1, false)), (1, (1, false)), (2, (1, false))], none⟩ := by kernel_rfl
@[go_sem] theorem T188 : cfg.T 188 = some ⟨true, 2, 32, [.int .i64 0, .nils], .struct [(0, (1, false)), (1, (1, false))], none⟩ := by kernel_rfl
@[go_sem] theorem T195 : cfg.T 195 = some ⟨true, 3, 56, [.int .i64 0, .nils, .nils], .struct [(0, (1, false)), (1, (1, false)), (2, (1, false))], none⟩ := by kernel_rfl
@[go_sem] theorem T199 : cfg.T 199 = some ⟨true, 3, 56, [.int .i64 0, .nils, .nils], .struct [(0, (1, false)), (1, (1, false)), (2, (1, false))], none⟩ := by kernel_rfl
@[go_sem] theorem T200 : cfg.T 200 = some ⟨false, 1, 8, [.nilm], .map 3 135, none⟩ := by kernel_rfl
@[go_sem] theorem T203 : cfg.T 203 = some ⟨true, 2, 32, [.nilm, .nils], .struct [(0, (1, false)), (1, (1, false))], none⟩ := by kernel_rfl
@[go_sem] theorem T265 : cfg.T 265 = some ⟨true, 6, 80, [.int .i64 0, .int .i64 0, .int .i64 0, .nils, .nils, .bool false], .struct [(0, (5, true)), (5, (1, false))], none⟩ := by kernel_rfl
section
variable {α : Type} {ρ : List AV} {ds : List D} {h : H} {k : AV → List D → H → Option α}
@[go_sem ↓] theorem ap_31_31 {s x : Operand} : A cfg ρ (.call ⟨.builtin .append, #[s, x], #[31, 31]⟩) ds h k = bnd (opd ρ s) fun s => bnd (opd ρ x) fun x => bnd (appA ⟨false, 1, 8, [.int .i64 0], .int .i64, some [.int]⟩ s x h) fun y => k y.1 ds y.2 := C_append (by kernel_rfl)
@[go_sem ↓] theorem ap_39_39 {s x : Operand} : A cfg ρ (.call ⟨.builtin .append, #[s, x], #[39, 39]⟩) ds h k = bnd (opd ρ s) fun s => bnd (opd ρ x) fun x => bnd (appA ⟨false, 1, 24, [.nils], .slice 58, none⟩ s x h) fun y => k y.1 ds y.2 := C_append (by kernel_rfl)
@[go_sem ↓] theorem ap_40_40 {s x : Operand} : A cfg ρ (.call ⟨.builtin .append, #[s, x], #[40, 40]⟩) ds h k = bnd (opd ρ s) fun s => bnd (opd ρ x) fun x => bnd (appA ⟨true, 4, 32, [.int .i64 0, .int .i64 0, .int .i64 0, .int .i64 0], .struct [(0, (1, false)), (1, (1, false)), (2, (1, false)), (3, (1, false))], some [.int, .int, .int, .int]⟩ s x h) fun y => k y.1 ds y.2 := C_append (by kernel_rfl)
@[go_sem ↓] theorem ap_49_49 {s x : Operand} : A cfg ρ (.call ⟨.builtin .append, #[s, x], #[49, 49]⟩) ds h k = bnd (opd ρ s) fun s => bnd (opd ρ x) fun x => bnd (appA ⟨true, 5, 72, [.int .i64 0, .int .i64 0, .int .i64 0, .nils, .nils], .struct [(0, (1, false)), (1, (1, false)), (2, (1, false)), (3, (1, false)), (4, (1, false))], none⟩ s x h) fun y => k y.1 ds y.2 := C_append (by kernel_rfl)
@[go_sem ↓] theorem ap_50_50 {s x : Operand} : A cfg ρ (.call ⟨.builtin .append, #[s, x], #[50, 50]⟩) ds h k = bnd (opd ρ s) fun s => bnd (opd ρ x) fun x => bnd (appA ⟨true, 5, 64, [.int .i64 0, .int .i64 0, .int .i64 0, .str ⟨#[]⟩, .nils], .struct [(0, (1, false)), (1, (1, false)), (2, (1, false)), (3, (1, false)), (4, (1, false))], none⟩ s x h) fun y => k y.1 ds y.2 := C_append (by kernel_rfl)
@[go_sem ↓] theorem ap_77_77 {s x : Operand} : A cfg ρ (.call ⟨.builtin .append, #[s, x], #[77, 77]⟩) ds h k = bnd (opd ρ s) fun s => bnd (opd ρ x) fun x => bnd (appA ⟨false, 1, 8, [.nilp], .ptr, none⟩ s x h) fun y => k y.1 ds y.2 := C_append (by kernel_rfl)
@[go_sem ↓] theorem ap_79_79 {s x : Operand} : A cfg ρ (.call ⟨.builtin .append, #[s, x], #[79, 79]⟩) ds h k = bnd (opd ρ s) fun s => bnd (opd ρ x) fun x => bnd (appA ⟨false, 1, 16, [.nili], .iface, none⟩ s x h) fun y => k y.1 ds y.2 := C_append (by kernel_rfl)
@[go_sem ↓] theorem ix_30 {x i : Operand} : A cfg ρ (.indexAddr 30 x i) ds h k = bnd (opd ρ i) fun i => bnd (intA i) fun i => bnd (natOf i) fun j => bnd (opd ρ x) fun x => bnd (iadA h ⟨false, 1, 24, [.nils], .slice 65, none⟩ x j) fun v => k v ds h := C_indexAddr (by kernel_rfl)
@[go_sem ↓] theorem ix_31 {x i : Operand} : A cfg ρ (.indexAddr 31 x i) ds h k = bnd (opd ρ i) fun i => bnd (intA i) fun i => bnd (natOf i) fun j => bnd (opd ρ x) fun x => bnd (iadA h ⟨false, 1, 8, [.int .i64 0], .int .i64, some [.int]⟩ x j) fun v => k v ds h := C_indexAddr (by kernel_rfl)
@[go_sem ↓] theorem ix_39 {x i : Operand} : A cfg ρ (.indexAddr 39 x i) ds h k = bnd (opd ρ i) fun i => bnd (intA i) fun i => bnd (natOf i) fun j => bnd (opd ρ x) fun x => bnd (iadA h ⟨false, 1, 24, [.nils], .slice 58, none⟩ x j) fun v => k v ds h := C_indexAddr (by kernel_rfl)
@[go_sem ↓] theorem ix_40 {x i : Operand} : A cfg ρ (.indexAddr 40 x i) ds h k = bnd (opd ρ i) fun i => bnd (intA i) fun i => bnd (natOf i) fun j => bnd (opd ρ x) fun x => bnd (iadA h ⟨true, 4, 32, [.int .i64 0, .int .i64 0, .int .i64 0, .int .i64 0], .struct [(0, (1, false)), (1, (1, false)), (2, (1, false)), (3, (1, false))], some [.int, .int, .int, .int]⟩ x j) fun v => k v ds h := C_indexAddr (by kernel_rfl)
@[go_sem ↓] theorem ix_49 {x i : Operand} : A cfg ρ (.indexAddr 49 x i) ds h k = bnd (opd ρ i) fun i => bnd (intA i) fun i => bnd (natOf i) fun j => bnd (opd ρ x) fun x => bnd (iadA h ⟨true, 5, 72, [.int .i64 0, .int .i64 0, .int .i64 0, .nils, .nils], .struct [(0, (1, false)), (1, (1, false)), (2, (1, false)), (3, (1, false)), (4, (1, false))], none⟩ x j) fun v => k v ds h := C_indexAddr (by kernel_rfl)
@[go_sem ↓] theorem ix_56 {x i : Operand} : A cfg ρ (.indexAddr 56 x i) ds h k = bnd (opd ρ i) fun i => bnd (intA i) fun i => bnd (natOf i) fun j => bnd (opd ρ x) fun x => bnd (iadA h ⟨true, 3, 32, [.int .i64 0, .str ⟨#[]⟩, .int .i64 0], .struct [(0, (1, false)), (1, (1, false)), (2, (1, false))], some [.int, .str, .int]⟩ x j) fun v => k v ds h := C_indexAddr (by kernel_rfl)
@[go_sem ↓] theorem ix_77 {x i : Operand} : A cfg ρ (.indexAddr 77 x i) ds h k = bnd (opd ρ i) fun i => bnd (intA i) fun i => bnd (natOf i) fun j => bnd (opd ρ x) fun x => bnd (iadA h ⟨false, 1, 8, [.nilp], .ptr, none⟩ x j) fun v => k v ds h := C_indexAddr (by kernel_rfl)
@[go_sem ↓] theorem ix_79 {x i : Operand} : A cfg ρ (.indexAddr 79 x i) ds h k = bnd (opd ρ i) fun i => bnd (intA i) fun i => bnd (natOf i) fun j => bnd (opd ρ x) fun x => bnd (iadA h ⟨false, 1, 16, [.nili], .iface, none⟩ x j) fun v => k v ds h := C_indexAddr (by kernel_rfl)
@[go_sem ↓] theorem if_78 {x : Operand} : A cfg ρ (.makeInterface 78 x) ds h k = bnd (opd ρ x) fun v => k (.ifc 78 v) ds h := C_iface (by kernel_rfl)
@[go_sem ↓] theorem if_84 {x : Operand} : A cfg ρ (.makeInterface 84 x) ds h k = bnd (opd ρ x) fun v => k (.ifc 84 v) ds h := C_iface (by kernel_rfl)
end
end Go.Ai
