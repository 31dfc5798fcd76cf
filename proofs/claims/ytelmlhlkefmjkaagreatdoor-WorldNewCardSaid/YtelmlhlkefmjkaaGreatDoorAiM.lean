import Derived.Test.YtelmlhlkefmjkaaGreatDoorAiJ
set_option linter.unusedSimpArgs false
set_option linter.unusedVariables false
/- Each kind of operation, with what comes behind it: in the form that simp takes step by step. -/
namespace Go.Ai

section
variable {α β : Type}
/-- One thing behind another; simp looks at the first alone. -/
def bnd (x : Option α) (f : α → Option β) : Option β := x.bind f
@[congr] theorem bnd_congr {x x' : Option α} {f : α → Option β} (h : x = x') : bnd x f = bnd x' f := by rw [h]
theorem bnd_some {a : α} {f : α → Option β} : bnd (some a) f = f a := rfl

/-- A temporary. -/
def lk (ρ : List AV) (t : Nat) : Option AV := ρ[t]?
/-- A temporary is set. -/
def st (ρ : List AV) (t : Nat) (v : AV) : List AV := ρ.set t v
theorem lk0 {a : AV} {l : List AV} : lk (a :: l) 0 = some a := rfl
theorem lk1 {a b : AV} {l : List AV} : lk (a :: b :: l) 1 = some b := rfl
theorem lk2 {a b c : AV} {l : List AV} : lk (a :: b :: c :: l) 2 = some c := rfl
theorem lk3 {a b c d : AV} {l : List AV} : lk (a :: b :: c :: d :: l) 3 = some d := rfl
theorem lk4 {a b c d : AV} {l : List AV} {n : Nat} : lk (a :: b :: c :: d :: l) (n + 4) = lk l n := rfl
theorem lk16 {a b c d a1 b1 c1 d1 a2 b2 c2 d2 a3 b3 c3 d3 : AV} {l : List AV} {n : Nat} : lk (a :: b :: c :: d :: a1 :: b1 :: c1 :: d1 :: a2 :: b2 :: c2 :: d2 :: a3 :: b3 :: c3 :: d3 :: l) (n + 16) = lk l n := rfl
theorem st0 {a v : AV} {l : List AV} : st (a :: l) 0 v = v :: l := rfl
theorem st1 {a b v : AV} {l : List AV} : st (a :: b :: l) 1 v = a :: v :: l := rfl
theorem st2 {a b c v : AV} {l : List AV} : st (a :: b :: c :: l) 2 v = a :: b :: v :: l := rfl
theorem st3 {a b c d v : AV} {l : List AV} : st (a :: b :: c :: d :: l) 3 v = a :: b :: c :: v :: l := rfl
theorem st4 {a b c d v : AV} {l : List AV} {n : Nat} : st (a :: b :: c :: d :: l) (n + 4) v = a :: b :: c :: d :: st l n v := rfl
theorem st16 {a b c d a1 b1 c1 d1 a2 b2 c2 d2 a3 b3 c3 d3 v : AV} {l : List AV} {n : Nat} : st (a :: b :: c :: d :: a1 :: b1 :: c1 :: d1 :: a2 :: b2 :: c2 :: d2 :: a3 :: b3 :: c3 :: d3 :: l) (n + 16) v =
  a :: b :: c :: d :: a1 :: b1 :: c1 :: d1 :: a2 :: b2 :: c2 :: d2 :: a3 :: b3 :: c3 :: d3 :: st l n v := rfl

theorem opd_tmp {ρ : List AV} {t : Tmp} : opd ρ (.tmp t) = lk ρ t := rfl
theorem opd_func {ρ : List AV} {f : FuncId} : opd ρ (.func f) = some (.fn f [] []) := rfl
theorem opd_int {ρ : List AV} {k : IntKind} {n : Int} : opd ρ (.const (.int k n)) = some (.int k n) := rfl
theorem opd_bool {ρ : List AV} {b : Bool} : opd ρ (.const (.bool b)) = some (.bool b) := rfl
theorem opd_str {ρ : List AV} {b : ByteArray} : opd ρ (.const (.string b)) = some (.str b) := rfl
theorem opd_nilp {ρ : List AV} : opd ρ (.const (.pointer none)) = some .nilp := rfl
theorem opd_nils {ρ : List AV} : opd ρ (.const (.slice none 0 0)) = some .nils := rfl
theorem opd_nilm {ρ : List AV} : opd ρ (.const (.map none)) = some .nilm := rfl
theorem opd_nilf {ρ : List AV} : opd ρ (.const .nilFunc) = some .nilf := rfl
theorem opd_nili {ρ : List AV} : opd ρ (.const .nilIface) = some .nili := rfl
theorem opds_nil {ρ : List AV} : opds ρ [] = some [] := rfl
theorem opds_cons {ρ : List AV} {x : Operand} {l : List Operand} : opds ρ (x :: l) = bnd (opd ρ x) fun v => bnd (opds ρ l) fun vs => some (v :: vs) := by
  simp only [opds, List.mapM_cons, bnd]; rfl
theorem parts_nil {ρ : List AV} : parts ρ [] = some [] := rfl
theorem parts_cons {ρ : List AV} {i : Nat} {x : Operand} {l : List (Nat × Operand)} : parts ρ ((i, x) :: l) = bnd (opd ρ x) fun v => bnd (parts ρ l) fun vs => some ((i, v) :: vs) := by
  simp only [parts, List.mapM_cons, bnd]
  cases opd ρ x <;> rfl
end

section
variable {α : Type} {C : Cfg}
/-- Code, and what comes behind it: simp looks at the temporaries and the heap alone. -/
@[congr] theorem X_congr {fid : FuncId} {c : Code} {ρ ρ' : List AV} {ds : List D} {h h' : H} {kn kr : Kont α} {kx : Nat → Kont α} (h1 : ρ = ρ') (h2 : h = h') : X C fid c ρ ds h kn kr kx = X C fid c ρ' ds h' kn kr kx := by rw [h1, h2]
@[congr] theorem A_congr {ρ ρ' : List AV} {op : Op} {ds : List D} {h h' : H} {k : AV → List D → H → Option α} (h1 : ρ = ρ') (h2 : h = h') : A C ρ op ds h k = A C ρ' op ds h' k := by rw [h1, h2]

/-- The place of an operation's value. -/
def gd : List Oper → Nat → Option Tmp
  | [], _ => none
  | o :: _, 0 => o.dst
  | _ :: l, n + 1 => gd l n
@[congr] theorem gd_congr {l : List Oper} {n : Nat} : gd l n = gd l n := rfl
theorem gd0 {d : Option Tmp} {op : Op} {t : TypeId} {p : String} {a : Array Edge} {g : Option (Nat × Bool)} {l : List Oper} : gd (⟨d, op, t, p, a, g⟩ :: l) 0 = d := rfl
theorem gd1 {o : Oper} {l : List Oper} {n : Nat} : gd (o :: l) (n + 1) = gd l n := rfl
theorem gd4 {o1 o2 o3 o4 : Oper} {l : List Oper} {n : Nat} : gd (o1 :: o2 :: o3 :: o4 :: l) (n + 4) = gd l n := rfl
theorem gd_eq : ∀ (os : List Oper) (g : Nat), (os.toArray[g]?).bind (·.dst) = gd os g := by
  intro os g
  simp only [List.getElem?_toArray]
  induction os generalizing g with
  | nil => rfl
  | cons o l ih => cases g with
    | zero => rfl
    | succ g => simpa [gd] using ih g

noncomputable def G' (C : Cfg) (os l : List Oper) (ρ : List AV) (ds : List D) (h : H) (k : Kont α) : Option α := G C os.toArray l ρ ds h k
@[congr] theorem G_congr {os l : List Oper} {ρ ρ' : List AV} {ds : List D} {h h' : H} {k : Kont α} (h1 : ρ = ρ') (h2 : h = h') : G' C os l ρ ds h k = G' C os l ρ' ds h' k := by rw [h1, h2]
theorem putD_some {ρ : List AV} {d : Tmp} {v : AV} : putD ρ (some d) v = st ρ d v := rfl
theorem putD_none {ρ : List AV} {v : AV} : putD ρ none v = ρ := rfl
theorem X_reg (hfz : ∀ f, C.fz f = false) {fid : FuncId} {ρ : List AV} {ds : List D} {h : H} {kn kr : Kont α} {kx : Nat → Kont α} {id : Nat} {os : List Oper} : X C fid (.region id ⟨os⟩ false) ρ ds h kn kr kx = G' C os os ρ ds h kn := X_region hfz
theorem X_if (hfz : ∀ f, C.fz f = false) {fid : FuncId} {ρ : List AV} {ds : List D} {h : H} {kn kr : Kont α} {kx : Nat → Kont α} {c : Operand} {a b : Code} {t : Bool} (hc : opd ρ c = some (.bool t)) :
    X C fid (.cond c a b) ρ ds h kn kr kx = if t = true then X C fid a ρ ds h kn kr kx else X C fid b ρ ds h kn kr kx := X_cond hc
theorem X_ift {fid : FuncId} {ρ : List AV} {ds : List D} {h : H} {kn kr : Kont α} {kx : Nat → Kont α} {c : Operand} {a b : Code} :
    X C fid (.cond c a b) ρ ds h kn kr kx = bnd (opd ρ c) fun v => match v with
      | .bool true => X C fid a ρ ds h kn kr kx
      | .bool false => X C fid b ρ ds h kn kr kx
      | _ => none := by
  unfold X bnd
  show ((lim fun n => (opd ρ c).bind fun v => (match v with | .bool t => if t then evalC C (ai C n) fid n a ⟨ρ, ds, .nil, h⟩ else evalC C (ai C n) fid n b ⟨ρ, ds, .nil, h⟩ | _ => none))).bind _ = _
  cases opd ρ c with
  | none => simp only [Option.bind_none, lim_const]
  | some v =>
    simp only [Option.bind_some]
    cases v with
    | bool t => cases t <;> rfl
    | _ => simp only [lim_const, Option.bind_none]
theorem G_nil' {os : List Oper} {ρ : List AV} {ds : List D} {h : H} {k : Kont α} : G' C os [] ρ ds h k = k ρ ds h := rfl
theorem G_op {os : List Oper} {d : Option Tmp} {op : Op} {t : TypeId} {p : String} {a : Array Edge} {l : List Oper} {ρ : List AV} {ds : List D} {h : H} {k : Kont α} :
    G' C os (⟨d, op, t, p, a, none⟩ :: l) ρ ds h k = A C ρ op ds h fun v ds h => G' C os l (putD ρ d v) ds h k := G_cons
theorem G_gd {os : List Oper} {d : Option Tmp} {op : Op} {t : TypeId} {p : String} {a : Array Edge} {g : Nat} {w : Bool} {l : List Oper} {ρ : List AV} {ds : List D} {h : H} {k : Kont α} :
    G' C os (⟨d, op, t, p, a, some (g, w)⟩ :: l) ρ ds h k = bnd (gd os g) fun q => bnd (lk ρ q) fun v => match v with
      | .bool b => if b = w then A C ρ op ds h fun v ds h => G' C os l (putD ρ d v) ds h k else G' C os l (putD ρ d undefA) ds h k
      | .tup [] => G' C os l (putD ρ d undefA) ds h k
      | _ => none := by
  unfold G'
  rw [G_guard, gd_eq]
  unfold bnd lk
  cases gd os g with
  | none => rfl
  | some q =>
    simp only [Option.bind_some]
    cases ρ[q]? with
    | none => rfl
    | some v =>
      cases v <;> first | rfl | skip
      rename_i l
      cases l <;> rfl
theorem opd_lk {ρ : List AV} {t : Tmp} : opd ρ (.tmp t) = lk ρ t := rfl
end

section
variable {α : Type} {C : Cfg} {ρ : List AV} {ds : List D} {h : H} {k : AV → List D → H → Option α}

theorem bind_map {β γ δ : Type} {x : Option β} {f : β → γ} {g : γ → Option δ} : (x.map f).bind g = x.bind fun b => g (f b) := by cases x <;> rfl

theorem A_move {x : Operand} : A C ρ (.move x) ds h k = bnd (opd ρ x) fun v => k v ds h := by
  unfold A bnd; simp only [execA, bind_map]
theorem A_assign {x : Operand} : A C ρ (.assign x) ds h k = bnd (opd ρ x) fun v => k v ds h := by
  unfold A bnd; simp only [execA, bind_map]
theorem A_pick {c a b : Operand} : A C ρ (.pick c a b) ds h k = bnd (opd ρ c) fun v => match v with | .bool t => bnd (if t then opd ρ a else opd ρ b) fun v => k v ds h | _ => none := by
  unfold A bnd; simp only [execA]
  cases opd ρ c with
  | none => rfl
  | some v => cases v <;> first | rfl | simp only [Option.bind_some, bind_map]
theorem A_alloc {t : TypeId} : A C ρ (.alloc t) ds h k = bnd (C.T t) fun ti => k (.ptr h.next 0 0) ds (h.new (.blk ti.zero.length [ti.zero])) := by
  unfold A bnd; simp only [execA, bind_map]
theorem A_box {t : TypeId} {x : Operand} : A C ρ (.box t x) ds h k = bnd (opd ρ x) fun x => k (.ptr h.next 0 0) ds (h.new (.blk x.cells.length [x.cells])) := by
  unfold A bnd; simp only [execA, bind_map]
/-- A value built of parts. -/
def buildA (C : Cfg) (ti : TI) (ps : List (Nat × AV)) : Option AV :=
  match ti.d with
  | .struct fs => (fillA (fun i => (fs[i]?).map fun f => (f.1, f.2.1)) ti.zero ps).map .agg
  | .arr _ e => (C.T e).bind fun te => (fillA (fun i => some (i * te.size, te.size)) ti.zero ps).map .agg
  | _ => none
theorem A_build {t : TypeId} {ps : Array (Nat × Operand)} : A C ρ (.build t ps) ds h k = bnd (C.T t) fun ti => bnd (parts ρ ps.toList) fun ps => bnd (buildA C ti ps) fun v => k v ds h := by
  unfold A bnd buildA; simp only [execA, Option.bind_eq_bind, Option.bind_assoc]
  congr 1; funext ti; congr 1; funext ps
  cases ti.d <;> simp only [bind_map, Option.bind_none, Option.bind_assoc]
theorem A_buildSlice {t : TypeId} {n : Nat} {ps : Array (Nat × Operand)} {ti : TI} {e : TypeId} (ht : C.T t = some ti) (hd : ti.d = .slice e) : A C ρ (.buildSlice t n ps) ds h k = bnd (C.T e) fun te => bnd (parts ρ ps.toList) fun ps =>
    if n * te.size > 2 ^ 24 then none else bnd (setRows (List.replicate n te.zero) te.size ps) fun rows => k (.sl h.next 0 n) ds (h.new (.blk te.size rows)) := by
  unfold A bnd; simp only [execA, Option.bind_eq_bind, ht, Option.bind_some, hd, Option.bind_assoc]
  congr 1; funext te; congr 1; funext ps
  split
  · rfl
  · simp only [Option.bind_assoc, Option.pure_def, Option.bind_some]
theorem A_load {t : TypeId} {a : Operand} : A C ρ (.load t a) ds h k = bnd (C.T t) fun ti => bnd (opd ρ a) fun p => bnd (ldA h ti.agg ti.size p) fun v => k v ds h := by
  unfold A bnd; simp only [execA, Option.bind_eq_bind, Option.bind_assoc, bind_map]
theorem A_store {t : TypeId} {a x : Operand} : A C ρ (.store t a x) ds h k = bnd (C.T t) fun ti => bnd (opd ρ x) fun x => if x.cells.length = ti.size then bnd (opd ρ a) fun p => bnd (stA h p x.cells) fun h => k undefA ds h else none := by
  unfold A bnd; simp only [execA, Option.bind_eq_bind, Option.bind_assoc]
  congr 1; funext ti; congr 1; funext x
  split
  · simp only [Option.bind_assoc, bind_map]
  · rfl
/-- What is no nil. -/
def ncA : AV → Option AV
  | .ptr id i k => some (.ptr id i k)
  | .iptr rs i k => some (.iptr rs i k)
  | .fn f l m => some (.fn f l m)
  | .ifc t x => some (.ifc t x)
  | _ => none
theorem A_nilCheck {x : Operand} : A C ρ (.nilCheck x) ds h k = bnd (opd ρ x) fun v => bnd (ncA v) fun v => k v ds h := by
  unfold A bnd ncA; simp only [execA, Option.bind_assoc]
  congr 1; funext v
  cases v <;> rfl
/-- Two operands. -/
def bop (op : BinOp) (ti : Option TI) (x y : Operand) (a b : AV) : Option AV := if isNili a && isNili b && !isConstO x && !isConstO y then none else binA op ti a b
theorem A_bin {op : BinOp} {t u : TypeId} {x y : Operand} : A C ρ (.binOp op t x y u) ds h k = bnd (opd ρ x) fun a => bnd (opd ρ y) fun b => bnd (bop op (C.T t) x y a b) fun v => k v ds h := by
  unfold A bnd bop; simp only [execA, Option.bind_eq_bind, Option.bind_assoc]
  congr 1; funext a; congr 1; funext b
  split
  · rfl
  · simp only [bind_map]
theorem A_un {op : UnOp} {t : TypeId} {x : Operand} : A C ρ (.unOp op t x) ds h k = bnd (opd ρ x) fun a => bnd (unA op a) fun v => k v ds h := by
  unfold A bnd; simp only [execA, Option.bind_eq_bind, Option.bind_assoc, bind_map]
theorem A_conv_int {s d : TypeId} {x : Operand} {ts td : TI} {j i : IntKind} (hs : C.T s = some ts) (hd : C.T d = some td) (h1 : ts.d = .int j) (h2 : td.d = .int i) :
    A C ρ (.convert s d x) ds h k = bnd (opd ρ x) fun v => match v with | .int _ n => k (.int i (i.wrap n)) ds h | _ => none := by
  unfold A bnd; simp only [execA, Option.bind_eq_bind, hs, hd, Option.bind_some, h1, h2]
  cases opd ρ x with
  | none => rfl
  | some v => cases v <;> rfl
theorem A_iface {t : TypeId} {x : Operand} {ti : TI} (ht : C.T t = some ti) (hd : ti.d ≠ .iface) : A C ρ (.makeInterface t x) ds h k = bnd (opd ρ x) fun v => k (.ifc t v) ds h := by
  unfold A bnd; simp only [execA, Option.bind_eq_bind, ht, Option.bind_some, hd]
  cases opd ρ x <;> rfl
theorem A_makeFunc {f : FuncId} {a b : Array Operand} : A C ρ (.makeFunc (.func f) a b) ds h k = bnd (opds ρ a.toList) fun a => bnd (opds ρ b.toList) fun b => k (.fn f a b) ds h := by
  unfold A bnd; simp only [execA, Option.bind_eq_bind]
  cases opds ρ a.toList with
  | none => rfl
  | some a => cases opds ρ b.toList <;> rfl
theorem A_makeMap {t : TypeId} : A C ρ (.makeMap t none) ds h k = k (.map h.next) ds (h.new (.map [])) := rfl
/-- A slice of zeros. -/
def mkA (te : TI) (l c : AV) (h : H) : Option (AV × H) := (intA l).bind fun l => (natOf l).bind fun n => (intA c).bind fun c => (natOf c).bind fun m =>
  if n = m ∧ n * te.bytes ≤ 2 ^ 47 ∧ n < 2 ^ 47 then some (.sl h.next 0 n, h.new (.blk te.size (List.replicate n te.zero))) else none
theorem A_makeSlice {t : TypeId} {l c : Operand} {ti te : TI} {e : TypeId} (ht : C.T t = some ti) (hd : ti.d = .slice e) (he : C.T e = some te) :
    A C ρ (.makeSlice t l c) ds h k = bnd (opd ρ l) fun l => bnd (opd ρ c) fun c => bnd (mkA te l c h) fun x => k x.1 ds x.2 := by
  unfold A bnd mkA; simp only [execA, Option.bind_eq_bind, ht, hd, he, Option.bind_some, Option.bind_assoc]
  cases opd ρ l with
  | none => rfl
  | some l =>
    simp only [Option.bind_some]
    cases hl : intA l with
    | none => cases opd ρ c <;> rfl
    | some l' =>
      simp only [Option.bind_some]
      cases hn : natOf l' with
      | none => cases opd ρ c <;> rfl
      | some n =>
        simp only [Option.bind_some]
        congr 1; funext c; congr 1; funext m; congr 1; funext m
        split <;> rfl
theorem A_slice {t : TypeId} {x : Operand} {lo hi mx : Option Operand} {ti : TI} (ht : C.T t = some ti) (hm : (mx.isSome && hi.isNone) = false) : A C ρ (.slice t x lo hi mx) ds h k = bnd (opd ρ x) fun a =>
    bnd (maxA ρ a mx) fun m => bnd (boundA ρ (some 0) lo) fun l => bnd (boundA ρ (lenA a) hi) fun u => bnd (sliceA C h ti a l u m) fun v => k v ds h := by
  unfold A bnd; simp only [execA, ht, Option.bind_some, hm, Bool.false_eq_true, if_false, Option.bind_assoc, bind_map]
/-- The address of a field. -/
def fadA (off : Nat) : AV → Option AV
  | .ptr id i k => some (.ptr id i (k + off))
  | .iptr rs i k => some (.iptr rs i (k + off))
  | _ => none
theorem A_fieldAddr {t : TypeId} {x : Operand} {f : Nat} {ti : TI} {fs : List (Nat × Nat × Bool)} {off size : Nat} {ag : Bool} (ht : C.T t = some ti) (hd : ti.d = .struct fs) (hf : fs[f]? = some (off, size, ag)) (hs : size ≠ 0) :
    A C ρ (.fieldAddr t x f) ds h k = bnd (opd ρ x) fun p => bnd (fadA off p) fun v => k v ds h := by
  unfold A bnd fadA; simp only [execA, Option.bind_eq_bind, ht, hd, hf, Option.bind_some, if_neg hs, Option.bind_assoc]
  congr 1; funext p
  cases p <;> rfl
def fldA (off size : Nat) (ag : Bool) : AV → Option AV
  | .agg l => if off + size ≤ l.length then (if ag then some (.agg ((l.drop off).take size)) else l[off]?) else none
  | _ => none
theorem A_field {t : TypeId} {x : Operand} {f : Nat} {ti : TI} {fs : List (Nat × Nat × Bool)} {off size : Nat} {ag : Bool} (ht : C.T t = some ti) (hd : ti.d = .struct fs) (hf : fs[f]? = some (off, size, ag)) :
    A C ρ (.field t x f) ds h k = bnd (opd ρ x) fun p => bnd (fldA off size ag p) fun v => k v ds h := by
  unfold A bnd fldA; simp only [execA, Option.bind_eq_bind, ht, hd, hf, Option.bind_some, Option.bind_assoc]
  congr 1; funext p
  cases p with
  | agg l =>
    simp only
    split
    · simp only [bind_map]
    · rfl
  | _ => rfl
/-- The address of a slice's element. -/
def iadA (h : H) (te : TI) (x : AV) (j : Nat) : Option AV := (slRow h x j).bind fun r => if r.length = te.size then (match x with
  | .sl id i _ => some (.ptr id (i + j) 0)
  | .imm rs => some (.iptr rs j 0)
  | _ => none) else none
theorem A_indexAddr {t : TypeId} {x ix : Operand} {ti te : TI} {e : TypeId} (ht : C.T t = some ti) (hd : ti.d = .slice e) (he : C.T e = some te) :
    A C ρ (.indexAddr t x ix) ds h k = bnd (opd ρ ix) fun i => bnd (intA i) fun i => bnd (natOf i) fun j => bnd (opd ρ x) fun x => bnd (iadA h te x j) fun v => k v ds h := by
  unfold A bnd iadA; simp only [execA, Option.bind_eq_bind, ht, hd, he, Option.bind_some, Option.bind_assoc]
  congr 1; funext i; congr 1; funext i; congr 1; funext j; congr 1; funext x; congr 1; funext r
  split
  · cases x <;> rfl
  · rfl
theorem A_index_str {t : TypeId} {x ix : Operand} {ti : TI} (ht : C.T t = some ti) (hd : ti.d = .str) :
    A C ρ (.index t x ix) ds h k = bnd (opd ρ ix) fun i => bnd (intA i) fun i => bnd (natOf i) fun j => bnd (opd ρ x) fun x => match x with
      | .str s => bnd (s[j]?) fun b => k (.int .u8 b.toNat) ds h
      | _ => none := by
  unfold A bnd; simp only [execA, Option.bind_eq_bind, ht, hd, Option.bind_some, Option.bind_assoc]
  congr 1; funext i; congr 1; funext i; congr 1; funext j; congr 1; funext x
  cases x <;> first | rfl | simp only [bind_map]
theorem A_lookup {t : TypeId} {x ix : Operand} {ok : Bool} {ti te : TI} {kt e : TypeId} (ht : C.T t = some ti) (hd : ti.d = .map kt e) (he : C.T e = some te) :
    A C ρ (.lookup t x ix ok) ds h k = bnd (opd ρ x) fun x => bnd (mapOf h x) fun es => bnd (opd ρ ix) fun i => if keyOk (C.T kt) i then bnd (findKey (C.T kt) i es 0) fun r => k (lookRes te ok es r) ds h else none := by
  unfold A bnd; simp only [execA, Option.bind_eq_bind, ht, hd, he, Option.bind_some, Option.bind_assoc, keyTy]
  congr 1; funext x; congr 1; funext es; congr 1; funext i
  split
  · simp only [Option.bind_assoc, Option.map_some, Option.bind_some]
  · rfl
/-- A map with a key. -/
def mupA (h : H) (id : Nat) (ti : Option TI) (i x : AV) : Option H := (mapOf h (.map id)).bind fun es => (findKey ti i es 0).map fun r => match r with
  | some j => h.set id (.map (es.set j (i, x)))
  | none => h.set id (.map (es ++ [(i, x)]))
theorem A_mapUpdate {t : TypeId} {m ix x : Operand} {ti : TI} {kt e : TypeId} (ht : C.T t = some ti) (hd : ti.d = .map kt e) :
    A C ρ (.mapUpdate t m ix x) ds h k = bnd (opd ρ ix) fun i => if keyOk (C.T kt) i then bnd (opd ρ x) fun x => bnd (opd ρ m) fun m => match m with
      | .map id => bnd (mupA h id (C.T kt) i x) fun h => k undefA ds h
      | _ => none else none := by
  unfold A bnd mupA; simp only [execA, Option.bind_eq_bind, ht, hd, Option.bind_some, Option.bind_assoc, keyTy, bind_map]
  congr 1; funext i
  split
  · simp only [Option.bind_assoc]
    congr 1; funext x; congr 1; funext m
    cases m <;> first | rfl | skip
    simp only [Option.bind_assoc, bind_map]
    congr 1; funext es; congr 1; funext r
    cases r <;> rfl
  · rfl
theorem A_extract {x : Operand} {i : Nat} : A C ρ (.extract x i) ds h k = bnd (opd ρ x) fun v => match v with | .tup l => bnd (l[i]?) fun v => k v ds h | _ => none := by
  unfold A bnd; simp only [execA, Option.bind_assoc]
  congr 1; funext v
  cases v <;> first | rfl | simp only [bind_map]

/-- A call of a function that is known. -/
noncomputable def callF (C : Cfg) (f : FuncId) (args : List AV) (ds : List D) (h : H) (k : AV → List D → H → Option α) : Option α := (cl C (.fn f) args h).bind fun y => match y with
  | (.ret v, h) => k v ds h
  | (.panic _, _) => none
theorem callF_some {f : FuncId} {args : List AV} {v : AV} {h h' : H} (e : cl C (.fn f) args h = some (.ret v, h')) : callF C f args ds h k = k v ds h' := by unfold callF; rw [e]; rfl

theorem A_call_fn {f : FuncId} {args : Array Operand} {ts : Array TypeId} (hx : C.ext f = none) : A C ρ (.call ⟨.value (.func f), args, ts⟩) ds h k = bnd (opds ρ args.toList) fun args => callF C f args ds h k := by
  unfold A bnd callF
  simp only [execA, Option.bind_eq_bind, Option.bind_assoc]
  congr 1; funext as
  simp only [opd, Option.bind_some, List.nil_append, List.append_nil, callA, hx]
  rfl
theorem A_call_val {t : Tmp} {args : Array Operand} {ts : Array TypeId} {f : FuncId} {first cap : List AV} (hv : ρ[t]? = some (.fn f first cap)) (hx : C.ext f = none) :
    A C ρ (.call ⟨.value (.tmp t), args, ts⟩) ds h k = bnd (opds ρ args.toList) fun args => callF C f (first ++ args ++ cap) ds h k := by
  unfold A bnd callF
  simp only [execA, Option.bind_eq_bind, Option.bind_assoc]
  congr 1; funext as
  simp only [opd, hv, Option.bind_some, callA, hx]
  rfl
theorem A_invoke {t : Tmp} {name : String} {args : Array Operand} {ts : Array TypeId} {ty : TypeId} {x : AV} {f : FuncId} (hv : ρ[t]? = some (.ifc ty x)) (hm : methodOf C.P ty name = some f) (hx : C.ext f = none) :
    A C ρ (.call ⟨.invoke (.tmp t) name, args, ts⟩) ds h k = bnd (opds ρ args.toList) fun args => callF C f (x :: args) ds h k := by
  unfold A bnd callF
  simp only [execA, Option.bind_eq_bind, Option.bind_assoc]
  congr 1; funext as
  simp only [opd, hv, Option.bind_some, hm, callA, hx]
  rfl

def lenB (d : TD) (h : H) (x : AV) : Option AV := match d with
  | .str => (match x with | .str s => some (.int .i64 s.size) | _ => none)
  | .slice _ => (slLen x).map fun (n : Nat) => .int .i64 n
  | .map .. => (mapOf h x).map fun es => .int .i64 es.length
  | .arr n _ => some (.int .i64 n)
  | _ => none
theorem A_len {x : Operand} {t : TypeId} {ti : TI} (ht : C.T t = some ti) : A C ρ (.call ⟨.builtin .len, #[x], #[t]⟩) ds h k = bnd (opd ρ x) fun x => bnd (lenB ti.d h x) fun v => k v ds h := by
  unfold A bnd lenB
  simp only [execA, Option.bind_eq_bind, opds, List.mapM_cons, List.mapM_nil, Option.bind_assoc, Option.pure_def, Option.bind_some]
  congr 1; funext x
  simp only [builtinA, List.getElem?_toArray, List.getElem?_cons_zero, Option.bind_some, ht]
  cases ti.d with
  | str => cases x <;> rfl
  | slice e => simp only [bind_map]
  | map _ _ => simp only [bind_map]
  | arr _ _ => rfl
  | _ => rfl

/-- append. -/
def appA (te : TI) (s x : AV) (h : H) : Option (AV × H) := (newRows h x).bind fun new => (slRows h s).bind fun old =>
  if wide te.size new && decide (0 < te.bytes) && decide (0 < te.size) && decide ((old.length + new.length) * te.bytes ≤ 2 ^ 40) then appendA h te.size s new else none
theorem A_append {s x : Operand} {t u : TypeId} {ti te tx : TI} {e : TypeId} (ht : C.T t = some ti) (hd : ti.d = .slice e) (he : C.T e = some te) (hu : C.T u = some tx) (hx : isIntD tx.d = false) :
    A C ρ (.call ⟨.builtin .append, #[s, x], #[t, u]⟩) ds h k = bnd (opd ρ s) fun s => bnd (opd ρ x) fun x => bnd (appA te s x h) fun y => k y.1 ds y.2 := by
  unfold A bnd appA
  simp only [execA, Option.bind_eq_bind, opds, List.mapM_cons, List.mapM_nil, Option.bind_assoc, Option.pure_def, Option.bind_some]
  congr 1; funext s; congr 1; funext x
  simp only [builtinA, Option.bind_eq_bind, List.getElem?_toArray, List.getElem?_cons_zero, List.getElem?_cons_succ, Option.bind_some, ht, hd, he, hu, hx, Bool.false_eq_true, if_false, Option.bind_assoc]
  congr 1; funext new; congr 1; funext old
  split
  · cases appendA h te.size s new <;> rfl
  · rfl


/-! ### The same without conditions -/
/-- The element's type. -/
def elT (C : Cfg) (ti : TI) : Option TI := match ti.d with | .slice e => C.T e | _ => none
/-- A field's place. -/
def fdP (ti : TI) (f : Nat) : Option (Nat × Nat × Bool) := match ti.d with | .struct fs => fs[f]? | _ => none
def inK (ti : TI) : Option IntKind := match ti.d with | .int k => some k | _ => none
def mpT (C : Cfg) (ti : TI) : Option (TypeId × TI) := match ti.d with | .map k e => (C.T e).map (k, ·) | _ => none

theorem none_A {op : Op} (h0 : execA C ρ { (default : Oper) with op } h = none) : A C ρ op ds h k = none := by unfold A; rw [h0]; rfl

theorem B_buildSlice {t : TypeId} {n : Nat} {ps : Array (Nat × Operand)} : A C ρ (.buildSlice t n ps) ds h k = bnd (C.T t) fun ti => bnd (elT C ti) fun te => bnd (parts ρ ps.toList) fun ps =>
    if n * te.size > 2 ^ 24 then none else bnd (setRows (List.replicate n te.zero) te.size ps) fun rows => k (.sl h.next 0 n) ds (h.new (.blk te.size rows)) := by
  cases ht : C.T t with
  | none => exact none_A (by simp only [execA, Option.bind_eq_bind, ht, Option.bind_none])
  | some ti =>
    cases hd : ti.d with
    | slice e => rw [A_buildSlice ht hd]; simp only [bnd_some, elT, hd]
    | _ => rw [none_A (by simp only [execA, Option.bind_eq_bind, ht, Option.bind_some, hd])]; simp only [bnd_some, elT, hd]; rfl
theorem B_fieldAddr {t : TypeId} {x : Operand} {f : Nat} : A C ρ (.fieldAddr t x f) ds h k = bnd (C.T t) fun ti => bnd (fdP ti f) fun q => if q.2.1 = 0 then none else bnd (opd ρ x) fun p => bnd (fadA q.1 p) fun v => k v ds h := by
  cases ht : C.T t with
  | none => exact none_A (by simp only [execA, Option.bind_eq_bind, ht, Option.bind_none])
  | some ti =>
    cases hd : ti.d with
    | struct fs =>
      cases hf : fs[f]? with
      | none => rw [none_A (by simp only [execA, Option.bind_eq_bind, ht, Option.bind_some, hd, hf, Option.bind_none])]; simp only [bnd_some, fdP, hd, hf]; rfl
      | some q =>
        obtain ⟨off, size, ag⟩ := q
        simp only [bnd_some, fdP, hd, hf]
        by_cases hs : size = 0
        · rw [if_pos hs, none_A (by simp only [execA, Option.bind_eq_bind, ht, Option.bind_some, hd, hf, if_pos hs])]
        · rw [if_neg hs, A_fieldAddr ht hd hf hs]
    | _ => rw [none_A (by simp only [execA, Option.bind_eq_bind, ht, Option.bind_some, hd])]; simp only [bnd_some, fdP, hd]; rfl
theorem B_field {t : TypeId} {x : Operand} {f : Nat} : A C ρ (.field t x f) ds h k = bnd (C.T t) fun ti => bnd (fdP ti f) fun q => bnd (opd ρ x) fun p => bnd (fldA q.1 q.2.1 q.2.2 p) fun v => k v ds h := by
  cases ht : C.T t with
  | none => exact none_A (by simp only [execA, Option.bind_eq_bind, ht, Option.bind_none])
  | some ti =>
    cases hd : ti.d with
    | struct fs =>
      cases hf : fs[f]? with
      | none => rw [none_A (by simp only [execA, Option.bind_eq_bind, ht, Option.bind_some, hd, hf, Option.bind_none])]; simp only [bnd_some, fdP, hd, hf]; rfl
      | some q => obtain ⟨off, size, ag⟩ := q; rw [A_field ht hd hf]; simp only [bnd_some, fdP, hd, hf]
    | _ => rw [none_A (by simp only [execA, Option.bind_eq_bind, ht, Option.bind_some, hd])]; simp only [bnd_some, fdP, hd]; rfl
theorem B_makeSlice {t : TypeId} {l c : Operand} : A C ρ (.makeSlice t l c) ds h k = bnd (C.T t) fun ti => bnd (elT C ti) fun te => bnd (opd ρ l) fun l => bnd (opd ρ c) fun c => bnd (mkA te l c h) fun x => k x.1 ds x.2 := by
  cases ht : C.T t with
  | none => exact none_A (by simp only [execA, Option.bind_eq_bind, ht, Option.bind_none])
  | some ti =>
    cases hd : ti.d with
    | slice e =>
      cases he : C.T e with
      | none => rw [none_A (by simp only [execA, Option.bind_eq_bind, ht, Option.bind_some, hd, he, Option.bind_none])]; simp only [bnd_some, elT, hd, he]; rfl
      | some te => rw [A_makeSlice ht hd he]; simp only [bnd_some, elT, hd, he]
    | _ => rw [none_A (by simp only [execA, Option.bind_eq_bind, ht, Option.bind_some, hd])]; simp only [bnd_some, elT, hd]; rfl
theorem B_indexAddr {t : TypeId} {x ix : Operand} {ti : TI} (ht : C.T t = some ti) (ha : elT C ti ≠ none) : A C ρ (.indexAddr t x ix) ds h k = bnd (elT C ti) fun te => bnd (opd ρ ix) fun i => bnd (intA i) fun i => bnd (natOf i) fun j => bnd (opd ρ x) fun x => bnd (iadA h te x j) fun v => k v ds h := by
  unfold elT at ha
  cases hd : ti.d with
  | slice e =>
    rw [hd] at ha
    cases he : C.T e with
    | none => exact absurd he ha
    | some te => rw [A_indexAddr ht hd he]; simp only [bnd_some, elT, hd, he]
  | _ => rw [hd] at ha; exact absurd rfl ha
theorem B_len {x : Operand} {t : TypeId} : A C ρ (.call ⟨.builtin .len, #[x], #[t]⟩) ds h k = bnd (C.T t) fun ti => bnd (opd ρ x) fun x => bnd (lenB ti.d h x) fun v => k v ds h := by
  cases ht : C.T t with
  | some ti => rw [A_len ht]; rfl
  | none =>
    refine none_A ?_
    simp only [execA, Option.bind_eq_bind, opds, List.mapM_cons, List.mapM_nil, Option.bind_assoc, Option.pure_def, Option.bind_some]
    cases opd ρ x with
    | none => rfl
    | some v => simp only [Option.bind_some, builtinA, List.getElem?_toArray, List.getElem?_cons_zero, ht, Option.bind_none]
theorem B_append {s x : Operand} {t u : TypeId} {ti te tx : TI} (ht : C.T t = some ti) (hu : C.T u = some tx) (he : elT C ti = some te) (hx : isIntD tx.d = false) :
    A C ρ (.call ⟨.builtin .append, #[s, x], #[t, u]⟩) ds h k = bnd (opd ρ s) fun s => bnd (opd ρ x) fun x => bnd (appA te s x h) fun y => k y.1 ds y.2 := by
  unfold elT at he
  cases hd : ti.d with
  | slice e => rw [hd] at he; exact A_append ht hd he hu hx
  | _ => rw [hd] at he; cases he
/-- What is known of an append's types. -/
def apT (C : Cfg) (t u : TypeId) : Option TI := (C.T t).bind fun ti => (C.T u).bind fun tx => (elT C ti).bind fun te => if isIntD tx.d then none else some te
theorem C_append {s x : Operand} {t u : TypeId} {te : TI} (h0 : apT C t u = some te) : A C ρ (.call ⟨.builtin .append, #[s, x], #[t, u]⟩) ds h k = bnd (opd ρ s) fun s => bnd (opd ρ x) fun x => bnd (appA te s x h) fun y => k y.1 ds y.2 := by
  simp only [apT, Option.bind_eq_some_iff] at h0
  obtain ⟨ti, ht, tx, hu, te', he, h0⟩ := h0
  split at h0
  · cases h0
  · rename_i hx
    cases h0
    exact B_append ht hu he (by simpa using hx)
theorem C_indexAddr {t : TypeId} {x ix : Operand} {te : TI} (h0 : (C.T t).bind (elT C) = some te) : A C ρ (.indexAddr t x ix) ds h k = bnd (opd ρ ix) fun i => bnd (intA i) fun i => bnd (natOf i) fun j => bnd (opd ρ x) fun x => bnd (iadA h te x j) fun v => k v ds h := by
  simp only [Option.bind_eq_some_iff] at h0
  obtain ⟨ti, ht, he⟩ := h0
  rw [B_indexAddr ht (by rw [he]; simp), he]; rfl

/-- What an effect gives. -/
noncomputable def effK (C : Cfg) (e : Option Eff) (ds : List D) (h : H) (k : AV → List D → H → Option α) : Option α := e.bind fun x => match x with
    | .val v h => k v ds h
    | .call f args => (cl C f args h).bind fun y => match y with
      | (.ret v, h) => k v ds h
      | (.panic _, _) => none
    | .panic _ => none
    | .defer f args => k undefA (.call f args :: ds) h
    | .recover => k .nili ds h
/-- A call of a value. -/
noncomputable def callV (C : Cfg) (v : AV) (args : List AV) (ds : List D) (h : H) (k : AV → List D → H → Option α) : Option α := effK C (match v with
  | .fn f first cap => callA C f (first ++ args ++ cap) h
  | .yld id => some (.call (.round id) args)
  | _ => none) ds h k
noncomputable def callM (C : Cfg) (name : String) (v : AV) (args : List AV) (ds : List D) (h : H) (k : AV → List D → H → Option α) : Option α := effK C (match v with
  | .ifc t x => (methodOf C.P t name).bind fun f => callA C f (x :: args) h
  | _ => none) ds h k
@[congr] theorem callV_congr {v v' : AV} {args args' : List AV} {h' : H} (h1 : v = v') (h2 : args = args') (h3 : h = h') : callV C v args ds h k = callV C v' args' ds h' k := by rw [h1, h2, h3]
@[congr] theorem callM_congr {name : String} {v v' : AV} {args args' : List AV} {h' : H} (h1 : v = v') (h2 : args = args') (h3 : h = h') : callM C name v args ds h k = callM C name v' args' ds h' k := by rw [h1, h2, h3]
@[congr] theorem callF_congr {f : FuncId} {args args' : List AV} {h' : H} (h2 : args = args') (h3 : h = h') : callF C f args ds h k = callF C f args' ds h' k := by rw [h2, h3]
theorem callV_fn {f : FuncId} {first cap args : List AV} (hx : C.ext f = none) : callV C (.fn f first cap) args ds h k = callF C f (first ++ args ++ cap) ds h k := by
  unfold callV effK callF callA; simp only [hx]; rfl
theorem callM_ifc {name : String} {t : TypeId} {x : AV} {f : FuncId} {args : List AV} (hm : methodOf C.P t name = some f) (hx : C.ext f = none) : callM C name (.ifc t x) args ds h k = callF C f (x :: args) ds h k := by
  unfold callM effK callF callA; simp only [hm, Option.bind_some, hx]
theorem B_call_val {t : Tmp} {args : Array Operand} {ts : Array TypeId} : A C ρ (.call ⟨.value (.tmp t), args, ts⟩) ds h k = bnd (opds ρ args.toList) fun args => bnd (lk ρ t) fun v => callV C v args ds h k := by
  unfold A bnd lk callV effK
  simp only [execA, Option.bind_eq_bind, Option.bind_assoc, opd]
  congr 1
theorem B_invoke {t : Tmp} {name : String} {args : Array Operand} {ts : Array TypeId} : A C ρ (.call ⟨.invoke (.tmp t) name, args, ts⟩) ds h k = bnd (opds ρ args.toList) fun args => bnd (lk ρ t) fun v => callM C name v args ds h k := by
  unfold A bnd lk callM effK
  simp only [execA, Option.bind_eq_bind, Option.bind_assoc, opd]
  congr 1
theorem B_iface {t : TypeId} {x : Operand} {ti : TI} (ht : C.T t = some ti) : A C ρ (.makeInterface t x) ds h k = match ti.d with | .iface => none | _ => bnd (opd ρ x) fun v => k (.ifc t v) ds h := by
  cases hd : ti.d with
  | iface => exact none_A (by simp only [execA, Option.bind_eq_bind, ht, Option.bind_some, hd])
  | _ => exact A_iface ht (by rw [hd]; simp)
theorem C_iface {t : TypeId} {x : Operand} (h0 : (C.T t).map (fun ti => match ti.d with | .iface => true | _ => false) = some false) : A C ρ (.makeInterface t x) ds h k = bnd (opd ρ x) fun v => k (.ifc t v) ds h := by
  simp only [Option.map_eq_some_iff] at h0
  obtain ⟨ti, ht, hd⟩ := h0
  exact A_iface ht (fun e => by rw [e] at hd; cases hd)

end
end Go.Ai
