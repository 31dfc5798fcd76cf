import Derived.Orders
set_option linter.unusedSimpArgs false
set_option linter.unusedVariables false
/- An interpreter for the model's own code over an abstract heap: ids for addresses, no tape, no capacities, one order per region. -/
namespace Go.Ai

/-- Abstract values. 'ptr id i k': row i of block id, cell k in it. 'iptr', 'imm', 'imap': frozen data, as pure values. -/
inductive AV where
  | bool (b : Bool)
  | int (k : IntKind) (n : Int)
  | str (s : ByteArray)
  | ptr (id i k : Nat)
  | iptr (rows : List (List AV)) (i k : Nat)
  | nilp
  | sl (id i n : Nat)
  | imm (rows : List (List AV))
  | nils
  | zs
  | map (id : Nat)
  | imap (es : List (AV × AV))
  | nilm
  | fn (f : FuncId) (first captured : List AV)
  | yld (id : Nat)
  | nilf
  | ifc (t : TypeId) (v : AV)
  | nili
  | agg (l : List AV)
  | tup (l : List AV)
  deriving Inhabited

abbrev Row := List AV

mutual
def AV.beq (x y : AV) : Bool :=
  match x with
  | .bool a => (match y with | .bool b => a == b | _ => false)
  | .int j a => (match y with | .int k b => decide (j = k) && decide (a = b) | _ => false)
  | .str a => (match y with | .str b => decide (a = b) | _ => false)
  | .ptr a b c => (match y with | .ptr a' b' c' => a == a' && b == b' && c == c' | _ => false)
  | .iptr r b c => (match y with | .iptr r' b' c' => b == b' && c == c' && beqRows r r' | _ => false)
  | .nilp => (match y with | .nilp => true | _ => false)
  | .sl a b c => (match y with | .sl a' b' c' => a == a' && b == b' && c == c' | _ => false)
  | .imm r => (match y with | .imm r' => beqRows r r' | _ => false)
  | .nils => (match y with | .nils => true | _ => false)
  | .zs => (match y with | .zs => true | _ => false)
  | .map a => (match y with | .map b => a == b | _ => false)
  | .imap e => (match y with | .imap e' => beqMap e e' | _ => false)
  | .nilm => (match y with | .nilm => true | _ => false)
  | .fn f l m => (match y with | .fn g l' m' => f == g && beqRow l l' && beqRow m m' | _ => false)
  | .yld a => (match y with | .yld b => a == b | _ => false)
  | .nilf => (match y with | .nilf => true | _ => false)
  | .ifc t v => (match y with | .ifc t' v' => t == t' && v.beq v' | _ => false)
  | .nili => (match y with | .nili => true | _ => false)
  | .agg l => (match y with | .agg l' => beqRow l l' | _ => false)
  | .tup l => (match y with | .tup l' => beqRow l l' | _ => false)
  termination_by structural x
def beqRow (x y : List AV) : Bool :=
  match x with
  | [] => (match y with | [] => true | _ => false)
  | a :: l => (match y with | b :: m => a.beq b && beqRow l m | _ => false)
  termination_by structural x
def beqRows (x y : List (List AV)) : Bool :=
  match x with
  | [] => (match y with | [] => true | _ => false)
  | a :: l => (match y with | b :: m => beqRow a b && beqRows l m | _ => false)
  termination_by structural x
def beqPair (x y : AV × AV) : Bool :=
  match x with
  | (a, u) => (match y with | (b, v) => a.beq b && u.beq v)
  termination_by structural x
def beqMap (x y : List (AV × AV)) : Bool :=
  match x with
  | [] => (match y with | [] => true | _ => false)
  | a :: l => (match y with | b :: m => beqPair a b && beqMap l m | _ => false)
  termination_by structural x
end

mutual
theorem AV.beq_eq : ∀ (a b : AV), a.beq b = true → a = b := by
  intro a b h
  cases a <;> cases b <;> simp [AV.beq] at h <;> try (first | rfl | (subst h; rfl))
  case int.int => obtain ⟨rfl, rfl⟩ := h; rfl
  case ptr.ptr => obtain ⟨⟨rfl, rfl⟩, rfl⟩ := h; rfl
  case iptr.iptr => obtain ⟨⟨rfl, rfl⟩, h⟩ := h; rw [beqRows_eq _ _ h]
  case sl.sl => obtain ⟨⟨rfl, rfl⟩, rfl⟩ := h; rfl
  case imm.imm => rw [beqRows_eq _ _ h]
  case imap.imap => rw [beqMap_eq _ _ h]
  case fn.fn => obtain ⟨⟨rfl, h⟩, h'⟩ := h; rw [beqRow_eq _ _ h, beqRow_eq _ _ h']
  case ifc.ifc => obtain ⟨rfl, h⟩ := h; rw [AV.beq_eq _ _ h]
  case agg.agg => rw [beqRow_eq _ _ h]
  case tup.tup => rw [beqRow_eq _ _ h]
theorem beqRow_eq : ∀ (a b : List AV), beqRow a b = true → a = b
  | [], [], _ => rfl
  | a :: l, b :: m, h => by simp [beqRow] at h; rw [AV.beq_eq _ _ h.1, beqRow_eq _ _ h.2]
  | [], _ :: _, h => by simp [beqRow] at h
  | _ :: _, [], h => by simp [beqRow] at h
theorem beqRows_eq : ∀ (a b : List (List AV)), beqRows a b = true → a = b
  | [], [], _ => rfl
  | a :: l, b :: m, h => by simp [beqRows] at h; rw [beqRow_eq _ _ h.1, beqRows_eq _ _ h.2]
  | [], _ :: _, h => by simp [beqRows] at h
  | _ :: _, [], h => by simp [beqRows] at h
theorem beqPair_eq : ∀ (a b : AV × AV), beqPair a b = true → a = b
  | (a, x), (b, y), h => by simp [beqPair] at h; rw [AV.beq_eq _ _ h.1, AV.beq_eq _ _ h.2]
theorem beqMap_eq : ∀ (a b : List (AV × AV)), beqMap a b = true → a = b
  | [], [], _ => rfl
  | a :: l, b :: m, h => by simp [beqMap] at h; rw [beqPair_eq _ _ h.1, beqMap_eq _ _ h.2]
  | [], _ :: _, h => by simp [beqMap] at h
  | _ :: _, [], h => by simp [beqMap] at h
end

mutual
theorem AV.beq_refl : ∀ a : AV, a.beq a = true
  | .iptr r _ _ => by simp [AV.beq, beqRows_refl r]
  | .imm r => by simp [AV.beq, beqRows_refl r]
  | .imap e => by simp [AV.beq, beqMap_refl e]
  | .fn _ l m => by simp [AV.beq, beqRow_refl l, beqRow_refl m]
  | .ifc _ v => by simp [AV.beq, AV.beq_refl v]
  | .agg l => by simp [AV.beq, beqRow_refl l]
  | .tup l => by simp [AV.beq, beqRow_refl l]
  | .bool _ | .int .. | .str _ | .ptr .. | .sl .. | .map _ | .yld _ => by simp [AV.beq]
  | .nilp | .nils | .zs | .nilm | .nilf | .nili => by simp [AV.beq]
theorem beqRow_refl : ∀ a : List AV, beqRow a a = true
  | [] => by simp [beqRow]
  | a :: l => by simp [beqRow, AV.beq_refl a, beqRow_refl l]
theorem beqRows_refl : ∀ a : List (List AV), beqRows a a = true
  | [] => by simp [beqRows]
  | a :: l => by simp [beqRows, beqRow_refl a, beqRows_refl l]
theorem beqPair_refl : ∀ a : AV × AV, beqPair a a = true
  | (a, x) => by simp [beqPair, AV.beq_refl a, AV.beq_refl x]
theorem beqMap_refl : ∀ a : List (AV × AV), beqMap a a = true
  | [] => by simp [beqMap]
  | a :: l => by simp [beqMap, beqPair_refl a, beqMap_refl l]
end

def AV.cells : AV → List AV
  | .agg l => l
  | v => [v]

/-! ### The heap -/
inductive Obj where
  | blk (w : Nat) (rows : List Row)
  | map (es : List (AV × AV))
  | siter (s : ByteArray) (pos : Nat)
  | loop (ready : Bool) (fn : FuncId) (ρ : List AV) (params : List Tmp) (assign body : Code)
  | dfr
  deriving Inhabited

inductive Tr where
  | e
  | n (v : Option Obj) (l r : Tr)

def Tr.get : Tr → Nat → Option Obj
  | .e, _ => none
  | .n v l r, i => if i = 0 then v else if i % 2 = 1 then l.get (i / 2) else r.get (i / 2 - 1)

def Tr.split : Tr → Option Obj × Tr × Tr
  | .e => (none, .e, .e)
  | .n v l r => (v, l, r)

def Tr.set (o : Option Obj) : Nat → Tr → Nat → Tr
  | 0, t, _ => t
  | f + 1, t, i =>
    let (v, l, r) := t.split
    if i = 0 then .n o l r else if i % 2 = 1 then .n v (l.set o f (i / 2)) r else .n v l (r.set o f (i / 2 - 1))

structure H where
  t : Tr
  next : Nat

def H.get (h : H) (i : Nat) : Option Obj := h.t.get i
def H.set (h : H) (i : Nat) (o : Obj) : H := { h with t := h.t.set (some o) (i + 1) i }
def H.del (h : H) (i : Nat) : H := { h with t := h.t.set none (i + 1) i }
def H.new (h : H) (o : Obj) : H := { t := h.t.set (some o) (h.next + 1) h.next, next := h.next + 1 }
def H.empty : H := ⟨.e, 0⟩

def H.rows (h : H) (i : Nat) : Option (List Row) :=
  match h.get i with
  | some (.blk _ rs) => some rs
  | _ => none

/-- The cells of a row. -/
def H.width (h : H) (i : Nat) : Nat :=
  match h.get i with
  | some (.blk w _) => w
  | _ => 0

/-! ### Types -/
inductive TD where
  | int (k : IntKind) | bool | str | ptr | slice (elem : TypeId) | arr (n : Nat) (elem : TypeId) | map (k e : TypeId)
  | struct (fs : List (Nat × Nat × Bool)) | func | iface | other
  deriving Inhabited, DecidableEq

/-- A cell of a struct whose parts are held against each other one by one. -/
inductive P3 where
  | int | bool | str
  deriving DecidableEq

structure TI where
  agg : Bool
  size : Nat
  bytes : Nat
  zero : List AV
  d : TD
  flat : Option (List P3)
  deriving Inhabited

def undefA : AV := .tup []

mutual
def ofVal : Value → Option AV
  | .bool b => some (.bool b)
  | .int k n => some (.int k n)
  | .string s => some (.str s)
  | .pointer none => some .nilp
  | .slice none 0 0 => some .nils
  | .map none => some .nilm
  | .nilFunc => some .nilf
  | .func (.func f) ⟨[]⟩ ⟨[]⟩ => some (.fn f [] [])
  | .nilIface => some .nili
  | .agg ⟨l⟩ => (ofVals l).map .agg
  | .tuple ⟨l⟩ => (ofVals l).map .tup
  | _ => none
def ofVals : List Value → Option (List AV)
  | [] => some []
  | v :: l => (ofVal v).bind fun a => (ofVals l).map (a :: ·)
end

def isAggD : TypeDesc → Bool
  | .struct _ | .array _ _ => true
  | _ => false

def fieldOf (P : Program) (f : Field) : Option (Nat × Nat × Bool) :=
  (P.info? f.type).bind fun j => (P.underlying f.type).map fun du => (f.offset, j.size, isAggD du)

def fieldsOf (P : Program) : List Field → Option (List (Nat × Nat × Bool))
  | [] => some []
  | f :: l => (fieldOf P f).bind fun x => (fieldsOf P l).map (x :: ·)

def tdOf (P : Program) : TypeDesc → Option TD
  | .int k => some (.int k)
  | .bool => some .bool
  | .string => some .str
  | .pointer _ => some .ptr
  | .slice e => some (.slice e)
  | .array n e => some (.arr n e)
  | .map k e => some (.map k e)
  | .func .. => some .func
  | .interface _ => some .iface
  | .struct fs => (fieldsOf P fs.toList).map .struct
  | _ => some .other

mutual
def flatTy (P : Program) : Nat → TypeId → Option (List P3)
  | 0, _ => none
  | n + 1, t => match P.underlying t with
    | some (.int _) => some [.int]
    | some .bool => some [.bool]
    | some .string => some [.str]
    | some (.struct fs) => if P.stoodInHeld t then none else flatFs P n fs.toList 0
    | _ => none
def flatFs (P : Program) : Nat → List Field → Nat → Option (List P3)
  | 0, _, _ => none
  | _, [], _ => some []
  | n + 1, f :: fs, off =>
    if f.name = "_" ∨ f.offset ≠ off then none else
    (flatTy P n f.type).bind fun a => (P.info? f.type).bind fun j =>
      if j.size = a.length ∧ 0 < a.length then (flatFs P n fs (off + a.length)).map (a ++ ·) else none
end

def isAggV : Value → Bool
  | .agg _ => true
  | _ => false

/-- What a type is, off the program's table. -/
def tiOf (P : Program) (t : TypeId) : Option TI :=
  (P.info? t).bind fun i => (P.underlying t).bind fun d => i.zero.bind fun z => (ofVals z.cells.toList).bind fun zs => (tdOf P d).bind fun td => if zs.length ≠ i.size ∨ isAggD d ≠ isAggV z then none else some
    { agg := isAggD d, size := i.size, bytes := i.bytes, zero := zs, d := td, flat := if P.eqGuardType P.depth t then none else flatTy P 40 t }

/-! ### Reading and writing -/
def rowOf (h : H) : AV → Option (List AV × Nat)
  | .ptr id i k => (h.rows id).bind fun rs => (rs[i]?).map (·, k)
  | .iptr rs i k => (rs[i]?).map (·, k)
  | _ => none

def ldA (h : H) (agg : Bool) (size : Nat) (p : AV) : Option AV :=
  (rowOf h p).bind fun (row, k) =>
    if agg then (if k + size ≤ row.length then some (.agg ((row.drop k).take size)) else none)
    else row[k]?

def putAt : List AV → Nat → List AV → List AV
  | row, _, [] => row
  | row, k, c :: cs => putAt (row.set k c) (k + 1) cs

def oneA : AV → Bool
  | .agg _ | .tup _ => false
  | _ => true

def stA (h : H) (p : AV) (cells : List AV) : Option H :=
  match p with
  | .ptr id i k =>
    (h.rows id).bind fun rs => (rs[i]?).bind fun row =>
      if k + cells.length ≤ row.length ∧ cells.all oneA = true then some (h.set id (.blk (h.width id) (rs.set i (putAt row k cells)))) else none
  | _ => none

/-- The rows of a slice. -/
def slRows (h : H) : AV → Option (List Row)
  | .sl id i n => (h.rows id).bind fun rs => if i + n ≤ rs.length then some ((rs.drop i).take n) else none
  | .imm rs => some rs
  | .nils => some []
  | .zs => some []
  | _ => none

def slLen : AV → Option Nat
  | .sl _ _ n => some n
  | .imm rs => some rs.length
  | .nils => some 0
  | .zs => some 0
  | _ => none

/-- A row of a slice. -/
def slRow (h : H) (x : AV) (j : Nat) : Option Row :=
  match x with
  | .sl id i n => if j < n then (h.rows id).bind fun rs => rs[i + j]? else none
  | .imm rs => rs[j]?
  | _ => none

/-- Are rows of this width? (All of one slice are of one.) -/
def wide (size : Nat) : List Row → Bool
  | [] => true
  | r :: _ => r.length == size

/-! ### Equality of values without addresses -/
def eqA (x y : AV) : Option Bool :=
  match x with
  | .bool a => (match y with | .bool b => some (a == b) | _ => none)
  | .int j a => (match y with | .int k b => if j = k then some (a == b) else none | _ => none)
  | .str a => (match y with | .str b => some (a.toList == b.toList) | _ => none)
  | .nilp => (match y with | .nilp => some true | .ptr .. | .iptr .. => some false | _ => none)
  | .ptr .. | .iptr .. => (match y with | .nilp => some false | _ => none)
  | .nils => (match y with | .nils => some true | .sl .. | .imm _ => some false | _ => none)
  | .sl .. | .imm _ => (match y with | .nils => some false | _ => none)
  | .nilm => (match y with | .nilm => some true | .map _ | .imap _ => some false | _ => none)
  | .map _ | .imap _ => (match y with | .nilm => some false | _ => none)
  | .nilf => (match y with | .nilf => some true | .fn .. => some false | _ => none)
  | .fn .. => (match y with | .nilf => some false | _ => none)
  | .nili => (match y with | .nili => some true | .ifc .. => some false | _ => none)
  | .ifc .. => (match y with | .nili => some false | _ => none)
  | _ => none

/-- Two structs, part by part. -/
def eqFlat : List P3 → List AV → List AV → Option Bool
  | [], [], [] => some true
  | .int :: ps, .int j a :: l, .int k b :: m => if j = k then (if a = b then eqFlat ps l m else some false) else none
  | .bool :: ps, .bool a :: l, .bool b :: m => if a = b then eqFlat ps l m else some false
  | .str :: ps, .str a :: l, .str b :: m => if a.toList = b.toList then eqFlat ps l m else some false
  | _, _, _ => none

/-- Are cells of these kinds? -/
def fitsFlat : List P3 → List AV → Bool
  | [], [] => true
  | .int :: ps, .int _ _ :: l => fitsFlat ps l
  | .bool :: ps, .bool _ :: l => fitsFlat ps l
  | .str :: ps, .str _ :: l => fitsFlat ps l
  | _, _ => false

/-- May a value be held against another one at this type? -/
def eqTd : TD → AV → Bool
  | .bool, .bool _ | .int _, .int .. | .str, .str _ => true
  | .ptr, .nilp | .ptr, .ptr .. | .ptr, .iptr .. => true
  | .slice _, .nils | .slice _, .sl .. | .slice _, .imm _ => true
  | .map .., .nilm | .map .., .map _ | .map .., .imap _ => true
  | .func, .nilf | .func, .fn .. => true
  | .iface, .nili | .iface, .ifc .. => true
  | _, _ => false

/-- Two values of a type. -/
def eqT (ti : Option TI) (x y : AV) : Option Bool :=
  match x, y with
  | .agg a, .agg b => ti.bind fun ti => ti.flat.bind fun ps => if ti.agg && fitsFlat ps a && fitsFlat ps b then eqFlat ps a b else none
  | x, y => ti.bind fun ti => if eqTd ti.d x && eqTd ti.d y then eqA x y else none

def binInt (op : BinOp) (k : IntKind) (a b : Int) : Option AV :=
  match op with
  | .add => some (.int k (k.wrap (a + b)))
  | .sub => some (.int k (k.wrap (a - b)))
  | .mul => some (.int k (k.wrap (a * b)))
  | .quo => if b = 0 then none else some (.int k (k.wrap (a.tdiv b)))
  | .rem => if b = 0 then none else some (.int k (a.tmod b))
  | .and => some (.int k (k.wrap (BitVec.ofInt k.bits a &&& BitVec.ofInt k.bits b).toNat))
  | .or => some (.int k (k.wrap (BitVec.ofInt k.bits a ||| BitVec.ofInt k.bits b).toNat))
  | .xor => some (.int k (k.wrap (BitVec.ofInt k.bits a ^^^ BitVec.ofInt k.bits b).toNat))
  | .andNot => some (.int k (k.wrap (BitVec.ofInt k.bits a &&& ~~~(BitVec.ofInt k.bits b)).toNat))
  | .eql => some (.bool (a == b))
  | .neq => some (.bool (a != b))
  | .lss => some (.bool (decide (a < b)))
  | .leq => some (.bool (decide (a ≤ b)))
  | .gtr => some (.bool (decide (a > b)))
  | .geq => some (.bool (decide (a ≥ b)))
  | _ => none

def binStr (op : BinOp) (x y : ByteArray) : Option AV :=
  match op with
  | .add => if x.size + y.size ≤ 2 ^ 62 then some (.str (x ++ y)) else none
  | .eql => some (.bool (x.toList == y.toList))
  | .neq => some (.bool !(x.toList == y.toList))
  | .lss => some (.bool (Op.bytesLess x.toList y.toList))
  | .leq => some (.bool (Op.bytesLess x.toList y.toList || x.toList == y.toList))
  | .gtr => some (.bool !(Op.bytesLess x.toList y.toList || x.toList == y.toList))
  | .geq => some (.bool !(Op.bytesLess x.toList y.toList))
  | _ => none

def binII (op : BinOp) (k : IntKind) (a : Int) (k' : IntKind) (b : Int) : Option AV :=
  match op with
  | .shl => if b < 0 then none else some (.int k (k.wrap (a * 2 ^ (min b.toNat k.bits))))
  | .shr => if b < 0 then none else some (.int k (a.fdiv (2 ^ (min b.toNat k.bits))))
  | op => if k = k' then binInt op k a b else none

def binE (op : BinOp) (ti : Option TI) (x y : AV) : Option AV :=
  match op with
  | .eql => (eqT ti x y).map .bool
  | .neq => (eqT ti x y).map fun b => .bool !b
  | _ => none

def isInt : AV → Bool
  | .int .. => true
  | _ => false

def isStr : AV → Bool
  | .str _ => true
  | _ => false

def binA (op : BinOp) (ti : Option TI) (x y : AV) : Option AV :=
  match x with
  | .int k a => (match y with | .int k' b => binII op k a k' b | y => binE op ti x y)
  | .str a => (match y with | .str b => binStr op a b | y => binE op ti x y)
  | x => binE op ti x y

def isConstO : Operand → Bool
  | .const _ => true
  | _ => false

def isNili : AV → Bool
  | .nili => true
  | _ => false

def unA (op : UnOp) (x : AV) : Option AV :=
  match op, x with
  | .not, .bool b => some (.bool !b)
  | .neg, .int k n => some (.int k (k.wrap (0 - n)))
  | .xor, .int k n => binInt .xor k (if k.signed then -1 else k.max) n
  | _, _ => none

/-! ### Operations -/
inductive Xt where
  | countString | indexByteString | mapsClone
  deriving DecidableEq

/-- What the interpreter is told of a program. -/
structure RI where
  order : List Nat
  wins : List (Nat × Nat × Nat)

structure Cfg where
  P : Program
  T : TypeId → Option TI
  ri : FuncId → Nat → Option RI
  ext : FuncId → Option Xt
  sp : FuncId → Option (List AV → H → Option (AV × H))
  fz : FuncId → Bool

/-- What is called: a function; a round of a loop over a function. -/
inductive Callee where
  | fn (f : FuncId)
  | round (id : Nat)
  | dfn (f : FuncId) (v : AV)

inductive Eff where
  | val (v : AV) (h : H)
  | call (f : Callee) (args : List AV)
  | panic (v : AV)
  | defer (f : FuncId) (args : List AV)
  | recover

def opd (ρ : List AV) : Operand → Option AV
  | .tmp t => ρ[t]?
  | .const v => ofVal v
  | .func f => some (.fn f [] [])
  | .global _ => none

def opds (ρ : List AV) (l : List Operand) : Option (List AV) := l.mapM (opd ρ)

def fillA (place : Nat → Option (Nat × Nat)) (cells : List AV) : List (Nat × AV) → Option (List AV)
  | [] => some cells
  | (i, v) :: rest =>
    (place i).bind fun (off, size) =>
      if v.cells.length = size ∧ off + size ≤ cells.length then fillA place (putAt cells off v.cells) rest else none

def parts (ρ : List AV) (ps : List (Nat × Operand)) : Option (List (Nat × AV)) :=
  ps.mapM fun (i, o) => (opd ρ o).map (i, ·)

def setRows (rows : List Row) (size : Nat) : List (Nat × AV) → Option (List Row)
  | [] => some rows
  | (i, v) :: rest => if v.cells.length = size ∧ i < rows.length then setRows (rows.set i v.cells) size rest else none

def natOf (n : Int) : Option Nat := if 0 ≤ n then some n.toNat else none

def intA : AV → Option Int
  | .int _ n => some n
  | _ => none

def bytesRows (s : ByteArray) : List Row := s.data.toList.map fun b => [.int .u8 b.toNat]

def rowsBytes : List Row → Option (List UInt8)
  | [] => some []
  | [.int .u8 n] :: l => (rowsBytes l).map (UInt8.ofNat n.toNat :: ·)
  | _ => none

/-- What is appended: a slice's rows, or a text's bytes. -/
def newRows (h : H) : AV → Option (List Row)
  | .str bs => some (bytesRows bs)
  | x => slRows h x

def isIntD : TD → Bool
  | .int _ => true
  | _ => false

/-- append: rows behind those of a slice; the old block isn't there any more. -/
def appendA (h : H) (size : Nat) (s : AV) (new : List Row) : Option (AV × H) :=
  match s with
  | .nils => if new.isEmpty then some (.nils, h) else some (.sl h.next 0 new.length, h.new (.blk size new))
  | .zs => if new.isEmpty then some (.zs, h) else some (.sl h.next 0 new.length, h.new (.blk size new))
  | .sl id i n =>
    if new.isEmpty then some (s, h) else
    (slRows h s).bind fun old => if h.width id = size ∧ (new.all fun r => r.all oneA) = true then let h' := h.del id; some (.sl h'.next 0 (n + new.length), h'.new (.blk size (old ++ new))) else none
  | _ => none

def findKey (ti : Option TI) (k : AV) : List (AV × AV) → Nat → Option (Option Nat)
  | [], _ => some none
  | e :: es, i => (eqT ti k e.1).bind fun b => if b then some (some i) else findKey ti k es (i + 1)

/-- A key that may be one: a whole number, or a struct of such; its type. -/
def keyOk (ti : Option TI) (k : AV) : Bool :=
  match k with
  | .int _ _ => match ti with
    | some ti => match ti.d with | .int _ => true | _ => false
    | none => false
  | .agg l => match ti with
    | some ti => match ti.flat with | some ps => ti.agg && fitsFlat ps l | none => false
    | none => false
  | _ => false

def keyTy (C' : TypeId → Option TI) (t : TypeId) : Option TI :=
  (C' t).bind fun ti => match ti.d with
    | .map k _ => C' k
    | _ => none

/-- What a look-up gives. -/
def lookRes (te : TI) (ok : Bool) (es : List (AV × AV)) (x : Option Nat) : AV :=
  let y := match x with
    | some i => ((es[i]?).map (·.2)).getD undefA
    | none => if te.agg then .agg te.zero else te.zero.headD undefA
  if ok then .tup [y, .bool x.isSome] else y

def mapOf (h : H) : AV → Option (List (AV × AV))
  | .map id => match h.get id with | some (.map es) => some es | _ => none
  | .imap es => some es
  | .nilm => some []
  | _ => none

def minA (isMax : Bool) : AV → AV → Option AV
  | .int k x, .int j y => if k = j then some (.int k (if isMax then (if y > x then y else x) else (if y < x then y else x))) else none
  | _, _ => none

/-- clear, on a slice. -/
def clearA (h : H) (te : TI) (x : AV) : Option Eff :=
  (slLen x).bind fun n =>
    if n = 0 then some (.val (.tup []) h) else
    match x with
    | .sl id i n => (h.rows id).bind fun rs =>
      if i + n ≤ rs.length ∧ h.width id = te.size ∧ te.zero.all oneA = true then some (.val (.tup []) (h.set id (.blk te.size (rs.take i ++ List.replicate n te.zero ++ rs.drop (i + n))))) else none
    | _ => none

def builtinA (C : Cfg) (b : Builtin) (argTypes : List TypeId) (args : List AV) (h : H) : Option Eff :=
  match b, args with
  | .append, [s, x] => do
    let ti ← C.T (← argTypes[0]?)
    let .slice e := ti.d | none
    let te ← C.T e
    let tx ← C.T (← argTypes[1]?)
    if isIntD tx.d then none else
    let new ← newRows h x
    let old ← slRows h s
    if wide te.size new && decide (0 < te.bytes) && decide (0 < te.size) && decide ((old.length + new.length) * te.bytes ≤ 2 ^ 40) then do
      let (v, h) ← appendA h te.size s new
      pure (.val v h)
    else none
  | .len, [x] => (argTypes[0]?).bind fun t => (C.T t).bind fun ti => match ti.d with
    | .str => (match x with | .str s => some (.val (.int .i64 s.size) h) | _ => none)
    | .slice _ => (slLen x).map fun (n : Nat) => .val (.int .i64 n) h
    | .map .. => (mapOf h x).map fun es => .val (.int .i64 es.length) h
    | .arr n _ => some (.val (.int .i64 n) h)
    | _ => none
  | .delete, [.map id, k] => (argTypes[0]?).bind fun t => (C.T t).bind fun ti => match ti.d with
    | .map kt _ => (mapOf h (.map id)).bind fun es =>
      if keyOk (C.T kt) k then (findKey (C.T kt) k es 0).map fun r => .val (.tup []) (match r with | some i => h.set id (.map (es.eraseIdx i)) | none => h)
      else none
    | _ => none
  | .min, x :: l => (l.foldlM (minA false) x).map (.val · h)
  | .max, x :: l => (l.foldlM (minA true) x).map (.val · h)
  | .recover, [] => some .recover
  | .clear, [x] => (argTypes[0]?).bind fun t => (C.T t).bind fun ti => match ti.d with
    | .slice e => (C.T e).bind fun te => clearA h te x
    | _ => none
  | _, _ => none

def methodOf (P : Program) (t : TypeId) (name : String) : Option FuncId :=
  (P.info? t).bind fun i => (i.methods.find? (·.name == name)).bind fun m =>
    if m.path.isEmpty then (match m.func with
      | some (f, true) => match P.underlying t with | some (.pointer _) => some f | _ => none
      | some (f, false) => match P.underlying t with | some (.pointer _) => none | some _ => some f | none => none
      | none => none) else none

/-- A spot map's entry as a kid's row; of the nodes below one alone, if one is told. -/
def kidRow (below : Option Int) : AV × AV → Option (Option Row)
  | (.int .i64 n, .agg [.bool _, .int .i64 t, .str s]) =>
    some (if below = none ∨ below = some t then some [.int .i64 t, .str s, .int .i64 n] else none)
  | _ => none

def kidRows (below : Option Int) : List (AV × AV) → Option (List Row)
  | [] => some []
  | e :: es => (kidRow below e).bind fun r => (kidRows below es).map fun l => match r with | some r => r :: l | none => l

def kidLt : Row → Row → Bool
  | [.int _ t, .str s, .int _ n], [.int _ t', .str s', .int _ n'] =>
    decide (t < t') || (t == t' && (Op.bytesLess s.toList s'.toList || (s.toList == s'.toList && decide (n < n'))))
  | _, _ => false

def kidIns (r : Row) : List Row → List Row
  | [] => [r]
  | x :: l => if kidLt r x then r :: x :: l else x :: kidIns r l

def kidSort : List Row → List Row
  | [] => []
  | r :: l => kidIns r (kidSort l)

def kidsA (h : H) (t : AV) (below : Option Int) : Option (AV × H) :=
  (rowOf h t).bind fun (row, k) => (row[k]?).bind fun m => (mapOf h m).bind fun es => (kidRows below es).map fun rs =>
    if rs.isEmpty then (.nils, h) else (.sl h.next 0 rs.length, h.new (.blk 3 (kidSort rs)))

def spKids : List AV → H → Option (AV × H)
  | [t, .int _ n], h => kidsA h t (some n)
  | _, _ => none

def spAll : List AV → H → Option (AV × H)
  | [t], h => kidsA h t none
  | _, _ => none

def callA (C : Cfg) (f : FuncId) (args : List AV) (h : H) : Option Eff :=
  match C.ext f with
  | none => some (.call (.fn f) args)
  | some .countString => match args with
    | [.str s, .int .u8 c] => some (.val (.int .i64 ((s.data.toList.filter (· == c.toNat.toUInt8)).length : Nat)) h)
    | _ => none
  | some .indexByteString => match args with
    | [.str s, .int .u8 c] => some (.val (.int .i64 (match s.data.toList.findIdx? (· == c.toNat.toUInt8) with | some i => (i : Int) | none => -1)) h)
    | _ => none
  | some .mapsClone => match args with
    | [.ifc t m] => (mapOf h m).bind fun es => match m with
      | .nilm => none
      | _ => some (.val (.ifc t (.map h.next)) (h.new (.map es)))
    | _ => none

def boundA (ρ : List AV) (d : Option Nat) : Option Operand → Option Nat
  | some l => (opd ρ l).bind fun a => (intA a).bind natOf
  | none => d

/-- A slice's third bound: as far as it goes, or none at all. -/
def maxA (ρ : List AV) (x : AV) : Option Operand → Option Nat
  | some l => (opd ρ l).bind fun a => (intA a).bind fun i => (natOf i).bind fun m => (slLen x).bind fun n => if m = 0 ∨ m = n then some m else none
  | none => some 1

def lenA : AV → Option Nat
  | .str s => some s.size
  | x => slLen x

def sliceA (C : Cfg) (h : H) (ti : TI) (x : AV) (lo hi mx : Nat) : Option AV :=
  if isStr x then
    match ti.d, x with
    | .str, .str s => if lo ≤ hi ∧ hi ≤ s.size then some (.str (s.extract lo hi)) else none
    | _, _ => none
  else
    match ti.d with
    | .slice e => (C.T e).bind fun te => (slLen x).bind fun n =>
      if lo ≤ hi ∧ hi ≤ n then (if lo = 0 ∧ hi = 0 ∧ mx = 0 then some .zs else
        if mx = 0 then none else
        if lo = 0 ∨ ((slRow h x 0).map fun r => r.length == te.size) = some true then (match x with
          | .sl id i _ => some (.sl id (i + lo) (hi - lo))
          | .imm rs => some (.imm ((rs.drop lo).take (hi - lo)))
          | .nils => some .nils
          | .zs => some .zs
          | _ => none) else none) else none
    | _ => none

def execA (C : Cfg) (ρ : List AV) (o : Oper) (h : H) : Option Eff :=
  let v (x : Option AV) : Option Eff := x.map (.val · h)
  match o.op with
  | .move x | .assign x => v (opd ρ x)
  | .pick c a b => (opd ρ c).bind fun | .bool t => v (if t then opd ρ a else opd ρ b) | _ => none
  | .alloc t => (C.T t).map fun ti => .val (.ptr h.next 0 0) (h.new (.blk ti.zero.length [ti.zero]))
  | .box _ x => (opd ρ x).map fun x => .val (.ptr h.next 0 0) (h.new (.blk x.cells.length [x.cells]))
  | .build t ps => do
    let ti ← C.T t
    let ps ← parts ρ ps.toList
    match ti.d with
    | .struct fs => v ((fillA (fun i => (fs[i]?).map fun f => (f.1, f.2.1)) ti.zero ps).map .agg)
    | .arr _ e => (C.T e).bind fun te => v ((fillA (fun i => some (i * te.size, te.size)) ti.zero ps).map .agg)
    | _ => none
  | .buildSlice t len ps => do
    let ti ← C.T t
    let .slice e := ti.d | none
    let te ← C.T e
    let ps ← parts ρ ps.toList
    if len * te.size > 2 ^ 24 then none else
    let rows ← setRows (List.replicate len te.zero) te.size ps
    pure (.val (.sl h.next 0 len) (h.new (.blk te.size rows)))
  | .load t a => do
    let ti ← C.T t
    v (ldA h ti.agg ti.size (← opd ρ a))
  | .store t a x => do
    let ti ← C.T t
    let x ← opd ρ x
    if x.cells.length = ti.size then (stA h (← opd ρ a) x.cells).map (.val undefA) else none
  | .nilCheck x => (opd ρ x).bind fun
    | .ptr id i k => some (.val (.ptr id i k) h)
    | .iptr rs i k => some (.val (.iptr rs i k) h)
    | .fn f l m => some (.val (.fn f l m) h)
    | .ifc t x => some (.val (.ifc t x) h)
    | _ => none
  | .binOp op t x y _ => do
    let a ← opd ρ x
    let b ← opd ρ y
    if isNili a && isNili b && !isConstO x && !isConstO y then none else v (binA op (C.T t) a b)
  | .unOp op _ x => do v (unA op (← opd ρ x))
  | .convert src dst x => do
    let x ← opd ρ x
    let ts ← C.T src
    let td ← C.T dst
    match ts.d, td.d, x with
    | .int _, .int k, .int _ n => v (some (.int k (k.wrap n)))
    | _, .str, .str s => v (some (.str s))
    | .str, .slice e, .str s => (C.T e).bind fun te => match te.d with
      | .int .u8 => some (.val (.sl h.next 0 s.size) (h.new (.blk 1 (bytesRows s))))
      | _ => none
    | .slice e, .str, x => (C.T e).bind fun te => match te.d with
      | .int .u8 => (slRows h x).bind fun rs => (rowsBytes rs).bind fun l => v (some (.str ⟨⟨l⟩⟩))
      | _ => none
    | _, _, _ => none
  | .makeInterface t x => do
    let ti ← C.T t
    match ti.d with
    | .iface => none
    | _ => v ((opd ρ x).map (.ifc t))
  | .makeFunc f first cap => match f with
    | .func f => do v (some (.fn f (← opds ρ first.toList) (← opds ρ cap.toList)))
    | _ => none
  | .makeMap _ none => some (.val (.map h.next) (h.new (.map [])))
  | .makeSlice t l c => do
    let ti ← C.T t
    let .slice e := ti.d | none
    let te ← C.T e
    let n ← (← intA (← opd ρ l)) |> natOf
    let m ← (← intA (← opd ρ c)) |> natOf
    if n = m ∧ n * te.bytes ≤ 2 ^ 47 ∧ n < 2 ^ 47 then some (.val (.sl h.next 0 n) (h.new (.blk te.size (List.replicate n te.zero)))) else none
  | .slice t x lo hi mx => (C.T t).bind fun ti => if (mx.isSome && hi.isNone) = true then none else (opd ρ x).bind fun a =>
    (maxA ρ a mx).bind fun m => (boundA ρ (some 0) lo).bind fun l => (boundA ρ (lenA a) hi).bind fun u => (sliceA C h ti a l u m).map (.val · h)
  | .fieldAddr t x f => do
    let ti ← C.T t
    let .struct fs := ti.d | none
    let (off, size, _) ← fs[f]?
    if size = 0 then none else
    match ← opd ρ x with
    | .ptr id i k => v (some (.ptr id i (k + off)))
    | .iptr rs i k => v (some (.iptr rs i (k + off)))
    | _ => none
  | .field t x f => do
    let ti ← C.T t
    let .struct fs := ti.d | none
    let (off, size, ag) ← fs[f]?
    match ← opd ρ x with
    | .agg l => if off + size ≤ l.length then v (if ag then some (.agg ((l.drop off).take size)) else l[off]?) else none
    | _ => none
  | .indexAddr t x ix => do
    let ti ← C.T t
    let j ← (← intA (← opd ρ ix)) |> natOf
    let x ← opd ρ x
    match ti.d with
    | .slice e => (C.T e).bind fun te => (slRow h x j).bind fun r => if r.length = te.size then (match x with
      | .sl id i _ => v (some (.ptr id (i + j) 0))
      | .imm rs => v (some (.iptr rs j 0))
      | _ => none) else none
    | .arr n e => (C.T e).bind fun te => if j < n then (match x with
      | .ptr id i k => v (some (.ptr id i (k + j * te.size)))
      | .iptr rs i k => v (some (.iptr rs i (k + j * te.size)))
      | _ => none) else none
    | _ => none
  | .index t x ix => do
    let ti ← C.T t
    let j ← (← intA (← opd ρ ix)) |> natOf
    match ti.d, ← opd ρ x with
    | .str, .str s => v ((s[j]?).map fun b => .int .u8 b.toNat)
    | .arr n e, .agg l => (C.T e).bind fun te =>
      if j < n ∧ j * te.size + te.size ≤ l.length then v (if te.agg then some (.agg ((l.drop (j * te.size)).take te.size)) else l[j * te.size]?) else none
    | _, _ => none
  | .lookup t x k ok => do
    let ti ← C.T t
    let .map _ e := ti.d | none
    let te ← C.T e
    let es ← mapOf h (← opd ρ x)
    let k ← opd ρ k
    if keyOk (keyTy C.T t) k then
    let r ← findKey (keyTy C.T t) k es 0
    v (some (lookRes te ok es r))
    else none
  | .mapUpdate t m k x | .insert t m k x => do
    let k ← opd ρ k
    if keyOk (keyTy C.T t) k then
    let x ← opd ρ x
    match ← opd ρ m with
    | .map id => do
      let es ← mapOf h (.map id)
      match ← findKey (keyTy C.T t) k es 0 with
      | some i => some (.val undefA (h.set id (.map (es.set i (k, x)))))
      | none => some (.val undefA (h.set id (.map (es ++ [(k, x)]))))
    | _ => none
    else none
  | .range t x => (C.T t).bind fun ti => match ti.d with
    | .str => (opd ρ x).bind fun
      | .str s => some (.val (.ptr h.next 0 0) (h.new (.siter s 0)))
      | _ => none
    | _ => none
  | .next it true => (opd ρ it).bind fun
    | .ptr id 0 0 => match h.get id with
      | some (.siter s pos) =>
        if pos < s.size then
          let (c, w) := Utf8.decode s pos
          some (.val (.tup [.bool true, .int .i64 pos, .int .i32 c]) (h.set id (.siter s (pos + w))))
        else v (some (.tup [.bool false]))
      | _ => none
    | _ => none
  | .typeAssert x _ t ok => do
    let ti ← C.T t
    match ti.d, ← opd ρ x with
    | .iface, _ => none
    | _, .ifc t' x => if t' = t then v (some (if ok then .tup [x, .bool true] else x)) else none
    | _, _ => none
  | .extract x i => (opd ρ x).bind fun | .tup l => v (l[i]?) | _ => none
  | .call c => do
    let args ← opds ρ c.args.toList
    match c.callee with
    | .builtin b => builtinA C b c.argTypes.toList args h
    | .invoke r name => (opd ρ r).bind fun | .ifc t x => (methodOf C.P t name).bind fun f => callA C f (x :: args) h | _ => none
    | .value f => (opd ρ f).bind fun
      | .fn f first cap => callA C f (first ++ args ++ cap) h
      | .yld id => some (.call (.round id) args)
      | _ => none
  | .defer c => do
    let args ← opds ρ c.args.toList
    match c.callee with
    | .value f => (opd ρ f).bind fun | .fn f first cap => some (.defer f (first ++ args ++ cap)) | _ => none
    | _ => none
  | .panic x => (opd ρ x).bind fun | .ifc t x => some (.panic (.ifc t x)) | _ => none
  | _ => none

/-! ### Code -/
inductive D where
  | call (f : FuncId) (args : List AV)
  | mark (id : Nat)

/-- What recover hands back here: it isn't told; nil; the value of the panic. -/
inductive RC where
  | no | nil | pan (v : AV)

structure S where
  ρ : List AV
  ds : List D
  rc : RC := .nil
  h : H

inductive Ex where
  | normal | exit (id : Nat) | ret | panic (v : AV)

inductive AR where
  | ret (v : AV)
  | panic (v : AV)

def S.put (s : S) (d : Option Tmp) (v : AV) : S :=
  match d with
  | some d => { s with ρ := s.ρ.set d v }
  | none => s

def wantedA (ρ : List AV) (ops : Array Oper) (o : Oper) : Option Bool :=
  match o.guard with
  | none => some true
  | some (j, want) => match ((ops[j]?).bind (·.dst)).bind (ρ[·]?) with
    | some (.bool b) => some (b == want)
    | some (.tup []) => some false
    | _ => none

abbrev CallF := Callee → List AV → H → Option (AR × H)

def stepOp (C : Cfg) (call : CallF) (ops : Array Oper) (o : Oper) (s : S) : Option (Ex × S) :=
  (wantedA s.ρ ops o).bind fun b =>
  if b then
    (execA C s.ρ o s.h).bind fun
      | .val v h => some (.normal, { s with h }.put o.dst v)
      | .call f args => (call f args s.h).bind fun
        | (.ret v, h) => some (.normal, { s with h }.put o.dst v)
        | (.panic v, h) => some (.panic v, { s with h })
      | .panic v => some (.panic v, s)
      | .defer f args => match s.rc with
        | .no => none
        | _ => some (.normal, { s with ds := .call f args :: s.ds }.put o.dst undefA)
      | .recover => match s.rc with
        | .pan v => some (.normal, { s with rc := .nil }.put o.dst v)
        | .nil => some (.normal, s.put o.dst .nili)
        | .no => none
  else some (.normal, s.put o.dst undefA)

def runOps (C : Cfg) (call : CallF) (ops : Array Oper) : List Oper → S → Option (Ex × S)
  | [], s => some (.normal, s)
  | o :: l, s => (stepOp C call ops o s).bind fun
    | (.normal, s) => runOps C call ops l s
    | r => some r

/-! ### A region whose order is drawn: one order, and each load that an effect may come ahead of, or behind, reads the same at all these times. -/
def isEff : Op → Bool
  | .store .. | .mapUpdate .. | .insert .. | .next .. | .defer _ | .panic _ => true
  | .call c => match c.callee with
    | .builtin b => match b with
      | .len | .min | .max => false
      | _ => true
    | _ => true
  | _ => false

/-- An operation that makes a new object, of its operands alone. -/
def isAl : Op → Bool
  | .alloc _ | .box .. | .buildSlice .. | .makeSlice .. | .makeMap .. => true
  | _ => false

/-- The operations that bind one: they come ahead of it in every order. -/
def preds (o : Oper) : List Nat := (o.after.toList.filter fun e => Region.binds .any e).map (·.on)

def maskOf (acc : List Nat) (o : Oper) : Nat := (preds o).foldl (fun s p => s ||| 2 ^ p ||| acc.getD p 0) 0

/-- All that come ahead of each, as bits. -/
def masks : List Oper → List Nat → List Nat
  | [], acc => acc
  | o :: l, acc => masks l (acc ++ [maskOf acc o])

/-- A place in the order: an operation; if it only looks, behind how many effects it may come. -/
structure St where
  i : Nat
  lo : Nat
  hi : Nat

def effAt (ops : Array Oper) (i : Nat) : Bool := match ops[i]? with | some o => isEff o.op | none => false
def alAt (ops : Array Oper) (i : Nat) : Bool := match ops[i]? with | some o => !isEff o.op && isAl o.op | none => false
def dstAt (ops : Array Oper) (i : Nat) : Option Tmp := (ops[i]?).bind (·.dst)

/-- One order: the effects, each behind what it needs, the rest behind them. -/
def planOf (ops : Array Oper) (b : List Nat) : List St :=
  let n := ops.size
  let es := (List.range n).filter (effAt ops)
  let f := es.foldl (fun (acc : List Nat × Nat) e =>
    let new := (List.range n).filter fun i => !acc.2.testBit i && (i == e || (b.getD e 0).testBit i)
    (acc.1 ++ new, new.foldl (fun m i => m ||| 2 ^ i) acc.2)) ([], 0)
  let order := f.1 ++ (List.range n).filter fun i => !f.2.testBit i
  order.map fun i => { i, lo := (es.filter fun e => (b.getD i 0).testBit e).length, hi := es.length - (es.filter fun e => (b.getD e 0).testBit i).length }

/-- The temporaries that an operation looks at. -/
def looksA (ops : Array Oper) (o : Oper) : List Tmp :=
  (o.op.operands.toList.filterMap fun | .tmp t => some t | _ => none) ++
  (match o.guard with
   | some (g, _) => (dstAt ops g).toList
   | none => [])

/-- What is asked of the order. 'es' are the effects of it. -/
def planOk (ops : Array Oper) (b : List Nat) (p : List St) : Bool :=
  let n := ops.size
  let es := (p.map (·.i)).filter (effAt ops)
  let anc (k i : Nat) : Bool := (b.getD i 0).testBit k
  p.length == n &&
  (List.range n).all (fun i => p.any (·.i == i)) &&
  ops.toList.zipIdx.all (fun (o, i) => (preds o).all (· < i)) &&
  (List.range n).all (fun i => (List.range n).all fun k => i == k || dstAt ops i == none || dstAt ops i != dstAt ops k) &&
  ops.toList.zipIdx.all (fun (o, i) => (looksA ops o).all fun d => (List.range n).all fun k => i == k || dstAt ops k != some d || anc k i || anc i k) &&
  planTop ops p [] &&
  planChain anc es &&
  planLate ops anc p &&
  p.all fun s => effAt ops s.i || alAt ops s.i || (s.lo ≤ s.hi && s.hi ≤ es.length && (s.lo == 0 || anc (es.getD (s.lo - 1) 0) s.i) && (s.hi == es.length || anc s.i (es.getD s.hi 0)))
 where
  /-- Each behind those that bind it. -/
  planTop (ops : Array Oper) : List St → List Nat → Bool
    | [], _ => true
    | s :: l, seen => (match ops[s.i]? with | some o => (preds o).all seen.contains | none => false) && !seen.contains s.i && planTop ops l (s.i :: seen)
  /-- The effects, each ahead of the next. -/
  planChain (anc : Nat → Nat → Bool) : List Nat → Bool
    | e :: e' :: l => anc e e' && planChain anc (e' :: l)
    | _ => true
  /-- What makes an object is ahead of the next effect. -/
  planLate (ops : Array Oper) (anc : Nat → Nat → Bool) : List St → Bool
    | [] => true
    | s :: l => (!alAt ops s.i || (match (l.map (·.i)).find? (effAt ops) with | some e => anc s.i e | none => true)) && planLate ops anc l

/-- A load that is asked again: the operation, the slots that it had, what it gave, behind how many effects it may come. -/
structure Again where
  o : Oper
  ρ : List AV
  v : AV
  lo : Nat
  hi : Nat

def again (C : Cfg) (hs : List H) (x : Again) : Bool :=
  ((List.range (x.hi + 1 - x.lo)).all fun d => match hs[x.lo + d]? with
    | some h => match execA C x.ρ x.o h with
      | some (.val v h') => v.beq x.v && h'.next == h.next
      | _ => false
    | none => false)

/-- 'hs': the heaps behind the effects so far, the last one first. 'base': the ids of the region's own objects. -/
def runDraw (C : Cfg) (call : CallF) (ops : Array Oper) (base : Nat) : List St → S → List H → List Again → Option (Ex × S)
  | [], s, hs, as => if as.all (again C hs.reverse) then some (.normal, s) else none
  | t :: l, s, hs, as => (ops[t.i]?).bind fun o =>
    if isEff o.op then (stepOp C call ops o s).bind fun
      | (.normal, s') => runDraw C call ops base l s' (s'.h :: hs) as
      | _ => none
    else (wantedA s.ρ ops o).bind fun b =>
      if b then
        if isAl o.op then (execA C s.ρ o { s.h with next := base + t.i }).bind fun
          | .val v h' => runDraw C call ops base l ({ s with h := { h' with next := s.h.next } }.put o.dst v) hs as
          | _ => none
        else (hs.head?).bind fun h => (execA C s.ρ o h).bind fun
          | .val v h' => if h'.next = h.next then (if t.lo + 1 = hs.length ∧ t.hi = t.lo then runDraw C call ops base l (s.put o.dst v) hs as
              else runDraw C call ops base l (s.put o.dst v) hs ({ o, ρ := s.ρ, v, lo := t.lo, hi := t.hi } :: as)) else none
          | _ => none
      else runDraw C call ops base l (s.put o.dst undefA) hs as

def iter (f : S → Option (Ex × S)) : Nat → S → Option (Ex × S)
  | 0, _ => none
  | n + 1, s => (f s).bind fun
    | (.normal, s) => iter f n s
    | r => some r

def evalC (C : Cfg) (call : CallF) (fid : FuncId) (n : Nat) : Code → S → Option (Ex × S)
  | .skip, s => some (.normal, s)
  | .region _ ops draw, s =>
    if draw then
      let b := masks ops.toList []
      let p := planOf ops b
      if planOk ops b p then
        let h := { s.h with next := s.h.next + ops.size }
        runDraw C call ops s.h.next p { s with h } [h] []
      else none
    else runOps C call ops ops.toList s
  | .seq a b, s => (evalC C call fid n a s).bind fun
    | (.normal, s) => evalC C call fid n b s
    | r => some r
  | .cond c a b, s => (opd s.ρ c).bind fun
    | .bool t => if t then evalC C call fid n a s else evalC C call fid n b s
    | _ => none
  | .block id c, s => (evalC C call fid n c s).bind fun
    | (.exit i, s) => if i = id then some (.normal, s) else some (.exit i, s)
    | r => some r
  | .loop c, s => iter (evalC C call fid n c) n s
  | .exit id, s => some (.exit id, s)
  | .label _, s => some (.normal, s)
  | .ret, s => some (.ret, s)
  | .scope c, s => evalC C call fid n c s
  | .rangeFunc f params assign body, s => match s.rc with
    | .no => none
    | _ => (opd s.ρ f).bind fun
      | .fn g first cap =>
        let h := (s.h.new .dfr).new (.loop true fid s.ρ params.toList assign body)
        (call (.fn g) (first ++ [.yld (s.h.next + 1)] ++ cap) h).bind fun
          | (.ret _, h) => (match h.get (s.h.next + 1) with
            | some (.loop true ..) => some (.normal, { s with h := h.del (s.h.next + 1), ds := .mark s.h.next :: s.ds })
            | _ => none)
          | _ => none
      | _ => none
  | _, _ => none

def resA (C : Cfg) (s : S) : List ResultVar → Option (List AV)
  | [] => some []
  | .tmp t :: l => (s.ρ[t]?).bind fun v => (resA C s l).map (v :: ·)
  | .cell a t :: l => (C.T t).bind fun ti => (s.ρ[a]?).bind fun p => (ldA s.h ti.agg ti.size p).bind fun v => (resA C s l).map (v :: ·)

def packRes : List AV → AV
  | [v] => v
  | l => .tup l

/-! ### Freezing a result -/
mutual
def frz (h : H) : Nat → AV → Option (AV × List Nat)
  | 0, _ => none
  | n + 1, v => match v with
    | .ptr id i k => (h.rows id).bind fun rs => (frzRows h n rs).map fun (rs, l) => (.iptr rs i k, id :: l)
    | .sl id i m => (h.rows id).bind fun rs => (frzRows h n ((rs.drop i).take m)).map fun (rs, l) => (.imm rs, id :: l)
    | .map id => match h.get id with
      | some (.map es) => (frzMap h n es).map fun (es, l) => (.imap es, id :: l)
      | _ => none
    | .agg l => (frzRow h n l).map fun (l, ids) => (.agg l, ids)
    | .tup l => (frzRow h n l).map fun (l, ids) => (.tup l, ids)
    | .ifc t v => (frz h n v).map fun (v, ids) => (.ifc t v, ids)
    | v => some (v, [])
def frzRow (h : H) : Nat → List AV → Option (List AV × List Nat)
  | 0, _ => none
  | _, [] => some ([], [])
  | n + 1, v :: l => (frz h n v).bind fun (v, a) => (frzRow h n l).map fun (l, b) => (v :: l, a ++ b)
def frzRows (h : H) : Nat → List Row → Option (List Row × List Nat)
  | 0, _ => none
  | _, [] => some ([], [])
  | n + 1, r :: l => (frzRow h n r).bind fun (r, a) => (frzRows h n l).map fun (l, b) => (r :: l, a ++ b)
def frzMap (h : H) : Nat → List (AV × AV) → Option (List (AV × AV) × List Nat)
  | 0, _ => none
  | _, [] => some ([], [])
  | n + 1, (k, v) :: l => (frz h n v).bind fun (v, a) => (frzMap h n l).map fun (l, b) => ((k, v) :: l, a ++ b)
end

def delAll (h : H) : List Nat → H
  | [] => h
  | i :: l => delAll (h.del i) l

def runDefers (C : Cfg) (call : CallF) : List D → H → Option H
  | [], h => some h
  | .mark id :: l, h => match h.get id with
    | some .dfr => runDefers C call l (h.del id)
    | _ => none
  | .call f args :: l, h => if (C.sp f).isSome then none else (call (.fn f) args h).bind fun
    | (.ret _, h) => runDefers C call l h
    | _ => none

def setParams : List AV → List Tmp → List AV → List AV
  | ρ, t :: ts, v :: vs => setParams (ρ.set t v) ts vs
  | ρ, _, _ => ρ

def ai (C : Cfg) : Nat → CallF
  | 0, _, _, _ => none
  | n + 1, .round id, args, h => match h.get id with
    | some (.loop _ fid ρ ps assign body) =>
      if ps.length = args.length then
        (evalC C (ai C n) fid n assign { ρ := setParams ρ ps args, ds := [], rc := .no, h }).bind fun
          | (.normal, s) => (match s.h.get id with
            | some (.loop true f' ρ' ps' as' bd') => (evalC C (ai C n) fid n body { s with h := s.h.set id (.loop false f' ρ' ps' as' bd') }).bind fun
              | (.normal, s) => if s.ds.isEmpty then (match s.h.get id with
                | some (.loop _ f' ρ' ps' as' bd') => some (.ret (.bool true), s.h.set id (.loop true f' ρ' ps' as' bd'))
                | _ => none) else none
              | _ => none
            | _ => none)
          | _ => none
      else none
    | _ => none
  | n + 1, .dfn f v, args, h =>
    (C.P.funcs[f]?).bind fun fn => fn.body.bind fun c =>
    (evalC C (ai C n) f n c { ρ := args ++ List.replicate (fn.ntmps - args.length) undefA, ds := [], rc := .pan v, h }).bind fun
      | (.normal, s) | (.ret, s) => if s.ds.isEmpty then (resA C s fn.results.toList).map fun _ => (.ret (.bool (match s.rc with | .nil => true | _ => false)), s.h) else none
      | _ => none
  | n + 1, .fn f, args, h =>
    match C.sp f with
    | some g => (g args h).map fun (v, h) => (.ret v, h)
    | none =>
    (C.P.funcs[f]?).bind fun fn => fn.body.bind fun c =>
    let out (s : S) (h : H) : Option (AR × H) :=
      (resA C { s with h } fn.results.toList).bind fun l =>
      let v := packRes l
      if C.fz f then (frz h n v).map fun (v, ids) => (.ret v, delAll h ids) else some (.ret v, h)
    (evalC C (ai C n) f n c { ρ := args ++ List.replicate (fn.ntmps - args.length) undefA, ds := [], h }).bind fun
      | (.panic v, s) => match s.ds with
        | [] => some (.panic v, s.h)
        | .mark _ :: _ => none
        | .call g as :: ds => (ai C n (.dfn g v) as s.h).bind fun
          | (.ret (.bool true), h) => (runDefers C (ai C n) ds h).bind (out s)
          | _ => none
      | (.normal, s) | (.ret, s) => (runDefers C (ai C n) s.ds s.h).bind (out s)
      | _ => none

end Go.Ai
