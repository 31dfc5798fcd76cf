import Derived.Test.YtelmlhlkefmjkaaGreatDoorAiA
import Derived.Below
import Derived.Laws.Cells
import Derived.Laws.Rows
import Derived.Laws.StructEq
set_option linter.unusedSimpArgs false
set_option linter.unusedVariables false
/- How abstract values and heaps stand to the model's. -/
namespace Go.Ai
open Go.RowKit

/-- Where block 'id' lies: the block, the first cell, the cells of a row, how many rows there is room for. -/
structure M where
  blk : Nat
  d : Nat
  w : Nat
  cap : Nat

structure Env where
  m : Nat → Option M
  q : Nat → Option Go.Obj

def Env.le (E E' : Env) : Prop := (∀ i x, E.m i = some x → E'.m i = some x) ∧ (∀ b o, E.q b = some o → E'.q b = some o)

theorem Env.le_refl (E : Env) : E.le E := ⟨fun _ _ h => h, fun _ _ h => h⟩
theorem Env.le_trans {A B C : Env} (h : A.le B) (k : B.le C) : A.le C := ⟨fun i x e => k.1 i x (h.1 i x e), fun b o e => k.2 b o (h.2 b o e)⟩

mutual
inductive VR (E : Env) : AV → Value → Prop
  | bool (b : Bool) : VR E (.bool b) (.bool b)
  | int (k : IntKind) (n : Int) : VR E (.int k n) (.int k n)
  | str (s : ByteArray) : VR E (.str s) (.string s)
  | ptr {id i k : Nat} {x : M} (h : E.m id = some x) : VR E (.ptr id i k) (.pointer (some ⟨x.blk, x.d + i * x.w + k, none⟩))
  | iptr {rows : List Row} {i k b d w : Nat} {c : Array Value} {e : TypeId} {f : Nat × Nat} (h : E.q b = some (.cells c e f)) (hr : RR E c d w rows) :
      VR E (.iptr rows i k) (.pointer (some ⟨b, d + i * w + k, none⟩))
  | nilp : VR E .nilp (.pointer none)
  | sl {id i n c : Nat} {x : M} (h : E.m id = some x) (hn : n ≤ c) (hc : i + c ≤ x.cap) : VR E (.sl id i n) (.slice (some ⟨x.blk, x.d + i * x.w, none⟩) n c)
  | sl0 {id i b o : Nat} {x : M} (h : E.m id = some x) : VR E (.sl id i 0) (.slice (some ⟨b, o, none⟩) 0 0)
  | imm {rows : List Row} {n cp b d w : Nat} {c : Array Value} {e : TypeId} {f : Nat × Nat} (h : E.q b = some (.cells c e f)) (hr : RR E c d w rows)
      (hn : rows.length = n) (hcp : n ≤ cp) : VR E (.imm rows) (.slice (some ⟨b, d, none⟩) n cp)
  | imm0 {a : Addr} {cp : Nat} : VR E (.imm []) (.slice (some a) 0 cp)
  | nils : VR E .nils (.slice none 0 0)
  | zs {a : Option Addr} : VR E .zs (.slice a 0 0)
  | map {id : Nat} {x : M} (h : E.m id = some x) : VR E (.map id) (.map (some x.blk))
  | imap {es : List (AV × AV)} {b : Nat} {ces : Array MapEntry} {clk : Nat} (h : E.q b = some (.map ces clk)) (he : ER E es ces.toList) : VR E (.imap es) (.map (some b))
  | nilm : VR E .nilm (.map none)
  | fn {f : FuncId} {l m : List AV} {cl cm : Array Value} (hl : VRs E l cl.toList) (hm : VRs E m cm.toList) : VR E (.fn f l m) (.func (.func f) cl cm)
  | yld {id : Nat} {x : M} (h : E.m id = some x) : VR E (.yld id) (.func (.yield x.blk) #[] #[])
  | nilf : VR E .nilf .nilFunc
  | ifc {t : TypeId} {v : AV} {cv : Value} (h : VR E v cv) : VR E (.ifc t v) (.iface t cv)
  | nili : VR E .nili .nilIface
  | agg {l : List AV} {cl : Array Value} (h : VRs E l cl.toList) : VR E (.agg l) (.agg cl)
  | tup {l : List AV} {cl : Array Value} (h : VRs E l cl.toList) : VR E (.tup l) (.tuple cl)
inductive VRs (E : Env) : List AV → List Value → Prop
  | nil : VRs E [] []
  | cons {v : AV} {l : List AV} {cv : Value} {cl : List Value} (h : VR E v cv) (hl : VRs E l cl) : VRs E (v :: l) (cv :: cl)
inductive CR (E : Env) : Array Value → Nat → List AV → Prop
  | nil {c : Array Value} {p : Nat} : CR E c p []
  | cons {c : Array Value} {p : Nat} {v : AV} {cv : Value} {l : List AV} (hc : c[p]? = some cv) (h : VR E v cv) (hl : CR E c (p + 1) l) : CR E c p (v :: l)
inductive RR (E : Env) : Array Value → Nat → Nat → List Row → Prop
  | nil {c : Array Value} {p w : Nat} : RR E c p w []
  | cons {c : Array Value} {p w : Nat} {r : Row} {l : List Row} (hw : r.length = w) (h : CR E c p r) (hl : RR E c (p + w) w l) : RR E c p w (r :: l)
inductive ER (E : Env) : List (AV × AV) → List MapEntry → Prop
  | nil : ER E [] []
  | cons {k v : AV} {l : List (AV × AV)} {e : MapEntry} {cl : List MapEntry} (hk : VR E k e.key) (hv : VR E v e.val) (hl : ER E l cl) : ER E ((k, v) :: l) (e :: cl)
end

mutual
theorem VR.mono {E E' : Env} (hE : E.le E') {v : AV} {c : Value} (h : VR E v c) : VR E' v c := by
  cases h with
  | bool b => exact .bool b
  | int k n => exact .int k n
  | str s => exact .str s
  | ptr h => exact .ptr (hE.1 _ _ h)
  | iptr h hr => exact .iptr (hE.2 _ _ h) (hr.mono hE)
  | nilp => exact .nilp
  | sl h hn hc => exact .sl (hE.1 _ _ h) hn hc
  | sl0 h => exact .sl0 (hE.1 _ _ h)
  | imm h hr hn hcp => exact .imm (hE.2 _ _ h) (hr.mono hE) hn hcp
  | imm0 => exact .imm0
  | nils => exact .nils
  | zs => exact .zs
  | map h => exact .map (hE.1 _ _ h)
  | imap h he => exact .imap (hE.2 _ _ h) (he.mono hE)
  | nilm => exact .nilm
  | fn hl hm => exact .fn (hl.mono hE) (hm.mono hE)
  | yld h => exact .yld (hE.1 _ _ h)
  | nilf => exact .nilf
  | ifc h => exact .ifc (h.mono hE)
  | nili => exact .nili
  | agg h => exact .agg (h.mono hE)
  | tup h => exact .tup (h.mono hE)
theorem VRs.mono {E E' : Env} (hE : E.le E') {v : List AV} {c : List Value} (h : VRs E v c) : VRs E' v c := by
  cases h with
  | nil => exact .nil
  | cons h hl => exact .cons (h.mono hE) (hl.mono hE)
theorem CR.mono {E E' : Env} (hE : E.le E') {c : Array Value} {p : Nat} {l : List AV} (h : CR E c p l) : CR E' c p l := by
  cases h with
  | nil => exact .nil
  | cons hc h hl => exact .cons hc (h.mono hE) (hl.mono hE)
theorem RR.mono {E E' : Env} (hE : E.le E') {c : Array Value} {p w : Nat} {l : List Row} (h : RR E c p w l) : RR E' c p w l := by
  cases h with
  | nil => exact .nil
  | cons hw h hl => exact .cons hw (h.mono hE) (hl.mono hE)
theorem ER.mono {E E' : Env} (hE : E.le E') {l : List (AV × AV)} {cl : List MapEntry} (h : ER E l cl) : ER E' l cl := by
  cases h with
  | nil => exact .nil
  | cons hk hv hl => exact .cons (hk.mono hE) (hv.mono hE) (hl.mono hE)
end

end Go.Ai

/- The abstract heap over the model's memory. -/
namespace Go.Ai
open Go.RowKit

theorem Tr.get_set (o : Option Obj) : ∀ (f : Nat) (t : Tr) (i j : Nat), i < f → (t.set o f i).get j = if j = i then o else t.get j := by
  intro f
  induction f with
  | zero => intro t i j h; omega
  | succ f ih =>
    intro t i j h
    have hsp : ∀ v l r, t.split = (v, l, r) → ∀ j, t.get j = if j = 0 then v else if j % 2 = 1 then l.get (j / 2) else r.get (j / 2 - 1) := by
      intro v l r hs j
      cases t with
      | e => simp [Tr.split] at hs; obtain ⟨rfl, rfl, rfl⟩ := hs; simp [Tr.get]
      | n v' l' r' => simp [Tr.split] at hs; obtain ⟨rfl, rfl, rfl⟩ := hs; rfl
    rcases hs : t.split with ⟨v, l, r⟩
    have hg := hsp v l r hs j
    simp only [Tr.set, hs]
    by_cases hi : i = 0
    · subst hi
      simp only [if_true, Tr.get]
      by_cases hj : j = 0
      · simp [hj]
      · simp [hj, hg]
    · rw [if_neg hi]
      by_cases ho : i % 2 = 1
      · rw [if_pos ho]
        simp only [Tr.get]
        by_cases hj : j = 0
        · subst hj; rw [if_pos rfl, if_neg (fun e => hi e.symm), hg, if_pos rfl]
        · rw [if_neg hj]
          by_cases hjo : j % 2 = 1
          · rw [if_pos hjo, ih l (i / 2) (j / 2) (by omega)]
            by_cases e : j = i
            · subst e; simp
            · rw [if_neg (by omega), if_neg e, hg, if_neg hj, if_pos hjo]
          · rw [if_neg hjo, if_neg (by intro e; subst e; exact hjo ho), hg, if_neg hj, if_neg hjo]
      · rw [if_neg ho]
        simp only [Tr.get]
        by_cases hj : j = 0
        · subst hj; rw [if_pos rfl, if_neg (fun e => hi e.symm), hg, if_pos rfl]
        · rw [if_neg hj]
          by_cases hjo : j % 2 = 1
          · rw [if_pos hjo, if_neg (by intro e; subst e; exact ho hjo), hg, if_neg hj, if_pos hjo]
          · rw [if_neg hjo, ih r (i / 2 - 1) (j / 2 - 1) (by omega)]
            by_cases e : j = i
            · subst e; simp
            · rw [if_neg (by omega), if_neg e, hg, if_neg hj, if_neg hjo]

theorem H.get_set (h : H) (i j : Nat) (o : Obj) : (h.set i o).get j = if j = i then some o else h.get j := Tr.get_set _ _ _ _ _ (Nat.lt_succ_self i)
theorem H.get_del (h : H) (i j : Nat) : (h.del i).get j = if j = i then none else h.get j := Tr.get_set _ _ _ _ _ (Nat.lt_succ_self i)
theorem H.get_new (h : H) (j : Nat) (o : Obj) : (h.new o).get j = if j = h.next then some o else h.get j := Tr.get_set _ _ _ _ _ (Nat.lt_succ_self h.next)
@[simp] theorem H.get_set_same (h : H) (i : Nat) (o : Obj) : (h.set i o).get i = some o := by simp [H.get_set]
@[simp] theorem H.get_new_same (h : H) (o : Obj) : (h.new o).get h.next = some o := by simp [H.get_new]
@[simp] theorem H.next_set (h : H) (i : Nat) (o : Obj) : (h.set i o).next = h.next := rfl
@[simp] theorem H.next_del (h : H) (i : Nat) : (h.del i).next = h.next := rfl
@[simp] theorem H.next_new (h : H) (o : Obj) : (h.new o).next = h.next + 1 := rfl
theorem Tr.get_e (j : Nat) : Tr.e.get j = none := rfl
@[simp] theorem H.get_empty (j : Nat) : H.empty.get j = none := rfl

/-- How an object lies in memory. -/
def OR (E : Env) (x : M) (w : World) : Obj → Prop
  | .blk wd rows => x.w = wd ∧ ∃ c e lo hi, w.heap[x.blk]? = some (.cells c e (lo, hi)) ∧ RR E c x.d x.w rows ∧ rows.length ≤ x.cap ∧ x.d + x.cap * x.w ≤ c.size ∧
      ∀ o, x.d ≤ o → o < x.d + x.cap * x.w → ¬ (lo ≤ o ∧ o < hi)
  | .map es => ∃ ces clk, w.heap[x.blk]? = some (.map ces clk) ∧ ER E es ces.toList
  | .siter s pos => x.d = 0 ∧ w.heap[x.blk]? = some (.stringIter s pos)
  | .loop rdy fn ρ ps as bd => ∃ tmps df, w.heap[x.blk]? = some (.loop { state := if rdy then .ready else .busy, pending := none, fn := fn, tmps := tmps, params := ps.toArray, assign := as, body := bd, defers := df }) ∧ VRs E ρ tmps.toList
  | .dfr => w.heap[x.blk]? = some (.deferred (some []))

theorem OR.mono {E E' : Env} (hE : E.le E') {x : M} {w w' : World} (hw : w'.heap[x.blk]? = w.heap[x.blk]?) {o : Obj} (h : OR E x w o) : OR E' x w' o := by
  cases o with
  | blk wd rows => obtain ⟨h0, c, e, lo, hi, h1, h2, h3⟩ := h; exact ⟨h0, c, e, lo, hi, hw.trans h1, h2.mono hE, h3⟩
  | map es => obtain ⟨c, k, h1, h2⟩ := h; exact ⟨c, k, hw.trans h1, h2.mono hE⟩
  | siter s pos => exact ⟨h.1, hw.trans h.2⟩
  | loop rdy fn ρ ps as bd => obtain ⟨t, d, h1, h2⟩ := h; exact ⟨t, d, hw.trans h1, h2.mono hE⟩
  | dfr => exact hw.trans h

theorem OR.there {E : Env} {x : M} {w : World} {o : Obj} (h : OR E x w o) : x.blk < w.heap.size := by
  have key : ∀ {ob : Go.Obj}, w.heap[x.blk]? = some ob → x.blk < w.heap.size := fun e => by
    rcases Nat.lt_or_ge x.blk w.heap.size with h | h
    · exact h
    · rw [Array.getElem?_eq_none h] at e; cases e
  cases o with
  | blk wd rows => obtain ⟨_, c, e, lo, hi, h1, _⟩ := h; exact key h1
  | map es => obtain ⟨c, k, h1, _⟩ := h; exact key h1
  | siter s pos => exact key h.2
  | loop rdy fn ρ ps as bd => obtain ⟨t, d, h1, _⟩ := h; exact key h1
  | dfr => exact key h

structure HR (E : Env) (h : H) (w : World) : Prop where
  dom : ∀ i x, E.m i = some x → i < h.next
  live : ∀ i o, h.get i = some o → ∃ x, E.m i = some x ∧ OR E x w o
  inj : ∀ i j oi oj xi xj, h.get i = some oi → h.get j = some oj → E.m i = some xi → E.m j = some xj → xi.blk = xj.blk → i = j
  imm : ∀ b o, E.q b = some o → w.heap[b]? = some o
  apart : ∀ b o i oi x, E.q b = some o → h.get i = some oi → E.m i = some x → x.blk ≠ b

/-- A block that a live id has. -/
def Own (E : Env) (h : H) (b : Nat) : Prop := ∃ i o x, h.get i = some o ∧ E.m i = some x ∧ x.blk = b

structure Ext (E : Env) (h : H) (w : World) (E' : Env) (h' : H) (w' : World) : Prop where
  le : E.le E'
  next : h.next ≤ h'.next
  os : w'.os = w.os
  tape : w'.tape = w.tape
  output : w'.output = w.output
  size : w.heap.size ≤ w'.heap.size
  block : ∀ b, b < w.heap.size → ¬ Own E h b → w'.heap[b]? = w.heap[b]?
  own : ∀ b, Own E' h' b → Own E h b ∨ w.heap.size ≤ b
  q : ∀ b o, E'.q b = some o → E.q b = some o ∨ Own E h b ∨ w.heap.size ≤ b
  ids : ∀ i x, E'.m i = some x → E.m i = some x ∨ h.next ≤ i

theorem Ext.refl (E : Env) (h : H) (w : World) : Ext E h w E h w :=
  ⟨E.le_refl, Nat.le_refl _, rfl, rfl, rfl, Nat.le_refl _, fun _ _ _ => rfl, fun _ h => .inl h, fun _ _ h => .inl h, fun _ _ h => .inl h⟩

theorem Ext.trans {E E1 E2 : Env} {h h1 h2 : H} {w w1 w2 : World} (a : Ext E h w E1 h1 w1) (b : Ext E1 h1 w1 E2 h2 w2) : Ext E h w E2 h2 w2 where
  le := Env.le_trans a.le b.le
  next := Nat.le_trans a.next b.next
  os := b.os.trans a.os
  tape := b.tape.trans a.tape
  output := b.output.trans a.output
  size := Nat.le_trans a.size b.size
  block := fun k hk ho => (b.block k (Nat.lt_of_lt_of_le hk a.size) (fun o => (a.own k o).elim ho (fun h => by omega))).trans (a.block k hk ho)
  own := fun k o => (b.own k o).elim (a.own k) (fun h => .inr (Nat.le_trans a.size h))
  q := fun k o e => (b.q k o e).elim (a.q k o) (fun h => h.elim (fun h => (a.own k h).elim (fun h => .inr (.inl h)) (fun h => .inr (.inr h))) (fun h => .inr (.inr (Nat.le_trans a.size h))))
  ids := fun i x e => (b.ids i x e).elim (a.ids i x) (fun h => .inr (Nat.le_trans a.next h))

/-- Only a count of the world has moved. -/
theorem HR.world {E : Env} {h : H} {w w' : World} (r : HR E h w) (hw : w'.heap = w.heap) : HR E h w' :=
  ⟨r.dom, fun i o hi => let ⟨x, hx, ho⟩ := r.live i o hi; ⟨x, hx, ho.mono E.le_refl (by rw [hw])⟩, r.inj, fun b o hb => by rw [hw]; exact r.imm b o hb, r.apart⟩

theorem Ext.world {E : Env} {h : H} {w w' : World} (hw : w'.heap = w.heap) (hos : w'.os = w.os) (ht : w'.tape = w.tape) (ho : w'.output = w.output) : Ext E h w E h w' :=
  ⟨E.le_refl, Nat.le_refl _, hos, ht, ho, by rw [hw]; exact Nat.le_refl _, fun _ _ _ => by rw [hw], fun _ h => .inl h, fun _ _ h => .inl h, fun _ _ h => .inl h⟩

theorem heap_lt {w : World} {b : Nat} {o : Go.Obj} (h : w.heap[b]? = some o) : b < w.heap.size := by
  rcases Nat.lt_or_ge b w.heap.size with h' | h'
  · exact h'
  · rw [Array.getElem?_eq_none h'] at h; cases h

/-- A new block for a new id. -/
def Env.put (E : Env) (i : Nat) (x : M) : Env := { E with m := fun j => if j = i then some x else E.m j }

theorem Env.le_put {E : Env} {i : Nat} (x : M) (h : E.m i = none) : E.le (E.put i x) :=
  ⟨fun j y hj => by
    by_cases e : j = i
    · subst e; rw [h] at hj; cases hj
    · simp [Env.put, e, hj], fun _ _ h => h⟩

theorem put_ids {E : Env} {n : Nat} {x : M} {i : Nat} {y : M} (h : (E.put n x).m i = some y) : E.m i = some y ∨ n ≤ i := by
  by_cases e : i = n
  · exact .inr (by omega)
  · simp [Env.put, e] at h; exact .inl h

theorem HR.fresh {E : Env} {h : H} {w : World} (r : HR E h w) : E.m h.next = none := by
  cases e : E.m h.next with
  | none => rfl
  | some x => have := r.dom _ _ e; omega

/-- A new object: at a block that was not there, or that an id had which has gone. -/
theorem HR.new {E : Env} {h : H} {w w' : World} (r : HR E h w) (o : Obj) (x : M)
    (hold : ∀ b, b < w.heap.size → b ≠ x.blk → w'.heap[b]? = w.heap[b]?)
    (hown : w.heap.size ≤ x.blk)
    (ho : OR (E.put h.next x) x w' o) : HR (E.put h.next x) (h.new o) w' := by
  have hle := Env.le_put x r.fresh
  refine ⟨fun i y hi => ?_, fun i oi hi => ?_, fun i j oi oj xi xj hi hj hxi hxj hb => ?_, fun b ob hb => ?_, fun b ob i oi y hb hi hy => ?_⟩
  · by_cases e : i = h.next
    · subst e; simp
    · simp [Env.put, e] at hi; have := r.dom i y hi; simp; omega
  · rw [H.get_new] at hi
    by_cases e : i = h.next
    · rw [if_pos e] at hi; cases hi; subst e; exact ⟨x, by simp [Env.put], ho⟩
    · rw [if_neg e] at hi
      obtain ⟨y, hy, hoy⟩ := r.live i oi hi
      have hlt := hoy.there
      exact ⟨y, hle.1 _ _ hy, hoy.mono hle (hold _ hlt (by omega))⟩
  · rw [H.get_new] at hi hj
    by_cases e : i = h.next <;> by_cases e' : j = h.next
    · omega
    · rw [if_neg e'] at hj
      subst e
      simp [Env.put] at hxi; subst hxi
      simp [Env.put, e'] at hxj
      obtain ⟨y, hy, hoy⟩ := r.live j oj hj
      rw [hxj] at hy; cases hy
      have := hoy.there; omega
    · rw [if_neg e] at hi
      subst e'
      simp [Env.put] at hxj; subst hxj
      simp [Env.put, e] at hxi
      obtain ⟨y, hy, hoy⟩ := r.live i oi hi
      rw [hxi] at hy; cases hy
      have := hoy.there; omega
    · rw [if_neg e] at hi; rw [if_neg e'] at hj
      simp [Env.put, e] at hxi; simp [Env.put, e'] at hxj
      exact r.inj i j oi oj xi xj hi hj hxi hxj hb
  · have h1 := r.imm b ob hb
    have := heap_lt h1
    rw [hold b this (by omega)]; exact h1
  · have h1 := heap_lt (r.imm b ob hb)
    rw [H.get_new] at hi
    by_cases e : i = h.next
    · subst e; simp [Env.put] at hy; subst hy; omega
    · rw [if_neg e] at hi; simp [Env.put, e] at hy
      exact r.apart b ob i oi y hb hi hy

theorem Ext.new {E : Env} {h : H} {w w' : World} (r : HR E h w) (o : Obj) (x : M) (hos : w'.os = w.os) (ht : w'.tape = w.tape) (hout : w'.output = w.output)
    (hsize : w.heap.size ≤ w'.heap.size) (hold : ∀ b, b < w.heap.size → w'.heap[b]? = w.heap[b]?) (hown : w.heap.size ≤ x.blk) :
    Ext E h w (E.put h.next x) (h.new o) w' := by
  refine ⟨Env.le_put x r.fresh, by simp, hos, ht, hout, hsize, fun b hb _ => hold b hb, fun b => ?_, fun b ob hb => .inl hb, fun i y hi => put_ids hi⟩
  rintro ⟨i, oi, y, hi, hy, rfl⟩
  rw [H.get_new] at hi
  by_cases e : i = h.next
  · subst e; simp [Env.put] at hy; subst hy; exact .inr hown
  · rw [if_neg e] at hi; simp [Env.put, e] at hy; exact .inl ⟨i, oi, y, hi, hy, rfl⟩

/-- An id's object is turned. -/
theorem HR.set {E : Env} {h : H} {w w' : World} (r : HR E h w) {i : Nat} {oi o : Obj} {x : M} (hi : h.get i = some oi) (hx : E.m i = some x)
    (hold : ∀ b, b ≠ x.blk → w'.heap[b]? = w.heap[b]?) (ho : OR E x w' o) : HR E (h.set i o) w' := by
  refine ⟨r.dom, fun j oj hj => ?_, fun j k oj ok xj xk hj hk hxj hxk hb => ?_, fun b ob hb => ?_, fun b ob j oj y hb hj hy => ?_⟩
  · rw [H.get_set] at hj
    by_cases e : j = i
    · rw [if_pos e] at hj; cases hj; subst e; exact ⟨x, hx, ho⟩
    · rw [if_neg e] at hj
      obtain ⟨y, hy, hoy⟩ := r.live j oj hj
      exact ⟨y, hy, hoy.mono E.le_refl (hold _ (fun eb => e (r.inj j i oj oi y x hj hi hy hx eb)))⟩
  · have key : ∀ {j : Nat} {oj : Obj}, (h.set i o).get j = some oj → ∃ oj', h.get j = some oj' := fun {j oj} hj => by
      rw [H.get_set] at hj
      by_cases e : j = i
      · exact ⟨oi, e ▸ hi⟩
      · rw [if_neg e] at hj; exact ⟨oj, hj⟩
    obtain ⟨oj', hj'⟩ := key hj
    obtain ⟨ok', hk'⟩ := key hk
    exact r.inj j k oj' ok' xj xk hj' hk' hxj hxk hb
  · rw [hold b (fun e => r.apart b ob i oi x hb hi hx e.symm)]; exact r.imm b ob hb
  · rw [H.get_set] at hj
    by_cases e : j = i
    · subst e; exact r.apart b ob j oi y hb hi hy
    · rw [if_neg e] at hj; exact r.apart b ob j oj y hb hj hy

theorem Ext.set {E : Env} {h : H} {w w' : World} {i : Nat} {oi : Obj} (o : Obj) {x : M} (hi : h.get i = some oi) (hx : E.m i = some x)
    (hos : w'.os = w.os) (ht : w'.tape = w.tape) (hout : w'.output = w.output) (hsize : w.heap.size ≤ w'.heap.size)
    (hold : ∀ b, b < w.heap.size → b ≠ x.blk → w'.heap[b]? = w.heap[b]?) : Ext E h w E (h.set i o) w' := by
  refine ⟨E.le_refl, by simp, hos, ht, hout, hsize, fun b hb hno => hold b hb (fun e => hno ⟨i, oi, x, hi, hx, e.symm⟩), fun b => ?_, fun b ob hb => .inl hb, fun _ _ h => .inl h⟩
  rintro ⟨j, oj, y, hj, hy, rfl⟩
  rw [H.get_set] at hj
  by_cases e : j = i
  · subst e; rw [hx] at hy; cases hy; exact .inl ⟨j, oi, x, hi, hx, rfl⟩
  · rw [if_neg e] at hj; exact .inl ⟨j, oj, y, hj, hy, rfl⟩

/-- An id goes. -/
theorem HR.del {E : Env} {h : H} {w : World} (r : HR E h w) (i : Nat) : HR E (h.del i) w := by
  have key : ∀ {j : Nat} {oj : Obj}, (h.del i).get j = some oj → h.get j = some oj := fun {j oj} hj => by
    rw [H.get_del] at hj
    by_cases e : j = i
    · rw [if_pos e] at hj; cases hj
    · rwa [if_neg e] at hj
  exact ⟨r.dom, fun j oj hj => r.live j oj (key hj), fun j k oj ok xj xk hj hk => r.inj j k oj ok xj xk (key hj) (key hk), r.imm, fun b ob j oj y hb hj => r.apart b ob j oj y hb (key hj)⟩

theorem Ext.del (E : Env) (h : H) (w : World) (i : Nat) : Ext E h w E (h.del i) w := by
  refine ⟨E.le_refl, by simp, rfl, rfl, rfl, Nat.le_refl _, fun _ _ _ => rfl, fun b => ?_, fun _ _ h => .inl h, fun _ _ h => .inl h⟩
  rintro ⟨j, oj, y, hj, hy, rfl⟩
  rw [H.get_del] at hj
  by_cases e : j = i
  · rw [if_pos e] at hj; cases hj
  · rw [if_neg e] at hj; exact .inl ⟨j, oj, y, hj, hy, rfl⟩

/-- A new object in the block of an id that goes. -/
theorem HR.move {E : Env} {h : H} {w w' : World} (r : HR E h w) {i : Nat} {oi o : Obj} {x y : M} (hi : h.get i = some oi) (hx : E.m i = some x) (hy : y.blk = x.blk)
    (hold : ∀ b, b ≠ x.blk → w'.heap[b]? = w.heap[b]?) (ho : OR (E.put h.next y) y w' o) : HR (E.put h.next y) ((h.del i).new o) w' := by
  have hle := Env.le_put y r.fresh
  have key : ∀ {j : Nat} {oj : Obj}, ((h.del i).new o).get j = some oj → (j = h.next ∧ oj = o) ∨ (j ≠ h.next ∧ j ≠ i ∧ h.get j = some oj) := fun {j oj} hj => by
    rw [H.get_new] at hj
    by_cases e : j = h.next
    · rw [if_pos (by simpa using e)] at hj; cases hj; exact .inl ⟨e, rfl⟩
    · rw [if_neg (by simpa using e), H.get_del] at hj
      by_cases e' : j = i
      · rw [if_pos e'] at hj; cases hj
      · rw [if_neg e'] at hj; exact .inr ⟨e, e', hj⟩
  have mput : ∀ {j : Nat}, j ≠ h.next → (E.put h.next y).m j = E.m j := fun {j} e => by simp [Env.put, e]
  refine ⟨fun j z hj => ?_, fun j oj hj => ?_, fun j k oj ok xj xk hj hk hxj hxk hb => ?_, fun b ob hb => ?_, fun b ob j oj z hb hj hz => ?_⟩
  · by_cases e : j = h.next
    · subst e; simp
    · rw [mput e] at hj; have := r.dom j z hj; simp; omega
  · rcases key hj with ⟨rfl, rfl⟩ | ⟨e, e', hj'⟩
    · exact ⟨y, by simp [Env.put], ho⟩
    · obtain ⟨z, hz, hoz⟩ := r.live j oj hj'
      exact ⟨z, hle.1 _ _ hz, hoz.mono hle (hold _ (fun eb => e' (r.inj j i oj oi z x hj' hi hz hx eb)))⟩
  · rcases key hj with ⟨rfl, _⟩ | ⟨e, e', hj'⟩ <;> rcases key hk with ⟨rfl, _⟩ | ⟨f, f', hk'⟩
    · rfl
    · simp [Env.put] at hxj; subst hxj
      rw [mput f] at hxk
      exact absurd (r.inj k i ok oi xk x hk' hi hxk hx (hb.symm.trans hy)) f'
    · simp [Env.put] at hxk; subst hxk
      rw [mput e] at hxj
      exact absurd (r.inj j i oj oi xj x hj' hi hxj hx (hb.trans hy)) e'
    · rw [mput e] at hxj; rw [mput f] at hxk
      exact r.inj j k oj ok xj xk hj' hk' hxj hxk hb
  · rw [hold b (fun e => r.apart b ob i oi x hb hi hx e.symm)]; exact r.imm b ob hb
  · rcases key hj with ⟨rfl, _⟩ | ⟨e, e', hj'⟩
    · simp [Env.put] at hz; subst hz; rw [hy]; exact r.apart b ob i oi x hb hi hx
    · rw [mput e] at hz; exact r.apart b ob j oj z hb hj' hz

theorem Ext.move {E : Env} {h : H} {w w' : World} (r : HR E h w) {i : Nat} {oi : Obj} (o : Obj) {x y : M} (hi : h.get i = some oi) (hx : E.m i = some x) (hy : y.blk = x.blk)
    (hos : w'.os = w.os) (ht : w'.tape = w.tape) (hout : w'.output = w.output) (hsize : w.heap.size ≤ w'.heap.size)
    (hold : ∀ b, b ≠ x.blk → w'.heap[b]? = w.heap[b]?) : Ext E h w (E.put h.next y) ((h.del i).new o) w' := by
  refine ⟨Env.le_put y r.fresh, by simp, hos, ht, hout, hsize, fun b _ hno => hold b (fun e => hno ⟨i, oi, x, hi, hx, e.symm⟩), fun b => ?_, fun b ob hb => .inl hb, fun i y hi => put_ids hi⟩
  rintro ⟨j, oj, z, hj, hz, rfl⟩
  rw [H.get_new] at hj
  by_cases e : j = h.next
  · subst e; simp [Env.put] at hz; subst hz; exact .inl ⟨i, oi, x, hi, hx, hy.symm⟩
  · rw [if_neg (by simpa using e), H.get_del] at hj
    by_cases e' : j = i
    · rw [if_pos e'] at hj; cases hj
    · rw [if_neg e'] at hj; simp [Env.put, e] at hz; exact .inl ⟨j, oj, z, hj, hz, rfl⟩

end Go.Ai

/- Reading and writing cells: the abstract heap's against the model's. -/
namespace Go.Ai
open Go.RowKit

theorem CR_iff {E : Env} {c : Array Value} : ∀ {l : List AV} {p : Nat}, CR E c p l ↔ ∀ j v, l[j]? = some v → ∃ cv, c[p + j]? = some cv ∧ VR E v cv := by
  intro l
  induction l with
  | nil => intro p; exact ⟨fun _ j v h => by simp at h, fun _ => .nil⟩
  | cons a l ih =>
    intro p
    constructor
    · intro h j v hj
      cases h with
      | cons hc hv hl =>
        cases j with
        | zero => simp at hj; subst hj; exact ⟨_, hc, hv⟩
        | succ j =>
          simp at hj
          obtain ⟨cv, h1, h2⟩ := ih.1 hl j v hj
          exact ⟨cv, by rw [← h1]; congr 1; omega, h2⟩
    · intro h
      obtain ⟨cv, h1, h2⟩ := h 0 a (by simp)
      exact .cons h1 h2 (ih.2 fun j v hj => by
        obtain ⟨cv, h1, h2⟩ := h (j + 1) v (by simpa using hj)
        exact ⟨cv, by rw [← h1]; congr 1; omega, h2⟩)

theorem RR_iff {E : Env} {c : Array Value} {w : Nat} : ∀ {l : List Row} {p : Nat}, RR E c p w l ↔
    ∀ i r, l[i]? = some r → r.length = w ∧ ∀ j v, r[j]? = some v → ∃ cv, c[p + i * w + j]? = some cv ∧ VR E v cv := by
  intro l
  induction l with
  | nil => intro p; exact ⟨fun _ j v h => by simp at h, fun _ => .nil⟩
  | cons a l ih =>
    intro p
    constructor
    · intro h i r hi
      cases h with
      | cons hw hc hl =>
        cases i with
        | zero =>
          simp at hi; subst hi
          refine ⟨hw, fun j v hj => ?_⟩
          obtain ⟨cv, h1, h2⟩ := CR_iff.1 hc j v hj
          exact ⟨cv, by rw [← h1]; congr 1; omega, h2⟩
        | succ i =>
          simp at hi
          obtain ⟨h1, h2⟩ := ih.1 hl i r hi
          refine ⟨h1, fun j v hj => ?_⟩
          obtain ⟨cv, h3, h4⟩ := h2 j v hj
          exact ⟨cv, by rw [← h3]; congr 1; rw [Nat.succ_mul]; omega, h4⟩
    · intro h
      obtain ⟨h1, h2⟩ := h 0 a (by simp)
      refine .cons h1 (CR_iff.2 fun j v hj => ?_) (ih.2 fun i r hi => ?_)
      · obtain ⟨cv, h3, h4⟩ := h2 j v hj
        exact ⟨cv, by rw [← h3]; congr 1; omega, h4⟩
      · obtain ⟨h3, h4⟩ := h (i + 1) r (by simpa using hi)
        refine ⟨h3, fun j v hj => ?_⟩
        obtain ⟨cv, h5, h6⟩ := h4 j v hj
        exact ⟨cv, by rw [← h5]; congr 1; rw [Nat.succ_mul]; omega, h6⟩

theorem VRs_iff {E : Env} : ∀ {l : List AV} {cl : List Value}, VRs E l cl ↔ l.length = cl.length ∧ ∀ (j : Nat) (v : AV), l[j]? = some v → ∃ cv, cl[j]? = some cv ∧ VR E v cv := by
  intro l
  induction l with
  | nil => intro cl; cases cl with
    | nil => exact ⟨fun _ => ⟨rfl, fun j v h => by simp at h⟩, fun _ => .nil⟩
    | cons a cl => exact ⟨(fun h => by cases h), (fun h => by simp at h)⟩
  | cons a l ih =>
    intro cl
    constructor
    · intro h
      cases h with
      | cons hv hl =>
        obtain ⟨h1, h2⟩ := ih.1 hl
        refine ⟨by simp [h1], fun j v hj => ?_⟩
        cases j with
        | zero => simp at hj; subst hj; exact ⟨_, by simp, hv⟩
        | succ j => simp at hj; simpa using h2 j v hj
    · rintro ⟨h1, h2⟩
      cases cl with
      | nil => simp at h1
      | cons b cl =>
        obtain ⟨cv, h3, h4⟩ := h2 0 a (by simp)
        simp at h3; subst h3
        exact .cons h4 (ih.2 ⟨by simpa using h1, fun j v hj => by simpa using h2 (j + 1) v (by simpa using hj)⟩)

theorem VRs.length {E : Env} {l : List AV} {cl : List Value} (h : VRs E l cl) : l.length = cl.length := (VRs_iff.1 h).1
theorem VRs.get {E : Env} {l : List AV} {cl : List Value} (h : VRs E l cl) {j : Nat} {v : AV} (hj : l[j]? = some v) : ∃ cv, cl[j]? = some cv ∧ VR E v cv := (VRs_iff.1 h).2 j v hj
theorem VRs.append {E : Env} {l m : List AV} {cl cm : List Value} (h : VRs E l cl) (k : VRs E m cm) : VRs E (l ++ m) (cl ++ cm) := by
  induction l generalizing cl with
  | nil => cases h; exact k
  | cons a l ih => cases h with | cons h1 h2 => exact .cons h1 (ih h2)
theorem VRs.set {E : Env} {l : List AV} {cl : List Value} (h : VRs E l cl) {v : AV} {cv : Value} (hv : VR E v cv) (i : Nat) : VRs E (l.set i v) (cl.set i cv) := by
  induction l generalizing cl i with
  | nil => cases h; exact .nil
  | cons a l ih => cases h with
    | cons h1 h2 => cases i with
      | zero => exact .cons hv h2
      | succ i => exact .cons h1 (ih h2 i)
theorem VRs.replicate {E : Env} {v : AV} {cv : Value} (hv : VR E v cv) : ∀ n, VRs E (List.replicate n v) (List.replicate n cv)
  | 0 => .nil
  | n + 1 => .cons hv (VRs.replicate hv n)
theorem VRs.take {E : Env} {l : List AV} {cl : List Value} (h : VRs E l cl) (n : Nat) : VRs E (l.take n) (cl.take n) := by
  induction n generalizing l cl with
  | zero => simpa using VRs.nil
  | succ n ih => cases h with
    | nil => simpa using VRs.nil
    | cons h1 h2 => exact .cons h1 (ih h2)
theorem VRs.drop {E : Env} {l : List AV} {cl : List Value} (h : VRs E l cl) (n : Nat) : VRs E (l.drop n) (cl.drop n) := by
  induction n generalizing l cl with
  | zero => simpa using h
  | succ n ih => cases h with
    | nil => simpa using VRs.nil
    | cons h1 h2 => exact ih h2

theorem VR.cells {E : Env} {v : AV} {cv : Value} (h : VR E v cv) : VRs E v.cells cv.cells.toList := by
  have one : ∀ {v : AV} {cv : Value}, VR E v cv → VRs E [v] [cv] := fun h => .cons h .nil
  cases h with
  | agg h => exact h
  | bool | int | str | ptr h | iptr h hr | nilp | sl h hn hc | sl0 h | imm h hr hn hcp | imm0 | nils | zs | map h | imap h he | nilm | fn hl hm | yld h | nilf | ifc h | nili | tup h =>
    exact one (by first | exact .bool _ | exact .int _ _ | exact .str _ | exact .ptr h | exact .iptr h hr | exact .nilp | exact .sl h hn hc | exact .sl0 h | exact .imm h hr hn hcp | exact .imm0 | exact .nils | exact .zs | exact .map h | exact .imap h he | exact .nilm | exact .fn hl hm | exact .yld h | exact .nilf | exact .ifc h | exact .nili | exact .tup h)

/-! ### Reading -/
theorem cell_add {w : World} {b o : Nat} {c : Array Value} {e : TypeId} {f : Nat × Nat} (h : w.heap[b]? = some (.cells c e f)) (j : Nat) :
    w.cell? ((⟨b, o, none⟩ : Addr).add j) = c[o + j]? := by
  by_cases hj : j = 0
  · subst hj; simp [Addr.add, World.cell?, h]
  · simp [Addr.add, hj, World.cell?, h]

theorem rows_spec {h : H} {i : Nat} {rs : List Row} (hr : h.rows i = some rs) : h.get i = some (.blk (h.width i) rs) := by
  unfold H.rows at hr
  cases e : h.get i with
  | none => simp [e] at hr
  | some o => cases o <;> simp [e] at hr; subst hr; simp [H.width, e]

/-- Where a pointer's row lies. -/
theorem rowOf_sound {E : Env} {h : H} {w : World} (r : HR E h w) {p : AV} {cp : Value} (hp : VR E p cp) {row : List AV} {k : Nat} (hrow : rowOf h p = some (row, k)) :
    ∃ b o, cp = .pointer (some ⟨b, o, none⟩) ∧ ∀ j v, row[k + j]? = some v → ∃ cv, w.cell? ((⟨b, o, none⟩ : Addr).add j) = some cv ∧ VR E v cv := by
  cases hp with
  | @ptr id i k' x hx =>
    simp only [rowOf, Option.bind_eq_some_iff, Option.map_eq_some_iff] at hrow
    obtain ⟨rs, hrs, row', hi, he⟩ := hrow
    simp only [Prod.mk.injEq] at he
    obtain ⟨rfl, rfl⟩ := he
    obtain ⟨x', hx', _, c, e, lo, hi', h1, h2, _⟩ := r.live id _ (rows_spec hrs)
    rw [hx] at hx'; cases hx'
    refine ⟨_, _, rfl, fun j v hj => ?_⟩
    obtain ⟨_, h3⟩ := RR_iff.1 h2 i _ hi
    obtain ⟨cv, h4, h5⟩ := h3 _ v hj
    exact ⟨cv, by rw [cell_add h1, ← h4]; congr 1; omega, h5⟩
  | @iptr rows i k' b d w' c e f hq hr =>
    simp only [rowOf, Option.map_eq_some_iff] at hrow
    obtain ⟨row', hi, he⟩ := hrow
    simp only [Prod.mk.injEq] at he
    obtain ⟨rfl, rfl⟩ := he
    refine ⟨_, _, rfl, fun j v hj => ?_⟩
    obtain ⟨_, h3⟩ := RR_iff.1 hr i _ hi
    obtain ⟨cv, h4, h5⟩ := h3 _ v hj
    exact ⟨cv, by rw [cell_add (r.imm _ _ hq), ← h4]; congr 1; omega, h5⟩
  | _ => simp [rowOf] at hrow

theorem list_of_cells {E : Env} {w : World} {a : Addr} : ∀ (l : List AV) (n : Nat), (∀ j v, l[j]? = some v → ∃ cv, w.cell? (a.add (n + j)) = some cv ∧ VR E v cv) →
    ∃ cs : List Value, VRs E l cs ∧ ∀ j cv, cs[j]? = some cv → w.cell? (a.add (n + j)) = some cv := by
  intro l
  induction l with
  | nil => exact fun n _ => ⟨[], .nil, fun j cv h => by simp at h⟩
  | cons v l ih =>
    intro n h
    obtain ⟨cv, h1, h2⟩ := h 0 v (by simp)
    obtain ⟨cs, h3, h4⟩ := ih (n + 1) (fun j v hj => by
      obtain ⟨cv, h5, h6⟩ := h (j + 1) v (by simpa using hj)
      exact ⟨cv, by rw [← h5]; congr 2; omega, h6⟩)
    refine ⟨cv :: cs, .cons h2 h3, fun j cv' hj => ?_⟩
    cases j with
    | zero => simp at hj; subst hj; exact h1
    | succ j => simp at hj; rw [← h4 j cv' hj]; congr 2; omega

/-! ### Types -/
def descOk (P : Program) (d : TypeDesc) : TD → Prop
  | .int k => d = .int k
  | .bool => d = .bool
  | .str => d = .string
  | .ptr => ∃ e, d = .pointer e
  | .slice e => d = .slice e
  | .arr n e => d = .array n e
  | .map k e => d = .map k e
  | .func => ∃ a b c, d = .func a b c
  | .iface => ∃ m, d = .interface m
  | .struct fs => ∃ a, d = .struct a ∧ fieldsOf P a.toList = some fs
  | .other => (∀ k, d ≠ .int k) ∧ (∀ m, d ≠ .interface m)

structure TyOk (P : Program) (t : TypeId) (ti : TI) (i : TypeInfo) (d : TypeDesc) (z : Value) : Prop where
  info : P.info? t = some i
  und : P.underlying t = some d
  zero : i.zero = some z
  zeros : ofVals z.cells.toList = some ti.zero
  size : i.size = ti.size
  bytes : i.bytes = ti.bytes
  agg : isAggD d = ti.agg
  desc : descOk P d ti.d
  zlen : ti.zero.length = ti.size
  zagg : isAggD d = isAggV z

theorem tdOf_ok {P : Program} {d : TypeDesc} {td : TD} (h : tdOf P d = some td) : descOk P d td := by
  cases d <;> simp only [tdOf, Option.some.injEq, Option.map_eq_some_iff] at h
  case struct fs => obtain ⟨l, hl, rfl⟩ := h; exact ⟨fs, rfl, hl⟩
  all_goals
    subst h
    first | rfl | exact ⟨_, rfl⟩ | exact ⟨_, _, _, rfl⟩ | exact ⟨(fun _ e => by cases e), (fun _ e => by cases e)⟩

theorem tiOf_ok {P : Program} {t : TypeId} {ti : TI} (h : tiOf P t = some ti) : ∃ i d z, TyOk P t ti i d z := by
  simp only [tiOf, Option.bind_eq_some_iff] at h
  obtain ⟨i, hi, d, hd, z, hz, zs, hzs, td, htd, h⟩ := h
  split at h
  · cases h
  · rename_i hl
    simp at h; subst h
    exact ⟨i, d, z, hi, hd, hz, hzs, rfl, rfl, rfl, tdOf_ok htd, Decidable.byContradiction fun e => hl (.inl e), Decidable.byContradiction fun e => hl (.inr e)⟩

end Go.Ai

/- Operations that only compute. -/
namespace Go.Ai
open Go.RowKit

mutual
theorem ofVal_ok {E : Env} : ∀ (v : Value) (a : AV), ofVal v = some a → VR E a v
  | .bool b, a, h => by simp [ofVal] at h; subst h; exact .bool b
  | .int k n, a, h => by simp [ofVal] at h; subst h; exact .int k n
  | .string s, a, h => by simp [ofVal] at h; subst h; exact .str s
  | .pointer none, a, h => by simp [ofVal] at h; subst h; exact .nilp
  | .pointer (some _), a, h => by simp [ofVal] at h
  | .slice none 0 0, a, h => by simp [ofVal] at h; subst h; exact .nils
  | .slice none (_ + 1) _, a, h => by simp [ofVal] at h
  | .slice none 0 (_ + 1), a, h => by simp [ofVal] at h
  | .slice (some _) _ _, a, h => by simp [ofVal] at h
  | .map none, a, h => by simp [ofVal] at h; subst h; exact .nilm
  | .map (some _), a, h => by simp [ofVal] at h
  | .nilFunc, a, h => by simp [ofVal] at h; subst h; exact .nilf
  | .nilIface, a, h => by simp [ofVal] at h; subst h; exact .nili
  | .func (.func _) ⟨[]⟩ ⟨[]⟩, a, h => by simp [ofVal] at h; subst h; exact .fn (by simpa using VRs.nil) (by simpa using VRs.nil)
  | .func (.func _) ⟨_ :: _⟩ _, a, h => by simp [ofVal] at h
  | .func (.func _) ⟨[]⟩ ⟨_ :: _⟩, a, h => by simp [ofVal] at h
  | .func (.method _) _ _, a, h => by simp [ofVal] at h
  | .func (.methodOf ..) _ _, a, h => by simp [ofVal] at h
  | .func (.via ..) _ _, a, h => by simp [ofVal] at h
  | .func (.yield _) _ _, a, h => by simp [ofVal] at h
  | .agg ⟨l⟩, a, h => by
    simp only [ofVal, Option.map_eq_some_iff] at h
    obtain ⟨m, hm, rfl⟩ := h
    exact .agg (ofVals_ok l m hm)
  | .tuple ⟨l⟩, a, h => by
    simp only [ofVal, Option.map_eq_some_iff] at h
    obtain ⟨m, hm, rfl⟩ := h
    exact .tup (ofVals_ok l m hm)
  | .float .., a, h => by simp [ofVal] at h
  | .complex .., a, h => by simp [ofVal] at h
  | .chan _, a, h => by simp [ofVal] at h
  | .iface .., a, h => by simp [ofVal] at h
theorem ofVals_ok {E : Env} : ∀ (l : List Value) (m : List AV), ofVals l = some m → VRs E m l
  | [], m, h => by simp [ofVals] at h; subst h; exact .nil
  | v :: l, m, h => by
    simp only [ofVals, Option.bind_eq_some_iff, Option.map_eq_some_iff] at h
    obtain ⟨a, ha, m', hm, rfl⟩ := h
    exact .cons (ofVal_ok v a ha) (ofVals_ok l m' hm)
end

def evT (tmps : Array Value) : Operand → Value
  | .tmp t => tmps.getD t undef
  | .const v => v
  | .global g => .pointer (some ⟨g, 0, none⟩)
  | .func f => .func (.func f) #[] #[]

theorem eval_evT (fr : Frame) : fr.eval = evT fr.tmps := by funext x; cases x <;> rfl

theorem opd_ok {E : Env} {ρ : List AV} {tmps : Array Value} (hρ : VRs E ρ tmps.toList) {x : Operand} {v : AV} (h : opd ρ x = some v) : VR E v (evT tmps x) := by
  cases x with
  | tmp t =>
    obtain ⟨cv, h1, h2⟩ := hρ.get h
    have : tmps.getD t undef = cv := by
      rw [Array.getElem?_toList] at h1
      simp [Array.getD_eq_getD_getElem?, h1]
    simpa [evT, this] using h2
  | const c => exact ofVal_ok c v h
  | global g => simp [opd] at h
  | func f => simp [opd] at h; subst h; exact .fn (by simpa using VRs.nil) (by simpa using VRs.nil)

theorem opds_ok {E : Env} {ρ : List AV} {tmps : Array Value} (hρ : VRs E ρ tmps.toList) : ∀ {l : List Operand} {vs : List AV}, opds ρ l = some vs → VRs E vs (l.map (evT tmps)) := by
  intro l
  induction l with
  | nil => intro vs h; simp [opds] at h; subst h; exact .nil
  | cons x l ih =>
    intro vs h
    simp only [opds, List.mapM_cons, Option.bind_eq_bind, Option.pure_def, Option.bind_eq_some_iff] at h
    obtain ⟨v, hv, vs', hvs, he⟩ := h
    simp at he; subst he
    exact .cons (opd_ok hρ hv) (ih hvs)

/-- It computes: in every world, and leaves it as it is. -/
def PureOk (P : Program) (s : Sem Value) (E : Env) (v : AV) : Prop := ∃ cv, (∀ w, s.run P w = .ok cv w) ∧ VR E v cv

theorem PureOk.pure {P : Program} {E : Env} {v : AV} {cv : Value} (h : VR E v cv) : PureOk P (Pure.pure cv) E v := ⟨cv, fun _ => rfl, h⟩

theorem binInt_ok {P : Program} {E : Env} {op : BinOp} {k : IntKind} {a b : Int} {v : AV} (h : binInt op k a b = some v) :
    ∃ cv, VR E v cv ∧ ∀ w, (match op with
      | .add | .sub | .mul => Op.intArith op k a b
      | .quo | .rem => Op.intDiv op k a b
      | .and | .or | .xor | .andNot => Op.intBits op k a b
      | _ => Op.intCmp op a b).run P w = .ok cv w := by
  cases op <;> simp only [binInt, Option.some.injEq] at h <;> try (cases h; done)
  case quo => split at h <;> simp at h; subst h; exact ⟨_, .int _ _, fun w => by simp [Op.intDiv, *]⟩
  case rem => split at h <;> simp at h; subst h; exact ⟨_, .int _ _, fun w => by simp [Op.intDiv, *]⟩
  all_goals
    subst h
    first
      | exact ⟨_, .int _ _, fun w => rfl⟩
      | exact ⟨_, .bool _, fun w => rfl⟩

theorem binStr_ok {P : Program} {E : Env} {op : BinOp} {a b : ByteArray} {v : AV} (h : binStr op a b = some v) : PureOk P (Op.stringOp op a b) E v := by
  cases op <;> simp only [binStr, Option.some.injEq] at h <;> try (cases h; done)
  case add =>
    split at h <;> simp at h
    subst h
    rename_i hs
    exact ⟨_, fun w => by
      have h' : (a.size : Int) + b.size ≤ 9223372036854775807 := by omega
      simp [Op.stringOp, h'], .str _⟩
  all_goals
    subst h
    exact ⟨_, fun w => rfl, .bool _⟩

end Go.Ai

/- '==' on values without addresses, and on structs of such. -/
namespace Go.Ai
open Go.RowKit

theorem run_typeInfo_of {P : Program} {t : TypeId} {i : TypeInfo} (h : P.info? t = some i) (w : World) : (typeInfo t).run P w = .ok i w := by
  simp [typeInfo, h]
theorem run_underlying_of {P : Program} {t : TypeId} {d : TypeDesc} (h : P.underlying t = some d) (w : World) : (underlying t).run P w = .ok d w := by
  simp [underlying, h]
theorem run_sizeOf_of {P : Program} {t : TypeId} {i : TypeInfo} (h : P.info? t = some i) (w : World) : (sizeOf t).run P w = .ok i.size w := by
  simp [sizeOf, run_typeInfo_of h]
theorem run_isAgg_of {P : Program} {t : TypeId} {d : TypeDesc} (h : P.underlying t = some d) (w : World) : (isAgg t).run P w = .ok (isAggD d) w := by
  simp only [isAgg, Sem.run_bind, run_underlying_of h, Result.andThen_ok]
  cases d <;> rfl

theorem eqFlat_append : ∀ (p q : List P3) (l m : List AV), fitsFlat (p ++ q) l = true → fitsFlat (p ++ q) m = true →
    eqFlat (p ++ q) l m = (eqFlat p (l.take p.length) (m.take p.length)).bind fun t => if t then eqFlat q (l.drop p.length) (m.drop p.length) else some false := by
  intro p
  induction p with
  | nil => intro q l m _ _; simp [eqFlat]
  | cons a p ih =>
    intro q l m hl hm
    cases l with
    | nil => cases a <;> simp [fitsFlat] at hl
    | cons x l =>
      cases m with
      | nil => cases a <;> simp [fitsFlat] at hm
      | cons y m =>
        cases a
        · cases x <;> simp [fitsFlat] at hl
          cases y <;> simp [fitsFlat] at hm
          simp only [List.cons_append, eqFlat, List.length_cons, List.take_succ_cons, List.drop_succ_cons]
          split
          · split
            · exact ih q l m hl hm
            · simp
          · simp
        · cases x <;> simp [fitsFlat] at hl
          cases y <;> simp [fitsFlat] at hm
          simp only [List.cons_append, eqFlat, List.length_cons, List.take_succ_cons, List.drop_succ_cons]
          split
          · exact ih q l m hl hm
          · simp
        · cases x <;> simp [fitsFlat] at hl
          cases y <;> simp [fitsFlat] at hm
          simp only [List.cons_append, eqFlat, List.length_cons, List.take_succ_cons, List.drop_succ_cons]
          split
          · exact ih q l m hl hm
          · simp

theorem fitsFlat_append : ∀ (p q : List P3) (l : List AV), fitsFlat (p ++ q) l = true → fitsFlat p (l.take p.length) = true ∧ fitsFlat q (l.drop p.length) = true := by
  intro p
  induction p with
  | nil => intro q l h; simpa [fitsFlat] using h
  | cons a p ih =>
    intro q l h
    cases l with
    | nil => cases a <;> simp [fitsFlat] at h
    | cons x l => cases a <;> cases x <;> simp [fitsFlat] at h ⊢ <;> exact ih q l h

theorem fitsFlat_length : ∀ (p : List P3) (l : List AV), fitsFlat p l = true → l.length = p.length := by
  intro p
  induction p with
  | nil => intro l h; cases l <;> simp [fitsFlat] at h ⊢
  | cons a p ih => intro l h; cases l with
    | nil => cases a <;> simp [fitsFlat] at h
    | cons x l => cases a <;> cases x <;> simp [fitsFlat] at h <;> simp [ih l h]

/-- A type's value, off its cells. -/
def asV (d : TypeDesc) (cl : List Value) : Value := if isAggD d then .agg ⟨cl⟩ else cl.headD undef

theorem run_part {P : Program} {t : TypeId} {i : TypeInfo} {d : TypeDesc} (hi : P.info? t = some i) (hd : P.underlying t = some d) (xs : Array Value) (off : Nat) (h : off + i.size ≤ xs.size)
    (h1 : isAggD d = false → i.size = 1) (w : World) : (part t xs off).run P w = .ok (asV d ((xs.toList.drop off).take i.size)) w := by
  simp only [part, Sem.run_bind, run_isAgg_of hd, Result.andThen_ok]
  cases hg : isAggD d
  · have hs := h1 hg
    have hlt : off < xs.size := by omega
    rw [hs]
    have e : (xs.toList.drop off).take 1 = [xs[off]] := by
      rw [List.drop_eq_getElem_cons (by simpa using hlt)]; simp
    simp [asV, hg, e, hlt]
  · simp only [if_true, Sem.run_bind, run_sizeOf_of hi, Result.andThen_ok, Sem.run_pure, asV, hg]
    congr 2
    apply Array.toList_inj.1
    simp [List.extract_eq_take_drop]

mutual
theorem flatTy_ok {P : Program} {E : Env} (w : World) : ∀ (n : Nat) (t : TypeId) (ps : List P3), flatTy P n t = some ps → ∀ (l m : List AV) (cl cm : List Value) (b : Bool),
    VRs E l cl → VRs E m cm → fitsFlat ps l = true → fitsFlat ps m = true → eqFlat ps l m = some b → ∀ k, n ≤ k →
    ∃ d, P.underlying t = some d ∧ (isAggD d = false → ps.length = 1) ∧ (Op.equalIn k t (asV d cl) (asV d cm)).run P w = .ok b w
  | 0, t, ps, h => by simp [flatTy] at h
  | n + 1, t, ps, h => by
    intro l m cl cm b hl hm fl fm he k hk
    obtain ⟨k, rfl⟩ : ∃ j, k = j + 1 := ⟨k - 1, by omega⟩
    simp only [flatTy] at h
    cases hd : P.underlying t with
    | none => simp [hd] at h
    | some d =>
      cases d <;> simp only [hd] at h <;> try (cases h; done)
      case int kk =>
        simp at h; subst h
        match l, fl with
        | [.int j a], _ =>
          match m, fm with
          | [.int j' a'], _ =>
            rcases hl with _ | ⟨h1, h2⟩; cases h1; cases h2
            rcases hm with _ | ⟨h1, h2⟩; cases h1; cases h2
            refine ⟨_, rfl, by simp, ?_⟩
            simp only [asV, isAggD, Bool.false_eq_true, if_false, List.headD_cons]
            simp only [eqFlat] at he
            split at he
            · rename_i hjj; subst hjj
              rw [run_equalIn_int w k t j kk a a' hd]
              split at he <;> simp at he <;> subst he <;> simp [*]
            · cases he
      case bool =>
        simp at h; subst h
        match l, fl with
        | [.bool a], _ =>
          match m, fm with
          | [.bool a'], _ =>
            rcases hl with _ | ⟨h1, h2⟩; cases h1; cases h2
            rcases hm with _ | ⟨h1, h2⟩; cases h1; cases h2
            refine ⟨_, rfl, by simp, ?_⟩
            simp only [asV, isAggD, Bool.false_eq_true, if_false, List.headD_cons]
            rw [run_equalIn_bool' w k t a a' hd]
            simp only [eqFlat] at he
            split at he <;> simp at he <;> subst he <;> simp [*]
      case string =>
        simp at h; subst h
        match l, fl with
        | [.str a], _ =>
          match m, fm with
          | [.str a'], _ =>
            rcases hl with _ | ⟨h1, h2⟩; cases h1; cases h2
            rcases hm with _ | ⟨h1, h2⟩; cases h1; cases h2
            refine ⟨_, rfl, by simp, ?_⟩
            simp only [asV, isAggD, Bool.false_eq_true, if_false, List.headD_cons]
            rw [run_equalIn_string w k t a a' hd]
            simp only [eqFlat] at he
            split at he <;> simp at he <;> subst he <;> simp [*]
      case struct fs =>
        split at h
        · cases h
        · rename_i hst
          refine ⟨_, rfl, by simp [isAggD], ?_⟩
          have hf : P.fieldsOf t = fs := by simp [Program.fieldsOf, hd]
          simp only [asV, isAggD, if_true]
          rw [run_equalIn_agg w k t ⟨cl⟩ ⟨cm⟩ (by rw [hf]; exact hd) (by simpa using hst), hf]
          have := flatFs_ok w n fs.toList 0 ps h l m ⟨cl⟩ ⟨cm⟩ b hl hm (by simpa using fl) (by simpa using fm) (by simpa using he) k (by omega)
          exact this
theorem flatFs_ok {P : Program} {E : Env} (w : World) : ∀ (n : Nat) (fs : List Field) (off : Nat) (ps : List P3), flatFs P n fs off = some ps → ∀ (l m : List AV) (xs ys : Array Value) (b : Bool),
    VRs E l xs.toList → VRs E m ys.toList → fitsFlat ps (l.drop off) = true → fitsFlat ps (m.drop off) = true → eqFlat ps (l.drop off) (m.drop off) = some b → ∀ k, n ≤ k →
    (Op.eqFields k xs ys fs).run P w = .ok b w
  | 0, fs, off, ps, h => by simp [flatFs] at h
  | n + 1, [], off, ps, h => by
    intro l m xs ys b hl hm fl fm he k hk
    simp [flatFs] at h; subst h
    have e1 : l.drop off = [] := by cases e : l.drop off with | nil => rfl | cons a b => rw [e] at fl; simp [fitsFlat] at fl
    have e2 : m.drop off = [] := by cases e : m.drop off with | nil => rfl | cons a b => rw [e] at fm; simp [fitsFlat] at fm
    rw [e1, e2] at he; simp [eqFlat] at he; subst he; rfl
  | n + 1, f :: fs, off, ps, h => by
    intro l m xs ys b hl hm fl fm he k hk
    simp only [flatFs] at h
    split at h
    · cases h
    · rename_i hn
      have hn1 : f.name ≠ "_" := fun e => hn (.inl e)
      have hn2 : f.offset = off := Decidable.byContradiction fun e => hn (.inr e)
      simp only [Option.bind_eq_some_iff] at h
      obtain ⟨a, ha, j, hj, h⟩ := h
      split at h
      · rename_i hja0
        obtain ⟨hja, hpos⟩ := hja0
        simp only [Option.map_eq_some_iff] at h
        obtain ⟨q, hq, rfl⟩ := h
        obtain ⟨fl1, fl2⟩ := fitsFlat_append a q _ fl
        obtain ⟨fm1, fm2⟩ := fitsFlat_append a q _ fm
        have ll := fitsFlat_length _ _ fl
        have lm := fitsFlat_length _ _ fm
        rw [eqFlat_append a q _ _ fl fm] at he
        have sl := hl.length
        have sm := hm.length
        simp at ll lm sl sm
        cases ht : eqFlat a ((l.drop off).take a.length) ((m.drop off).take a.length) with
        | none => rw [ht] at he; cases he
        | some b1 =>
          rw [ht] at he
          obtain ⟨d, hd, hd1, hr⟩ := flatTy_ok w n f.type a ha _ _ _ _ b1 ((hl.drop off).take a.length) ((hm.drop off).take a.length) fl1 fm1 ht k (by omega)
          have hxs : off + j.size ≤ xs.size := by rw [hja]; omega
          have hys : off + j.size ≤ ys.size := by rw [hja]; omega
          simp only [Op.eqFields, if_pos hn1, hn2, Sem.run_bind]
          rw [run_part hj hd xs off hxs (fun e => by rw [hja]; exact hd1 e)]
          simp only [Result.andThen_ok]
          rw [run_part hj hd ys off hys (fun e => by rw [hja]; exact hd1 e)]
          simp only [Result.andThen_ok, hja, hr]
          cases b1
          · simp at he; subst he; simp
          · simp only [Option.bind_some, if_true, List.drop_drop] at he fl2 fm2
            simp only [Bool.not_true, Bool.false_eq_true, if_false]
            exact flatFs_ok w n fs (off + a.length) q hq l m xs ys b hl hm fl2 fm2 he k (by omega)
      · cases h
end

end Go.Ai

/- Operators. -/
namespace Go.Ai
open Go.RowKit

/-- What the interpreter is told of types is so. -/
def TOk (C : Cfg) : Prop := ∀ t ti, C.T t = some ti → tiOf C.P t = some ti

theorem TOk.ty {C : Cfg} (hT : TOk C) {t : TypeId} {ti : TI} (h : C.T t = some ti) : ∃ i d z, TyOk C.P t ti i d z := tiOf_ok (hT t ti h)

theorem tiOf_flat {P : Program} {t : TypeId} {ti : TI} (h : tiOf P t = some ti) {ps : List P3} (hf : ti.flat = some ps) : P.eqGuardType P.depth t = false ∧ flatTy P 40 t = some ps := by
  simp only [tiOf, Option.bind_eq_some_iff] at h
  obtain ⟨i, hi, d, hd, z, hz, zs, hzs, td, htd, h⟩ := h
  split at h
  · cases h
  simp at h; subst h
  simp only at hf
  split at hf
  · cases hf
  · rename_i hg; exact ⟨by simpa using hg, hf⟩

/-- Two values, held against each other at a type. -/
theorem eqT_ok {C : Cfg} {E : Env} (hT : TOk C) {t : TypeId} {a b : AV} {ca cb : Value} (ha : VR E a ca) (hb : VR E b cb) {r : Bool} (h : eqT (C.T t) a b = some r) :
    (∀ w k, 40 ≤ k → (Op.equalIn k t ca cb).run C.P w = .ok r w) ∧ ∀ op x y w, (isNili a && isNili b && !isConstO x && !isConstO y) = false → (eqGuard op t x y ca cb).run C.P w = .ok () w := by
  unfold eqT at h
  split at h
  · rename_i l m
    simp only [Option.bind_eq_some_iff] at h
    obtain ⟨ti, hti, ps, hps, h⟩ := h
    obtain ⟨hg, hfl⟩ := tiOf_flat (hT t ti hti) hps
    split at h
    · rename_i hf
      rw [Bool.and_eq_true, Bool.and_eq_true] at hf
      obtain ⟨⟨hag, hf1⟩, hf2⟩ := hf
      cases ha with
      | agg ha => cases hb with
        | agg hb =>
          refine ⟨fun w k hk => ?_, fun op x y w _ => run_eqGuard_agg w op t x y _ _ hg⟩
          obtain ⟨d, hd, hd1, hr⟩ := flatTy_ok (P := C.P) w 40 t ps hfl _ _ _ _ r ha hb hf1 hf2 h k hk
          obtain ⟨i, d', z, ty⟩ := hT.ty hti
          have hd' := ty.und
          rw [hd] at hd'; cases hd'
          have hag' := ty.agg.trans hag
          simpa [asV, hag'] using hr
    · cases h
  · rename_i x y _
    simp only [Option.bind_eq_some_iff] at h
    obtain ⟨ti, hti, h⟩ := h
    obtain ⟨i, d, z, ty⟩ := hT.ty hti
    have hu := run_underlying_of ty.und
    have hdesc := ty.desc
    split at h
    · rename_i hf
      rw [Bool.and_eq_true] at hf
      obtain ⟨h1, h2⟩ := hf
      cases hd : ti.d <;> rw [hd] at h1 h2 hdesc <;> simp only [descOk] at hdesc
      case other => cases ha <;> simp [eqTd] at h1
      case arr => cases ha <;> simp [eqTd] at h1
      case struct => cases ha <;> simp [eqTd] at h1
      case int k =>
        subst hdesc
        cases ha <;> simp [eqTd] at h1
        cases hb <;> simp [eqTd] at h2
        simp [eqA] at h
        obtain ⟨rfl, h⟩ := h
        subst h
        exact ⟨fun w k hk => by obtain ⟨k, rfl⟩ : ∃ j, k = j + 1 := ⟨k - 1, by omega⟩; rw [Op.equalIn, Sem.run_bind, hu]; simp, fun op x y w hn => by cases op <;> rfl⟩
      case bool =>
        subst hdesc
        cases ha <;> simp [eqTd] at h1
        cases hb <;> simp [eqTd] at h2
        simp [eqA] at h
        subst h
        exact ⟨fun w k hk => by obtain ⟨k, rfl⟩ : ∃ j, k = j + 1 := ⟨k - 1, by omega⟩; rw [Op.equalIn, Sem.run_bind, hu]; rfl, fun op x y w hn => by cases op <;> rfl⟩
      case str =>
        subst hdesc
        cases ha <;> simp [eqTd] at h1
        cases hb <;> simp [eqTd] at h2
        simp [eqA] at h
        subst h
        exact ⟨fun w k hk => by obtain ⟨k, rfl⟩ : ∃ j, k = j + 1 := ⟨k - 1, by omega⟩; rw [Op.equalIn, Sem.run_bind, hu, ← beq_toListBytes]; rfl, fun op x y w hn => by cases op <;> rfl⟩
      case ptr =>
        obtain ⟨e, rfl⟩ := hdesc
        cases ha <;> simp [eqTd] at h1 <;> cases hb <;> simp [eqTd] at h2 <;> simp [eqA] at h <;> subst h <;>
          exact ⟨fun w k hk => by obtain ⟨k, rfl⟩ : ∃ j, k = j + 1 := ⟨k - 1, by omega⟩; rw [Op.equalIn, Sem.run_bind, hu]; rfl, fun op x y w hn => by cases op <;> rfl⟩
      case slice =>
        subst hdesc
        cases ha <;> simp [eqTd] at h1 <;> cases hb <;> simp [eqTd] at h2 <;> simp [eqA] at h <;> subst h <;>
          exact ⟨fun w k hk => by obtain ⟨k, rfl⟩ : ∃ j, k = j + 1 := ⟨k - 1, by omega⟩; rw [Op.equalIn, Sem.run_bind, hu]; rfl, fun op x y w hn => by cases op <;> rfl⟩
      case map =>
        subst hdesc
        cases ha <;> simp [eqTd] at h1 <;> cases hb <;> simp [eqTd] at h2 <;> simp [eqA] at h <;> subst h <;>
          exact ⟨fun w k hk => by obtain ⟨k, rfl⟩ : ∃ j, k = j + 1 := ⟨k - 1, by omega⟩; rw [Op.equalIn, Sem.run_bind, hu]; rfl, fun op x y w hn => by cases op <;> rfl⟩
      case func =>
        obtain ⟨_, _, _, rfl⟩ := hdesc
        cases ha <;> simp [eqTd] at h1 <;> cases hb <;> simp [eqTd] at h2 <;> simp [eqA] at h <;> subst h <;>
          exact ⟨fun w k hk => by obtain ⟨k, rfl⟩ : ∃ j, k = j + 1 := ⟨k - 1, by omega⟩; rw [Op.equalIn, Sem.run_bind, hu]; rfl, fun op x y w hn => by cases op <;> rfl⟩
      case iface =>
        obtain ⟨_, rfl⟩ := hdesc
        cases ha <;> simp [eqTd] at h1 <;> cases hb <;> simp [eqTd] at h2 <;> simp [eqA] at h <;> subst h
        case nili.nili =>
          refine ⟨fun w k hk => by obtain ⟨k, rfl⟩ : ∃ j, k = j + 1 := ⟨k - 1, by omega⟩; rw [Op.equalIn, Sem.run_bind, hu]; rfl, fun op x y w hn => ?_⟩
          cases op <;> cases x <;> cases y <;> first | rfl | (simp [isNili, isConstO] at hn)
        all_goals exact ⟨fun w k hk => by obtain ⟨k, rfl⟩ : ∃ j, k = j + 1 := ⟨k - 1, by omega⟩; rw [Op.equalIn, Sem.run_bind, hu]; rfl, fun op x y w hn => by cases op <;> rfl⟩
    · cases h

end Go.Ai

/- Operators, and what else computes. -/
namespace Go.Ai
open Go.RowKit

theorem binE_ok {C : Cfg} {E : Env} (hT : TOk C) {op : BinOp} {t : TypeId} {x y : Operand} {a b : AV} {ca cb : Value} (ha : VR E a ca) (hb : VR E b cb) {v : AV}
    (hn : (isNili a && isNili b && !isConstO x && !isConstO y) = false) (h1 : (isInt a && isInt b) = false) (h2 : (isStr a && isStr b) = false) (h : binE op (C.T t) a b = some v) :
    ∃ cv, VR E v cv ∧ ∀ w, (do eqGuard op t x y ca cb; Go.binOp op t ca cb : Sem Value).run C.P w = .ok cv w := by
  cases op <;> simp only [binE, Option.map_eq_some_iff] at h <;> try (cases h; done)
  case eql =>
    obtain ⟨r, hr, rfl⟩ := h
    refine ⟨.bool r, .bool _, fun w => ?_⟩
    have e : Go.binOp .eql t ca cb = (do Pure.pure (.bool (← Op.equal t ca cb))) := by
      cases ha <;> cases hb <;> first | rfl | (simp [isInt] at h1; done) | (simp [isStr] at h2; done)
    simp only [Sem.run_bind, (eqT_ok hT ha hb hr).2 .eql x y w hn, Result.andThen_ok, e, Op.equal, Op.maxDepth, (eqT_ok hT ha hb hr).1 w 10000 (by omega), Sem.run_pure]
  case neq =>
    obtain ⟨r, hr, rfl⟩ := h
    refine ⟨.bool !r, .bool _, fun w => ?_⟩
    have e : Go.binOp .neq t ca cb = (do Pure.pure (.bool !(← Op.equal t ca cb))) := by
      cases ha <;> cases hb <;> first | rfl | (simp [isInt] at h1; done) | (simp [isStr] at h2; done)
    simp only [Sem.run_bind, (eqT_ok hT ha hb hr).2 .neq x y w hn, Result.andThen_ok, e, Op.equal, Op.maxDepth, (eqT_ok hT ha hb hr).1 w 10000 (by omega), Sem.run_pure]

theorem binA_ok {C : Cfg} {E : Env} (hT : TOk C) {op : BinOp} {t : TypeId} {x y : Operand} {a b : AV} {ca cb : Value} (ha : VR E a ca) (hb : VR E b cb) {v : AV}
    (hn : (isNili a && isNili b && !isConstO x && !isConstO y) = false) (h : binA op (C.T t) a b = some v) :
    ∃ cv, VR E v cv ∧ ∀ w, (do eqGuard op t x y ca cb; Go.binOp op t ca cb : Sem Value).run C.P w = .ok cv w := by
  by_cases h1 : (isInt a && isInt b) = true
  · cases ha <;> simp [isInt] at h1
    cases hb <;> simp [isInt] at h1
    rename_i k i k' j
    have e : ∀ w, (eqGuard op t x y (.int k i) (.int k' j)).run C.P w = .ok () w := fun w => by cases op <;> rfl
    simp only [binA, binII] at h
    split at h
    · split at h <;> simp at h
      subst h
      rename_i hb0
      exact ⟨_, .int _ _, fun w => by simp [e, Go.binOp, Op.shift, hb0]⟩
    · split at h <;> simp at h
      subst h
      rename_i hb0
      exact ⟨_, .int _ _, fun w => by simp [e, Go.binOp, Op.shift, hb0]⟩
    · rename_i hne1 hne2
      split at h
      · rename_i hk; subst hk
        obtain ⟨cv, hv, hr⟩ := binInt_ok (P := C.P) (E := E) h
        refine ⟨cv, hv, fun w => ?_⟩
        simp only [Sem.run_bind, e, Result.andThen_ok]
        rw [← hr w]
        cases op <;> first | (exact (hne1 rfl).elim) | (exact (hne2 rfl).elim) | simp [Go.binOp]
      · cases h
  · by_cases h2 : (isStr a && isStr b) = true
    · cases ha <;> simp [isStr] at h2
      cases hb <;> simp [isStr] at h2
      rename_i s s'
      obtain ⟨cv, hr, hv⟩ := binStr_ok (P := C.P) (E := E) h
      refine ⟨cv, hv, fun w => ?_⟩
      have e : (eqGuard op t x y (.string s) (.string s')).run C.P w = .ok () w := by cases op <;> rfl
      simp only [Sem.run_bind, e, Result.andThen_ok]
      rw [← hr w]
      cases op <;> rfl
    · refine binE_ok hT ha hb hn (by simpa using h1) (by simpa using h2) ?_
      rw [← h]
      cases a <;> first | rfl | (cases b <;> first | rfl | (simp [isInt] at h1; done) | (simp [isStr] at h2; done))

theorem unA_ok {P : Program} {E : Env} {op : UnOp} {a : AV} {ca : Value} (ha : VR E a ca) {v : AV} (h : unA op a = some v) : ∃ cv, VR E v cv ∧ ∀ w, (Op.unary op ca).run P w = .ok cv w := by
  unfold unA at h
  split at h
  · cases ha; simp at h; subst h; exact ⟨_, .bool _, fun w => rfl⟩
  · cases ha; simp at h; subst h; exact ⟨_, .int _ _, fun w => by simp [Op.unary, Op.intArith]⟩
  · cases ha
    obtain ⟨cv, hv, hr⟩ := binInt_ok (P := P) (E := E) h
    exact ⟨cv, hv, fun w => by rw [← hr w]; rfl⟩
  · cases h

end Go.Ai
