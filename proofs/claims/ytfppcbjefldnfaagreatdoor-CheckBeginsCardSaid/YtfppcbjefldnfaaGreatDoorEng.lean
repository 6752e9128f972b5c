/- A predicate transformer over the loaded code, and that it is sound. Conditions: none of its own; it speaks of any program. -/
import Derived.Orders
import Derived.Tactics
import Derived.WalkKit
import Derived.Deep.LoopGhost
namespace Go.X
open Go.RowKit

/-- What stands in a slot: a value, or the address of a hidden box of the call's own. -/
inductive XV where
  | v (x : Value)
  | loc (k off : Nat)
def XV.real (β : Nat → Nat) : XV → Value
  | .v x => x
  | .loc k o => .pointer (some ⟨β k, o, none⟩)

/-- The state: the slots, how many boxes, what is in them. -/
structure St where
  fr : Nat → XV
  nb : Nat
  mem : Nat → List Value
def St.set (st : St) (d : Option Nat) (x : XV) : St :=
  match d with
  | some d => { st with fr := fun i => bif Nat.beq i d then x else st.fr i }
  | none => st
def St.setMem (st : St) (k : Nat) (cs : List Value) : St := { st with mem := fun i => bif Nat.beq i k then cs else st.mem i }
def St.newBox (st : St) (cs : List Value) : St := { st with nb := st.nb + 1, mem := fun i => bif Nat.beq i st.nb then cs else st.mem i }

/-- A block that is hidden. -/
def hole : Obj := .coro none
def isHole : Obj → Bool
  | .coro none => true
  | _ => false

/-- 'ω' is what is seen of 'W'. -/
structure Sees (ω W : World) : Prop where
  os : W.os = ω.os
  tape : W.tape = ω.tape
  output : W.output = ω.output
  size : ω.heap.size ≤ W.heap.size
  blk : ∀ (j : Nat) o, ω.heap[j]? = some o → isHole o = false → W.heap[j]? = some o
def Hid (ω : World) (j : Nat) : Prop := ∀ (o : Obj), ω.heap[j]? = some o → isHole o = true
/-- What was hidden stays as it was, and hidden. -/
structure Keeps (ω W ω' W' : World) : Prop where
  size : W.heap.size ≤ W'.heap.size
  hid : ∀ j, j < W.heap.size → Hid ω j → Hid ω' j ∧ W'.heap[j]? = W.heap[j]?
theorem Sees.refl (w : World) : Sees w w := ⟨rfl, rfl, rfl, Nat.le_refl _, fun _ _ h _ => h⟩
theorem Keeps.refl (ω W : World) : Keeps ω W ω W := ⟨Nat.le_refl _, fun _ _ h => ⟨h, rfl⟩⟩
theorem Keeps.trans {a A b B c C : World} (h : Keeps a A b B) (g : Keeps b B c C) : Keeps a A c C :=
  ⟨Nat.le_trans h.size g.size, fun j hj hh => by
    have h1 := h.hid j hj hh
    have h2 := g.hid j (Nat.lt_of_lt_of_le hj h.size) h1.1
    exact ⟨h2.1, h2.2.trans h1.2⟩⟩
theorem Sees.cell {ω W : World} (h : Sees ω W) {a : Addr} {v : Value} (hc : ω.cell? a = some v) : W.cell? a = some v := by
  unfold World.cell? at *
  cases ho : ω.heap[a.block]? with
  | none => simp [ho] at hc
  | some o =>
    rw [ho] at hc
    cases o with
    | cells c e f => rw [h.blk _ _ ho rfl]; exact hc
    | _ => simp at hc
theorem Sees.frozen {ω W : World} (h : Sees ω W) {a : Addr} {v : Value} (hc : ω.cell? a = some v) : W.frozen? a = ω.frozen? a := by
  unfold World.cell? at hc
  unfold World.frozen?
  cases ho : ω.heap[a.block]? with
  | none => simp [ho] at hc
  | some o =>
    rw [ho] at hc
    cases o with
    | cells c e f => rw [h.blk _ _ ho rfl]
    | _ => simp at hc
/-- A world that has grown: all that was there is as it was. -/
structure Ext (ω ω' : World) : Prop where
  os : ω'.os = ω.os
  tape : ω'.tape = ω.tape
  output : ω'.output = ω.output
  size : ω.heap.size ≤ ω'.heap.size
  blk : ∀ (j : Nat), j < ω.heap.size → ω'.heap[j]? = ω.heap[j]?
theorem Ext.refl (w : World) : Ext w w := ⟨rfl, rfl, rfl, Nat.le_refl _, fun _ _ => rfl⟩
theorem Ext.trans {a b c : World} (h : Ext a b) (g : Ext b c) : Ext a c :=
  ⟨g.os.trans h.os, g.tape.trans h.tape, g.output.trans h.output, Nat.le_trans h.size g.size, fun j hj => (g.blk j (Nat.lt_of_lt_of_le hj h.size)).trans (h.blk j hj)⟩

/-- The machine enters the function: it has a body. -/
def Enters (P : Program) (f : FuncId) : Prop := ∀ (args : Array Value) (w : World), (callFunc f args).run P w = .ok (.enter f args) w
/-- THE CONTRACT: called in whatever world of which 'ω' is seen. -/
def CallX (P : Program) (f : FuncId) (args : List Value) (ω : World) (Q : Value → World → Prop) : Prop :=
  Enters P f ∧ ∀ W, Sees ω W → Calls P f args.toArray W fun e W' => ∃ v ω', e = .returned v ∧ Sees ω' W' ∧ Keeps ω W ω' W' ∧ Q v ω'
theorem CallX.mono {P : Program} {f : FuncId} {args : List Value} {ω : World} {Q Q' : Value → World → Prop} (h : CallX P f args ω Q) (hq : ∀ v ω', Q v ω' → Q' v ω') : CallX P f args ω Q' :=
  ⟨h.1, fun W hW => (h.2 W hW).mono fun _ _ ⟨v, ω', a, b, c, d⟩ => ⟨v, ω', a, b, c, hq _ _ d⟩⟩
/-- An operation that acts: in whatever world of which 'ω' is seen. -/
def OpX (P : Program) (ρ : Operand → Value) (o : Oper) (ω : World) (Q : Value → World → Prop) : Prop :=
  ∀ W, Sees ω W → ∃ v W' ω', ((execOp ρ o).run P W = .ok (.value v) W' ∨ (v = undef ∧ (execOp ρ o).run P W = .ok .skip W')) ∧ Sees ω' W' ∧ Keeps ω W ω' W' ∧ Q v ω'
theorem OpX.mono {P : Program} {ρ : Operand → Value} {o : Oper} {ω : World} {Q Q' : Value → World → Prop} (h : OpX P ρ o ω Q) (hq : ∀ v ω', Q v ω' → Q' v ω') : OpX P ρ o ω Q' :=
  fun W hW => let ⟨v, W', ω', a, b, c, d⟩ := h W hW; ⟨v, W', ω', a, b, c, hq _ _ d⟩

/-! ### The types -/
inductive TD where
  | bad | bool | int (k : IntKind) | str | ptr | iface | func
  | slice (e : Nat) | struct (fs : List (Nat × Nat)) | array (n e : Nat) | map (k e : Nat)
structure TI where
  d : TD
  size : Nat
  bytes : Nat
  zero : List Value
abbrev Tab := Nat → TI
def TD.agg : TD → Bool
  | .struct _ | .array _ _ => true
  | _ => false
def fits (d : TD) (u : TypeDesc) : Prop :=
  match d, u with
  | .bool, .bool => True
  | .int k, .int k' => k = k'
  | .str, .string => True
  | .ptr, .pointer _ => True
  | .iface, .interface _ => True
  | .func, .func _ _ _ => True
  | .slice e, .slice e' => e = e'
  | .struct fs, .struct fs' => fs'.toList.map (fun f => (f.offset, f.type)) = fs
  | .array n e, .array n' e' => n = n' ∧ e = e'
  | .map k e, .map k' e' => k = k' ∧ e = e'
  | _, _ => False
structure TOk (P : Program) (t : Nat) (ti : TI) : Prop where
  desc : ∃ u, P.underlying t = some u ∧ fits ti.d u
  info : ∃ i z, P.info? t = some i ∧ i.size = ti.size ∧ i.bytes = ti.bytes ∧ i.zero = some z ∧ z.cells.toList = ti.zero ∧ (ti.d.agg = true → ∃ c, z = .agg c) ∧ (∀ k, ti.d = .int k → i.comparable = true)
def TabOk (P : Program) (T : Tab) : Prop := ∀ t, (match (T t).d with | .bad => True | _ => TOk P t (T t))
end Go.X
namespace Go.X

/-- What a load has read, to be held on to while orders are open: is it a box? what holds. -/
abbrev Stab := Option (Bool × ((Nat → List Value) → World → Prop))
abbrev NK := XV → Stab → Prop

def ev (st : St) : Operand → XV
  | .tmp t => st.fr t
  | .const v => .v v
  | .global g => .v (.pointer (some ⟨g, 0, none⟩))
  | .func f => .v (.func (.func f) #[] #[])

def kindB : IntKind → IntKind → Bool
  | .i8, .i8 | .i16, .i16 | .i32, .i32 | .i64, .i64 | .u8, .u8 | .u16, .u16 | .u32, .u32 | .u64, .u64 => true
  | _, _ => false
theorem kindB_ok {a b : IntKind} (h : kindB a b = true) : a = b := by cases a <;> cases b <;> first | rfl | (cases h; done)
def In64 (a : Int) : Prop := -9223372036854775808 ≤ a ∧ a ≤ 9223372036854775807

def intX (op : BinOp) (k : IntKind) (a b : Int) (kk : Value → Prop) : Prop :=
  match op with
  | .add => (match k with | .i64 => In64 (a + b) ∧ kk (.int .i64 (a + b)) | k => kk (.int k (k.wrap (a + b))))
  | .sub => (match k with | .i64 => In64 (a - b) ∧ kk (.int .i64 (a - b)) | k => kk (.int k (k.wrap (a - b))))
  | .mul => (match k with | .i64 => In64 (a * b) ∧ kk (.int .i64 (a * b)) | k => kk (.int k (k.wrap (a * b))))
  | .quo => b ≠ 0 ∧ (match k with | .i64 => In64 (a.tdiv b) ∧ kk (.int .i64 (a.tdiv b)) | k => kk (.int k (k.wrap (a.tdiv b))))
  | .rem => b ≠ 0 ∧ kk (.int k (a.tmod b))
  | .and => kk (.int k (k.wrap (BitVec.ofInt k.bits a &&& BitVec.ofInt k.bits b).toNat))
  | .or => kk (.int k (k.wrap (BitVec.ofInt k.bits a ||| BitVec.ofInt k.bits b).toNat))
  | .xor => kk (.int k (k.wrap (BitVec.ofInt k.bits a ^^^ BitVec.ofInt k.bits b).toNat))
  | .eql => (a = b → kk (.bool true)) ∧ (a ≠ b → kk (.bool false))
  | .neq => (a ≠ b → kk (.bool true)) ∧ (a = b → kk (.bool false))
  | .lss => (a < b → kk (.bool true)) ∧ (b ≤ a → kk (.bool false))
  | .leq => (a ≤ b → kk (.bool true)) ∧ (b < a → kk (.bool false))
  | .gtr => (b < a → kk (.bool true)) ∧ (a ≤ b → kk (.bool false))
  | .geq => (b ≤ a → kk (.bool true)) ∧ (a < b → kk (.bool false))
  | _ => False
def shX (op : BinOp) (k : IntKind) (a b : Int) (kk : Value → Prop) : Prop :=
  match op with
  | .shl => 0 ≤ b ∧ kk (.int k (k.wrap (a * 2 ^ (min b.toNat k.bits))))
  | .shr => 0 ≤ b ∧ kk (.int k (a.fdiv (2 ^ (min b.toNat k.bits))))
  | _ => False
def strX (op : BinOp) (a b : ByteArray) (kk : Value → Prop) : Prop :=
  match op with
  | .add => a.size + b.size ≤ 9223372036854775807 ∧ kk (.string (a ++ b))
  | .eql => (a = b → kk (.bool true)) ∧ (a ≠ b → kk (.bool false))
  | .neq => (a ≠ b → kk (.bool true)) ∧ (a = b → kk (.bool false))
  | .lss => (Op.bytesLess a.toList b.toList = true → kk (.bool true)) ∧ (Op.bytesLess a.toList b.toList = false → kk (.bool false))
  | .geq => (Op.bytesLess a.toList b.toList = false → kk (.bool true)) ∧ (Op.bytesLess a.toList b.toList = true → kk (.bool false))
  | .gtr => (Op.bytesLess b.toList a.toList = true → kk (.bool true)) ∧ (Op.bytesLess b.toList a.toList = false → kk (.bool false))
  | .leq => (Op.bytesLess b.toList a.toList = false → kk (.bool true)) ∧ (Op.bytesLess b.toList a.toList = true → kk (.bool false))
  | _ => False
def isC : Operand → Bool
  | .const _ => true
  | _ => false
/-- '==' of what is no number and no text: a way to a Bool that is known by sight. -/
def eqX (T : Tab) (t : Nat) (c : Bool) (x y : XV) (kb : Bool → Prop) : Prop :=
  match (T t).d with
  | .iface =>
    (match x, y with
    | .v .nilIface, .v .nilIface => c = true ∧ kb true
    | .v (.iface _ _), .v .nilIface => kb false
    | .v .nilIface, .v (.iface _ _) => kb false
    | .v (.iface t1 (.int k a)), .v (.iface t2 (.int k' b)) =>
      bif Nat.beq t1 t2 then (match (T t1).d with | .int k1 => bif kindB k1 k && kindB k k' then (a = b → kb true) ∧ (a ≠ b → kb false) else False | _ => False) else kb false
    | .v (.iface t1 _), .v (.iface t2 _) => bif Nat.beq t1 t2 then False else kb false
    | _, _ => False)
  | .slice _ =>
    (match x, y with
    | .v (.slice none _ _), .v (.slice none _ _) => kb true
    | .v (.slice (some _) _ _), .v (.slice none _ _) => kb false
    | .v (.slice none _ _), .v (.slice (some _) _ _) => kb false
    | _, _ => False)
  | .map _ _ =>
    (match x, y with
    | .v (.map none), .v (.map none) => kb true
    | .v (.map (some _)), .v (.map none) => kb false
    | _, _ => False)
  | .ptr =>
    (match x, y with
    | .v (.pointer none), .v (.pointer none) => kb true
    | .v (.pointer (some _)), .v (.pointer none) => kb false
    | .loc _ _, .v (.pointer none) => kb false
    | _, _ => False)
  | .bool =>
    (match x, y with
    | .v (.bool a), .v (.bool b) => (a = b → kb true) ∧ (a ≠ b → kb false)
    | _, _ => False)
  | _ => False
def binX (T : Tab) (st : St) (op : BinOp) (t : Nat) (x y : Operand) (kk : Value → Prop) : Prop :=
  match ev st x, ev st y with
  | .v (.int k a), .v (.int k' b) =>
    (match op with
    | .shl | .shr => shX op k a b kk
    | _ => bif kindB k k' then intX op k a b kk else False)
  | .v (.string a), .v (.string b) => strX op a b kk
  | xv, yv =>
    (match op with
    | .eql => eqX T t (isC x || isC y) xv yv (fun b => kk (.bool b))
    | .neq => eqX T t (isC x || isC y) xv yv (fun b => kk (.bool (!b)))
    | _ => False)

def addA (a : Addr) (n : Nat) : Addr :=
  match n with
  | 0 => a
  | n + 1 => ⟨a.block, a.off + (n + 1), none⟩
theorem addA_eq (a : Addr) (n : Nat) : addA a n = a.add n := by cases n <;> simp [addA, Addr.add]

/-- 'i * n', plain where n is 1. -/
def times (i : Nat) : Nat → Nat
  | 1 => i
  | n => i * n
theorem times_eq (i n : Nat) : times i n = i * n := by
  unfold times
  split
  · rw [Nat.mul_one]
  · rfl
def nth {α : Type} : List α → Nat → Option α
  | [], _ => none
  | x :: _, 0 => some x
  | _ :: l, n + 1 => nth l n
theorem nth_eq {α : Type} : ∀ (l : List α) (n : Nat), nth l n = l[n]?
  | [], n => by simp [nth]
  | x :: l, 0 => by simp [nth]
  | x :: l, n + 1 => by simp [nth, nth_eq l n]

/-- These cells stand there. -/
def CellsAt (ω : World) (a : Addr) (vs : List Value) : Prop := ∀ i v, vs[i]? = some v → ω.cell? (a.add i) = some v

/-- The values of operands that are no boxes. -/
def plain (st : St) (x : Operand) (k : Value → Prop) : Prop :=
  match ev st x with
  | .v v => k v
  | _ => False
def plains (st : St) : List Operand → (List Value → Prop) → Prop
  | [], k => k []
  | x :: l, k => plain st x fun v => plains st l fun vs => k (v :: vs)

/-- 'fill' on lists: the parts' cells at their offsets. -/
def putCells (cs : List Value) (off : Nat) : List Value → List Value
  | [] => cs
  | v :: vs => putCells (cs.set off v) (off + 1) vs
def fillX (place : Nat → Option (Nat × Nat)) (st : St) (cs : List Value) : List (Nat × Operand) → (List Value → Prop) → Prop
  | [], k => k cs
  | (i, x) :: rest, k =>
    match place i with
    | none => False
    | some (off, size) => plain st x fun v => (v.cells.toList.length = size ∧ off + size ≤ cs.length) ∧ fillX place st (putCells cs off v.cells.toList) rest k
def bnd (st : St) (o : Option Operand) (d : Int) (k : Int → Prop) : Prop :=
  match o with
  | none => k d
  | some x => (match ev st x with | .v (.int _ i) => k i | _ => False)

def goods (T : Tab) : List (Nat × Nat) → Bool
  | [] => true
  | (_, t) :: l => (match (T t).d with | .bad => false | _ => goods T l)
def nX (T : Tab) (st : St) (ω : World) (op : Op) (k : NK) : Prop :=
  match op with
  | .move x | .assign x => k (ev st x) none
  | .pick c a b => (match ev st c with
    | .v (.bool true) => k (ev st a) none
    | .v (.bool false) => k (ev st b) none
    | _ => False)
  | .load t a => (match ev st a with
    | .loc b o => (bif (T t).d.agg
        then (match (T t).d with | .bad => False | _ => o + (T t).size ≤ (st.mem b).length ∧ k (.v (.agg (((st.mem b).drop o).take (T t).size).toArray)) (some (true, fun m _ => ((m b).drop o).take (T t).size = ((st.mem b).drop o).take (T t).size)))
        else (match (T t).d with | .bad => False | _ => (match nth (st.mem b) o with | some v => k (.v v) (some (true, fun m _ => (m b)[o]? = some v)) | none => False)))
    | .v (.pointer (some ad)) => (bif (T t).d.agg
        then (match (T t).d with | .bad => False | _ => ∃ vs, vs.length = (T t).size ∧ CellsAt ω ad vs ∧ k (.v (.agg vs.toArray)) (some (false, fun _ ω => CellsAt ω ad vs)))
        else (match (T t).d with | .bad => False | _ => ∃ v, ω.cell? ad = some v ∧ k (.v v) (some (false, fun _ ω => ω.cell? ad = some v))))
    | _ => False)
  | .nilCheck x => (match ev st x with
    | .loc b o => k (.loc b o) none
    | .v (.pointer (some a)) => k (.v (.pointer (some a))) none
    | .v (.func (.func f) a b) => k (.v (.func (.func f) a b)) none
    | .v (.iface t v) => k (.v (.iface t v)) none
    | _ => False)
  | .binOp op t x y _ => binX T st op t x y fun v => k (.v v) none
  | .unOp .not _ x => (match ev st x with
    | .v (.bool true) => k (.v (.bool false)) none
    | .v (.bool false) => k (.v (.bool true)) none
    | _ => False)
  | .unOp .neg _ x => (match ev st x with
    | .v (.int .i64 n) => In64 (0 - n) ∧ k (.v (.int .i64 (0 - n))) none
    | _ => False)
  | .fieldAddr s x i => (match (T s).d with
    | .struct fs => (match nth fs i with
      | some (off, t) => (match (T t).size, (T t).d with
        | 0, _ => False
        | _, .bad => False
        | _ + 1, _ => (match ev st x with
          | .loc b o => k (.loc b (o + off)) none
          | .v (.pointer (some a)) => k (.v (.pointer (some (addA a off)))) none
          | _ => False))
      | none => False)
    | _ => False)
  | .field s x i => (match (T s).d with
    | .struct fs => (match nth fs i with
      | some (off, t) => (match ev st x with
        | .v (.agg cs) => (match (T t).d with
          | .bad => False
          | d => bif d.agg then k (.v (.agg ((cs.toList.drop off).take (T t).size).toArray)) none
            else (match nth cs.toList off with | some v => k (.v v) none | none => False))
        | _ => False)
      | none => False)
    | _ => False)
  | .indexAddr t x ix => (match ev st ix with
    | .v (.int _ i) => (match (T t).d with
      | .slice e => (match (T e).d with | .bad => False | _ => (match ev st x with
        | .v (.slice (some ⟨b, off, none⟩) len _) => (0 ≤ i ∧ i < len) ∧ k (.v (.pointer (some ⟨b, off + times i.toNat (T e).size, none⟩))) none
        | _ => False))
      | .array n e => (match (T e).d with | .bad => False | _ => (match ev st x with
        | .loc b o => (0 ≤ i ∧ i < n) ∧ k (.loc b (o + times i.toNat (T e).size)) none
        | .v (.pointer (some ⟨b, off, none⟩)) => (0 ≤ i ∧ i < n) ∧ k (.v (.pointer (some ⟨b, off + times i.toNat (T e).size, none⟩))) none
        | _ => False))
      | _ => False)
    | _ => False)
  | .index t x ix => (match (T t).d, ev st x, ev st ix with
    | .str, .v (.string s), .v (.int _ i) => (0 ≤ i ∧ i < s.size) ∧ k (.v (.int .u8 ((s.data.toList.getD i.toNat 0).toNat : Int))) none
    | _, _, _ => False)
  | .slice t x lo hi none => (match (T t).d, ev st x with
    | .str, .v (.string s) => bnd st lo 0 fun l => bnd st hi s.size fun h => (0 ≤ l ∧ l ≤ h ∧ h ≤ s.size) ∧ k (.v (.string (s.extract l.toNat h.toNat))) none
    | .slice e, .v (.slice a n c) => (match (T e).d with
      | .bad => False
      | _ => (match lo with
        | none => bnd st hi n fun h => (0 ≤ h ∧ h ≤ c) ∧ k (.v (.slice a h.toNat c)) none
        | some _ => bnd st lo 0 fun l => bnd st hi n fun h => (0 ≤ l ∧ l ≤ h ∧ h ≤ c) ∧
            (match a with
            | none => k (.v (.slice none (h.toNat - l.toNat) (c - l.toNat))) none
            | some ⟨b, off, none⟩ => (l = c → k (.v (.slice (some ⟨b, off, none⟩) (h.toNat - l.toNat) (c - l.toNat))) none) ∧ (l < c → k (.v (.slice (some ⟨b, off + times l.toNat (T e).size, none⟩) (h.toNat - l.toNat) (c - l.toNat))) none)
            | some ⟨b, off, some s⟩ => (l = c → k (.v (.slice (some ⟨b, off, some s⟩) (h.toNat - l.toNat) (c - l.toNat))) none) ∧ (l < c → False))))
    | _, _ => False)
  | .convert s d x => (match (T s).d, (T d).d, ev st x with
    | .int _, .int k2, .v (.int _ n) => k (.v (.int k2 (k2.wrap n))) none
    | .str, .str, .v (.string s) => k (.v (.string s)) none
    | _, _, _ => False)
  | .makeInterface t x => (match (T t).d, ev st x with
    | .bad, _ => False
    | .iface, _ => False
    | _, .v v => k (.v (.iface t v)) none
    | _, _ => False)
  | .makeFunc fn first captured => plains st first.toList fun a => plains st captured.toList fun b => k (.v (.func fn a.toArray b.toArray)) none
  | .build t parts => (match (T t).d with
    | .struct fs => bif goods T fs then fillX (fun i => match nth fs i with | some (off, ft) => (match (T ft).d with | .bad => none | _ => some (off, (T ft).size)) | none => none) st (T t).zero parts.toList fun cs => k (.v (.agg cs.toArray)) none
      else False
    | _ => False)
  | .extract x i => (match ev st x with
    | .v (.tuple vs) => (match nth vs.toList i with | some v => k (.v v) none | none => False)
    | _ => False)
  | .call { callee := .builtin b, args := args, argTypes := ts } => (match b, args.toList, ts.toList with
    | .len, [x], [t] => (match (T t).d, ev st x with
      | .str, .v (.string s) => k (.v (.int .i64 s.size)) none
      | .slice _, .v (.slice _ n _) => k (.v (.int .i64 n)) none
      | _, _ => False)
    | .min, [x, y], _ => (match ev st x, ev st y with
      | .v (.int .i64 a), .v (.int .i64 b) => (a ≤ b → k (.v (.int .i64 a)) none) ∧ (b < a → k (.v (.int .i64 b)) none)
      | _, _ => False)
    | .max, [x, y], _ => (match ev st x, ev st y with
      | .v (.int .i64 a), .v (.int .i64 b) => (b ≤ a → k (.v (.int .i64 a)) none) ∧ (a < b → k (.v (.int .i64 b)) none)
      | _, _ => False)
    | _, _, _ => False)
  | _ => False
end Go.X
namespace Go.X

/-- Operations that act (or read in a way of their own). -/
def acts (T : Tab) : Op → Bool
  | .move _ | .assign _ | .pick .. | .load .. | .nilCheck _ | .unOp .. | .fieldAddr .. | .field .. | .indexAddr .. | .index .. | .slice .. | .makeInterface .. | .makeFunc .. | .build .. | .extract .. => false
  | .binOp op t _ _ _ => (match op with | .eql | .neq => (T t).d.agg | _ => false)
  | .convert s d _ => (match (T s).d, (T d).d with | .int _, .int _ => false | .str, .str => false | _, _ => true)
  | .call { callee := .builtin b, argTypes := ts, .. } => (match b with
    | .len => (match (T (ts.toList.headD 0)).d with | .map _ _ => true | _ => false)
    | .min | .max => false
    | _ => true)
  | _ => true

/-- A value of one cell. -/
def one : Value → Bool
  | .agg _ | .tuple _ => false
  | _ => true
abbrev EK := XV → St → World → Prop

/-- A new block: what was there is as it was. -/
structure NewAt (ω ω' : World) (b : Nat) (o : Obj) : Prop where
  ext : Ext ω ω'
  fresh : ω.heap.size ≤ b
  at_ : ω'.heap[b]? = some o

def stores (ω : World) (a : Addr) : Nat → List Value → World
  | _, [] => ω
  | i, v :: vs => stores (ω.setCell (a.add i) v) a (i + 1) vs

/-- The values of all operands, none of them a box. -/
def allV (st : St) : List Operand → Bool
  | [] => true
  | x :: l => (match ev st x with | .v _ => allV st l | _ => false)
def evV (st : St) (x : Operand) : Value :=
  match ev st x with
  | .v v => v
  | _ => undef

/-- n times the same cells. -/
def rep : Nat → List Value → List Value
  | 0, _ => []
  | n + 1, z => rep n z ++ z
variable (P : Program) (T : Tab) (tr : Nat → Bool)

def eX (st : St) (ω : World) (o : Oper) (k : EK) : Prop :=
  match o.op with
  | .alloc t => (match (T t).d with
    | .bad => False
    | _ => bif tr (o.dst.getD 0)
        then k (.loc st.nb 0) (st.newBox (T t).zero) ω
        else ∀ b ω', NewAt ω ω' b (.cells (T t).zero.toArray t) → k (.v (.pointer (some ⟨b, 0, none⟩))) st ω')
  | .box t x => (match (T t).d with
    | .bad => False
    | _ => plain st x fun v => bif tr (o.dst.getD 0)
        then k (.loc st.nb 0) (st.newBox v.cells.toList) ω
        else ∀ b ω', NewAt ω ω' b (.cells v.cells t) → k (.v (.pointer (some ⟨b, 0, none⟩))) st ω')
  | .store t a x => (match (T t).d with
    | .bad => False
    | _ => plain st x fun v => v.cells.toList.length = (T t).size ∧ (match ev st a with
      | .loc b off => off + (T t).size ≤ (st.mem b).length ∧ (∀ u ∈ v.cells.toList, one u = true) ∧ k (.v undef) (st.setMem b (putCells (st.mem b) off v.cells.toList)) ω
      | .v (.pointer (some ad)) => (∀ i u, v.cells.toList[i]? = some u → one u = true ∧ (∃ old, ω.cell? (ad.add i) = some old) ∧ ω.frozen? (ad.add i) = false) ∧ k (.v undef) st (stores ω ad 0 v.cells.toList)
      | _ => False))
  | .call { callee := .value f, args := args, .. } => (match ev st f with
    | .v (.func (.func g) first captured) => plains st args.toList fun vs => CallX P g (first.toList ++ vs ++ captured.toList) ω fun v ω' => k (.v v) st ω'
    | _ => False)
  | .buildSlice t len parts => (match (T t).d with
    | .slice e => (match (T e).d with
      | .bad => False
      | _ => bif Nat.ble (len * (T e).size) 16777216 && Nat.beq (T e).zero.length (T e).size
        then fillX (fun i => some (times i (T e).size, (T e).size)) st (rep len (T e).zero) parts.toList fun cs => ∀ b ω', NewAt ω ω' b (.cells cs.toArray e) → k (.v (.slice (some ⟨b, 0, none⟩) len len)) st ω'
        else False)
    | _ => False)
  | .select .. => False
  | op => allV st op.operands.toList = true ∧ OpX P (evV st) o ω fun v ω' => k (.v v) st ω'

/-- Is the operation carried out? -/
def guardX (L : List Oper) (st : St) (o : Oper) (yes no : Prop) : Prop :=
  match o.guard with
  | none => yes
  | some (j, want) =>
    match (nth L j).bind (·.dst) with
    | none => no
    | some d =>
      match st.fr d with
      | .v (.bool b) => (match b, want with
        | true, true => yes
        | false, false => yes
        | _, _ => no)
      | .v (.tuple _) => no
      | _ => False

/-- The operations of a region whose order is the text's. -/
def seqX (L : List Oper) : List Oper → St → World → (St → World → Prop) → Prop
  | [], st, ω, K => K st ω
  | o :: rest, st, ω, K =>
    guardX L st o
      (bif acts T o.op then eX P T tr st ω o fun x st' ω' => seqX L rest (st'.set o.dst x) ω' K
        else nX T st ω o.op fun x _ => seqX L rest (st.set o.dst x) ω K)
      (seqX L rest (st.set o.dst (.v undef)) ω K)

inductive XE where
  | normal
  | exit (i : Nat)
  | ret
abbrev XK := XE → St → World → Prop

/-- Which slots a code never writes. -/
def opsKeep (keep : List Nat) (ops : List Oper) : Bool := ops.all fun o => match o.dst with | some d => !keep.contains d | none => true
def noWrite (keep : List Nat) : Code → Bool
  | .region _ ops _ => opsKeep keep ops.toList
  | .seq a b | .cond _ a b => noWrite keep a && noWrite keep b
  | .block _ c | .loop c => noWrite keep c
  | .skip | .exit _ | .ret => true
  | _ => false
def idx (i : Nat) : List Nat → Nat → Option Nat
  | [], _ => none
  | x :: l, n => bif Nat.beq i x then some n else idx i l (n + 1)
def vals (st : St) : List Nat → Option (List Value)
  | [] => some []
  | i :: l => (match st.fr i with | .v v => (match vals st l with | some vs => some (v :: vs) | none => none) | _ => none)
def mems (st : St) (mb : List Nat) : List (List Value) := mb.map st.mem
def has (l : List Nat) (i : Nat) : Bool :=
  match l with
  | [] => false
  | x :: l => bif Nat.beq i x then true else has l i
/-- The state at the head of a round: the live slots, the kept ones, the rest is whatever. -/
def havoc (st : St) (keep live : List Nat) (junk : Nat → XV) (vs : List Value) (mb : List Nat) (ms : List (List Value)) : St where
  fr := fun i => match idx i live 0 with
    | some j => .v ((nth vs j).getD undef)
    | none => bif has keep i then st.fr i else junk i
  nb := st.nb
  mem := fun b => match idx b mb 0 with
    | some j => (nth ms j).getD []
    | none => st.mem b
def sameMem (st st' : St) (mb : List Nat) : Nat → Prop
  | 0 => True
  | n + 1 => (bif has mb n then True else st'.mem n = st.mem n) ∧ sameMem st st' mb n
/-- A relation on live slots, live boxes and the world, and a measure. -/
structure Inv where
  keep : List Nat
  live : List Nat
  mb : List Nat
  J : Nat → List Value → List (List Value) → World → Prop
def Inv.holds (I : Inv) (n : Nat) (st : St) (ω : World) : Prop := ∃ vs, vals st I.live = some vs ∧ I.J n vs (mems st I.mb) ω

/-! ### Regions that draw -/
def waits (o : Oper) (i : Nat) : Bool := o.after.toList.any fun e => Region.binds .any e && Nat.beq e.on i
def sees (o : Oper) (L : List Oper) (d : Nat) : Bool :=
  (o.op.operands.toList.any fun x => match x with | .tmp t => Nat.beq t d | _ => false) ||
  (match o.guard with | some (g, _) => (match (nth L g).bind (·.dst) with | some t => Nat.beq t d | none => false) | none => false)
/-- Operations that are taken as the order draws them: those that act, and those whose slot another one sees that doesn't wait for it. -/
def lateW (L : List Oper) (o : Oper) (i : Nat) : Bool :=
  match o.dst with
  | some d => L.any fun x => sees x L d && !waits x i
  | none => false
def isE (L : List Oper) (o : Oper) (i : Nat) : Bool := acts T o.op || lateW L o i
def rdy (o : Oper) (done : List Nat) : Bool := o.after.toList.all fun e => !Region.binds .any e || has done e.on
def findN (L : List Oper) (done : List Nat) : List Oper → Nat → Option (Nat × Oper)
  | [], _ => none
  | o :: rest, i => bif !has done i && rdy o done && !isE T L o i then some (i, o) else findN L done rest (i + 1)
def readyE (L : List Oper) (done : List Nat) : List Oper → Nat → List (Nat × Oper)
  | [], _ => []
  | o :: rest, i => bif !has done i && rdy o done && isE T L o i then (i, o) :: readyE L done rest (i + 1) else readyE L done rest (i + 1)
/-- Everything that operation 'o' waits for, in steps. -/
def anc (L : List Oper) : Nat → List Nat → List Nat
  | 0, l => l
  | n + 1, l => anc L n (l ++ l.flatMap fun i => match nth L i with | some o => (o.after.toList.filter (Region.binds .any)).map (·.on) | none => [])
def ancOf (L : List Oper) (o : Oper) : List Nat := anc L L.length ((o.after.toList.filter (Region.binds .any)).map (·.on))
def movesBox (o : Oper) : Bool := match o.op with | .store .. | .alloc .. | .box .. => true | _ => false
abbrev Loads := List (Nat × Bool × ((Nat → List Value) → World → Prop))
def stable (as : List Nat) (box : Bool) (m : Nat → List Value) (ω : World) : Loads → Prop
  | [] => True
  | (i, b, S) :: l => (bif has as i || (b && !box) then stable as box m ω l else S m ω ∧ stable as box m ω l)
def addLoad (i : Nat) (s : Stab) (l : Loads) : Loads := match s with | some (b, S) => (i, b, S) :: l | none => l
def allX {α : Type} (f : α → Prop) : List α → Prop
  | [] => True
  | [x] => f x
  | x :: l => f x ∧ allX f l
def canX (L : List Oper) : Nat → List Nat → Loads → St → World → (St → World → Prop) → Prop
  | 0, _, _, _, _, _ => False
  | n + 1, done, loads, st, ω, K =>
    match findN T L done L 0 with
    | some (i, o) => guardX L st o
        (nX T st ω o.op fun x s => canX L n (i :: done) (addLoad i s loads) (st.set o.dst x) ω K)
        (canX L n (i :: done) loads (st.set o.dst (.v undef)) ω K)
    | none =>
      match readyE T L done L 0 with
      | [] => K st ω
      | es => allX (fun (p : Nat × Oper) => guardX L st p.2
          (bif acts T p.2.op
            then eX P T tr st ω p.2 fun x st' ω' => stable (ancOf L p.2) (movesBox p.2) st'.mem ω' loads ∧ canX L n (p.1 :: done) loads (st'.set p.2.dst x) ω' K
            else nX T st ω p.2.op fun x s => canX L n (p.1 :: done) (addLoad p.1 s loads) (st.set p.2.dst x) ω K)
          (canX L n (p.1 :: done) loads (st.set p.2.dst (.v undef)) ω K)) es

/-! ### The code -/
def X : Code → St → World → XK → Prop
  | .skip, st, ω, K => K .normal st ω
  | .region _ ops draw, st, ω, K => bif draw
      then canX P T tr ops.toList (ops.toList.length + 1) [] [] st ω fun st ω => K .normal st ω
      else seqX P T tr ops.toList ops.toList st ω fun st ω => K .normal st ω
  | .seq a b, st, ω, K => X a st ω fun e st' ω' => match e with
    | .normal => X b st' ω' K
    | .exit i => K (.exit i) st' ω'
    | .ret => K .ret st' ω'
  | .cond c a b, st, ω, K => (match ev st c with
    | .v (.bool true) => X a st ω K
    | .v (.bool false) => X b st ω K
    | _ => False)
  | .block i c, st, ω, K => X c st ω fun e st' ω' => match e with
    | .exit j => bif Nat.beq j i then K .normal st' ω' else K (.exit j) st' ω'
    | .normal => K .normal st' ω'
    | .ret => K .ret st' ω'
  | .exit i, st, ω, K => K (.exit i) st ω
  | .ret, st, ω, K => K .ret st ω
  | .loop c, st, ω, K => ∃ (I : Inv) (n0 : Nat), noWrite I.keep c = true ∧ I.holds n0 st ω ∧
      ∀ n junk vs ms ω', I.J n vs ms ω' → X c (havoc st I.keep I.live junk vs I.mb ms) ω' fun e st' ω'' => match e with
        | .normal => (∃ n', n' < n ∧ I.holds n' st' ω'') ∧ sameMem st st' I.mb st.nb
        | .exit i => K (.exit i) st' ω''
        | .ret => K .ret st' ω''
  | _, _, _, _ => False

/-- The results. -/
def resV (st : St) : List ResultVar → Option (List Value)
  | [] => some []
  | .tmp t :: l => (match st.fr t with | .v v => (resV st l).map (v :: ·) | _ => none)
  | .cell a t :: l => (match st.fr a, (T t).d with
    | _, .bad => none
    | .loc b o, d => bif d.agg
        then (bif Nat.ble (o + (T t).size) (st.mem b).length then (resV st l).map (.agg (((st.mem b).drop o).take (T t).size).toArray :: ·) else none)
        else (match nth (st.mem b) o with | some v => (resV st l).map (v :: ·) | none => none)
    | _, _ => none)
def retX (vs : List Value) : Value := match vs with | [v] => v | vs => .tuple vs.toArray
def st0 (args : List Value) : St := { fr := fun i => .v ((nth args i).getD undef), nb := 0, mem := fun _ => [] }
def finX (res : List ResultVar) (Q : Value → World → Prop) : XK := fun e st ω => match e with
  | .exit _ => False
  | _ => (match resV T st res with | some vs => Q (retX vs) ω | none => False)
end Go.X
namespace Go.X
open Go.RowKit
variable {P : Program} {T : Tab}
set_option linter.unusedVariables false
set_option linter.unusedSimpArgs false

theorem TabOk.get (hT : TabOk P T) {t : Nat} (h : ∀ (_ : (T t).d = .bad), False) : TOk P t (T t) := by
  have := hT t
  cases hd : (T t).d <;> simp only [hd] at this <;> first | exact this | exact (h hd).elim
theorem TOk.size {t : Nat} {ti : TI} (h : TOk P t ti) (w : World) : (sizeOf t).run P w = .ok ti.size w := by
  obtain ⟨i, z, hi, hs, _⟩ := h.info
  simp [sizeOf, typeInfo, hi, hs, go_sem]
theorem TOk.isAgg {t : Nat} {ti : TI} (h : TOk P t ti) (w : World) : (isAgg t).run P w = .ok ti.d.agg w := by
  obtain ⟨u, hu, hf⟩ := h.desc
  cases hd : ti.d <;> simp only [hd] at hf <;> cases u <;> simp only [fits] at hf <;> simp [Go.isAgg, run_underlying hu, TD.agg, go_sem]
theorem TOk.zero {t : Nat} {ti : TI} (h : TOk P t ti) (w : World) : ∃ z, (zeroValue t).run P w = .ok z w ∧ z.cells.toList = ti.zero := by
  obtain ⟨i, z, hi, _, _, hz, hc, _⟩ := h.info
  exact ⟨z, by simp [zeroValue, typeInfo, hi, hz, go_sem], hc⟩
theorem TOk.struct {t : Nat} {ti : TI} (h : TOk P t ti) {fs : List (Nat × Nat)} (hd : ti.d = .struct fs) : ∃ gs : Array Field, P.underlying t = some (.struct gs) ∧ gs.toList.map (fun f => (f.offset, f.type)) = fs := by
  obtain ⟨u, hu, hf⟩ := h.desc
  rw [hd] at hf
  cases u <;> simp only [fits] at hf
  exact ⟨_, hu, hf⟩
theorem TOk.slice {t : Nat} {ti : TI} (h : TOk P t ti) {e : Nat} (hd : ti.d = .slice e) : P.underlying t = some (.slice e) := by
  obtain ⟨u, hu, hf⟩ := h.desc
  rw [hd] at hf
  cases u <;> simp only [fits] at hf
  rw [hu, hf]
theorem TOk.array {t : Nat} {ti : TI} (h : TOk P t ti) {n e : Nat} (hd : ti.d = .array n e) : P.underlying t = some (.array n e) := by
  obtain ⟨u, hu, hf⟩ := h.desc
  rw [hd] at hf
  cases u <;> simp only [fits] at hf
  rw [hu, hf.1, hf.2]
theorem TOk.str {t : Nat} {ti : TI} (h : TOk P t ti) (hd : ti.d = .str) : P.underlying t = some .string := by
  obtain ⟨u, hu, hf⟩ := h.desc
  rw [hd] at hf
  cases u <;> simp only [fits] at hf
  exact hu
theorem TOk.int {t : Nat} {ti : TI} {k : IntKind} (h : TOk P t ti) (hd : ti.d = .int k) : P.underlying t = some (.int k) := by
  obtain ⟨u, hu, hf⟩ := h.desc
  rw [hd] at hf
  cases u <;> simp only [fits] at hf
  rw [hu, hf]
theorem TOk.ptr {t : Nat} {ti : TI} (h : TOk P t ti) (hd : ti.d = .ptr) : ∃ e, P.underlying t = some (.pointer e) := by
  obtain ⟨u, hu, hf⟩ := h.desc
  rw [hd] at hf
  cases u <;> simp only [fits] at hf
  exact ⟨_, hu⟩
theorem TOk.boolT {t : Nat} {ti : TI} (h : TOk P t ti) (hd : ti.d = .bool) : P.underlying t = some .bool := by
  obtain ⟨u, hu, hf⟩ := h.desc
  rw [hd] at hf
  cases u <;> simp only [fits] at hf
  exact hu
theorem TOk.iface {t : Nat} {ti : TI} (h : TOk P t ti) (hd : ti.d = .iface) : ∃ ms, P.underlying t = some (.interface ms) := by
  obtain ⟨u, hu, hf⟩ := h.desc
  rw [hd] at hf
  cases u <;> simp only [fits] at hf
  exact ⟨_, hu⟩
theorem TOk.mapT {t : Nat} {ti : TI} {k e : Nat} (h : TOk P t ti) (hd : ti.d = .map k e) : P.underlying t = some (.map k e) := by
  obtain ⟨u, hu, hf⟩ := h.desc
  rw [hd] at hf
  cases u <;> simp only [fits] at hf
  rw [hu, hf.1, hf.2]

theorem run_loadCells (P : Program) (a : Addr) (w : World) (vs : List Value) : ∀ (i : Nat) (acc : Array Value), (∀ j v, vs[j]? = some v → w.cell? (a.add (i + j)) = some v) →
    (loadCellsFrom a i vs.length acc).run P w = .ok (acc ++ vs.toArray) w := by
  induction vs with
  | nil => intro i acc _; simp [loadCellsFrom, go_sem]
  | cons v vs ih =>
    intro i acc h
    have h0 : w.cell? (a.add i) = some v := by simpa using h 0 v (by simp)
    have h1 := ih (i + 1) (acc.push v) (fun j u hj => by have := h (j + 1) u (by simpa using hj); rw [show i + (j + 1) = i + 1 + j by omega] at this; exact this)
    simp only [List.length_cons, loadCellsFrom]
    simp only [Sem.run_bind, load]
    simp only [Sem.run, h0, Result.andThen_ok]
    rw [h1]
    simp
theorem run_loadCells0 {a : Addr} {w : World} {vs : List Value} {n : Nat} (hl : vs.length = n) (hc : CellsAt w a vs) : (loadCellsFrom a 0 n #[]).run P w = .ok vs.toArray w := by
  have h2 := run_loadCells P a w vs 0 #[] (fun j v hj => by rw [Nat.zero_add]; exact hc j v hj)
  rw [hl] at h2
  simpa using h2
theorem run_loadVar_agg {t : Nat} {ti : TI} (h : TOk P t ti) (ha : ti.d.agg = true) {a : Addr} {w : World} {vs : List Value} (hl : vs.length = ti.size) (hc : CellsAt w a vs) :
    (loadVar t a).run P w = .ok (.agg vs.toArray) w := by
  have h2 := run_loadCells P a w vs 0 #[] (fun j v hj => by rw [Nat.zero_add]; exact hc j v hj)
  rw [hl] at h2
  simp [loadVar, h.isAgg, ha, h.size, loadCells, h2, go_sem]
theorem run_loadVar_one {t : Nat} {ti : TI} (h : TOk P t ti) (ha : ti.d.agg = false) {a : Addr} {w : World} {v : Value} (hc : w.cell? a = some v) :
    (loadVar t a).run P w = .ok v w := by
  simp [loadVar, h.isAgg, ha, load, Sem.run, hc, go_sem]
theorem CellsAt.sees {ω W : World} (h : Sees ω W) {a : Addr} {vs : List Value} (hc : CellsAt ω a vs) : CellsAt W a vs := fun i v hv => h.cell (hc i v hv)
theorem cells_box {W : World} {b t : Nat} {cs : List Value} (h : W.heap[b]? = some (.cells cs.toArray t (0, 0))) (o n : Nat) : CellsAt W ⟨b, o, none⟩ ((cs.drop o).take n) := by
  intro i v hv
  have hb : ((⟨b, o, none⟩ : Addr).add i) = ⟨b, o + i, none⟩ := by unfold Addr.add; split <;> simp_all
  rw [hb]
  have hi : cs[o + i]? = some v := by
    rw [List.getElem?_take] at hv
    split at hv
    · rw [List.getElem?_drop] at hv; exact hv
    · simp at hv
  simp [World.cell?, h, hi]
theorem cell_box {W : World} {b t : Nat} {cs : List Value} (h : W.heap[b]? = some (.cells cs.toArray t (0, 0))) {o : Nat} {v : Value} (hv : cs[o]? = some v) : W.cell? ⟨b, o, none⟩ = some v := by
  simp [World.cell?, h, hv]

/-- What an operation that doesn't act comes to, in whatever state that is like this one. -/
def Gives (P : Program) (st : St) (o : Oper) (x : XV) (s : Stab) : Prop :=
  ∀ (β : Nat → Nat) (ρ : Operand → Value) (m2 : Nat → List Value) (ω2 W2 : World), (∀ y ∈ o.op.operands, ρ y = (ev st y).real β) → (∀ k, k < st.nb → ∃ t, W2.heap[β k]? = some (.cells (m2 k).toArray t (0, 0))) → Sees ω2 W2 →
    (∀ b S, s = some (b, S) → S m2 ω2) → (execOp ρ o).run P W2 = .ok (.value (x.real β)) W2
/-- What is held on to hangs on the boxes alone, or on the world alone. -/
def StabOk (st : St) (ω : World) (s : Stab) : Prop :=
  ∀ b S, s = some (b, S) → S st.mem ω ∧ (b = true → ∃ j, j < st.nb ∧ ∀ m m' ω ω', m' j = m j → S m ω → S m' ω') ∧ (b = false → ∀ m m' ω, S m ω → S m' ω)
theorem stabOk_none (st : St) (ω : World) : StabOk st ω none := fun _ _ h => by simp at h
def LocOk (st : St) (x : XV) : Prop := ∀ b o, x = .loc b o → b < st.nb
theorem locOk_v (st : St) (v : Value) : LocOk st (.v v) := fun _ _ h => by cases h

abbrev NS (P : Program) (st : St) (ω : World) (o : Oper) (k : NK) : Prop := ∃ x s, k x s ∧ StabOk st ω s ∧ LocOk st x ∧ Gives P st o x s

section
variable {st : St} {ω : World} {k : NK} {dst : Option Tmp} {ty : TypeId} {pos : String} {af : Array Edge} {gd : Option (Nat × Bool)}
/-- For what gives one value, whatever the world. -/
theorem ns_pure {op : Op} {v : Value} (hk : k (.v v) none) (h : ∀ (β : Nat → Nat) (ρ : Operand → Value) (W : World), (∀ y ∈ op.operands, ρ y = (ev st y).real β) → (execOp ρ ⟨dst, op, ty, pos, af, gd⟩).run P W = .ok (.value v) W) :
    NS P st ω ⟨dst, op, ty, pos, af, gd⟩ k :=
  ⟨.v v, none, hk, stabOk_none _ _, locOk_v _ _, fun β ρ _ _ W2 hρ _ _ _ => h β ρ W2 hρ⟩
theorem ev_ok (hwf : ∀ i b o, st.fr i = .loc b o → b < st.nb) (x : Operand) : LocOk st (ev st x) := by
  intro b o h
  cases x with
  | tmp t => exact hwf t b o h
  | _ => simp [ev] at h
theorem ns_move {x : Operand} (hwf : ∀ i b o, st.fr i = .loc b o → b < st.nb) (hk : k (ev st x) none) : NS P st ω ⟨dst, .move x, ty, pos, af, gd⟩ k :=
  ⟨_, none, hk, stabOk_none _ _, ev_ok hwf x, fun β ρ _ _ W2 hρ _ _ _ => by
    have := hρ x (by simp [Op.operands])
    simp [execOp, this, go_sem]⟩
theorem ns_assign {x : Operand} (hwf : ∀ i b o, st.fr i = .loc b o → b < st.nb) (hk : k (ev st x) none) : NS P st ω ⟨dst, .assign x, ty, pos, af, gd⟩ k :=
  ⟨_, none, hk, stabOk_none _ _, ev_ok hwf x, fun β ρ _ _ W2 hρ _ _ _ => by
    have := hρ x (by simp [Op.operands])
    simp [execOp, this, go_sem]⟩
theorem ns_pick {c a b : Operand} (hwf : ∀ i b o, st.fr i = .loc b o → b < st.nb) (h : nX T st ω (.pick c a b) k) : NS P st ω ⟨dst, .pick c a b, ty, pos, af, gd⟩ k := by
  simp only [nX] at h
  split at h
  · rename_i hc
    exact ⟨_, none, h, stabOk_none _ _, ev_ok hwf a, fun β ρ _ _ W2 hρ _ _ _ => by
      have h1 := hρ c (by simp [Op.operands]); have h2 := hρ a (by simp [Op.operands])
      rw [hc] at h1
      simp [execOp, h1, h2, XV.real, asBool, go_sem]⟩
  · rename_i hc
    exact ⟨_, none, h, stabOk_none _ _, ev_ok hwf b, fun β ρ _ _ W2 hρ _ _ _ => by
      have h1 := hρ c (by simp [Op.operands]); have h2 := hρ b (by simp [Op.operands])
      rw [hc] at h1
      simp [execOp, h1, h2, XV.real, asBool, go_sem]⟩
  · exact h.elim
theorem ns_load (hT : TabOk P T) (hwf : ∀ i b o, st.fr i = .loc b o → b < st.nb) {t : TypeId} {a : Operand} (h : nX T st ω (.load t a) k) : NS P st ω ⟨dst, .load t a, ty, pos, af, gd⟩ k := by
  simp only [nX] at h
  split at h
  · rename_i b o ha
    have hb := ev_ok hwf a b o ha
    cases hag : (T t).d.agg
    · simp only [hag, cond_false] at h
      split at h
      · exact h.elim
      · rename_i hnb
        have ht := hT.get hnb
        split at h
        · rename_i v hv
          rw [nth_eq] at hv
          refine ⟨_, _, h, ?_, locOk_v _ _, ?_⟩
          · intro b' S hS
            simp only [Option.some.injEq, Prod.mk.injEq] at hS
            obtain ⟨rfl, rfl⟩ := hS
            exact ⟨hv, fun _ => ⟨b, hb, fun m m' _ _ e h => by simpa only [e] using h⟩, (fun h => by cases h)⟩
          · intro β ρ m2 ω2 W2 hρ hbox _ hS
            have h1 := hρ a (by simp [Op.operands])
            rw [ha] at h1
            obtain ⟨t', hh⟩ := hbox b hb
            have hv2 : (m2 b)[o]? = some v := hS _ _ rfl
            have := cell_box hh hv2
            simp [execOp, Instr.loadAt, Instr.sureAddr, h1, XV.real, ht.isAgg, hag, this, go_sem]
        · exact h.elim
    · simp only [hag, cond_true] at h
      split at h
      · exact h.elim
      · rename_i hnb
        have ht := hT.get hnb
        obtain ⟨hl, h⟩ := h
        refine ⟨_, _, h, ?_, locOk_v _ _, ?_⟩
        · intro b' S hS
          simp only [Option.some.injEq, Prod.mk.injEq] at hS
          obtain ⟨rfl, rfl⟩ := hS
          exact ⟨rfl, fun _ => ⟨b, hb, fun m m' _ _ e h => by simpa only [e] using h⟩, (fun h => by cases h)⟩
        · intro β ρ m2 ω2 W2 hρ hbox _ hS
          have h1 := hρ a (by simp [Op.operands])
          rw [ha] at h1
          obtain ⟨t', hh⟩ := hbox b hb
          have hv2 : ((m2 b).drop o).take (T t).size = ((st.mem b).drop o).take (T t).size := hS _ _ rfl
          have hcs := cells_box hh o (T t).size
          rw [hv2] at hcs
          have := run_loadCells0 (P := P) (n := (T t).size) (by rw [List.length_take, List.length_drop]; omega) hcs
          simp [execOp, Instr.loadAt, Instr.sureAddr, h1, XV.real, ht.isAgg, hag, ht.size, this, go_sem]
  · rename_i ad ha
    cases hag : (T t).d.agg
    · simp only [hag, cond_false] at h
      split at h
      · exact h.elim
      · rename_i hnb
        have ht := hT.get hnb
        obtain ⟨v, hv, h⟩ := h
        refine ⟨_, _, h, ?_, locOk_v _ _, ?_⟩
        · intro b' S hS
          simp only [Option.some.injEq, Prod.mk.injEq] at hS
          obtain ⟨rfl, rfl⟩ := hS
          exact ⟨hv, (fun h => by cases h), fun _ _ _ _ h => h⟩
        · intro β ρ m2 ω2 W2 hρ hbox hs hS
          have h1 := hρ a (by simp [Op.operands])
          rw [ha] at h1
          have hv2 : ω2.cell? ad = some v := hS _ _ rfl
          have := hs.cell hv2
          simp [execOp, Instr.loadAt, Instr.sureAddr, h1, XV.real, ht.isAgg, hag, this, go_sem]
    · simp only [hag, cond_true] at h
      split at h
      · exact h.elim
      · rename_i hnb
        have ht := hT.get hnb
        obtain ⟨vs, hl, hv, h⟩ := h
        refine ⟨_, _, h, ?_, locOk_v _ _, ?_⟩
        · intro b' S hS
          simp only [Option.some.injEq, Prod.mk.injEq] at hS
          obtain ⟨rfl, rfl⟩ := hS
          exact ⟨hv, (fun h => by cases h), fun _ _ _ _ h => h⟩
        · intro β ρ m2 ω2 W2 hρ hbox hs hS
          have h1 := hρ a (by simp [Op.operands])
          rw [ha] at h1
          have hv2 : CellsAt ω2 ad vs := hS _ _ rfl
          have := run_loadCells0 (P := P) hl (CellsAt.sees hs hv2)
          simp [execOp, Instr.loadAt, Instr.sureAddr, h1, XV.real, ht.isAgg, hag, ht.size, this, go_sem]
  · exact h.elim
end
end Go.X
namespace Go.X
open Go.RowKit
variable {P : Program} {T : Tab}
set_option linter.unusedVariables false
set_option linter.unusedSimpArgs false
section
variable {st : St} {ω : World} {k : NK} {dst : Option Tmp} {ty : TypeId} {pos : String} {af : Array Edge} {gd : Option (Nat × Bool)}

theorem ns_nilCheck (hwf : ∀ i b o, st.fr i = .loc b o → b < st.nb) {x : Operand} (h : nX T st ω (.nilCheck x) k) : NS P st ω ⟨dst, .nilCheck x, ty, pos, af, gd⟩ k := by
  simp only [nX] at h
  split at h
  · rename_i b o hx
    exact ⟨_, none, h, stabOk_none _ _, by rw [← hx]; exact ev_ok hwf x, fun β ρ _ _ W2 hρ _ _ _ => by
      have h1 := hρ x (by simp [Op.operands])
      rw [hx] at h1
      simp [execOp, h1, XV.real, go_sem]⟩
  · rename_i a hx
    exact ns_pure h fun β ρ W hρ => by
      have h1 := hρ x (by simp [Op.operands])
      rw [hx] at h1
      simp [execOp, h1, XV.real, go_sem]
  · rename_i f a b hx
    exact ns_pure h fun β ρ W hρ => by
      have h1 := hρ x (by simp [Op.operands])
      rw [hx] at h1
      simp [execOp, h1, XV.real, go_sem]
  · rename_i t v hx
    exact ns_pure h fun β ρ W hρ => by
      have h1 := hρ x (by simp [Op.operands])
      rw [hx] at h1
      simp [execOp, h1, XV.real, go_sem]
  · exact h.elim

theorem wrap64_in {a : Int} (h : In64 a) : IntKind.i64.wrap a = a := by
  unfold In64 at h
  simp only [IntKind.wrap, IntKind.bits, IntKind.signed]
  simp
  split <;> omega

/-- 'kk' is told of a value that the operation gives. -/
def Tells (kk : Value → Prop) (r : Value → Prop) : Prop := ∃ v, kk v ∧ r v

theorem intX_ok {op : BinOp} {kd : IntKind} {a b : Int} {kk : Value → Prop} (h : intX op kd a b kk) (hs : op ≠ .shl) (hs2 : op ≠ .shr) :
    ∃ v, kk v ∧ ∀ (t : Nat) (W : World), (Go.binOp op t (.int kd a) (.int kd b)).run P W = .ok v W := by
  cases op <;> simp only [intX] at h
  case add =>
    split at h
    · exact ⟨_, h.2, fun t W => by simp [Go.binOp, Op.intArith, wrap64_in h.1, go_sem]⟩
    · exact ⟨_, h, fun t W => by simp [Go.binOp, Op.intArith, go_sem]⟩
  case sub =>
    split at h
    · exact ⟨_, h.2, fun t W => by simp [Go.binOp, Op.intArith, wrap64_in h.1, go_sem]⟩
    · exact ⟨_, h, fun t W => by simp [Go.binOp, Op.intArith, go_sem]⟩
  case mul =>
    split at h
    · exact ⟨_, h.2, fun t W => by simp [Go.binOp, Op.intArith, wrap64_in h.1, go_sem]⟩
    · exact ⟨_, h, fun t W => by simp [Go.binOp, Op.intArith, go_sem]⟩
  case quo =>
    obtain ⟨h0, h⟩ := h
    split at h
    · exact ⟨_, h.2, fun t W => by simp [Go.binOp, Op.intDiv, h0, wrap64_in h.1, go_sem]⟩
    · exact ⟨_, h, fun t W => by simp [Go.binOp, Op.intDiv, h0, go_sem]⟩
  case rem => exact ⟨_, h.2, fun t W => by simp [Go.binOp, Op.intDiv, h.1, go_sem]⟩
  case and => exact ⟨_, h, fun t W => by simp [Go.binOp, Op.intBits, go_sem]⟩
  case or => exact ⟨_, h, fun t W => by simp [Go.binOp, Op.intBits, go_sem]⟩
  case xor => exact ⟨_, h, fun t W => by simp [Go.binOp, Op.intBits, go_sem]⟩
  case eql =>
    by_cases e : a = b
    · exact ⟨_, h.1 e, fun t W => by simp [Go.binOp, Op.intCmp, e, go_sem]⟩
    · exact ⟨_, h.2 e, fun t W => by simp [Go.binOp, Op.intCmp, e, go_sem]⟩
  case neq =>
    by_cases e : a = b
    · exact ⟨_, h.2 e, fun t W => by simp [Go.binOp, Op.intCmp, e, go_sem]⟩
    · exact ⟨_, h.1 e, fun t W => by simp [Go.binOp, Op.intCmp, e, go_sem]⟩
  case lss =>
    by_cases e : a < b
    · exact ⟨_, h.1 e, fun t W => by simp [Go.binOp, Op.intCmp, e, go_sem]⟩
    · exact ⟨_, h.2 (by omega), fun t W => by simp [Go.binOp, Op.intCmp, go_sem]; omega⟩
  case leq =>
    by_cases e : a ≤ b
    · exact ⟨_, h.1 e, fun t W => by simp [Go.binOp, Op.intCmp, e, go_sem]⟩
    · exact ⟨_, h.2 (by omega), fun t W => by simp [Go.binOp, Op.intCmp, go_sem]; omega⟩
  case gtr =>
    by_cases e : b < a
    · exact ⟨_, h.1 e, fun t W => by simp [Go.binOp, Op.intCmp, e, go_sem]⟩
    · exact ⟨_, h.2 (by omega), fun t W => by simp [Go.binOp, Op.intCmp, go_sem]; omega⟩
  case geq =>
    by_cases e : b ≤ a
    · exact ⟨_, h.1 e, fun t W => by simp [Go.binOp, Op.intCmp, e, go_sem]⟩
    · exact ⟨_, h.2 (by omega), fun t W => by simp [Go.binOp, Op.intCmp, go_sem]; omega⟩
  all_goals exact h.elim
theorem shX_ok {op : BinOp} {kd k' : IntKind} {a b : Int} {kk : Value → Prop} (h : shX op kd a b kk) :
    ∃ v, kk v ∧ ∀ (t : Nat) (W : World), (Go.binOp op t (.int kd a) (.int k' b)).run P W = .ok v W := by
  cases op <;> simp only [shX] at h
  case shl => exact ⟨_, h.2, fun t W => by simp [Go.binOp, Op.shift, Int.not_lt.2 h.1, go_sem]⟩
  case shr => exact ⟨_, h.2, fun t W => by simp [Go.binOp, Op.shift, Int.not_lt.2 h.1, go_sem]⟩
  all_goals exact h.elim

theorem toList_inj {a b : ByteArray} (h : a.toList = b.toList) : a = b := by
  rw [ByteArray.toList_eq, ByteArray.toList_eq] at h
  exact ByteArray.ext (Array.toList_inj.1 h)
theorem less_total : ∀ (a b : List UInt8), Op.bytesLess a b = false → Op.bytesLess b a = false → a = b
  | [], [], _, _ => rfl
  | [], b :: bs, h, _ => by simp [Op.bytesLess] at h
  | a :: as, [], _, h => by simp [Op.bytesLess] at h
  | a :: as, b :: bs, h, h' => by
    simp [Op.bytesLess] at h h'
    have e : a = b := by
      have h1 := UInt8.le_iff_toNat_le.1 h.1
      have h2 := UInt8.le_iff_toNat_le.1 h'.1
      exact UInt8.toNat_inj.1 (by omega)
    subst e
    rw [less_total as bs (h.2 rfl) (h'.2 rfl)]
theorem less_irrefl : ∀ (a : List UInt8), Op.bytesLess a a = false
  | [] => by simp [Op.bytesLess]
  | a :: as => by simp [Op.bytesLess, less_irrefl as]
theorem less_asymm : ∀ (a b : List UInt8), Op.bytesLess a b = true → Op.bytesLess b a = false
  | [], [], h => by simp [Op.bytesLess] at h
  | [], b :: bs, _ => by simp [Op.bytesLess]
  | a :: as, [], h => by simp [Op.bytesLess] at h
  | a :: as, b :: bs, h => by
    simp [Op.bytesLess] at h ⊢
    rcases h with h | ⟨rfl, h⟩
    · have h1 := UInt8.lt_iff_toNat_lt.1 h
      refine ⟨UInt8.le_iff_toNat_le.2 (by omega), fun e => ?_⟩
      subst e
      omega
    · exact ⟨UInt8.le_refl _, fun _ => less_asymm as bs h⟩
theorem strX_ok {op : BinOp} {a b : ByteArray} {kk : Value → Prop} (h : strX op a b kk) :
    ∃ v, kk v ∧ ∀ (t : Nat) (W : World), (Go.binOp op t (.string a) (.string b)).run P W = .ok v W := by
  cases op <;> simp only [strX] at h
  case add => exact ⟨_, h.2, fun t W => by
      have : ¬ (((a.size + b.size : Nat) : Int) > IntKind.i64.max) := by have := h.1; simp [IntKind.max, IntKind.signed, IntKind.bits]; omega
      simp only [Go.binOp, Op.stringOp, if_neg this]; rfl⟩
  case eql =>
    by_cases e : a = b
    · exact ⟨_, h.1 e, fun t W => by simp [Go.binOp, Op.stringOp, e, go_sem]⟩
    · exact ⟨_, h.2 e, fun t W => by
        have : (a.toList == b.toList) = false := by simpa using fun h => e (toList_inj h)
        simp only [Go.binOp, Op.stringOp, this]; rfl⟩
  case neq =>
    by_cases e : a = b
    · exact ⟨_, h.2 e, fun t W => by simp [Go.binOp, Op.stringOp, e, go_sem]⟩
    · exact ⟨_, h.1 e, fun t W => by
        have : (a.toList == b.toList) = false := by simpa using fun h => e (toList_inj h)
        simp only [Go.binOp, Op.stringOp, this]; rfl⟩
  case lss =>
    cases e : Op.bytesLess a.toList b.toList
    · exact ⟨_, h.2 e, fun t W => by simp only [Go.binOp, Op.stringOp, e]; rfl⟩
    · exact ⟨_, h.1 e, fun t W => by simp only [Go.binOp, Op.stringOp, e]; rfl⟩
  case geq =>
    cases e : Op.bytesLess a.toList b.toList
    · exact ⟨_, h.1 e, fun t W => by simp only [Go.binOp, Op.stringOp, e]; rfl⟩
    · exact ⟨_, h.2 e, fun t W => by simp only [Go.binOp, Op.stringOp, e]; rfl⟩
  case gtr =>
    cases e : Op.bytesLess b.toList a.toList
    · refine ⟨_, h.2 e, fun t W => ?_⟩
      have : (Op.bytesLess a.toList b.toList || (a.toList == b.toList)) = true := by
        cases e2 : Op.bytesLess a.toList b.toList
        · simp [less_total _ _ e2 e]
        · rfl
      simp only [Go.binOp, Op.stringOp, this]; rfl
    · refine ⟨_, h.1 e, fun t W => ?_⟩
      have : (Op.bytesLess a.toList b.toList || (a.toList == b.toList)) = false := by
        rw [less_asymm _ _ e]
        simp
        intro h2
        rw [h2, less_irrefl] at e
        cases e
      simp only [Go.binOp, Op.stringOp, this]; rfl
  case leq =>
    cases e : Op.bytesLess b.toList a.toList
    · refine ⟨_, h.1 e, fun t W => ?_⟩
      have : (Op.bytesLess a.toList b.toList || (a.toList == b.toList)) = true := by
        cases e2 : Op.bytesLess a.toList b.toList
        · simp [less_total _ _ e2 e]
        · rfl
      simp only [Go.binOp, Op.stringOp, this]; rfl
    · refine ⟨_, h.2 e, fun t W => ?_⟩
      have : (Op.bytesLess a.toList b.toList || (a.toList == b.toList)) = false := by
        rw [less_asymm _ _ e]
        simp
        intro h2
        rw [h2, less_irrefl] at e
        cases e
      simp only [Go.binOp, Op.stringOp, this]; rfl
  all_goals exact h.elim
theorem run_eqGuard (op : BinOp) (t : Nat) (x y : Operand) (a b : Value) (W : World) (h : (a = .nilIface ∧ b = .nilIface → (isC x || isC y) = true) ∧ (∀ c d, ¬ (a = .agg c ∧ b = .agg d))) :
    (eqGuard op t x y a b).run P W = .ok () W := by
  cases op
  case eql | neq =>
    cases a <;> cases b <;> first
      | rfl
      | exact (h.2 _ _ ⟨rfl, rfl⟩).elim
      | (have h1 := h.1 ⟨rfl, rfl⟩
         cases x <;> cases y <;> first | rfl | (simp [isC] at h1; done))
  all_goals rfl
end
end Go.X
namespace Go.X
open Go.RowKit
variable {P : Program} {T : Tab}
set_option linter.unusedVariables false
set_option linter.unusedSimpArgs false
section
variable {st : St} {ω : World} {k : NK} {dst : Option Tmp} {ty : TypeId} {pos : String} {af : Array Edge} {gd : Option (Nat × Bool)}

theorem ne_bad {t : Nat} {d : TD} (h : (T t).d = d) (hd : d ≠ .bad) : ∀ (_ : (T t).d = .bad), False := fun e => hd (h ▸ e)
theorem equal_step {t : Nat} {x y : Value} {W : World} {r : Bool} (h : ∀ d, (Op.equalIn (d + 1) t x y).run P W = .ok r W) : (Op.equal t x y).run P W = .ok r W := h 9999
theorem equal_step2 {t : Nat} {x y : Value} {W : World} {r : Bool} (h : ∀ d, (Op.equalIn (d + 2) t x y).run P W = .ok r W) : (Op.equal t x y).run P W = .ok r W := h 9998
set_option maxHeartbeats 1000000 in
theorem eqX_ok (hT : TabOk P T) {t : Nat} {c : Bool} {xv yv : XV} {kb : Bool → Prop} (h : eqX T t c xv yv kb) :
    ∃ b, kb b ∧ (∀ (β : Nat → Nat), (xv.real β = .nilIface ∧ yv.real β = .nilIface → c = true) ∧ (∀ c d, ¬ (xv.real β = .agg c ∧ yv.real β = .agg d)) ∧ ∀ W, (Op.equal t (xv.real β) (yv.real β)).run P W = .ok b W) ∧
      (∀ β k a k' b, ¬ (xv.real β = .int k a ∧ yv.real β = .int k' b)) ∧ (∀ β a b, ¬ (xv.real β = .string a ∧ yv.real β = .string b)) ∧ (∀ β k a b k' a' b', ¬ (xv.real β = .complex k a b ∧ yv.real β = .complex k' a' b')) ∧ (∀ β k b k' b', ¬ (xv.real β = .float k b ∧ yv.real β = .float k' b')) := by
  unfold eqX at h
  split at h
  · rename_i hd
    obtain ⟨ms, hu⟩ := (hT.get (ne_bad hd (by simp))).iface hd
    split at h
    · exact ⟨_, h.2, fun β => ⟨fun _ => h.1, by simp [XV.real], fun W => equal_step fun d => by simp [XV.real, Op.equalIn, run_underlying hu, go_sem]⟩, by simp [XV.real], by simp [XV.real], by simp [XV.real], by simp [XV.real]⟩
    · exact ⟨_, h, fun β => ⟨by simp [XV.real], by simp [XV.real], fun W => equal_step fun d => by simp [XV.real, Op.equalIn, run_underlying hu, go_sem]⟩, by simp [XV.real], by simp [XV.real], by simp [XV.real], by simp [XV.real]⟩
    · exact ⟨_, h, fun β => ⟨by simp [XV.real], by simp [XV.real], fun W => equal_step fun d => by simp [XV.real, Op.equalIn, run_underlying hu, go_sem]⟩, by simp [XV.real], by simp [XV.real], by simp [XV.real], by simp [XV.real]⟩
    · rename_i t1 k a t2 k' b
      cases he : Nat.beq t1 t2
      · simp only [he, cond_false] at h
        have hne : t1 ≠ t2 := fun e => by subst e; simp at he
        exact ⟨_, h, fun β => ⟨by simp [XV.real], by simp [XV.real], fun W => equal_step fun d => by simp [XV.real, Op.equalIn, run_underlying hu, hne, go_sem]⟩, by simp [XV.real], by simp [XV.real], by simp [XV.real], by simp [XV.real]⟩
      · simp only [he, cond_true] at h
        have heq : t1 = t2 := Nat.eq_of_beq_eq_true he
        subst heq
        split at h
        · rename_i k1 hk1
          cases hkk : (kindB k1 k && kindB k k')
          · rw [hkk] at h; exact h.elim
          rw [hkk, cond_true] at h
          simp only [Bool.and_eq_true] at hkk
          obtain rfl := kindB_ok hkk.1
          obtain rfl := kindB_ok hkk.2
          obtain ⟨h1, h2⟩ := h
          have ht := hT.get (ne_bad hk1 (by simp))
          have hu1 := ht.int hk1
          obtain ⟨i, z, hi, _, _, _, _, _, hcm⟩ := ht.info
          have hcmp : i.comparable = true := hcm _ hk1
          by_cases e : a = b
          · exact ⟨_, h1 e, fun β => ⟨by simp [XV.real], by simp [XV.real], fun W => equal_step2 fun d => by simp [XV.real, Op.equalIn, run_underlying hu, run_underlying hu1, typeInfo, hi, hcmp, e, go_sem]⟩, by simp [XV.real], by simp [XV.real], by simp [XV.real], by simp [XV.real]⟩
          · exact ⟨_, h2 e, fun β => ⟨by simp [XV.real], by simp [XV.real], fun W => equal_step2 fun d => by simp [XV.real, Op.equalIn, run_underlying hu, run_underlying hu1, typeInfo, hi, hcmp, e, go_sem]⟩, by simp [XV.real], by simp [XV.real], by simp [XV.real], by simp [XV.real]⟩
        · exact h.elim
    · rename_i t1 x t2 y _
      cases he : Nat.beq t1 t2
      · simp only [he, cond_false] at h
        have hne : t1 ≠ t2 := fun e => by subst e; simp at he
        exact ⟨_, h, fun β => ⟨by simp [XV.real], by simp [XV.real], fun W => equal_step fun d => by simp [XV.real, Op.equalIn, run_underlying hu, hne, go_sem]⟩, by simp [XV.real], by simp [XV.real], by simp [XV.real], by simp [XV.real]⟩
      · simp only [he, cond_true] at h
    · exact h.elim
  · rename_i e hd
    have hu := (hT.get (ne_bad hd (by simp))).slice hd
    split at h
    · exact ⟨_, h, fun β => ⟨by simp [XV.real], by simp [XV.real], fun W => equal_step fun d => by simp [XV.real, Op.equalIn, run_underlying hu, go_sem]⟩, by simp [XV.real], by simp [XV.real], by simp [XV.real], by simp [XV.real]⟩
    · exact ⟨_, h, fun β => ⟨by simp [XV.real], by simp [XV.real], fun W => equal_step fun d => by simp [XV.real, Op.equalIn, run_underlying hu, go_sem]⟩, by simp [XV.real], by simp [XV.real], by simp [XV.real], by simp [XV.real]⟩
    · exact ⟨_, h, fun β => ⟨by simp [XV.real], by simp [XV.real], fun W => equal_step fun d => by simp [XV.real, Op.equalIn, run_underlying hu, go_sem]⟩, by simp [XV.real], by simp [XV.real], by simp [XV.real], by simp [XV.real]⟩
    · exact h.elim
  · rename_i k e hd
    have hu := (hT.get (ne_bad hd (by simp))).mapT hd
    split at h
    · exact ⟨_, h, fun β => ⟨by simp [XV.real], by simp [XV.real], fun W => equal_step fun d => by simp [XV.real, Op.equalIn, run_underlying hu, go_sem]⟩, by simp [XV.real], by simp [XV.real], by simp [XV.real], by simp [XV.real]⟩
    · exact ⟨_, h, fun β => ⟨by simp [XV.real], by simp [XV.real], fun W => equal_step fun d => by simp [XV.real, Op.equalIn, run_underlying hu, go_sem]⟩, by simp [XV.real], by simp [XV.real], by simp [XV.real], by simp [XV.real]⟩
    · exact h.elim
  · rename_i hd
    obtain ⟨e, hu⟩ := (hT.get (ne_bad hd (by simp))).ptr hd
    split at h
    · exact ⟨_, h, fun β => ⟨by simp [XV.real], by simp [XV.real], fun W => equal_step fun d => by simp [XV.real, Op.equalIn, run_underlying hu, go_sem]⟩, by simp [XV.real], by simp [XV.real], by simp [XV.real], by simp [XV.real]⟩
    · exact ⟨_, h, fun β => ⟨by simp [XV.real], by simp [XV.real], fun W => equal_step fun d => by simp [XV.real, Op.equalIn, run_underlying hu, go_sem]⟩, by simp [XV.real], by simp [XV.real], by simp [XV.real], by simp [XV.real]⟩
    · exact ⟨_, h, fun β => ⟨by simp [XV.real], by simp [XV.real], fun W => equal_step fun d => by simp [XV.real, Op.equalIn, run_underlying hu, go_sem]⟩, by simp [XV.real], by simp [XV.real], by simp [XV.real], by simp [XV.real]⟩
    · exact h.elim
  · rename_i hd
    have hu := (hT.get (ne_bad hd (by simp))).boolT hd
    split at h
    · rename_i a b
      by_cases e : a = b
      · exact ⟨_, h.1 e, fun β => ⟨by simp [XV.real], by simp [XV.real], fun W => equal_step fun d => by simp [XV.real, Op.equalIn, run_underlying hu, e, go_sem]⟩, by simp [XV.real], by simp [XV.real], by simp [XV.real], by simp [XV.real]⟩
      · exact ⟨_, h.2 e, fun β => ⟨by simp [XV.real], by simp [XV.real], fun W => equal_step fun d => by simp [XV.real, Op.equalIn, run_underlying hu, e, go_sem]⟩, by simp [XV.real], by simp [XV.real], by simp [XV.real], by simp [XV.real]⟩
    · exact h.elim
  · exact h.elim
end
end Go.X
namespace Go.X
open Go.RowKit
variable {P : Program} {T : Tab}
set_option linter.unusedVariables false
set_option linter.unusedSimpArgs false
section
variable {st : St} {ω : World} {k : NK} {dst : Option Tmp} {ty : TypeId} {pos : String} {af : Array Edge} {gd : Option (Nat × Bool)}

theorem isC_iface {x : Operand} : True := trivial
theorem binOp_other {op : BinOp} {t : Nat} {x y : Value} (ho : op = .eql ∨ op = .neq) {b : Bool} {W : World} (he : (Op.equal t x y).run P W = .ok b W)
    (h1 : ∀ k a k' b, ¬ (x = .int k a ∧ y = .int k' b)) (h2 : ∀ a b, ¬ (x = .string a ∧ y = .string b)) (h3 : ∀ k a b k' a' b', ¬ (x = .complex k a b ∧ y = .complex k' a' b')) (h4 : ∀ k b k' b', ¬ (x = .float k b ∧ y = .float k' b')) :
    (Go.binOp op t x y).run P W = .ok (.bool (if op = .eql then b else !b)) W := by
  rcases ho with rfl | rfl
  · cases x <;> cases y <;> first
      | exact (h1 _ _ _ _ ⟨rfl, rfl⟩).elim
      | exact (h2 _ _ ⟨rfl, rfl⟩).elim
      | exact (h3 _ _ _ _ _ _ ⟨rfl, rfl⟩).elim
      | exact (h4 _ _ _ _ ⟨rfl, rfl⟩).elim
      | (simp only [Go.binOp]; simp [he, go_sem])
  · cases x <;> cases y <;> first
      | exact (h1 _ _ _ _ ⟨rfl, rfl⟩).elim
      | exact (h2 _ _ ⟨rfl, rfl⟩).elim
      | exact (h3 _ _ _ _ _ _ ⟨rfl, rfl⟩).elim
      | exact (h4 _ _ _ _ ⟨rfl, rfl⟩).elim
      | (simp only [Go.binOp]; simp [he, go_sem])
theorem run_binOper {ρ : Operand → Value} {op : BinOp} {t ty' : Nat} {x y : Operand} {v : Value} {W : World} (hg : (eqGuard op t x y (ρ x) (ρ y)).run P W = .ok () W) (h : (Go.binOp op t (ρ x) (ρ y)).run P W = .ok v W) :
    (execOp ρ ⟨dst, .binOp op t x y ty', ty, pos, af, gd⟩).run P W = .ok (.value v) W := by
  simp [execOp, hg, h, go_sem]
theorem ns_binOp (hT : TabOk P T) {op : BinOp} {t ty' : Nat} {x y : Operand} (h : nX T st ω (.binOp op t x y ty') k) : NS P st ω ⟨dst, .binOp op t x y ty', ty, pos, af, gd⟩ k := by
  simp only [nX, binX] at h
  split at h
  · rename_i k1 a k2 b hx hy
    have hv : ∃ v, k (.v v) none ∧ ∀ (t : Nat) (W : World), (Go.binOp op t (.int k1 a) (.int k2 b)).run P W = .ok v W := by
      split at h
      · exact shX_ok h
      · exact shX_ok h
      · rename_i h1 h2
        cases hkk : kindB k1 k2
        · rw [hkk] at h; exact h.elim
        rw [hkk, cond_true] at h
        obtain rfl := kindB_ok hkk
        exact intX_ok h h1 h2
    obtain ⟨v, hk, hr⟩ := hv
    exact ns_pure hk fun β ρ W hρ => by
      have e1 := hρ x (by simp [Op.operands]); have e2 := hρ y (by simp [Op.operands])
      rw [hx] at e1; rw [hy] at e2
      refine run_binOper (run_eqGuard _ _ _ _ _ _ _ ⟨by simp [e1, XV.real], by simp [e1, XV.real]⟩) ?_
      rw [e1, e2]
      exact hr t W
  · rename_i a b hx hy
    obtain ⟨v, hk, hr⟩ := strX_ok (P := P) h
    exact ns_pure hk fun β ρ W hρ => by
      have e1 := hρ x (by simp [Op.operands]); have e2 := hρ y (by simp [Op.operands])
      rw [hx] at e1; rw [hy] at e2
      refine run_binOper (run_eqGuard _ _ _ _ _ _ _ ⟨by simp [e1, XV.real], by simp [e1, XV.real]⟩) ?_
      rw [e1, e2]
      exact hr t W
  · split at h
    · obtain ⟨b, hk, h0, h1, h2, h3, h4⟩ := eqX_ok (P := P) hT h
      exact ns_pure hk fun β ρ W hρ => by
        have e1 := hρ x (by simp [Op.operands]); have e2 := hρ y (by simp [Op.operands])
        refine run_binOper (run_eqGuard _ _ _ _ _ _ _ ⟨?_, ?_⟩) ?_
        · rw [e1, e2]; exact (h0 β).1
        · rw [e1, e2]; exact (h0 β).2.1
        · rw [e1, e2]; exact binOp_other (.inl rfl) ((h0 β).2.2 W) (fun _ _ _ _ => h1 β _ _ _ _) (fun _ _ => h2 β _ _) (fun _ _ _ _ _ _ => h3 β _ _ _ _ _ _) (fun _ _ _ _ => h4 β _ _ _ _)
    · obtain ⟨b, hk, h0, h1, h2, h3, h4⟩ := eqX_ok (P := P) hT h
      exact ns_pure hk fun β ρ W hρ => by
        have e1 := hρ x (by simp [Op.operands]); have e2 := hρ y (by simp [Op.operands])
        refine run_binOper (run_eqGuard _ _ _ _ _ _ _ ⟨?_, ?_⟩) ?_
        · rw [e1, e2]; exact (h0 β).1
        · rw [e1, e2]; exact (h0 β).2.1
        · rw [e1, e2]; exact binOp_other (.inr rfl) ((h0 β).2.2 W) (fun _ _ _ _ => h1 β _ _ _ _) (fun _ _ => h2 β _ _) (fun _ _ _ _ _ _ => h3 β _ _ _ _ _ _) (fun _ _ _ _ => h4 β _ _ _ _)
    · exact h.elim
theorem ns_unOp {op : UnOp} {t : Nat} {x : Operand} (h : nX T st ω (.unOp op t x) k) : NS P st ω ⟨dst, .unOp op t x, ty, pos, af, gd⟩ k := by
  cases op <;> simp only [nX] at h
  case not =>
    split at h
    · rename_i hx
      exact ns_pure h fun β ρ W hρ => by
        have e1 := hρ x (by simp [Op.operands]); rw [hx] at e1
        simp [execOp, e1, XV.real, Op.unary, go_sem]
    · rename_i hx
      exact ns_pure h fun β ρ W hρ => by
        have e1 := hρ x (by simp [Op.operands]); rw [hx] at e1
        simp [execOp, e1, XV.real, Op.unary, go_sem]
    · exact h.elim
  case neg =>
    split at h
    · rename_i n hx
      exact ns_pure h.2 fun β ρ W hρ => by
        have e1 := hρ x (by simp [Op.operands]); rw [hx] at e1
        have := wrap64_in h.1
        simp only [execOp, e1, XV.real, Op.unary, Op.intArith, this]
        rfl
    · exact h.elim
  all_goals exact h.elim
theorem field_at {gs : Array Field} {fs : List (Nat × Nat)} (h : gs.toList.map (fun f => (f.offset, f.type)) = fs) {i off t : Nat} (hi : nth fs i = some (off, t)) : ∃ f, gs[i]? = some f ∧ f.offset = off ∧ f.type = t := by
  rw [nth_eq, ← h, List.getElem?_map] at hi
  cases hg : gs.toList[i]? with
  | none => rw [hg] at hi; simp at hi
  | some f =>
    rw [hg] at hi
    simp at hi
    exact ⟨f, by simpa using hg, hi.1, hi.2⟩
theorem TOk.szInfo {t : Nat} {ti : TI} (h : TOk P t ti) : ∃ i, P.info? t = some i ∧ i.size = ti.size := by
  obtain ⟨i, z, hi, hs, _⟩ := h.info
  exact ⟨i, hi, hs⟩
theorem loc_add (b o n : Nat) : ((⟨b, o, none⟩ : Addr).add n) = ⟨b, o + n, none⟩ := by unfold Addr.add; split <;> simp_all
theorem ns_fieldAddr (hT : TabOk P T) (hwf : ∀ i b o, st.fr i = .loc b o → b < st.nb) {s : Nat} {x : Operand} {i : Nat} (h : nX T st ω (.fieldAddr s x i) k) : NS P st ω ⟨dst, .fieldAddr s x i, ty, pos, af, gd⟩ k := by
  simp only [nX] at h
  split at h
  · rename_i fs hd
    split at h
    · rename_i off t hi
      split at h
      · exact h.elim
      · exact h.elim
      · rename_i n d hsz hnb
        obtain ⟨gs, hu, hgs⟩ := (hT.get (ne_bad hd (by simp))).struct hd
        obtain ⟨f, hf, rfl, rfl⟩ := field_at hgs hi
        obtain ⟨ti, hti, hs⟩ := (hT.get hnb).szInfo
        have hne : ti.size ≠ 0 := by rw [hs, hsz]; omega
        split at h
        · rename_i b o hx
          exact ⟨_, none, h, stabOk_none _ _, fun b' o' e => by cases e; exact ev_ok hwf x b o hx, fun β ρ _ _ W2 hρ _ _ _ => by
            have e1 := hρ x (by simp [Op.operands]); rw [hx] at e1
            simp [execOp, Instr.fieldAt, Instr.sureAddr, run_underlying hu, hf, e1, XV.real, fieldPlace, sizeOf, typeInfo, hti, hne, loc_add, go_sem]⟩
        · rename_i a hx
          exact ns_pure h fun β ρ W hρ => by
            have e1 := hρ x (by simp [Op.operands]); rw [hx] at e1
            simp [execOp, Instr.fieldAt, Instr.sureAddr, run_underlying hu, hf, e1, XV.real, fieldPlace, sizeOf, typeInfo, hti, hne, addA_eq, go_sem]
        · exact h.elim
    · exact h.elim
  · exact h.elim
theorem run_part_one {t : Nat} {ti : TI} (h : TOk P t ti) (ha : ti.d.agg = false) {cs : Array Value} {off : Nat} {v : Value} (hc : cs[off]? = some v) (W : World) : (part t cs off).run P W = .ok v W := by
  simp [part, h.isAgg, ha, hc, go_sem]
theorem run_part_agg {t : Nat} {ti : TI} (h : TOk P t ti) (ha : ti.d.agg = true) {cs : Array Value} {off : Nat} (W : World) : (part t cs off).run P W = .ok (.agg ((cs.toList.drop off).take ti.size).toArray) W := by
  simp only [part, Sem.run_bind, h.isAgg, ha, h.size, Result.andThen_ok, if_true]
  simp [go_sem]
  apply Array.toList_inj.1
  simp
theorem ns_field (hT : TabOk P T) {s : Nat} {x : Operand} {i : Nat} (h : nX T st ω (.field s x i) k) : NS P st ω ⟨dst, .field s x i, ty, pos, af, gd⟩ k := by
  simp only [nX] at h
  split at h
  · rename_i fs hd
    split at h
    · rename_i off t hi
      obtain ⟨gs, hu, hgs⟩ := (hT.get (ne_bad hd (by simp))).struct hd
      obtain ⟨f, hf, rfl, rfl⟩ := field_at hgs hi
      split at h
      · rename_i cs hx
        split at h
        · exact h.elim
        · rename_i hnb
          have ht := hT.get hnb
          cases hag : (T f.type).d.agg
          · simp only [hag, cond_false] at h
            split at h
            · rename_i v hv
              rw [nth_eq] at hv
              exact ns_pure h fun β ρ W hρ => by
                have e1 := hρ x (by simp [Op.operands]); rw [hx] at e1
                have hv' : cs[f.offset]? = some v := by simpa using hv
                simp [execOp, Instr.field, run_underlying hu, hf, e1, XV.real, asAgg, ht.isAgg, hag, hv', go_sem]
            · exact h.elim
          · simp only [hag, cond_true] at h
            exact ns_pure h fun β ρ W hρ => by
              have e1 := hρ x (by simp [Op.operands]); rw [hx] at e1
              have hx2 : cs.extract f.offset (f.offset + (T f.type).size) = ((cs.toList.drop f.offset).take (T f.type).size).toArray := by
                apply Array.toList_inj.1
                simp
              simp [execOp, Instr.field, run_underlying hu, hf, e1, XV.real, asAgg, ht.isAgg, hag, ht.size, hx2, go_sem]
      · exact h.elim
    · exact h.elim
  · exact h.elim
end
end Go.X
namespace Go.X
open Go.RowKit
variable {P : Program} {T : Tab}
set_option linter.unusedVariables false
set_option linter.unusedSimpArgs false
section
variable {st : St} {ω : World} {k : NK} {dst : Option Tmp} {ty : TypeId} {pos : String} {af : Array Edge} {gd : Option (Nat × Bool)}

theorem ns_indexAddr (hT : TabOk P T) (hwf : ∀ i b o, st.fr i = .loc b o → b < st.nb) {t : Nat} {x ix : Operand} (h : nX T st ω (.indexAddr t x ix) k) : NS P st ω ⟨dst, .indexAddr t x ix, ty, pos, af, gd⟩ k := by
  simp only [nX] at h
  split at h
  · rename_i kd i hi
    split at h
    · rename_i e hd
      split at h
      · exact h.elim
      · rename_i hnb
        have hu := (hT.get (ne_bad hd (by simp))).slice hd
        have he := hT.get hnb
        split at h
        · rename_i b off len c hx
          exact ns_pure h.2 fun β ρ W hρ => by
            have e1 := hρ x (by simp [Op.operands]); rw [hx] at e1
            have e2 := hρ ix (by simp [Op.operands]); rw [hi] at e2
            simp [execOp, Instr.indexAt, run_underlying hu, e1, e2, XV.real, asIntOf, h.1.1, h.1.2, he.size, loc_add, times_eq, go_sem]
        · exact h.elim
    · rename_i n e hd
      split at h
      · exact h.elim
      · rename_i hnb
        have hu := (hT.get (ne_bad hd (by simp))).array hd
        have he := hT.get hnb
        split at h
        · rename_i b o hx
          exact ⟨_, none, h.2, stabOk_none _ _, fun b' o' e => by cases e; exact ev_ok hwf x b o hx, fun β ρ _ _ W2 hρ _ _ _ => by
            have e1 := hρ x (by simp [Op.operands]); rw [hx] at e1
            have e2 := hρ ix (by simp [Op.operands]); rw [hi] at e2
            simp [execOp, Instr.indexAt, Instr.sureAddr, run_underlying hu, e1, e2, XV.real, asIntOf, h.1.1, h.1.2, he.size, loc_add, times_eq, go_sem]⟩
        · rename_i b off hx
          exact ns_pure h.2 fun β ρ W hρ => by
            have e1 := hρ x (by simp [Op.operands]); rw [hx] at e1
            have e2 := hρ ix (by simp [Op.operands]); rw [hi] at e2
            simp [execOp, Instr.indexAt, Instr.sureAddr, run_underlying hu, e1, e2, XV.real, asIntOf, h.1.1, h.1.2, he.size, loc_add, times_eq, go_sem]
        · exact h.elim
    · exact h.elim
  · exact h.elim
theorem ns_index (hT : TabOk P T) {t : Nat} {x ix : Operand} (h : nX T st ω (.index t x ix) k) : NS P st ω ⟨dst, .index t x ix, ty, pos, af, gd⟩ k := by
  simp only [nX] at h
  split at h
  · rename_i s kd i hd hx hi
    have hu := (hT.get (ne_bad hd (by simp))).str hd
    exact ns_pure h.2 fun β ρ W hρ => by
      have e1 := hρ x (by simp [Op.operands]); rw [hx] at e1
      have e2 := hρ ix (by simp [Op.operands]); rw [hi] at e2
      have hlt : i.toNat < s.size := by omega
      have hs : s[i.toNat]? = some (s[i.toNat]'hlt) := by simp [hlt]
      have hv : s.data.toList.getD i.toNat 0 = s[i.toNat]'hlt := by
        rw [List.getD_eq_getElem?_getD, List.getElem?_eq_getElem (by simpa using hlt)]
        rfl
      rw [hv]
      simp [execOp, Instr.index, run_underlying hu, e1, e2, XV.real, asIntOf, h.1.1, hs, go_sem]
  · exact h.elim
theorem run_sliceBound {k : IntKind} {i : Int} {y : Nat} {c : BoundsCode} (h0 : 0 ≤ i) (h1 : i ≤ y) (W : World) : (Instr.sliceBound (.int k i) y c).run P W = .ok i.toNat W := by
  simp [Instr.sliceBound, asIntOf, h0, h1, go_sem]
theorem bnd_ok {o : Option Operand} {d : Int} {kk : Int → Prop} (h : bnd st o d kk) : (o = none ∧ kk d) ∨ ∃ x kd i, o = some x ∧ ev st x = .v (.int kd i) ∧ kk i := by
  cases o with
  | none => exact .inl ⟨rfl, h⟩
  | some x =>
    simp only [bnd] at h
    split at h
    · rename_i kd i hx; exact .inr ⟨x, kd, i, rfl, hx, h⟩
    · exact h.elim
theorem run_bounds {b : Bool} {len cap : Nat} {lo hi : Option Value} {l h : Int} (hl : (lo = none ∧ l = 0) ∨ ∃ k, lo = some (.int k l)) (hh : (hi = none ∧ h = len) ∨ ∃ k, hi = some (.int k h))
    (h0 : 0 ≤ l) (h1 : l ≤ h) (h2 : h ≤ cap) (W : World) : (Instr.sliceBounds b len cap lo hi none).run P W = .ok (l.toNat, h.toNat, cap) W := by
  have hle : (l.toNat : Int) ≤ h.toNat := by omega
  rcases hl with ⟨rfl, rfl⟩ | ⟨kl, rfl⟩ <;> rcases hh with ⟨rfl, rfl⟩ | ⟨kh, rfl⟩
  · simp [Instr.sliceBounds, go_sem]
  · have := fun c => run_sliceBound (P := P) (k := kh) (c := c) (by omega : 0 ≤ h) h2 W
    cases b <;> simp only [Instr.sliceBounds, Sem.run_bind, Sem.run_pure, this, Result.andThen_ok, Int.toNat_zero]
  · have := fun c => run_sliceBound (P := P) (k := kl) (c := c) (y := len) h0 (by omega) W
    cases b <;> simp only [Instr.sliceBounds, Sem.run_bind, Sem.run_pure, this, Result.andThen_ok, Int.toNat_natCast] <;> simp [this]
  · have g1 := fun c => run_sliceBound (P := P) (k := kh) (c := c) (by omega : 0 ≤ h) h2 W
    have g2 := fun c => run_sliceBound (P := P) (k := kl) (c := c) (y := h.toNat) h0 (by omega) W
    cases b <;> simp only [Instr.sliceBounds, Sem.run_bind, Sem.run_pure, g1, g2, Result.andThen_ok] <;> simp [g2]
theorem bnd_val {o : Option Operand} {d : Int} {kk : Int → Prop} {ρ : Operand → Value} {β : Nat → Nat} (h : bnd st o d kk) (hρ : ∀ y, o = some y → ρ y = (ev st y).real β) : ∃ i, kk i ∧ ((o.map ρ = none ∧ i = d) ∨ ∃ k, o.map ρ = some (.int k i)) := by
  rcases bnd_ok h with ⟨rfl, h⟩ | ⟨x, kd, i, rfl, hx, h⟩
  · exact ⟨d, h, .inl ⟨rfl, rfl⟩⟩
  · exact ⟨i, h, .inr ⟨kd, by have := hρ x rfl; rw [hx] at this; simp [this, XV.real]⟩⟩
/-- The same, said ahead of the addresses. -/
theorem bnd_ex {o : Option Operand} {d : Int} {kk : Int → Prop} (h : bnd st o d kk) : ∃ i, kk i ∧ ∀ (ρ : Operand → Value) (β : Nat → Nat), (∀ y, o = some y → ρ y = (ev st y).real β) → ((o.map ρ = none ∧ i = d) ∨ ∃ k, o.map ρ = some (.int k i)) := by
  rcases bnd_ok h with ⟨rfl, h⟩ | ⟨x, kd, i, rfl, hx, h⟩
  · exact ⟨d, h, fun _ _ _ => .inl ⟨rfl, rfl⟩⟩
  · exact ⟨i, h, fun ρ β hρ => .inr ⟨kd, by have := hρ x rfl; rw [hx] at this; simp [this, XV.real]⟩⟩
theorem ns_slice (hT : TabOk P T) {t : Nat} {x : Operand} {lo hi mx : Option Operand} (h : nX T st ω (.slice t x lo hi mx) k) : NS P st ω ⟨dst, .slice t x lo hi mx, ty, pos, af, gd⟩ k := by
  cases mx with
  | some m => exact h.elim
  | none =>
  simp only [nX] at h
  split at h
  · rename_i s hd hx
    have hu := (hT.get (ne_bad hd (by simp))).str hd
    obtain ⟨l, h, hl⟩ := bnd_ex h
    obtain ⟨m, h, hm⟩ := bnd_ex h
    exact ns_pure h.2 fun β ρ W hρ => by
      have e1 := hρ x (by simp [Op.operands]); rw [hx] at e1
      have := run_bounds (P := P) (b := false) (len := s.size) (cap := s.size) (hl ρ β fun y hy => hρ y (by simp [Op.operands, hy])) (hm ρ β fun y hy => hρ y (by simp [Op.operands, hy])) h.1.1 h.1.2.1 h.1.2.2 W
      simp only [execOp, Instr.sliceAt, Instr.slice, Sem.run_bind, Sem.run_map, run_underlying hu, e1, XV.real, Result.andThen_ok, this, Sem.run_pure, Option.map_none, Option.isSome_none, Bool.false_eq_true, if_false]
  · rename_i e a n c hd hx
    split at h
    · exact h.elim
    · rename_i hnb
      have hu := (hT.get (ne_bad hd (by simp))).slice hd
      have he := hT.get hnb
      split at h
      · obtain ⟨m, h, hm⟩ := bnd_ex h
        exact ns_pure h.2 fun β ρ W hρ => by
          have e1 := hρ x (by simp [Op.operands]); rw [hx] at e1
          have := run_bounds (P := P) (b := true) (len := n) (cap := c) (lo := none) (l := 0) (.inl ⟨rfl, rfl⟩) (hm ρ β fun y hy => hρ y (by simp [Op.operands, hy])) (Int.le_refl _) h.1.1 h.1.2 W
          cases a with
          | none => simp only [execOp, Instr.sliceAt, Instr.slice, Sem.run_bind, Sem.run_map, run_underlying hu, e1, XV.real, Result.andThen_ok, this, Sem.run_pure, Option.map_none, Option.map_some, Option.isSome_none, Bool.false_eq_true, if_false, he.size, Int.toNat_zero, Nat.zero_mul, Nat.sub_zero, Addr.add, if_true, ite_self, id] <;> first | rfl | (simp; done) | skip
          | some ad => simp only [execOp, Instr.sliceAt, Instr.slice, Sem.run_bind, Sem.run_map, run_underlying hu, e1, XV.real, Result.andThen_ok, this, Sem.run_pure, Option.map_none, Option.map_some, Option.isSome_none, Bool.false_eq_true, if_false, he.size, Int.toNat_zero, Nat.zero_mul, Nat.sub_zero, Addr.add, if_true, ite_self, id]
      · rename_i lx
        obtain ⟨l, h, hl⟩ := bnd_ex h
        obtain ⟨m, h, hm⟩ := bnd_ex h
        obtain ⟨hb, h⟩ := h
        have run : ∀ (β : Nat → Nat) (ρ : Operand → Value) (W : World), (∀ y ∈ (Op.slice t x (some lx) hi none).operands, ρ y = (ev st y).real β) → (execOp ρ ⟨dst, .slice t x (some lx) hi none, ty, pos, af, gd⟩).run P W = .ok (.value (.slice (if c = l.toNat then a else a.map (·.add (l.toNat * (T e).size))) (m.toNat - l.toNat) (c - l.toNat))) W := fun β ρ W hρ => by
          have e1 := hρ x (by simp [Op.operands]); rw [hx] at e1
          have := run_bounds (P := P) (b := true) (len := n) (cap := c) (hl ρ β fun y hy => hρ y (by simp [Op.operands, hy])) (hm ρ β fun y hy => hρ y (by simp [Op.operands, hy])) hb.1 hb.2.1 hb.2.2 W
          simp only [Option.map_some] at this
          simp only [execOp, Instr.sliceAt, Instr.slice, Sem.run_bind, Sem.run_map, run_underlying hu, e1, XV.real, Result.andThen_ok, this, Sem.run_pure, Option.map_none, Option.map_some, Option.isSome_none, Bool.false_eq_true, if_false, he.size]
        split at h
        · exact ns_pure h fun β ρ W hρ => by have := run β ρ W hρ; simpa using this
        · rename_i b off
          by_cases hc : l = c
          · exact ns_pure (h.1 hc) fun β ρ W hρ => by
              have := run β ρ W hρ
              rw [if_pos (by omega)] at this
              exact this
          · exact ns_pure (h.2 (by omega)) fun β ρ W hρ => by
              have := run β ρ W hρ
              rw [if_neg (by omega)] at this
              simpa [loc_add, times_eq] using this
        · rename_i b off s
          by_cases hc : l = c
          · exact ns_pure (h.1 hc) fun β ρ W hρ => by
              have := run β ρ W hρ
              rw [if_pos (by omega)] at this
              exact this
          · exact (h.2 (by omega)).elim
  · exact h.elim
theorem ns_convert (hT : TabOk P T) {s d : Nat} {x : Operand} (h : nX T st ω (.convert s d x) k) : NS P st ω ⟨dst, .convert s d x, ty, pos, af, gd⟩ k := by
  simp only [nX] at h
  split at h
  · rename_i k1 k2 k3 n hs hd hx
    have hu := (hT.get (ne_bad hs (by simp))).int hs
    have hv := (hT.get (ne_bad hd (by simp))).int hd
    exact ns_pure h fun β ρ W hρ => by
      have e1 := hρ x (by simp [Op.operands]); rw [hx] at e1
      simp [execOp, Go.convert, run_underlying hu, run_underlying hv, e1, XV.real, Conv.intToInt, go_sem]
  · rename_i s' hs hd hx
    have hu := (hT.get (ne_bad hs (by simp))).str hs
    have hv := (hT.get (ne_bad hd (by simp))).str hd
    exact ns_pure h fun β ρ W hρ => by
      have e1 := hρ x (by simp [Op.operands]); rw [hx] at e1
      simp [execOp, Go.convert, run_underlying hu, run_underlying hv, e1, XV.real, go_sem]
  · exact h.elim
theorem ns_makeInterface (hT : TabOk P T) {t : Nat} {x : Operand} (h : nX T st ω (.makeInterface t x) k) : NS P st ω ⟨dst, .makeInterface t x, ty, pos, af, gd⟩ k := by
  simp only [nX] at h
  split at h
  · exact h.elim
  · exact h.elim
  · rename_i d y v hx hnb hni
    obtain ⟨u, hu, hf⟩ := (hT.get hnb).desc
    exact ns_pure h fun β ρ W hρ => by
      have e1 := hρ x (by simp [Op.operands]); rw [hx] at e1
      cases hd : (T t).d <;> simp only [hd] at hf <;> cases u <;> simp only [fits] at hf <;> first
        | (exact (hni hd).elim)
        | simp [execOp, Instr.makeInterface, run_underlying hu, e1, XV.real, go_sem]
  · exact h.elim
theorem plain_ok {x : Operand} {kk : Value → Prop} (h : plain st x kk) : ∃ v, kk v ∧ ev st x = .v v := by
  unfold plain at h
  split at h
  · rename_i v hv; exact ⟨v, h, hv⟩
  · exact h.elim
theorem plains_ok : ∀ {l : List Operand} {kk : List Value → Prop}, plains st l kk → ∃ vs, kk vs ∧ ∀ (ρ : Operand → Value) (β : Nat → Nat), (∀ y ∈ l, ρ y = (ev st y).real β) → l.map ρ = vs
  | [], kk, h => ⟨[], h, fun _ _ _ => rfl⟩
  | x :: l, kk, h => by
    obtain ⟨v, h, hv⟩ := plain_ok h
    obtain ⟨vs, h, hvs⟩ := plains_ok h
    exact ⟨v :: vs, h, fun ρ β hρ => by
      have h1 := hρ x (by simp)
      have h2 := hvs ρ β fun y hy => hρ y (by simp [hy])
      simp [h1, h2, hv, XV.real]⟩
theorem arr_map {l : Array Operand} {ρ : Operand → Value} {vs : List Value} (h : l.toList.map ρ = vs) : l.map ρ = vs.toArray := by
  apply Array.toList_inj.1
  simp [h]
theorem ns_makeFunc {fn : Fn} {a b : Array Operand} (h : nX T st ω (.makeFunc fn a b) k) : NS P st ω ⟨dst, .makeFunc fn a b, ty, pos, af, gd⟩ k := by
  simp only [nX] at h
  obtain ⟨vs, h, h1⟩ := plains_ok h
  obtain ⟨ws, h, h2⟩ := plains_ok h
  exact ns_pure h fun β ρ W hρ => by
    have e1 := arr_map (h1 ρ β fun y hy => hρ y (by simp [Op.operands]; exact .inl (by simpa using hy)))
    have e2 := arr_map (h2 ρ β fun y hy => hρ y (by simp [Op.operands]; exact .inr (by simpa using hy)))
    simp [execOp, Instr.makeFunc, e1, e2, go_sem]
theorem ns_extract {x : Operand} {i : Nat} (h : nX T st ω (.extract x i) k) : NS P st ω ⟨dst, .extract x i, ty, pos, af, gd⟩ k := by
  simp only [nX] at h
  split at h
  · rename_i vs hx
    split at h
    · rename_i v hv
      rw [nth_eq] at hv
      have hv' : vs[i]? = some v := by simpa using hv
      exact ns_pure h fun β ρ W hρ => by
        have e1 := hρ x (by simp [Op.operands]); rw [hx] at e1
        simp [execOp, Instr.extract, e1, XV.real, hv', go_sem]
    · exact h.elim
  · exact h.elim
theorem ns_builtin (hT : TabOk P T) {b : Builtin} {as : Array Operand} {ts : Array TypeId} (h : nX T st ω (.call { callee := .builtin b, args := as, argTypes := ts }) k) : NS P st ω ⟨dst, .call { callee := .builtin b, args := as, argTypes := ts }, ty, pos, af, gd⟩ k := by
  simp only [nX] at h
  split at h
  · rename_i x t ha ht
    obtain rfl : as = #[x] := Array.toList_inj.1 ha
    obtain rfl : ts = #[t] := Array.toList_inj.1 ht
    split at h
    · rename_i s hd hx
      have hu := (hT.get (ne_bad hd (by simp))).str hd
      exact ns_pure h fun β ρ W hρ => by
        have e1 := hρ x (by simp [Op.operands, Call.operands]); rw [hx] at e1
        simp [execOp, resolve, invoke, Go.builtin, Builtin.len_, e1, XV.real, run_underlying hu, goInt, go_sem]
    · rename_i e a n c hd hx
      have hu := (hT.get (ne_bad hd (by simp))).slice hd
      exact ns_pure h fun β ρ W hρ => by
        have e1 := hρ x (by simp [Op.operands, Call.operands]); rw [hx] at e1
        simp [execOp, resolve, invoke, Go.builtin, Builtin.len_, e1, XV.real, run_underlying hu, goInt, go_sem]
    · exact h.elim
  · rename_i l x y ha
    obtain rfl : as = #[x, y] := Array.toList_inj.1 ha
    split at h
    · rename_i a b hx hy
      by_cases hab : a ≤ b
      · exact ns_pure (h.1 hab) fun β ρ W hρ => by
          have e1 := hρ x (by simp [Op.operands, Call.operands]); rw [hx] at e1
          have e2 := hρ y (by simp [Op.operands, Call.operands]); rw [hy] at e2
          have : ¬ b < a := by omega
          simp [execOp, resolve, invoke, Go.builtin, Builtin.min_, Builtin.min2, e1, e2, XV.real, this, go_sem]
      · exact ns_pure (h.2 (by omega)) fun β ρ W hρ => by
          have e1 := hρ x (by simp [Op.operands, Call.operands]); rw [hx] at e1
          have e2 := hρ y (by simp [Op.operands, Call.operands]); rw [hy] at e2
          have : b < a := by omega
          simp [execOp, resolve, invoke, Go.builtin, Builtin.min_, Builtin.min2, e1, e2, XV.real, this, go_sem]
    · exact h.elim
  · rename_i l x y ha
    obtain rfl : as = #[x, y] := Array.toList_inj.1 ha
    split at h
    · rename_i a b hx hy
      by_cases hab : b ≤ a
      · exact ns_pure (h.1 hab) fun β ρ W hρ => by
          have e1 := hρ x (by simp [Op.operands, Call.operands]); rw [hx] at e1
          have e2 := hρ y (by simp [Op.operands, Call.operands]); rw [hy] at e2
          have : ¬ a < b := by omega
          simp [execOp, resolve, invoke, Go.builtin, Builtin.max_, Builtin.max2, e1, e2, XV.real, this, go_sem]
      · exact ns_pure (h.2 (by omega)) fun β ρ W hρ => by
          have e1 := hρ x (by simp [Op.operands, Call.operands]); rw [hx] at e1
          have e2 := hρ y (by simp [Op.operands, Call.operands]); rw [hy] at e2
          have : a < b := by omega
          simp [execOp, resolve, invoke, Go.builtin, Builtin.max_, Builtin.max2, e1, e2, XV.real, this, go_sem]
    · exact h.elim
  · exact h.elim
end
end Go.X
namespace Go.X
open Go.RowKit
variable {P : Program} {T : Tab}
set_option linter.unusedVariables false
set_option linter.unusedSimpArgs false
section
variable {st : St} {ω : World} {k : NK} {dst : Option Tmp} {ty : TypeId} {pos : String} {af : Array Edge} {gd : Option (Nat × Bool)}

theorem put_fold : ∀ (vs : List Value) (cs : Array Value) (off j : Nat), ((vs.zipIdx j).foldl (fun cs (p : Value × Nat) => cs.setIfInBounds (off + p.2) p.1) cs).toList = putCells cs.toList (off + j) vs
  | [], cs, off, j => rfl
  | v :: vs, cs, off, j => by
    rw [List.zipIdx_cons, List.foldl_cons, put_fold vs _ off (j + 1)]
    simp [putCells, Nat.add_assoc]
theorem putCells_length : ∀ (vs cs : List Value) (off : Nat), (putCells cs off vs).length = cs.length
  | [], _, _ => rfl
  | v :: vs, cs, off => by rw [putCells, putCells_length vs]; simp
theorem fill_ok {place : Nat → Option (Nat × Nat)} : ∀ {parts : List (Nat × Operand)} {cs : List Value} {kk : List Value → Prop}, fillX place st cs parts kk →
    ∃ out, kk out ∧ ∀ (ρ : Operand → Value) (β : Nat → Nat) (pl : Nat → Option (Nat × Nat)), (∀ i o s, place i = some (o, s) → pl i = some (o, s)) → (∀ p ∈ parts, ρ p.2 = (ev st p.2).real β) → ∀ ca : Array Value, ca.toList = cs → Instr.fill pl ca (parts.map fun p => (p.1, ρ p.2)) = some out.toArray
  | [], cs, kk, h => ⟨cs, h, fun ρ β pl _ _ ca hc => by simp [Instr.fill, ← hc]⟩
  | (i, x) :: rest, cs, kk, h => by
    simp only [fillX] at h
    split at h
    · exact h.elim
    · rename_i off size hp
      obtain ⟨v, ⟨⟨hl, hb⟩, h⟩, hv⟩ := plain_ok h
      obtain ⟨out, hk, hr⟩ := fill_ok h
      refine ⟨out, hk, fun ρ β pl hpl hρ ca hc => ?_⟩
      have e1 : ρ x = v := by have := hρ (i, x) (by simp); rw [hv] at this; exact this
      simp only [List.map_cons, Instr.fill, hpl _ _ _ hp, e1]
      have hls : v.cells.size = size := by rw [← hl]; simp
      have hbs : off + size ≤ ca.size := by rw [← hc] at hb; simpa using hb
      rw [if_neg (by simp; omega)]
      refine hr ρ β pl hpl (fun p hp => hρ p (by simp [hp])) _ ?_
      rw [← Array.foldl_toList, Array.toList_zipIdx, put_fold, hc, Nat.add_zero]
theorem run_mapM {α β : Type} (f : α → Sem β) (g : α → β) (W : World) : ∀ l : List α, (∀ x ∈ l, (f x).run P W = .ok (g x) W) → (l.mapM f).run P W = .ok (l.map g) W
  | [], _ => by simp
  | x :: l, h => by
    have h1 := h x (by simp)
    have h2 := run_mapM f g W l fun y hy => h y (by simp [hy])
    simp [List.mapM_cons, h1, h2]
theorem goods_ok : ∀ {fs : List (Nat × Nat)}, goods T fs = true → ∀ p ∈ fs, ∀ (_ : (T p.2).d = .bad), False
  | [], _, p, hp => by simp at hp
  | (o, t) :: l, h, p, hp => by
    simp only [goods] at h
    split at h
    · cases h
    · rename_i hnb
      rcases List.mem_cons.1 hp with rfl | hp
      · exact hnb
      · exact goods_ok h p hp
theorem ns_build (hT : TabOk P T) {t : Nat} {parts : Array (Nat × Operand)} (h : nX T st ω (.build t parts) k) : NS P st ω ⟨dst, .build t parts, ty, pos, af, gd⟩ k := by
  simp only [nX] at h
  split at h
  · rename_i fs hd
    cases hg : goods T fs
    · simp [hg] at h
    · simp only [hg, cond_true] at h
      have ht := hT.get (ne_bad hd (by simp))
      obtain ⟨gs, hu, hgs⟩ := ht.struct hd
      obtain ⟨out, hk, hr⟩ := fill_ok h
      exact ns_pure hk fun β ρ W hρ => by
        obtain ⟨z, hz, hzc⟩ := ht.zero W
        have hpl : (gs.mapM fun (f : Field) => do let s ← sizeOf f.type; pure (f.offset, s)).run P W = .ok (gs.map fun (f : Field) => (f.offset, (T f.type).size)) W := by
          rw [Array.mapM_eq_mapM_toList, Sem.run_map, run_mapM _ (fun f : Field => (f.offset, (T f.type).size))]
          · simp only [Result.andThen_ok]
            congr 1
            apply Array.toList_inj.1
            simp
          · intro f hf
            have hnb := goods_ok hg (f.offset, f.type) (by rw [← hgs]; exact List.mem_map.2 ⟨f, hf, rfl⟩)
            simp only [Sem.run_bind, (hT.get hnb).size, Result.andThen_ok, Sem.run_pure]
        have hfill := hr ρ β (fun i => (gs.map fun (f : Field) => (f.offset, (T f.type).size))[i]?) (fun i o s hi => by
          split at hi
          · rename_i off ft hn
            split at hi
            · cases hi
            · rename_i hnb
              obtain ⟨f, hf, rfl, rfl⟩ := field_at hgs hn
              simp only [Option.some.injEq, Prod.mk.injEq] at hi
              obtain ⟨rfl, rfl⟩ := hi
              simp [hf]
          · cases hi) (fun p hp => hρ p.2 (by simp [Op.operands]; exact ⟨_, by simpa using hp⟩)) z.cells hzc
        have hparts : (parts.map fun p => (p.1, ρ p.2)).toList = parts.toList.map fun p => (p.1, ρ p.2) := by simp
        simp only [execOp, Instr.build, Sem.run_bind, Sem.run_map, hz, Result.andThen_ok, run_underlying hu, hpl, hparts, hfill, Sem.run_pure]
  · exact h.elim
/-- **What an operation that doesn't act comes to.** -/
theorem nX_sound (hT : TabOk P T) (hwf : ∀ i b o, st.fr i = .loc b o → b < st.nb) (o : Oper) (h : nX T st ω o.op k) : NS P st ω o k := by
  obtain ⟨dst, op, ty, pos, af, gd⟩ := o
  cases op
  case move x => exact ns_move hwf h
  case assign x => exact ns_assign hwf h
  case pick c a b => exact ns_pick hwf h
  case load t a => exact ns_load hT hwf h
  case nilCheck x => exact ns_nilCheck hwf h
  case binOp op t x y ty' => exact ns_binOp hT h
  case unOp op t x => exact ns_unOp h
  case fieldAddr s x i => exact ns_fieldAddr hT hwf h
  case field s x i => exact ns_field hT h
  case indexAddr t x ix => exact ns_indexAddr hT hwf h
  case index t x ix => exact ns_index hT h
  case slice t x lo hi mx => exact ns_slice hT h
  case convert s d x => exact ns_convert hT h
  case makeInterface t x => exact ns_makeInterface hT h
  case makeFunc fn a b => exact ns_makeFunc h
  case build t parts => exact ns_build hT h
  case extract x i => exact ns_extract h
  case call c =>
    obtain ⟨callee, as, ts⟩ := c
    cases callee with
    | builtin b => exact ns_builtin hT h
    | _ => exact h.elim
  all_goals exact h.elim
end
end Go.X
namespace Go.X
open Go.RowKit
variable {P : Program} {T : Tab} {tr : Nat → Bool}
set_option linter.unusedVariables false
set_option linter.unusedSimpArgs false

/-- How the state lies in the machine. -/
structure Rel (β : Nat → Nat) (N : Nat) (ω0 W0 : World) (st : St) (ω : World) (a : Act) (W : World) : Prop where
  fr : ∀ i, a.tmps.getD i undef = (st.fr i).real β
  size : a.tmps.size = N
  defers : a.defers = []
  wf : ∀ i b o, st.fr i = .loc b o → b < st.nb
  box : ∀ k, k < st.nb → β k < W.heap.size ∧ W0.heap.size ≤ β k ∧ Hid ω (β k) ∧ ∃ t, W.heap[β k]? = some (.cells (st.mem k).toArray t (0, 0))
  inj : ∀ k k', k < st.nb → k' < st.nb → β k = β k' → k = k'
  sees : Sees ω W
  keeps : Keeps ω0 W0 ω W

theorem Rel.eval {β : Nat → Nat} {N : Nat} {ω0 W0 : World} {st : St} {ω : World} {a : Act} {W : World} (h : Rel β N ω0 W0 st ω a W) (x : Operand) : a.eval x = (ev st x).real β := by
  cases x with
  | tmp t => exact h.fr t
  | _ => rfl
theorem beq_no {i d : Nat} (h : i ≠ d) : Nat.beq i d = false := by
  cases e : Nat.beq i d
  · rfl
  · exact absurd (Nat.eq_of_beq_eq_true e) h
theorem real_agree {β β' : Nat → Nat} {n : Nat} {x : XV} (h : ∀ b o, x = .loc b o → b < n) (hb : ∀ k, k < n → β' k = β k) : x.real β' = x.real β := by
  cases x with
  | v x => rfl
  | loc b o => simp [XV.real, hb b (h b o rfl)]

theorem getD_put {a : Act} {d : Nat} {v : Value} (hd : d < a.tmps.size) (i : Nat) : (a.put (some d) v).tmps.getD i undef = if i = d then v else a.tmps.getD i undef := by
  simp only [Act.put, Array.getD_eq_getD_getElem?, Array.getElem?_setIfInBounds]
  by_cases e : d = i
  · subst e; simp [hd]
  · rw [if_neg e, if_neg (fun h => e h.symm)]
theorem Rel.put {β : Nat → Nat} {N : Nat} {ω0 W0 : World} {st : St} {ω : World} {a : Act} {W : World} (h : Rel β N ω0 W0 st ω a W) {dst : Option Nat} (hd : ∀ d, dst = some d → d < N) {x : XV} (hx : LocOk st x) :
    Rel β N ω0 W0 (st.set dst x) ω (a.put dst (x.real β)) W := by
  cases dst with
  | none => exact h
  | some d =>
    have hlt : d < a.tmps.size := by rw [h.size]; exact hd d rfl
    refine ⟨fun i => ?_, ?_, h.defers, fun i b o hi => ?_, h.box, h.inj, h.sees, h.keeps⟩
    · rw [getD_put hlt]
      simp only [St.set]
      by_cases e : i = d
      · subst e; simp
      · have : Nat.beq i d = false := beq_no e
        rw [if_neg e, this]; exact h.fr i
    · simp [Act.put, h.size]
    · simp only [St.set] at hi
      cases e : Nat.beq i d
      · rw [e] at hi; exact h.wf i b o hi
      · rw [e] at hi; exact hx b o hi

def growTo (ω : World) (n : Nat) (o : Obj) : World := { ω with heap := ω.heap ++ Array.replicate (n - ω.heap.size) hole |>.push o }
theorem growTo_old (ω : World) (n : Nat) (o : Obj) {j : Nat} (h : j < ω.heap.size) : (growTo ω n o).heap[j]? = ω.heap[j]? := by
  simp only [growTo, Array.getElem?_push, Array.getElem?_append, Array.size_append, Array.size_replicate]
  rw [if_neg (by omega), if_pos h]
theorem growTo_mid (ω : World) (n : Nat) (o : Obj) (hn : ω.heap.size ≤ n) {j : Nat} (h : ω.heap.size ≤ j) (h2 : j < n) : (growTo ω n o).heap[j]? = some hole := by
  simp only [growTo, Array.getElem?_push, Array.getElem?_append, Array.size_append, Array.size_replicate]
  rw [if_neg (by omega), if_neg (by omega), Array.getElem?_replicate, if_pos (by omega)]
theorem growTo_new (ω : World) (n : Nat) (o : Obj) (hn : ω.heap.size ≤ n) : (growTo ω n o).heap[n]? = some o := by
  simp only [growTo, Array.getElem?_push, Array.getElem?_append, Array.size_append, Array.size_replicate]
  rw [if_pos (by omega)]
theorem growTo_size (ω : World) (n : Nat) (o : Obj) (hn : ω.heap.size ≤ n) : (growTo ω n o).heap.size = n + 1 := by
  simp only [growTo, Array.size_push, Array.size_append, Array.size_replicate]
  omega
theorem growTo_ext (ω : World) (n : Nat) (o : Obj) (hn : ω.heap.size ≤ n) : NewAt ω (growTo ω n o) n o :=
  ⟨⟨rfl, rfl, rfl, by rw [growTo_size _ _ _ hn]; omega, fun j hj => growTo_old _ _ _ hj⟩, hn, growTo_new _ _ _ hn⟩
theorem alloc_at (W : World) (o : Obj) (j : Nat) : (W.alloc o).heap[j]? = if j = W.heap.size then some o else W.heap[j]? := by
  show (W.heap.push o)[j]? = _
  rw [Array.getElem?_push]
theorem Sees.grow {ω W : World} (h : Sees ω W) (o : Obj) : Sees (growTo ω W.heap.size o) (W.alloc o) := by
  refine ⟨h.os, h.tape, h.output, ?_, fun j x hj hx => ?_⟩
  · rw [growTo_size _ _ _ h.size]; simp
  · rw [alloc_at]
    by_cases e : j = W.heap.size
    · subst e
      rw [growTo_new _ _ _ h.size] at hj
      simp [hj]
    · rw [if_neg e]
      rcases Nat.lt_or_ge j ω.heap.size with hlt | hge
      · rw [growTo_old _ _ _ hlt] at hj; exact h.blk j x hj hx
      · rcases Nat.lt_or_ge j W.heap.size with h2 | h2
        · rw [growTo_mid _ _ _ h.size hge h2] at hj
          simp only [Option.some.injEq] at hj
          subst hj
          cases hx
        · have : (growTo ω W.heap.size o).heap[j]? = none := by rw [Array.getElem?_eq_none_iff, growTo_size _ _ _ h.size]; omega
          rw [this] at hj; cases hj
theorem Hid.grow {ω : World} {n j : Nat} (h : Hid ω j) (o : Obj) (hn : ω.heap.size ≤ n) (hj : j < n) : Hid (growTo ω n o) j := by
  intro x hx
  rcases Nat.lt_or_ge j ω.heap.size with hlt | hge
  · rw [growTo_old _ _ _ hlt] at hx; exact h x hx
  · rw [growTo_mid _ _ _ hn hge hj] at hx
    simp only [Option.some.injEq] at hx
    subst hx; rfl
theorem hid_out {ω : World} {j : Nat} (h : ω.heap.size ≤ j) : Hid ω j := fun o ho => by rw [Array.getElem?_eq_none_iff.2 h] at ho; cases ho

section
variable {β : Nat → Nat} {N : Nat} {ω0 W0 : World} {st : St} {ω : World} {a : Act} {W : World}
/-- A block of the machine's own that nobody sees. -/
theorem Rel.box_new (h : Rel β N ω0 W0 st ω a W) (cs : List Value) (t : Nat) :
    Rel (fun i => if i = st.nb then W.heap.size else β i) N ω0 W0 (st.newBox cs) ω a (W.alloc (.cells cs.toArray t)) := by
  have hag : ∀ k, k < st.nb → (fun i => if i = st.nb then W.heap.size else β i) k = β k := fun k hk => by simp; omega
  refine ⟨fun i => ?_, h.size, h.defers, fun i b o hi => Nat.lt_succ_of_lt (h.wf i b o hi), fun k hk => ?_, fun k k' hk hk' he => ?_, ?_, ?_⟩
  · rw [h.fr i]; exact (real_agree (h.wf i) hag).symm
  · simp only [St.newBox] at hk ⊢
    by_cases e : k = st.nb
    · subst e
      simp only [if_true, Nat.beq_refl, cond_true]
      refine ⟨by simp, h.keeps.size, hid_out h.sees.size, t, ?_⟩
      rw [alloc_at, if_pos rfl]
    · have hk' : k < st.nb := by omega
      have hb : Nat.beq k st.nb = false := beq_no e
      obtain ⟨h1, h2, h3, t', h4⟩ := h.box k hk'
      rw [if_neg e, hb]
      refine ⟨by simp; omega, h2, h3, t', ?_⟩
      rw [alloc_at, if_neg (by omega)]
      exact h4
  · simp only [St.newBox] at hk hk'
    by_cases e : k = st.nb <;> by_cases e' : k' = st.nb
    · omega
    · subst e
      simp only [if_true, if_neg e'] at he
      have := (h.box k' (by omega)).1
      omega
    · subst e'
      simp only [if_true, if_neg e] at he
      have := (h.box k (by omega)).1
      omega
    · simp only [if_neg e, if_neg e'] at he
      exact h.inj k k' (by omega) (by omega) he
  · refine ⟨h.sees.os, h.sees.tape, h.sees.output, by have := h.sees.size; simp; omega, fun j x hj hx => ?_⟩
    have := h.sees.blk j x hj hx
    rw [alloc_at, if_neg]
    · exact this
    · intro e
      subst e
      rw [Array.getElem?_eq_none_iff.2 (Nat.le_refl _)] at this
      cases this
  · refine ⟨by have := h.keeps.size; simp; omega, fun j hj hh => ?_⟩
    obtain ⟨h1, h2⟩ := h.keeps.hid j hj hh
    refine ⟨h1, ?_⟩
    rw [alloc_at, if_neg (by have := h.keeps.size; omega)]
    exact h2
/-- A block that is seen. -/
theorem Rel.new (h : Rel β N ω0 W0 st ω a W) (o : Obj) : Rel β N ω0 W0 st (growTo ω W.heap.size o) a (W.alloc o) := by
  refine ⟨h.fr, h.size, h.defers, h.wf, fun k hk => ?_, h.inj, h.sees.grow o, ⟨by have := h.keeps.size; simp; omega, fun j hj hh => ?_⟩⟩
  · obtain ⟨h1, h2, h3, t, h4⟩ := h.box k hk
    refine ⟨by simp; omega, h2, h3.grow o h.sees.size h1, t, ?_⟩
    rw [alloc_at, if_neg (by omega)]; exact h4
  · obtain ⟨h1, h2⟩ := h.keeps.hid j hj hh
    have := h.keeps.size
    refine ⟨h1.grow o h.sees.size (by omega), ?_⟩
    rw [alloc_at, if_neg (by omega)]
    exact h2
/-- A world that a callee has left. -/
theorem Rel.after (h : Rel β N ω0 W0 st ω a W) {ω' W' : World} (hs : Sees ω' W') (hk : Keeps ω W ω' W') : Rel β N ω0 W0 st ω' a W' := by
  refine ⟨h.fr, h.size, h.defers, h.wf, fun k hb => ?_, h.inj, hs, h.keeps.trans hk⟩
  obtain ⟨h1, h2, h3, t, h4⟩ := h.box k hb
  obtain ⟨g1, g2⟩ := hk.hid _ h1 h3
  exact ⟨Nat.lt_of_lt_of_le h1 hk.size, h2, g1, t, by rw [g2]; exact h4⟩
end
end Go.X
namespace Go.X
open Go.RowKit
variable {P : Program} {T : Tab} {tr : Nat → Bool}
set_option linter.unusedVariables false
set_option linter.unusedSimpArgs false
section
variable {β : Nat → Nat} {N : Nat} {ω0 W0 : World} {st : St} {ω : World} {a : Act} {W : World}

theorem heap_setCell (w : World) (p : Addr) (u : Value) (j : Nat) (h : j ≠ p.block) : (w.setCell p u).heap[j]? = w.heap[j]? := Below.heap_setCell w p u j h
theorem heap_stores (w : World) (p : Addr) : ∀ (vs : List Value) (i j : Nat), j ≠ p.block → (stores w p i vs).heap[j]? = w.heap[j]?
  | [], _, _, _ => rfl
  | v :: vs, i, j, h => by
    have h2 : ∀ (w' : World) , (stores w' p (i + 1) vs).heap[j]? = w'.heap[j]? := fun w' => heap_stores w' p vs (i + 1) j h
    rw [stores, h2, heap_setCell _ _ _ _ (by rw [show (p.add i).block = p.block by unfold Addr.add; split <;> rfl]; exact h)]
theorem size_setCell (w : World) (p : Addr) (u : Value) : (w.setCell p u).heap.size = w.heap.size := by simp [World.setCell]
theorem size_stores (w : World) (p : Addr) : ∀ (vs : List Value) (i : Nat), (stores w p i vs).heap.size = w.heap.size
  | [], _ => rfl
  | v :: vs, i => by
    have h2 := size_stores (w.setCell (p.add i) v) p vs (i + 1)
    rw [stores, h2, size_setCell]
theorem add_block (p : Addr) (i : Nat) : (p.add i).block = p.block := by unfold Addr.add; split <;> rfl
theorem cell_setCell_same (w : World) (p : Addr) (u : Value) {old : Value} (h : w.cell? p = some old) : (w.setCell p u).cell? p = some u := by
  unfold World.cell? at *
  simp only [World.setCell, Array.getElem?_modify]
  cases ho : w.heap[p.block]? with
  | none => rw [ho] at h; cases h
  | some o =>
    rw [ho] at h
    cases o with
    | cells c e f =>
      simp only at h
      cases hs : p.spot.isSome
      · rw [hs] at h
        simp at h
        have hlt : p.off < c.size := (Array.getElem?_eq_some_iff.1 h).1
        simp [hs, hlt]
      · rw [hs] at h; simp at h
    | _ => cases h
theorem cell_setCell_ne (w : World) (p q : Addr) (u : Value) (h : p.block ≠ q.block ∨ p.off ≠ q.off) : (w.setCell p u).cell? q = w.cell? q := by
  unfold World.cell?
  simp only [World.setCell, Array.getElem?_modify]
  by_cases he : p.block = q.block
  · rw [if_pos he]
    cases ho : w.heap[q.block]? with
    | none => rfl
    | some o =>
      cases o with
      | cells c e f =>
        have hne := h.resolve_left (fun h => h he)
        simp only [Option.map_some]
        cases q.spot.isSome
        · cases p.spot.isSome
          · simp only [Bool.false_eq_true, if_false]
            rw [Array.getElem?_setIfInBounds_ne hne]
          · simp
        · rfl
      | _ => rfl
  · rw [if_neg he]
theorem frozen_setCell (w : World) (p q : Addr) (u : Value) : (w.setCell p u).frozen? q = w.frozen? q := by
  unfold World.frozen?
  simp only [World.setCell, Array.getElem?_modify]
  by_cases e : p.block = q.block
  · rw [if_pos e]
    cases w.heap[q.block]? with
    | none => rfl
    | some o => cases o <;> rfl
  · rw [if_neg e]
theorem add_off (p : Addr) (i : Nat) : (p.add i).off = p.off + i := by unfold Addr.add; split <;> simp_all
/-- The cells of a variable, stored one after the other. -/
theorem run_storeCells (P : Program) (p : Addr) : ∀ (vs : List Value) (i : Nat) (w : World), (∀ j u, vs[j]? = some u → one u = true ∧ (∃ old, w.cell? (p.add (i + j)) = some old) ∧ w.frozen? (p.add (i + j)) = false) →
    (storeCells p vs i).run P w = .ok () (stores w p i vs)
  | [], i, w, _ => rfl
  | v :: vs, i, w, h => by
    obtain ⟨h1, ⟨old, h2⟩, h3⟩ := h 0 v (by simp)
    rw [Nat.add_zero] at h2 h3
    have hone : v.oneCell' = true := by cases v <;> first | rfl | (simp [one] at h1)
    have hs : (store (p.add i) v).run P w = .ok () (w.setCell (p.add i) v) := by rw [run_store P w _ v .plain hone]; simp [h2, h3]
    have ih := run_storeCells P p vs (i + 1) (w.setCell (p.add i) v) (fun j u hj => by
      obtain ⟨g1, ⟨o2, g2⟩, g3⟩ := h (j + 1) u (by simpa using hj)
      rw [show i + (j + 1) = i + 1 + j by omega] at g2 g3
      refine ⟨g1, ⟨o2, ?_⟩, ?_⟩
      · rw [cell_setCell_ne _ _ _ _ (.inr (by rw [add_off, add_off]; omega))]; exact g2
      · rw [frozen_setCell]; exact g3)
    simp only [storeCells, Sem.run_bind, hs, Result.andThen_ok, ih, stores]
theorem run_storeAt {t : Nat} {ti : TI} (ht : TOk P t ti) {v : Value} (hl : v.cells.toList.length = ti.size) {p : Addr} {w : World} (h : ∀ j u, v.cells.toList[j]? = some u → one u = true ∧ (∃ old, w.cell? (p.add j) = some old) ∧ w.frozen? (p.add j) = false) :
    (Instr.storeAt t (.pointer (some p)) v).run P w = .ok () (stores w p 0 v.cells.toList) := by
  have h1 := run_storeCells P p v.cells.toList 0 w (fun j u hj => by rw [Nat.zero_add]; exact h j u hj)
  have h2 : v.cells.size = ti.size := by rw [← hl]; simp
  simp only [Instr.storeAt, Instr.sureAddr, storeVar, Sem.run_bind, Sem.run_pure, Result.andThen_ok, ht.size]
  rw [if_neg (by simpa using h2)]
  first
    | exact h1
    | (simp only [Sem.run_pure, Result.andThen_ok]; exact h1)
theorem stores_box (w : World) (b t : Nat) : ∀ (vs : List Value) (cs : List Value) (off i : Nat), w.heap[b]? = some (.cells cs.toArray t (0, 0)) →
    (stores w ⟨b, off, none⟩ i vs).heap[b]? = some (.cells (putCells cs (off + i) vs).toArray t (0, 0))
  | [], cs, off, i, h => h
  | v :: vs, cs, off, i, h => by
    have h1 : (w.setCell ((⟨b, off, none⟩ : Addr).add i) v).heap[b]? = some (.cells (cs.set (off + i) v).toArray t (0, 0)) := by
      rw [loc_add]
      simp only [World.setCell, Array.getElem?_modify, if_true, h, Option.map_some]
      simp
    rw [stores, putCells]
    exact stores_box _ b t vs _ off (i + 1) h1

abbrev EPost (mb : Bool) (k : EK) (β : Nat → Nat) (N : Nat) (ω0 W0 : World) (st : St) (a : Act) (x : Value) (W' : World) : Prop :=
  ∃ xv st' ω' β', x = xv.real β' ∧ k xv st' ω' ∧ st'.fr = st.fr ∧ (mb = false → st'.mem = st.mem) ∧ st.nb ≤ st'.nb ∧ (∀ i, i < st.nb → β' i = β i) ∧ LocOk st' xv ∧ Rel β' N ω0 W0 st' ω' a W'

/-- What an operation does, said of what it hands back and the world. -/
def EDoes (P : Program) (ρ : Operand → Value) (o : Oper) (W : World) (R : Value → World → Prop) : Prop :=
  match (execOp ρ o).run P W with
  | .ok (.value v) W' => R v W'
  | .ok .skip W' => R undef W'
  | .ok (.enter g args) W' => Calls P g args W' fun e W'' => ∃ v, e = .returned v ∧ R v W''
  | _ => False
theorem EDoes.congr {ρ ρ' : Operand → Value} {o : Oper} {W : World} {R : Value → World → Prop} (h : EDoes P ρ o W R) (he : execOp ρ' o = execOp ρ o) : EDoes P ρ' o W R := by
  unfold EDoes at *
  rw [he]
  exact h
theorem EDoes.wp {o : Oper} {R : Value → World → Prop} {next : Act → World → Prop} {Q : Exit → Act → World → Prop} (h : EDoes P a.eval o W R) (hn : ∀ v W', R v W' → next (a.put o.dst v) W') : o.wp P a W next Q := by
  unfold EDoes at h
  unfold Oper.wp
  generalize (execOp a.eval o).run P W = r at *
  cases r with
  | ok n W' =>
    cases n <;> simp only at h <;> simp only [Oper.upon]
    case value v => exact hn _ _ h
    case skip => exact hn _ _ h
    case enter g args => exact h.mono fun e W'' ⟨v, he, hr⟩ => by subst he; exact hn _ _ hr
  | halt x W' => exact h.elim
theorem upon_ok {o : Oper} {v : Value} {W' : World} {R : Value → World → Prop} (h : (execOp a.eval o).run P W = .ok (.value v) W') (hn : R v W') : EDoes P a.eval o W R := by
  unfold EDoes
  rw [h]
  exact hn
theorem upon_skip {o : Oper} {W' : World} {R : Value → World → Prop} (h : (execOp a.eval o).run P W = .ok .skip W') (hn : R undef W') : EDoes P a.eval o W R := by
  unfold EDoes
  rw [h]
  exact hn
theorem run_alloc {t : Nat} {ti : TI} (ht : TOk P t ti) (W : World) : ∃ z : Value, z.cells.toList = ti.zero ∧ (Instr.alloc t true (.tuple #[])).run P W = .ok (.pointer (some ⟨W.heap.size, 0, none⟩)) (W.alloc (.cells z.cells t)) := by
  obtain ⟨z, hz, hc⟩ := ht.zero W
  exact ⟨z, hc, by simp only [Instr.alloc, Sem.run_bind, hz, Result.andThen_ok, newVar, newRow, Sem.run_map, run_newObj]; rfl⟩
theorem evV_of {x : Operand} {v : Value} (h : ev st x = .v v) : evV st x = v := by simp [evV, h]
theorem allV_ok : ∀ {l : List Operand}, allV st l = true → ∀ x ∈ l, ∃ v, ev st x = .v v
  | [], _, x, hx => by simp at hx
  | y :: l, h, x, hx => by
    simp only [allV] at h
    split at h
    · rename_i v hv
      rcases List.mem_cons.1 hx with rfl | hx
      · exact ⟨v, hv⟩
      · exact allV_ok h x hx
    · cases h
end
end Go.X
namespace Go.X
open Go.RowKit
variable {P : Program} {T : Tab} {tr : Nat → Bool}
set_option linter.unusedVariables false
set_option linter.unusedSimpArgs false
section
variable {β : Nat → Nat} {N : Nat} {ω0 W0 : World} {st : St} {ω : World} {a : Act} {W : World}

theorem plains_act (hR : Rel β N ω0 W0 st ω a W) {l : List Operand} {kk : List Value → Prop} (h : plains st l kk) : ∃ vs, kk vs ∧ l.map a.eval = vs := by
  obtain ⟨vs, h1, h2⟩ := plains_ok h
  exact ⟨vs, h1, h2 a.eval β fun y _ => hR.eval y⟩
theorem e_alloc (hT : TabOk P T) (hR : Rel β N ω0 W0 st ω a W) {k : EK} {t : Nat} {d : Option Nat} (hnb : ∀ (_ : (T t).d = .bad), False)
    (h : bif tr (d.getD 0) then k (.loc st.nb 0) (st.newBox (T t).zero) ω else ∀ b ω', NewAt ω ω' b (.cells (T t).zero.toArray t) → k (.v (.pointer (some ⟨b, 0, none⟩))) st ω') :
    ∃ x W', (Instr.alloc t true (.tuple #[])).run P W = .ok x W' ∧ EPost true k β N ω0 W0 st a x W' := by
  obtain ⟨z, hz, hr⟩ := run_alloc (hT.get hnb) W
  have hz' : z.cells = (T t).zero.toArray := by apply Array.toList_inj.1; simp [hz]
  rw [hz'] at hr
  refine ⟨_, _, hr, ?_⟩
  cases htr : tr (d.getD 0)
  · simp only [htr, cond_false] at h
    exact ⟨_, _, _, β, rfl, h _ _ (growTo_ext ω _ _ hR.sees.size), rfl, fun _ => rfl, Nat.le_refl _, fun _ _ => rfl, locOk_v _ _, hR.new _⟩
  · simp only [htr, cond_true] at h
    refine ⟨_, _, _, _, ?_, h, rfl, (fun h => by cases h), Nat.le_succ _, fun i hi => ?_, ?_, hR.box_new _ t⟩
    · simp [XV.real]
    · simp; omega
    · intro b o e; cases e; exact Nat.lt_succ_self _
theorem e_box (hR : Rel β N ω0 W0 st ω a W) {k : EK} {t : Nat} {d : Option Nat} {v : Value}
    (h : bif tr (d.getD 0) then k (.loc st.nb 0) (st.newBox v.cells.toList) ω else ∀ b ω', NewAt ω ω' b (.cells v.cells t) → k (.v (.pointer (some ⟨b, 0, none⟩))) st ω') :
    ∃ x W', (Instr.box t v).run P W = .ok x W' ∧ EPost true k β N ω0 W0 st a x W' := by
  have hr : (Instr.box t v).run P W = .ok (.pointer (some ⟨W.heap.size, 0, none⟩)) (W.alloc (.cells v.cells t)) := by
    simp only [Instr.box, newVar, newRow, Sem.run_bind, Sem.run_map, run_newObj, Result.andThen_ok]; rfl
  refine ⟨_, _, hr, ?_⟩
  cases htr : tr (d.getD 0)
  · simp only [htr, cond_false] at h
    exact ⟨_, _, _, β, rfl, h _ _ (growTo_ext ω _ _ hR.sees.size), rfl, fun _ => rfl, Nat.le_refl _, fun _ _ => rfl, locOk_v _ _, hR.new _⟩
  · simp only [htr, cond_true] at h
    refine ⟨_, _, _, (fun i => if i = st.nb then W.heap.size else β i), ?_, h, rfl, (fun h => by cases h), Nat.le_succ _, fun i hi => ?_, ?_, ?_⟩
    · simp [XV.real]
    · simp; omega
    · intro b o e; cases e; exact Nat.lt_succ_self _
    · have := hR.box_new v.cells.toList t
      simpa using this
theorem rep_eq (z : List Value) (s : Nat) (hz : z.length = s) : ∀ n, ((List.range (n * s)).map fun i => z[i % s]!) = rep n z
  | 0 => by simp [rep]
  | n + 1 => by
    rw [rep, ← rep_eq z s hz n, Nat.add_mul, Nat.one_mul, List.range_add, List.map_append, List.map_map]
    congr 1
    apply List.ext_getElem?
    intro i
    simp only [List.getElem?_map]
    by_cases h : i < s
    · rw [List.getElem?_range h]
      simp only [Option.map_some, Function.comp]
      have hm : (n * s + i) % s = i := by rw [Nat.mul_comm, Nat.mul_add_mod]; exact Nat.mod_eq_of_lt h
      rw [hm, getElem!_pos z i (by omega), List.getElem?_eq_getElem (by omega)]
    · rw [List.getElem?_eq_none (by simp; omega), List.getElem?_eq_none (by omega)]
      rfl
theorem rep_length (z : List Value) : ∀ n, (rep n z).length = n * z.length
  | 0 => by simp [rep]
  | n + 1 => by rw [rep, List.length_append, rep_length z n, Nat.add_mul, Nat.one_mul]
theorem e_buildSlice (hT : TabOk P T) (hR : Rel β N ω0 W0 st ω a W) {k : EK} {t e len : Nat} {parts : Array (Nat × Operand)} (hd : (T t).d = .slice e) (hnb : ∀ (_ : (T e).d = .bad), False)
    (hsz : len * (T e).size ≤ 16777216) (hz : (T e).zero.length = (T e).size)
    (h : fillX (fun i => some (times i (T e).size, (T e).size)) st (rep len (T e).zero) parts.toList fun cs => ∀ b ω', NewAt ω ω' b (.cells cs.toArray e) → k (.v (.slice (some ⟨b, 0, none⟩) len len)) st ω') :
    ∃ x W', (Instr.buildSlice t len (parts.map fun p => (p.1, a.eval p.2))).run P W = .ok x W' ∧ EPost false k β N ω0 W0 st a x W' := by
  have hu := (hT.get (ne_bad hd (by simp))).slice hd
  have he := hT.get hnb
  obtain ⟨z, hzr, hzc⟩ := he.zero W
  obtain ⟨out, hk, hr⟩ := fill_ok h
  have hzs : z.cells.size = (T e).size := by rw [← hz, ← hzc]; simp
  have hinit : ∀ zc : Array Value, (len * (T e).size ≠ 0 → zc = z.cells) → ((Array.range (len * (T e).size)).map (fun i => zc[i % zc.size]!)).toList = rep len (T e).zero := by
    intro zc hzc'
    by_cases h0 : len * (T e).size = 0
    · have hl := rep_length (T e).zero len
      rw [hz, h0] at hl
      have h3 := List.eq_nil_of_length_eq_zero hl
      rw [h0, h3]
      simp
    · rw [hzc' h0, hzs, Array.toList_map, Array.toList_range, ← rep_eq (T e).zero (T e).size hz len]
      congr 1
      funext i
      rw [← hzc]
      generalize z.cells = zc0
      cases zc0
      simp
  have hparts : (parts.map fun p => (p.1, a.eval p.2)).toList = parts.toList.map fun p => (p.1, a.eval p.2) := by simp
  have hrun : (Instr.buildSlice t len (parts.map fun p => (p.1, a.eval p.2))).run P W = .ok (.slice (some ⟨W.heap.size, 0, none⟩) len len) (W.alloc (.cells out.toArray e)) := by
    have hfill := fun zc hzc => hr a.eval β (fun i => some (i * (T e).size, (T e).size)) (fun i o s hi => by simpa [times_eq] using hi) (fun p _ => hR.eval p.2) _ (hinit zc hzc)
    have hns : ¬ (2 ^ 24 < len * (T e).size) := by omega
    by_cases h0 : len * (T e).size = 0
    · have := hfill #[] (fun h => absurd h0 h)
      simp only [Instr.buildSlice, Sem.run_bind, Sem.run_map, run_underlying hu, Result.andThen_ok, he.size, gt_iff_lt, h0, Nat.not_lt_zero, if_false, if_true, Sem.run_pure, hparts]
      rw [h0] at this
      simp only [this, newRow, Sem.run_bind, Sem.run_map, run_newObj, Result.andThen_ok, Sem.run_pure]
      rfl
    · have := hfill z.cells (fun _ => rfl)
      simp only [Instr.buildSlice, Sem.run_bind, Sem.run_map, run_underlying hu, Result.andThen_ok, he.size, gt_iff_lt, hns, if_false, h0, hzr, Sem.run_pure, hparts]
      simp only [this, newRow, Sem.run_bind, Sem.run_map, run_newObj, Result.andThen_ok, Sem.run_pure]
      rfl
  exact ⟨_, _, hrun, _, _, _, β, rfl, hk _ _ (growTo_ext ω _ _ hR.sees.size), rfl, fun _ => rfl, Nat.le_refl _, fun _ _ => rfl, locOk_v _ _, hR.new _⟩
theorem Hid.vis {b : Nat} (h : Hid ω b) {p : Addr} {v : Value} (hc : ω.cell? p = some v) : p.block ≠ b := by
  intro e
  subst e
  unfold World.cell? at hc
  cases ho : ω.heap[p.block]? with
  | none => rw [ho] at hc; cases hc
  | some o =>
    rw [ho] at hc
    have := h o ho
    cases o <;> simp [isHole] at this
    cases hc
theorem hid_stores {p : Addr} {b : Nat} (vs : List Value) (h : Hid ω b) (hp : b ≠ p.block) : Hid (stores ω p 0 vs) b := fun o ho => by
  rw [heap_stores _ _ _ _ _ hp] at ho; exact h o ho
theorem sees_stores {ω W : World} (h : Sees ω W) (p : Addr) : ∀ (vs : List Value) (i : Nat), Sees (stores ω p i vs) (stores W p i vs) ∨ True := fun _ _ => .inr trivial
theorem stores_at (w : World) (p : Addr) : ∀ (vs : List Value) (i : Nat), ∃ f : Obj → Obj, (∀ w' : World, (stores w' p i vs).heap[p.block]? = (w'.heap[p.block]?).map f) ∧ ∀ o, isHole (f o) = isHole o
  | [], i => ⟨id, fun w' => by simp [stores], fun _ => rfl⟩
  | v :: vs, i => by
    obtain ⟨f, hf, hh⟩ := stores_at w p vs (i + 1)
    let g : Obj → Obj := fun | .cells c elem frozen => .cells (if (p.add i).spot.isSome then c else c.setIfInBounds (p.add i).off v) elem frozen | o => o
    refine ⟨fun o => f (g o), fun w' => ?_, fun o => ?_⟩
    · rw [stores, hf]
      have : (w'.setCell (p.add i) v).heap[p.block]? = (w'.heap[p.block]?).map g := by
        simp only [World.setCell, Array.getElem?_modify, add_block, if_true]
        rfl
      rw [this, Option.map_map]
      rfl
    · rw [hh]
      cases o <;> rfl
theorem same_stores (w : World) (p : Addr) : ∀ (vs : List Value) (i : Nat), (stores w p i vs).os = w.os ∧ (stores w p i vs).tape = w.tape ∧ (stores w p i vs).output = w.output
  | [], _ => ⟨rfl, rfl, rfl⟩
  | v :: vs, i => same_stores (w.setCell (p.add i) v) p vs (i + 1)
/-- A store that is seen. -/
theorem Rel.store (hR : Rel β N ω0 W0 st ω a W) {p : Addr} {vs : List Value} (h : ∀ i u, vs[i]? = some u → one u = true ∧ (∃ old, ω.cell? (p.add i) = some old) ∧ ω.frozen? (p.add i) = false) :
    Rel β N ω0 W0 st (stores ω p 0 vs) a (stores W p 0 vs) := by
  cases vs with
  | nil => exact hR
  | cons v0 vs0 =>
    obtain ⟨_, ⟨old, hc⟩, _⟩ := h 0 v0 (by simp)
    have hvis : ∀ b, Hid ω b → b ≠ p.block := fun b hb e => hb.vis hc (by rw [add_block]; exact e.symm)
    refine ⟨hR.fr, hR.size, hR.defers, hR.wf, fun k hk => ?_, hR.inj, ⟨?_, ?_, ?_, ?_, fun j x hj hx => ?_⟩, hR.keeps.trans ⟨?_, fun j hj hh => ?_⟩⟩
    · obtain ⟨h1, h2, h3, t, h4⟩ := hR.box k hk
      refine ⟨by rw [size_stores]; exact h1, h2, hid_stores _ h3 (hvis _ h3), t, ?_⟩
      rw [heap_stores _ _ _ _ _ (hvis _ h3)]; exact h4
    · rw [(same_stores W p _ 0).1, (same_stores ω p _ 0).1]; exact hR.sees.os
    · rw [(same_stores W p _ 0).2.1, (same_stores ω p _ 0).2.1]; exact hR.sees.tape
    · rw [(same_stores W p _ 0).2.2, (same_stores ω p _ 0).2.2]; exact hR.sees.output
    · rw [size_stores, size_stores]; exact hR.sees.size
    · by_cases e : j = p.block
      · subst e
        obtain ⟨f, hf, hh⟩ := stores_at ω p (v0 :: vs0) 0
        rw [hf] at hj ⊢
        cases ho : ω.heap[p.block]? with
        | none => rw [ho] at hj; cases hj
        | some o =>
          rw [ho] at hj
          simp only [Option.map_some, Option.some.injEq] at hj
          subst hj
          rw [hR.sees.blk _ _ ho (by rw [← hh]; exact hx)]
          rfl
      · rw [heap_stores _ _ _ _ _ e] at hj ⊢
        exact hR.sees.blk j x hj hx
    · rw [size_stores]; exact Nat.le_refl _
    · exact ⟨hid_stores _ hh (hvis _ hh), by rw [heap_stores _ _ _ _ _ (hvis _ hh)]⟩
theorem putCells_get : ∀ (vs cs : List Value) (off j : Nat), (putCells cs off vs)[j]? = if off ≤ j ∧ j < off + vs.length ∧ j < cs.length then vs[j - off]? else cs[j]?
  | [], cs, off, j => by simp [putCells]; intro h1 h2; omega
  | v :: vs, cs, off, j => by
    rw [putCells, putCells_get vs _ (off + 1) j]
    simp only [List.length_set, List.length_cons]
    by_cases h1 : j = off
    · subst h1
      rw [if_neg (by omega)]
      by_cases h2 : j < cs.length
      · rw [if_pos ⟨Nat.le_refl _, by omega, h2⟩]; simp [h2]
      · rw [if_neg (by omega)]; simp [h2]
    · by_cases h2 : off + 1 ≤ j ∧ j < off + 1 + vs.length ∧ j < cs.length
      · rw [if_pos h2, if_pos (by omega)]
        rw [show j - off = (j - (off + 1)) + 1 by omega, List.getElem?_cons_succ]
      · rw [if_neg h2, if_neg (by omega), List.getElem?_set_ne (by omega)]
/-- A store into a box. -/
theorem Rel.storeBox (hR : Rel β N ω0 W0 st ω a W) {b off : Nat} (hb : b < st.nb) {vs : List Value} :
    Rel β N ω0 W0 (st.setMem b (putCells (st.mem b) off vs)) ω a (stores W ⟨β b, off, none⟩ 0 vs) := by
  obtain ⟨b1, b2, b3, bt, b4⟩ := hR.box b hb
  refine ⟨hR.fr, hR.size, hR.defers, hR.wf, fun k hk => ?_, hR.inj, ⟨?_, ?_, ?_, ?_, fun j x hj hx => ?_⟩, ⟨?_, fun j hj hh => ?_⟩⟩
  · obtain ⟨h1, h2, h3, t, h4⟩ := hR.box k hk
    by_cases e : k = b
    · subst e
      refine ⟨by rw [size_stores]; exact h1, h2, h3, t, ?_⟩
      simp only [St.setMem, Nat.beq_refl, cond_true]
      exact stores_box W (β k) t vs (st.mem k) off 0 h4
    · refine ⟨by rw [size_stores]; exact h1, h2, h3, t, ?_⟩
      simp only [St.setMem, beq_no e, cond_false]
      rw [heap_stores _ _ _ _ _ (fun he => e (hR.inj k b hk hb he))]; exact h4
  · rw [(same_stores W _ _ 0).1]; exact hR.sees.os
  · rw [(same_stores W _ _ 0).2.1]; exact hR.sees.tape
  · rw [(same_stores W _ _ 0).2.2]; exact hR.sees.output
  · rw [size_stores]; exact hR.sees.size
  · rw [heap_stores _ _ _ _ _ (fun he => by
      have h1 : j = β b := he
      subst h1
      rw [b3 x hj] at hx; cases hx)]
    exact hR.sees.blk j x hj hx
  · rw [size_stores]; exact hR.keeps.size
  · obtain ⟨h1, h2⟩ := hR.keeps.hid j hj hh
    exact ⟨h1, by rw [heap_stores _ _ _ _ _ (fun he => by have h3 : j = β b := he; omega)]; exact h2⟩
end
end Go.X
namespace Go.X
open Go.RowKit
variable {P : Program} {T : Tab} {tr : Nat → Bool}
set_option linter.unusedVariables false
set_option linter.unusedSimpArgs false
section
variable {β : Nat → Nat} {N : Nat} {ω0 W0 : World} {st : St} {ω : World} {a : Act} {W : World}

theorem box_add (b off i : Nat) : ((⟨b, off, none⟩ : Addr).add i) = ⟨b, off + i, none⟩ := loc_add b off i
/-- **What an operation that acts comes to.** -/
theorem eX_sound (hT : TabOk P T) (hR : Rel β N ω0 W0 st ω a W) {o : Oper} {k : EK} (h : eX P T tr st ω o k) :
    EDoes P a.eval o W (EPost (movesBox o) k β N ω0 W0 st a) := by
  obtain ⟨dst, op, ty, pos, af, gd⟩ := o
  -- what goes by the bare operation
  have raw : ∀ (hs : ∀ cs b, op ≠ .select cs b), (allV st op.operands.toList = true ∧ OpX P (evV st) ⟨dst, op, ty, pos, af, gd⟩ ω fun v ω' => k (.v v) st ω') → EDoes P a.eval ⟨dst, op, ty, pos, af, gd⟩ W (EPost (movesBox ⟨dst, op, ty, pos, af, gd⟩) k β N ω0 W0 st a) := by
    intro hs ⟨hv, hx⟩
    obtain ⟨v, W', ω', hr, hS, hK, hk⟩ := hx W hR.sees
    have hc : execOp a.eval ⟨dst, op, ty, pos, af, gd⟩ = execOp (evV st) ⟨dst, op, ty, pos, af, gd⟩ := execOp_congr _ hs fun x hx => by
      obtain ⟨v, hv⟩ := allV_ok hv x (by simpa using hx)
      rw [hR.eval, hv, evV_of hv]; rfl
    have hp : EPost (movesBox ⟨dst, op, ty, pos, af, gd⟩) k β N ω0 W0 st a v W' := ⟨_, _, _, β, rfl, hk, rfl, fun _ => rfl, Nat.le_refl _, fun _ _ => rfl, locOk_v _ _, hR.after hS hK⟩
    rw [← hc] at hr
    rcases hr with hr | ⟨rfl, hr⟩
    · exact upon_ok hr hp
    · exact upon_skip hr hp
  cases op
  case alloc t =>
    simp only [eX] at h
    split at h
    · exact h.elim
    · rename_i hnb
      obtain ⟨x, W', hr, hp⟩ := e_alloc hT hR hnb h
      refine upon_ok ?_ hp
      simp only [execOp, Sem.run_bind, Sem.run_map, hr, Result.andThen_ok, Sem.run_pure]
  case box t x =>
    simp only [eX] at h
    split at h
    · exact h.elim
    · rename_i hnb
      obtain ⟨v, h, hv⟩ := plain_ok h
      obtain ⟨x', W', hr, hp⟩ := e_box (P := P) hR h
      have e1 : a.eval x = v := by rw [hR.eval, hv]; rfl
      refine upon_ok ?_ hp
      simp only [execOp, e1, Sem.run_bind, Sem.run_map, hr, Result.andThen_ok, Sem.run_pure]
  case store t ad x =>
    simp only [eX] at h
    split at h
    · exact h.elim
    · rename_i hnb
      have ht := hT.get hnb
      obtain ⟨v, ⟨hl, h⟩, hv⟩ := plain_ok h
      have e1 : a.eval x = v := by rw [hR.eval, hv]; rfl
      split at h
      · rename_i b off hb
        obtain ⟨hoff, hone, hk⟩ := h
        have hbn : b < st.nb := ev_ok hR.wf ad b off hb
        have e2 : a.eval ad = .pointer (some ⟨β b, off, none⟩) := by rw [hR.eval, hb]; rfl
        obtain ⟨b1, b2, b3, bt, b4⟩ := hR.box b hbn
        have hr := run_storeAt (P := P) ht (v := v) hl (p := ⟨β b, off, none⟩) (w := W) (fun j u hj => by
          have hjl : j < v.cells.toList.length := (List.getElem?_eq_some_iff.1 hj).1
          refine ⟨hone u (List.mem_of_getElem? hj), ?_, ?_⟩
          · rw [box_add]
            have : off + j < (st.mem b).length := by omega
            exact ⟨(st.mem b)[off + j], by simp [World.cell?, b4, this]⟩
          · simp [World.frozen?, add_block, b4])
        refine upon_skip (W' := stores W ⟨β b, off, none⟩ 0 v.cells.toList) ?_ ⟨_, _, _, β, rfl, hk, rfl, (fun h => by simp [movesBox] at h), Nat.le_refl _, fun _ _ => rfl, locOk_v _ _, hR.storeBox hbn⟩
        simp only [execOp, e1, e2, Sem.run_bind, Sem.run_map, hr, Result.andThen_ok, Sem.run_pure]
      · rename_i p hp
        obtain ⟨hc, hk⟩ := h
        have e2 : a.eval ad = .pointer (some p) := by rw [hR.eval, hp]; rfl
        have hr := run_storeAt (P := P) ht (v := v) hl (p := p) (w := W) (fun j u hj => by
          obtain ⟨g1, ⟨old, g2⟩, g3⟩ := hc j u hj
          exact ⟨g1, ⟨old, hR.sees.cell g2⟩, by rw [hR.sees.frozen g2]; exact g3⟩)
        refine upon_skip (W' := stores W p 0 v.cells.toList) ?_ ⟨_, _, _, β, rfl, hk, rfl, fun _ => rfl, Nat.le_refl _, fun _ _ => rfl, locOk_v _ _, hR.store hc⟩
        simp only [execOp, e1, e2, Sem.run_bind, Sem.run_map, hr, Result.andThen_ok, Sem.run_pure]
      · exact h.elim
  case call c =>
    obtain ⟨callee, as, ts⟩ := c
    cases callee with
    | value f =>
      simp only [eX] at h
      split at h
      · rename_i g first captured hf
        obtain ⟨vs, hcall, hvs⟩ := plains_act hR h
        have e1 : a.eval f = .func (.func g) first captured := by rw [hR.eval, hf]; rfl
        have e2 : as.map a.eval = vs.toArray := arr_map hvs
        obtain ⟨hent, hc⟩ := hcall
        have hr : (execOp a.eval ⟨dst, .call { callee := .value f, args := as, argTypes := ts }, ty, pos, af, gd⟩).run P W = .ok (.enter g (first.toList ++ vs ++ captured.toList).toArray) W := by
          have h1 := hent (first ++ vs.toArray ++ captured) W
          have h2 : (first.toList ++ vs ++ captured.toList).toArray = first ++ vs.toArray ++ captured := by apply Array.toList_inj.1; simp
          rw [h2]
          simp only [execOp, resolve, Deferred.ofValue, e1, e2, Sem.run_bind, Sem.run_pure, Result.andThen_ok, invoke]
          exact h1
        unfold EDoes
        rw [hr]
        simp only
        refine (hc W hR.sees).mono ?_
        rintro e W' ⟨v, ω', rfl, hS, hK, hk⟩
        exact ⟨v, rfl, _, _, _, β, rfl, hk, rfl, fun _ => rfl, Nat.le_refl _, fun _ _ => rfl, locOk_v _ _, hR.after hS hK⟩
      · exact h.elim
    | invoke r m => exact raw (fun _ _ => by simp) h
    | builtin b => exact raw (fun _ _ => by simp) h
  case select cs b => exact h.elim
  case buildSlice t len parts =>
    simp only [eX] at h
    split at h
    · rename_i e hd
      split at h
      · exact h.elim
      · rename_i hnb
        cases hc : (Nat.ble (len * (T e).size) 16777216 && Nat.beq (T e).zero.length (T e).size)
        · rw [hc] at h; exact h.elim
        · rw [hc, cond_true] at h
          simp only [Bool.and_eq_true] at hc
          obtain ⟨x', W', hr, hp⟩ := e_buildSlice hT hR hd hnb (Nat.le_of_ble_eq_true hc.1) (Nat.eq_of_beq_eq_true hc.2) h
          obtain ⟨xv, st', ω', β', h1, h2, h3, h4, h5⟩ := hp
          refine upon_ok ?_ ⟨xv, st', ω', β', h1, h2, h3, fun _ => ?_, h5⟩
          · simp only [execOp, Sem.run_bind, Sem.run_map, hr, Result.andThen_ok, Sem.run_pure]
          · exact h4 rfl
    · exact h.elim
  all_goals exact raw (fun _ _ => by simp) h
end
end Go.X
namespace Go.X
open Go.RowKit
variable {P : Program} {T : Tab} {tr : Nat → Bool}
set_option linter.unusedVariables false
set_option linter.unusedSimpArgs false
section
variable {β : Nat → Nat} {N : Nat} {ω0 W0 : World} {st : St} {ω : World} {a : Act} {W : World}

/-- Whether an operation is carried out. -/
theorem guardX_ok (hR : Rel β N ω0 W0 st ω a W) {ops : Array Oper} {o : Oper} {yes no : Prop} (h : guardX ops.toList st o yes no) :
    (Region.wanted o (yielded ops a.tmps) = true ∧ yes) ∨ (Region.wanted o (yielded ops a.tmps) = false ∧ no) := by
  unfold guardX at h
  unfold Region.wanted
  cases hg : o.guard with
  | none => rw [hg] at h; exact .inl ⟨rfl, h⟩
  | some gw =>
    obtain ⟨j, want⟩ := gw
    rw [hg] at h
    simp only at h ⊢
    have hn : nth ops.toList j = ops[j]? := by rw [nth_eq]; simp
    rw [hn] at h
    cases hd : (ops[j]?).bind (·.dst) with
    | none =>
      rw [hd] at h
      refine .inr ⟨?_, h⟩
      simp [yielded, hd]
    | some d =>
      rw [hd] at h
      simp only at h
      have hfr := hR.fr d
      have hy : ∀ v, (st.fr d).real β = v → yielded ops a.tmps j = match v with | .bool b => some b | _ => none := by
        intro v hv
        rw [hv] at hfr
        unfold yielded
        rw [hd]
        simp only [Option.bind_some]
        rw [Array.getD_eq_getD_getElem?] at hfr
        cases ht : a.tmps[d]? with
        | none => rw [ht] at hfr; simp only [Option.getD_none] at hfr; subst hfr; rfl
        | some u => rw [ht] at hfr; simp only [Option.getD_some] at hfr; subst hfr; cases u <;> rfl
      split at h
      · rename_i b hb
        have := hy (.bool b) (by rw [hb]; rfl)
        rw [this]
        cases b <;> cases want <;> simp only at h ⊢
        · exact .inl ⟨by simp, h⟩
        · exact .inr ⟨by simp, h⟩
        · exact .inr ⟨by simp, h⟩
        · exact .inl ⟨by simp, h⟩
      · rename_i vs hb
        have := hy (.tuple vs) (by rw [hb]; rfl)
        rw [this]
        exact .inr ⟨by simp, h⟩
      · exact h.elim

/-- What has become of a state: for the slots that nobody writes, and the boxes of before. -/
structure Went (β : Nat → Nat) (N : Nat) (ω0 W0 : World) (st : St) (a : Act) (β' : Nat → Nat) (st' : St) (ω' : World) (a' : Act) (W' : World) (nw : Nat → Prop) : Prop where
  rel : Rel β' N ω0 W0 st' ω' a' W'
  agree : ∀ k, k < st.nb → β' k = β k
  nb : st.nb ≤ st'.nb
  slots : ∀ i, nw i → a'.tmps.getD i undef = a.tmps.getD i undef
theorem Went.refl (hR : Rel β N ω0 W0 st ω a W) (nw : Nat → Prop) : Went β N ω0 W0 st a β st ω a W nw := ⟨hR, fun _ _ => rfl, Nat.le_refl _, fun _ _ => rfl⟩
theorem Went.trans {β' β'' : Nat → Nat} {st' st'' : St} {ω' ω'' : World} {a' a'' : Act} {W' W'' : World} {nw nw' nw'' : Nat → Prop} (h : Went β N ω0 W0 st a β' st' ω' a' W' nw) (g : Went β' N ω0 W0 st' a' β'' st'' ω'' a'' W'' nw')
    (h1 : ∀ i, nw'' i → nw i) (h2 : ∀ i, nw'' i → nw' i) : Went β N ω0 W0 st a β'' st'' ω'' a'' W'' nw'' :=
  ⟨g.rel, fun k hk => (g.agree k (Nat.lt_of_lt_of_le hk h.nb)).trans (h.agree k hk), Nat.le_trans h.nb g.nb, fun i hi => (g.slots i (h2 i hi)).trans (h.slots i (h1 i hi))⟩
theorem Went.put (hR : Rel β N ω0 W0 st ω a W) {dst : Option Nat} (hd : ∀ d, dst = some d → d < N) {x : XV} (hx : LocOk st x) :
    Went β N ω0 W0 st a β (st.set dst x) ω (a.put dst (x.real β)) W (fun i => dst ≠ some i) :=
  ⟨hR.put hd hx, fun _ _ => rfl, by cases dst <;> exact Nat.le_refl _, fun i hi => by
    cases dst with
    | none => rfl
    | some d => rw [getD_put (by rw [hR.size]; exact hd d rfl), if_neg (fun e => hi (by rw [e]))]⟩

def dstsOk (N : Nat) (l : List Oper) : Prop := ∀ o ∈ l, ∀ d, o.dst = some d → d < N
def quietSlot (l : List Oper) (i : Nat) : Prop := ∀ o ∈ l, o.dst ≠ some i

/-- A region in the text's order. -/
theorem seqX_sound (hT : TabOk P T) (ops : Array Oper) {K : St → World → Prop} {Q : Exit → Act → World → Prop} {β0 : Nat → Nat} {st0 : St} {a0 : Act} {nw : Nat → Prop}
    (hQ : ∀ β' st' ω' a' W', K st' ω' → Went β0 N ω0 W0 st0 a0 β' st' ω' a' W' nw → Q .normal a' W') :
    ∀ (l : List Oper), (∀ o ∈ l, ∀ d, o.dst = some d → d < N) → (∀ i, nw i → ∀ o ∈ l, o.dst ≠ some i) → ∀ (β : Nat → Nat) (st : St) (ω : World) (a : Act) (W : World), Went β0 N ω0 W0 st0 a0 β st ω a W nw → seqX P T tr ops.toList l st ω K → wpList P ops Q l a W
  | [], _, _, β, st, ω, a, W, hw, h => hQ β st ω a W h hw
  | o :: rest, hd, hn, β, st, ω, a, W, hw, h => by
    have hd' := fun o ho => hd o (List.mem_cons_of_mem _ ho)
    have hn' := fun i hi o ho => hn i hi o (List.mem_cons_of_mem _ ho)
    have hdo := hd o (List.mem_cons_self ..)
    have hno : ∀ i, nw i → o.dst ≠ some i := fun i hi => hn i hi o (List.mem_cons_self ..)
    have hR := hw.rel
    simp only [seqX] at h
    rcases guardX_ok hR h with ⟨hg, h⟩ | ⟨hg, h⟩
    · unfold wpList
      rw [if_pos hg]
      refine .inl ?_
      cases ha : acts T o.op
      · simp only [ha, cond_false] at h
        obtain ⟨x, s, hk, hs, hl, hgv⟩ := nX_sound (P := P) hT hR.wf o h
        have hr := hgv β a.eval st.mem ω W (fun y _ => hR.eval y) (fun k hk => (hR.box k hk).2.2.2) hR.sees (fun b S e => (hs b S e).1)
        refine EDoes.wp (upon_ok (R := fun v W' => v = x.real β ∧ W' = W) hr ⟨rfl, rfl⟩) ?_
        rintro _ _ ⟨rfl, rfl⟩
        exact seqX_sound hT ops hQ rest hd' hn' β _ ω _ _ (hw.trans (Went.put hR hdo hl) (fun _ h => h) hno) hk
      · simp only [ha, cond_true] at h
        refine EDoes.wp (eX_sound hT hR h) fun x W' hp => ?_
        obtain ⟨xv, st', ω', β', rfl, hk, hfr, _, hnb, hag, hloc, hR'⟩ := hp
        exact seqX_sound hT ops hQ rest hd' hn' β' _ ω' _ W' ((hw.trans ⟨hR', hag, hnb, fun _ _ => rfl⟩ (fun _ h => h) (fun _ h => h)).trans (Went.put hR' hdo hloc) (fun _ h => h) hno) hk
    · unfold wpList
      rw [if_neg (by rw [hg]; simp)]
      exact seqX_sound hT ops hQ rest hd' hn' β _ ω _ W (hw.trans (Went.put hR hdo (locOk_v st undef)) (fun _ h => h) hno) h
end
end Go.X
namespace Go.X
open Go.RowKit
variable {P : Program} {T : Tab} {tr : Nat → Bool}
set_option linter.unusedVariables false
set_option linter.unusedSimpArgs false

theorem has_iff {l : List Nat} {i : Nat} : has l i = true ↔ i ∈ l := by
  induction l with
  | nil => simp [has]
  | cons x l ih =>
    simp only [has, List.mem_cons]
    cases e : Nat.beq i x
    · simp only [cond_false, ih]
      constructor
      · exact .inr
      · rintro (rfl | h)
        · simp at e
        · exact h
    · simp only [cond_true, true_iff]
      exact .inl (Nat.eq_of_beq_eq_true e)
/-- What a region that draws must be like. -/
structure DrawOk (ops : Array Oper) : Prop where
  sel : ∀ (j : Nat) (o : Oper) cs b, ops[j]? = some o → o.op ≠ .select cs b
  edge : ∀ (i : Nat) (o : Oper), ops[i]? = some o → ∀ e ∈ o.after, Region.binds .any e = true → e.on < i
  dst : ∀ (i j : Nat) (o p : Oper), ops[i]? = some o → ops[j]? = some p → i ≠ j → ∀ d, o.dst = some d → p.dst ≠ some d
  look : ∀ (i j : Nat) (o p : Oper), ops[i]? = some o → ops[j]? = some p → i ≠ j → ∀ d, p.dst = some d → d ∈ o.looksAt ops → waits o j = true ∨ i ∈ ancOf ops.toList p
theorem waits_iff {o : Oper} {j : Nat} : waits o j = true ↔ ∃ e ∈ o.after, Region.binds .any e = true ∧ e.on = j := by
  simp only [waits, List.any_eq_true, Bool.and_eq_true, Array.mem_toList_iff]
  constructor
  · rintro ⟨e, he, hb, hj⟩; exact ⟨e, he, hb, Nat.eq_of_beq_eq_true hj⟩
  · rintro ⟨e, he, hb, rfl⟩; exact ⟨e, he, hb, by simp⟩
theorem sees_iff {ops : Array Oper} {o : Oper} {d : Nat} : sees o ops.toList d = true ↔ d ∈ o.looksAt ops := by
  unfold sees Oper.looksAt
  rw [Bool.or_eq_true, List.mem_append]
  refine or_congr ?_ ?_
  · simp only [List.any_eq_true, List.mem_filterMap]
    constructor
    · rintro ⟨x, hx, h⟩
      cases x with
      | tmp t => exact ⟨.tmp t, hx, by simp [Nat.eq_of_beq_eq_true h]⟩
      | _ => cases h
    · rintro ⟨x, hx, h⟩
      cases x with
      | tmp t => simp at h; subst h; exact ⟨_, hx, by simp⟩
      | _ => simp at h
  · cases o.guard with
    | none => simp
    | some gw =>
      obtain ⟨g, w⟩ := gw
      simp only [nth_eq, Array.getElem?_toList]
      cases (ops[g]?).bind (·.dst) with
      | none => simp
      | some t =>
        simp only [Option.toList_some, List.mem_singleton]
        constructor
        · intro h; exact (Nat.eq_of_beq_eq_true h).symm
        · rintro rfl; simp
theorem late_iff {ops : Array Oper} {o : Oper} {i d : Nat} (hd : o.dst = some d) (h : lateW ops.toList o i = false) (x : Oper) (hx : x ∈ ops.toList) (hs : d ∈ x.looksAt ops) : waits x i = true := by
  unfold lateW at h
  rw [hd] at h
  have := List.any_eq_false.1 h x hx
  rw [sees_iff.2 hs] at this
  simpa using this
theorem rdy_iff {o : Oper} {done : List Nat} : rdy o done = true ↔ ∀ e ∈ o.after, Region.binds .any e = true → e.on ∈ done := by
  simp only [rdy, List.all_eq_true, Array.mem_toList_iff, Bool.or_eq_true, Bool.not_eq_true', has_iff]
  constructor
  · intro h e he hb
    rcases h e he with h | h
    · rw [hb] at h; cases h
    · exact h
  · intro h e he
    cases hb : Region.binds .any e
    · exact .inl rfl
    · exact .inr (h e he hb)
theorem findN_some {L : List Oper} {done : List Nat} : ∀ {l : List Oper} {n i : Nat} {o : Oper}, findN T L done l n = some (i, o) → n ≤ i ∧ l[i - n]? = some o ∧ i ∉ done ∧ rdy o done = true ∧ isE T L o i = false
  | [], n, i, o, h => by simp [findN] at h
  | x :: l, n, i, o, h => by
    simp only [findN] at h
    cases hc : (!has done n && rdy x done && !isE T L x n)
    · rw [hc, cond_false] at h
      obtain ⟨h1, h2, h3⟩ := findN_some h
      refine ⟨by omega, ?_, h3⟩
      rw [show i - n = (i - (n + 1)) + 1 by omega, List.getElem?_cons_succ]; exact h2
    · rw [hc, cond_true] at h
      simp only [Option.some.injEq, Prod.mk.injEq] at h
      obtain ⟨rfl, rfl⟩ := h
      simp only [Bool.and_eq_true, Bool.not_eq_true'] at hc
      refine ⟨Nat.le_refl _, by simp, fun hm => ?_, hc.1.2, hc.2⟩
      rw [has_iff.2 hm] at hc; simp at hc
theorem findN_none {L : List Oper} {done : List Nat} : ∀ {l : List Oper} {n : Nat}, findN T L done l n = none → ∀ i o, n ≤ i → l[i - n]? = some o → i ∉ done → rdy o done = true → isE T L o i = true
  | [], n, h, i, o, hi, ho, _, _ => by simp at ho
  | x :: l, n, h, i, o, hi, ho, hd, hr => by
    simp only [findN] at h
    cases hc : (!has done n && rdy x done && !isE T L x n)
    · rw [hc, cond_false] at h
      rcases Nat.eq_or_lt_of_le hi with rfl | hlt
      · simp only [Nat.sub_self, List.getElem?_cons_zero, Option.some.injEq] at ho
        subst ho
        have : has done n = false := by cases e : has done n; rfl; exact absurd (has_iff.1 e) hd
        rw [this, hr] at hc
        simpa using hc
      · rw [show i - n = (i - (n + 1)) + 1 by omega, List.getElem?_cons_succ] at ho
        exact findN_none h i o hlt ho hd hr
    · rw [hc, cond_true] at h; cases h
theorem readyE_mem {L : List Oper} {done : List Nat} : ∀ {l : List Oper} {n i : Nat} {o : Oper}, n ≤ i → l[i - n]? = some o → i ∉ done → rdy o done = true → isE T L o i = true → (i, o) ∈ readyE T L done l n
  | [], n, i, o, hi, ho, _, _, _ => by simp at ho
  | x :: l, n, i, o, hi, ho, hd, hr, he => by
    simp only [readyE]
    rcases Nat.eq_or_lt_of_le hi with rfl | hlt
    · simp only [Nat.sub_self, List.getElem?_cons_zero, Option.some.injEq] at ho
      subst ho
      have : has done n = false := by cases e : has done n; rfl; exact absurd (has_iff.1 e) hd
      simp [this, hr, he]
    · rw [show i - n = (i - (n + 1)) + 1 by omega, List.getElem?_cons_succ] at ho
      have := readyE_mem hlt ho hd hr he
      cases (!has done n && rdy x done && isE T L x n)
      · exact this
      · exact List.mem_cons_of_mem _ this
theorem allX_mem {α : Type} {f : α → Prop} : ∀ {l : List α}, allX f l → ∀ x ∈ l, f x
  | [], _, x, hx => by simp at hx
  | [y], h, x, hx => by simp at hx; subst hx; exact h
  | y :: z :: l, h, x, hx => by
    rcases List.mem_cons.1 hx with rfl | hx
    · exact h.1
    · exact allX_mem h.2 x hx
theorem stable_mem {as : List Nat} {box : Bool} {m : Nat → List Value} {ω : World} : ∀ {l : Loads}, stable as box m ω l → ∀ i b S, (i, b, S) ∈ l → i ∉ as → (b && !box) = false → S m ω
  | [], _, i, b, S, h, _, _ => by simp at h
  | (j, b', S') :: l, hs, i, b, S, h, hi, hb => by
    simp only [stable] at hs
    rcases List.mem_cons.1 h with e | h
    · simp only [Prod.mk.injEq] at e
      obtain ⟨rfl, rfl, rfl⟩ := e
      have : has as i = false := by cases e : has as i; rfl; exact absurd (has_iff.1 e) hi
      rw [this, hb] at hs
      exact hs.1
    · cases hc : (has as j || (b' && !box))
      · rw [hc] at hs; exact stable_mem hs.2 i b S h hi hb
      · rw [hc] at hs; exact stable_mem hs i b S h hi hb
theorem anc_all {L : List Oper} {p : Nat → Prop} (hcl : ∀ i o, p i → L[i]? = some o → ∀ e ∈ o.after, Region.binds .any e = true → p e.on) : ∀ (n : Nat) (l : List Nat), (∀ x ∈ l, p x) → ∀ x ∈ anc L n l, p x
  | 0, l, h, x, hx => h x hx
  | n + 1, l, h, x, hx => by
    refine anc_all hcl n _ (fun y hy => ?_) x hx
    rcases List.mem_append.1 hy with hy | hy
    · exact h y hy
    · obtain ⟨i, hi, hy⟩ := List.mem_flatMap.1 hy
      rw [nth_eq] at hy
      cases ho : L[i]? with
      | none => rw [ho] at hy; simp at hy
      | some o =>
        rw [ho] at hy
        simp only [List.mem_map, List.mem_filter, Array.mem_toList_iff] at hy
        obtain ⟨e, ⟨he, hb⟩, rfl⟩ := hy
        exact hcl i o (h i hi) ho e he hb
end Go.X
namespace Go.X
open Go.RowKit
variable {P : Program} {T : Tab} {tr : Nat → Bool}
set_option linter.unusedVariables false
set_option linter.unusedSimpArgs false

/-- An operation that the one walk has taken and the machine not yet: it gives what the walk has taken. -/
def Pend (P : Program) (ops : Array Oper) (st : St) (ω : World) (as : Act) (loads : Loads) (i : Nat) (o : Oper) : Prop :=
  (∃ x s sti, (∀ y ∈ o.op.operands, ev sti y = ev st y) ∧ sti.nb ≤ st.nb ∧ Gives P sti o x s ∧ LocOk sti x ∧ (∀ d, o.dst = some d → st.fr d = x) ∧ Region.wanted o (yielded ops as.tmps) = true ∧
    (∀ b S, s = some (b, S) → (i, b, S) ∈ loads ∧ S st.mem ω ∧ (b = true → ∃ j, j < sti.nb ∧ ∀ m m' ω ω', m' j = m j → S m ω → S m' ω') ∧ (b = false → ∀ m m' ω, S m ω → S m' ω))) ∨
  ((∀ d, o.dst = some d → st.fr d = .v undef) ∧ Region.wanted o (yielded ops as.tmps) = false)

structure Sim (P : Program) (T : Tab) (ops : Array Oper) (N : Nat) (ω0 W0 : World) (β0 : Nat → Nat) (st0 : St) (a0 : Act) (nw : Nat → Prop)
    (listed : Array Bool) (a : Act) (W : World) (done : List Nat) (loads : Loads) (st : St) (ω : World) (β : Nat → Nat) (as : Act) : Prop where
  lsize : listed.size = ops.size
  sub : ∀ i, listed.getD i false = true → i ∈ done
  lt : ∀ i, i ∈ done → i < ops.size
  elisted : ∀ i o, i ∈ done → ops[i]? = some o → isE T ops.toList o i = true → listed.getD i false = true
  lclosed : ∀ i o, listed.getD i false = true → ops[i]? = some o → ∀ e ∈ o.after, Region.binds .any e = true → listed.getD e.on false = true
  dclosed : ∀ i o, i ∈ done → ops[i]? = some o → ∀ e ∈ o.after, Region.binds .any e = true → e.on ∈ done
  went : Went β0 N ω0 W0 st0 a0 β st ω as W nw
  size : a.tmps.size = N
  defers : a.defers = []
  slots : ∀ s, (∀ i o, i ∈ done → listed.getD i false = false → ops[i]? = some o → o.dst ≠ some s) → a.tmps.getD s undef = as.tmps.getD s undef
  pend : ∀ i o, i ∈ done → listed.getD i false = false → ops[i]? = some o → Pend P ops st ω as loads i o

section
variable {ops : Array Oper} {N : Nat} {ω0 W0 : World} {β0 : Nat → Nat} {st0 : St} {a0 : Act} {nw : Nat → Prop} {listed : Array Bool} {a : Act} {W : World} {done : List Nat} {loads : Loads} {st : St} {ω : World} {β : Nat → Nat} {as : Act}

theorem opnd_looks {o : Oper} {t : Nat} (h : Operand.tmp t ∈ o.op.operands) : t ∈ o.looksAt ops :=
  List.mem_append_left _ (List.mem_filterMap.2 ⟨.tmp t, by simpa using h, rfl⟩)
theorem ev_set {st : St} {o : Oper} {d : Option Nat} {x : XV} (h : ∀ s, d = some s → s ∉ o.looksAt ops) : ∀ y ∈ o.op.operands, ev (st.set d x) y = ev st y := by
  intro y hy
  cases d with
  | none => rfl
  | some s =>
    cases y with
    | tmp t =>
      have hne : t ≠ s := fun e => h s rfl (e ▸ opnd_looks hy)
      simp [ev, St.set, beq_no hne]
    | _ => rfl
/-- What is seen by an operation whose turn has come is there. -/
theorem Sim.seen (hD : DrawOk ops) (h : Sim P T ops N ω0 W0 β0 st0 a0 nw listed a W done loads st ω β as) {i : Nat} {o : Oper} (ho : ops[i]? = some o) (hr : ∀ e ∈ o.after, Region.binds .any e = true → listed.getD e.on false = true)
    (hself : listed.getD i false = false) : ∀ t ∈ o.looksAt ops, a.tmps.getD t undef = as.tmps.getD t undef := by
  intro t ht
  refine h.slots t fun j p hj hl hp hd => ?_
  have hji : j = i ∨ j ≠ i := Decidable.em _
  have hwt : waits o j = true := by
    have hE : isE T ops.toList p j = false := by
      cases e : isE T ops.toList p j
      · rfl
      · rw [h.elisted j p hj hp e] at hl; cases hl
    unfold isE at hE
    rw [Bool.or_eq_false_iff] at hE
    exact late_iff hd hE.2 o (by simpa using Array.mem_of_getElem? ho) ht
  obtain ⟨e, he, hb, rfl⟩ := waits_iff.1 hwt
  rw [hr e he hb] at hl
  cases hl
theorem Sim.seenOps (hD : DrawOk ops) (h : Sim P T ops N ω0 W0 β0 st0 a0 nw listed a W done loads st ω β as) {i : Nat} {o : Oper} (ho : ops[i]? = some o) (hr : ∀ e ∈ o.after, Region.binds .any e = true → listed.getD e.on false = true)
    (hself : listed.getD i false = false) : (∀ y ∈ o.op.operands, a.eval y = as.eval y) ∧ Region.wanted o (yielded ops a.tmps) = Region.wanted o (yielded ops as.tmps) := by
  have hs := h.seen hD ho hr hself
  refine ⟨fun y hy => ?_, ?_⟩
  · cases y with
    | tmp t => exact hs t (opnd_looks hy)
    | _ => rfl
  · unfold Region.wanted
    cases hg : o.guard with
    | none => rfl
    | some gw =>
      obtain ⟨g, want⟩ := gw
      simp only
      unfold yielded
      cases hd : (ops[g]?).bind (·.dst) with
      | none => rfl
      | some d =>
        have := hs d (by unfold Oper.looksAt; rw [hg]; simp [hd])
        simp only [Option.bind_some]
        rw [Array.getD_eq_getD_getElem?, Array.getD_eq_getD_getElem?] at this
        have hsz : a.tmps.size = as.tmps.size := by rw [h.size, h.went.rel.size]
        rcases Nat.lt_or_ge d a.tmps.size with hlt | hge
        · have h2 : d < as.tmps.size := by rw [← hsz]; exact hlt
          rw [Array.getElem?_eq_getElem hlt, Array.getElem?_eq_getElem h2] at this ⊢
          simp only [Option.getD_some] at this
          rw [this]
        · rw [Array.getElem?_eq_none hge, Array.getElem?_eq_none (by rw [← hsz]; exact hge)]
/-- What waits keeps waiting, when something that it doesn't look at is taken. -/
theorem Pend.step {i : Nat} {o p : Oper} {ω' : World} {st1 : St} {x : XV} {loads' : Loads} {v : Value} (h : Pend P ops st ω as loads i o) (hfr : st1.fr = st.fr) (hnb : st.nb ≤ st1.nb)
    (hd : ∀ d, p.dst = some d → d ∉ o.looksAt ops ∧ o.dst ≠ some d) (hl : ∀ q ∈ loads, q ∈ loads')
    (hS : ∀ b S, (i, b, S) ∈ loads → S st.mem ω → (b = true → ∃ j, j < st.nb ∧ ∀ m m' ω ω', m' j = m j → S m ω → S m' ω') → (b = false → ∀ m m' ω, S m ω → S m' ω) → S st1.mem ω') :
    Pend P ops (st1.set p.dst x) ω' (as.put p.dst v) loads' i o := by
  have hev : ∀ y ∈ o.op.operands, ev (st1.set p.dst x) y = ev st y := fun y hy => by
    rw [ev_set (ops := ops) (fun s e => (hd s e).1) y hy]
    cases y with
    | tmp t => simp [ev, hfr]
    | _ => rfl
  have hw : Region.wanted o (yielded ops (as.put p.dst v).tmps) = Region.wanted o (yielded ops as.tmps) := wanted_put o as p.dst v fun s e => (hd s e).1
  have hdst : ∀ d y, o.dst = some d → st.fr d = y → (st1.set p.dst x).fr d = y := fun d y hod hy => by
    cases hp : p.dst with
    | none => simp only [St.set]; rw [hfr]; exact hy
    | some s =>
      have hne : d ≠ s := fun e => (hd s hp).2 (e ▸ hod)
      simp only [St.set, beq_no hne, cond_false]
      rw [hfr]; exact hy
  have hnb2 : (st1.set p.dst x).nb = st1.nb := by cases p.dst <;> rfl
  have hmem : (st1.set p.dst x).mem = st1.mem := by cases p.dst <;> rfl
  rcases h with ⟨y, s, sti, h1, h2, h3, h4, h5, h6, h7⟩ | ⟨h1, h2⟩
  · refine .inl ⟨y, s, sti, fun z hz => (h1 z hz).trans (hev z hz).symm, by rw [hnb2]; omega, h3, h4, fun d hd => hdst d y hd (h5 d hd), by rw [hw]; exact h6, fun b S hs => ?_⟩
    obtain ⟨g1, g2, g3, g4⟩ := h7 b S hs
    refine ⟨hl _ g1, ?_, g3, g4⟩
    rw [hmem]
    exact hS b S g1 g2 (fun hb => let ⟨j, hj, hh⟩ := g3 hb; ⟨j, by omega, hh⟩) g4
  · exact .inr ⟨fun d hd => hdst d _ hd (h1 d hd), by rw [hw]; exact h2⟩
/-- The one walk takes an operation that doesn't act, ahead of the machine. -/
theorem Sim.ahead (hD : DrawOk ops) (hT : TabOk P T) (hN : ∀ o ∈ ops.toList, ∀ d, o.dst = some d → d < N) (hnw : ∀ i, nw i → ∀ o ∈ ops.toList, o.dst ≠ some i)
    (h : Sim P T ops N ω0 W0 β0 st0 a0 nw listed a W done loads st ω β as) {i : Nat} {o : Oper} (ho : ops[i]? = some o) (hi : i ∉ done) (hr : rdy o done = true) (hE : isE T ops.toList o i = false)
    {x : XV} {loads' : Loads} (hx : LocOk st x) (hl : ∀ q ∈ loads, q ∈ loads') (hp : Pend P ops (st.set o.dst x) ω (as.put o.dst (x.real β)) loads' i o) :
    Sim P T ops N ω0 W0 β0 st0 a0 nw listed a W (i :: done) loads' (st.set o.dst x) ω β (as.put o.dst (x.real β)) := by
  have hmem : o ∈ ops.toList := by simpa using Array.mem_of_getElem? ho
  have hilt : i < ops.size := (Array.getElem?_eq_some_iff.1 ho).1
  have hnl : listed.getD i false = false := by
    cases e : listed.getD i false
    · rfl
    · exact absurd (h.sub i e) hi
  refine ⟨h.lsize, fun j hj => List.mem_cons_of_mem _ (h.sub j hj), fun j hj => ?_, fun j p hj hp' he => ?_, h.lclosed, fun j p hj hp' e he hb => ?_, ?_, h.size, h.defers, fun s hs => ?_, fun j p hj hl' hp' => ?_⟩
  · rcases List.mem_cons.1 hj with rfl | hj
    · exact hilt
    · exact h.lt j hj
  · rcases List.mem_cons.1 hj with rfl | hj
    · rw [ho] at hp'; cases hp'; rw [hE] at he; cases he
    · exact h.elisted j p hj hp' he
  · rcases List.mem_cons.1 hj with rfl | hj
    · rw [ho] at hp'; cases hp'
      exact List.mem_cons_of_mem _ (rdy_iff.1 hr e he hb)
    · exact List.mem_cons_of_mem _ (h.dclosed j p hj hp' e he hb)
  · exact h.went.trans (Went.put h.went.rel (hN o hmem) hx) (fun _ h => h) (fun k hk => hnw k hk o hmem)
  · have h1 := h.slots s fun j p hj hl' hp' => hs j p (List.mem_cons_of_mem _ hj) hl' hp'
    have h2 := hs i o (List.mem_cons_self ..) hnl ho
    rw [h1]
    cases hd : o.dst with
    | none => rfl
    | some d =>
      rw [getD_put (by rw [h.went.rel.size]; exact hN o hmem d hd), if_neg]
      intro e; subst e; exact h2 hd
  · rcases List.mem_cons.1 hj with rfl | hj
    · rw [ho] at hp'; cases hp'; exact hp
    · have hji : j ≠ i := fun e => hi (e ▸ hj)
      refine (h.pend j p hj hl' hp').step (p := o) rfl (Nat.le_refl _) (fun d hd => ⟨fun hlk => ?_, fun he => hD.dst i j o p ho hp' (Ne.symm hji) d hd he⟩) hl (fun b S _ hS _ _ => hS)
      have hlate : lateW ops.toList o i = false := by unfold isE at hE; rw [Bool.or_eq_false_iff] at hE; exact hE.2
      have hw := late_iff hd hlate p (by simpa using Array.mem_of_getElem? hp') hlk
      obtain ⟨e, he, hb, hei⟩ := waits_iff.1 hw
      exact hi (hei ▸ h.dclosed j p hj hp' e he hb)
end
end Go.X
namespace Go.X
open Go.RowKit
variable {P : Program} {T : Tab} {tr : Nat → Bool}
set_option linter.unusedVariables false
set_option linter.unusedSimpArgs false
section
variable {ops : Array Oper} {N : Nat} {ω0 W0 : World} {β0 : Nat → Nat} {st0 : St} {a0 : Act} {nw : Nat → Prop} {listed : Array Bool} {a : Act} {W : World} {done : List Nat} {loads : Loads} {st : St} {ω : World} {β : Nat → Nat} {as : Act} {K : St → World → Prop}

theorem set_fr {st : St} {d : Nat} {x : XV} : (st.set (some d) x).fr d = x := by simp [St.set]
theorem mem_addLoad {i : Nat} {s : Stab} {l : Loads} : (∀ q ∈ l, q ∈ addLoad i s l) ∧ (∀ b S, s = some (b, S) → (i, b, S) ∈ addLoad i s l) := by
  cases s with
  | none => exact ⟨fun _ h => h, fun _ _ h => by cases h⟩
  | some p => exact ⟨fun _ h => List.mem_cons_of_mem _ h, fun b S h => by cases h; exact List.mem_cons_self ..⟩
theorem canX_close (hD : DrawOk ops) (hT : TabOk P T) (hN : ∀ o ∈ ops.toList, ∀ d, o.dst = some d → d < N) (hnw : ∀ i, nw i → ∀ o ∈ ops.toList, o.dst ≠ some i) :
    ∀ (fuel : Nat) (done : List Nat) (loads : Loads) (st : St) (as : Act), Sim P T ops N ω0 W0 β0 st0 a0 nw listed a W done loads st ω β as → canX P T tr ops.toList fuel done loads st ω K →
      ∃ n done' loads' st' as', Sim P T ops N ω0 W0 β0 st0 a0 nw listed a W done' loads' st' ω β as' ∧ findN T ops.toList done' ops.toList 0 = none ∧ canX P T tr ops.toList (n + 1) done' loads' st' ω K
  | 0, done, loads, st, as, h, hc => by simp only [canX] at hc
  | fuel + 1, done, loads, st, as, h, hc => by
    cases hf : findN T ops.toList done ops.toList 0 with
    | none => exact ⟨fuel, done, loads, st, as, h, hf, hc⟩
    | some p =>
      obtain ⟨i, o⟩ := p
      simp only [canX, hf] at hc
      obtain ⟨_, ho', hi, hr, hE⟩ := findN_some hf
      have ho : ops[i]? = some o := by simpa using ho'
      have hmem : o ∈ ops.toList := by simpa using Array.mem_of_getElem? ho
      have hlate : lateW ops.toList o i = false := by unfold isE at hE; rw [Bool.or_eq_false_iff] at hE; exact hE.2
      have hself : ∀ s, o.dst = some s → s ∉ o.looksAt ops := fun s hs hl => by
        obtain ⟨e, he, hb, hei⟩ := waits_iff.1 (late_iff hs hlate o hmem hl)
        have := hD.edge i o ho e he hb
        omega
      have hw := fun v => wanted_put (ops := ops) o as o.dst v hself
      rcases guardX_ok h.went.rel hc with ⟨hg, hk⟩ | ⟨hg, hk⟩
      · obtain ⟨x, s, hk, hs, hl, hgv⟩ := nX_sound (P := P) hT h.went.rel.wf o hk
        refine canX_close hD hT hN hnw fuel _ _ _ _ (h.ahead hD hT hN hnw ho hi hr hE hl (mem_addLoad).1 ?_) hk
        have hnb : (st.set o.dst x).nb = st.nb := by cases o.dst <;> rfl
        have hm : (st.set o.dst x).mem = st.mem := by cases o.dst <;> rfl
        refine .inl ⟨x, s, st, fun y hy => (ev_set (ops := ops) hself y hy).symm, by rw [hnb]; exact Nat.le_refl _, hgv, hl, fun d hd => by rw [hd]; exact set_fr, by rw [hw]; exact hg, fun b S hS => ?_⟩
        obtain ⟨g1, g2, g3⟩ := hs b S hS
        exact ⟨mem_addLoad.2 b S hS, by rw [hm]; exact g1, g2, g3⟩
      · refine canX_close hD hT hN hnw fuel _ _ _ _ (h.ahead hD hT hN hnw ho hi hr hE (locOk_v st undef) (fun _ h => h) ?_) hk
        exact .inr ⟨fun d hd => by rw [hd]; exact set_fr, by rw [hw]; exact hg⟩
theorem readyE_spec {L : List Oper} {done : List Nat} : ∀ {l : List Oper} {n i : Nat} {o : Oper}, (i, o) ∈ readyE T L done l n → n ≤ i ∧ l[i - n]? = some o ∧ i ∉ done ∧ rdy o done = true
  | [], n, i, o, h => by simp [readyE] at h
  | x :: l, n, i, o, h => by
    simp only [readyE] at h
    have rec_ : (i, o) ∈ readyE T L done l (n + 1) → n ≤ i ∧ (x :: l)[i - n]? = some o ∧ i ∉ done ∧ rdy o done = true := fun h => by
      obtain ⟨h1, h2, h3⟩ := readyE_spec h
      refine ⟨by omega, ?_, h3⟩
      rw [show i - n = (i - (n + 1)) + 1 by omega, List.getElem?_cons_succ]; exact h2
    cases hc : (!has done n && rdy x done && isE T L x n)
    · rw [hc, cond_false] at h; exact rec_ h
    · rw [hc, cond_true] at h
      rcases List.mem_cons.1 h with e | h
      · simp only [Prod.mk.injEq] at e
        obtain ⟨rfl, rfl⟩ := e
        simp only [Bool.and_eq_true, Bool.not_eq_true'] at hc
        refine ⟨Nat.le_refl _, by simp, fun hm => ?_, hc.1.2⟩
        rw [has_iff.2 hm] at hc; simp at hc
      · exact rec_ h
theorem getD_flip {listed : Array Bool} {i n : Nat} (hs : listed.size = n) (hi : i < n) (d d' : Bool) : listed.getD i d = listed.getD i d' := by
  have : i < listed.size := by omega
  simp [this]
/-- A set of boxes of 'true' grows. -/
theorem Sim.all_listed (hD : DrawOk ops) (h : Sim P T ops N ω0 W0 β0 st0 a0 nw listed a W done loads st ω β as) (hr : Region.ready .any ops listed = []) : ∀ i, i ∈ done → listed.getD i false = true := by
  intro i
  induction i using Nat.strongRecOn with
  | _ i ih =>
    intro hi
    cases e : listed.getD i false
    · exfalso
      have hlt := h.lt i hi
      have ho : ops[i]? = some (ops[i]'hlt) := by simp [hlt]
      have : i ∈ Region.ready .any ops listed := mem_ready.2 ⟨by rw [getD_flip h.lsize hlt true false]; exact e, _, ho, fun ed he hb => ih ed.on (hD.edge i _ ho ed he hb) (h.dclosed i _ hi ho ed he hb)⟩
      rw [hr] at this; cases this
    · rfl
theorem Sim.whole (h : Sim P T ops N ω0 W0 β0 st0 a0 nw listed a W done loads st ω β as) (hall : ∀ i, i ∈ done → listed.getD i false = true) : Went β0 N ω0 W0 st0 a0 β st ω a W nw := by
  have hs : ∀ s, a.tmps.getD s undef = as.tmps.getD s undef := fun s => h.slots s fun i o hi hl _ => by rw [hall i hi] at hl; cases hl
  have hR := h.went.rel
  exact ⟨⟨fun i => (hs i).trans (hR.fr i), h.size, h.defers, hR.wf, hR.box, hR.inj, hR.sees, hR.keeps⟩, h.went.agree, h.went.nb, fun i hi => (hs i).trans (h.went.slots i hi)⟩
theorem count_set_true {l : List Bool} {i : Nat} (h : l[i]? = some false) : (l.set i true).count false + 1 = l.count false := by
  induction l generalizing i with
  | nil => simp at h
  | cons x l ih =>
    cases i with
    | zero => simp at h; subst h; simp
    | succ i =>
      have := ih (i := i) (by simpa using h)
      simp only [List.set_cons_succ, List.count_cons]
      omega
/-- The machine takes what the one walk has taken. -/
theorem Sim.catch (hD : DrawOk ops) (hN : ∀ o ∈ ops.toList, ∀ d, o.dst = some d → d < N) (h : Sim P T ops N ω0 W0 β0 st0 a0 nw listed a W done loads st ω β as) {i : Nat} {o : Oper} (ho : ops[i]? = some o) (hi : i ∈ done)
    (hdeps : ∀ e ∈ o.after, Region.binds .any e = true → listed.getD e.on false = true) (hl : listed.getD i false = false) {v : Value} (hv : ∀ d, o.dst = some d → as.tmps.getD d undef = v) :
    Sim P T ops N ω0 W0 β0 st0 a0 nw (listed.setIfInBounds i true) (a.put o.dst v) W done loads st ω β as := by
  have hmem : o ∈ ops.toList := by simpa using Array.mem_of_getElem? ho
  have hilt := h.lt i hi
  have hset : ∀ j, (listed.setIfInBounds i true).getD j false = true ↔ j = i ∨ listed.getD j false = true := fun j => by
    by_cases e : i = j
    · subst e
      simp [h.lsize, hilt]
    · rw [getD_set_ne false e]
      constructor
      · exact .inr
      · rintro (rfl | h)
        · exact absurd rfl e
        · exact h
  have hun : ∀ j, (listed.setIfInBounds i true).getD j false = false → j ≠ i ∧ listed.getD j false = false := fun j hj => by
    refine ⟨fun e => ?_, ?_⟩
    · rw [(hset j).2 (.inl e)] at hj; cases hj
    · cases e : listed.getD j false
      · rfl
      · rw [(hset j).2 (.inr e)] at hj; cases hj
  refine ⟨by simp [h.lsize], fun j hj => ?_, h.lt, fun j p hj hp he => (hset j).2 (.inr (h.elisted j p hj hp he)), fun j p hj hp e he hb => ?_, h.dclosed, h.went, ?_, ?_, fun s hs => ?_, fun j p hj hl' hp => h.pend j p hj (hun j hl').2 hp⟩
  · rcases (hset j).1 hj with rfl | hj
    · exact hi
    · exact h.sub j hj
  · rcases (hset j).1 hj with rfl | hj
    · rw [ho] at hp; cases hp
      exact (hset _).2 (.inr (hdeps e he hb))
    · exact (hset _).2 (.inr (h.lclosed j p hj hp e he hb))
  · cases hd : o.dst <;> simp [Act.put, h.size]
  · cases hd : o.dst <;> exact h.defers
  · by_cases e : o.dst = some s
    · rw [e, getD_put (by rw [h.size]; exact hN o hmem s e), if_pos rfl]
      exact (hv s e).symm
    · have h1 := h.slots s fun j p hj hl' hp => by
        by_cases hji : j = i
        · subst hji; rw [ho] at hp; cases hp; exact e
        · refine hs j p hj ?_ hp
          cases e2 : (listed.setIfInBounds i true).getD j false
          · rfl
          · rcases (hset j).1 e2 with h3 | h3
            · exact absurd h3 hji
            · rw [h3] at hl'; cases hl'
      rw [← h1]
      cases hd : o.dst with
      | none => rfl
      | some d => rw [getD_put (by rw [h.size]; exact hN o hmem d hd), if_neg (fun e2 => e (by rw [hd, e2]))]
end
end Go.X
namespace Go.X
open Go.RowKit
variable {P : Program} {T : Tab} {tr : Nat → Bool}
set_option linter.unusedVariables false
set_option linter.unusedSimpArgs false
section
variable {ops : Array Oper} {N : Nat} {ω0 W0 : World} {β0 : Nat → Nat} {st0 : St} {a0 : Act} {nw : Nat → Prop} {listed : Array Bool} {a : Act} {W : World} {done : List Nat} {loads : Loads} {st : St} {ω : World} {β : Nat → Nat} {as : Act} {K : St → World → Prop}

/-- Both take one operation: one that acts, or whose slot is seen by one that doesn't wait. -/
theorem Sim.lock (hD : DrawOk ops) (hN : ∀ o ∈ ops.toList, ∀ d, o.dst = some d → d < N) (hnw : ∀ i, nw i → ∀ o ∈ ops.toList, o.dst ≠ some i)
    (h : Sim P T ops N ω0 W0 β0 st0 a0 nw listed a W done loads st ω β as) {i : Nat} {o : Oper} (ho : ops[i]? = some o) (hi : i ∉ done) (hdeps : ∀ e ∈ o.after, Region.binds .any e = true → listed.getD e.on false = true)
    {st1 : St} {ω1 W1 : World} {β1 : Nat → Nat} {x : XV} {loads' : Loads} (hfr : st1.fr = st.fr) (hnb : st.nb ≤ st1.nb) (hag : ∀ k, k < st.nb → β1 k = β k) (hx : LocOk st1 x) (hR : Rel β1 N ω0 W0 st1 ω1 as W1) (hl : ∀ q ∈ loads, q ∈ loads')
    (hS : ∀ j b S, (j, b, S) ∈ loads → listed.getD j false = false → S st.mem ω → (b = true → ∃ k, k < st.nb ∧ ∀ m m' ω ω', m' k = m k → S m ω → S m' ω') → (b = false → ∀ m m' ω, S m ω → S m' ω) → S st1.mem ω1) :
    Sim P T ops N ω0 W0 β0 st0 a0 nw (listed.setIfInBounds i true) (a.put o.dst (x.real β1)) W1 (i :: done) loads' (st1.set o.dst x) ω1 β1 (as.put o.dst (x.real β1)) := by
  have hmem : o ∈ ops.toList := by simpa using Array.mem_of_getElem? ho
  have hilt : i < ops.size := (Array.getElem?_eq_some_iff.1 ho).1
  have hset : ∀ j, (listed.setIfInBounds i true).getD j false = true ↔ j = i ∨ listed.getD j false = true := fun j => by
    by_cases e : i = j
    · subst e
      simp [h.lsize, hilt]
    · rw [getD_set_ne false e]
      constructor
      · exact .inr
      · rintro (rfl | h)
        · exact absurd rfl e
        · exact h
  have hun : ∀ j, (listed.setIfInBounds i true).getD j false = false → j ≠ i ∧ listed.getD j false = false := fun j hj => by
    refine ⟨fun e => ?_, ?_⟩
    · rw [(hset j).2 (.inl e)] at hj; cases hj
    · cases e : listed.getD j false
      · rfl
      · rw [(hset j).2 (.inr e)] at hj; cases hj
  have hanc : ∀ j, j ∈ ancOf ops.toList o → listed.getD j false = true := by
    refine anc_all (fun j p hj hp e he hb => h.lclosed j p hj (by simpa using hp) e he hb) _ _ (fun y hy => ?_)
    simp only [List.mem_map, List.mem_filter, Array.mem_toList_iff] at hy
    obtain ⟨e, ⟨he, hb⟩, rfl⟩ := hy
    exact hdeps e he hb
  refine ⟨by simp [h.lsize], fun j hj => ?_, fun j hj => ?_, fun j p hj hp he => ?_, fun j p hj hp e he hb => ?_, fun j p hj hp e he hb => ?_, ?_, ?_, ?_, fun s hs => ?_, fun j p hj hl' hp => ?_⟩
  · rcases (hset j).1 hj with rfl | hj
    · exact List.mem_cons_self ..
    · exact List.mem_cons_of_mem _ (h.sub j hj)
  · rcases List.mem_cons.1 hj with rfl | hj
    · exact hilt
    · exact h.lt j hj
  · rcases List.mem_cons.1 hj with rfl | hj
    · exact (hset _).2 (.inl rfl)
    · exact (hset _).2 (.inr (h.elisted j p hj hp he))
  · rcases (hset j).1 hj with rfl | hj
    · rw [ho] at hp; cases hp
      exact (hset _).2 (.inr (hdeps e he hb))
    · exact (hset _).2 (.inr (h.lclosed j p hj hp e he hb))
  · rcases List.mem_cons.1 hj with rfl | hj
    · rw [ho] at hp; cases hp
      exact List.mem_cons_of_mem _ (h.sub _ (hdeps e he hb))
    · exact List.mem_cons_of_mem _ (h.dclosed j p hj hp e he hb)
  · have h1 : Went β0 N ω0 W0 st0 a0 β1 st1 ω1 as W1 nw := ⟨hR, fun k hk => (hag k (Nat.lt_of_lt_of_le hk h.went.nb)).trans (h.went.agree k hk), Nat.le_trans h.went.nb hnb, h.went.slots⟩
    exact h1.trans (Went.put hR (hN o hmem) hx) (fun _ h => h) (fun k hk => hnw k hk o hmem)
  · cases hd : o.dst <;> simp [Act.put, h.size]
  · cases hd : o.dst <;> exact h.defers
  · cases hd : o.dst with
    | none =>
      exact h.slots s fun j p hj hl' hp => hs j p (List.mem_cons_of_mem _ hj) (by
        cases e2 : (listed.setIfInBounds i true).getD j false
        · rfl
        · rcases (hset j).1 e2 with h3 | h3
          · exact absurd (h3 ▸ hj) hi
          · rw [h3] at hl'; cases hl') hp
    | some d =>
      have hdN := hN o hmem d hd
      by_cases e : s = d
      · subst e
        rw [getD_put (by rw [h.size]; exact hdN), getD_put (by rw [h.went.rel.size]; exact hdN), if_pos rfl, if_pos rfl]
      · rw [getD_put (by rw [h.size]; exact hdN), getD_put (by rw [h.went.rel.size]; exact hdN), if_neg e, if_neg e]
        exact h.slots s fun j p hj hl' hp => hs j p (List.mem_cons_of_mem _ hj) (by
          cases e2 : (listed.setIfInBounds i true).getD j false
          · rfl
          · rcases (hset j).1 e2 with h3 | h3
            · exact absurd (h3 ▸ hj) hi
            · rw [h3] at hl'; cases hl') hp
  · obtain ⟨hji, hl'⟩ := hun j hl'
    rcases List.mem_cons.1 hj with rfl | hj
    · exact absurd rfl hji
    refine (h.pend j p hj hl' hp).step (p := o) hfr hnb (fun d hd => ⟨fun hlk => ?_, fun he => hD.dst i j o p ho hp (Ne.symm hji) d hd he⟩) hl (fun b S hq => hS j b S hq hl')
    rcases hD.look j i p o hp ho hji d hd hlk with hw | hw
    · obtain ⟨e, he, hb, hei⟩ := waits_iff.1 hw
      exact hi (hei ▸ h.dclosed j p hj hp e he hb)
    · rw [hanc j hw] at hl'; cases hl'
/-- **Whatever order is drawn.** -/
theorem sim_main (hD : DrawOk ops) (hT : TabOk P T) (hN : ∀ o ∈ ops.toList, ∀ d, o.dst = some d → d < N) (hnw : ∀ i, nw i → ∀ o ∈ ops.toList, o.dst ≠ some i) {Q : Exit → Act → World → Prop}
    (hQ : ∀ β' st' ω' a' W', K st' ω' → Went β0 N ω0 W0 st0 a0 β' st' ω' a' W' nw → Q .normal a' W') :
    ∀ (k fuel : Nat) (listed : Array Bool) (a : Act) (W : World) (done : List Nat) (loads : Loads) (st : St) (ω : World) (β : Nat → Nat) (as : Act), listed.toList.count false = k →
      Sim P T ops N ω0 W0 β0 st0 a0 nw listed a W done loads st ω β as → canX P T tr ops.toList fuel done loads st ω K → wpAny P .any ops Q k listed a W := by
  intro k
  induction k with
  | zero =>
    intro fuel listed a W done loads st ω β as hk h hc
    obtain ⟨n, done, loads, st, as, h, hf, hc⟩ := canX_close hD hT hN hnw fuel _ _ _ _ h hc
    have hr : Region.ready .any ops listed = [] := by
      rcases hr : Region.ready .any ops listed with _ | ⟨i, l⟩
      · rfl
      · have hm : i ∈ Region.ready .any ops listed := by rw [hr]; exact List.mem_cons_self ..
        obtain ⟨h0, o, ho, _⟩ := mem_ready.1 hm
        have hlt : i < listed.size := by rw [h.lsize]; exact (Array.getElem?_eq_some_iff.1 ho).1
        have : false ∈ listed.toList := by
          have : listed[i] = false := by simpa [hlt] using h0
          rw [← this]; simp
        rw [List.count_eq_zero] at hk
        exact absurd this hk
    have hall := h.all_listed hD hr
    refine ⟨hr, ?_⟩
    simp only [canX, hf] at hc
    cases he : readyE T ops.toList done ops.toList 0 with
    | nil => rw [he] at hc; exact hQ _ _ _ _ _ hc (h.whole hall)
    | cons p l =>
      exfalso
      obtain ⟨j, q⟩ := p
      obtain ⟨_, hj, hjd, hjr⟩ := readyE_spec (by rw [he]; exact List.mem_cons_self ..)
      have hj' : ops[j]? = some q := by simpa using hj
      have hjlt : j < ops.size := (Array.getElem?_eq_some_iff.1 hj').1
      have : j ∈ Region.ready .any ops listed := mem_ready.2 ⟨by
        rw [getD_flip h.lsize hjlt true false]
        cases e : listed.getD j false
        · rfl
        · exact absurd (h.sub j e) hjd, q, hj', fun e he hb => hall _ (rdy_iff.1 hjr e he hb)⟩
      rw [hr] at this; cases this
  | succ k ih =>
    intro fuel listed a W done loads st ω β as hk h hc
    obtain ⟨n, done, loads, st, as, h, hf, hc⟩ := canX_close hD hT hN hnw fuel _ _ _ _ h hc
    have hcc := hc
    simp only [canX, hf] at hc
    refine ⟨fun hr => ?_, fun i hi => ?_⟩
    · have hall := h.all_listed hD hr
      cases he : readyE T ops.toList done ops.toList 0 with
      | nil => rw [he] at hc; exact hQ _ _ _ _ _ hc (h.whole hall)
      | cons p l =>
        exfalso
        obtain ⟨j, q⟩ := p
        obtain ⟨_, hj, hjd, hjr⟩ := readyE_spec (by rw [he]; exact List.mem_cons_self ..)
        have hj' : ops[j]? = some q := by simpa using hj
        have hjlt : j < ops.size := (Array.getElem?_eq_some_iff.1 hj').1
        have : j ∈ Region.ready .any ops listed := mem_ready.2 ⟨by
          rw [getD_flip h.lsize hjlt true false]
          cases e : listed.getD j false
          · rfl
          · exact absurd (h.sub j e) hjd, q, hj', fun e he hb => hall _ (rdy_iff.1 hjr e he hb)⟩
        rw [hr] at this; cases this
    · obtain ⟨h0, o, ho, hdeps⟩ := mem_ready.1 hi
      have hilt : i < ops.size := (Array.getElem?_eq_some_iff.1 ho).1
      have hil : i < listed.size := by rw [h.lsize]; exact hilt
      have hl : listed.getD i false = false := by rw [getD_flip h.lsize hilt false true]; exact h0
      have hcount : (listed.setIfInBounds i true).toList.count false = k := by
        have h1 : listed.toList[i]? = some false := by
          have : listed[i] = false := by simpa [hil] using hl
          simp [hil, this]
        have := count_set_true h1
        rw [Array.toList_setIfInBounds]
        omega
      obtain ⟨hev, hw⟩ := h.seenOps hD ho hdeps hl
      have hsel : ∀ cs b, o.op ≠ .select cs b := fun cs b => hD.sel i o cs b ho
      have hex : execOp a.eval o = execOp as.eval o := execOp_congr o hsel hev
      unfold wpOp
      simp only [ho]
      by_cases hid : i ∈ done
      · rcases h.pend i o hid hl ho with ⟨x, s, sti, h1, h2, h3, h4, h5, h6, h7⟩ | ⟨h1, h2⟩
        · rw [if_pos (by rw [hw]; exact h6)]
          refine .inl (EDoes.wp (R := fun v W' => v = x.real β ∧ W' = W) (upon_ok (v := x.real β) (W' := W) ?_ ⟨rfl, rfl⟩) ?_)
          · have hR := h.went.rel
            exact h3 β a.eval st.mem ω W (fun y hy => by rw [hev y hy, hR.eval, h1 y hy]) (fun k hk => (hR.box k (Nat.lt_of_lt_of_le hk h2)).2.2.2) hR.sees (fun b S hS => (h7 b S hS).2.1)
          · rintro _ _ ⟨rfl, rfl⟩
            exact ih (n + 1) _ _ _ done loads st ω β as hcount (h.catch hD hN ho hid hdeps hl fun d hd => by rw [h.went.rel.fr, h5 d hd]) hcc
        · rw [if_neg (by rw [hw, h2]; simp)]
          exact ih (n + 1) _ _ _ done loads st ω β as hcount (h.catch hD hN ho hid hdeps hl fun d hd => by rw [h.went.rel.fr, h1 d hd]; rfl) hcc
      · have hrdy : rdy o done = true := rdy_iff.2 fun e he hb => h.sub _ (hdeps e he hb)
        have ho' : ops.toList[i - 0]? = some o := by simpa using ho
        have hE := findN_none hf i o (Nat.zero_le _) ho' hid hrdy
        have hmemE := readyE_mem (T := T) (L := ops.toList) (Nat.zero_le i) ho' hid hrdy hE
        have hvc : guardX ops.toList st o
            (bif acts T o.op
              then eX P T tr st ω o fun x st' ω' => stable (ancOf ops.toList o) (movesBox o) st'.mem ω' loads ∧ canX P T tr ops.toList n (i :: done) loads (st'.set o.dst x) ω' K
              else nX T st ω o.op fun x s => canX P T tr ops.toList n (i :: done) (addLoad i s loads) (st.set o.dst x) ω K)
            (canX P T tr ops.toList n (i :: done) loads (st.set o.dst (.v undef)) ω K) := by
          revert hc
          cases he : readyE T ops.toList done ops.toList 0 with
          | nil => rw [he] at hmemE; cases hmemE
          | cons p l => intro hc; exact allX_mem hc (i, o) (by rw [← he]; exact hmemE)
        have hR := h.went.rel
        have hanc : ∀ j, j ∈ ancOf ops.toList o → listed.getD j false = true := by
          refine anc_all (fun j p hj hp e he hb => h.lclosed j p hj (by simpa using hp) e he hb) _ _ (fun y hy => ?_)
          simp only [List.mem_map, List.mem_filter, Array.mem_toList_iff] at hy
          obtain ⟨e, ⟨he, hb⟩, rfl⟩ := hy
          exact hdeps e he hb
        rcases guardX_ok hR hvc with ⟨hg, hvc⟩ | ⟨hg, hvc⟩
        · rw [if_pos (by rw [hw]; exact hg)]
          refine .inl ?_
          cases ha : acts T o.op
          · simp only [ha, cond_false] at hvc
            obtain ⟨x, s, hk', hs, hloc, hgv⟩ := nX_sound (P := P) hT hR.wf o hvc
            refine EDoes.wp (R := fun v W' => v = x.real β ∧ W' = W) (upon_ok (v := x.real β) (W' := W) ?_ ⟨rfl, rfl⟩) ?_
            · exact hgv β a.eval st.mem ω W (fun y hy => by rw [hev y hy, hR.eval]) (fun k hk => (hR.box k hk).2.2.2) hR.sees (fun b S hS => (hs b S hS).1)
            · rintro _ _ ⟨rfl, rfl⟩
              exact ih n _ _ _ _ _ _ _ _ _ hcount (h.lock hD hN hnw ho hid hdeps rfl (Nat.le_refl _) (fun _ _ => rfl) hloc hR (mem_addLoad).1 (fun j b S _ _ hS _ _ => hS)) hk'
          · simp only [ha, cond_true] at hvc
            have hd := eX_sound hT hR hvc
            refine (hd.congr hex).wp fun v W' hp => ?_
            obtain ⟨xv, st', ω', β', rfl, ⟨hst, hk'⟩, hfr, hmv, hnb, hag, hloc, hR'⟩ := hp
            refine ih n _ _ _ _ _ _ _ _ _ hcount (h.lock hD hN hnw ho hid hdeps hfr hnb hag hloc hR' (fun _ h => h) (fun j b S hq hjl hS hb1 hb2 => ?_)) hk'
            have hja : j ∉ ancOf ops.toList o := fun hm => by rw [hanc j hm] at hjl; cases hjl
            cases b with
            | false => exact stable_mem hst j false S hq hja rfl
            | true =>
              cases hmb : movesBox o
              · obtain ⟨q, _, hh⟩ := hb1 rfl
                exact hh _ _ ω ω' (by rw [hmv hmb]) hS
              · exact stable_mem hst j true S hq hja (by rw [hmb]; rfl)
        · rw [if_neg (by rw [hw, hg]; simp)]
          have hv : (XV.v undef).real β = undef := rfl
          rw [← hv]
          exact ih n _ _ _ _ _ _ _ _ _ hcount (h.lock hD hN hnw ho hid hdeps rfl (Nat.le_refl _) (fun _ _ => rfl) (locOk_v st undef) hR (fun _ h => h) (fun j b S _ _ hS _ _ => hS)) hvc
end
end Go.X
namespace Go.X
open Go.RowKit
variable {P : Program} {T : Tab} {tr : Nat → Bool}
set_option linter.unusedVariables false
set_option linter.unusedSimpArgs false

/-! ### What a code must be like, asked once of each function -/
def dstB (N : Nat) (l : List Oper) : Bool := l.all fun o => match o.dst with | some d => Nat.blt d N | none => true
def selB (l : List Oper) : Bool := l.all fun o => match o.op with | .select .. => false | _ => true
def edgeB : List Oper → Nat → Bool
  | [], _ => true
  | o :: l, i => (o.after.toList.all fun e => !Region.binds .any e || Nat.blt e.on i) && edgeB l (i + 1)
def dstNe (o p : Oper) : Bool := match o.dst, p.dst with | some d, some e => !Nat.beq d e | _, _ => true
def dstsB : List Oper → Bool
  | [] => true
  | o :: l => (l.all fun p => dstNe o p) && dstsB l
def lookB (L : List Oper) (o : Oper) (i : Nat) : List Oper → Nat → Bool
  | [], _ => true
  | p :: l, j => (Nat.beq i j || (match p.dst with | some d => !sees o L d || waits o j || has (ancOf L p) i | none => true)) && lookB L o i l (j + 1)
def looksB (L : List Oper) : List Oper → Nat → Bool
  | [], _ => true
  | o :: l, i => lookB L o i L 0 && looksB L l (i + 1)
def drawB (L : List Oper) : Bool := selB L && edgeB L 0 && dstsB L && looksB L L 0
def codeB (N : Nat) : Code → Bool
  | .region _ ops draw => dstB N ops.toList && (!draw || drawB ops.toList)
  | .seq a b | .cond _ a b => codeB N a && codeB N b
  | .block _ c | .loop c => codeB N c
  | .skip | .exit _ | .ret => true
  | _ => false
theorem edgeB_ok : ∀ {l : List Oper} {n : Nat}, edgeB l n = true → ∀ (i : Nat) (o : Oper), l[i]? = some o → ∀ e ∈ o.after, Region.binds .any e = true → e.on < n + i
  | [], n, _, i, o, ho => by simp at ho
  | x :: l, n, h, i, o, ho => by
    simp only [edgeB, Bool.and_eq_true] at h
    cases i with
    | zero =>
      simp only [List.getElem?_cons_zero, Option.some.injEq] at ho
      subst ho
      intro e he hb
      have := List.all_eq_true.1 h.1 e (by simpa using he)
      rw [hb] at this
      simpa [Nat.blt_eq] using this
    | succ i =>
      intro e he hb
      have := edgeB_ok h.2 i o (by simpa using ho) e he hb
      omega
theorem dstsB_ok : ∀ {l : List Oper}, dstsB l = true → ∀ (i j : Nat) (o p : Oper), l[i]? = some o → l[j]? = some p → i ≠ j → ∀ d, o.dst = some d → p.dst ≠ some d
  | [], _, i, j, o, p, ho, _, _ => by simp at ho
  | x :: l, h, i, j, o, p, ho, hp, hne => by
    simp only [dstsB, Bool.and_eq_true] at h
    have key : ∀ q ∈ l, ∀ d, x.dst = some d → q.dst ≠ some d := fun q hq d hx hq2 => by
      have := List.all_eq_true.1 h.1 q hq
      simp [dstNe, hx, hq2] at this
    cases i with
    | zero =>
      simp only [List.getElem?_cons_zero, Option.some.injEq] at ho
      subst ho
      cases j with
      | zero => exact absurd rfl hne
      | succ j => exact key p (List.mem_of_getElem? (by simpa using hp))
    | succ i =>
      cases j with
      | zero =>
        simp only [List.getElem?_cons_zero, Option.some.injEq] at hp
        subst hp
        intro d ho2 hp2
        exact key o (List.mem_of_getElem? (by simpa using ho)) d hp2 ho2
      | succ j => exact dstsB_ok h.2 i j o p (by simpa using ho) (by simpa using hp) (by omega)
theorem lookB_ok {L : List Oper} {o : Oper} {i : Nat} : ∀ {l : List Oper} {n : Nat}, lookB L o i l n = true → ∀ (j : Nat) (p : Oper), l[j]? = some p → i ≠ n + j → ∀ d, p.dst = some d → sees o L d = true → waits o (n + j) = true ∨ i ∈ ancOf L p
  | [], n, _, j, p, hp => by simp at hp
  | x :: l, n, h, j, p, hp => by
    simp only [lookB, Bool.and_eq_true] at h
    cases j with
    | zero =>
      simp only [List.getElem?_cons_zero, Option.some.injEq] at hp
      subst hp
      intro hne d hd hs
      have h1 := h.1
      rw [hd] at h1
      simp only [hs, Bool.not_true, Bool.false_or, Bool.or_eq_true] at h1
      rcases h1 with h1 | h1 | h1
      · exact absurd (Nat.eq_of_beq_eq_true h1) hne
      · exact .inl h1
      · exact .inr (has_iff.1 h1)
    | succ j =>
      intro hne d hd hs
      have := lookB_ok h.2 j p (by simpa using hp) (by omega) d hd hs
      rw [show n + 1 + j = n + (j + 1) by omega] at this
      exact this
theorem looksB_ok {L : List Oper} : ∀ {l : List Oper} {n : Nat}, looksB L l n = true → ∀ (i : Nat) (o : Oper), l[i]? = some o → lookB L o (n + i) L 0 = true
  | [], n, _, i, o, ho => by simp at ho
  | x :: l, n, h, i, o, ho => by
    simp only [looksB, Bool.and_eq_true] at h
    cases i with
    | zero =>
      simp only [List.getElem?_cons_zero, Option.some.injEq] at ho
      subst ho; exact h.1
    | succ i =>
      have := looksB_ok h.2 i o (by simpa using ho)
      rw [show n + 1 + i = n + (i + 1) by omega] at this
      exact this
theorem drawB_ok {ops : Array Oper} (h : drawB ops.toList = true) : DrawOk ops := by
  simp only [drawB, Bool.and_eq_true] at h
  obtain ⟨⟨⟨h1, h2⟩, h3⟩, h4⟩ := h
  refine ⟨fun j o cs b ho he => ?_, fun i o ho e he hb => ?_, fun i j o p ho hp hne => dstsB_ok h3 i j o p (by simpa using ho) (by simpa using hp) hne, fun i j o p ho hp hne d hd hl => ?_⟩
  · have := List.all_eq_true.1 h1 o (by simpa using Array.mem_of_getElem? ho)
    rw [he] at this; cases this
  · have := edgeB_ok h2 i o (by simpa using ho) e he hb
    omega
  · have := lookB_ok (looksB_ok h4 i o (by simpa using ho)) j p (by simpa using hp) (by omega) d hd (sees_iff.2 hl)
    simpa using this
theorem dstB_ok {N : Nat} {l : List Oper} (h : dstB N l = true) : ∀ o ∈ l, ∀ d, o.dst = some d → d < N := fun o ho d hd => by
  have := List.all_eq_true.1 h o ho
  rw [hd] at this
  simpa [Nat.blt_eq] using this
theorem opsKeep_ok {i : Nat} {l : List Oper} (h : opsKeep [i] l = true) : ∀ o ∈ l, o.dst ≠ some i := fun o ho hd => by
  have := List.all_eq_true.1 h o ho
  rw [hd] at this
  simp at this
theorem noWrite_one {keep : List Nat} {i : Nat} (hi : i ∈ keep) : ∀ {c : Code}, noWrite keep c = true → noWrite [i] c = true
  | .region _ ops _, h => by
    simp only [noWrite, opsKeep, List.all_eq_true] at h ⊢
    intro o ho
    have := h o ho
    cases hd : o.dst with
    | none => rfl
    | some d =>
      rw [hd] at this
      simp only [Bool.not_eq_true', List.contains_eq_mem, decide_eq_false_iff_not] at this
      simp only [Bool.not_eq_true', List.contains_eq_mem, decide_eq_false_iff_not, List.mem_singleton]
      rintro rfl
      exact this hi
  | .seq a b, h => by
    simp only [noWrite, Bool.and_eq_true] at h ⊢
    exact ⟨noWrite_one hi h.1, noWrite_one hi h.2⟩
  | .cond _ a b, h => by
    simp only [noWrite, Bool.and_eq_true] at h ⊢
    exact ⟨noWrite_one hi h.1, noWrite_one hi h.2⟩
  | .block _ c, h => by
    simp only [noWrite] at h ⊢
    exact noWrite_one hi h
  | .loop c, h => by
    simp only [noWrite] at h ⊢
    exact noWrite_one hi h
  | .skip, _ => rfl
  | .exit _, _ => rfl
  | .ret, _ => rfl
  | .rangeFunc .., h => by simp [noWrite] at h
  | .scope _, h => by simp [noWrite] at h
  | .label _, h => by simp [noWrite] at h
  | .goto _, h => by simp [noWrite] at h
  | .refuse _, h => by simp [noWrite] at h
end Go.X
namespace Go.X
open Go.RowKit
variable {P : Program} {T : Tab} {tr : Nat → Bool}
set_option linter.unusedVariables false
set_option linter.unusedSimpArgs false

def XE.out : XE → Exit
  | .normal => .normal
  | .exit i => .exit i
  | .ret => .ret
def Post (K : XK) (β : Nat → Nat) (N : Nat) (ω0 W0 : World) (st : St) (a : Act) (nw : Nat → Prop) : Exit → Act → World → Prop :=
  fun e a' W' => ∃ xe st' ω' β', xe.out = e ∧ K xe st' ω' ∧ Went β N ω0 W0 st a β' st' ω' a' W' nw
section
variable {β : Nat → Nat} {N : Nat} {ω0 W0 : World} {st : St} {ω : World} {a : Act} {W : World}

theorem Rel.draw (h : Rel β N ω0 W0 st ω a W) : Rel β N ω0 W0 st ω a { W with drawn := W.drawn + 1 } :=
  ⟨h.fr, h.size, h.defers, h.wf, h.box, h.inj, ⟨h.sees.os, h.sees.tape, h.sees.output, h.sees.size, h.sees.blk⟩, ⟨h.keeps.size, h.keeps.hid⟩⟩
theorem idx_some {i : Nat} : ∀ {l : List Nat} {n j : Nat}, idx i l n = some j → n ≤ j ∧ l[j - n]? = some i
  | [], n, j, h => by simp [idx] at h
  | x :: l, n, j, h => by
    simp only [idx] at h
    cases e : Nat.beq i x
    · rw [e, cond_false] at h
      obtain ⟨h1, h2⟩ := idx_some h
      refine ⟨by omega, ?_⟩
      rw [show j - n = (j - (n + 1)) + 1 by omega, List.getElem?_cons_succ]; exact h2
    · rw [e, cond_true] at h
      simp only [Option.some.injEq] at h
      subst h
      have := Nat.eq_of_beq_eq_true e
      subst this
      simp
theorem idx_none {i : Nat} : ∀ {l : List Nat} {n : Nat}, idx i l n = none → i ∉ l
  | [], n, _ => by simp
  | x :: l, n, h => by
    simp only [idx] at h
    cases e : Nat.beq i x
    · rw [e, cond_false] at h
      have := idx_none h
      simp only [List.mem_cons, not_or]
      exact ⟨fun he => by subst he; simp at e, this⟩
    · rw [e, cond_true] at h; cases h
theorem vals_get {st : St} : ∀ {l : List Nat} {vs : List Value}, vals st l = some vs → ∀ (j i : Nat), l[j]? = some i → ∃ v, vs[j]? = some v ∧ st.fr i = .v v
  | [], vs, _, j, i, h => by simp at h
  | x :: l, vs, hv, j, i, h => by
    simp only [vals] at hv
    split at hv
    · rename_i v hx
      split at hv
      · rename_i ws hw
        simp only [Option.some.injEq] at hv
        subst hv
        cases j with
        | zero => simp at h; subst h; exact ⟨v, by simp, hx⟩
        | succ j => obtain ⟨u, h1, h2⟩ := vals_get hw j i (by simpa using h); exact ⟨u, by simpa using h1, h2⟩
      · cases hv
    · cases hv
theorem sameMem_get {st st' : St} {mb : List Nat} : ∀ {n : Nat}, sameMem st st' mb n → ∀ k, k < n → k ∉ mb → st'.mem k = st.mem k
  | 0, _, k, hk, _ => by omega
  | n + 1, h, k, hk, hm => by
    simp only [sameMem] at h
    by_cases e : k = n
    · subst e
      have : has mb k = false := by cases e : has mb k; rfl; exact absurd (has_iff.1 e) hm
      rw [this] at h
      exact h.1
    · exact sameMem_get h.2 k (by omega) hm
/-- The state at the head of a round, as it lies in the machine. -/
theorem Rel.havoc {β1 : Nat → Nat} {st1 : St} {ω1 : World} {a1 : Act} {W1 : World} (h : Rel β1 N ω0 W0 st1 ω1 a1 W1) {keep live : List Nat} {vs : List Value} {mb : List Nat} (hnb : st.nb ≤ st1.nb) (hwf : ∀ i b o, st.fr i = .loc b o → b < st.nb) (hag : ∀ k, k < st.nb → β1 k = β k)
    (hkeep : ∀ i, i ∈ keep → a1.tmps.getD i undef = (st.fr i).real β) (hv : vals st1 live = some vs) (hm : ∀ k, k < st.nb → k ∉ mb → st1.mem k = st.mem k) :
    Rel β1 N ω0 W0 (Go.X.havoc st keep live (fun i => .v (a1.tmps.getD i undef)) vs mb (mems st1 mb)) ω1 a1 W1 := by
  refine ⟨fun i => ?_, h.size, h.defers, fun i b o hi => ?_, fun k hk => ?_, fun k k' hk hk' => h.inj k k' (Nat.lt_of_lt_of_le hk hnb) (Nat.lt_of_lt_of_le hk' hnb), h.sees, h.keeps⟩
  · simp only [Go.X.havoc]
    cases hx : idx i live 0 with
    | some j =>
      obtain ⟨_, hj⟩ := idx_some hx
      obtain ⟨v, h1, h2⟩ := vals_get hv j i (by simpa using hj)
      simp only [nth_eq, h1, Option.getD_some]
      rw [h.fr i, h2]
    | none =>
      simp only
      cases hk : has keep i
      · simp only [cond_false, XV.real]
      · simp only [cond_true]
        rw [hkeep i (has_iff.1 hk)]
        exact (real_agree (hwf i) hag).symm
  · simp only [Go.X.havoc] at hi ⊢
    split at hi
    · cases hi
    · cases hk : has keep i
      · rw [hk] at hi; cases hi
      · rw [hk] at hi; exact hwf i b o hi
  · simp only [Go.X.havoc] at hk ⊢
    obtain ⟨h1, h2, h3, t, h4⟩ := h.box k (Nat.lt_of_lt_of_le hk hnb)
    refine ⟨h1, h2, h3, t, ?_⟩
    rw [h4]
    cases hx : idx k mb 0 with
    | some j =>
      obtain ⟨_, hj⟩ := idx_some hx
      have : mb[j]? = some k := by simpa using hj
      simp [nth_eq, mems, this]
    | none =>
      simp only
      rw [hm k hk (idx_none hx)]
/-- **The code comes to what it was said to come to.** -/
theorem X_sound (hT : TabOk P T) (hm : P.follows .mixedOrders = true) : ∀ (c : Code) (β : Nat → Nat) (st : St) (ω : World) (a : Act) (W : World) (K : XK), codeB N c = true → Rel β N ω0 W0 st ω a W → X P T tr c st ω K →
    c.wp P (Post K β N ω0 W0 st a fun i => noWrite [i] c = true) a W
  | .skip, β, st, ω, a, W, K, _, hR, h => wp_skip ⟨.normal, st, ω, β, rfl, h, Went.refl hR _⟩
  | .exit i, β, st, ω, a, W, K, _, hR, h => wp_exit ⟨.exit i, st, ω, β, rfl, h, Went.refl hR _⟩
  | .ret, β, st, ω, a, W, K, _, hR, h => wp_ret ⟨.ret, st, ω, β, rfl, h, Went.refl hR _⟩
  | .region id ops draw, β, st, ω, a, W, K, hc, hR, h => by
    simp only [codeB, Bool.and_eq_true] at hc
    have hN := dstB_ok hc.1
    have hnw : ∀ i, noWrite [i] (.region id ops draw) = true → ∀ o ∈ ops.toList, o.dst ≠ some i := fun i hi => opsKeep_ok hi
    cases draw
    · simp only [X, cond_false] at h
      exact wp_region_list (seqX_sound hT ops (fun β' st' ω' a' W' hk hw => ⟨.normal, st', ω', β', rfl, hk, hw⟩) ops.toList hN hnw β st ω a W (Went.refl hR _) h)
    · simp only [X, cond_true] at h
      have hD := drawB_ok (by simpa using hc.2)
      refine wp_region_any hm ?_
      have hz : ∀ i, (Array.replicate ops.size false).getD i false = false := fun i => by
        rw [Array.getD_eq_getD_getElem?, Array.getElem?_replicate]
        split <;> rfl
      refine sim_main hD hT hN hnw (K := fun st ω => K .normal st ω) (fun β' st' ω' a' W' hk hw => ⟨.normal, st', ω', β', rfl, hk, hw⟩) ops.size _ _ a _ [] [] st ω β a (by simp) ?_ h
      refine ⟨by simp, fun i hi => ?_, fun i hi => by simp at hi, fun i o hi => by simp at hi, fun i o hi => ?_, fun i o hi => by simp at hi, Went.refl hR.draw _, hR.size, hR.defers, fun _ _ => rfl, fun i o hi => by simp at hi⟩
      · rw [hz] at hi; cases hi
      · rw [hz] at hi; cases hi
  | .seq x y, β, st, ω, a, W, K, hc, hR, h => by
    simp only [codeB, Bool.and_eq_true] at hc
    simp only [X] at h
    have h1 := X_sound hT hm x β st ω a W _ hc.1 hR h
    refine wp_seq (wp_mono h1 ?_)
    rintro e a' W' ⟨xe, st', ω', β', rfl, hk, hw⟩
    cases xe with
    | normal =>
      refine wp_mono (X_sound hT hm y β' st' ω' a' W' K hc.2 hw.rel hk) ?_
      rintro e a2 W2 ⟨xe, st2, ω2, β2, rfl, hk2, hw2⟩
      exact ⟨xe, st2, ω2, β2, rfl, hk2, hw.trans hw2 (fun i hi => by simp only [noWrite, Bool.and_eq_true] at hi; exact hi.1) (fun i hi => by simp only [noWrite, Bool.and_eq_true] at hi; exact hi.2)⟩
    | exit i => exact ⟨.exit i, st', ω', β', rfl, hk, ⟨hw.rel, hw.agree, hw.nb, fun i hi => hw.slots i (by simp only [noWrite, Bool.and_eq_true] at hi; exact hi.1)⟩⟩
    | ret => exact ⟨.ret, st', ω', β', rfl, hk, ⟨hw.rel, hw.agree, hw.nb, fun i hi => hw.slots i (by simp only [noWrite, Bool.and_eq_true] at hi; exact hi.1)⟩⟩
  | .cond c x y, β, st, ω, a, W, K, hc, hR, h => by
    simp only [codeB, Bool.and_eq_true] at hc
    simp only [X] at h
    split at h
    · rename_i hb
      have e1 : a.eval c = .bool true := by rw [hR.eval, hb]; rfl
      refine wp_cond_true e1 (wp_mono (X_sound hT hm x β st ω a W K hc.1 hR h) ?_)
      rintro e a' W' ⟨xe, st', ω', β', rfl, hk, hw⟩
      exact ⟨xe, st', ω', β', rfl, hk, ⟨hw.rel, hw.agree, hw.nb, fun i hi => hw.slots i (by simp only [noWrite, Bool.and_eq_true] at hi; exact hi.1)⟩⟩
    · rename_i hb
      have e1 : a.eval c = .bool false := by rw [hR.eval, hb]; rfl
      refine wp_cond_false e1 (wp_mono (X_sound hT hm y β st ω a W K hc.2 hR h) ?_)
      rintro e a' W' ⟨xe, st', ω', β', rfl, hk, hw⟩
      exact ⟨xe, st', ω', β', rfl, hk, ⟨hw.rel, hw.agree, hw.nb, fun i hi => hw.slots i (by simp only [noWrite, Bool.and_eq_true] at hi; exact hi.2)⟩⟩
    · exact h.elim
  | .block i c, β, st, ω, a, W, K, hc, hR, h => by
    simp only [X] at h
    refine wp_block (wp_mono (X_sound hT hm c β st ω a W _ hc hR h) ?_)
    rintro e a' W' ⟨xe, st', ω', β', rfl, hk, hw⟩
    cases xe with
    | normal => exact ⟨.normal, st', ω', β', rfl, hk, hw⟩
    | ret => exact ⟨.ret, st', ω', β', rfl, hk, hw⟩
    | exit j =>
      simp only [XE.out, Exit.inBlock]
      cases e : Nat.beq j i
      · simp only [e, cond_false] at hk
        rw [if_neg (fun he => by subst he; simp at e)]
        exact ⟨.exit j, st', ω', β', rfl, hk, hw⟩
      · simp only [e, cond_true] at hk
        rw [if_pos (Nat.eq_of_beq_eq_true e)]
        exact ⟨.normal, st', ω', β', rfl, hk, hw⟩
  | .loop c, β, st, ω, a, W, K, hc, hR, h => by
    simp only [X] at h
    obtain ⟨I, n0, hkeep, ⟨vs0, hv0, hJ0⟩, hround⟩ := h
    refine wp_loop_ghost (fun n a1 W1 => ∃ β1 vs ms ω1, I.J n vs ms ω1 ∧ Went β N ω0 W0 st a β1 (havoc st I.keep I.live (fun i => .v (a1.tmps.getD i undef)) vs I.mb ms) ω1 a1 W1 (fun i => noWrite [i] c = true)) n0 ?_ ?_
    · refine ⟨β, vs0, _, ω, hJ0, ⟨Rel.havoc hR (Nat.le_refl _) hR.wf (fun _ _ => rfl) (fun i _ => hR.fr i) hv0 (fun _ _ _ => rfl), fun _ _ => rfl, Nat.le_refl _, fun _ _ => rfl⟩⟩
    · rintro n a1 W1 ⟨β1, vs, ms, ω1, hJ, hw⟩
      refine wp_mono (X_sound hT hm c β1 _ ω1 a1 W1 _ hc hw.rel (hround n _ vs ms ω1 hJ)) ?_
      rintro e a2 W2 ⟨xe, st2, ω2, β2, rfl, hk, hw2⟩
      have hw12 := hw.trans hw2 (fun _ h => h) (fun _ h => h)
      cases xe with
      | normal =>
        obtain ⟨⟨n', hlt, vs', hv', hJ'⟩, hsm⟩ := hk
        refine ⟨n', hlt, β2, vs', _, ω2, hJ', ⟨Rel.havoc hw2.rel hw2.nb hR.wf hw12.agree (fun i hi => ?_) hv' (fun k hk hkm => sameMem_get hsm k hk hkm), hw12.agree, Nat.le_refl _, hw12.slots⟩⟩
        rw [hw12.slots i (noWrite_one hi hkeep)]
        exact hR.fr i
      | exit j => exact ⟨.exit j, st2, ω2, β2, rfl, hk, hw12⟩
      | ret => exact ⟨.ret, st2, ω2, β2, rfl, hk, hw12⟩
  | .rangeFunc .., _, _, _, _, _, _, _, _, h => by simp only [X] at h
  | .scope _, _, _, _, _, _, _, _, _, h => by simp only [X] at h
  | .label _, _, _, _, _, _, _, _, _, h => by simp only [X] at h
  | .goto _, _, _, _, _, _, _, _, _, h => by simp only [X] at h
  | .refuse _, _, _, _, _, _, _, _, _, h => by simp only [X] at h
end
end Go.X
namespace Go.X
open Go.RowKit
variable {P : Program} {T : Tab} {tr : Nat → Bool}
set_option linter.unusedVariables false
set_option linter.unusedSimpArgs false
section
variable {β : Nat → Nat} {N : Nat} {ω0 W0 : World} {st : St} {ω : World} {a : Act} {W : World}

def resOne (a : Act) : ResultVar → Sem Value
  | .tmp t => pure (a.tmps.getD t undef)
  | .cell b t => do loadVar t (← asAddr (a.tmps.getD b undef))
theorem resV_ok (hT : TabOk P T) (hR : Rel β N ω0 W0 st ω a W) : ∀ {l : List ResultVar} {vs : List Value}, resV T st l = some vs →
    (l.mapM (resOne a)).run P W = .ok vs W
  | [], vs, h => by simp only [resV, Option.some.injEq] at h; subst h; simp
  | .tmp t :: l, vs, h => by
    simp only [resV] at h
    split at h
    · rename_i v hv
      cases hl : resV T st l with
      | none => rw [hl] at h; cases h
      | some ws =>
        rw [hl] at h
        simp only [Option.map_some, Option.some.injEq] at h
        subst h
        have ih := resV_ok hT hR hl
        have e : a.tmps.getD t undef = v := by rw [hR.fr, hv]; rfl
        rw [List.mapM_cons, Sem.run_bind]
        simp only [resOne, Sem.run_pure, Result.andThen_ok, Sem.run_bind, e]
        rw [ih]
        rfl
    · cases h
  | .cell b t :: l, vs, h => by
    simp only [resV] at h
    split at h
    · cases h
    · rename_i k off hb hnb
      have ht := hT.get (t := t) hnb
      have hk : k < st.nb := hR.wf b k off hb
      obtain ⟨_, _, _, t', hbox⟩ := hR.box k hk
      have e : a.tmps.getD b undef = .pointer (some ⟨β k, off, none⟩) := by rw [hR.fr, hb]; rfl
      cases hag : (T t).d.agg
      · simp only [hag, cond_false] at h
        split at h
        · rename_i v hv
          rw [nth_eq] at hv
          cases hl : resV T st l with
          | none => rw [hl] at h; cases h
          | some ws =>
            rw [hl] at h
            simp only [Option.map_some, Option.some.injEq] at h
            subst h
            have ih := resV_ok hT hR hl
            have := run_loadVar_one ht hag (cell_box hbox hv)
            have hcell : (resOne a (.cell b t)).run P W = .ok v W := by
              simp only [resOne, e, asAddr, Sem.run_bind, Sem.run_pure, Result.andThen_ok, this]
            rw [List.mapM_cons, Sem.run_bind, hcell, Result.andThen_ok, Sem.run_bind, ih, Result.andThen_ok, Sem.run_pure]
        · cases h
      · simp only [hag, cond_true] at h
        cases hle : Nat.ble (off + (T t).size) (st.mem k).length
        · rw [hle] at h; cases h
        · rw [hle, cond_true] at h
          have hle' := Nat.le_of_ble_eq_true hle
          cases hl : resV T st l with
          | none => rw [hl] at h; cases h
          | some ws =>
            rw [hl] at h
            simp only [Option.map_some, Option.some.injEq] at h
            subst h
            have ih := resV_ok hT hR hl
            have := run_loadVar_agg ht hag (by rw [List.length_take, List.length_drop]; omega) (cells_box hbox off (T t).size)
            have hcell : (resOne a (.cell b t)).run P W = .ok (.agg (((st.mem k).drop off).take (T t).size).toArray) W := by
              simp only [resOne, e, asAddr, Sem.run_bind, Sem.run_pure, Result.andThen_ok, this]
            rw [List.mapM_cons, Sem.run_bind, hcell, Result.andThen_ok, Sem.run_bind, ih, Result.andThen_ok, Sem.run_pure]
    · cases h
theorem run_results (hT : TabOk P T) (hR : Rel β N ω0 W0 st ω a W) {fn : Func} {vs : List Value} (h : resV T st fn.results.toList = some vs) : (results fn a.tmps).run P W = .ok (retX vs) W := by
  have h1 := resV_ok hT hR h
  unfold results
  rw [Array.mapM_eq_mapM_toList]
  simp only [Sem.run_bind, Sem.run_map]
  have key : ∀ g : ResultVar → Sem Value, g = resOne a → (fn.results.toList.mapM g).run P W = .ok vs W := fun g hg => by rw [hg]; exact h1
  rw [key _ (by funext r; cases r <;> rfl)]
  simp only [Result.andThen_ok, Sem.run_pure]
  congr 1
  match vs with
  | [] => simp [retX]
  | [v] => simp [retX]
  | v :: u :: l => simp [retX]
end
/-- What is asked once of each function, of its text alone. -/
def fnB (fn : Func) (n : Nat) : Bool := (fn.name != "runtime.NumGoroutine") && Nat.ble n fn.ntmps && (match fn.body with | some c => codeB fn.ntmps c | none => false)
def bodyOf (fn : Func) : Code := match fn.body with | some c => c | none => .skip
/-- **A contract out of what the code comes to.** -/
theorem callX_of (hT : TabOk P T) (hm : P.follows .mixedOrders = true) {f : FuncId} {fn : Func} (hf : P.funcs[f]? = some fn) {args : List Value} {ω : World} {Q : Value → World → Prop} (hB : fnB fn args.length = true)
    (tr : Nat → Bool) (h : X P T tr (bodyOf fn) (st0 args) ω (finX T fn.results.toList Q)) : CallX P f args ω Q := by
  simp only [fnB, Bool.and_eq_true] at hB
  obtain ⟨⟨hn, hlen⟩, hc⟩ := hB
  have hlen := Nat.le_of_ble_eq_true hlen
  cases hb : fn.body with
  | none => rw [hb] at hc; cases hc
  | some c =>
    rw [hb] at hc
    have hbo : bodyOf fn = c := by simp [bodyOf, hb]
    rw [hbo] at h
    refine ⟨fun as w => ?_, fun W hW => ?_⟩
    · have hn' : (fn.name == "runtime.NumGoroutine") = false := by simpa [bne] using hn
      simp only [callFunc, Sem.run_bind, run_program, Result.andThen_ok, hf]
      simp [hn', hb]
    · refine calls_of_wp hf hb ?_
      have hR : Rel (fun _ => 0) fn.ntmps ω W (st0 args) ω { tmps := args.toArray ++ Array.replicate (fn.ntmps - args.toArray.size) undef, defers := [] } W := by
        refine ⟨fun i => ?_, ?_, rfl, fun i b o hi => by simp [st0] at hi, fun k hk => by simp [st0] at hk, fun k k' hk => by simp [st0] at hk, hW, Keeps.refl _ _⟩
        · simp only [st0, XV.real, nth_eq, Array.getD_eq_getD_getElem?, Array.getElem?_append, List.size_toArray, Array.getElem?_replicate]
          split
          · simp
          · rename_i hge
            rw [List.getElem?_eq_none (by omega)]
            split <;> rfl
        · simp; omega
      refine wp_mono (X_sound hT hm c _ _ _ _ _ _ hc hR h) ?_
      rintro e a' W' ⟨xe, st', ω', β', rfl, hk, hw⟩
      have fin : ∀ vs, resV T st' fn.results.toList = some vs → Q (retX vs) ω' → a'.defers = [] ∧ ∃ v, (results fn a'.tmps).run P W' = .ok v W' ∧ (∃ v_1 ω'_1, Ending.returned v = Ending.returned v_1 ∧ Sees ω'_1 W' ∧ Keeps ω W ω'_1 W' ∧ Q v_1 ω'_1) := fun vs hv hq =>
        ⟨hw.rel.defers, _, run_results hT hw.rel hv, _, ω', rfl, hw.rel.sees, hw.rel.keeps, hq⟩
      cases xe with
      | exit i => exact hk.elim
      | normal =>
        simp only [finX] at hk
        split at hk
        · rename_i vs hv; exact fin vs hv hk
        · exact hk.elim
      | ret =>
        simp only [finX] at hk
        split at hk
        · rename_i vs hv; exact fin vs hv hk
        · exact hk.elim
/-- From a contract to the machine's own word for it. -/
theorem CallX.calls {f : FuncId} {args : List Value} {W : World} {Q : Value → World → Prop} (h : CallX P f args W Q) :
    Calls P f args.toArray W fun e W' => ∃ v ω', e = .returned v ∧ Sees ω' W' ∧ Keeps W W ω' W' ∧ Q v ω' := h.2 W (Sees.refl W)
end Go.X
namespace Go.X
open Go.RowKit
/-! ### The table of types, held against the program by the kernel -/
inductive BT where
  | leaf (ti : TI)
  | node (k : Nat) (l r : BT)
def BT.look : BT → Nat → TI
  | .leaf ti, _ => ti
  | .node k l r, t => bif Nat.blt t k then l.look t else r.look t
def bad : TI := ⟨.bad, 0, 0, []⟩
def valB : Value → Value → Bool
  | .bool a, .bool b => a == b
  | .int k a, .int k' b => k == k' && a == b
  | .string a, .string b => a.size == 0 && b.size == 0
  | .slice none a b, .slice none c d => a == c && b == d
  | .pointer none, .pointer none => true
  | .map none, .map none => true
  | .nilIface, .nilIface => true
  | .nilFunc, .nilFunc => true
  | _, _ => false
def valsB : List Value → List Value → Bool
  | [], [] => true
  | a :: l, b :: m => valB a b && valsB l m
  | _, _ => false
def fitsB (d : TD) (u : TypeDesc) : Bool :=
  match d, u with
  | .bool, .bool => true
  | .int k, .int k' => k == k'
  | .str, .string => true
  | .ptr, .pointer _ => true
  | .iface, .interface _ => true
  | .func, .func _ _ _ => true
  | .slice e, .slice e' => Nat.beq e e'
  | .struct fs, .struct fs' => (fs'.toList.map fun f => (f.offset, f.type)) == fs
  | .array n e, .array n' e' => Nat.beq n n' && Nat.beq e e'
  | .map k e, .map k' e' => Nat.beq k k' && Nat.beq e e'
  | _, _ => false
def tiB (P : Program) (t : Nat) (ti : TI) : Bool :=
  match ti.d with
  | .bad => true
  | d => match P.info? t, P.underlying t with
    | some i, some u => fitsB d u && Nat.beq i.size ti.size && Nat.beq i.bytes ti.bytes && (match i.zero with | some z => valsB z.cells.toList ti.zero && (!d.agg || (match z with | .agg _ => true | _ => false)) | none => false) && (match d with | .int _ => i.comparable | _ => true)
    | _, _ => false
def tabB (P : Program) (T : Tab) : Nat → Bool
  | 0 => true
  | n + 1 => tiB P n (T n) && tabB P T n
theorem valB_ok {a b : Value} (h : valB a b = true) : a = b := by
  unfold valB at h
  split at h
  · simp at h; rw [h]
  · simp at h; rw [h.1, h.2]
  · rename_i a b
    simp at h
    rw [h.1, h.2]
  · simp at h; rw [h.1, h.2]
  all_goals first | rfl | (cases h; done)
theorem valsB_ok : ∀ {a b : List Value}, valsB a b = true → a = b
  | [], [], _ => rfl
  | a :: l, b :: m, h => by
    simp only [valsB, Bool.and_eq_true] at h
    rw [valB_ok h.1, valsB_ok h.2]
  | [], _ :: _, h => by simp [valsB] at h
  | _ :: _, [], h => by simp [valsB] at h
theorem fitsB_ok {d : TD} {u : TypeDesc} (h : fitsB d u = true) : fits d u := by
  cases d <;> cases u <;> simp [fitsB, fits] at h ⊢ <;> simp_all
theorem tiB_ok {P : Program} {t : Nat} {ti : TI} (h : tiB P t ti = true) (hb : ∀ (_ : ti.d = .bad), False) : TOk P t ti := by
  unfold tiB at h
  split at h
  · rename_i he; exact (hb he).elim
  · split at h
    · rename_i i u hi hu
      simp only [Bool.and_eq_true] at h
      obtain ⟨⟨⟨⟨h1, h2⟩, h3⟩, h4⟩, h5⟩ := h
      split at h4
      · rename_i z hz
        simp only [Bool.and_eq_true, Bool.or_eq_true, Bool.not_eq_true'] at h4
        refine ⟨⟨u, hu, fitsB_ok h1⟩, i, z, hi, Nat.eq_of_beq_eq_true h2, Nat.eq_of_beq_eq_true h3, hz, valsB_ok h4.1, fun ha => ?_, fun k hk => ?_⟩
        · rcases h4.2 with h | h
          · rw [ha] at h; cases h
          · split at h
            · exact ⟨_, rfl⟩
            · cases h
        · rw [hk] at h5; exact h5
      · cases h4
    · cases h
theorem tabB_ok {P : Program} {T : Tab} : ∀ {n : Nat}, tabB P T n = true → ∀ t, t < n → tiB P t (T t) = true
  | 0, _, t, ht => by omega
  | n + 1, h, t, ht => by
    simp only [tabB, Bool.and_eq_true] at h
    by_cases e : t = n
    · subst e; exact h.1
    · exact tabB_ok h.2 t (by omega)
theorem tabOk_of {P : Program} {T : Tab} {n : Nat} (h : tabB P T n = true) (hn : ∀ t, n ≤ t → (T t).d = .bad) : TabOk P T := fun t => by
  by_cases ht : t < n
  · have h1 := tabB_ok h t ht
    cases hd : (T t).d <;> simp only <;> exact tiB_ok h1 (fun e => by rw [hd] at e; cases e)
  · rw [hn t (by omega)]; trivial
end Go.X
