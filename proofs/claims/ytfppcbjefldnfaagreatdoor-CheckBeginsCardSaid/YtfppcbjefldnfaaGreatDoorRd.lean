/- How memory reads as values, and what appends, stores and new blocks do to that. Conditions: none of its own. -/
import Derived.Test.YtfppcbjefldnfaaGreatDoorEng
import Derived.Deep.AppendSrc
import Derived.Laws.AppendOwn
import Derived.Deep.Upon
import Derived.ChangeArms
import Derived.ChangeSlices
import Derived.Below
namespace Go.X
open Go.RowKit

/-- Lengths stay below. -/
def lim : Nat := 1099511627776

/-- What stands in blocks that are no block of F's is as it was. -/
structure Ch (F : Nat → Prop) (ω ω' : World) : Prop where
  os : ω'.os = ω.os
  tape : ω'.tape = ω.tape
  output : ω'.output = ω.output
  size : ω.heap.size ≤ ω'.heap.size
  blk : ∀ (j : Nat), j < ω.heap.size → ¬ F j → ω'.heap[j]? = ω.heap[j]?
theorem Ext.ch {ω ω' : World} (h : Ext ω ω') (F : Nat → Prop) : Ch F ω ω' := ⟨h.os, h.tape, h.output, h.size, fun j hj _ => h.blk j hj⟩
theorem Ch.refl (F : Nat → Prop) (w : World) : Ch F w w := (Ext.refl w).ch F
theorem Ch.mono {F G : Nat → Prop} {a b : World} (h : Ch F a b) (hf : ∀ j, j < a.heap.size → F j → G j) : Ch G a b := ⟨h.os, h.tape, h.output, h.size, fun j hj hg => h.blk j hj fun hF => hg (hf j hj hF)⟩
theorem Ch.trans {F G : Nat → Prop} {a b c : World} (h : Ch F a b) (g : Ch G b c) (hg : ∀ j, j < a.heap.size → G j → F j) : Ch F a c :=
  ⟨g.os.trans h.os, g.tape.trans h.tape, g.output.trans h.output, Nat.le_trans h.size g.size, fun j hj hF => (g.blk j (Nat.lt_of_lt_of_le hj h.size) fun hG => hF (hg j hj hG)).trans (h.blk j hj hF)⟩
theorem Ch.ext {F : Nat → Prop} {a b : World} (h : Ch F a b) (hf : ∀ j, j < a.heap.size → ¬ F j) : Ext a b := ⟨h.os, h.tape, h.output, h.size, fun j hj => h.blk j hj (hf j hj)⟩
/-- New memory alone was touched. -/
theorem Ext.ch_trans {F : Nat → Prop} {a b c : World} (h : Ext a b) (g : Ch F b c) (hf : ∀ j, F j → a.heap.size ≤ j) : Ext a c :=
  ((h.ch F).trans g fun _ _ h => h).ext fun j hj hF => by have := hf j hF; omega
theorem NewAt.lt {ω ω' : World} {b : Nat} {o : Obj} (h : NewAt ω ω' b o) : b < ω'.heap.size := by
  have := h.at_
  rcases Nat.lt_or_ge b ω'.heap.size with h1 | h1
  · exact h1
  · rw [Array.getElem?_eq_none h1] at this; cases this
theorem NewAt.old {ω ω' : World} {b : Nat} {o : Obj} (h : NewAt ω ω' b o) {k : Nat} (hk : k < ω.heap.size) : k ≠ b := by have := h.fresh; omega

/-! ### What is seen behind a step of the real world -/
section
open Classical
noncomputable def view (ω W W' : World) : World := { W' with heap := W'.heap.mapIdx fun j o => if j < W.heap.size ∧ Hid ω j then hole else o }
theorem view_size (ω W W' : World) : (view ω W W').heap.size = W'.heap.size := by simp [view]
theorem view_get {ω W W' : World} {j : Nat} (h : ¬ (j < W.heap.size ∧ Hid ω j)) : (view ω W W').heap[j]? = W'.heap[j]? := by
  simp only [view, Array.getElem?_mapIdx, if_neg h]
  cases W'.heap[j]? <;> rfl
theorem view_hid {ω W W' : World} {j : Nat} (h : j < W.heap.size ∧ Hid ω j) : Hid (view ω W W') j := fun o ho => by
  simp only [view, Array.getElem?_mapIdx, if_pos h] at ho
  cases hw : W'.heap[j]? with
  | none => rw [hw] at ho; cases ho
  | some o' => rw [hw] at ho; cases ho; rfl
theorem view_sees {ω W W' : World} (hs : W.heap.size ≤ W'.heap.size) (hh : ∀ j, j < W.heap.size → Hid ω j → W'.heap[j]? = W.heap[j]?) : Sees (view ω W W') W' ∧ Keeps ω W (view ω W W') W' := by
  refine ⟨⟨rfl, rfl, rfl, by rw [view_size]; exact Nat.le_refl _, fun j o ho hx => ?_⟩, hs, fun j hj h => ⟨view_hid ⟨hj, h⟩, hh j hj h⟩⟩
  by_cases h : j < W.heap.size ∧ Hid ω j
  · have := view_hid (W' := W') h o ho
    rw [this] at hx; cases hx
  · rw [view_get h] at ho; exact ho
theorem Sees.vis {ω W : World} (h : Sees ω W) {j : Nat} (_hj : j < W.heap.size) (hv : ¬ Hid ω j) : W.heap[j]? = ω.heap[j]? := by
  have : ∃ o, ω.heap[j]? = some o ∧ isHole o = false := by
    refine Classical.byContradiction fun hc => hv fun o ho => ?_
    cases hx : isHole o
    · exact (hc ⟨o, ho, hx⟩).elim
    · rfl
  obtain ⟨o, h1, h2⟩ := this
  rw [h1, h.blk j o h1 h2]
theorem isHole_eq {o : Obj} (h : isHole o = true) : o = hole := by
  unfold isHole at h
  split at h
  · rfl
  · cases h
/-- A step of the real world that leaves all but F alone does so in what is seen. -/
theorem view_ch {F : Nat → Prop} {ω W W' : World} (hS : Sees ω W) (ho : W'.os = W.os) (ht : W'.tape = W.tape) (hp : W'.output = W.output) (hs : W.heap.size ≤ W'.heap.size)
    (hb : ∀ j, j < W.heap.size → ¬ F j → W'.heap[j]? = W.heap[j]?) : Ch F ω (view ω W W') := by
  refine ⟨ho.trans hS.os, ht.trans hS.tape, hp.trans hS.output, by rw [view_size]; exact Nat.le_trans hS.size hs, fun j hj hF => ?_⟩
  have hj' := Nat.lt_of_lt_of_le hj hS.size
  by_cases h : Hid ω j
  · have h1 := view_hid (W' := W') ⟨hj', h⟩
    obtain ⟨o, ho⟩ : ∃ o, ω.heap[j]? = some o := ⟨_, Array.getElem?_eq_getElem hj⟩
    obtain ⟨o', ho'⟩ : ∃ o, (view ω W W').heap[j]? = some o := ⟨_, Array.getElem?_eq_getElem (by rw [view_size]; omega)⟩
    rw [ho, ho', isHole_eq (h o ho), isHole_eq (h1 o' ho')]
  · rw [view_get fun hc => h hc.2, hb j hj' hF, hS.vis hj' h]
end
theorem Sees.cells {ω W : World} (h : Sees ω W) {b : Nat} {cs : Array Value} {e : Nat} {fz : Nat × Nat} (hb : ω.heap[b]? = some (.cells cs e fz)) : W.heap[b]? = some (.cells cs e fz) := h.blk _ _ hb rfl
theorem not_hid {ω : World} {b : Nat} {cs : Array Value} {e : Nat} {fz : Nat × Nat} (hb : ω.heap[b]? = some (.cells cs e fz)) : ¬ Hid ω b := fun h => by have := h _ hb; cases this
theorem lt_of_get {ω : World} {b : Nat} {o : Obj} (h : ω.heap[b]? = some o) : b < ω.heap.size := by
  rcases Nat.lt_or_ge b ω.heap.size with h1 | h1
  · exact h1
  · rw [Array.getElem?_eq_none h1] at h; cases h
theorem lt_of_cell {ω : World} {a : Addr} {v : Value} (h : ω.cell? a = some v) : a.block < ω.heap.size := by
  unfold World.cell? at h
  cases ho : ω.heap[a.block]? with
  | none => rw [ho] at h; cases h
  | some o => exact lt_of_get ho
theorem OpX.of {P : Program} {ρ : Operand → Value} {o : Oper} {ω : World} {Q : Value → World → Prop}
    (h : ∀ W, Sees ω W → ∃ v W', (execOp ρ o).run P W = .ok (.value v) W' ∧ W.heap.size ≤ W'.heap.size ∧ (∀ j, j < W.heap.size → Hid ω j → W'.heap[j]? = W.heap[j]?) ∧ Q v (view ω W W')) : OpX P ρ o ω Q := fun W hW => by
  obtain ⟨v, W', h1, h2, h3, h4⟩ := h W hW
  have := view_sees h2 h3
  exact ⟨v, W', _, .inl h1, this.1, this.2, h4⟩

/-! ### Reading -/
/-- How values of a type read. -/
structure Kd (α : Type) where
  sz : Nat
  K : World → (Nat → Prop) → α → List Value → Prop
  len : ∀ {ω ok x vs}, K ω ok x vs → vs.length = sz
  one : ∀ {ω ok x vs}, K ω ok x vs → ∀ v ∈ vs, Go.X.one v = true
  mono : ∀ {ω} {ok ok' : Nat → Prop} {x vs}, (∀ j, ok j → ok' j) → K ω ok x vs → K ω ok' x vs
  move : ∀ {ω ω'} {ok : Nat → Prop} {x vs}, (∀ j, ok j → j < ω.heap.size → ω'.heap[j]? = ω.heap[j]?) → K ω ok x vs → K ω' ok x vs
  lt : ∀ {ω} {ok : Nat → Prop} {x vs}, K ω ok x vs → K ω (fun j => ok j ∧ j < ω.heap.size) x vs
variable {α : Type}
theorem Kd.ext (d : Kd α) {ω ω' : World} {ok : Nat → Prop} {x : α} {vs : List Value} (h : d.K ω ok x vs) (he : Ext ω ω') : d.K ω' ok x vs := d.move (fun j _ hj => he.blk j hj) h
theorem Kd.ch (d : Kd α) {F : Nat → Prop} {ω ω' : World} {ok : Nat → Prop} {x : α} {vs : List Value} (h : d.K ω ok x vs) (he : Ch F ω ω') (hd : ∀ j, j < ω.heap.size → F j → ¬ ok j) : d.K ω' ok x vs := d.move (fun j ho hj => he.blk j hj fun hF => hd j hj hF ho) h

/-- Values one behind the other. -/
def Kd.all (d : Kd α) (ω : World) (ok : Nat → Prop) : List α → List Value → Prop
  | [], cs => cs = []
  | x :: xs, cs => ∃ vs rest, cs = vs ++ rest ∧ d.K ω ok x vs ∧ d.all ω ok xs rest
theorem Kd.all_len (d : Kd α) {ω : World} {ok : Nat → Prop} : ∀ {xs : List α} {cs : List Value}, d.all ω ok xs cs → cs.length = xs.length * d.sz
  | [], _, h => by rw [h]; simp
  | x :: xs, _, ⟨vs, rest, rfl, h1, h2⟩ => by rw [List.length_append, d.len h1, d.all_len h2, List.length_cons, Nat.succ_mul]; omega
theorem Kd.all_one (d : Kd α) {ω : World} {ok : Nat → Prop} : ∀ {xs : List α} {cs : List Value}, d.all ω ok xs cs → ∀ v ∈ cs, Go.X.one v = true
  | [], _, h, v, hv => by rw [h] at hv; cases hv
  | x :: xs, _, ⟨vs, rest, rfl, h1, h2⟩, v, hv => by
    rcases List.mem_append.1 hv with h | h
    · exact d.one h1 v h
    · exact d.all_one h2 v h
theorem Kd.all_mono (d : Kd α) {ω : World} {ok ok' : Nat → Prop} (hm : ∀ j, ok j → ok' j) : ∀ {xs : List α} {cs : List Value}, d.all ω ok xs cs → d.all ω ok' xs cs
  | [], _, h => h
  | _ :: _, _, ⟨vs, rest, h, h1, h2⟩ => ⟨vs, rest, h, d.mono hm h1, d.all_mono hm h2⟩
theorem Kd.all_move (d : Kd α) {ω ω' : World} {ok : Nat → Prop} (hm : ∀ j, ok j → j < ω.heap.size → ω'.heap[j]? = ω.heap[j]?) : ∀ {xs : List α} {cs : List Value}, d.all ω ok xs cs → d.all ω' ok xs cs
  | [], _, h => h
  | _ :: _, _, ⟨vs, rest, h, h1, h2⟩ => ⟨vs, rest, h, d.move hm h1, d.all_move hm h2⟩
theorem Kd.all_lt (d : Kd α) {ω : World} {ok : Nat → Prop} : ∀ {xs : List α} {cs : List Value}, d.all ω ok xs cs → d.all ω (fun j => ok j ∧ j < ω.heap.size) xs cs
  | [], _, h => h
  | _ :: _, _, ⟨vs, rest, h, h1, h2⟩ => ⟨vs, rest, h, d.lt h1, d.all_lt h2⟩
theorem Kd.all_append (d : Kd α) {ω : World} {ok : Nat → Prop} : ∀ {xs ys : List α} {cs ds : List Value}, d.all ω ok xs cs → d.all ω ok ys ds → d.all ω ok (xs ++ ys) (cs ++ ds)
  | [], _, _, _, h, g => by rw [h]; exact g
  | x :: xs, ys, _, ds, ⟨vs, rest, h, h1, h2⟩, g => ⟨vs, rest ++ ds, by rw [h, List.append_assoc], h1, d.all_append h2 g⟩
theorem Kd.all_one_of (d : Kd α) {ω : World} {ok : Nat → Prop} {x : α} {vs : List Value} (h : d.K ω ok x vs) : d.all ω ok [x] vs := ⟨vs, [], by simp, h, rfl⟩
theorem Kd.all_get (d : Kd α) {ω : World} {ok : Nat → Prop} : ∀ {xs : List α} {cs : List Value} {i : Nat} {x : α}, d.all ω ok xs cs → xs[i]? = some x → ∃ vs, d.K ω ok x vs ∧ (cs.drop (i * d.sz)).take d.sz = vs ∧ ∀ (j : Nat) (v : Value), vs[j]? = some v → cs[i * d.sz + j]? = some v
  | [], _, i, x, _, hx => by simp at hx
  | y :: xs, _, 0, x, ⟨vs, rest, rfl, h1, h2⟩, hx => by
    simp only [List.getElem?_cons_zero, Option.some.injEq] at hx
    subst hx
    refine ⟨vs, h1, by rw [Nat.zero_mul, List.drop_zero, ← d.len h1]; simp, fun j v hv => ?_⟩
    rw [Nat.zero_mul, Nat.zero_add, List.getElem?_append_left (List.getElem?_eq_some_iff.1 hv).1]
    exact hv
  | y :: xs, _, i + 1, x, ⟨vs, rest, rfl, h1, h2⟩, hx => by
    simp only [List.getElem?_cons_succ] at hx
    obtain ⟨us, g1, g2, g3⟩ := d.all_get h2 hx
    have hl := d.len h1
    refine ⟨us, g1, ?_, fun j v hv => ?_⟩
    · rw [Nat.succ_mul, Nat.add_comm (i * d.sz), ← List.drop_drop, ← hl, List.drop_left, hl]; exact g2
    · rw [Nat.succ_mul, List.getElem?_append_right (by omega), show i * d.sz + d.sz + j - vs.length = i * d.sz + j by omega]
      exact g3 j v hv
theorem Kd.all_take (d : Kd α) {ω : World} {ok : Nat → Prop} : ∀ {xs : List α} {cs : List Value} (n : Nat), d.all ω ok xs cs → d.all ω ok (xs.take n) (cs.take (n * d.sz))
  | [], _, n, h => by rw [h]; simp [Kd.all]
  | x :: xs, _, 0, h => by simp [Kd.all]
  | x :: xs, _, n + 1, ⟨vs, rest, rfl, h1, h2⟩ => ⟨vs, rest.take (n * d.sz), by
      rw [Nat.succ_mul, Nat.add_comm (n * d.sz), ← d.len h1, List.take_length_add_append, d.len h1], h1, d.all_take n h2⟩
theorem Kd.all_drop (d : Kd α) {ω : World} {ok : Nat → Prop} : ∀ {xs : List α} {cs : List Value} (n : Nat), d.all ω ok xs cs → d.all ω ok (xs.drop n) (cs.drop (n * d.sz))
  | [], _, n, h => by rw [h]; simp [Kd.all]
  | x :: xs, _, 0, h => by simpa using h
  | x :: xs, _, n + 1, ⟨vs, rest, rfl, h1, h2⟩ => by
      rw [Nat.succ_mul, Nat.add_comm (n * d.sz), ← d.len h1, List.drop_length_add_append, d.len h1]
      exact d.all_drop n h2
theorem Kd.all_set (d : Kd α) {ω : World} {ok : Nat → Prop} : ∀ {xs : List α} {cs : List Value} {i : Nat} {x : α} {vs : List Value}, d.all ω ok xs cs → i < xs.length → d.K ω ok x vs → d.all ω ok (xs.set i x) (cs.take (i * d.sz) ++ vs ++ cs.drop (i * d.sz + d.sz))
  | [], _, i, x, _, _, hx, _ => by simp at hx
  | y :: xs, _, 0, x, us, ⟨vs, rest, rfl, h1, h2⟩, _, hk => by
    refine ⟨us, rest, ?_, hk, h2⟩
    rw [Nat.zero_mul, Nat.zero_add, List.take_zero, List.nil_append, ← d.len h1, List.drop_left]
  | y :: xs, _, i + 1, x, us, ⟨vs, rest, rfl, h1, h2⟩, hi, hk => by
    have hl := d.len h1
    refine ⟨vs, _, ?_, h1, d.all_set h2 (by simpa using hi) hk⟩
    rw [Nat.succ_mul, Nat.add_comm (i * d.sz), Nat.add_assoc, ← hl, List.take_length_add_append, List.drop_length_add_append, hl]
    simp [List.append_assoc]
    rw [Nat.add_comm (i * d.sz)]

/-- A slice that reads as these values. -/
def Row (d : Kd α) (ω : World) (ok : Nat → Prop) (v : Value) (xs : List α) : Prop :=
  ∃ A c cs, v = .slice A xs.length c ∧ xs.length ≤ c ∧ c ≤ 9223372036854775807 ∧ (A = none → c = 0) ∧ (∀ a, A = some a → 0 < c → a.spot = none) ∧ d.all ω ok xs cs ∧
    (xs ≠ [] → ∃ b off, A = some ⟨b, off, none⟩ ∧ ok b ∧ CellsAt ω ⟨b, off, none⟩ cs)
theorem cellsAt_move {ω ω' : World} {a : Addr} {cs : List Value} (h : CellsAt ω a cs) (hb : ω'.heap[a.block]? = ω.heap[a.block]?) : CellsAt ω' a cs := fun i v hv => by
  rw [World.cell?_of_block (w := ω) (by rw [add_block]; exact hb)]
  exact h i v hv
theorem CellsAt.lt {ω : World} {a : Addr} {cs : List Value} (h : CellsAt ω a cs) (hn : cs ≠ []) : a.block < ω.heap.size := by
  cases cs with
  | nil => exact (hn rfl).elim
  | cons v vs => exact lt_of_cell (h 0 v rfl)
theorem Row.mono {d : Kd α} {ω : World} {ok ok' : Nat → Prop} {v : Value} {xs : List α} (h : Row d ω ok v xs) (hm : ∀ j, ok j → ok' j) : Row d ω ok' v xs := by
  obtain ⟨A, c, cs, h1, h2, h3, h5, h6, h7, h8⟩ := h
  refine ⟨A, c, cs, h1, h2, h3, h5, h6, d.all_mono hm h7, fun hn => ?_⟩
  obtain ⟨b, off, g1, g2, g3⟩ := h8 hn
  exact ⟨b, off, g1, hm _ g2, g3⟩
theorem Row.move {d : Kd α} {ω ω' : World} {ok : Nat → Prop} {v : Value} {xs : List α} (hd : 0 < d.sz) (h : Row d ω ok v xs) (hm : ∀ j, ok j → j < ω.heap.size → ω'.heap[j]? = ω.heap[j]?) : Row d ω' ok v xs := by
  obtain ⟨A, c, cs, h1, h2, h3, h5, h6, h7, h8⟩ := h
  refine ⟨A, c, cs, h1, h2, h3, h5, h6, d.all_move hm h7, fun hn => ?_⟩
  obtain ⟨b, off, g1, g2, g3⟩ := h8 hn
  refine ⟨b, off, g1, g2, cellsAt_move g3 (hm b g2 (g3.lt fun e => ?_))⟩
  have hl := d.all_len h7
  rw [e, List.length_nil] at hl
  rcases Nat.mul_eq_zero.1 hl.symm with h | h
  · exact hn (List.eq_nil_of_length_eq_zero h)
  · omega
theorem Row.lt {d : Kd α} {ω : World} {ok : Nat → Prop} {v : Value} {xs : List α} (hd : 0 < d.sz) (h : Row d ω ok v xs) : Row d ω (fun j => ok j ∧ j < ω.heap.size) v xs := by
  obtain ⟨A, c, cs, h1, h2, h3, h5, h6, h7, h8⟩ := h
  refine ⟨A, c, cs, h1, h2, h3, h5, h6, d.all_lt h7, fun hn => ?_⟩
  obtain ⟨b, off, g1, g2, g3⟩ := h8 hn
  refine ⟨b, off, g1, ⟨g2, g3.lt fun e => ?_⟩, g3⟩
  have hl := d.all_len h7
  rw [e, List.length_nil] at hl
  rcases Nat.mul_eq_zero.1 hl.symm with h | h
  · exact hn (List.eq_nil_of_length_eq_zero h)
  · omega
theorem Row.ext {d : Kd α} {ω ω' : World} {ok : Nat → Prop} {v : Value} {xs : List α} (hd : 0 < d.sz) (h : Row d ω ok v xs) (he : Ext ω ω') : Row d ω' ok v xs := h.move hd fun j _ hj => he.blk j hj
theorem Row.ch {d : Kd α} {F : Nat → Prop} {ω ω' : World} {ok : Nat → Prop} {v : Value} {xs : List α} (hd : 0 < d.sz) (h : Row d ω ok v xs) (he : Ch F ω ω') (hf : ∀ j, j < ω.heap.size → F j → ¬ ok j) : Row d ω' ok v xs := h.move hd fun j ho hj => he.blk j hj fun hF => hf j hj hF ho

/-! ### Kinds -/
def Kd.str : Kd ByteArray where
  sz := 1
  K := fun _ _ s vs => vs = [.string s]
  len := fun h => by rw [h]; rfl
  one := fun h v hv => by rw [h] at hv; simp at hv; rw [hv]; rfl
  mono := fun _ h => h
  move := fun _ h => h
  lt := fun h => h
def Kd.int : Kd Int where
  sz := 1
  K := fun _ _ n vs => vs = [.int .i64 n] ∧ In64 n
  len := fun h => by rw [h.1]; rfl
  one := fun h v hv => by rw [h.1] at hv; simp at hv; rw [hv]; rfl
  mono := fun _ h => h
  move := fun _ h => h
  lt := fun h => h
def Kd.byte : Kd UInt8 where
  sz := 1
  K := fun _ _ n vs => vs = [.int .u8 (n.toNat : Nat)]
  len := fun h => by rw [h]; rfl
  one := fun h v hv => by rw [h] at hv; simp at hv; rw [hv]; rfl
  mono := fun _ h => h
  move := fun _ h => h
  lt := fun h => h
def Kd.bool : Kd Bool where
  sz := 1
  K := fun _ _ n vs => vs = [.bool n]
  len := fun h => by rw [h]; rfl
  one := fun h v hv => by rw [h] at hv; simp at hv; rw [hv]; rfl
  mono := fun _ h => h
  move := fun _ h => h
  lt := fun h => h
def Kd.row (d : Kd α) (hd : 0 < d.sz) : Kd (List α) where
  sz := 1
  K := fun ω ok xs vs => ∃ v, vs = [v] ∧ Row d ω ok v xs
  len := fun ⟨v, h, _⟩ => by rw [h]; rfl
  one := fun ⟨v, h, hr⟩ u hu => by
    obtain ⟨A, c, cs, h1, _⟩ := hr
    rw [h] at hu; simp at hu; rw [hu, h1]; rfl
  mono := fun hm ⟨v, h, hr⟩ => ⟨v, h, hr.mono hm⟩
  move := fun hm ⟨v, h, hr⟩ => ⟨v, h, hr.move hd hm⟩
  lt := fun ⟨v, h, hr⟩ => ⟨v, h, hr.lt hd⟩
end Go.X
namespace Go.X
open Go.RowKit
variable {P : Program} {T : Tab} {α : Type}
theorem one_cell {v : Value} (h : one v = true) : v.oneCell' = true := by cases v <;> first | rfl | (simp [one] at h)
/-- What the second argument of an append yields. -/
def SrcX (T : Tab) (tx sz : Nat) (ω : World) (y : Value) (m : Nat) (news : List Value) : Prop :=
  (∃ e', (T tx).d = .slice e' ∧ (((∃ c, y = .slice none 0 c) ∧ m = 0 ∧ news = []) ∨ ∃ a c, y = .slice (some a) m c ∧ news.length = m * sz ∧ CellsAt ω a news ∧ ∀ u ∈ news, one u = true)) ∨
  ((T tx).d = .str ∧ sz = 1 ∧ ∃ s : ByteArray, y = .string s ∧ m = s.size ∧ news = byteCells s)
theorem SrcX.src {tx sz : Nat} {ω W : World} {y : Value} {m : Nat} {news : List Value} (h : SrcX T tx sz ω y m news) (hT : TabOk P T) (hS : Sees ω W) : Src P sz tx y m news W := by
  rcases h with ⟨e', hd, h⟩ | ⟨hd, rfl, s, rfl, rfl, rfl⟩
  · have hk := (hT.get (ne_bad hd (by simp))).slice hd
    rcases h with ⟨⟨c, rfl⟩, rfl, rfl⟩ | ⟨a, c, rfl, hl, hc, h1⟩
    · exact Src.ofNil W hk c
    · exact Src.ofSlice W hk a m c news hl (fun j u hu => hS.cell (hc j u hu)) fun u hu => one_cell (h1 u hu)
  · exact Src.ofString W ((hT.get (ne_bad hd (by simp))).str hd) s
theorem SrcX.len {tx sz : Nat} {ω : World} {y : Value} {m : Nat} {news : List Value} (h : SrcX T tx sz ω y m news) : news.length = m * sz := by
  rcases h with ⟨e', _, h⟩ | ⟨_, rfl, s, rfl, rfl, rfl⟩
  · rcases h with ⟨⟨c, rfl⟩, rfl, rfl⟩ | ⟨a, c, rfl, hl, _⟩
    · simp
    · exact hl
  · rw [byteCells_length, Nat.mul_one]
theorem firstCells_own {ω W : World} {lo e sz : Nat} {v : Value} {n : Nat} {cells : List Value} (hS : Sees ω W) (h : ω.ownsRow lo e sz v n cells) : ∃ ao c, v = .slice ao n c ∧ (Builtin.firstCells sz n v).run P W.drew = .ok cells.toArray W.drew := by
  rcases h.2 with ⟨rfl, rfl⟩ | ⟨g, cap, cur, rfl, hbg, hg, hnc, hcm, hcs, htake⟩
  · have : cells = [] := List.eq_nil_of_length_eq_zero (by simpa using h.1)
    subst this
    exact ⟨_, _, rfl, run_firstCells_none _ _ _ _ _⟩
  · exact ⟨_, _, rfl, run_firstCells_some _ _ _ _ _ _ _ h.1 fun j u hu => by
      have := hS.cell (World.ownsRow.cells h (g := g) rfl j u hu)
      simpa using this⟩
theorem exec_append {ρ : Operand → Value} {o : Oper} {s x : Operand} {t tx : Nat} (ho : o.op = .call { callee := .builtin .append, args := #[s, x], argTypes := #[t, tx] }) {W W' : World} {v y v' : Value} (hs : ρ s = v) (hx : ρ x = y)
    (h : (Builtin.append_ #[t, tx] o.type #[v, y]).run P W = .ok v' W') : (execOp ρ o).run P W = .ok (.value v') W' := by
  unfold execOp
  simp only [ho, resolve, invoke, builtin, Sem.run_bind, Sem.run_pure, Result.andThen_ok, List.map_toArray, List.map_cons, List.map_nil, hs, hx, h]
theorem grow_view {ω W : World} (hS : Sees ω W) (F : Nat → Prop) (cs : Array Value) (e : Nat) : Ch F ω (view ω W (W.drew.alloc (.cells cs e))) ∧ (view ω W (W.drew.alloc (.cells cs e))).heap[W.heap.size]? = some (.cells cs e) := by
  refine ⟨(view_ch (F := F) hS rfl rfl rfl (by simp) fun j hj _ => heap_alloc_old W.drew _ hj), ?_⟩
  rw [view_get (by omega)]
  exact heap_alloc_new W.drew _
/-- An append to a row of one's own. -/
theorem opx_append_own (hT : TabOk P T) {ρ : Operand → Value} {o : Oper} {s x : Operand} {t tx e : Nat} (ho : o.op = .call { callee := .builtin .append, args := #[s, x], argTypes := #[t, tx] }) (hd : (T t).d = .slice e) (hbad : ∀ (_ : (T e).d = .bad), False)
    {ω : World} {Q : Value → World → Prop} {lo n m : Nat} {v y : Value} {cells news : List Value} (hs : ρ s = v) (hx : ρ x = y) (hz : (T e).zero.length = (T e).size) (hown : ω.ownsRow lo e (T e).size v n cells) (hlo : lo ≤ ω.heap.size) (hsrc : SrcX T tx (T e).size ω y m news)
    (h63 : n + m ≤ maxLen) (hbytes : (n + m) * (T e).bytes ≤ 140737488355328)
    (h : ∀ v' ω', ω'.ownsRow lo e (T e).size v' (n + m) (cells ++ news) → Ch (fun k => v.ownBlock = some k) ω ω' → (v'.ownBlock = v.ownBlock ∨ ∃ k, v'.ownBlock = some k ∧ ω.heap.size ≤ k) → (v' = .slice none 0 0 ↔ v = .slice none 0 0 ∧ m = 0) → Q v' ω') : OpX P ρ o ω Q := by
  refine OpX.of fun W hS => ?_
  have ht := (hT.get (ne_bad hd (by simp))).slice hd
  obtain ⟨i, z, hi, hisz, hib, hiz, hzc, _⟩ := (hT.get hbad).info
  have hzs : z.cells.size = (T e).size := by rw [← hz, ← hzc]; simp
  have hsr := hsrc.src hT hS
  have hsl := hsrc.len
  rw [← hisz] at hsr hown hsl
  rw [← hib] at hbytes
  have hlen : (cells ++ news).length = (n + m) * i.size := by rw [List.length_append, hown.1, hsl, Nat.add_mul]
  have hsmall : n + m ≤ 9223372036854775807 := by simp only [maxLen] at h63; omega
  -- no room
  have grow : ∀ (ao : Option Addr) (old : Nat), v = .slice ao n old → old < n + m →
      ∃ v' W', (execOp ρ o).run P W = .ok (.value v') W' ∧ W.heap.size ≤ W'.heap.size ∧ (∀ j, j < W.heap.size → Hid ω j → W'.heap[j]? = W.heap[j]?) ∧ Q v' (view ω W W') := by
    intro ao old hv hg
    obtain ⟨ao', c', hv', hold⟩ := firstCells_own (P := P) hS hown
    rw [hv] at hv' hold
    obtain ⟨rfl, _, rfl⟩ := Value.slice.inj hv'
    have hrun := run_append_grow_src (P := P) W t tx o.type e i z ht hi hiz ao n old cells hold y m news hsr hg (by omega) (growslice_fits hg hbytes)
    have hge := grownCap_ge W (n + m) old e
    have hcm := grownCap_le_maxLen W (n + m) old e h63
    obtain ⟨hch, hnew⟩ := grow_view hS (fun k => v.ownBlock = some k) ((cells ++ news).toArray ++ Builtin.zeroCells z.cells (grownCap W (n + m) old e - (n + m))) e
    refine ⟨_, _, exec_append ho hs hx (by rw [hv]; exact hrun), by simp, fun j hj _ => heap_alloc_old W.drew _ hj, h _ _ ?_ hch (.inr ⟨_, rfl, hS.size⟩) ?_⟩
    · rw [← hisz]
      refine ⟨hlen, .inr ⟨W.heap.size, _, _, rfl, Nat.le_trans hlo hS.size, hnew, hge, hcm, ?_, ?_⟩⟩
      · simp only [Array.size_append, List.size_toArray, size_zeroCells, hzs, hlen, hisz, ← Nat.add_mul]
        congr 1
        omega
      · simp only [Array.toList_append]
        rw [← hlen]
        exact List.take_left
    · constructor
      · intro e; cases e
      · rintro ⟨e, rfl⟩
        rw [hv] at e
        cases e
        omega
  rcases hown.2 with ⟨rfl, rfl⟩ | ⟨g, cap, cur, rfl, hbg, hg, hnc, hcm, hcs, htake⟩
  · have hc0 : cells = [] := List.eq_nil_of_length_eq_zero (by simpa using hown.1)
    subst hc0
    by_cases hm : m = 0
    · subst hm
      have hn : news = [] := List.eq_nil_of_length_eq_zero (by simpa using hsl)
      subst hn
      have hch : Ch (fun k => (Value.slice none 0 0).ownBlock = some k) ω (view ω W W) := view_ch hS rfl rfl rfl (Nat.le_refl _) fun _ _ _ => rfl
      refine ⟨_, _, exec_append ho hs hx (run_append_nothing (P := P) W t tx o.type e i ht hi none 0 0 (Nat.le_refl _) y hsr), Nat.le_refl _, fun _ _ _ => rfl, h _ _ ?_ hch (.inl rfl) (by simp)⟩
      exact World.ownsRow_nil _ _ _ _
    · exact grow none 0 rfl (by omega)
  · by_cases hroom : n + m ≤ cap
    · have hfit : n * i.size + news.length ≤ cur.size := by rw [hsl, hcs, ← Nat.add_mul]; exact Nat.mul_le_mul_right _ hroom
      have hgW := hS.cells hg
      have hst := run_storeCells_at P g (n * i.size) e news 0 cur W hgW (by simpa using hfit) hsr.one
      simp only [Nat.add_zero] at hst
      have hr : (Builtin.append_ #[t, tx] o.type #[.slice (some ⟨g, 0, none⟩) n cap, y]).run P W = .ok (.slice (some ⟨g, 0, none⟩) (n + m) cap) (W.setRow g (cur.toList.take (n * i.size) ++ news ++ cur.toList.drop (n * i.size + news.length)).toArray) := by
        rcases hsr.kind with ⟨e', hk⟩ | hk <;> simp [Builtin.append_, run_underlying ht, run_underlying hk, sizeOf, typeInfo, hi, hsr.len, hroom, hsr.cells, Addr.add_lit, hst]
      refine ⟨_, _, exec_append ho hs hx hr, by simp, fun j hj hh => setRow_other _ _ _ _ fun e => (not_hid hg (e ▸ hh)).elim, h _ _ ?_ (view_ch hS rfl rfl rfl (by simp) fun j _ hF => setRow_other _ _ _ _ fun e => hF (by simp [Value.ownBlock, e])) (.inl rfl) (by simp)⟩
      rw [← hisz]
      refine ⟨hlen, .inr ⟨g, cap, (cur.toList.take (n * i.size) ++ news ++ cur.toList.drop (n * i.size + news.length)).toArray, rfl, hbg, ?_, hroom, hcm, ?_, ?_⟩⟩
      · rw [view_get fun hc => not_hid hg hc.2]
        exact setRow_heap W g cur _ e _ hgW
      · simp only [List.size_toArray, List.length_append, List.length_take, List.length_drop, Array.length_toList]
        omega
      · rw [htake, ← hlen]
        exact List.take_left
    · exact grow _ cap rfl (by omega)
/-- An append to a slice without room: a copy. -/
theorem opx_append_bare (hT : TabOk P T) {ρ : Operand → Value} {o : Oper} {s x : Operand} {t tx e : Nat} (ho : o.op = .call { callee := .builtin .append, args := #[s, x], argTypes := #[t, tx] }) (hd : (T t).d = .slice e) (hbad : ∀ (_ : (T e).d = .bad), False)
    {ω : World} {Q : Value → World → Prop} {m : Nat} {A : Option Addr} {y : Value} {news : List Value} (hs : ρ s = .slice A 0 0) (hx : ρ x = y) (hz : (T e).zero.length = (T e).size) (hsrc : SrcX T tx (T e).size ω y m news)
    (h63 : m ≤ maxLen) (hbytes : m * (T e).bytes ≤ 140737488355328)
    (h0 : m = 0 → ∀ ω', Ext ω ω' → Q (.slice A 0 0) ω')
    (h : 0 < m → ∀ v' ω', ω'.ownsRow ω.heap.size e (T e).size v' m news → Ext ω ω' → (∃ k c, v' = .slice (some ⟨k, 0, none⟩) m c) → Q v' ω') : OpX P ρ o ω Q := by
  refine OpX.of fun W hS => ?_
  have ht := (hT.get (ne_bad hd (by simp))).slice hd
  obtain ⟨i, z, hi, hisz, hib, hiz, hzc, _⟩ := (hT.get hbad).info
  have hzs : z.cells.size = (T e).size := by rw [← hz, ← hzc]; simp
  have hsr := hsrc.src hT hS
  have hsl := hsrc.len
  rw [← hisz] at hsr hsl
  rw [← hib] at hbytes
  by_cases hm : m = 0
  · subst hm
    have hn : news = [] := List.eq_nil_of_length_eq_zero (by simpa using hsl)
    subst hn
    have hch : Ch (fun _ => False) ω (view ω W W) := view_ch hS rfl rfl rfl (Nat.le_refl _) fun _ _ _ => rfl
    exact ⟨_, _, exec_append ho hs hx (run_append_nothing (P := P) W t tx o.type e i ht hi A 0 0 (Nat.le_refl _) y hsr), Nat.le_refl _, fun _ _ _ => rfl, h0 rfl _ (hch.ext fun _ _ h => h)⟩
  · have hold : (Builtin.firstCells i.size 0 (.slice A 0 0)).run P W.drew = .ok ([] : List Value).toArray W.drew := by
      cases A with
      | none => exact run_firstCells_none _ _ _ _ _
      | some a => exact run_firstCells_some _ _ _ _ _ _ _ (by simp) fun j u hu => by simp at hu
    have hrun := run_append_grow_src (P := P) W t tx o.type e i z ht hi hiz A 0 0 [] hold y m news hsr (by omega) (by simp only [maxLen] at h63; omega) (growslice_fits (by omega) (by rw [Nat.zero_add]; exact hbytes))
    have hge := grownCap_ge W (0 + m) 0 e
    have hcm := grownCap_le_maxLen W (0 + m) 0 e (by omega)
    obtain ⟨hch, hnew⟩ := grow_view hS (fun _ => False) (([] ++ news).toArray ++ Builtin.zeroCells z.cells (grownCap W (0 + m) 0 e - (0 + m))) e
    refine ⟨_, _, exec_append ho hs hx hrun, by simp, fun j hj _ => heap_alloc_old W.drew _ hj, h (by omega) _ _ ?_ (hch.ext fun _ _ h => h) ⟨_, _, by rw [Nat.zero_add]⟩⟩
    rw [← hisz]
    refine ⟨hsl, .inr ⟨W.heap.size, _, _, by rw [Nat.zero_add], hS.size, hnew, by omega, hcm, ?_, ?_⟩⟩
    · simp only [Array.size_append, List.size_toArray, size_zeroCells, hzs, List.nil_append, hsl, hisz, ← Nat.add_mul]
      congr 1
      omega
    · simp only [Array.toList_append, List.nil_append]
      rw [← hsl]
      exact List.take_left
end Go.X
namespace Go.X
open Go.RowKit
variable {P : Program} {T : Tab} {α : Type}
/-- What is known of a readable slice, its address and capacity at hand. -/
structure RowA (d : Kd α) (ω : World) (ok : Nat → Prop) (A : Option Addr) (c : Nat) (xs : List α) : Prop where
  le : xs.length ≤ c
  cap : c ≤ 9223372036854775807
  nil : A = none → c = 0
  spot : ∀ a, A = some a → 0 < c → a.spot = none
  cells : ∃ cs, d.all ω ok xs cs ∧ (xs ≠ [] → ∃ b off, A = some ⟨b, off, none⟩ ∧ ok b ∧ CellsAt ω ⟨b, off, none⟩ cs)
theorem Row.open {d : Kd α} {ω : World} {ok : Nat → Prop} {v : Value} {xs : List α} (h : Row d ω ok v xs) : ∃ A c, v = .slice A xs.length c ∧ RowA d ω ok A c xs := by
  obtain ⟨A, c, cs, h1, h2, h3, h5, h6, h7, h8⟩ := h
  exact ⟨A, c, h1, h2, h3, h5, h6, cs, h7, h8⟩
theorem RowA.row {d : Kd α} {ω : World} {ok : Nat → Prop} {A : Option Addr} {c : Nat} {xs : List α} (h : RowA d ω ok A c xs) : Row d ω ok (.slice A xs.length c) xs := by
  obtain ⟨h2, h3, h5, h6, cs, h7, h8⟩ := h
  exact ⟨A, c, cs, rfl, h2, h3, h5, h6, h7, h8⟩
theorem RowA.lim {d : Kd α} {ω : World} {ok : Nat → Prop} {A : Option Addr} {c : Nat} {xs : List α} (h : RowA d ω ok A c xs) : xs.length ≤ 9223372036854775807 := Nat.le_trans h.le h.cap
theorem RowA.row' {d : Kd α} {ω : World} {ok : Nat → Prop} {A : Option Addr} {c n : Nat} {xs : List α} (h : RowA d ω ok A c xs) (hn : n = xs.length) : Row d ω ok (.slice A n c) xs := hn ▸ h.row
theorem RowA.ext {d : Kd α} {ω ω' : World} {ok : Nat → Prop} {A : Option Addr} {c : Nat} {xs : List α} (hd : 0 < d.sz) (h : RowA d ω ok A c xs) (he : Ext ω ω') : RowA d ω' ok A c xs := by
  obtain ⟨A', c', e, h'⟩ := (h.row.ext hd he).open
  obtain ⟨rfl, _, rfl⟩ := Value.slice.inj e
  exact h'
theorem RowA.ch {d : Kd α} {F : Nat → Prop} {ω ω' : World} {ok : Nat → Prop} {A : Option Addr} {c : Nat} {xs : List α} (hd : 0 < d.sz) (h : RowA d ω ok A c xs) (he : Ch F ω ω') (hf : ∀ j, j < ω.heap.size → F j → ¬ ok j) : RowA d ω' ok A c xs := by
  obtain ⟨A', c', e, h'⟩ := (h.row.ch hd he hf).open
  obtain ⟨rfl, _, rfl⟩ := Value.slice.inj e
  exact h'
theorem add_add (b off i j : Nat) : (⟨b, off, none⟩ : Addr).add (i + j) = (⟨b, off + i, none⟩ : Addr).add j := by
  rw [Addr.add_lit, Addr.add_lit, Nat.add_assoc]
/-- An element. -/
theorem RowA.at {d : Kd α} {ω : World} {ok : Nat → Prop} {A : Option Addr} {c : Nat} {xs : List α} (h : RowA d ω ok A c xs) {i : Nat} {x : α} (hx : xs[i]? = some x) :
    ∃ b off, A = some ⟨b, off, none⟩ ∧ ok b ∧ ∃ vs, d.K ω ok x vs ∧ vs.length = d.sz ∧ CellsAt ω ⟨b, off + times i d.sz, none⟩ vs := by
  obtain ⟨cs, h7, h8⟩ := h.cells
  obtain ⟨b, off, hA, hb, hc⟩ := h8 (by rintro rfl; simp at hx)
  obtain ⟨vs, g1, _, g3⟩ := d.all_get h7 hx
  refine ⟨b, off, hA, hb, vs, g1, d.len g1, fun j v hv => ?_⟩
  have := hc _ v (g3 j v hv)
  rwa [add_add, ← times_eq] at this
theorem CellsAt.cell {ω : World} {a : Addr} {v : Value} {vs : List Value} (h : CellsAt ω a (v :: vs)) : ω.cell? a = some v := by
  have := h 0 v rfl
  simpa [Addr.add] using this
/-- An element of one cell. -/
theorem RowA.str {ω : World} {ok : Nat → Prop} {A : Option Addr} {c : Nat} {xs : List ByteArray} (h : RowA Kd.str ω ok A c xs) {i : Nat} (hi : i < xs.length) : ∃ b off, A = some ⟨b, off, none⟩ ∧ ω.cell? ⟨b, off + i, none⟩ = some (.string xs[i]) := by
  obtain ⟨b, off, hA, _, vs, rfl, _, hc⟩ := h.at (i := i) (x := xs[i]) (by simp [hi])
  exact ⟨b, off, hA, hc.cell⟩
theorem RowA.int {ω : World} {ok : Nat → Prop} {A : Option Addr} {c : Nat} {xs : List Int} (h : RowA Kd.int ω ok A c xs) {i : Nat} (hi : i < xs.length) : ∃ b off, A = some ⟨b, off, none⟩ ∧ ω.cell? ⟨b, off + i, none⟩ = some (.int .i64 xs[i]) ∧ In64 xs[i] := by
  obtain ⟨b, off, hA, _, vs, ⟨rfl, hl⟩, _, hc⟩ := h.at (i := i) (x := xs[i]) (by simp [hi])
  exact ⟨b, off, hA, hc.cell, hl⟩
theorem RowA.inner {d : Kd α} {hd : 0 < d.sz} {ω : World} {ok : Nat → Prop} {A : Option Addr} {c : Nat} {xs : List (List α)} (h : RowA (d.row hd) ω ok A c xs) {i : Nat} (hi : i < xs.length) : ∃ b off v, A = some ⟨b, off, none⟩ ∧ ω.cell? ⟨b, off + i, none⟩ = some v ∧ Row d ω ok v xs[i] := by
  obtain ⟨b, off, hA, _, vs, ⟨v, rfl, hl⟩, _, hc⟩ := h.at (i := i) (x := xs[i]) (by simp [hi])
  exact ⟨b, off, v, hA, hc.cell, hl⟩
/-- A beginning, and what is behind it. -/
theorem RowA.take {d : Kd α} {ω : World} {ok : Nat → Prop} {A : Option Addr} {c : Nat} {xs : List α} (h : RowA d ω ok A c xs) {n : Nat} (hn : n ≤ xs.length) : Row d ω ok (.slice A n c) (xs.take n) := by
  obtain ⟨h2, h3, h5, h6, cs, h7, h8⟩ := h
  refine ⟨A, c, cs.take (n * d.sz), by rw [List.length_take, Nat.min_eq_left hn], by rw [List.length_take]; omega, h3, h5, h6, d.all_take n h7, fun hne => ?_⟩
  obtain ⟨b, off, g1, g2, g3⟩ := h8 (by rintro rfl; simp at hne)
  refine ⟨b, off, g1, g2, fun i v hv => g3 i v ?_⟩
  rw [List.getElem?_take] at hv
  split at hv
  · exact hv
  · cases hv
theorem RowA.drop {d : Kd α} {ω : World} {ok : Nat → Prop} {b off : Nat} {c : Nat} {xs : List α} (h : RowA d ω ok (some ⟨b, off, none⟩) c xs) {n : Nat} (hn : n ≤ xs.length) : Row d ω ok (.slice (some ⟨b, off + times n d.sz, none⟩) (xs.length - n) (c - n)) (xs.drop n) := by
  obtain ⟨h2, h3, h5, h6, cs, h7, h8⟩ := h
  refine ⟨some ⟨b, off + times n d.sz, none⟩, c - n, cs.drop (n * d.sz), by rw [List.length_drop], by rw [List.length_drop]; omega, by omega, (fun e => by cases e), (fun a e _ => by cases e; rfl), d.all_drop n h7, fun hne => ?_⟩
  obtain ⟨b', off', g1, g2, g3⟩ := h8 (by rintro rfl; simp at hne)
  cases g1
  refine ⟨_, _, rfl, g2, fun i v hv => ?_⟩
  rw [List.getElem?_drop] at hv
  have := g3 _ v hv
  rwa [add_add, ← times_eq] at this
theorem RowA.drop_end {d : Kd α} {ω : World} {ok : Nat → Prop} {A : Option Addr} {c c' n : Nat} {xs : List α} (h : RowA d ω ok A c xs) (hn : xs.length ≤ n) (hc : A = none → c' = 0) (hc' : c' ≤ c) : Row d ω ok (.slice A 0 c') (xs.drop n) := by
  rw [List.drop_eq_nil_of_le hn]
  exact ⟨A, c', [], rfl, Nat.zero_le _, Nat.le_trans hc' h.cap, hc, (fun a e h0 => h.spot a e (by omega)), rfl, fun h => (h rfl).elim⟩
theorem Row.nil (d : Kd α) (ω : World) (ok : Nat → Prop) : Row d ω ok (.slice none 0 0) [] := ⟨none, 0, [], rfl, by simp, by simp, fun _ => rfl, (fun _ e => by cases e), rfl, fun h => (h rfl).elim⟩

/-! ### Rows of one's own -/
def Own (d : Kd α) (e : Nat) (ω : World) (lo : Nat) (ok : Nat → Prop) (v : Value) (xs : List α) : Prop :=
  ∃ cs, ω.ownsRow lo e d.sz v xs.length cs ∧ d.all ω (fun k => ok k ∧ v.ownBlock ≠ some k) xs cs
theorem Own.nil (d : Kd α) (e : Nat) (ω : World) (lo : Nat) (ok : Nat → Prop) : Own d e ω lo ok (.slice none 0 0) [] := ⟨[], World.ownsRow_nil _ _ _ _, rfl⟩
theorem Own.mono {d : Kd α} {e lo lo' : Nat} {ω : World} {ok ok' : Nat → Prop} {v : Value} {xs : List α} (h : Own d e ω lo ok v xs) (hl : lo' ≤ lo) (hm : ∀ j, ok j → ok' j) : Own d e ω lo' ok' v xs := by
  obtain ⟨cs, h1, h2⟩ := h
  refine ⟨cs, ⟨h1.1, ?_⟩, d.all_mono (fun j hj => ⟨hm j hj.1, hj.2⟩) h2⟩
  rcases h1.2 with hn | ⟨g, cap, cur, hv, hb, rest⟩
  · exact .inl hn
  · exact .inr ⟨g, cap, cur, hv, Nat.le_trans hl hb, rest⟩
theorem ownsRow_move {ω ω' : World} {lo e sz : Nat} {v : Value} {n : Nat} {cs : List Value} (h : ω.ownsRow lo e sz v n cs) (hm : ∀ g, v.ownBlock = some g → ω'.heap[g]? = ω.heap[g]?) : ω'.ownsRow lo e sz v n cs := by
  refine ⟨h.1, ?_⟩
  rcases h.2 with hn | ⟨g, cap, cur, hv, hb, hg, rest⟩
  · exact .inl hn
  · exact .inr ⟨g, cap, cur, hv, hb, by rw [hm g (by rw [hv]; rfl)]; exact hg, rest⟩
theorem ownBlock_lt {ω : World} {lo e sz : Nat} {v : Value} {n : Nat} {cs : List Value} (h : ω.ownsRow lo e sz v n cs) {g : Nat} (hg : v.ownBlock = some g) : lo ≤ g ∧ g < ω.heap.size := World.ownsRow.lt h g hg
theorem Own.lt {d : Kd α} {e lo : Nat} {ω : World} {ok : Nat → Prop} {v : Value} {xs : List α} (h : Own d e ω lo ok v xs) {g : Nat} (hg : v.ownBlock = some g) : lo ≤ g ∧ g < ω.heap.size := by
  obtain ⟨cs, h1, _⟩ := h
  exact ownBlock_lt h1 hg
theorem Own.ch {d : Kd α} {F : Nat → Prop} {e lo : Nat} {ω ω' : World} {ok : Nat → Prop} {v : Value} {xs : List α} (h : Own d e ω lo ok v xs) (hc : Ch F ω ω') (hF : ∀ j, j < ω.heap.size → F j → ¬ ok j ∧ v.ownBlock ≠ some j) : Own d e ω' lo ok v xs := by
  obtain ⟨cs, h1, h2⟩ := h
  refine ⟨cs, ownsRow_move h1 fun g hg => hc.blk g (ownBlock_lt h1 hg).2 fun hf => (hF g (ownBlock_lt h1 hg).2 hf).2 hg, d.all_move (fun j hj hl => hc.blk j hl fun hf => (hF j hl hf).1 hj.1) h2⟩
theorem Own.ext {d : Kd α} {e lo : Nat} {ω ω' : World} {ok : Nat → Prop} {v : Value} {xs : List α} (h : Own d e ω lo ok v xs) (hc : Ext ω ω') : Own d e ω' lo ok v xs := h.ch (hc.ch fun _ => False) fun _ _ h => h.elim
theorem Own.row {d : Kd α} {e lo : Nat} {ω : World} {ok : Nat → Prop} {v : Value} {xs : List α} (h : Own d e ω lo ok v xs) : Row d ω (fun k => ok k ∨ lo ≤ k) v xs := by
  obtain ⟨cs, h1, h2⟩ := h
  have hall := d.all_mono (ok' := fun k => ok k ∨ lo ≤ k) (fun j hj => .inl hj.1) h2
  rcases h1.2 with ⟨rfl, hn⟩ | ⟨g, cap, cur, rfl, hb, hg, hc, hm, hs, ht⟩
  · have : xs = [] := List.eq_nil_of_length_eq_zero hn
    subst this
    exact Row.nil _ _ _
  · exact ⟨_, cap, cs, rfl, hc, hm, (fun e => by cases e), (fun a e _ => by cases e; rfl), hall, fun _ => ⟨g, 0, rfl, .inr hb, World.ownsRow.cells h1 rfl⟩⟩
theorem Own.open {d : Kd α} {e lo : Nat} {ω : World} {ok : Nat → Prop} {v : Value} {xs : List α} (h : Own d e ω lo ok v xs) : ∃ A c, v = .slice A xs.length c ∧ RowA d ω (fun k => ok k ∨ lo ≤ k) A c xs := h.row.open
/-- A new row. -/
theorem Own.new {d : Kd α} {e : Nat} {ω ω' : World} {b n : Nat} {ok : Nat → Prop} {cs : List Value} {xs : List α} (h : NewAt ω ω' b (.cells cs.toArray e)) (hd : d.all ω ok xs cs) (hn : n = xs.length) (hl : xs.length ≤ Go.X.lim) : Own d e ω' ω.heap.size ok (.slice (some ⟨b, 0, none⟩) n n) xs := by
  subst hn
  refine ⟨cs, ⟨d.all_len hd, .inr ⟨b, _, _, rfl, h.fresh, h.at_, Nat.le_refl _, Nat.le_trans hl (by simp [Go.X.lim, maxLen]), by simp [d.all_len hd], by rw [← d.all_len hd]; simp⟩⟩, ?_⟩
  have := d.all_move (ω' := ω') (fun j hj _ => h.ext.blk j hj.2) (d.all_lt hd)
  exact d.all_mono (fun j hj => ⟨hj.1, fun e => by simp only [Value.ownBlock, Option.some.injEq] at e; have := h.fresh; omega⟩) this
theorem Row.new {d : Kd α} {e : Nat} {ω ω' : World} {b n : Nat} {ok : Nat → Prop} {cs : List Value} {xs : List α} (h : NewAt ω ω' b (.cells cs.toArray e)) (hd : d.all ω ok xs cs) (hn : n = xs.length) (hl : xs.length ≤ Go.X.lim) : Row d ω' (fun k => ok k ∨ ω.heap.size ≤ k) (.slice (some ⟨b, 0, none⟩) n n) xs := (Own.new h hd hn hl).row
theorem Row.src {d : Kd α} {ω : World} {ok : Nat → Prop} {v : Value} {xs : List α} {tx e' : Nat} (hd : (T tx).d = .slice e') (h : Row d ω ok v xs) : ∃ news, SrcX T tx d.sz ω v xs.length news ∧ d.all ω ok xs news := by
  obtain ⟨A, c, cs, h1, h2, h3, h5, h6, h7, h8⟩ := h
  by_cases hn : xs = []
  · subst hn
    have : cs = [] := h7
    subst this
    refine ⟨[], .inl ⟨e', hd, ?_⟩, h7⟩
    cases A with
    | none => exact .inl ⟨⟨c, h1⟩, rfl, rfl⟩
    | some a => exact .inr ⟨a, c, h1, by simp, (fun j u hu => by simp at hu), fun u hu => by cases hu⟩
  · obtain ⟨b, off, rfl, _, hc⟩ := h8 hn
    exact ⟨cs, .inl ⟨e', hd, .inr ⟨_, c, h1, d.all_len h7, hc, d.all_one h7⟩⟩, h7⟩
/-- What is appended, and how it reads. -/
def SrcR (T : Tab) (tx : Nat) (d : Kd α) (ω : World) (ok : Nat → Prop) (y : Value) (ys : List α) : Prop := ∃ news, SrcX T tx d.sz ω y ys.length news ∧ d.all ω ok ys news
theorem Row.srcR {d : Kd α} {ω : World} {ok : Nat → Prop} {v : Value} {xs : List α} {tx e' : Nat} (h : Row d ω ok v xs) (hd : (T tx).d = .slice e') : SrcR T tx d ω ok v xs := h.src hd
theorem SrcR.mono {d : Kd α} {ω : World} {ok ok' : Nat → Prop} {v : Value} {xs : List α} {tx : Nat} (h : SrcR T tx d ω ok v xs) (hm : ∀ j, ok j → ok' j) : SrcR T tx d ω ok' v xs := by
  obtain ⟨news, h1, h2⟩ := h
  exact ⟨news, h1, d.all_mono hm h2⟩
/-- A kind that needs no memory. -/
def Kd.Flat (d : Kd α) : Prop := ∀ {ω ω' ok ok' x vs}, d.K ω ok x vs → d.K ω' ok' x vs
theorem Kd.Flat.all {d : Kd α} (hf : d.Flat) {ω ω' : World} {ok ok' : Nat → Prop} : ∀ {xs : List α} {cs : List Value}, d.all ω ok xs cs → d.all ω' ok' xs cs
  | [], _, h => h
  | _ :: _, _, ⟨vs, rest, h, h1, h2⟩ => ⟨vs, rest, h, hf h1, hf.all h2⟩
theorem SrcR.flat {d : Kd α} (hf : d.Flat) {ω : World} {ok ok' : Nat → Prop} {v : Value} {xs : List α} {tx : Nat} (h : SrcR T tx d ω ok v xs) : SrcR T tx d ω ok' v xs := by
  obtain ⟨news, h1, h2⟩ := h
  exact ⟨news, h1, hf.all h2⟩
theorem flat_str : Kd.str.Flat := fun h => h
theorem flat_int : Kd.int.Flat := fun h => h
theorem flat_byte : Kd.byte.Flat := fun h => h
theorem flat_bool : Kd.bool.Flat := fun h => h
theorem SrcR.of_new {d : Kd α} {ω ω' : World} {ok : Nat → Prop} {b n e tx e' : Nat} {cs : List Value} {xs : List α} (hd : (T tx).d = .slice e') (h : NewAt ω ω' b (.cells cs.toArray e)) (ha : d.all ω ok xs cs) (hn : n = xs.length) : SrcR T tx d ω' (fun k => ok k ∧ k < ω.heap.size) (.slice (some ⟨b, 0, none⟩) n n) xs := by
  subst hn
  refine ⟨cs, .inl ⟨e', hd, .inr ⟨_, _, rfl, d.all_len ha, fun i v hv => ?_, d.all_one ha⟩⟩, d.all_move (fun j hj _ => h.ext.blk j hj.2) (d.all_lt ha)⟩
  rw [Addr.add_lit, Nat.zero_add]
  exact cell_box h.at_ hv
theorem SrcR.bytes {ω : World} {ok : Nat → Prop} {tx : Nat} {s : ByteArray} (hd : (T tx).d = .str) : SrcR T tx Kd.byte ω ok (.string s) s.data.toList := by
  refine ⟨byteCells s, .inr ⟨hd, rfl, s, rfl, by simp, rfl⟩, ?_⟩
  unfold byteCells
  generalize s.data.toList = l
  induction l with
  | nil => rfl
  | cons x l ih => exact ⟨[_], _, rfl, rfl, ih⟩
/-- An append to a row of one's own, of what reads. -/
theorem opx_app (hT : TabOk P T) {ρ : Operand → Value} {o : Oper} {s x : Operand} {t tx e : Nat} (ho : o.op = .call { callee := .builtin .append, args := #[s, x], argTypes := #[t, tx] }) (hd : (T t).d = .slice e) (hbad : ∀ (_ : (T e).d = .bad), False)
    (d : Kd α) (hsz : (T e).size = d.sz) (hz : (T e).zero.length = (T e).size) (hb : Nat.ble (T e).bytes 128 = true) {ω : World} {Q : Value → World → Prop} {lo : Nat} {ok : Nat → Prop} {v y : Value} {xs ys : List α} (hs : ρ s = v) (hx : ρ x = y)
    (hown : Own d e ω lo ok v xs) (hlo : lo ≤ ω.heap.size) (hsrc : SrcR T tx d ω (fun k => ok k ∧ v.ownBlock ≠ some k) y ys) (hl : xs.length + ys.length ≤ lim)
    (h : ∀ v' ω', Own d e ω' lo ok v' (xs ++ ys) → Ch (fun k => v.ownBlock = some k) ω ω' → (v'.ownBlock = v.ownBlock ∨ ∃ k, v'.ownBlock = some k ∧ ω.heap.size ≤ k) → Q v' ω') : OpX P ρ o ω Q := by
  obtain ⟨cs, h1, h2⟩ := hown
  obtain ⟨news, hsx, hall⟩ := hsrc
  have hb' := Nat.le_of_ble_eq_true hb
  have hm : (xs.length + ys.length) * (T e).bytes ≤ lim * 128 := Nat.mul_le_mul hl hb'
  refine opx_append_own hT ho hd hbad hs hx hz (by rw [hsz]; exact h1) hlo (by rw [hsz]; exact hsx) (by simp only [Go.X.lim] at hl; simp only [maxLen]; omega) (by simp only [Go.X.lim] at hm; omega) fun v' ω' g1 g2 g3 _ => h v' ω' ?_ g2 g3
  rw [hsz] at g1
  have hal := d.all_move (ω' := ω') (fun j hj hlt => g2.blk j hlt hj.1.2) (d.all_lt (d.all_append h2 hall))
  refine ⟨_, by rw [List.length_append]; exact g1, d.all_mono (fun j hj => ⟨hj.1.1, fun e => ?_⟩) hal⟩
  rcases g3 with g3 | ⟨k, g3, g4⟩
  · exact hj.1.2 (by rw [← g3]; exact e)
  · rw [g3] at e; cases e; omega
end Go.X
namespace Go.X
variable {α : Type}
/-- The place of the first one. -/
def idxI (p : α → Bool) (xs : List α) : Int := match xs.findIdx? p with | some i => i | none => -1
theorem idxI_none {p : α → Bool} {xs : List α} (h : xs.any p = false) : idxI p xs = -1 := by
  have : xs.findIdx? p = none := by
    rw [List.findIdx?_eq_none_iff]
    intro x hx
    rw [List.any_eq_false] at h
    simpa using h x hx
  simp [idxI, this]
theorem idxI_found {p : α → Bool} {xs : List α} {i : Nat} (hi : i < xs.length) (h : (xs.take i).any p = false) (hp : p xs[i] = true) : idxI p xs = i := by
  have : xs.findIdx? p = some i := by
    rw [List.findIdx?_eq_some_iff_getElem]
    refine ⟨hi, hp, fun j hj => ?_⟩
    rw [List.any_eq_false] at h
    exact h _ (List.mem_take_iff_getElem.2 ⟨j, by omega, rfl⟩)
  simp [idxI, this]
theorem idxI_ge {p : α → Bool} {xs : List α} (h : 0 ≤ idxI p xs) : xs.any p = true := by
  cases ha : xs.any p
  · rw [idxI_none ha] at h; omega
  · rfl
theorem idxI_lt {p : α → Bool} {xs : List α} (h : idxI p xs < 0) : xs.any p = false := by
  unfold idxI at h
  split at h
  · omega
  · rename_i hn
    rw [List.findIdx?_eq_none_iff] at hn
    rw [List.any_eq_false]
    intro x hx
    simp [hn x hx]
end Go.X
namespace Go.X
open Go.RowKit
theorem store_ok {ω : World} {b off e : Nat} {cs : Array Value} {vs : List Value} (h : ω.heap[b]? = some (.cells cs e (0, 0))) (hl : off + vs.length ≤ cs.size) (h1 : ∀ u ∈ vs, one u = true) :
    ∀ (i : Nat) u, vs[i]? = some u → one u = true ∧ (∃ old, ω.cell? ((⟨b, off, none⟩ : Addr).add i) = some old) ∧ ω.frozen? ((⟨b, off, none⟩ : Addr).add i) = false := by
  intro i u hu
  have hi : i < vs.length := (List.getElem?_eq_some_iff.1 hu).1
  refine ⟨h1 u (List.mem_of_getElem? hu), ⟨cs[off + i]'(by omega), ?_⟩, ?_⟩
  · rw [Addr.add_lit]
    simp [World.cell?, h]
  · rw [Addr.add_lit]
    simp [World.frozen?, h]
theorem stores_ch (ω : World) (b off : Nat) (vs : List Value) : Ch (fun k => k = b) ω (stores ω ⟨b, off, none⟩ 0 vs) :=
  ⟨(same_stores ω _ vs 0).1, (same_stores ω _ vs 0).2.1, (same_stores ω _ vs 0).2.2, by rw [size_stores]; exact Nat.le_refl _, fun j _ hj => heap_stores ω _ vs 0 j hj⟩
theorem stores_at_box {ω : World} {b off e : Nat} {cs : List Value} {vs : List Value} (h : ω.heap[b]? = some (.cells cs.toArray e (0, 0))) : (stores ω ⟨b, off, none⟩ 0 vs).heap[b]? = some (.cells (putCells cs off vs).toArray e (0, 0)) :=
  stores_box ω b e vs cs off 0 h
theorem NewAt.stores {ω ω' : World} {b off e : Nat} {cs : List Value} {vs : List Value} (h : NewAt ω ω' b (.cells cs.toArray e)) : NewAt ω (Go.X.stores ω' ⟨b, off, none⟩ 0 vs) b (.cells (putCells cs off vs).toArray e) :=
  ⟨h.ext.ch_trans (stores_ch ω' b off vs) fun _ hj => hj ▸ h.fresh, h.fresh, stores_at_box h.at_⟩
theorem NewAt.store_ok {ω ω' : World} {b off e : Nat} {cs : List Value} {vs : List Value} (h : NewAt ω ω' b (.cells cs.toArray e)) (hl : off + vs.length ≤ cs.length) (h1 : ∀ u ∈ vs, one u = true) :
    ∀ (i : Nat) u, vs[i]? = some u → one u = true ∧ (∃ old, ω'.cell? ((⟨b, off, none⟩ : Addr).add i) = some old) ∧ ω'.frozen? ((⟨b, off, none⟩ : Addr).add i) = false := Go.X.store_ok h.at_ (by simpa using hl) h1
theorem NewAt.cell {ω ω' : World} {b e : Nat} {cs : List Value} (h : NewAt ω ω' b (.cells cs.toArray e)) {o : Nat} {v : Value} (hv : cs[o]? = some v) : ω'.cell? ⟨b, o, none⟩ = some v := cell_box h.at_ hv
theorem Ext.cell {ω ω' : World} (h : Ext ω ω') {a : Addr} {v : Value} (hc : ω.cell? a = some v) : ω'.cell? a = some v := by
  rw [World.cell?_of_block (h.blk _ (lt_of_cell hc))]; exact hc
theorem Ch.cell {F : Nat → Prop} {ω ω' : World} (h : Ch F ω ω') {a : Addr} {v : Value} (hc : ω.cell? a = some v) (hf : ¬ F a.block) : ω'.cell? a = some v := by
  rw [World.cell?_of_block (h.blk _ (lt_of_cell hc) hf)]; exact hc
theorem Ext.get {ω ω' : World} (h : Ext ω ω') {b : Nat} {o : Obj} (hc : ω.heap[b]? = some o) : ω'.heap[b]? = some o := by
  rw [h.blk _ (lt_of_get hc)]; exact hc
theorem Ch.get {F : Nat → Prop} {ω ω' : World} (h : Ch F ω ω') {b : Nat} {o : Obj} (hc : ω.heap[b]? = some o) (hf : ¬ F b) : ω'.heap[b]? = some o := by
  rw [h.blk _ (lt_of_get hc) hf]; exact hc
end Go.X
namespace Go.X
open Go.RowKit
variable {P : Program} {T : Tab}
theorem alloc_view {ω W : World} (hS : Sees ω W) (o : Obj) : NewAt ω (view ω W (W.alloc o)) W.heap.size o :=
  ⟨(view_ch (F := fun _ => False) (W' := W.alloc o) hS rfl rfl rfl (by simp) fun _ hj _ => heap_alloc_old W o hj).ext fun _ _ h => h, hS.size, by rw [view_get (by omega)]; exact heap_alloc_new W o⟩
theorem opx_makeMap {ρ : Operand → Value} {o : Oper} {t : Nat} (ho : o.op = .makeMap t none) {ω : World} {Q : Value → World → Prop} (h : ∀ b ω', NewAt ω ω' b (.map #[] 0) → Q (.map (some b)) ω') : OpX P ρ o ω Q := by
  refine OpX.of fun W hS => ⟨_, W.alloc (.map #[] 0), ?_, by simp, fun j hj _ => heap_alloc_old W _ hj, h _ _ (alloc_view hS _)⟩
  unfold execOp
  simp only [ho, Option.map_none]
  simp [Instr.makeMap]
/-- All footprints. -/
def Any : Nat → Prop := fun _ => True
theorem Row.newT {α : Type} {d : Kd α} {e : Nat} {ω ω' : World} {b n : Nat} {cs : List Value} {xs : List α} (h : NewAt ω ω' b (.cells cs.toArray e)) (hd : d.all ω Any xs cs) (hn : n = xs.length) (hl : Nat.ble n 1099511627776 = true) : Row d ω' Any (.slice (some ⟨b, 0, none⟩) n n) xs := (Row.new h hd hn (by subst hn; exact Nat.le_of_ble_eq_true hl)).mono fun _ _ => trivial
end Go.X
namespace Go.X
open Go.RowKit
variable {P : Program} {α : Type}
/-- What the row reads, reads. -/
def Opens (d : Kd α) (P : Program) (t : Nat) : Prop := ∀ {H : Type} {enc : TypeId × Value → H} {W : World} {held : Bool} {fuel : Nat} {cs : List Value} {x : DataW H × List MemPlace}, DataW.trod enc P W 0 (fun _ => true) held fuel t cs = some x → ∃ a, d.K W Any a cs
theorem opens_str {t : Nat} (ht : P.underlying t = some .string) : Opens Kd.str P t := fun h => by
  obtain ⟨s, rfl, _⟩ := DataW.trod_string ht h
  exact ⟨s, rfl⟩
theorem opens_bool {t : Nat} (ht : P.underlying t = some .bool) : Opens Kd.bool P t := fun h => by
  obtain ⟨s, rfl, _⟩ := DataW.trod_bool ht h
  exact ⟨s, rfl⟩
theorem opens_int {t : Nat} (ht : P.underlying t = some (.int .i64)) : Opens Kd.int P t := fun h => by
  obtain ⟨n, rfl, _, hw⟩ := DataW.trod_int ht h
  refine ⟨n, rfl, ?_⟩
  simpa [Lit.wf, IntKind.wrap, In64, IntKind.min, IntKind.max, IntKind.bits, IntKind.signed] using hw
theorem gather (d : Kd α) {ω : World} {ok : Nat → Prop} {b off : Nat} : ∀ (n : Nat), (∀ i, i < n → ∃ x vs, d.K ω ok x vs ∧ CellsAt ω ⟨b, off + i * d.sz, none⟩ vs) → ∃ xs cs, xs.length = n ∧ d.all ω ok xs cs ∧ CellsAt ω ⟨b, off, none⟩ cs
  | 0, _ => ⟨[], [], rfl, rfl, fun i v hv => by simp at hv⟩
  | n + 1, h => by
    obtain ⟨xs, cs, h1, h2, h3⟩ := gather d n fun i hi => h i (by omega)
    obtain ⟨x, vs, g1, g2⟩ := h n (by omega)
    refine ⟨xs ++ [x], cs ++ vs, by simp [h1], d.all_append h2 (d.all_one_of g1), fun i v hv => ?_⟩
    have hl := d.all_len h2
    by_cases hi : i < cs.length
    · rw [List.getElem?_append_left hi] at hv
      exact h3 i v hv
    · rw [List.getElem?_append_right (by omega)] at hv
      have := g2 _ v hv
      rw [← add_add, ← h1, ← hl] at this
      rwa [show cs.length + (i - cs.length) = i by omega] at this
theorem opens_slice {d : Kd α} (hd : 0 < d.sz) {t e : Nat} (ht : P.underlying t = some (.slice e)) (hs : P.cellsOf e = d.sz) (he : Opens d P e) : Opens (d.row hd) P t := fun {H enc W held fuel cs x} h => by
  rcases DataW.trod_slice ht h with ⟨rfl, _⟩ | ⟨a, len, cap, elems, rest, n, _, rfl, _, _, hl, hm, hlen, hel, hsp, _⟩
  · exact ⟨[], _, rfl, Row.nil _ _ _⟩
  · obtain ⟨hrl, hr⟩ := hsp rfl
    have some_of : ∀ i, i < cap → ∃ cs' y, W.cells? 0 (a.add (i * d.sz)) d.sz = some cs' ∧ DataW.trod enc P W 0 (fun _ => true) held n e cs' = some y := by
      intro i hi
      rw [hs] at hel hr
      have : ((W.cells? 0 (a.add (i * d.sz)) d.sz).bind (DataW.trod enc P W 0 (fun _ => true) held n e)).isSome = true := by
        by_cases h1 : i < len
        · rw [hel i h1]; simp; omega
        · have h2 := hr (i - len) (by omega)
          rw [show len + (i - len) = i by omega] at h2
          rw [h2]; simp; omega
      cases hc : W.cells? 0 (a.add (i * d.sz)) d.sz with
      | none => rw [hc] at this; cases this
      | some cs' =>
        rw [hc] at this
        obtain ⟨y, hy⟩ := Option.isSome_iff_exists.1 this
        exact ⟨cs', y, rfl, hy⟩
    have spot : 0 < cap → a.spot = none := fun h0 => by
      obtain ⟨cs', y, h1, _⟩ := some_of 0 h0
      have h2 := (World.cells?_some h1).2.2 0 hd
      obtain ⟨v, hv⟩ : ∃ v, cs'[0]? = some v := ⟨cs'[0]'(by rw [(World.cells?_some h1).2.1]; exact hd), by simp⟩
      rw [hv] at h2
      have e0 : (a.add (0 * d.sz)).add 0 = a := by simp [Addr.add]
      rw [e0] at h2
      unfold World.cell? at h2
      split at h2
      · cases hsp : a.spot with
        | none => rfl
        | some s => rw [hsp] at h2; simp at h2
      · cases h2
    by_cases h0 : 0 < cap
    · have hsn := spot h0
      obtain ⟨b, off, sp⟩ := a
      simp only at hsn
      subst hsn
      obtain ⟨xs, cs', g1, g2, g3⟩ := gather d (ω := W) (ok := Any) (b := b) (off := off) len fun i hi => by
        obtain ⟨cs', y, h1, h2⟩ := some_of i (by omega)
        obtain ⟨x, hx⟩ := he h2
        refine ⟨x, cs', hx, fun j v hv => ?_⟩
        have h3 := World.cells?_some h1
        have hj : j < d.sz := by rw [← h3.2.1]; exact (List.getElem?_eq_some_iff.1 hv).1
        have h4 := h3.2.2 j hj
        rw [hv, Addr.add_lit] at h4
        exact h4
      subst g1
      exact ⟨xs, _, rfl, _, cap, cs', rfl, hl, by simpa [maxLen] using hm, (fun e => by cases e), (fun a e _ => by cases e; rfl), g2, fun _ => ⟨b, off, rfl, trivial, g3⟩⟩
    · have : cap = 0 := by omega
      subst this
      have : len = 0 := by omega
      subst this
      exact ⟨[], _, rfl, _, 0, [], rfl, Nat.zero_le _, by omega, (fun e => by cases e), (fun a e h => by omega), rfl, fun h => (h rfl).elim⟩
end Go.X
namespace Go.X
open Go.RowKit
theorem below_of {W ω' W' : World} (hS : Sees ω' W') (hK : Keeps W W ω' W') (hE : Ext W ω') : Below W.heap.size W W' := by
  refine ⟨hS.os.trans hE.os, hS.tape.trans hE.tape, hS.output.trans hE.output, hK.size, fun k hk => ?_⟩
  by_cases hh : Hid W k
  · exact (hK.hid k hk hh).2
  · have h1 := hE.blk k hk
    obtain ⟨o, ho⟩ : ∃ o, W.heap[k]? = some o := ⟨_, Array.getElem?_eq_getElem hk⟩
    rw [ho] at h1 ⊢
    refine hS.blk k o h1 ?_
    cases hx : isHole o
    · rfl
    · exact (hh fun o' ho' => by rw [ho] at ho'; cases ho'; exact hx).elim
/-- A contract, as the kit's walk has it. -/
theorem CallX.below {P : Program} {f : FuncId} {args : List Value} {W : World} {r : Value} (h : CallX P f args W fun v ω' => Ext W ω' ∧ v = r) : Calls P f args.toArray W fun e W' => e = .returned r ∧ Below W.heap.size W W' :=
  (h.2 W (Sees.refl W)).mono fun _ _ ⟨_, _, a, b, c, d, e⟩ => ⟨by rw [a, e], below_of b c d⟩
end Go.X
