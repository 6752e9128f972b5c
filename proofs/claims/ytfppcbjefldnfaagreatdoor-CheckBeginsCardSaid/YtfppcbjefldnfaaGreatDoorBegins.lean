/- Beginnings of one row agree, and the longest of them is told: becketlaw21.CheckBegins returns true, and its arguments read as they did. Conditions: none beyond the row's own, whatever the input. -/
import Derived.Test.YtfppcbjefldnfaaGreatDoorTab
import Derived.Test.YtfppcbjefldnfaaGreatDoorRd
import Derived.Test.YtfppcbjefldnfaaGreatDoorCards
import Derived.Test.YtfppcbjefldnfaaGreatDoorTie
import Derived.ProofKit
import Derived.ChangeVars
import Derived.LaidLaws
import Derived.SevenTiedAt
import Derived.MakeChecks
import Derived.Lay
import Derived.Deep.DeepHandedRow
namespace Go.Proofs.YtfppcbjefldnfaaGreatDoor
open Go Go.X Go.Proofs
abbrev strs : Kd (List ByteArray) := Kd.str.row (by decide)
theorem clone_str_c {ω : World} {ok : Nat → Prop} {v : Value} {xs : List _} (h : Row Kd.str ω ok v xs) (hl : xs.length ≤ lim) : CallX Tryz.prog 19 [v] ω fun r ω' => Ext ω ω' ∧ Row Kd.str ω' (fun k =>  ω.heap.size ≤ k) r xs := by
  obtain ⟨A, c, rfl, hA⟩ := h.open
  refine callX_of tab_ok mixed Tryz.func19 (by kernel_rfl) (fun _ => false) ?_
  cases A with
  | none =>
    have h0 := hA.nil rfl
    have : xs = [] := List.eq_nil_of_length_eq_zero (by have := hA.le; omega)
    subst this
    exact ⟨Ext.refl _, Row.nil _ _ _⟩
  | some a =>
    intro b ω' hN
    have hE := hN.ext
    refine ⟨rfl, opx_app tab_ok rfl rfl (fun h => by cases h) Kd.str rfl rfl rfl (lo := ω.heap.size) (ok := fun k => False) (ys := xs) rfl rfl (Own.new (xs := []) hN rfl rfl (Nat.zero_le _)) hE.size ?_ (by simpa using hl) ?_⟩
    · exact ((hA.row.ext (by decide) hE).srcR rfl).flat flat_str
    · intro r ω'' hO hC _
      refine ⟨hE.ch_trans hC fun j hj => ?_, ?_⟩
      · cases hj; exact hN.fresh
      · exact hO.row.mono fun j hj => hj.elim (fun h => h.elim) id

theorem idx_strs_c {ω : World} {ok : Nat → Prop} {v : Value} {xs : List (List ByteArray)} {g : FuncId} {fi ca : Array Value} (h : Row (strs) ω ok v xs) (p : List ByteArray → Bool)
    (hf : ∀ ω1 x u, Ext ω ω1 → x ∈ xs → Row Kd.str ω1 ok u x → CallX Tryz.prog g (fi.toList ++ [u] ++ ca.toList) ω1 fun r ω2 => Ext ω1 ω2 ∧ r = .bool (p x)) :
    CallX Tryz.prog 45 [v, .func (.func g) fi ca] ω fun r ω' => Ext ω ω' ∧ r = .int .i64 (idxI p xs) := by
  obtain ⟨A, c, rfl, hA⟩ := h.open
  have hlim := hA.lim
  refine callX_of tab_ok mixed Tryz.func45 (by kernel_rfl) (fun _ => false) ?_
  refine ⟨⟨[0, 1, 7], [8], [], fun n vs _ ω' => ∃ i : Nat, vs = [.int .i64 i] ∧ n + i = xs.length ∧ Ext ω ω' ∧ (xs.take i).any p = false⟩, xs.length, by kernel_rfl, ⟨_, rfl, 0, rfl, rfl, Ext.refl _, by simp⟩, ?_⟩
  rintro n junk _ ms ω' ⟨i, rfl, hn, hE, hp⟩
  refine ⟨fun hlt => ?_, fun hge => ?_⟩
  · have hi : i < xs.length := by omega
    have hg : xs[i]? = some xs[i] := by simp [hi]
    have hA1 := hA.ext (by decide) hE
    obtain ⟨b, off, u, rfl, hc, hu⟩ := hA1.inner hi
    refine ⟨⟨by omega, by omega⟩, _, hc, (hf ω' xs[i] _ hE (List.getElem_mem hi) hu).mono ?_⟩
    rintro _ ω2 ⟨hE2, rfl⟩
    have hs : (xs.take (i + 1)).any p = p xs[i] := by rw [List.take_succ_eq_append_getElem hi, List.any_append, hp]; simp
    cases hc : p xs[i] with
    | true => exact ⟨hE.trans hE2, congrArg (Value.int .i64) (idxI_found hi hp hc).symm⟩
    | false => exact ⟨⟨by omega, by omega⟩, ⟨n - 1, by omega, _, rfl, i + 1, rfl, by omega, hE.trans hE2, by rw [hs, hc]⟩, trivial⟩
  · have : xs.take i = xs := List.take_of_length_le (by omega)
    rw [this] at hp
    exact ⟨hE, congrArg (Value.int .i64) (idxI_none hp).symm⟩
theorem idx_strsc_c {ω : World} {ok : Nat → Prop} {v : Value} {xs : List (List ByteArray)} {g : FuncId} {fi ca : Array Value} (h : Row (strs) ω ok v xs) (p : List ByteArray → Bool)
    (hf : ∀ ω1 x u, Ext ω ω1 → x ∈ xs → Row Kd.str ω1 ok u x → CallX Tryz.prog g (fi.toList ++ [u] ++ ca.toList) ω1 fun r ω2 => Ext ω1 ω2 ∧ r = .bool (p x)) :
    CallX Tryz.prog 20 [v, .func (.func g) fi ca] ω fun r ω' => Ext ω ω' ∧ r = .bool (xs.any p) := by
  refine callX_of tab_ok mixed Tryz.func20 (by kernel_rfl) (fun _ => false) ?_
  refine (idx_strs_c h p hf).mono ?_
  rintro _ ω1 ⟨hE, rfl⟩
  refine ⟨fun h0 => ⟨hE, congrArg Value.bool (idxI_ge h0).symm⟩, fun h0 => ⟨hE, congrArg Value.bool (idxI_lt h0).symm⟩⟩

end Go.Proofs.YtfppcbjefldnfaaGreatDoor
namespace Go.Proofs.YtfppcbjefldnfaaGreatDoor
open Go Go.X Go.Proofs
theorem equal_c {ω : World} {ok ok' : Nat → Prop} {va vb : Value} {xs ys : List ByteArray} (ha : Row Kd.str ω ok va xs) (hb : Row Kd.str ω ok' vb ys) : CallX Tryz.prog 46 [va, vb] ω fun v ω' => Ext ω ω' ∧ v = .bool (decide (xs = ys)) := by
  obtain ⟨A, ca, rfl, hA⟩ := ha.open
  obtain ⟨B, cb, rfl, hB⟩ := hb.open
  have hlim := hA.lim
  refine callX_of tab_ok mixed Tryz.func46 (by kernel_rfl) (fun _ => false) ?_
  refine ⟨fun h => ⟨Ext.refl _, ?_⟩, fun h => ?_⟩
  · have : xs ≠ ys := fun e => h (by rw [e])
    exact (by simp [this] : Value.bool false = .bool (decide (xs = ys)))
  · refine ⟨⟨[0, 1, 11, 12], [13], [], fun n vs _ ω' => ∃ i : Nat, vs = [.int .i64 i] ∧ n + i = xs.length ∧ ω' = ω ∧ xs.take i = ys.take i⟩, xs.length, by kernel_rfl, ⟨_, rfl, 0, rfl, rfl, rfl, by simp⟩, ?_⟩
    rintro n junk _ ms _ ⟨i, rfl, hn, rfl, hi⟩
    refine ⟨fun hlt => ?_, fun hge => ?_⟩
    · have hi1 : i < xs.length := by omega
      have hi2 : i < ys.length := by omega
      obtain ⟨b, off, rfl, hc⟩ := hA.str hi1
      obtain ⟨b', off', rfl, hc'⟩ := hB.str hi2
      refine ⟨⟨by omega, by omega⟩, _, hc, ⟨by omega, by omega⟩, _, hc', fun hne => ?_, fun he => ?_⟩
      · have : xs ≠ ys := fun e => hne (by simp [e])
        exact ⟨Ext.refl _, (by simp [this] : Value.bool false = .bool (decide (xs = ys)))⟩
      · refine ⟨⟨by omega, by omega⟩, ⟨n - 1, by omega, _, rfl, i + 1, rfl, by omega, rfl, ?_⟩, trivial⟩
        rw [List.take_succ_eq_append_getElem hi1, List.take_succ_eq_append_getElem hi2, hi, he]
    · have e1 : xs = ys := by
        rw [List.take_of_length_le (by omega), List.take_of_length_le (by omega)] at hi
        exact hi
      exact ⟨Ext.refl _, (by simp [e1] : Value.bool true = .bool (decide (xs = ys)))⟩
theorem same_c {ω : World} {ok ok' : Nat → Prop} {va vb : Value} {xs ys : List ByteArray} (ha : Row Kd.str ω ok va xs) (hb : Row Kd.str ω ok' vb ys) : CallX Tryz.prog 11 [va, vb] ω fun v ω' => Ext ω ω' ∧ v = .bool (decide (xs = ys)) := by
  obtain ⟨A, ca, rfl, hA⟩ := ha.open
  obtain ⟨B, cb, rfl, hB⟩ := hb.open
  have hlim := hA.lim
  refine callX_of tab_ok mixed Tryz.func11 (by kernel_rfl) (fun _ => false) ?_
  refine ⟨fun h => ⟨Ext.refl _, ?_⟩, fun h => ?_⟩
  · have : xs ≠ ys := fun e => h (by rw [e])
    exact (by simp [this] : Value.bool false = .bool (decide (xs = ys)))
  · refine ⟨⟨[0, 1], [5], [], fun n vs _ ω' => ∃ i : Nat, vs = [.int .i64 i] ∧ n + i = xs.length ∧ ω' = ω ∧ xs.take i = ys.take i⟩, xs.length, by kernel_rfl, ⟨_, rfl, 0, rfl, rfl, rfl, by simp⟩, ?_⟩
    rintro n junk _ ms _ ⟨i, rfl, hn, rfl, hi⟩
    refine ⟨fun hlt => ?_, fun hge => ?_⟩
    · have hi1 : i < xs.length := by omega
      have hi2 : i < ys.length := by omega
      obtain ⟨b, off, rfl, hc⟩ := hA.str hi1
      obtain ⟨b', off', rfl, hc'⟩ := hB.str hi2
      refine ⟨⟨by omega, by omega⟩, _, hc, ⟨by omega, by omega⟩, _, hc', fun hne => ?_, fun he => ?_⟩
      · have : xs ≠ ys := fun e => hne (by simp [e])
        exact ⟨Ext.refl _, (by simp [this] : Value.bool false = .bool (decide (xs = ys)))⟩
      · refine ⟨⟨by omega, by omega⟩, ⟨n - 1, by omega, _, rfl, i + 1, rfl, by omega, rfl, ?_⟩, trivial⟩
        rw [List.take_succ_eq_append_getElem hi1, List.take_succ_eq_append_getElem hi2, hi, he]
    · have e1 : xs = ys := by
        rw [List.take_of_length_le (by omega), List.take_of_length_le (by omega)] at hi
        exact hi
      exact ⟨Ext.refl _, (by simp [e1] : Value.bool true = .bool (decide (xs = ys)))⟩
/-- Does the shorter one begin the other? -/
def beginsS (a b : List ByteArray) : Bool := decide (a.take (min a.length b.length) = b.take (min a.length b.length))
theorem begins_c {ω : World} {ok ok' : Nat → Prop} {va vb : Value} {xs ys : List ByteArray} (ha : Row Kd.str ω ok va xs) (hb : Row Kd.str ω ok' vb ys) : CallX Tryz.prog 22 [va, vb] ω fun v ω' => Ext ω ω' ∧ v = .bool (beginsS xs ys) := by
  obtain ⟨A, ca, rfl, hA⟩ := ha.open
  obtain ⟨B, cb, rfl, hB⟩ := hb.open
  have h1 := hA.le
  have h2 := hB.le
  refine callX_of tab_ok mixed Tryz.func22 (by kernel_rfl) (fun _ => false) ?_
  refine ⟨fun h => ?_, fun h => ?_⟩
  · have e : min xs.length ys.length = xs.length := by omega
    refine ⟨⟨by omega, by omega⟩, ⟨by omega, by omega⟩, (equal_c (hA.take (n := xs.length) (by omega)) (hB.take (n := xs.length) (by omega))).mono ?_⟩
    rintro _ ω' ⟨hE, rfl⟩
    exact ⟨trivial, hE, by unfold beginsS; rw [e]; rfl⟩
  · have e : min xs.length ys.length = ys.length := by omega
    refine ⟨⟨by omega, by omega⟩, ⟨by omega, by omega⟩, (equal_c (hA.take (n := ys.length) (by omega)) (hB.take (n := ys.length) (by omega))).mono ?_⟩
    rintro _ ω' ⟨hE, rfl⟩
    exact ⟨trivial, hE, by unfold beginsS; rw [e]; rfl⟩
/-- The first row that doesn't agree with one ahead of it. -/
def oddAt (l : List (List ByteArray)) (i : Nat) : Bool := (l.take i).any fun b => !beginsS (l.getD i []) b
def agreeS (l : List (List ByteArray)) : Int × Bool := match (List.range l.length).find? (oddAt l) with | some i => ((i : Int), false) | none => (-1, true)
theorem agree1_c {ω : World} {ok ok' : Nat → Prop} {va vb : Value} {xs ys : List ByteArray} {bx : Nat} (hc : ω.cell? ⟨bx, 0, none⟩ = some va) (ha : Row Kd.str ω ok va xs) (hb : Row Kd.str ω ok' vb ys) :
    CallX Tryz.prog 21 [vb, .pointer (some ⟨bx, 0, none⟩)] ω fun v ω' => Ext ω ω' ∧ v = .bool (!beginsS xs ys) := by
  refine callX_of tab_ok mixed Tryz.func21 (by kernel_rfl) (fun _ => false) ?_
  refine ⟨_, hc, (begins_c ha hb).mono ?_⟩
  rintro _ ω' ⟨hE, rfl⟩
  cases beginsS xs ys <;> exact ⟨hE, rfl⟩
theorem agree_c {ω : World} {ok : Nat → Prop} {v : Value} {l : List (List ByteArray)} (h : Row strs ω ok v l) : CallX Tryz.prog 9 [v] ω fun v ω' => Ext ω ω' ∧ v = .tuple #[.int .i64 (agreeS l).1, .bool (agreeS l).2] := by
  obtain ⟨A, c, rfl, hA⟩ := h.open
  have hlim := hA.lim
  have hle := hA.le
  refine callX_of tab_ok mixed Tryz.func9 (by kernel_rfl) (fun _ => false) ?_
  refine ⟨⟨[0, 6, 7], [8], [], fun n vs _ ω' => ∃ i : Nat, vs = [.int .i64 i] ∧ n + i = l.length ∧ Ext ω ω' ∧ (List.range i).find? (oddAt l) = none⟩, l.length, by kernel_rfl, ⟨_, rfl, 0, rfl, rfl, Ext.refl _, by simp⟩, ?_⟩
  rintro n junk _ ms ω' ⟨i, rfl, hn, hE, hp⟩
  refine ⟨fun hlt => ?_, fun hge => ?_⟩
  · have hi : i < l.length := by omega
    have hA1 := hA.ext (by decide) hE
    obtain ⟨b, off, u, rfl, hc, hu⟩ := hA1.inner hi
    obtain ⟨A', c', rfl, hA'⟩ := hu.open
    refine ⟨⟨by omega, by omega⟩, _, hc, fun bx ω1 hN => ⟨rfl, hN.store_ok (Nat.le_refl 1) (by simp [one, Value.cells]), ⟨by omega, by omega⟩, ?_⟩⟩
    have hN2 := hN.stores (off := 0) (vs := (Value.slice A' l[i].length c').cells.toList)
    have hc2 : (stores ω1 ⟨bx, 0, none⟩ 0 (Value.slice A' l[i].length c').cells.toList).cell? ⟨bx, 0, none⟩ = some (.slice A' l[i].length c') := hN2.cell rfl
    refine (idx_strsc_c (((hA1.ext (by decide) hN2.ext).take (n := i) (by omega))) (fun b => !beginsS l[i] b) fun ω2 x u hE2 hx hu => ?_).mono ?_
    · exact agree1_c (hE2.cell hc2) (hA'.row.ext (by decide) (hN2.ext.trans hE2)) hu
    · rintro _ ω3 ⟨hE3, rfl⟩
      have hE4 := hE.trans (hN2.ext.trans hE3)
      have e1 : oddAt l i = (l.take i).any fun b => !beginsS l[i] b := by simp [oddAt, hi]
      have e2 : (List.range (i + 1)).find? (oddAt l) = if oddAt l i then some i else none := by rw [List.range_succ, List.find?_append, hp]; simp [List.find?]; split <;> simp_all
      cases hany : (l.take i).any fun b => !beginsS l[i] b with
      | true =>
        have e3 : (List.range l.length).find? (oddAt l) = some i := by
          rw [List.find?_range_eq_some]
          exact ⟨by rw [e1]; exact hany, by simpa using hi, fun j hj => by simpa using List.find?_range_eq_none.1 hp j hj⟩
        refine ⟨hE4, ?_⟩
        unfold agreeS
        rw [e3]
        rfl
      | false => exact ⟨⟨by omega, by omega⟩, ⟨n - 1, by omega, _, rfl, i + 1, rfl, by omega, hE4, by rw [e2, e1, hany]; rfl⟩, trivial⟩
  · have : i = l.length := by omega
    subst this
    refine ⟨hE, ?_⟩
    unfold agreeS
    rw [hp]
    rfl
end Go.Proofs.YtfppcbjefldnfaaGreatDoor
namespace Go.Proofs.YtfppcbjefldnfaaGreatDoor
open Go Go.X Go.Proofs
/-- The longest row. -/
def longerS (out a : List ByteArray) : List ByteArray := if out.length < a.length then a else out
def longestS (l : List (List ByteArray)) : List ByteArray := l.foldl longerS []
theorem longest_c {ω : World} {ok : Nat → Prop} {v : Value} {l : List (List ByteArray)} (h : Row strs ω ok v l) (hl : (longestS l).length ≤ lim) : CallX Tryz.prog 8 [v] ω fun r ω' => Ext ω ω' ∧ Row Kd.str ω' (fun k => ω.heap.size ≤ k) r (longestS l) := by
  obtain ⟨A, c, rfl, hA⟩ := h.open
  have hlim := hA.lim
  have hle := hA.le
  refine callX_of tab_ok mixed Tryz.func8 (by kernel_rfl) (fun _ => false) ?_
  refine ⟨⟨[0, 6, 7], [8, 3], [], fun n vs _ ω' => ∃ (i : Nat) (u : Value), vs = [.int .i64 i, u] ∧ n + i = l.length ∧ ω' = ω ∧ Row Kd.str ω ok u (longestS (l.take i))⟩, l.length, by kernel_rfl, ⟨_, rfl, 0, _, rfl, rfl, rfl, Row.nil _ _ _⟩, ?_⟩
  rintro n junk _ ms _ ⟨i, u, rfl, hn, rfl, hu⟩
  refine ⟨fun hlt => ?_, fun hge => ?_⟩
  · have hi : i < l.length := by omega
    obtain ⟨b, off, w, rfl, hc, hw⟩ := hA.inner hi
    obtain ⟨A', c', rfl, hA'⟩ := hw.open
    obtain ⟨B, d, rfl, hB⟩ := hu.open
    have e : longestS (l.take (i + 1)) = longerS (longestS (l.take i)) l[i] := by
      unfold longestS
      rw [List.take_succ_eq_append_getElem hi, List.foldl_append]
      rfl
    refine ⟨⟨by omega, by omega⟩, _, hc, fun hlo => ?_, fun hhi => ?_⟩
    · refine ⟨⟨by omega, by omega⟩, ⟨n - 1, by omega, _, rfl, i + 1, _, rfl, by omega, rfl, ?_⟩, trivial⟩
      rw [e, longerS, if_pos (by omega)]
      exact hA'.row
    · refine ⟨⟨by omega, by omega⟩, ⟨n - 1, by omega, _, rfl, i + 1, _, rfl, by omega, rfl, ?_⟩, trivial⟩
      rw [e, longerS, if_neg (by omega)]
      exact hB.row
  · have : i = l.length := by omega
    subst this
    rw [List.take_length] at hu
    exact clone_str_c hu hl
def shortS (l : List (List ByteArray)) : Bool := decide (l.length ≤ 30) && l.all fun a => decide (a.length ≤ 100) && a.all fun s => decide (s.size ≤ 5000)
theorem short_c {ω : World} {ok : Nat → Prop} {v : Value} {l : List (List ByteArray)} (h : Row strs ω ok v l) : CallX Tryz.prog 7 [v] ω fun r ω' => Ext ω ω' ∧ r = .bool (shortS l) := by
  obtain ⟨A, c, rfl, hA⟩ := h.open
  have hlim := hA.lim
  have hle := hA.le
  refine callX_of tab_ok mixed Tryz.func7 (by kernel_rfl) (fun _ => false) ?_
  refine ⟨fun h0 => ⟨Ext.refl _, ?_⟩, fun h0 => ?_⟩
  · have : shortS l = false := by simp [shortS]; omega
    rw [this]; rfl
  · refine ⟨⟨[0], [3], [], fun n vs _ ω' => ∃ i : Nat, vs = [.int .i64 i] ∧ n + i = l.length ∧ ω' = ω ∧ ((l.take i).all fun a => decide (a.length ≤ 100) && a.all fun s => decide (s.size ≤ 5000)) = true⟩, l.length, by kernel_rfl, ⟨_, rfl, 0, rfl, rfl, rfl, by simp⟩, ?_⟩
    rintro n junk _ ms ω ⟨i, rfl, hn, rfl, hp⟩
    refine ⟨fun hlt => ?_, fun hge => ?_⟩
    · have hi : i < l.length := by omega
      obtain ⟨b, off, u, rfl, hc, hu⟩ := hA.inner hi
      obtain ⟨A', c', rfl, hA'⟩ := hu.open
      have hm : l[i] ∈ l := List.getElem_mem hi
      refine ⟨⟨by omega, by omega⟩, _, hc, fun h1 => ⟨Ext.refl _, ?_⟩, fun h1 => ?_⟩
      · have : shortS l = false := by
          simp only [shortS, Bool.and_eq_false_iff, List.all_eq_false]
          exact .inr ⟨_, hm, by simp; intro h; omega⟩
        rw [this]; rfl
      · refine ⟨⟨[0, 3], [4], [], fun n vs _ ω' => ∃ k : Nat, vs = [.int .i64 k] ∧ n + k = l[i].length ∧ ω' = ω ∧ ((l[i].take k).all fun s => decide (s.size ≤ 5000)) = true⟩, l[i].length, by kernel_rfl, ⟨_, rfl, 0, rfl, rfl, rfl, by simp⟩, ?_⟩
        rintro n' junk' _ ms' _ ⟨k, rfl, hn', rfl, hp'⟩
        refine ⟨⟨by omega, by omega⟩, _, hc, fun hlt' => ?_, fun hge' => ?_⟩
        · have hk : k < l[i].length := by omega
          obtain ⟨b', off', rfl, hc'⟩ := hA'.str hk
          refine ⟨⟨by omega, by omega⟩, _, hc, ⟨by omega, by omega⟩, _, hc', fun h2 => ⟨Ext.refl _, ?_⟩, fun h2 => ?_⟩
          · have : shortS l = false := by
              simp only [shortS, Bool.and_eq_false_iff, List.all_eq_false]
              refine .inr ⟨_, hm, ?_⟩
              simp only [Bool.and_eq_true, List.all_eq_true, not_and]
              intro _ h3
              have := h3 l[i][k] (List.getElem_mem hk)
              simp at this
              omega
            rw [this]; rfl
          · have hkl := hA'.lim
            refine ⟨⟨by omega, by omega⟩, ⟨n' - 1, by omega, _, rfl, k + 1, rfl, by omega, rfl, ?_⟩, trivial⟩
            rw [List.take_succ_eq_append_getElem hk, List.all_append, hp']
            simp
            omega
        · have hk : k = l[i].length := by omega
          subst hk
          rw [List.take_length] at hp'
          refine ⟨⟨by omega, by omega⟩, ⟨n - 1, by omega, _, rfl, i + 1, rfl, by omega, rfl, ?_⟩, trivial⟩
          rw [List.take_succ_eq_append_getElem hi, List.all_append, hp]
          simp only [List.all_cons, List.all_nil, hp', Bool.and_true, Bool.true_and, decide_eq_true_eq]
          omega
    · have : i = l.length := by omega
      subst this
      rw [List.take_length] at hp
      refine ⟨Ext.refl _, ?_⟩
      have : shortS l = true := by
        simp only [shortS, hp, Bool.and_true, decide_eq_true_eq]
        omega
      rw [this]; rfl
theorem catalogNew_c {ω : World} : CallX Tryz.prog 14 [] ω fun r ω' => ∃ b, r = .pointer (some ⟨b, 0, none⟩) ∧ NewAt ω ω' b (.cells #[.slice none 0 0] 77) := by
  refine callX_of tab_ok mixed Tryz.func14 (by kernel_rfl) (fun _ => false) ?_
  exact fun b ω' hN => ⟨b, rfl, hN⟩
end Go.Proofs.YtfppcbjefldnfaaGreatDoor
namespace Go.Proofs.YtfppcbjefldnfaaGreatDoor
open Go Go.X Go.Proofs
theorem execNew_c {ω : World} : CallX Tryz.prog 23 [] ω fun r ω' => ∃ b b' ω1, r = .pointer (some ⟨b', 0, none⟩) ∧ NewAt ω ω1 b (.cells #[.slice none 0 0] 77) ∧ NewAt ω1 ω' b' (.cells (.pointer (some ⟨b, 0, none⟩) :: (tab 104).zero.tail).toArray 104) := by
  refine callX_of tab_ok mixed Tryz.func23 (by kernel_rfl) (fun _ => false) ?_
  refine catalogNew_c.mono ?_
  rintro _ ω1 ⟨b, rfl, hN⟩
  refine ⟨⟨rfl, by decide⟩, fun b' ω2 hN2 => ⟨b, b', ω1, rfl, hN, hN2⟩⟩
theorem answersNil_c {ω : World} : CallX Tryz.prog 10 [.slice none 0 0, .slice none 0 0] ω fun r ω' => Ext ω ω' ∧ r = .tuple #[.int .i64 (-1), .bool true] := by
  refine callX_of tab_ok mixed Tryz.func10 (by kernel_rfl) (fun _ => false) ?_
  refine ⟨rfl, opx_makeMap rfl fun bm ω1 hN => execNew_c.mono ?_⟩
  rintro _ ω2 ⟨b, b', ω', rfl, hN1, hN2⟩
  have hE : Ext ω ω2 := hN.ext.trans (hN1.ext.trans hN2.ext)
  refine ⟨⟨[0, 1, 6, 7, 20, 21], [22], [], fun n vs _ ω' => vs = [.int .i64 0] ∧ Ext ω ω'⟩, 0, by kernel_rfl, ⟨_, rfl, rfl, hE⟩, ?_⟩
  rintro n junk _ ms ω3 ⟨rfl, hE3⟩
  refine ⟨fun h => by omega, fun _ => ?_⟩
  refine ⟨⟨[0, 1, 51, 52], [53], [], fun n vs _ ω' => vs = [.int .i64 0] ∧ Ext ω ω'⟩, 0, by kernel_rfl, ⟨_, rfl, rfl, hE3⟩, ?_⟩
  rintro n junk _ ms ω4 ⟨rfl, hE4⟩
  exact ⟨fun h => by omega, fun _ => ⟨hE4, rfl⟩⟩
theorem up21_c {ω : World} : CallX Tryz.prog 6 [] ω fun r ω' => Ext ω ω' ∧ r = .bool true := by
  refine callX_of tab_ok mixed Tryz.func6 (by kernel_rfl) (fun _ => false) ?_
  refine ⟨⟨rfl, by decide⟩, fun b1 ω1 h1 => ⟨⟨rfl, by decide⟩, ⟨rfl, by decide⟩, fun b2 ω2 h2 => ⟨⟨rfl, by decide⟩, ⟨rfl, by decide⟩, fun b3 ω3 h3 => ⟨⟨rfl, Nat.le_of_ble_eq_true rfl⟩, ⟨rfl, Nat.le_of_ble_eq_true rfl⟩, ⟨rfl, Nat.le_of_ble_eq_true rfl⟩, fun b4 ω4 h4 => ?_⟩⟩⟩⟩
  have r1 : Row Kd.str ω1 Any (.slice (some ⟨b1, 0, none⟩) 1 1) [⟨#[97]⟩] := Row.newT (cs := [.string ⟨#[97]⟩]) h1 ⟨_, _, rfl, rfl, rfl⟩ rfl (by decide)
  have r2 : Row Kd.str ω2 Any (.slice (some ⟨b2, 0, none⟩) 2 2) [⟨#[97]⟩, ⟨#[98]⟩] := Row.newT (cs := [.string ⟨#[97]⟩, .string ⟨#[98]⟩]) h2 ⟨[_], _, rfl, rfl, [_], _, rfl, rfl, rfl⟩ rfl (by decide)
  have r3 : Row Kd.str ω3 Any (.slice (some ⟨b3, 0, none⟩) 2 2) [⟨#[97]⟩, ⟨#[99]⟩] := Row.newT (cs := [.string ⟨#[97]⟩, .string ⟨#[99]⟩]) h3 ⟨[_], _, rfl, rfl, [_], _, rfl, rfl, rfl⟩ rfl (by decide)
  have r4 : Row strs ω4 Any (.slice (some ⟨b4, 0, none⟩) 3 3) [[⟨#[97]⟩], [⟨#[97]⟩, ⟨#[98]⟩], [⟨#[97]⟩, ⟨#[99]⟩]] := Row.newT (cs := [.slice (some ⟨b1, 0, none⟩) 1 1, .slice (some ⟨b2, 0, none⟩) 2 2, .slice (some ⟨b3, 0, none⟩) 2 2]) h4 ⟨[_], _, rfl, ⟨_, rfl, r1.ext (by decide) (h2.ext.trans h3.ext)⟩, [_], _, rfl, ⟨_, rfl, r2.ext (by decide) h3.ext⟩, [_], _, rfl, ⟨_, rfl, r3⟩, rfl⟩ rfl (by decide)
  have hE : Ext ω ω4 := h1.ext.trans (h2.ext.trans (h3.ext.trans h4.ext))
  refine (agree_c r4).mono ?_
  rintro _ ω5 ⟨hE5, rfl⟩
  have e : agreeS [[⟨#[97]⟩], [⟨#[97]⟩, ⟨#[98]⟩], [⟨#[97]⟩, ⟨#[99]⟩]] = (2, false) := by decide
  rw [e]
  refine answersNil_c.mono ?_
  rintro _ ω6 ⟨hE6, rfl⟩
  refine ⟨fun _ => ⟨hE.trans (hE5.trans hE6), rfl⟩, fun h => (h rfl).elim⟩
end Go.Proofs.YtfppcbjefldnfaaGreatDoor
namespace Go.Proofs.YtfppcbjefldnfaaGreatDoor
open Go Go.X Go.Proofs
/-- The beginnings that CheckBegins lays. -/
def fitC (l : List ByteArray) (c : Int) : Bool := decide (0 ≤ c) && decide (c ≤ l.length)
def rowsC (l : List ByteArray) (cuts : List Int) : List (List ByteArray) := (cuts.filter (fitC l)).map fun c => l.take c.toNat
def moreC (l : List ByteArray) (m c : Int) : Int := if fitC l c ∧ m < c then c else m
def mostC (l : List ByteArray) (cuts : List Int) : Int := cuts.foldl (moreC l) 0
theorem mostC_le (l : List ByteArray) (cuts : List Int) : 0 ≤ mostC l cuts ∧ mostC l cuts ≤ l.length := by
  unfold mostC
  have : ∀ (m : Int), 0 ≤ m → m ≤ l.length → 0 ≤ cuts.foldl (moreC l) m ∧ cuts.foldl (moreC l) m ≤ l.length := by
    induction cuts with
    | nil => intro m h1 h2; exact ⟨h1, h2⟩
    | cons c cs ih =>
      intro m h1 h2
      simp only [List.foldl_cons]
      refine ih _ ?_ ?_ <;> unfold moreC fitC <;> split <;> simp_all
  exact this 0 (by omega) (by omega)
theorem begins_take (l : List ByteArray) (a b : Nat) : beginsS (l.take a) (l.take b) = true := by
  simp only [beginsS, List.take_take, List.length_take, decide_eq_true_eq]
  congr 1
  omega
theorem agree_rows (l : List ByteArray) (cuts : List Int) : agreeS (rowsC l cuts) = (-1, true) := by
  have : (List.range (rowsC l cuts).length).find? (oddAt (rowsC l cuts)) = none := by
    rw [List.find?_range_eq_none]
    intro i hi
    have h1 : ∀ b ∈ rowsC l cuts, ∃ n, b = l.take n := fun b hb => by
      obtain ⟨c, _, rfl⟩ := List.mem_map.1 hb
      exact ⟨_, rfl⟩
    have h2 : oddAt (rowsC l cuts) i = false := by
      unfold oddAt
      rw [List.any_eq_false]
      intro b hb
      obtain ⟨n, rfl⟩ := h1 b (List.mem_of_mem_take hb)
      have : (rowsC l cuts).getD i [] = (rowsC l cuts)[i] := by simp [hi]
      rw [this]
      obtain ⟨k, hk⟩ := h1 _ (List.getElem_mem hi)
      rw [hk, begins_take]
      decide
    simp [h2]
  unfold agreeS
  rw [this]
theorem longest_rows (l : List ByteArray) (cuts : List Int) : longestS (rowsC l cuts) = l.take (mostC l cuts).toNat := by
  unfold longestS mostC
  have : ∀ (m : Int), 0 ≤ m → m ≤ l.length → (rowsC l cuts).foldl longerS (l.take m.toNat) = l.take (cuts.foldl (moreC l) m).toNat := by
    induction cuts with
    | nil => intro m _ _; rfl
    | cons c cs ih =>
      intro m h1 h2
      simp only [List.foldl_cons]
      cases hf : fitC l c with
      | false =>
        have e1 : rowsC l (c :: cs) = rowsC l cs := by simp [rowsC, hf]
        have e2 : moreC l m c = m := by simp [moreC, hf]
        rw [e1, e2]
        exact ih m h1 h2
      | true =>
        have e1 : rowsC l (c :: cs) = l.take c.toNat :: rowsC l cs := by simp [rowsC, hf]
        have hf' := hf
        simp only [fitC, Bool.and_eq_true, decide_eq_true_eq] at hf'
        rw [e1, List.foldl_cons]
        by_cases hm : m < c
        · have e2 : moreC l m c = c := by simp [moreC, hf, hm]
          have e3 : longerS (l.take m.toNat) (l.take c.toNat) = l.take c.toNat := by
            unfold longerS
            rw [if_pos]
            simp only [List.length_take]; omega
          rw [e2, e3]
          exact ih c hf'.1 hf'.2
        · have e2 : moreC l m c = m := by simp [moreC, hm]
          have e3 : longerS (l.take m.toNat) (l.take c.toNat) = l.take m.toNat := by
            unfold longerS
            rw [if_neg]
            simp only [List.length_take]; omega
          rw [e2, e3]
          exact ih m h1 h2
  simpa using this 0 (by omega) (by omega)
theorem rowsC_take (l : List ByteArray) (cuts : List Int) {i : Nat} (hi : i < cuts.length) : rowsC l (cuts.take (i + 1)) = rowsC l (cuts.take i) ++ if fitC l cuts[i] then [l.take cuts[i].toNat] else [] := by
  rw [List.take_succ_eq_append_getElem hi]
  unfold rowsC
  rw [List.filter_append, List.map_append]
  cases h : fitC l cuts[i] <;> simp [h]
theorem mostC_take (l : List ByteArray) (cuts : List Int) {i : Nat} (hi : i < cuts.length) : mostC l (cuts.take (i + 1)) = moreC l (mostC l (cuts.take i)) cuts[i] := by
  rw [List.take_succ_eq_append_getElem hi]
  unfold mostC
  rw [List.foldl_append]
  rfl
theorem rowsC_len (l : List ByteArray) (cuts : List Int) : (rowsC l cuts).length ≤ cuts.length := by
  unfold rowsC
  rw [List.length_map]
  exact List.length_filter_le _ _
theorem checkBegins_c {ω : World} {ok ok' : Nat → Prop} {v w : Value} {l : List ByteArray} {cuts : List Int} (hv : Row Kd.str ω ok v l) (hw : Row Kd.int ω ok' w cuts) : CallX Tryz.prog 4 [v, w] ω fun r ω' => Ext ω ω' ∧ r = .bool true := by
  obtain ⟨A, c, rfl, hA⟩ := hv.open
  obtain ⟨B, d, rfl, hB⟩ := hw.open
  have hlim := hA.lim
  have hlimB := hB.lim
  have hle := hA.le
  refine callX_of tab_ok mixed Tryz.func4 (by kernel_rfl) (fun _ => false) ?_
  refine up21_c.mono ?_
  rintro _ ω1 ⟨hE1, rfl⟩
  refine ⟨⟨rfl, by decide⟩, fun b2 ω2 h2 => ?_⟩
  have hE2 := hE1.trans h2.ext
  have r2 : Row strs ω2 Any (.slice (some ⟨b2, 0, none⟩) 1 1) [l] := Row.newT (cs := [.slice A l.length c]) h2 ⟨[_], _, rfl, ⟨_, rfl, (hA.ext (by decide) hE1).row.mono fun _ _ => trivial⟩, rfl⟩ rfl rfl
  refine (short_c r2).mono ?_
  rintro _ ω3 ⟨hE3', rfl⟩
  have hE3 := hE2.trans hE3'
  cases hsh : shortS [l] with
  | false => exact ⟨hE3, rfl⟩
  | true =>
  have hl100 : l.length ≤ 100 := by
    simp only [shortS, List.all_cons, List.all_nil, Bool.and_true, Bool.and_eq_true, decide_eq_true_eq] at hsh
    exact hsh.2.1
  refine ⟨fun h30 => ⟨hE3, rfl⟩, fun h30 => ?_⟩
  have hA3 := hA.ext (by decide) hE3
  refine ⟨⟨[0, 1, 5], [9, 7, 8], [], fun n vs _ ω' => ∃ (i : Nat) (u : Value), vs = [.int .i64 i, u, .int .i64 (mostC l (cuts.take i))] ∧ n + i = cuts.length ∧ Ext ω3 ω' ∧ Own strs 23 ω' ω3.heap.size (fun k => k < ω3.heap.size) u (rowsC l (cuts.take i))⟩, cuts.length, by kernel_rfl, ⟨_, rfl, 0, _, rfl, rfl, Ext.refl _, Own.nil _ _ _ _ _⟩, ?_⟩
  rintro n junk _ ms ω4 ⟨i, u, rfl, hn, hE4, hO⟩
  obtain ⟨C, e, rfl, hC⟩ := hO.open
  refine ⟨fun hlt => ?_, fun hge => ?_⟩
  · have hi : i < cuts.length := by omega
    have hE5 := hE3.trans hE4
    obtain ⟨b, off, rfl, hc, hI⟩ := (hB.ext (by decide) hE5).int hi
    have hmost := mostC_le l (cuts.take i)
    have hrows := rowsC_len l (cuts.take i)
    have htl : (cuts.take i).length = i := by rw [List.length_take]; omega
    refine ⟨⟨by omega, by omega⟩, _, hc, fun h0 => ⟨⟨by omega, by omega⟩, _, hc, fun h1 => ?_, fun h1 => ?_⟩, fun h0 => ?_⟩
    · have hf : fitC l cuts[i] = true := by simp [fitC]; omega
      have e1 : rowsC l (cuts.take (i + 1)) = rowsC l (cuts.take i) ++ [l.take cuts[i].toNat] := by rw [rowsC_take l cuts hi, if_pos hf]
      refine ⟨⟨by omega, by omega⟩, _, hc, ⟨by omega, by omega⟩, ⟨rfl, Nat.le_of_ble_eq_true rfl⟩, fun b5 ω5 h5 => ?_⟩
      have hrow : Row Kd.str ω4 (fun k => k < ω3.heap.size) (.slice A cuts[i].toNat c) (l.take cuts[i].toNat) := (((hA3.take (n := cuts[i].toNat) (by omega)).lt (by decide)).mono fun _ h => h.2).ext (by decide) hE4
      refine ⟨rfl, opx_app (v := .slice C _ e) (y := .slice (some ⟨b5, 0, none⟩) 1 1) tab_ok rfl rfl (fun h => by cases h) strs rfl rfl rfl rfl rfl (hO.ext h5.ext) (Nat.le_trans hE4.size h5.ext.size) (ys := [l.take cuts[i].toNat]) ((SrcR.of_new (d := strs) (xs := [l.take cuts[i].toNat]) (ok := fun k => k < ω3.heap.size) (cs := [.slice A cuts[i].toNat c]) rfl h5 ⟨[_], _, rfl, ⟨_, rfl, hrow⟩, rfl⟩ rfl).mono fun j hj => ⟨hj.1, fun he => ?_⟩) ?_ ?_⟩
      · have := (hO.lt he).1
        have := hj.1
        omega
      · simp only [List.length_singleton, lim]; omega
      · intro u' ω6 hO6 hC6 _
        have hE6 : Ext ω3 ω6 := by
          refine (hE4.trans h5.ext).ch_trans hC6 fun j hj => ?_
          exact (hO.lt hj).1
        have hc6 : ω6.cell? ⟨b, off + i, none⟩ = some (.int .i64 cuts[i]) := by
          obtain ⟨b', off', he, hc', _⟩ := (hB.ext (by decide) (hE3.trans hE6)).int hi
          cases he
          exact hc'
        refine ⟨⟨by omega, by omega⟩, _, hc6, fun hm => ⟨⟨by omega, by omega⟩, _, hc6, ⟨by omega, by omega⟩, ⟨n - 1, by omega, _, rfl, i + 1, _, ?_, by omega, hE6, by rw [e1]; exact hO6⟩, trivial⟩, fun hm => ⟨⟨by omega, by omega⟩, ⟨n - 1, by omega, _, rfl, i + 1, _, ?_, by omega, hE6, by rw [e1]; exact hO6⟩, trivial⟩⟩
        · have : mostC l (cuts.take (i + 1)) = cuts[i] := by rw [mostC_take l cuts hi, moreC, if_pos ⟨hf, by omega⟩]
          rw [this]; rfl
        · have : mostC l (cuts.take (i + 1)) = mostC l (cuts.take i) := by rw [mostC_take l cuts hi, moreC, if_neg (by omega)]
          rw [this]; rfl
    · have hf : fitC l cuts[i] = false := by simp [fitC]; omega
      have e1 : rowsC l (cuts.take (i + 1)) = rowsC l (cuts.take i) := by rw [rowsC_take l cuts hi, hf]; simp
      refine ⟨⟨by omega, by omega⟩, ⟨n - 1, by omega, _, rfl, i + 1, _, ?_, by omega, hE4, by rw [e1]; exact hO⟩, trivial⟩
      have : mostC l (cuts.take (i + 1)) = mostC l (cuts.take i) := by rw [mostC_take l cuts hi, moreC, if_neg (by simp [hf])]
      rw [this]; rfl
    · have hf : fitC l cuts[i] = false := by simp [fitC]; omega
      have e1 : rowsC l (cuts.take (i + 1)) = rowsC l (cuts.take i) := by rw [rowsC_take l cuts hi, hf]; simp
      refine ⟨⟨by omega, by omega⟩, ⟨n - 1, by omega, _, rfl, i + 1, _, ?_, by omega, hE4, by rw [e1]; exact hO⟩, trivial⟩
      have : mostC l (cuts.take (i + 1)) = mostC l (cuts.take i) := by rw [mostC_take l cuts hi, moreC, if_neg (by simp [hf])]
      rw [this]; rfl
  · have : i = cuts.length := by omega
    subst this
    rw [List.take_length] at hO ⊢
    have hmost := mostC_le l cuts
    refine (agree_c hO.row).mono ?_
    rintro _ ω5 ⟨hE5, rfl⟩
    rw [agree_rows]
    have hE35 := hE4.trans hE5
    refine ⟨fun _ => ?_, fun h => (h rfl).elim⟩
    refine ⟨⟨by omega, by omega⟩, (longest_c (hO.row.ext (by decide) hE5) (by rw [longest_rows, List.length_take]; simp only [lim]; omega)).mono ?_⟩
    rintro w ω6 ⟨hE6, hL⟩
    refine ⟨trivial, ?_⟩
    rw [longest_rows] at hL
    have hA6 := hA3.ext (by decide) (hE35.trans hE6)
    refine (same_c hL (hA6.take (n := (mostC l cuts).toNat) (by omega))).mono ?_
    rintro _ ω7 ⟨hE7, rfl⟩
    refine ⟨trivial, hE3.trans (hE35.trans (hE6.trans hE7)), ?_⟩
    rw [decide_eq_true rfl]
    rfl
end Go.Proofs.YtfppcbjefldnfaaGreatDoor
namespace Go.Proofs.YtfppcbjefldnfaaGreatDoor
open Go Go.X Go.ChangeShapes Go.WideShapes Go.ChangeAt Go.RowKit
theorem own : ownKnob Tryz.prog.godebug = none := by kernel_rfl
theorem laidOut : laidOutB Tryz.prog = true := by kernel_rfl
theorem opensStr : Opens Kd.str Tryz.prog 9 := opens_str Tryz.underlying9
theorem opensInt : Opens Kd.int Tryz.prog 3 := opens_int Tryz.underlying3
theorem opensStrs : Opens (Kd.str.row (by decide)) Tryz.prog 23 := opens_slice (by decide) Tryz.underlying23 (by kernel_rfl) opensStr
theorem opensInts : Opens (Kd.int.row (by decide)) Tryz.prog 33 := opens_slice (by decide) Tryz.underlying33 (by kernel_rfl) opensInt
set_option maxRecDepth 100000 in
theorem begins_contract (H : Type) (enc : TypeId × Value → H) (W : World) (base : Nat) (args : Array Value) (ds gs : List (DataW H)) (before : List MemPlace)
    (hval : ∀ (j : Nat) t v, Tryz.f4.params[j]? = some t → args[j]? = some v → Value.okWide Tryz.prog W .any base t v)
    (hW : DataW.Whole enc Tryz.prog Tryz.f4.params.toList Rows.checkBeginsSpec.vars false W args.toList ds gs before) :
    Calls Tryz.prog 4 args W fun e W' => ∃ v, e = .returned v ∧ Rows.checkBeginsSpec.post enc Tryz.prog Tryz.f4 false true false false W args v W' := by
  have hW' := hW
  obtain ⟨p, q, hA0, hV, rfl, hfz, hnd⟩ := hW
  have hA : DataW.TrodAll enc Tryz.prog W 0 (fun _ => true) true Tryz.f4.params.toList args.toList ds p := hA0
  rw [Tryz.params4] at hA hval
  obtain ⟨v0, v1, d0, d1, p0, p1, rfl, rfl, rfl, h0, h1⟩ := trodAll_two hA
  obtain ⟨rfl, rfl⟩ := trodVars_none hV
  obtain ⟨a0, len0, cap0, rfl⟩ := okWide_slice Tryz.underlying23 (hval 0 23 v0 rfl rfl)
  obtain ⟨a1, len1, cap1, rfl⟩ := okWide_slice Tryz.underlying33 (hval 1 33 v1 rfl rfl)
  clear hA0
  simp only [List.append_nil] at hW'
  have hlt : ∀ x ∈ p0 ++ p1, x.block < W.heap.size := fun x hx => by simpa using hW'.lt x hx
  obtain ⟨n0, g0⟩ := h0
  obtain ⟨n1, g1⟩ := h1
  obtain ⟨xs, _, e0, hx⟩ := opensStrs g0
  obtain ⟨ys, _, e1, hy⟩ := opensInts g1
  cases e0
  cases e1
  refine ((checkBegins_c hx hy).below).mono fun e W' ⟨he, hb⟩ => ?_
  subst he
  have t0 := Below.trod laidOut (by kernel_rfl) (of_decide_eq_true (by kernel_rfl)) (v := .slice a0 len0 cap0) ⟨n0, g0⟩ hb (fun x hx => hlt x (List.mem_append.2 (.inl hx)))
  have t1 := Below.trod laidOut (by kernel_rfl) (of_decide_eq_true (by kernel_rfl)) (v := .slice a1 len1 cap1) ⟨n1, g1⟩ hb (fun x hx => hlt x (List.mem_append.2 (.inr hx)))
  exact ⟨_, rfl, _, _, _, [], _, [], hW', trodAll_mk1 (shut_bool Tryz.underlying4 _), trodAll_mk2 t0 t1, rfl, hb.frame _, fun h => by cases h⟩
set_option maxRecDepth 100000 in
theorem begins_lifted (os : Os) (started : os.Started) (H : Type) (enc : TypeId × Value → H) :
    ReturnsInHanded {} Tryz.checked os 4 .any (fun w args => (Rows.checkBeginsSpec.pre enc Tryz.prog Tryz.f4 [] false w args ∧ laidMetH Tryz.prog Rows.checkBeginsRow.laid w) ∧ sizedMet enc Tryz.prog Tryz.f4 (OpenSpec.ofChange Rows.checkBeginsSpec) false w args)
      (Rows.checkBeginsSpec.post enc Tryz.prog Tryz.f4 false true false false) := by
  refine returnsInHanded_of_change_and (C := Tryz.checked) (X := fun w _ => laidMetH Tryz.prog Rows.checkBeginsRow.laid w) (fun _ _ _ hh h => h.of_heap hh) own started (by kernel_rfl) Tryz.func4
    (ChangeSpec.witness_shaped (enc := enc) (C := Tryz.checked) (os := os) (X := fun w _ => laidMetH Tryz.prog Rows.checkBeginsRow.laid w) false (World.laidAll Tryz.prog os Rows.checkBeginsRow.laid) #[.slice none 0 0, .slice none 0 0] 8 (World.laidAll_os _ _ _)
      (World.shaped_of_ZipB (by kernel_rfl) (by kernel_rfl)) (by kernel_rfl) (by kernel_rfl) (by kernel_rfl)
      (by rw [MakeChecks.laidMetH_plain _ _ _ (by kernel_rfl)]; exact laidMet_laidAll _ (by kernel_rfl) (by kernel_rfl))) ?_
  intro W base args ds gs before hval0 hW _ _ _ _
  exact begins_contract H enc W base args ds gs before hval0 hW
set_option maxRecDepth 100000 in
theorem begins_said : Rows.CheckBeginsSaid :=
  OpenClaim.holds_of_wide 4 Tryz.f4 rfl rfl rfl rfl rfl rfl rfl ⟨rfl, rfl, rfl, rfl, rfl⟩ rfl rfl rfl rfl rfl (by kernel_rfl) Tryz.func4 (by kernel_rfl)
    (of_decide_eq_true (by kernel_rfl)) (by unfold Func.isWrapper; first | (rw [if_pos (by decide +kernel)]; kernel_rfl) | (rw [if_neg (by decide +kernel)]; exact ⟨rfl, rfl⟩))
    (fun os started H enc _ => begins_lifted os started H enc)
set_option maxRecDepth 100000 in
theorem checkBegins : Rows.CheckBeginsCardSaid :=
  Claim7.holds_tied_plain_at .later [] _ _ _ _ begins_said (fun _ h => by cases h) (by kernel_rfl) (fun _ h => by cases h) checkBegins_row_tie rfl ⟨rfl, rfl⟩ (by kernel_rfl) rfl
    (fun f fn hf hfn => by
      obtain rfl : f = 4 := Option.some.inj ((show Tryz.prog.funcNamed "becket/becketlaw21.CheckBegins" = some 4 by kernel_rfl).symm.trans hf) |>.symm
      obtain rfl : fn = Tryz.f4 := (Option.some.inj (Tryz.func4.symm.trans hfn)).symm
      exact ⟨by kernel_rfl, fun j t ht => by
        rw [Tryz.params4] at ht
        have hm : t ∈ [23, 33] := by simpa using Array.mem_of_getElem? ht
        have hall : ([23, 33].all fun u => !Tryz.prog.wantsStandIn u) = true := by kernel_rfl
        exact (show Tryz.prog.wantsStandIn t = false by simpa using List.all_eq_true.1 hall t hm)⟩)
    (by kernel_rfl)
end Go.Proofs.YtfppcbjefldnfaaGreatDoor
