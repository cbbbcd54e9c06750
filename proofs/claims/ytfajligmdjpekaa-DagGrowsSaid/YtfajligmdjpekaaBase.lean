/- Slices of numbers, and slices of such, said of the memory; and what a call keeps. -/
import Derived.Test.YtfajligmdjpekaaRows
import Derived.Test.YtfajligmdjpekaaSpec
import Derived.Test.YtfajligmdjpekaaRely
import Derived.WalkKit
import Derived.WalkSpells
import Derived.WalkLawsBesides
import Derived.Lib.Hide
import Derived.BigQuiet
import Derived.Deep.AppendLies
import Derived.Deep.RegionLawGrows
import Derived.Deep.RegionHeld3
import Derived.OpenShut
import Derived.Maps.OwnOps
import Derived.Maps.RangeWalk
namespace Go.Proofs.Ytfajligmdjpekaa
open Go.RowKit

/-- All that was there is as it was. -/
def Ext (w w' : World) : Prop := Below w.heap.size w w'
theorem ext_refl (w : World) : Ext w w := Below.refl _ _
theorem ext_trans (a b c : World) (h : Ext a b) (k : Ext b c) : Ext a c := Below.trans h (Below.mono k h.size)
theorem Ext.trans {a b c : World} (h : Ext a b) (k : Ext b c) : Ext a c := ext_trans a b c h k
theorem ext_alloc (w : World) (o : Obj) : Ext w (w.alloc o) := (Below.refl _ _).alloc (Nat.le_refl _) _
theorem Ext.alloc {a w : World} (h : Ext a w) (o : Obj) : Ext a (w.alloc o) := h.trans (ext_alloc w o)
theorem Ext.drewN {a w : World} (h : Ext a w) (n : Nat) : Ext a (w.drewN n) := ⟨h.os, h.tape, h.output, h.size, h.block⟩
theorem Ext.drew {a w : World} (h : Ext a w) : Ext a w.drew := ⟨h.os, h.tape, h.output, h.size, h.block⟩
theorem Ext.setCell {a w : World} (h : Ext a w) {p : Addr} (hp : a.heap.size ≤ p.block) (v : Value) : Ext a (w.setCell p v) :=
  ⟨h.os, h.tape, h.output, by simpa [World.setCell] using h.size, fun k hk => (Below.heap_setCell w p v k (by omega)).trans (h.block k hk)⟩
theorem Ext.cell {w w' : World} (h : Ext w w') {p : Addr} {v : Value} (hc : w.cell? p = some v) : w'.cell? p = some v :=
  (Below.cell h (World.block_lt_of_cell? w p hc)).trans hc
theorem ext_grown {w w' : World} (h : w.grownBy w' none) : Ext w w' := (Below.refl _ _).grown h (Nat.le_refl _) (fun k hk => by cases hk)
theorem Ext.heap {w w' : World} (h : Ext w w') {b : Nat} {o : Obj} (hb : w.heap[b]? = some o) : w'.heap[b]? = some o :=
  (h.block b (Array.getElem?_eq_some_iff.1 hb).1).trans hb
theorem Ext.grown {a w w' : World} (h : Ext a w) {row : Option Nat} (hg : w.grownBy w' row) (hr : ∀ k, row = some k → a.heap.size ≤ k) : Ext a w' := Below.grown h hg h.size hr

/-- A slice whose elements are these values, each in a cell. -/
def CellsAt (w : World) (v : Value) (vs : List Value) : Prop :=
  ∃ a c, v = .slice a vs.length c ∧ vs.length ≤ c ∧ c ≤ maxLen ∧ ∀ j u, vs[j]? = some u → ∃ b o, a = some ⟨b, o, none⟩ ∧ w.cell? ⟨b, o + j, none⟩ = some u
theorem CellsAt.ext {w w' : World} {v : Value} {vs : List Value} (h : CellsAt w v vs) (hE : Ext w w') : CellsAt w' v vs := by
  obtain ⟨a, c, rfl, h1, h2, hc⟩ := h
  refine ⟨a, c, rfl, h1, h2, fun j u hj => ?_⟩
  obtain ⟨b, o, rfl, hu⟩ := hc j u hj
  exact ⟨b, o, rfl, hE.cell hu⟩
def IntsAt (w : World) (v : Value) (xs : List Int) : Prop := CellsAt w v (xs.map (Value.int .i64))
theorem IntsAt.ext {w w' : World} {v : Value} {xs : List Int} (h : IntsAt w v xs) (hE : Ext w w') : IntsAt w' v xs := CellsAt.ext h hE
theorem IntsAt.open {w : World} {v : Value} {xs : List Int} (h : IntsAt w v xs) :
    ∃ a c, v = .slice a xs.length c ∧ xs.length ≤ c ∧ c ≤ maxLen ∧ ∀ j x, xs[j]? = some x → ∃ b o, a = some ⟨b, o, none⟩ ∧ w.cell? ⟨b, o + j, none⟩ = some (.int .i64 x) := by
  obtain ⟨a, c, rfl, h1, h2, hc⟩ := h
  refine ⟨a, c, by simp, by simpa using h1, h2, fun j x hj => hc j _ (by simp [hj])⟩
theorem IntsAt.of {w : World} {a : Option Addr} {c : Nat} {xs : List Int} (h1 : xs.length ≤ c) (h2 : c ≤ maxLen)
    (hc : ∀ j x, xs[j]? = some x → ∃ b o, a = some ⟨b, o, none⟩ ∧ w.cell? ⟨b, o + j, none⟩ = some (.int .i64 x)) : IntsAt w (.slice a xs.length c) xs := by
  refine ⟨a, c, by simp, by simpa using h1, h2, fun j u hj => ?_⟩
  simp only [List.getElem?_map, Option.map_eq_some_iff] at hj
  obtain ⟨x, hx, rfl⟩ := hj
  exact hc j x hx
theorem IntsAt.nil (w : World) : IntsAt w (.slice none 0 0) [] := ⟨none, 0, rfl, Nat.le_refl _, by unfold maxLen; omega, fun j u hj => by simp at hj⟩

/-- A slice whose elements are slices of these numbers. -/
def RowsAt (w : World) (v : Value) (l : List (List Int)) : Prop :=
  ∃ vs : List Value, vs.length = l.length ∧ CellsAt w v vs ∧ ∀ (j : Nat) (u : Value) (r : List Int), vs[j]? = some u → l[j]? = some r → IntsAt w u r
theorem RowsAt.ext {w w' : World} {v : Value} {l : List (List Int)} (h : RowsAt w v l) (hE : Ext w w') : RowsAt w' v l := by
  obtain ⟨vs, hl, hc, hr⟩ := h
  exact ⟨vs, hl, hc.ext hE, fun j u r hj hk => (hr j u r hj hk).ext hE⟩
theorem RowsAt.open {w : World} {v : Value} {l : List (List Int)} (h : RowsAt w v l) :
    ∃ a c, v = .slice a l.length c ∧ l.length ≤ c ∧ c ≤ maxLen ∧ ∀ j r, l[j]? = some r → ∃ b o u, a = some ⟨b, o, none⟩ ∧ w.cell? ⟨b, o + j, none⟩ = some u ∧ IntsAt w u r := by
  obtain ⟨vs, hl, ⟨a, c, rfl, h1, h2, hc⟩, hr⟩ := h
  refine ⟨a, c, by rw [hl], by omega, h2, fun j r hj => ?_⟩
  have hlt : j < l.length := (List.getElem?_eq_some_iff.1 hj).1
  have hu : vs[j]? = some vs[j] := List.getElem?_eq_getElem _
  obtain ⟨b, o, rfl, hcell⟩ := hc j _ hu
  exact ⟨b, o, _, rfl, hcell, hr j _ r hu hj⟩

theorem ownsRow_below {w w' : World} {base e size n : Nat} {v : Value} {xs : List Value} (h : w.ownsRow base e size v n xs) (hb : Below w.heap.size w w') : w'.ownsRow base e size v n xs :=
  h.kept (row := none) ⟨hb.os, hb.tape, hb.output, hb.size, fun k hk _ => hb.block k hk⟩ (by cases v.ownBlock <;> simp)

/-- A slice of the call's own: its block is no lower than 'base'. -/
abbrev Own (base : Nat) (w : World) (v : Value) (xs : List Int) : Prop := w.ownsRow base 3 1 v xs.length (xs.map (Value.int .i64))
theorem own_nil (base : Nat) (w : World) : Own base w (.slice none 0 0) [] := World.ownsRow_nil _ _ _ _
theorem Own.ints {base : Nat} {w : World} {v : Value} {xs : List Int} (h : Own base w v xs) (hl : xs.length ≤ maxLen) : IntsAt w v xs := by
  rcases h.2 with ⟨rfl, h2⟩ | ⟨g, cp, cur, rfl, _, hb, h3, h4, h5, hx⟩
  · obtain rfl : xs = [] := List.eq_nil_of_length_eq_zero h2
    exact IntsAt.nil w
  · have h3' : xs.length ≤ cp := by omega
    refine IntsAt.of h3' (by omega) fun j x hj => ⟨g, 0, rfl, ?_⟩
    rw [Nat.zero_add, cell_of_row w g j cur 3 (0, 0) hb]
    have hj' : (xs.map (Value.int .i64))[j]? = some (.int .i64 x) := by simp [hj]
    rw [← hx, List.getElem?_take] at hj'
    split at hj'
    · simpa using hj'
    · cases hj'
theorem Own.ext {base : Nat} {w w' : World} {v : Value} {xs : List Int} (h : Own base w v xs) (hE : Ext w w') : Own base w' v xs := ownsRow_below h hE
theorem Own.mono {base base' : Nat} {w : World} {v : Value} {xs : List Int} (h : Own base w v xs) (hb : base' ≤ base) : Own base' w v xs := by
  obtain ⟨h1, h2 | ⟨g, cp, cur, hv, hg, hr⟩⟩ := h
  · exact ⟨h1, .inl h2⟩
  · exact ⟨h1, .inr ⟨g, cp, cur, hv, by omega, hr⟩⟩
/-- Rows that are not too long. -/
def Short (l : List (List Int)) : Prop := l.length ≤ 70 ∧ ∀ r ∈ l, r.length ≤ 10

end Go.Proofs.Ytfajligmdjpekaa
