/- A table of the call's own: a block of n cells, each known. -/
import Derived.Test.YtfajligmdjpekaaBase2
import Derived.OwnWalk
namespace Go.Proofs.Ytfajligmdjpekaa
open Go.RowKit Go.Lib Go.Maps Go.Shelf

def Tab (w : World) (g : Nat) (t : TypeId) (n : Nat) (V : Nat → Value) : Prop := ∃ cur, w.heap[g]? = some (.cells cur t (0, 0)) ∧ cur.size = n ∧ ∀ j, j < n → cur[j]? = some (V j)
theorem Tab.cell {w : World} {g n : Nat} {t : TypeId} {V : Nat → Value} (h : Tab w g t n V) {j : Nat} (hj : j < n) : w.cell? ⟨g, j, none⟩ = some (V j) := by
  obtain ⟨cur, hb, _, hc⟩ := h
  simp only [World.cell?, hb]
  exact hc j hj
theorem Tab.thaw {w : World} {g n : Nat} {t : TypeId} {V : Nat → Value} (h : Tab w g t n V) (j : Nat) : w.frozen? ⟨g, j, none⟩ = false := by
  obtain ⟨cur, hb, _⟩ := h
  simp [World.frozen?, hb]
theorem Tab.lt {w : World} {g n : Nat} {t : TypeId} {V : Nat → Value} (h : Tab w g t n V) : g < w.heap.size := by
  obtain ⟨cur, hb, _⟩ := h
  exact (Array.getElem?_eq_some_iff.1 hb).1
theorem Tab.congr {w : World} {g n : Nat} {t : TypeId} {V V' : Nat → Value} (h : Tab w g t n V) (hV : ∀ j, j < n → V j = V' j) : Tab w g t n V' := by
  obtain ⟨cur, hb, hs, hc⟩ := h
  exact ⟨cur, hb, hs, fun j hj => by rw [← hV j hj]; exact hc j hj⟩
theorem Tab.ext {w w' : World} {g n : Nat} {t : TypeId} {V : Nat → Value} (h : Tab w g t n V) (hE : Ext w w') : Tab w' g t n V := by
  obtain ⟨cur, hb, hs, hc⟩ := h
  exact ⟨cur, hE.heap hb, hs, hc⟩
theorem Tab.but {w w' : World} {g n c : Nat} {t : TypeId} {V : Nat → Value} (h : Tab w g t n V) (hE : But c w w') (hne : g ≠ c) : Tab w' g t n V := by
  have hlt := h.lt
  obtain ⟨cur, hb, hs, hc⟩ := h
  exact ⟨cur, (hE.block g hlt hne).trans hb, hs, hc⟩
theorem Tab.set {w : World} {g n : Nat} {t : TypeId} {V : Nat → Value} (h : Tab w g t n V) (i : Nat) (v : Value) : Tab (w.setCell ⟨g, i, none⟩ v) g t n (fun j => if j = i then v else V j) := by
  obtain ⟨cur, hb, hs, hc⟩ := h
  refine ⟨cur.setIfInBounds i v, ?_, by simpa using hs, fun j hj => ?_⟩
  · simp only [World.setCell]; rw [Array.getElem?_modify]; simp [hb]
  · rw [Array.getElem?_setIfInBounds]
    by_cases hij : i = j
    · subst hij; simp [hs, hj]
    · simp [hij, Ne.symm hij, hc j hj]
theorem but_set (w : World) (g i : Nat) (v : Value) : But g w (w.setCell ⟨g, i, none⟩ v) :=
  ⟨rfl, rfl, rfl, by simp [World.setCell], fun k _ hne => by simp only [World.setCell]; rw [Array.getElem?_modify]; simp [Ne.symm hne]⟩
theorem tab_made (w : World) (z : Value) (n : Nat) (t : TypeId) : Tab (w.alloc (.cells (madeCells #[z] n) t)) w.heap.size t n (fun _ => z) := by
  refine ⟨_, heap_alloc_new w _, size_madeCells _ _, fun j hj => ?_⟩
  simp [madeCells, hj, Nat.mod_one]

theorem Try.info3 : (Try.prog.info? 3).map (fun i => (i.zero, i.size, i.bytes)) = some (some (.int .i64 0), 1, 8) := by kernel_rfl
theorem Try.info4 : (Try.prog.info? 4).map (fun i => (i.zero, i.size, i.bytes)) = some (some (.bool false), 1, 1) := by kernel_rfl
theorem make_ints (w : World) (n : Nat) (hn : n ≤ 1000) : (Instr.makeSlice 29 (.int .i64 n) (.int .i64 n)).run Try.prog w = .ok (.slice (some ⟨w.heap.size, 0, none⟩) n n) (w.alloc (.cells (madeCells #[.int .i64 0] n) 3)) := by
  obtain ⟨i, hi, hz0, hz1, hz2⟩ := info_parts Try.info3
  have := run_make (P := Try.prog) w 29 3 i _ Try.underlying29 hi hz0 .i64 .i64 n n (by omega) (Int.le_refl _) (by rw [hz2]; omega) (by omega)
  rw [hz1] at this
  simpa [Value.cells] using this
theorem make_bools (w : World) (n : Nat) (hn : n ≤ 1000) : (Instr.makeSlice 40 (.int .i64 n) (.int .i64 n)).run Try.prog w = .ok (.slice (some ⟨w.heap.size, 0, none⟩) n n) (w.alloc (.cells (madeCells #[.bool false] n) 4)) := by
  obtain ⟨i, hi, hz0, hz1, hz2⟩ := info_parts Try.info4
  have := run_make (P := Try.prog) w 40 4 i _ Try.underlying40 hi hz0 .i64 .i64 n n (by omega) (Int.le_refl _) (by rw [hz2]; omega) (by omega)
  rw [hz1] at this
  simpa [Value.cells] using this
/-- A table that is read as a row. -/
theorem Tab.cells {w : World} {g n : Nat} {V : Nat → Value} {t : TypeId} (h : Tab w g t n V) : ∀ j u, ((List.range n).map V)[j]? = some u → w.cell? ⟨g, 0 + j, none⟩ = some u := by
  intro j u hj
  simp only [List.getElem?_map, Option.map_eq_some_iff] at hj
  obtain ⟨i, hi, rfl⟩ := hj
  rw [List.getElem?_eq_some_iff] at hi
  obtain ⟨h1, h2⟩ := hi
  simp at h1 h2
  subst h2
  rw [Nat.zero_add]
  exact h.cell h1
end Go.Proofs.Ytfajligmdjpekaa
