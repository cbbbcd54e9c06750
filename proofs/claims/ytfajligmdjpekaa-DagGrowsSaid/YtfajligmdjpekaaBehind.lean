/- Those that stand behind one: the map, and the row. -/
import Derived.Test.YtfajligmdjpekaaVisit
import Derived.Laws.EntriesVeiled
namespace Go.Proofs.Ytfajligmdjpekaa
open Go.RowKit Go.Lib Go.Maps

theorem SetAt.setCell {w : World} {b : Nat} {S : Nat → Bool} (h : SetAt w b S) {p : Addr} (hp : b ≠ p.block) (v : Value) : SetAt (w.setCell p v) b S := by
  obtain ⟨D, h1, h2⟩ := h
  exact ⟨D, h1.setCell hp v, h2⟩

theorem cell_new (w : World) (cs : Array Value) (t : TypeId) (i : Nat) (v : Value) (h : cs[i]? = some v) : (w.alloc (.cells cs t)).cell? ⟨w.heap.size, i, none⟩ = some v := by
  simp only [World.cell?, heap_alloc_new w]
  exact h
theorem cell_new1 (w : World) (t : TypeId) (v : Value) : (w.alloc (.cells #[v] t)).cell? ⟨w.heap.size, 0, none⟩ = some v := cell_new w #[v] t 0 v rfl
def BehindPost (w : World) (S : Nat → Bool) (e : Ending) (w' : World) : Prop := ∃ mb, e = .returned (.map (some mb)) ∧ w.heap.size ≤ mb ∧ SetAt w' mb S ∧ Ext w w'

set_option maxHeartbeats 1000000 in
theorem behind_any (n c : Nat) (a : Option Addr) (l : List (List Int)) (hr : right l = true) (hn : l.length = n) (k : Nat) (hk : k < n) (w : World) (hf : RowFacts w a l) :
    Calls Try.prog 31 #[.slice a n c, .int .i64 k] w (BehindPost w (anc l k)) := by
  have HR := Lib.hid hr
  have HN := Lib.hid hn
  have HF := Lib.hid hf
  clear hr hn hf
  have hmm := @run_makeMap Try.prog
  go_enter Try.func31, Try.ntmps31
  go_wp2_with fail
  generalize hw4 : ((((w.alloc (Obj.cells #[Value.slice a n c] 22)).alloc (Obj.map #[] 0)).alloc (Obj.cells #[Value.map (some (w.heap.size + 1))] 38)).alloc (Obj.cells #[Value.func (Fn.func 45) #[] #[Value.pointer (some { block := w.heap.size + 1 + 1, off := 0 }), Value.pointer (some { block := w.heap.size, off := 0 }), Value.pointer (some { block := w.heap.size + 1 + 1 + 1, off := 0 })]] 53)) = w4
  have hE : Ext w w4 := by rw [← hw4]; exact ((((ext_refl w).alloc _).alloc _).alloc _).alloc _
  have hset : SetAt w4 (w.heap.size + 1) (fun _ => false) := by
    rw [← hw4]
    have := setAt_new (w.alloc (Obj.cells #[Value.slice a n c] 22))
    simp only [World.size_alloc] at this
    exact (this.ext (ext_alloc _ _)).ext (ext_alloc _ _)
  have hV : VisitAt w4 (w.heap.size + 1 + 1) w.heap.size (w.heap.size + 1 + 1 + 1) (w.heap.size + 1) a n c l (fun _ => false) := by
    refine ⟨?_, ?_, ?_, HF.out.ext hE, hset⟩
    · rw [← hw4]
      refine (ext_alloc _ _).cell ?_
      have := cell_new1 ((w.alloc (Obj.cells #[Value.slice a n c] 22)).alloc (Obj.map #[] 0)) 38 (Value.map (some (w.heap.size + 1)))
      simpa only [World.size_alloc] using this
    · rw [← hw4]
      refine (ext_alloc _ _).cell ((ext_alloc _ _).cell ((ext_alloc _ _).cell (cell_new _ _ _ 0 _ rfl)))
    · rw [← hw4]
      have := cell_new1 (((w.alloc (Obj.cells #[Value.slice a n c] 22)).alloc (Obj.map #[] 0)).alloc (Obj.cells #[Value.map (some (w.heap.size + 1))] 38)) 53 (Value.func (Fn.func 45) #[] #[Value.pointer (some { block := w.heap.size + 1 + 1, off := 0 }), Value.pointer (some { block := w.heap.size, off := 0 }), Value.pointer (some { block := w.heap.size + 1 + 1 + 1, off := 0 })])
      simpa only [World.size_alloc] using this
  have hz4 : w.heap.size + 1 + 1 + 1 < w4.heap.size := by rw [← hw4]; simp
  have HE := Lib.hid hE
  have HV := Lib.hid hV
  clear hw4 hE hset hV hmm
  refine (visit_any (w.heap.size + 1 + 1) w.heap.size (w.heap.size + 1 + 1 + 1) (w.heap.size + 1) n c a l HR.out HN.out k (fun _ => false) w4 hk HV.out (fun j _ hj => by cases hj)).mono ?_
  rintro e w5 ⟨rfl, hs5, hb5⟩
  have hout : w5.cell? ⟨w.heap.size + 1 + 1, 0, none⟩ = some (.map (some (w.heap.size + 1))) := hb5.cell HV.out.out (by simp)
  have HP : Hid (BehindPost w (anc l k) (.returned (.map (some (w.heap.size + 1)))) w5) := Lib.hid ⟨_, rfl, by omega, hs5.congr fun j => by simp, hb5.ext HE.out (by omega)⟩
  clear hs5 hb5
  go_wp2_with fail
  go_ret
  exact HP.out
end Go.Proofs.Ytfajligmdjpekaa
