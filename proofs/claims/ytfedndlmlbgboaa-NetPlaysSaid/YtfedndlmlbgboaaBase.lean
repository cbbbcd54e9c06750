/- Messages that wait in a channel, said of the memory: what a Net is, and what a call keeps. -/
import Derived.Test.YtfedndlmlbgboaaRows
import Derived.WalkKit
import Derived.WalkSpells
import Derived.WalkLawsBesides
import Derived.Conc.LoneCalls
import Derived.Conc.LoneSelect
import Derived.Conc.LoneSelectN
import Derived.Lib.Hide
namespace Go.Proofs.Ytfedndlmlbgboaa
open Go.RowKit Go.Conc

/-- A message: its four numbers. -/
structure Msg where
  to : Int
  epoch : Int
  seq : Int
  commit : Int
  deriving DecidableEq

def Msg.val (m : Msg) : Value := .agg #[.int .i64 m.to, .int .i64 m.epoch, .int .i64 m.seq, .int .i64 m.commit]
def Msg.cells (m : Msg) : List Value := [.int .i64 m.to, .int .i64 m.epoch, .int .i64 m.seq, .int .i64 m.commit]
def msg0 : Msg := ⟨0, 0, 0, 0⟩

/-- All blocks that were there are as they were, but block c. -/
structure But (c : Nat) (w w' : World) : Prop where
  os : w'.os = w.os
  tape : w'.tape = w.tape
  output : w'.output = w.output
  size : w.heap.size ≤ w'.heap.size
  block : ∀ k, k < w.heap.size → k ≠ c → w'.heap[k]? = w.heap[k]?

theorem But.refl (c : Nat) (w : World) : But c w w := ⟨rfl, rfl, rfl, Nat.le_refl _, fun _ _ _ => rfl⟩
theorem But.trans {c : Nat} {a b d : World} (h : But c a b) (k : But c b d) : But c a d :=
  ⟨k.os.trans h.os, k.tape.trans h.tape, k.output.trans h.output, Nat.le_trans h.size k.size,
   fun i hi hc => (k.block i (Nat.lt_of_lt_of_le hi h.size) hc).trans (h.block i hi hc)⟩
theorem But.of_below {c : Nat} {w w' : World} (h : Below w.heap.size w w') : But c w w' :=
  ⟨h.os, h.tape, h.output, h.size, fun k hk _ => h.block k hk⟩
theorem But.below {c B : Nat} {w w' : World} (h : But c w w') (hB : B ≤ c) (hs : B ≤ w.heap.size) : Below B w w' :=
  ⟨h.os, h.tape, h.output, h.size, fun k hk => h.block k (by omega) (by omega)⟩
theorem But.alloc {c : Nat} {a w : World} (h : But c a w) (o : Obj) : But c a (w.alloc o) :=
  h.trans (But.of_below ((Below.refl _ _).alloc (Nat.le_refl _) _))
theorem But.setNew {c : Nat} {a w : World} (h : But c a w) {p : Addr} (hp : a.heap.size ≤ p.block) (v : Value) : But c a (w.setCell p v) :=
  ⟨h.os, h.tape, h.output, by simpa [World.setCell] using h.size, fun k hk hc => (Below.heap_setCell w p v k (by omega)).trans (h.block k hk hc)⟩
theorem But.setChan {c : Nat} {a w : World} (h : But c a w) (cap : Nat) (buf : Array Value) (cl : Bool) (s r : Nat) (tm : Bool) : But c a (w.setChan c cap buf cl s r tm) :=
  h.trans ⟨rfl, rfl, rfl, by simp [World.setChan], fun k hk hc => by simp only [World.setChan]; rw [Array.getElem?_setIfInBounds_ne (by omega)]⟩
theorem But.drew {c : Nat} {a w : World} (h : But c a w) : But c a w.drew := ⟨h.os, h.tape, h.output, h.size, h.block⟩

/-- Block c is a channel with room for cap, in which l wait. -/
def ChanIs (w : World) (c cap : Nat) (l : List Msg) : Prop := ∃ s r, w.heap[c]? = some (.chan cap ⟨l.map Msg.val⟩ false s r false)
/-- Block p is a Net's, whose channel is block c. -/
def NetIs (w : World) (p c cap : Nat) (l : List Msg) : Prop := w.heap[p]? = some (.cells #[.chan (some c)] 50 (0, 0)) ∧ ChanIs w c cap l

theorem NetIs.lt {w : World} {p c cap : Nat} {l : List Msg} (h : NetIs w p c cap l) : p < w.heap.size ∧ c < w.heap.size ∧ p ≠ c := by
  obtain ⟨h1, s, r, h2⟩ := h
  refine ⟨(Array.getElem?_eq_some_iff.1 h1).1, (Array.getElem?_eq_some_iff.1 h2).1, ?_⟩
  rintro rfl
  rw [h1] at h2
  simp at h2

theorem NetIs.cell {w : World} {p c cap : Nat} {l : List Msg} (h : NetIs w p c cap l) : w.cell? ⟨p, 0, none⟩ = some (.chan (some c)) := by
  simp [World.cell?, h.1]

theorem NetIs.keep {w w' : World} {p c cap : Nat} {l : List Msg} (h : NetIs w p c cap l) (hp : w'.heap[p]? = w.heap[p]?) (hc : w'.heap[c]? = w.heap[c]?) : NetIs w' p c cap l := by
  obtain ⟨h1, s, r, h2⟩ := h
  exact ⟨hp.trans h1, s, r, hc.trans h2⟩
theorem NetIs.below {w w' : World} {p c cap : Nat} {l : List Msg} (h : NetIs w p c cap l) {B : Nat} (hb : Below B w w') (hp : p < B) (hc : c < B) : NetIs w' p c cap l :=
  h.keep (hb.block _ hp) (hb.block _ hc)
theorem NetIs.but {w w' : World} {p c d cap : Nat} {l : List Msg} (h : NetIs w p c cap l) (hb : But d w w') (hp : p ≠ d) (hc : c ≠ d) : NetIs w' p c cap l :=
  h.keep (hb.block _ h.lt.1 hp) (hb.block _ h.lt.2.1 hc)
theorem NetIs.put {w : World} {p c cap : Nat} {l : List Msg} (h : NetIs w p c cap l) (l' : List Msg) (s r : Nat) : NetIs (w.setChan c cap ⟨l'.map Msg.val⟩ false s r false) p c cap l' := by
  obtain ⟨_, hc, hne⟩ := h.lt
  obtain ⟨h1, _⟩ := h
  refine ⟨?_, s, r, heap_setChan w c cap _ false s r false hc⟩
  rw [← h1]; simp only [World.setChan]; rw [Array.getElem?_setIfInBounds_ne (by omega)]

end Go.Proofs.Ytfedndlmlbgboaa
