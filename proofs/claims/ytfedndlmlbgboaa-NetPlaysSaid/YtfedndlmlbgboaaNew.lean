/- New, Len of a Net. -/
import Derived.Test.YtfedndlmlbgboaaBase
namespace Go.Proofs.Ytfedndlmlbgboaa
open Go.RowKit Go.Conc

theorem bytes30 : ∃ i, Try.prog.info? 30 = some i ∧ i.bytes = 32 := by
  have h : (Try.prog.info? 30).map (·.bytes) = some 32 := by kernel_rfl
  obtain ⟨i, hi, hb⟩ := Option.map_eq_some_iff.1 h
  exact ⟨i, hi, hb⟩
/-- How much room there is: 1 to 32. -/
def roomOf (room : Int) : Nat := (max 1 (min room 32)).toNat
theorem roomOf_le (room : Int) : 1 ≤ roomOf room ∧ roomOf room ≤ 32 := by unfold roomOf; omega
theorem mkChan (n : Nat) (h : n ≤ 32) (w : World) : (Instr.makeChan 48 (.int .i64 (n : Int))).run Try.prog w = .ok (.chan (some w.heap.size)) (w.alloc (.chan n #[] false 0 0 false)) := by
  obtain ⟨i, hi, hb⟩ := bytes30
  simpa using run_makeChan (P := Try.prog) (w := w) Try.underlying48 hi .i64 n (by omega) (by rw [hb]; omega)

def NewPost (room : Int) (w : World) (e : Ending) (w' : World) : Prop :=
  ∃ p c, e = .returned (.pointer (some ⟨p, 0, none⟩)) ∧ NetIs w' p c (roomOf room) [] ∧ w.heap.size ≤ p ∧ w.heap.size ≤ c ∧ Below w.heap.size w w'

theorem roomOf_lo {room : Int} (h : room ≤ 1) : roomOf room = 1 := by unfold roomOf; omega
theorem roomOf_hi {room : Int} (h : 32 ≤ room) : roomOf room = 32 := by unfold roomOf; omega
theorem roomOf_mid {n : Nat} (h : 1 < n) (h' : n ≤ 32) : roomOf (n : Int) = n := by unfold roomOf; omega
theorem new_post (n : Nat) (room : Int) (h : roomOf room = n) (w : World) : NewPost room w (.returned (.pointer (some ⟨w.heap.size + 1, 0, none⟩))) ((w.alloc (.chan n #[] false 0 0 false)).alloc (.cells #[.chan (some w.heap.size)] 50)) := by
  refine ⟨w.heap.size + 1, w.heap.size, rfl, ⟨?_, 0, 0, ?_⟩, by omega, by omega, ((Below.refl _ _).alloc (Nat.le_refl _) _).alloc (by simp) _⟩
  · have := heap_alloc_new (w.alloc (.chan n #[] false 0 0 false)) (.cells #[.chan (some w.heap.size)] 50)
    simpa using this
  · rw [Below.heap_alloc _ _ _ (by simp), h]
    exact heap_alloc_new w _

set_option maxHeartbeats 400000 in
theorem new_any (room : Int) (w : World) : Calls Try.prog 8 #[.int .i64 room] w (NewPost room w) := by
  by_cases h1 : room ≤ 1
  · have hp := new_post 1 room (roomOf_lo h1) w
    have hmk : ∀ w : World, (Instr.makeChan 48 (.int .i64 1)).run Try.prog w = .ok (.chan (some w.heap.size)) (w.alloc (.chan 1 #[] false 0 0 false)) := mkChan 1 (by omega)
    have h2 : room ≤ 32 := by omega
    have h3 : ¬ 1 < room := by omega
    go_enter Try.func8, Try.ntmps8
    go_wp2
    go_ret
    exact hp
  by_cases h2 : room ≤ 32
  · have h3 : 1 < room := by omega
    obtain ⟨n, rfl⟩ := Int.eq_ofNat_of_zero_le (show 0 ≤ room by omega)
    have hp := new_post n n (roomOf_mid (by omega) (by omega)) w
    have hmk := mkChan n (by omega)
    go_enter Try.func8, Try.ntmps8
    go_wp2
    go_ret
    exact hp
  · have hp := new_post 32 room (roomOf_hi (by omega)) w
    have hmk : ∀ w : World, (Instr.makeChan 48 (.int .i64 32)).run Try.prog w = .ok (.chan (some w.heap.size)) (w.alloc (.chan 32 #[] false 0 0 false)) := mkChan 32 (by omega)
    go_enter Try.func8, Try.ntmps8
    go_wp2
    go_ret
    exact hp

set_option maxHeartbeats 400000 in
theorem len_any (p c cap : Nat) (l : List Msg) (w : World) (h : NetIs w p c cap l) :
    Calls Try.prog 20 #[.pointer (some ⟨p, 0, none⟩)] w fun e w' => e = .returned (.int .i64 l.length) ∧ w = w' := by
  have hcell := h.cell
  obtain ⟨s, r, hc⟩ := h.2
  have hlen := fun ty => run_len_chan (P := Try.prog) 48 ty Try.underlying48 hc
  clear h hc
  go_enter Try.func20, Try.ntmps20
  go_wp2
  go_ret
  exact ⟨by simp, rfl⟩
end Go.Proofs.Ytfedndlmlbgboaa
