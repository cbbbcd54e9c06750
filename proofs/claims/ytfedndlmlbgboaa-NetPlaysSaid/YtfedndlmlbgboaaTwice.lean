/- Twice of a Net, and whether two rows of messages are one. -/
import Derived.Test.YtfedndlmlbgboaaAll
import Derived.BigQuiet
import Derived.Deep.QuietTactic
namespace Go.Proofs.Ytfedndlmlbgboaa
open Go.RowKit Go.Conc

def twiceErr (cap : Nat) : List Msg → Int
  | [] => 3
  | _ :: l => if l.length + 1 < cap then 0 else 2
def twiceList (cap : Nat) : List Msg → List Msg
  | [] => []
  | m :: l => if l.length + 1 < cap then m :: l ++ [m] else m :: l

def TwicePost (p c cap : Nat) (l : List Msg) (w : World) (e : Ending) (w' : World) : Prop :=
  e = .returned (.int .i64 (twiceErr cap l)) ∧ NetIs w' p c cap (twiceList cap l) ∧ But c w w'

/-- A row of messages that a call made: where its first number stands. -/
theorem ownsRow_cell {w : World} {base e size n : Nat} {v : Value} {xs : List Value} (h : w.ownsRow base e size v n xs) (hn : 0 < n) :
    ∃ g cp, v = .slice (some ⟨g, 0, none⟩) n cp ∧ n ≤ cp ∧ base ≤ g ∧ g < w.heap.size ∧ ∀ j u, xs[j]? = some u → w.cell? ⟨g, j, none⟩ = some u := by
  obtain ⟨hl, h | ⟨g, cp, cur, rfl, hg, hb, hnc, _, hsz, rfl⟩⟩ := h
  · omega
  · refine ⟨g, cp, rfl, hnc, hg, (Array.getElem?_eq_some_iff.1 hb).1, fun j u hj => ?_⟩
    rw [List.getElem?_take] at hj
    split at hj
    · simp only [World.cell?, hb]
      simp at hj ⊢
      exact hj
    · simp at hj

set_option maxHeartbeats 400000 in
theorem twice_any (p c cap : Nat) (l : List Msg) (w : World) (h : NetIs w p c cap l) (hl : l.length ≤ cap) (hcap : cap ≤ 32) :
    Calls Try.prog 18 #[.pointer (some ⟨p, 0, none⟩)] w (TwicePost p c cap l w) := by
  have hlt := h.lt
  cases l with
  | nil =>
    have hA := all_any p c cap [] w h hl hcap
    go_enter Try.func18, Try.ntmps18
    go_wp2_with fail
    refine hA.mono ?_
    rintro e w1 ⟨v, rfl, ho, hn, hb⟩
    have hv : v = .slice none 0 0 ∨ ∃ a cp, v = .slice (some a) 0 cp := by
      rcases ho.2 with h | ⟨g, cp, cur, rfl, _⟩
      · exact .inl h.1
      · exact .inr ⟨_, _, rfl⟩
    have HN := Lib.hid hn
    have HB := Lib.hid hb
    clear hn hb ho hA h
    rcases hv with rfl | ⟨a, cp, rfl⟩
    · go_wp2_with fail
      go_ret
      exact ⟨rfl, HN.out, HB.out⟩
    · go_wp2_with fail
      go_ret
      exact ⟨rfl, HN.out, HB.out⟩
  | cons m l =>
    have hA := all_any p c cap (m :: l) w h hl hcap
    go_enter Try.func18, Try.ntmps18
    go_wp2_with fail
    refine hA.mono ?_
    rintro e w1 ⟨v, rfl, ho, hn, hb⟩
    obtain ⟨g, cp, rfl, hcp, hg, hg2, hc⟩ := ownsRow_cell ho (by simp)
    have b0 := hc 0 (.int .i64 m.to) rfl
    have b1 := hc 1 (.int .i64 m.epoch) rfl
    have b2 := hc 2 (.int .i64 m.seq) rfl
    have b3 := hc 3 (.int .i64 m.commit) rfl
    have HN := Lib.hid hn
    have HB := Lib.hid hb
    have hz := hb.size
    simp only [List.length_cons] at hl hcp ⊢
    clear hn hb ho hA h hc
    have hm : l.length + 1 ≤ 9223372036854775807 := by omega
    have hne : ((↑(l.length + 1) : Int) == 0) = false := by simp; omega
    go_wp2_with fail
    refine (send_any p c cap (m :: l) m _ HN.out).mono ?_
    rintro e w2 ⟨rfl, hn2, hb2⟩
    have HS : Hid (TwicePost p c cap (m :: l) w (.returned (.int .i64 (if (m :: l).length < cap then 0 else 2))) w2) := by
      refine Lib.hid ⟨rfl, ?_, HB.out.trans hb2⟩
      simpa [twiceList] using hn2
    clear hn2 hb2 HN HB b0 b1 b2 b3
    generalize (if (m :: l).length < cap then (0 : Int) else 2) = x at *
    go_wp2_with fail
    go_ret
    exact HS.out

end Go.Proofs.Ytfedndlmlbgboaa
