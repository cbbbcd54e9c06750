/- Turn, Drop, All, Twice of a Net, from the contracts of Take, Send and Len. -/
import Derived.Test.YtfedndlmlbgboaaTake
namespace Go.Proofs.Ytfedndlmlbgboaa
open Go.RowKit Go.Conc

def DropPost (p c cap : Nat) (l : List Msg) (w : World) (e : Ending) (w' : World) : Prop :=
  e = .returned (.bool (!l.isEmpty)) ∧ NetIs w' p c cap l.tail ∧ But c w w'

/-- What Take tells, as a fact that the walk does not look into. -/
def TakeSaid (p c cap : Nat) (l : List Msg) (w w' : World) : Prop := NetIs w' p c cap l.tail ∧ But c w w'

theorem take_at (p c cap : Nat) (l : List Msg) (w : World) (h : Hid (NetIs w p c cap l)) :
    Calls Try.prog 12 #[.pointer (some ⟨p, 0, none⟩)] w fun e w' =>
      e = .returned (.tuple #[.agg #[.int .i64 (l.headD msg0).to, .int .i64 (l.headD msg0).epoch, .int .i64 (l.headD msg0).seq, .int .i64 (l.headD msg0).commit], .bool (!l.isEmpty)]) ∧ TakeSaid p c cap l w w' :=
  take_any p c cap l w h.out

set_option maxHeartbeats 400000 in
theorem drop_any (p c cap : Nat) (l : List Msg) (w : World) (h : NetIs w p c cap l) :
    Calls Try.prog 16 #[.pointer (some ⟨p, 0, none⟩)] w (DropPost p c cap l w) := by
  have hlt := h.lt
  have h1 := Lib.hid h
  clear h
  go_enter Try.func16, Try.ntmps16
  go_wp2_with fail
  refine (take_at p c cap l _ h1).mono ?_
  rintro e w1 ⟨rfl, hs⟩
  have hz := hs.2.size
  generalize l.headD msg0 = m
  go_wp2_with fail
  go_ret
  exact ⟨rfl, hs.1.below ((Below.refl _ _).alloc (Nat.le_refl _) _) (by omega) (by omega), hs.2.alloc _⟩

def TurnPost (p c cap : Nat) (l : List Msg) (w : World) (e : Ending) (w' : World) : Prop :=
  e = .returned (.bool (!l.isEmpty)) ∧ NetIs w' p c cap (l.tail ++ l.take 1) ∧ But c w w'

set_option maxHeartbeats 400000 in
theorem turn_any (p c cap : Nat) (l : List Msg) (w : World) (h : NetIs w p c cap l) (hl : l.length ≤ cap) :
    Calls Try.prog 14 #[.pointer (some ⟨p, 0, none⟩)] w (TurnPost p c cap l w) := by
  have hlt := h.lt
  have h1 := Lib.hid h
  clear h
  cases l with
  | nil =>
    go_enter Try.func14, Try.ntmps14
    go_wp2_with fail
    refine (take_at p c cap [] _ h1).mono ?_
    rintro e w1 ⟨rfl, hs⟩
    have hz := hs.2.size
    simp only [List.isEmpty_nil, Bool.not_true]
    go_wp2_with fail
    go_ret
    exact ⟨rfl, hs.1.below ((Below.refl _ _).alloc (Nat.le_refl _) _) (by omega) (by omega), hs.2.alloc _⟩
  | cons m l =>
    go_enter Try.func14, Try.ntmps14
    go_wp2_with fail
    refine (take_at p c cap (m :: l) _ h1).mono ?_
    rintro e w1 ⟨rfl, hs⟩
    have hz := hs.2.size
    simp only [List.isEmpty_cons, Bool.not_false, List.headD_cons]
    go_wp2_with fail
    have hn : NetIs (w1.alloc (.cells #[.int .i64 m.to, .int .i64 m.epoch, .int .i64 m.seq, .int .i64 m.commit] 30)) p c cap l :=
      hs.1.below ((Below.refl _ _).alloc (Nat.le_refl _) _) (by omega) (by omega)
    refine (send_any p c cap l m _ hn).mono ?_
    rintro e w2 ⟨rfl, hn2, hb2⟩
    have hr : l.length < cap := by simp at hl; omega
    rw [if_pos hr] at hn2
    have H2 := Lib.hid hn2
    have B2 := Lib.hid ((hs.2.alloc _).trans hb2)
    clear hn2 hb2 hn hs
    go_wp2_with fail
    go_ret
    exact ⟨rfl, by simpa using H2.out, B2.out⟩

end Go.Proofs.Ytfedndlmlbgboaa
