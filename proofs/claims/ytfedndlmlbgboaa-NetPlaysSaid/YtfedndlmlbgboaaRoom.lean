/- The walk of NetRoom. -/
import Derived.Test.YtfedndlmlbgboaaSmall
namespace Go.Proofs.Ytfedndlmlbgboaa
open Go.RowKit Go.Conc

def LawPost (w : World) (e : Ending) (w' : World) : Prop := e = .returned (.bool true) ∧ Below w.heap.size w w'

theorem send_ok (p c cap : Nat) (l : List Msg) (m : Msg) (w : World) (h : NetIs w p c cap l) (hr : l.length < cap) :
    Calls Try.prog 10 #[.pointer (some ⟨p, 0, none⟩), .agg #[.int .i64 m.to, .int .i64 m.epoch, .int .i64 m.seq, .int .i64 m.commit]] w fun e w' => e = .returned (.int .i64 0) ∧ Hid (NetIs w' p c cap (l ++ [m]) ∧ But c w w') :=
  (send_any p c cap l m w h).mono fun e w' ⟨h1, h2, h3⟩ => by rw [if_pos hr] at h1 h2; exact ⟨h1, h2, h3⟩
theorem send_no (p c cap : Nat) (l : List Msg) (m : Msg) (w : World) (h : NetIs w p c cap l) (hr : ¬ l.length < cap) :
    Calls Try.prog 10 #[.pointer (some ⟨p, 0, none⟩), .agg #[.int .i64 m.to, .int .i64 m.epoch, .int .i64 m.seq, .int .i64 m.commit]] w fun e w' => e = .returned (.int .i64 2) ∧ Hid (NetIs w' p c cap l ∧ But c w w') :=
  (send_any p c cap l m w h).mono fun e w' ⟨h1, h2, h3⟩ => by rw [if_neg hr] at h1 h2; exact ⟨h1, h2, h3⟩

theorem twice_at {B : Prop} (p c k : Nat) (m : Msg) (w : World) (h : Hid (NetIs w p c k (List.replicate k m) ∧ B)) (h1 : 1 ≤ k) (h2 : k ≤ 32) :
    Calls Try.prog 18 #[.pointer (some ⟨p, 0, none⟩)] w fun e w' => e = .returned (.int .i64 2) ∧ Hid (NetIs w' p c k (List.replicate k m) ∧ But c w w') := by
  obtain ⟨j, rfl⟩ : ∃ j, k = j + 1 := ⟨k - 1, by omega⟩
  refine (twice_any p c (j + 1) _ w h.out.1 (by simp) h2).mono fun e w' ⟨h1, h2, h3⟩ => ?_
  simp only [List.replicate_succ, twiceErr, twiceList, List.length_replicate, Nat.lt_irrefl, if_false] at h1 h2 ⊢
  exact ⟨h1, h2, h3⟩

set_option maxRecDepth 100000 in
set_option maxHeartbeats 2000000 in
theorem room_walk (room : Int) (m : Msg) (drop : Bool) (w : World) :
    Calls Try.prog 6 #[.int .i64 room, .agg #[.int .i64 m.to, .int .i64 m.epoch, .int .i64 m.seq, .int .i64 m.commit], .bool drop] w (LawPost w) := by
  obtain ⟨hcp1, hcp2⟩ := roomOf_le room
  have hcases : (room ≤ 1 ∧ roomOf room ≤ 1) ∨ (1 < room ∧ room ≤ 32 ∧ (roomOf room : Int) ≤ room ∧ room ≤ roomOf room) ∨ (¬ room ≤ 32 ∧ 32 ≤ roomOf room) := by
    unfold roomOf; omega
  have hN := fun w => new_any room w
  have HN : Hid (∀ w, Calls Try.prog 8 #[.int .i64 room] w (NewPost room w)) := hN
  unfold NewPost at HN
  generalize roomOf room = cap at *
  clear hN
  go_enter Try.func6, Try.ntmps6
  go_wp2_with fail
  refine (small_any _).mono ?_
  rintro e w1 ⟨rfl, hb1⟩
  have hz1 := hb1.size
  have D1 : Hid (w1.heap[w.heap.size]? = some (.cells #[.int .i64 m.to, .int .i64 m.epoch, .int .i64 m.seq, .int .i64 m.commit] 30 (0, 0))) :=
    Lib.hid (Ext.heap hb1 (heap_alloc_new w _))
  have B1 : Hid (Below w.heap.size w w1) := Lib.hid (((Below.refl _ _).alloc (Nat.le_refl _) _).trans (Below.mono hb1 (by simp)))
  simp only [World.size_alloc] at hz1
  clear hb1
  go_wp2_with fail
  refine (HN.out _).mono ?_
  rintro e w2 ⟨p, c, rfl, hn, hp, hc, hb⟩
  have hz2 := hb.size
  have D2 := Lib.hid (Ext.heap hb D1.out)
  have B2 := Lib.hid (B1.out.trans (Below.mono hb (by omega)))
  have N2 := Lib.hid hn
  clear hn hb D1 B1 HN
  have x0 : w2.cell? ⟨w.heap.size, 0, none⟩ = some (.int .i64 m.to) := by simp [World.cell?, D2.out]
  have x1 : w2.cell? ⟨w.heap.size, 1, none⟩ = some (.int .i64 m.epoch) := by simp [World.cell?, D2.out]
  have x2 : w2.cell? ⟨w.heap.size, 2, none⟩ = some (.int .i64 m.seq) := by simp [World.cell?, D2.out]
  have x3 : w2.cell? ⟨w.heap.size, 3, none⟩ = some (.int .i64 m.commit) := by simp [World.cell?, D2.out]
  have X0 : ∀ wr, But c w2 wr → wr.cell? ⟨w.heap.size, 0, none⟩ = some (.int .i64 m.to) := fun wr hb => hb.cell x0 (by simp; omega)
  have X1 : ∀ wr, But c w2 wr → wr.cell? ⟨w.heap.size, 1, none⟩ = some (.int .i64 m.epoch) := fun wr hb => hb.cell x1 (by simp; omega)
  have X2 : ∀ wr, But c w2 wr → wr.cell? ⟨w.heap.size, 2, none⟩ = some (.int .i64 m.seq) := fun wr hb => hb.cell x2 (by simp; omega)
  have X3 : ∀ wr, But c w2 wr → wr.cell? ⟨w.heap.size, 3, none⟩ = some (.int .i64 m.commit) := fun wr hb => hb.cell x3 (by simp; omega)
  have HX0 := Lib.hid X0
  have HX1 := Lib.hid X1
  have HX2 := Lib.hid X2
  have HX3 := Lib.hid X3
  clear X0 X1 X2 X3 x0 x1 x2 x3 D2
  go_wp2_with fail
  go_loopw [9, 10] (fun ct i wr => ∃ k : Nat, k ≤ cap ∧ i = .int .i64 k ∧ ct = .int .i64 k ∧ Hid (NetIs wr p c cap (List.replicate k m) ∧ But c w2 wr)) (fun _ i _ => 100 - (intOf i).toNat)
  case atStart => exact ⟨0, Nat.zero_le _, rfl, rfl, Lib.hid ⟨N2.out, But.refl _ _⟩⟩
  case round =>
    obtain ⟨k, hk, rfl, rfl, hr⟩ := hrel
    have y0 := HX0.out wr hr.out.2
    have y1 := HX1.out wr hr.out.2
    have y2 := HX2.out wr hr.out.2
    have y3 := HX3.out wr hr.out.2
    by_cases hlt : k < cap
    · go_wp2_with fail
      refine (send_ok p c cap _ m _ hr.out.1 (by simpa using hlt)).mono ?_
      rintro e w3 ⟨rfl, hs⟩
      clear y0 y1 y2 y3
      go_wp2_with fail
      go_roundw
      case rel => exact ⟨k + 1, by omega, by go_num, by go_num, Lib.hid ⟨by rw [List.replicate_succ']; exact hs.out.1, hr.out.2.trans hs.out.2⟩⟩
      case measure => simp [intOf]; omega
    · obtain rfl : k = cap := by omega
      go_wp2_with fail
      refine (send_no p c k _ m _ hr.out.1 (by simp)).mono ?_
      rintro e w3 ⟨rfl, hs⟩
      clear y0 y1 y2 y3
      have H3 := Lib.hid (show NetIs w3 p c k (List.replicate k m) ∧ But c w2 w3 from ⟨hs.out.1, hr.out.2.trans hs.out.2⟩)
      clear hs hr
      rcases hcases with ⟨r1, r2⟩ | ⟨r1, r2, r3, r4⟩ | ⟨r1, r2⟩
      all_goals
        go_wp2_with fail
        refine (len_any p c k _ _ H3.out.1).mono ?_
        rintro e w4 ⟨rfl, rfl⟩
        simp only [List.length_replicate]
        go_wp2_with fail
        refine (twice_at p c k m _ H3 (by omega) (by omega)).mono ?_
        rintro e w4 ⟨rfl, hs⟩
        have H4 := Lib.hid (show NetIs w4 p c k (List.replicate k m) ∧ But c w2 w4 from ⟨hs.out.1, H3.out.2.trans hs.out.2⟩)
        clear hs
        go_wp2_with fail
        refine (all_any p c k _ _ H4.out.1 (by simp) (by omega)).mono ?_
        rintro e w5 ⟨v, rfl, ho, hn, hb⟩
        obtain ⟨ao, cp, rfl⟩ := (Reads.of_owns ho).shape
        have H5 := Lib.hid (show NetIs w5 p c k (List.replicate k m) ∧ But c w2 w5 from ⟨hn, H4.out.2.trans hb⟩)
        clear ho hn hb H4 H3
        simp only [List.length_replicate]
        cases drop with
        | true =>
          go_wp2_with fail
          refine (drop_any p c k _ _ H5.out.1).mono ?_
          rintro e w6 ⟨rfl, hn, hb⟩
          have H6 := Lib.hid (show NetIs w6 p c k (List.replicate (k - 1) m) ∧ But c w2 w6 from ⟨by simpa using hn, H5.out.2.trans hb⟩)
          have he : (!(List.replicate k m).isEmpty) = true := by simp; omega
          simp only [he]
          clear hn hb he
          have hk1 : ((k - 1 : Nat) : Int) = (k : Int) - 1 := by omega
          have y0 := HX0.out _ H6.out.2
          have y1 := HX1.out _ H6.out.2
          have y2 := HX2.out _ H6.out.2
          have y3 := HX3.out _ H6.out.2
          go_wp2_with fail
          refine (len_any p c k _ _ H6.out.1).mono ?_
          rintro e w7 ⟨rfl, rfl⟩
          rw [List.length_replicate, hk1]
          clear hk1
          go_wp2_with fail
          refine (send_ok p c k _ m _ H6.out.1 (by simp; omega)).mono ?_
          rintro e w7 ⟨rfl, hs⟩
          have H7 := Lib.hid (show NetIs w7 p c k (List.replicate k m) ∧ But c w2 w7 from ⟨by
            have := hs.out.1
            rw [← List.replicate_succ', show k - 1 + 1 = k by omega] at this
            exact this, H6.out.2.trans hs.out.2⟩)
          have z0 := HX0.out _ H7.out.2
          have z1 := HX1.out _ H7.out.2
          have z2 := HX2.out _ H7.out.2
          have z3 := HX3.out _ H7.out.2
          clear hs y0 y1 y2 y3 H6
          go_wp2_with fail
          refine (send_no p c k _ m _ H7.out.1 (by simp)).mono ?_
          rintro e w8 ⟨rfl, hs⟩
          have HP : Hid (LawPost w (.returned (.bool true)) w8) := Lib.hid ⟨rfl, B2.out.trans ((H7.out.2.trans hs.out.2).below (by omega) (by omega))⟩
          clear hs z0 z1 z2 z3 H7
          go_wp2_with fail
          go_ret
          exact HP.out
        | false =>
          go_wp2_with fail
          refine (take_at p c k _ _ (Lib.hid H5.out.1)).mono ?_
          rintro e w6 ⟨rfl, hs⟩
          have hd : (List.replicate k m).headD msg0 = m := by cases k with
            | zero => omega
            | succ k => rfl
          have he : (!(List.replicate k m).isEmpty) = true := by simp; omega
          simp only [he, hd]
          have H6 := Lib.hid (show NetIs (w6.alloc (.cells #[.int .i64 m.to, .int .i64 m.epoch, .int .i64 m.seq, .int .i64 m.commit] 30)) p c k (List.replicate (k - 1) m) ∧ But c w2 (w6.alloc (.cells #[.int .i64 m.to, .int .i64 m.epoch, .int .i64 m.seq, .int .i64 m.commit] 30)) from
            ⟨(show NetIs w6 p c k (List.replicate (k - 1) m) by simpa using hs.1).below (ext_alloc _ _) hs.1.lt.1 hs.1.lt.2.1, (H5.out.2.trans hs.2).alloc _⟩)
          have y0 := HX0.out _ H6.out.2
          have y1 := HX1.out _ H6.out.2
          have y2 := HX2.out _ H6.out.2
          have y3 := HX3.out _ H6.out.2
          clear hs he hd
          have hg := guardAt30
          have hq := neq30_yes m
          go_wp2_with fail
          clear hg hq
          have hk1 : ((k - 1 : Nat) : Int) = (k : Int) - 1 := by omega
          refine (len_any p c k _ _ H6.out.1).mono ?_
          rintro e w7 ⟨rfl, rfl⟩
          rw [List.length_replicate, hk1]
          clear hk1
          go_wp2_with fail
          refine (send_ok p c k _ m _ H6.out.1 (by simp; omega)).mono ?_
          rintro e w7 ⟨rfl, hs⟩
          have H7 := Lib.hid (show NetIs w7 p c k (List.replicate k m) ∧ But c w2 w7 from ⟨by
            have := hs.out.1
            rw [← List.replicate_succ', show k - 1 + 1 = k by omega] at this
            exact this, H6.out.2.trans hs.out.2⟩)
          have z0 := HX0.out _ H7.out.2
          have z1 := HX1.out _ H7.out.2
          have z2 := HX2.out _ H7.out.2
          have z3 := HX3.out _ H7.out.2
          clear hs y0 y1 y2 y3 H6
          go_wp2_with fail
          refine (send_no p c k _ m _ H7.out.1 (by simp)).mono ?_
          rintro e w8 ⟨rfl, hs⟩
          have HP : Hid (LawPost w (.returned (.bool true)) w8) := Lib.hid ⟨rfl, B2.out.trans ((H7.out.2.trans hs.out.2).below (by omega) (by omega))⟩
          clear hs z0 z1 z2 z3 H7
          go_wp2_with fail
          go_ret
          exact HP.out
end Go.Proofs.Ytfedndlmlbgboaa
