/- Whether two rows of messages are one. -/
import Derived.Test.YtfedndlmlbgboaaTwice
namespace Go.Proofs.Ytfedndlmlbgboaa
open Go.RowKit Go.Conc

/-- The cells of a row of messages stand from block b, place o on. -/
def CellsAt (w : World) (b o : Nat) (l : List Msg) : Prop := ∀ k m, l[k]? = some m →
    w.cell? ⟨b, o + k * 4, none⟩ = some (.int .i64 m.to) ∧ w.cell? ⟨b, o + k * 4 + 1, none⟩ = some (.int .i64 m.epoch) ∧
    w.cell? ⟨b, o + k * 4 + 2, none⟩ = some (.int .i64 m.seq) ∧ w.cell? ⟨b, o + k * 4 + 3, none⟩ = some (.int .i64 m.commit)

/-- A value reads as a row of messages. -/
def RowAt (w : World) (v : Value) (l : List Msg) : Prop :=
  (l = [] ∧ ∃ a cp, v = .slice a 0 cp) ∨ ∃ b o cp, v = .slice (some ⟨b, o, none⟩) l.length cp ∧ l.length ≤ cp ∧ CellsAt w b o l

theorem guard30 : Try.prog.eqGuardType Try.prog.depth 30 = false := by kernel_rfl
theorem fields30 : (Try.prog.fieldsOf 30).toList.map (fun f => (f.name, f.type, f.offset)) = [("To", 3, 0), ("Epoch", 3, 1), ("Seq", 3, 2), ("Commit", 3, 3)] := by kernel_rfl
theorem stood30 : Try.prog.stoodInHeld 30 = false := by kernel_rfl
theorem under30 : Try.prog.underlying 30 = some (.struct (Try.prog.fieldsOf 30)) := by kernel_rfl

theorem eqIn30 (x y : Msg) (w : World) : (Op.equalIn 10000 30 x.val y.val).run Try.prog w = .ok (decide (x = y)) w := by
  obtain ⟨x0, x1, x2, x3⟩ := x
  obtain ⟨y0, y1, y2, y3⟩ := y
  unfold Msg.val
  rw [run_equalIn_struct w 9999 30 _ _ under30 stood30]
  have hf := fields30
  generalize (Try.prog.fieldsOf 30).toList = fs at hf
  rcases fs with _ | ⟨f0, _ | ⟨f1, _ | ⟨f2, _ | ⟨f3, _ | ⟨f4, fs⟩⟩⟩⟩⟩ <;> simp at hf
  obtain ⟨⟨a1, a2, a3⟩, ⟨b1, b2, b3⟩, ⟨c1, c2, c3⟩, ⟨d1, d2, d3⟩⟩ := hf
  simp only [Op.eqFields, a1, a2, a3, b1, b2, b3, c1, c2, c3, d1, d2, d3]
  simp [go_sem]
  by_cases h0 : x0 = y0 <;> by_cases h1 : x1 = y1 <;> by_cases h2 : x2 = y2 <;> by_cases h3 : x3 = y3 <;> simp [h0, h1, h2, h3]

theorem neq30_yes (x : Msg) (w : World) : (binOp .neq 30 (.agg #[.int .i64 x.to, .int .i64 x.epoch, .int .i64 x.seq, .int .i64 x.commit]) (.agg #[.int .i64 x.to, .int .i64 x.epoch, .int .i64 x.seq, .int .i64 x.commit])).run Try.prog w = .ok (.bool false) w := by
  have h := eqIn30 x x w
  rw [run_neq_struct]
  simp only [Msg.val] at h
  rw [h]; simp
theorem neq30_no (x y : Msg) (hxy : x ≠ y) (w : World) : (binOp .neq 30 (.agg #[.int .i64 x.to, .int .i64 x.epoch, .int .i64 x.seq, .int .i64 x.commit]) (.agg #[.int .i64 y.to, .int .i64 y.epoch, .int .i64 y.seq, .int .i64 y.commit])).run Try.prog w = .ok (.bool true) w := by
  have h := eqIn30 x y w
  rw [run_neq_struct]
  simp only [Msg.val] at h
  rw [h]; simp [hxy]
theorem guardAt30 (xs ys : Array Value) (a b : Operand) (w : World) : (eqGuard .neq 30 a b (.agg xs) (.agg ys)).run Try.prog w = .ok () w := run_eqGuard_agg w .neq 30 a b xs ys guard30

set_option maxHeartbeats 1000000 in
theorem msgs_cells (n ca cb b b' o o' : Nat) (la lb : List Msg) (w : World) (hn : n = la.length) (hn' : n = lb.length) (h32 : n ≤ 1000) (h1 : n ≤ ca) (h2 : n ≤ cb)
    (ha : CellsAt w b o la) (hb : CellsAt w b' o' lb) :
    Calls Try.prog 21 #[.slice (some ⟨b, o, none⟩) n ca, .slice (some ⟨b', o', none⟩) n cb] w fun e w' => e = .returned (.bool (decide (la = lb))) ∧ ∃ k, w' = w.drewN k := by
  have HA := Lib.hid ha
  have HB := Lib.hid hb
  have hN := Lib.hid hn
  have hN' := Lib.hid hn'
  clear ha hb hn hn'
  go_enter Try.func21, Try.ntmps21
  go_wp2_with fail
  go_loopw [5] (fun i wr => ∃ k : Nat, k ≤ n ∧ i = .int .i64 k ∧ Hid (la.take k = lb.take k) ∧ Hid (∃ j, wr = w.drewN j)) (fun i _ => n - (intOf i).toNat)
  case atStart => exact ⟨0, Nat.zero_le _, rfl, Lib.hid rfl, Lib.hid ⟨0, rfl⟩⟩
  case round =>
    obtain ⟨k, hk, rfl, hr, hw⟩ := hrel
    obtain ⟨j, rfl⟩ := hw.out
    by_cases hlt : k < n
    · have ea : la[k]? = some (la[k]'(by rw [← hN.out]; exact hlt)) := List.getElem?_eq_getElem _
      have eb : lb[k]? = some (lb[k]'(by rw [← hN'.out]; exact hlt)) := List.getElem?_eq_getElem _
      generalize (la[k]'(by rw [← hN.out]; exact hlt)) = x at ea
      generalize (lb[k]'(by rw [← hN'.out]; exact hlt)) = y at eb
      obtain ⟨x0, x1, x2, x3⟩ := HA.out k x ea
      obtain ⟨y0, y1, y2, y3⟩ := HB.out k y eb
      have hg := guardAt30
      by_cases hxy : x = y
      · subst hxy
        have HE : Hid (la.take (k + 1) = lb.take (k + 1)) := Lib.hid (by rw [List.take_add_one, List.take_add_one, ea, eb, hr.out])
        have hq := neq30_yes x
        clear ea eb
        go_wp2_with fail
        go_quiet (fail)
        go_wp2_with fail
        go_round
        case rel => exact ⟨k + 1, by omega, by go_num, HE, Lib.hid ⟨_, rfl⟩⟩
        case measure => simp [intOf]; omega
      · have hq := neq30_no x y hxy
        have hd : decide (la = lb) = false := by
          refine decide_eq_false fun h => hxy ?_
          rw [h] at ea
          exact Option.some.inj (ea.symm.trans eb)
        have HD := Lib.hid hd
        clear hxy ea eb hd
        go_wp2_with fail
        go_quiet (fail)
        go_wp2_with fail
        go_ret
        exact ⟨by rw [HD.out]; rfl, _, World.drewN_drewN _ _ _⟩
    · have hk' : k = n := by omega
      subst hk'
      have hd : decide (la = lb) = true := by
        have h := hr.out
        rw [hN.out, List.take_length, ← hN.out, hN'.out, List.take_length] at h
        exact decide_eq_true h
      have HD := Lib.hid hd
      clear hd
      go_wp2_with fail
      go_ret
      exact ⟨by rw [HD.out]; rfl, _, rfl⟩

set_option maxHeartbeats 400000 in
theorem msgs_apart (a a' : Option Addr) (n n' ca cb : Nat) (hne : n ≠ n') (w : World) :
    Calls Try.prog 21 #[.slice a n ca, .slice a' n' cb] w fun e w' => e = .returned (.bool false) ∧ w = w' := by
  have hb : (((n : Int) != (n' : Int))) = true := by rw [bne_iff_ne]; omega
  go_enter Try.func21, Try.ntmps21
  go_wp2_with fail
  go_ret
  exact ⟨rfl, rfl⟩

set_option maxHeartbeats 400000 in
theorem msgs_none (a a' : Option Addr) (ca cb : Nat) (w : World) :
    Calls Try.prog 21 #[.slice a 0 ca, .slice a' 0 cb] w fun e w' => e = .returned (.bool true) ∧ w = w' := by
  go_enter Try.func21, Try.ntmps21
  go_wp2_with fail
  go_loop [5] (fun i => i = .int .i64 0) (fun _ => 0)
  case atStart => rfl
  case round =>
    subst hrel
    go_wp2_with fail
    go_ret
    exact ⟨rfl, rfl⟩

theorem RowAt.shape {w : World} {v : Value} {l : List Msg} (h : RowAt w v l) : ∃ a cp, v = .slice a l.length cp := by
  rcases h with ⟨rfl, a, cp, rfl⟩ | ⟨b, o, cp, rfl, _⟩
  · exact ⟨a, cp, rfl⟩
  · exact ⟨_, _, rfl⟩

/-- Whether two rows of messages are one: as the lists are. -/
theorem msgs_any (va vb : Value) (la lb : List Msg) (w : World) (ha : RowAt w va la) (hb : RowAt w vb lb) (h32 : la.length ≤ 1000) (h32' : lb.length ≤ 1000) :
    Calls Try.prog 21 #[va, vb] w fun e w' => e = .returned (.bool (decide (la = lb))) ∧ ∃ k, w' = w.drewN k := by
  by_cases hl : la.length = lb.length
  · rcases ha with ⟨rfl, a, cp, rfl⟩ | ⟨b, o, cp, rfl, hc, ha⟩
    · have : lb = [] := by cases lb with
        | nil => rfl
        | cons x l => simp at hl
      subst this
      obtain ⟨a', cp', rfl⟩ := hb.shape
      exact (msgs_none a a' cp cp' w).mono fun e w' ⟨he, hw⟩ => ⟨by rw [he]; rfl, 0, by rw [← hw]; rfl⟩
    · rcases hb with ⟨rfl, a, cp', rfl⟩ | ⟨b', o', cp', rfl, hc', hb⟩
      · have : la = [] := by cases la with
          | nil => rfl
          | cons x l => simp at hl
        subst this
        exact (msgs_none (some ⟨b, o, none⟩) a cp cp' w).mono fun e w' ⟨he, hw⟩ => ⟨by rw [he]; rfl, 0, by rw [← hw]; rfl⟩
      · rw [← hl]
        exact msgs_cells la.length cp cp' b b' o o' la lb w rfl hl h32 hc (by omega) ha hb
  · obtain ⟨a, cp, rfl⟩ := ha.shape
    obtain ⟨a', cp', rfl⟩ := hb.shape
    refine (msgs_apart a a' la.length lb.length cp cp' hl w).mono fun e w' ⟨he, hw⟩ => ⟨?_, 0, by rw [← hw]; rfl⟩
    rw [he, decide_eq_false]
    intro h
    rw [h] at hl
    exact hl rfl
end Go.Proofs.Ytfedndlmlbgboaa
