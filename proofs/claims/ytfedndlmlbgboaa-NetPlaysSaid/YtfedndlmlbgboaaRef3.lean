/- The reference's Net: Drop, Turn, Twice. -/
import Derived.Test.YtfedndlmlbgboaaRef2
namespace Go.Proofs.Ytfedndlmlbgboaa
open Go.RowKit Go.Conc

theorem RefIs.lt {w : World} {q room : Nat} {l : List Msg} (h : RefIs w q room l) : q < w.heap.size := (Array.getElem?_eq_some_iff.1 h.choose_spec.1).1
theorem RefIs.ext {w w' : World} {q room : Nat} {l : List Msg} (h : RefIs w q room l) (hE : Ext w w') : RefIs w' q room l := by
  obtain ⟨v, h1, h2⟩ := h
  exact ⟨v, hE.heap h1, hE.owns h2⟩

theorem rtake_any (q room : Nat) (l : List Msg) (w : World) (h : RefIs w q room l) (h32 : l.length ≤ 32) :
    Calls Try.prog 13 #[.pointer (some ⟨q, 0, none⟩)] w (RTakePost q room l w) := by
  cases l with
  | nil => exact rtake_none q room w h
  | cons m l => exact rtake_some q room m l w h (by simp at h32; omega)

def RTakeSaid (q room : Nat) (l : List Msg) (w w' : World) : Prop := RefIs w' q room l.tail ∧ Below q w w'
theorem rtake_at (q room : Nat) (l : List Msg) (w : World) (h : Hid (RefIs w q room l)) (h32 : l.length ≤ 32) :
    Calls Try.prog 13 #[.pointer (some ⟨q, 0, none⟩)] w fun e w' =>
      e = .returned (.tuple #[.agg #[.int .i64 (l.headD msg0).to, .int .i64 (l.headD msg0).epoch, .int .i64 (l.headD msg0).seq, .int .i64 (l.headD msg0).commit], .bool (!l.isEmpty)]) ∧ RTakeSaid q room l w w' :=
  (rtake_any q room l w h.out h32).mono fun _ _ ⟨h1, h2, h3, _⟩ => ⟨h1, h2, h3⟩

def RDropPost (q room : Nat) (l : List Msg) (w : World) (e : Ending) (w' : World) : Prop :=
  e = .returned (.bool (!l.isEmpty)) ∧ RefIs w' q room l.tail ∧ Below q w w'

set_option maxHeartbeats 400000 in
theorem rdrop_any (q room : Nat) (l : List Msg) (w : World) (h : RefIs w q room l) (h32 : l.length ≤ 32) :
    Calls Try.prog 17 #[.pointer (some ⟨q, 0, none⟩)] w (RDropPost q room l w) := by
  have h1 := Lib.hid h
  have hq := h.lt
  clear h
  go_enter Try.func17, Try.ntmps17
  go_wp2_with fail
  refine (rtake_at q room l _ h1 h32).mono ?_
  rintro e w1 ⟨rfl, hs⟩
  have hz := hs.2.size
  generalize l.headD msg0 = m
  go_wp2_with fail
  go_ret
  exact ⟨rfl, hs.1.ext (ext_alloc _ _), hs.2.alloc (by omega) _⟩

def RTurnPost (q room : Nat) (l : List Msg) (w : World) (e : Ending) (w' : World) : Prop :=
  e = .returned (.bool (!l.isEmpty)) ∧ RefIs w' q room (l.tail ++ l.take 1) ∧ Below q w w'

set_option maxHeartbeats 400000 in
theorem rturn_any (q room : Nat) (l : List Msg) (w : World) (h : RefIs w q room l) (h32 : l.length ≤ 32) :
    Calls Try.prog 15 #[.pointer (some ⟨q, 0, none⟩)] w (RTurnPost q room l w) := by
  have h1 := Lib.hid h
  have hq := h.lt
  clear h
  cases l with
  | nil =>
    go_enter Try.func15, Try.ntmps15
    go_wp2_with fail
    refine (rtake_at q room [] _ h1 h32).mono ?_
    rintro e w1 ⟨rfl, hs⟩
    have hz := hs.2.size
    simp only [List.isEmpty_nil, Bool.not_true]
    go_wp2_with fail
    go_ret
    exact ⟨rfl, hs.1.ext (ext_alloc _ _), hs.2.alloc (by omega) _⟩
  | cons m l =>
    simp only [List.length_cons] at h32
    obtain ⟨i0, hi, hz0, hz1, hz2⟩ := info_parts Try.info30
    go_enter Try.func15, Try.ntmps15
    go_wp2_with fail
    refine (rtake_at q room (m :: l) _ h1 (by simp; omega)).mono ?_
    rintro e w1 ⟨rfl, hs⟩
    have hz := hs.2.size
    simp only [List.isEmpty_cons, Bool.not_false, List.headD_cons]
    obtain ⟨⟨v, hq1, ho1⟩, hb1⟩ := hs
    simp only [List.tail_cons] at ho1
    obtain ⟨ao, cp, rfl⟩ := (Reads.of_owns ho1).shape
    have c1 : w1.cell? ⟨q, 0, none⟩ = some (.slice ao l.length cp) := by simp [World.cell?, hq1]
    have HQ := Lib.hid hq1
    have HO := Lib.hid ho1
    have HB := Lib.hid hb1
    have hqz : q < w1.heap.size := by omega
    clear hq1 ho1 hb1
    go_wp2_with fail
    refine wp_region_any (by kernel_rfl) ?_
    change wpAny _ _ _ _ _ _ _ (World.drew _)
    refine Go.Rely.takeD 0 (some 11) (.pointer (some ⟨q, 0, none⟩)) rfl rfl (by kernel_rfl) (by kernel_rfl) (by kernel_rfl) (fun _ _ _ h => h) (Or.inl ⟨by rfl, fun w => by go_simp⟩) ?_
    simp only [Act.put, List.setIfInBounds_toArray, List.set_cons_zero, List.set_cons_succ]
    refine Go.Rely.takeD 1 (some 12) (.pointer (some ⟨q, 0, none⟩)) rfl rfl (by kernel_rfl) (by kernel_rfl) (by kernel_rfl) (fun _ _ _ h => h) (Or.inl ⟨by rfl, fun w => by go_simp⟩) ?_
    simp only [Act.put, List.setIfInBounds_toArray, List.set_cons_zero, List.set_cons_succ]
    refine Go.Rely.takeD 2 (some 13) (.pointer (some ⟨q, 0, none⟩)) rfl rfl (by kernel_rfl) (by kernel_rfl) (by kernel_rfl) (fun _ _ _ h => h) (Or.inl ⟨by rfl, fun w => by go_simp⟩) ?_
    simp only [Act.put, List.setIfInBounds_toArray, List.set_cons_zero, List.set_cons_succ]
    refine Go.Rely.takeD 3 (some 14) (.pointer (some ⟨q, 0, none⟩)) rfl rfl (by kernel_rfl) (by kernel_rfl) (by kernel_rfl) (fun _ _ _ h => h) (Or.inl ⟨by rfl, fun w => by go_simp⟩) ?_
    simp only [Act.put, List.setIfInBounds_toArray, List.set_cons_zero, List.set_cons_succ]
    refine Go.Rely.rely_use 7 [(4, some 15), (5, some 16), (6, some 17)] Ext
      [fun v _ => v = .slice ao l.length cp,
       fun v _ => v = .agg #[.int .i64 m.to, .int .i64 m.epoch, .int .i64 m.seq, .int .i64 m.commit],
       fun v w => ∃ B, v = .slice (some ⟨B, 0, none⟩) 1 1 ∧ w.heap[B]? = some (.cells #[.int .i64 m.to, .int .i64 m.epoch, .int .i64 m.seq, .int .i64 m.commit] 30 (0, 0))]
      ext_refl ext_trans ⟨fun v w w' h _ => h, fun v w w' h _ => h, fun v w w' ⟨B, h1, h2⟩ hR => ⟨B, h1, hR.heap h2⟩, trivial⟩ (by kernel_rfl) (by rfl) ⟨?s4, ?s5, ?s6, trivial⟩ ?fin
    case s4 =>
      intro o ho vs W hR hT K hK
      simp only [List.getElem?_toArray, List.getElem?_cons_succ, List.getElem?_cons_zero, Option.some.injEq] at ho
      subst ho
      rw [if_pos (by rfl)]
      simp only [Go.Rely.putsO, Act.put, List.setIfInBounds_toArray, List.set_cons_zero, List.set_cons_succ] at hK ⊢
      clear hT
      have hE : Ext w1 W := ext_trans _ _ _ (ext_drew' (ext_alloc _ _)) hR
      have hc0 : W.cell? ⟨q, 0, none⟩ = some (.slice ao l.length cp) := hE.cell c1
      go_simp
      exact hK _ _ (ext_refl _) rfl
    case s5 =>
      intro o ho vs W hR hT K hK
      simp only [List.getElem?_toArray, List.getElem?_cons_succ, List.getElem?_cons_zero, Option.some.injEq] at ho
      subst ho
      rw [if_pos (by rfl)]
      simp only [Go.Rely.putsO, Act.put, List.setIfInBounds_toArray, List.set_cons_zero, List.set_cons_succ] at hK ⊢
      clear hT
      have b0 : W.cell? ⟨w1.heap.size, 0, none⟩ = some (.int .i64 m.to) := hR.cell (by simp)
      have b1 : W.cell? ⟨w1.heap.size, 1, none⟩ = some (.int .i64 m.epoch) := hR.cell (by simp)
      have b2 : W.cell? ⟨w1.heap.size, 2, none⟩ = some (.int .i64 m.seq) := hR.cell (by simp)
      have b3 : W.cell? ⟨w1.heap.size, 3, none⟩ = some (.int .i64 m.commit) := hR.cell (by simp)
      go_simp
      exact hK _ _ (ext_refl _) rfl
    case s6 =>
      intro o ho vs W hR hT K hK
      simp only [List.getElem?_toArray, List.getElem?_cons_succ, List.getElem?_cons_zero, Option.some.injEq] at ho
      subst ho
      have h7 : vs 5 = .agg #[.int .i64 m.to, .int .i64 m.epoch, .int .i64 m.seq, .int .i64 m.commit] := hT.get 5 (by kernel_rfl)
      rw [if_pos (by rfl)]
      simp only [Go.Rely.putsO, Act.put, List.setIfInBounds_toArray, List.set_cons_zero, List.set_cons_succ] at hK ⊢
      clear hT
      rw [h7] at hK ⊢
      go_simp
      exact hK _ _ (ext_alloc _ _) ⟨_, rfl, heap_alloc_new _ _⟩
    case fin =>
      intro vs W hR hT
      have h4 : vs 4 = .slice ao l.length cp := hT 4
      obtain ⟨B, h8, hB⟩ : ∃ B, vs 6 = .slice (some ⟨B, 0, none⟩) 1 1 ∧ W.heap[B]? = some (.cells #[.int .i64 m.to, .int .i64 m.epoch, .int .i64 m.seq, .int .i64 m.commit] 30 (0, 0)) := hT 6
      have hE : Ext w1 W := ext_trans _ _ _ (ext_drew' (ext_alloc _ _)) hR
      have hqW := hE.heap HQ.out
      have hoW := hE.owns HO.out
      have hszW := hE.size
      clear hT
      simp only [Go.Rely.putsO, Act.put, List.setIfInBounds_toArray, List.set_cons_zero, List.set_cons_succ, h4, h8, List.drop_succ_cons, List.drop_zero]
      refine wpList_append_own _ rfl (.tmp 15) (.tmp 17) 37 rfl (q + 1) 30 i0 _ 4 32 Try.underlying37 hi hz0 hz1 hz2 rfl (by decide) _ l.length (flat l) (by rfl) hoW ⟨B, 0, none⟩ 1 1 m.cells (by rfl) rfl
        (World.news_of_block hB) (fun u hu => cells_one (l := [m]) u (by simpa [flat] using hu)) (by unfold maxLen; omega) (by omega) (by omega) ?_
      intro v' w2 hown hgrow _
      obtain ⟨g2, cp2, rfl, _, _⟩ := hown.form (by omega)
      have hrow : ∀ k, (Value.slice ao l.length cp).ownBlock = some k → q + 1 ≤ k := fun k hk => (hoW.lt k hk).1
      have hq2 : w2.heap[q]? = some (.cells #[.slice ao l.length cp, .int .i64 room] 39 (0, 0)) := by
        rw [hgrow.block q (by omega) (fun e => by have := hrow q e.symm; omega)]; exact hqW
      have hB2 : Below q w w2 := (HB.out.trans (Below.mono hE (by omega))).grown hgrow (by omega) (fun k hk => by have := hrow k hk; omega)
      have c2 : w2.cell? ⟨q, 0, none⟩ = some (.slice ao l.length cp) := by simp [World.cell?, hq2]
      have f2 : w2.frozen? ⟨q, 0, none⟩ = false := by simp [World.frozen?, hq2]
      have hP : RTurnPost q room (m :: l) w (.returned (.bool true)) (w2.setCell ⟨q, 0, none⟩ (.slice (some ⟨g2, 0, none⟩) (l.length + 1) cp2)) := by
        refine ⟨rfl, ?_, hB2.setCell (Nat.le_refl _) _⟩
        refine RefIs.put hq2 ?_
        simp only [List.tail_cons, List.take_succ_cons, List.take_zero]
        rw [flat_append]
        simpa [flat] using hown
      have HP := Lib.hid hP
      clear hP hB2 hE hq2 hrow hgrow hown hqW hoW hB HQ HO HB hR c1
      go_wp2_with fail
      go_ret
      exact HP.out

def RTwicePost (q room : Nat) (l : List Msg) (w : World) (e : Ending) (w' : World) : Prop :=
  e = .returned (.int .i64 (twiceErr room l)) ∧ RefIs w' q room (twiceList room l) ∧ Below q w w'

set_option maxHeartbeats 400000 in
theorem rtwice_any (q room : Nat) (l : List Msg) (w : World) (h : RefIs w q room l) (h32 : l.length ≤ 32) (hr32 : room ≤ 32) :
    Calls Try.prog 19 #[.pointer (some ⟨q, 0, none⟩)] w (RTwicePost q room l w) := by
  have h1 := Lib.hid h
  have hqz := h.lt
  obtain ⟨v, hq, ho⟩ := h
  cases l with
  | nil =>
    obtain ⟨ao, cp, rfl⟩ := (Reads.of_owns ho).shape
    have c0 : w.cell? ⟨q, 0, none⟩ = some (.slice ao 0 cp) := by simp [World.cell?, hq]
    clear hq ho
    go_enter Try.func19, Try.ntmps19
    go_wp2_with fail
    go_ret
    exact ⟨rfl, h1.out, Below.refl _ _⟩
  | cons m l =>
    simp only [List.length_cons] at h32
    obtain ⟨g, cp, rfl, hcp, hg, hg2, hc⟩ := ownsRow_cell ho (by simp)
    simp only [List.length_cons] at hcp hq
    have c0 : w.cell? ⟨q, 0, none⟩ = some (.slice (some ⟨g, 0, none⟩) (l.length + 1) cp) := by simp [World.cell?, hq]
    have b0 := hc 0 (.int .i64 m.to) rfl
    have b1 := hc 1 (.int .i64 m.epoch) rfl
    have b2 := hc 2 (.int .i64 m.seq) rfl
    have b3 := hc 3 (.int .i64 m.commit) rfl
    have hm : l.length + 1 ≤ 9223372036854775807 := by omega
    have hne : ((↑(l.length + 1) : Int) == 0) = false := by simp; omega
    clear hq ho hc
    go_enter Try.func19, Try.ntmps19
    go_wp2_with fail
    refine (rsend_any q room (m :: l) m _ h1.out hr32).mono ?_
    rintro e w2 ⟨rfl, hn2, hb2⟩
    have HS : Hid (RTwicePost q room (m :: l) w (.returned (.int .i64 (if (m :: l).length < room then 0 else 2))) w2) := by
      refine Lib.hid ⟨rfl, ?_, hb2⟩
      simpa [twiceList] using hn2
    clear hn2 hb2 b0 b1 b2 b3
    generalize (if (m :: l).length < room then (0 : Int) else 2) = x at *
    go_wp2_with fail
    go_ret
    exact HS.out
end Go.Proofs.Ytfedndlmlbgboaa
