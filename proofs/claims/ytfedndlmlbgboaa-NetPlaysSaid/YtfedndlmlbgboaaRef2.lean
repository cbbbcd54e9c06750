/- The reference's Net: Take, Turn, Drop, Twice. -/
import Derived.Test.YtfedndlmlbgboaaRef
namespace Go.Proofs.Ytfedndlmlbgboaa
open Go.RowKit Go.Conc

theorem wpList_append_fresh {P : Program} {ops : Array Oper} {rest : List Oper} {o : Oper} {a : Act} {w : World} {Q : Exit → Act → World → Prop} (hgd : o.guard = none)
    (s x : Operand) (t : TypeId) (hop : o.op = Op.call { callee := Callee.builtin Builtin.append, args := #[s, x], argTypes := #[t, t] })
    (e : TypeId) (i : TypeInfo) (z : Value) (size bytes : Nat) (h1 : P.underlying t = some (.slice e)) (h2 : P.info? e = some i) (h3 : i.zero = some z) (h4 : i.size = size) (h5 : i.bytes = bytes) (h6 : z.cells.size = size) (h7 : 0 < size)
    (base B : Nat) (hs : a.eval s = .slice (some ⟨B, 0, none⟩) 0 0) (hB : base ≤ B) (hBb : w.heap[B]? = some (.cells #[] e (0, 0))) (hbase : base ≤ w.heap.size)
    (sv : Value) (n : Nat) (xs : List Value) (hx : a.eval x = sv) (hr : Reads w size sv n xs) (h1c : ∀ u ∈ xs, u.oneCell' = true)
    (b1 : n ≤ maxLen) (b2 : n * bytes ≤ 140737488355328)
    (hK : ∀ v' w', Ext w w' → w'.ownsRow base e size v' n xs → wpList P ops Q rest (a.put o.dst v') w') : wpList P ops Q (o :: rest) a w :=
  wpList_plain hgd fun _ h => wp_append_fresh s x t hop e i z size bytes h1 h2 h3 h4 h5 h6 h7 base B hs hB hBb hbase sv n xs hx hr h1c b1 b2 fun v' w' h2 h3 => h _ _ (hK v' w' h2 h3)

theorem fact_set_ne {w : World} {p a : Addr} {u v : Value} (h : w.cell? a = some v) (hne : a.block ≠ p.block) : (w.setCell p u).cell? a = some v := by
  rw [← h]; exact World.cell?_of_block (Below.heap_setCell w p u a.block hne)
theorem owns_set {w : World} {base e size n : Nat} {v : Value} {xs : List Value} (h : w.ownsRow base e size v n xs) {p : Addr} (hp : p.block < base) (u : Value) : (w.setCell p u).ownsRow base e size v n xs := ownsRow_setCell_below h hp u

theorem But.at' {w : World} (q i : Nat) (v : Value) : But q w (w.setCell ⟨q, i, none⟩ v) :=
  ⟨rfl, rfl, rfl, by simp [World.setCell], fun k _ hk => Below.heap_setCell w ⟨q, i, none⟩ v k hk⟩
theorem But.below_new {c : Nat} {a w w' : World} (h : But c a w) (hb : Below a.heap.size w w') : But c a w' :=
  ⟨hb.os.trans h.os, hb.tape.trans h.tape, hb.output.trans h.output, Nat.le_trans h.size hb.size, fun k hk hc => (hb.block k hk).trans (h.block k hk hc)⟩

def RTakePost (q room : Nat) (l : List Msg) (w : World) (e : Ending) (w' : World) : Prop :=
  e = .returned (.tuple #[.agg #[.int .i64 (l.headD msg0).to, .int .i64 (l.headD msg0).epoch, .int .i64 (l.headD msg0).seq, .int .i64 (l.headD msg0).commit], .bool (!l.isEmpty)]) ∧ RefIs w' q room l.tail ∧ Below q w w' ∧ But q w w'

set_option maxHeartbeats 400000 in
theorem rtake_none (q room : Nat) (w : World) (h : RefIs w q room []) :
    Calls Try.prog 13 #[.pointer (some ⟨q, 0, none⟩)] w (RTakePost q room [] w) := by
  have h0 := h
  obtain ⟨v, hq, ho⟩ := h
  obtain ⟨ao, cp, rfl⟩ := (Reads.of_owns ho).shape
  have hqz : q < w.heap.size := (Array.getElem?_eq_some_iff.1 hq).1
  have c0 : w.cell? ⟨q, 0, none⟩ = some (.slice ao 0 cp) := by simp [World.cell?, hq]
  have H0 := Lib.hid h0
  clear hq ho h0
  go_enter Try.func13, Try.ntmps13
  go_wp2_with fail
  refine bodyPost_ret (v := .tuple #[.agg #[.int .i64 0, .int .i64 0, .int .i64 0, .int .i64 0], .bool false]) (by simp [results, Try.results13, go_sem]) rfl ⟨rfl, ?_, Below.mono (ext_alloc _ _) (by omega), But.of_below (ext_alloc _ _)⟩
  obtain ⟨v', h1, h2⟩ := H0.out
  exact ⟨v', (ext_alloc w _).heap h1, (ext_alloc w _).owns h2⟩

set_option maxHeartbeats 400000 in
theorem rtake_some (q room : Nat) (m : Msg) (l : List Msg) (w : World) (h : RefIs w q room (m :: l)) (h32 : l.length ≤ 32) :
    Calls Try.prog 13 #[.pointer (some ⟨q, 0, none⟩)] w (RTakePost q room (m :: l) w) := by
  obtain ⟨v, hq, ho⟩ := h
  obtain ⟨g, cp, rfl, hcp, hg, hg2, hc⟩ := ownsRow_cell ho (by simp)
  have hqz : q < w.heap.size := (Array.getElem?_eq_some_iff.1 hq).1
  simp only [List.length_cons] at hcp hq
  have c0 : w.cell? ⟨q, 0, none⟩ = some (.slice (some ⟨g, 0, none⟩) (l.length + 1) cp) := by simp [World.cell?, hq]
  have b0 := hc 0 (.int .i64 m.to) rfl
  have b1 := hc 1 (.int .i64 m.epoch) rfl
  have b2 := hc 2 (.int .i64 m.seq) rfl
  have b3 := hc 3 (.int .i64 m.commit) rfl
  have hqz1 : q < w.heap.size + 1 := by omega
  have hqz2 : q < w.heap.size + 1 + 1 := by omega
  have hqne : q ≠ w.heap.size := by omega
  have hqne1 : q ≠ w.heap.size + 1 := by omega
  have HQ := Lib.hid hq
  have HC := Lib.hid hc
  have hm : l.length + 1 ≤ 9223372036854775807 := by omega
  have hne : ((↑(l.length + 1) : Int) == 0) = false := by simp; omega
  clear hq ho hc
  obtain ⟨i0, hi, hz0, hz1, hz2⟩ := info_parts Try.info30
  have hrd : ∀ W : World, Ext w W → ∀ sv, sv = .slice (if cp = 1 then some ⟨g, 0, none⟩ else some ⟨g, 4, none⟩) l.length (cp - 1) → Reads W 4 sv l.length (flat l) := by
    intro W hE sv hsv
    subst hsv
    refine ⟨flat_length l, .inr ?_⟩
    by_cases hcp1 : cp = 1
    · have hl : l = [] := List.eq_nil_of_length_eq_zero (by omega)
      subst hl
      rw [if_pos hcp1]
      exact ⟨_, _, rfl, fun j u hj => by simp [flat] at hj⟩
    · rw [if_neg hcp1]
      refine ⟨_, _, rfl, fun j u hj => ?_⟩
      have hadd : (⟨g, 4, none⟩ : Addr).add j = ⟨g, 4 + j, none⟩ := by unfold Addr.add; split <;> simp_all
      rw [hadd]
      refine hE.cell (HC.out (4 + j) u ?_)
      have : flat (m :: l) = m.cells ++ flat l := by simp [flat]
      rw [this, List.getElem?_append_right (by simp [Msg.cells])]
      simpa [Msg.cells] using hj
  have HRD := Lib.hid hrd
  clear hrd
  by_cases hcp1 : cp = 1
  · subst hcp1
    have hl0 : l = [] := List.eq_nil_of_length_eq_zero (by omega)
    subst hl0
    simp only [List.length_nil, Nat.zero_add] at *
    go_enter Try.func13, Try.ntmps13
    go_wp2_with (at_builtin; refine wpList_append_fresh rfl (.tmp 19) (.tmp 24) 37 rfl 30 i0 _ 4 32 Try.underlying37 hi hz0 hz1 hz2 rfl (by decide) (w.heap.size + 2) (w.heap.size + 2) rfl (by omega) ?hz ?hb _ 0 (flat []) rfl ?hr cells_one ?hm1 ?hm2 ?hn)
    case hb => simp
    case hz =>
      have := heap_alloc_new ((w.alloc (.cells #[.int .i64 0, .int .i64 0, .int .i64 0, .int .i64 0] 30)).alloc (.cells #[.int .i64 m.to, .int .i64 m.epoch, .int .i64 m.seq, .int .i64 m.commit] 30)) (.cells #[] 30)
      simpa using this
    case hm1 => unfold maxLen; omega
    case hm2 => omega
    case hr => exact HRD.out _ (ext_trans _ _ _ (ext_trans _ _ _ (ext_alloc _ _) (ext_alloc _ _)) (ext_alloc _ _)) _ rfl
    case hn =>
      intro v' w1 hE hown
      obtain ⟨ao2, cp2, rfl⟩ := (Reads.of_owns hown).shape
      have hE0 : Ext w w1 := ext_trans _ _ _ (ext_trans _ _ _ (ext_trans _ _ _ (ext_alloc _ _) (ext_alloc _ _)) (ext_alloc _ _)) hE
      have hq1 := hE0.heap HQ.out
      have c1 : w1.cell? ⟨q, 0, none⟩ = some (.slice (some ⟨g, 0, none⟩) 1 1) := by simp [World.cell?, hq1]
      have f1 : w1.frozen? ⟨q, 0, none⟩ = false := by simp [World.frozen?, hq1]
      have hz0' : w1.heap[w.heap.size]? = some (.cells #[.int .i64 0, .int .i64 0, .int .i64 0, .int .i64 0] 30 (0, 0)) :=
        (ext_trans _ _ _ (ext_trans _ _ _ (ext_alloc _ _) (ext_alloc _ _)) hE).heap (heap_alloc_new w _)
      have hz1' : w1.heap[w.heap.size + 1]? = some (.cells #[.int .i64 m.to, .int .i64 m.epoch, .int .i64 m.seq, .int .i64 m.commit] 30 (0, 0)) := by
        have := (ext_trans _ _ _ (ext_alloc _ _) hE).heap (heap_alloc_new (w.alloc _) _)
        simpa using this
      have r0 : w1.cell? ⟨w.heap.size, 0, none⟩ = some (.int .i64 0) := by simp [World.cell?, hz0']
      have r1 : w1.cell? ⟨w.heap.size, 1, none⟩ = some (.int .i64 0) := by simp [World.cell?, hz0']
      have r2 : w1.cell? ⟨w.heap.size, 2, none⟩ = some (.int .i64 0) := by simp [World.cell?, hz0']
      have r3 : w1.cell? ⟨w.heap.size, 3, none⟩ = some (.int .i64 0) := by simp [World.cell?, hz0']
      have rf : ∀ i, w1.frozen? ⟨w.heap.size, i, none⟩ = false := by intro i; simp [World.frozen?, hz0']
      have d0 : w1.cell? ⟨w.heap.size + 1, 0, none⟩ = some (.int .i64 m.to) := by simp [World.cell?, hz1']
      have d1 : w1.cell? ⟨w.heap.size + 1, 1, none⟩ = some (.int .i64 m.epoch) := by simp [World.cell?, hz1']
      have d2 : w1.cell? ⟨w.heap.size + 1, 2, none⟩ = some (.int .i64 m.seq) := by simp [World.cell?, hz1']
      have d3 : w1.cell? ⟨w.heap.size + 1, 3, none⟩ = some (.int .i64 m.commit) := by simp [World.cell?, hz1']
      have H1 := Lib.hid hq1
      have HE := Lib.hid hE0
      have HW := Lib.hid hown
      clear hq1 hz0' hz1' hE hE0 hown HQ HC HRD c0 b0 b1 b2 b3
      go_wp2_with fail
      refine bodyPost_ret (v := .tuple #[.agg #[.int .i64 m.to, .int .i64 m.epoch, .int .i64 m.seq, .int .i64 m.commit], .bool true]) (by simp [*, results, Try.results13, go_sem]) rfl ⟨rfl, ?_, ?_, ?_⟩
      · refine ⟨.slice ao2 0 cp2, ?_, ?_⟩
        · rw [Below.heap_setCell _ _ _ _ hqne, Below.heap_setCell _ _ _ _ hqne, Below.heap_setCell _ _ _ _ hqne, Below.heap_setCell _ _ _ _ hqne, set_block H1.out]
          simp
        · have := owns_set (owns_set (owns_set (owns_set (owns_set HW.out (p := ⟨q, 0, none⟩) (show q < w.heap.size + 2 by omega) (.slice ao2 0 cp2)) (p := ⟨w.heap.size, 0, none⟩) (show w.heap.size < w.heap.size + 2 by omega) (.int .i64 m.to))
            (p := ⟨w.heap.size, 1, none⟩) (show w.heap.size < w.heap.size + 2 by omega) (.int .i64 m.epoch)) (p := ⟨w.heap.size, 2, none⟩) (show w.heap.size < w.heap.size + 2 by omega) (.int .i64 m.seq)) (p := ⟨w.heap.size, 3, none⟩) (show w.heap.size < w.heap.size + 2 by omega) (.int .i64 m.commit)
          exact owns_mono this (by omega)
      · refine (Below.mono HE.out (by omega)).trans ?_
        exact Below.trans ((Below.refl _ _).setCell (p := ⟨q, 0, none⟩) (Nat.le_refl _) _) (set4 (by omega) _ _ _ _)
      · have hb1 := But.of_below (c := q) HE.out
        have hb2 : But q w1 (w1.setCell ⟨q, 0, none⟩ (.slice ao2 0 cp2)) := But.at' _ _ _
        have hb3 := set4 (B := w.heap.size) (Nat.le_refl _) (w := w1.setCell ⟨q, 0, none⟩ (.slice ao2 0 cp2)) (.int .i64 m.to) (.int .i64 m.epoch) (.int .i64 m.seq) (.int .i64 m.commit)
        exact But.below_new (hb1.trans hb2) hb3

  · have hcp2 : 1 < cp := by omega
    go_enter Try.func13, Try.ntmps13
    go_wp2_with (at_builtin; refine wpList_append_fresh rfl (.tmp 19) (.tmp 24) 37 rfl 30 i0 _ 4 32 Try.underlying37 hi hz0 hz1 hz2 rfl (by decide) (w.heap.size + 2) (w.heap.size + 2) rfl (by omega) ?hz ?hb _ l.length (flat l) rfl ?hr cells_one ?hm1 ?hm2 ?hn)
    case hb => simp
    case hz =>
      have := heap_alloc_new ((w.alloc (.cells #[.int .i64 0, .int .i64 0, .int .i64 0, .int .i64 0] 30)).alloc (.cells #[.int .i64 m.to, .int .i64 m.epoch, .int .i64 m.seq, .int .i64 m.commit] 30)) (.cells #[] 30)
      simpa using this
    case hm1 => unfold maxLen; omega
    case hm2 => omega
    case hr => exact HRD.out _ (ext_trans _ _ _ (ext_trans _ _ _ (ext_alloc _ _) (ext_alloc _ _)) (ext_alloc _ _)) _ (by rw [if_neg hcp1]; rfl)
    case hn =>
      intro v' w1 hE hown
      obtain ⟨ao2, cp2, rfl⟩ := (Reads.of_owns hown).shape
      have hE0 : Ext w w1 := ext_trans _ _ _ (ext_trans _ _ _ (ext_trans _ _ _ (ext_alloc _ _) (ext_alloc _ _)) (ext_alloc _ _)) hE
      have hq1 := hE0.heap HQ.out
      have c1 : w1.cell? ⟨q, 0, none⟩ = some (.slice (some ⟨g, 0, none⟩) (l.length + 1) cp) := by simp [World.cell?, hq1]
      have f1 : w1.frozen? ⟨q, 0, none⟩ = false := by simp [World.frozen?, hq1]
      have hz0' : w1.heap[w.heap.size]? = some (.cells #[.int .i64 0, .int .i64 0, .int .i64 0, .int .i64 0] 30 (0, 0)) :=
        (ext_trans _ _ _ (ext_trans _ _ _ (ext_alloc _ _) (ext_alloc _ _)) hE).heap (heap_alloc_new w _)
      have hz1' : w1.heap[w.heap.size + 1]? = some (.cells #[.int .i64 m.to, .int .i64 m.epoch, .int .i64 m.seq, .int .i64 m.commit] 30 (0, 0)) := by
        have := (ext_trans _ _ _ (ext_alloc _ _) hE).heap (heap_alloc_new (w.alloc _) _)
        simpa using this
      have r0 : w1.cell? ⟨w.heap.size, 0, none⟩ = some (.int .i64 0) := by simp [World.cell?, hz0']
      have r1 : w1.cell? ⟨w.heap.size, 1, none⟩ = some (.int .i64 0) := by simp [World.cell?, hz0']
      have r2 : w1.cell? ⟨w.heap.size, 2, none⟩ = some (.int .i64 0) := by simp [World.cell?, hz0']
      have r3 : w1.cell? ⟨w.heap.size, 3, none⟩ = some (.int .i64 0) := by simp [World.cell?, hz0']
      have rf : ∀ i, w1.frozen? ⟨w.heap.size, i, none⟩ = false := by intro i; simp [World.frozen?, hz0']
      have d0 : w1.cell? ⟨w.heap.size + 1, 0, none⟩ = some (.int .i64 m.to) := by simp [World.cell?, hz1']
      have d1 : w1.cell? ⟨w.heap.size + 1, 1, none⟩ = some (.int .i64 m.epoch) := by simp [World.cell?, hz1']
      have d2 : w1.cell? ⟨w.heap.size + 1, 2, none⟩ = some (.int .i64 m.seq) := by simp [World.cell?, hz1']
      have d3 : w1.cell? ⟨w.heap.size + 1, 3, none⟩ = some (.int .i64 m.commit) := by simp [World.cell?, hz1']
      have H1 := Lib.hid hq1
      have HE := Lib.hid hE0
      have HW := Lib.hid hown
      clear hq1 hz0' hz1' hE hE0 hown HQ HC HRD c0 b0 b1 b2 b3
      go_wp2_with fail
      refine bodyPost_ret (v := .tuple #[.agg #[.int .i64 m.to, .int .i64 m.epoch, .int .i64 m.seq, .int .i64 m.commit], .bool true]) (by simp [*, results, Try.results13, go_sem]) rfl ⟨rfl, ?_, ?_, ?_⟩
      · refine ⟨.slice ao2 l.length cp2, ?_, ?_⟩
        · rw [Below.heap_setCell _ _ _ _ hqne, Below.heap_setCell _ _ _ _ hqne, Below.heap_setCell _ _ _ _ hqne, Below.heap_setCell _ _ _ _ hqne, set_block H1.out]
          simp
        · have := owns_set (owns_set (owns_set (owns_set (owns_set HW.out (p := ⟨q, 0, none⟩) (show q < w.heap.size + 2 by omega) (.slice ao2 l.length cp2)) (p := ⟨w.heap.size, 0, none⟩) (show w.heap.size < w.heap.size + 2 by omega) (.int .i64 m.to))
            (p := ⟨w.heap.size, 1, none⟩) (show w.heap.size < w.heap.size + 2 by omega) (.int .i64 m.epoch)) (p := ⟨w.heap.size, 2, none⟩) (show w.heap.size < w.heap.size + 2 by omega) (.int .i64 m.seq)) (p := ⟨w.heap.size, 3, none⟩) (show w.heap.size < w.heap.size + 2 by omega) (.int .i64 m.commit)
          exact owns_mono this (by omega)
      · refine (Below.mono HE.out (by omega)).trans ?_
        exact Below.trans ((Below.refl _ _).setCell (p := ⟨q, 0, none⟩) (Nat.le_refl _) _) (set4 (by omega) _ _ _ _)
      · have hb1 := But.of_below (c := q) HE.out
        have hb2 : But q w1 (w1.setCell ⟨q, 0, none⟩ (.slice ao2 l.length cp2)) := But.at' _ _ _
        have hb3 := set4 (B := w.heap.size) (Nat.le_refl _) (w := w1.setCell ⟨q, 0, none⟩ (.slice ao2 l.length cp2)) (.int .i64 m.to) (.int .i64 m.epoch) (.int .i64 m.seq) (.int .i64 m.commit)
        exact But.below_new (hb1.trans hb2) hb3
end Go.Proofs.Ytfedndlmlbgboaa
