/- Take of a Net, step by step. -/
import Derived.Test.YtfedndlmlbgboaaSend
namespace Go.Proofs.Ytfedndlmlbgboaa
open Go.RowKit Go.Conc

theorem set4 {B b : Nat} (hb : B ≤ b) {w : World} (v0 v1 v2 v3 : Value) : Below B w ((((w.setCell ⟨b, 0, none⟩ v0).setCell ⟨b, 1, none⟩ v1).setCell ⟨b, 2, none⟩ v2).setCell ⟨b, 3, none⟩ v3) :=
  ((((Below.refl B w).setCell (p := ⟨b, 0, none⟩) hb v0).setCell (p := ⟨b, 1, none⟩) hb v1).setCell (p := ⟨b, 2, none⟩) hb v2).setCell (p := ⟨b, 3, none⟩) hb v3

def TakePost (p c cap : Nat) (l : List Msg) (w : World) (e : Ending) (w' : World) : Prop :=
  e = .returned (.tuple #[(l.headD msg0).val, .bool (!l.isEmpty)]) ∧ NetIs w' p c cap l.tail ∧ But c w w'

set_option maxRecDepth 100000 in
theorem take_some (p c cap : Nat) (m : Msg) (l : List Msg) (w : World) (h : NetIs w p c cap (m :: l)) :
    Calls Try.prog 12 #[.pointer (some ⟨p, 0, none⟩)] w (TakePost p c cap (m :: l) w) := by
  have hlt := h.lt
  obtain ⟨hp1, s, r, hc1⟩ := h
  have hpc : w.cell? ⟨p, 0, none⟩ = some (.chan (some c)) := NetIs.cell ⟨hp1, s, r, hc1⟩
  have hW : ∃ W : World, W = w.alloc (.cells #[.int .i64 0, .int .i64 0, .int .i64 0, .int .i64 0] 30) ∧ W.heap[c]? = some (.chan cap ⟨List.map Msg.val (m :: l)⟩ false s r false) ∧ NetIs W p c cap (m :: l) ∧ But c w W := by
    refine ⟨_, rfl, ?_, ?_, (But.refl c w).alloc _⟩
    · rw [Below.heap_alloc _ _ _ hlt.2.1]; exact hc1
    · exact NetIs.keep ⟨hp1, s, r, hc1⟩ (Below.heap_alloc _ _ _ hlt.1) (Below.heap_alloc _ _ _ hlt.2.1)
  obtain ⟨W, hWe, hWc, hWn, hWb⟩ := hW
  have hsz : p < w.heap.size := hlt.1
  refine calls_of_loneTo (fun cs => ?_) (by rintro _ ⟨h, _⟩; cases h)
  have e : Frame.enter Try.prog 12 #[.pointer (some ⟨p, 0, none⟩)] .normal = (base 12).at ⟨#[.pointer (some ⟨p, 0, none⟩), undef, undef, undef, undef, undef, undef, undef, undef, undef, undef, undef, undef, undef, undef], []⟩ [.code (Try.f12.body.getD .skip)] := by
    simp [Frame.enter, Frame.at, Try.func12, base, Try.f12]
  rw [e]
  clear e hp1 hc1
  refine LoneTo.goes (n := 60) ?_
  simp only [Try.f12, Option.getD_some]
  s_c stepG_seq
  s_reg
  s_op
  s_op
  s_c stepG_region_end
  s_c stepG_seq
  s_reg
  s_op
  s_op
  s_op
  s_op
  s_c stepG_region_end
  s_c stepG_seq
  s_reg
  s_stop
  rw [← hWe]
  have hbz : W.heap[w.heap.size]? = some (.cells #[.int .i64 0, .int .i64 0, .int .i64 0, .int .i64 0] 30) := by rw [hWe]; exact heap_alloc_new w _
  have hsW : W.heap.size = w.heap.size + 1 := by rw [hWe]; simp
  clear hWe
  refine LoneTo.step (step_lone_select_recv_buf (c := c) (z := .agg #[.int .i64 0, .int .i64 0, .int .i64 0, .int .i64 0]) (cap := cap) (buf := ⟨List.map Msg.val (m :: l)⟩) (closed := false) (s := s) (r := r) (tm := false)
    (stepG_comm (cases := #[rcase c (.agg #[.int .i64 0, .int .i64 0, .int .i64 0, .int .i64 0])]) (blocking := false) (shape := .select) (w' := W) rfl rfl (by decide) (by simp [go_sem, execOp, rcase, Act.eval]))
    hWc (by simp)) ?_
  have hput := hWn.put l s (r + 1)
  have hV : ∃ V : World, V = W.setChan c cap (Array.extract ⟨List.map Msg.val (m :: l)⟩ 1 (Array.size ⟨List.map Msg.val (m :: l)⟩)) false s (r + 1) false ∧ V.heap.size = w.heap.size + 1 ∧
      V.heap[w.heap.size]? = some (.cells #[.int .i64 0, .int .i64 0, .int .i64 0, .int .i64 0] 30) ∧ NetIs V p c cap l ∧ But c w V := by
    refine ⟨_, rfl, by rw [size_setChan]; exact hsW, ?_, ?_, hWb.setChan _ _ _ _ _ _⟩
    · rw [← hbz]; simp only [World.setChan]; rw [Array.getElem?_setIfInBounds_ne (by omega)]
    · have hx : (Array.extract ⟨List.map Msg.val (m :: l)⟩ 1 (Array.size ⟨List.map Msg.val (m :: l)⟩)) = ⟨List.map Msg.val l⟩ := by
        simp [List.take_of_length_le]
      rw [hx]; exact hput
  obtain ⟨V, hVe, hVs, hVz, hVn, hVb⟩ := hV
  rw [← hVe]
  clear hVe hput hWn hWb hWc hbz hsW
  have hm : (Array.getD ⟨List.map Msg.val (m :: l)⟩ 0 undef) = .agg #[.int .i64 m.to, .int .i64 m.epoch, .int .i64 m.seq, .int .i64 m.commit] := rfl
  rw [hm]
  clear hm
  have z0 : V.cell? ⟨w.heap.size, 0, none⟩ = some (.int .i64 0) := by simp [World.cell?, hVz]
  have z1 : V.cell? ⟨w.heap.size, 1, none⟩ = some (.int .i64 0) := by simp [World.cell?, hVz]
  have z2 : V.cell? ⟨w.heap.size, 2, none⟩ = some (.int .i64 0) := by simp [World.cell?, hVz]
  have z3 : V.cell? ⟨w.heap.size, 3, none⟩ = some (.int .i64 0) := by simp [World.cell?, hVz]
  have f0 : ∀ i, V.frozen? ⟨w.heap.size, i, none⟩ = false := by intro i; simp [World.frozen?, hVz]
  have hVl : w.heap.size < V.heap.size := by omega
  clear hVz
  rw [Frame.finish_at]
  walk_nrm
  refine LoneTo.goes (n := 60) ?_
  s_op
  s_op
  s_c stepG_region_end
  s_c stepG_block
  s_cond true
  s_c stepG_seq
  s_reg
  s_op
  s_op
  s_op
  s_c stepG_region_end
  s_c stepG_seq
  s_reg
  s_op
  s_op
  s_op
  s_c stepG_region_end
  s_c stepG_ret'
  s_stop
  refine LoneTo.done ⟨.returned (.tuple #[.agg #[.int .i64 m.to, .int .i64 m.epoch, .int .i64 m.seq, .int .i64 m.commit], .bool true]), _, rfl, ⟨rfl, ?_, ?_⟩, rfl, rfl, rfl, rfl, _, Try.func12, by simp [results, Try.f12, Frame.at, go_sem, z0, z1, z2, z3, hVl]⟩
  · refine hVn.below (B := w.heap.size) ?_ hlt.1 hlt.2.1
    exact Below.alloc (set4 (Nat.le_refl _) _ _ _ _) (by simp; omega) _
  · (repeat (first | exact hVb | refine But.alloc ?_ _ | refine But.setNew ?_ (Nat.le_refl _) _))

set_option maxRecDepth 100000 in
theorem take_none (p c cap : Nat) (w : World) (h : NetIs w p c cap []) :
    Calls Try.prog 12 #[.pointer (some ⟨p, 0, none⟩)] w (TakePost p c cap [] w) := by
  have hlt := h.lt
  obtain ⟨hp1, s, r, hc1⟩ := h
  have hpc : w.cell? ⟨p, 0, none⟩ = some (.chan (some c)) := NetIs.cell ⟨hp1, s, r, hc1⟩
  have hW : ∃ W : World, W = w.alloc (.cells #[.int .i64 0, .int .i64 0, .int .i64 0, .int .i64 0] 30) ∧ W.heap[c]? = some (.chan cap ⟨List.map Msg.val []⟩ false s r false) ∧ NetIs W p c cap [] ∧ But c w W := by
    refine ⟨_, rfl, ?_, ?_, (But.refl c w).alloc _⟩
    · rw [Below.heap_alloc _ _ _ hlt.2.1]; exact hc1
    · exact NetIs.keep ⟨hp1, s, r, hc1⟩ (Below.heap_alloc _ _ _ hlt.1) (Below.heap_alloc _ _ _ hlt.2.1)
  obtain ⟨W, hWe, hWc, hWn, hWb⟩ := hW
  have hsz : p < w.heap.size := hlt.1
  refine calls_of_loneTo (fun cs => ?_) (by rintro _ ⟨h, _⟩; cases h)
  have e : Frame.enter Try.prog 12 #[.pointer (some ⟨p, 0, none⟩)] .normal = (base 12).at ⟨#[.pointer (some ⟨p, 0, none⟩), undef, undef, undef, undef, undef, undef, undef, undef, undef, undef, undef, undef, undef, undef], []⟩ [.code (Try.f12.body.getD .skip)] := by
    simp [Frame.enter, Frame.at, Try.func12, base, Try.f12]
  rw [e]
  clear e hp1 hc1
  refine LoneTo.goes (n := 60) ?_
  simp only [Try.f12, Option.getD_some]
  s_c stepG_seq
  s_reg
  s_op
  s_op
  s_c stepG_region_end
  s_c stepG_seq
  s_reg
  s_op
  s_op
  s_op
  s_op
  s_c stepG_region_end
  s_c stepG_seq
  s_reg
  s_stop
  rw [← hWe]
  have hbz : W.heap[w.heap.size]? = some (.cells #[.int .i64 0, .int .i64 0, .int .i64 0, .int .i64 0] 30) := by rw [hWe]; exact heap_alloc_new w _
  clear hWe
  refine LoneTo.step (step_lone_select_default (c := c) (z := .agg #[.int .i64 0, .int .i64 0, .int .i64 0, .int .i64 0]) (cap := cap) (s := s) (r := r) (tm := false)
    (stepG_comm (cases := #[rcase c (.agg #[.int .i64 0, .int .i64 0, .int .i64 0, .int .i64 0])]) (blocking := false) (shape := .select) (w' := W) rfl rfl (by decide) (by simp [go_sem, execOp, rcase, Act.eval]))
    hWc) ?_
  have z0 : W.cell? ⟨w.heap.size, 0, none⟩ = some (.int .i64 0) := by simp [World.cell?, hbz]
  have z1 : W.cell? ⟨w.heap.size, 1, none⟩ = some (.int .i64 0) := by simp [World.cell?, hbz]
  have z2 : W.cell? ⟨w.heap.size, 2, none⟩ = some (.int .i64 0) := by simp [World.cell?, hbz]
  have z3 : W.cell? ⟨w.heap.size, 3, none⟩ = some (.int .i64 0) := by simp [World.cell?, hbz]
  have f0 : ∀ i, W.frozen? ⟨w.heap.size, i, none⟩ = false := by intro i; simp [World.frozen?, hbz]
  clear hbz hWc
  rw [Frame.finish_at]
  walk_nrm
  refine LoneTo.goes (n := 60) ?_
  s_op
  s_op
  s_c stepG_region_end
  s_c stepG_block
  s_cond false
  s_c stepG_seq
  s_reg
  s_op
  s_op
  s_op
  s_c stepG_region_end
  s_c stepG_ret'
  s_stop
  refine LoneTo.done ⟨.returned (.tuple #[.agg #[.int .i64 0, .int .i64 0, .int .i64 0, .int .i64 0], .bool false]), _, rfl, ⟨rfl, ?_, ?_⟩, rfl, rfl, rfl, rfl, _, Try.func12, by simp [results, Try.f12, Frame.at, go_sem, z0, z1, z2, z3]⟩
  · refine hWn.below (B := w.heap.size) ?_ hlt.1 hlt.2.1
    exact set4 (Nat.le_refl _) _ _ _ _
  · (repeat (first | exact hWb | refine But.alloc ?_ _ | refine But.setNew ?_ (Nat.le_refl _) _))

theorem take_any (p c cap : Nat) (l : List Msg) (w : World) (h : NetIs w p c cap l) :
    Calls Try.prog 12 #[.pointer (some ⟨p, 0, none⟩)] w (TakePost p c cap l w) := by
  cases l with
  | nil => exact take_none p c cap w h
  | cons m l => exact take_some p c cap m l w h

end Go.Proofs.Ytfedndlmlbgboaa
