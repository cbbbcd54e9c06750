/- Send and Take of a Net, step by step. -/
import Derived.Test.YtfedndlmlbgboaaNew
namespace Go.Proofs.Ytfedndlmlbgboaa
open Go.RowKit Go.Conc

def SendPost (p c cap : Nat) (l : List Msg) (m : Msg) (w : World) (e : Ending) (w' : World) : Prop :=
  e = .returned (.int .i64 (if l.length < cap then 0 else 2)) ∧ NetIs w' p c cap (if l.length < cap then l ++ [m] else l) ∧ But c w w'

theorem res_s0 (a : Nat) (u z : Value) : commResult #[scase a u z] .select ((0 : Nat) : Int) undef false = .tuple #[goInt 0, .bool false] := by
  simp [commResult, scase, List.zipIdx_cons]

set_option maxRecDepth 100000 in
theorem send_room (p c cap : Nat) (l : List Msg) (m : Msg) (w : World) (h : NetIs w p c cap l) (hr : l.length < cap) :
    Calls Try.prog 10 #[.pointer (some ⟨p, 0, none⟩), m.val] w (SendPost p c cap l m w) := by
  have hlt := h.lt
  obtain ⟨hp1, s, r, hc1⟩ := h
  have hpc : w.cell? ⟨p, 0, none⟩ = some (.chan (some c)) := NetIs.cell ⟨hp1, s, r, hc1⟩
  have hW : ∃ W : World, W = w.alloc (.cells #[.int .i64 m.to, .int .i64 m.epoch, .int .i64 m.seq, .int .i64 m.commit] 30) ∧ W.heap[c]? = some (.chan cap ⟨l.map Msg.val⟩ false s r false) ∧ NetIs W p c cap l ∧ But c w W := by
    refine ⟨_, rfl, ?_, ?_, (But.refl c w).alloc _⟩
    · rw [Below.heap_alloc _ _ _ hlt.2.1]; exact hc1
    · exact NetIs.keep ⟨hp1, s, r, hc1⟩ (Below.heap_alloc _ _ _ hlt.1) (Below.heap_alloc _ _ _ hlt.2.1)
  obtain ⟨W, hWe, hWc, hWn, hWb⟩ := hW
  have hsz : p < w.heap.size := hlt.1
  refine calls_of_loneTo (fun cs => ?_) (by rintro _ ⟨h, _⟩; cases h)
  have e : Frame.enter Try.prog 10 #[.pointer (some ⟨p, 0, none⟩), m.val] .normal = (base 10).at ⟨#[.pointer (some ⟨p, 0, none⟩), m.val, undef, undef, undef, undef, undef, undef, undef, undef, undef, undef, undef], []⟩ [.code (Try.f10.body.getD .skip)] := by
    simp [Frame.enter, Frame.at, Try.func10, base, Try.f10]
  rw [e]
  clear e hp1 hc1
  simp only [Msg.val]
  refine LoneTo.goes (n := 60) ?_
  simp only [Try.f10, Option.getD_some]
  s_c stepG_seq
  s_reg
  s_op
  s_op
  s_c stepG_region_end
  s_c stepG_seq
  s_c stepG_seq
  s_reg
  s_op
  s_op
  s_op
  s_op
  s_c stepG_region_end
  s_reg
  s_op
  s_c stepG_region_end
  s_c stepG_seq
  s_reg
  s_stop
  rw [← hWe]
  clear hWe
  refine LoneTo.step (step_lone_select_send_room (c := c) (v := m.val) (z' := .agg #[.int .i64 0, .int .i64 0, .int .i64 0, .int .i64 0]) (cap := cap) (buf := ⟨l.map Msg.val⟩) (s := s) (r := r) (tm := false)
    (stepG_comm (cases := #[scase c m.val (.agg #[.int .i64 0, .int .i64 0, .int .i64 0, .int .i64 0])]) (blocking := false) (shape := .select) (w' := W) rfl rfl (by decide) (by simp [go_sem, execOp, scase, Act.eval, Msg.val]))
    hWc (by simpa using hr)) ?_
  rw [Frame.finish_at]
  walk_nrm
  refine LoneTo.goes (n := 60) ?_
  s_op
  s_op
  s_c stepG_region_end
  s_c stepG_block
  s_cond true
  s_c stepG_seq
  s_reg
  s_op
  s_c stepG_region_end
  s_c stepG_ret'
  s_stop
  have hput := hWn.put (l ++ [m]) (s + 1) r
  refine LoneTo.done ⟨.returned (.int .i64 0), _, rfl, ⟨by rw [if_pos hr], ?_, ?_⟩, rfl, rfl, rfl, rfl, _, Try.func10, by simp [results, Try.f10, Frame.at]⟩
  · rw [if_pos hr]
    simpa using hput
  · exact hWb.setChan _ _ _ _ _ _

set_option maxRecDepth 100000 in
theorem send_full (p c cap : Nat) (l : List Msg) (m : Msg) (w : World) (h : NetIs w p c cap l) (hr : ¬ l.length < cap) :
    Calls Try.prog 10 #[.pointer (some ⟨p, 0, none⟩), m.val] w (SendPost p c cap l m w) := by
  have hlt := h.lt
  obtain ⟨hp1, s, r, hc1⟩ := h
  have hpc : w.cell? ⟨p, 0, none⟩ = some (.chan (some c)) := NetIs.cell ⟨hp1, s, r, hc1⟩
  have hW : ∃ W : World, W = w.alloc (.cells #[.int .i64 m.to, .int .i64 m.epoch, .int .i64 m.seq, .int .i64 m.commit] 30) ∧ W.heap[c]? = some (.chan cap ⟨l.map Msg.val⟩ false s r false) ∧ NetIs W p c cap l ∧ But c w W := by
    refine ⟨_, rfl, ?_, ?_, (But.refl c w).alloc _⟩
    · rw [Below.heap_alloc _ _ _ hlt.2.1]; exact hc1
    · exact NetIs.keep ⟨hp1, s, r, hc1⟩ (Below.heap_alloc _ _ _ hlt.1) (Below.heap_alloc _ _ _ hlt.2.1)
  obtain ⟨W, hWe, hWc, hWn, hWb⟩ := hW
  have hsz : p < w.heap.size := hlt.1
  refine calls_of_loneTo (fun cs => ?_) (by rintro _ ⟨h, _⟩; cases h)
  have e : Frame.enter Try.prog 10 #[.pointer (some ⟨p, 0, none⟩), m.val] .normal = (base 10).at ⟨#[.pointer (some ⟨p, 0, none⟩), m.val, undef, undef, undef, undef, undef, undef, undef, undef, undef, undef, undef], []⟩ [.code (Try.f10.body.getD .skip)] := by
    simp [Frame.enter, Frame.at, Try.func10, base, Try.f10]
  rw [e]
  clear e hp1 hc1
  simp only [Msg.val]
  refine LoneTo.goes (n := 60) ?_
  simp only [Try.f10, Option.getD_some]
  s_c stepG_seq
  s_reg
  s_op
  s_op
  s_c stepG_region_end
  s_c stepG_seq
  s_c stepG_seq
  s_reg
  s_op
  s_op
  s_op
  s_op
  s_c stepG_region_end
  s_reg
  s_op
  s_c stepG_region_end
  s_c stepG_seq
  s_reg
  s_stop
  rw [← hWe]
  clear hWe
  refine LoneTo.step (step_lone_select_send_full (c := c) (v := m.val) (z' := .agg #[.int .i64 0, .int .i64 0, .int .i64 0, .int .i64 0]) (cap := cap) (buf := ⟨l.map Msg.val⟩) (s := s) (r := r) (tm := false)
    (stepG_comm (cases := #[scase c m.val (.agg #[.int .i64 0, .int .i64 0, .int .i64 0, .int .i64 0])]) (blocking := false) (shape := .select) (w' := W) rfl rfl (by decide) (by simp [go_sem, execOp, scase, Act.eval, Msg.val]))
    hWc (by simp; omega)) ?_
  rw [Frame.finish_at]
  walk_nrm
  refine LoneTo.goes (n := 60) ?_
  s_op
  s_op
  s_c stepG_region_end
  s_c stepG_block
  s_cond false
  s_c stepG_seq
  s_reg
  s_op
  s_c stepG_region_end
  s_c stepG_ret'
  s_stop
  refine LoneTo.done ⟨.returned (.int .i64 2), _, rfl, ⟨by rw [if_neg hr], by rw [if_neg hr]; exact hWn, hWb⟩, rfl, rfl, rfl, rfl, _, Try.func10, by simp [results, Try.f10, Frame.at]⟩

theorem send_any (p c cap : Nat) (l : List Msg) (m : Msg) (w : World) (h : NetIs w p c cap l) :
    Calls Try.prog 10 #[.pointer (some ⟨p, 0, none⟩), m.val] w (SendPost p c cap l m w) := by
  by_cases hr : l.length < cap
  · exact send_room p c cap l m w h hr
  · exact send_full p c cap l m w h hr
end Go.Proofs.Ytfedndlmlbgboaa
