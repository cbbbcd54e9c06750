/- NetPlays returns true for every input and leaves its input as it was. No condition. -/
import Derived.Test.YtfedndlmlbgboaaPlays
import Derived.Test.YtfedndlmlbgboaaSlices
namespace Go.Proofs.Ytfedndlmlbgboaa.netPlays
open Go.ChangeShapes Go.WideShapes Go.ChangeAt Go.RowKit Go.Joins Go.Deep

theorem own : ownKnob Try.prog.godebug = none := by kernel_rfl
theorem laidOut : laidOutB Try.prog = true := by kernel_rfl

set_option maxRecDepth 100000 in
theorem lifted (os : Os) (started : os.Started) (H : Type) (enc : TypeId × Value → H) :
    ReturnsInHanded {} Try.checked os 3 .any (Rows.netPlaysSpec.pre6 enc Try.prog Try.f3 Rows.netPlaysRow.domain false) (Rows.netPlaysSpec.post enc Try.prog Try.f3 false true false false) := by
  refine returnsInHanded_of_change (C := Try.checked) own started (by kernel_rfl) Try.func3
    (ChangeSpec.witness6 (enc := enc) (C := Try.checked) false ⟨#[], #[.int .i64 0, .slice none 0 0], []⟩ 8 (by kernel_rfl) (by kernel_rfl) (by kernel_rfl) (by kernel_rfl)) ?_
  intro W base args ds gs before hval0 hW hcnd _
  have hval : ∀ (j : Nat) t v, Try.f3.params[j]? = some t → args[j]? = some v → Value.okWide Try.prog W .any base t v := hval0
  have hW' := hW
  obtain ⟨p, q, hA0, hV, rfl, hfz, hnd⟩ := hW
  have hA : DataW.TrodAll enc Try.prog W 0 (fun _ => true) true Try.f3.params.toList args.toList ds p := hA0
  rw [Try.params3] at hA hval
  obtain ⟨v0, vs0, d0, ds0, p0, q0, hargs, rfl, rfl, h0, r0⟩ := trodAll_cons hA
  obtain ⟨v1, vs1, d1, ds1, p1, q1, rfl, rfl, rfl, h1, r1⟩ := trodAll_cons r0
  obtain ⟨rfl, rfl, rfl⟩ := trodAll_nil r1
  obtain rfl : args = #[v0, v1] := by cases args; simp_all
  obtain ⟨rfl, rfl⟩ := trodVars_none hV
  have k1 := h1
  have lt1 : ∀ x ∈ p1, x.block < W.heap.size := by obtain ⟨m, hm⟩ := k1; exact DataW.trod_lt m _ _ _ hm
  obtain ⟨a0, rfl, rfl, rfl, w0⟩ := open_int Try.underlying3 (hval 0 3 v0 rfl rfl) h0
  obtain ⟨ao, n, cp, rfl, hn, _, _, hz⟩ := slice_cells Try.underlying22 (by kernel_rfl : Try.prog.cellsOf 28 = 2) (by omega) (by obtain ⟨a, n, c, h⟩ := okWide_slice Try.underlying22 (hval 1 22 v1 rfl rfl); exact ⟨a, n, c, h⟩) h1
  obtain ⟨zs, hzl, hzs⟩ := list_of n (fun k (z : Int × Int) => ∃ b o, ao = some ⟨b, o, none⟩ ∧ W.cell? ⟨b, o + k * 2, none⟩ = some (.int .i64 z.1) ∧ W.cell? ⟨b, o + k * 2 + 1, none⟩ = some (.int .i64 z.2)) (fun k hk => by
    obtain ⟨b, o, cs, fuel, y, ha, hl, hc, ht⟩ := hz k hk
    obtain ⟨xs, m, _, _, _, hxl, hx⟩ := DataW.trod_array Try.underlying28 ht
    have hc3 : Try.prog.cellsOf 3 = 1 := by kernel_rfl
    rcases cs with _ | ⟨c0, _ | ⟨c1, _ | ⟨c2, cs⟩⟩⟩ <;> simp at hl
    have x0 := hx 0 (by omega)
    have x1 := hx 1 (by omega)
    rw [hc3] at x0 x1
    rcases xs with _ | ⟨e0, _ | ⟨e1, _ | ⟨e2, xs⟩⟩⟩ <;> simp at hxl
    simp at x0 x1
    obtain ⟨z0, h0, _, _⟩ := DataW.trod_int Try.underlying3 x0
    obtain ⟨z1, h1, _, _⟩ := DataW.trod_int Try.underlying3 x1
    simp at h0 h1
    subst h0 h1
    exact ⟨(z0, z1), b, o, ha, by simpa using hc 0 (by omega), by simpa using hc 1 (by omega)⟩)
  clear hA0 hval0
  refine (plays_walk a0 ao n cp zs hzl.symm hn W hzs).mono fun e W' ⟨he, bel⟩ => ?_
  subst he
  exact ⟨_, rfl, _, _, _, [], _, [], hW', trodAll_mk1 (shut_bool Try.underlying4 _), (trodAll_cons_mk (shut_int Try.underlying3 w0) (trodAll_cons_mk (Below.trod laidOut (by kernel_rfl) (of_decide_eq_true (by kernel_rfl)) k1 bel lt1) trodAll_mk0)), rfl, bel.frame _, fun h => by cases h⟩

theorem over : Rows.netPlaysRow.holds Try.pinned (OpenSpec.ofChange Rows.netPlaysSpec) :=
  OpenClaim.holds_of_wide 3 Try.f3 rfl rfl rfl rfl rfl rfl rfl ⟨rfl, rfl, rfl, rfl, rfl⟩ rfl rfl rfl rfl rfl (by kernel_rfl) Try.func3 (by kernel_rfl)
    (of_decide_eq_true (by kernel_rfl)) (by unfold Func.isWrapper; rw [if_neg (of_decide_eq_false (by kernel_rfl))]; exact ⟨rfl, rfl⟩)
    (fun os started H enc _ => lifted os started H enc)

theorem proved : Rows.NetPlaysSaid := over
#print axioms proved
end Go.Proofs.Ytfedndlmlbgboaa.netPlays
