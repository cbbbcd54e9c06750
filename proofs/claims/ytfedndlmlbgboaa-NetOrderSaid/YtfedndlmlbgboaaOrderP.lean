/- NetOrder returns true for every input and leaves its input as it was. No condition. -/
import Derived.Test.YtfedndlmlbgboaaOrder
import Derived.Test.YtfedndlmlbgboaaSlices
namespace Go.Proofs.Ytfedndlmlbgboaa.netOrder
open Go.ChangeShapes Go.WideShapes Go.ChangeAt Go.RowKit Go.Joins Go.Deep

theorem own : ownKnob Try.prog.godebug = none := by kernel_rfl
theorem laidOut : laidOutB Try.prog = true := by kernel_rfl

set_option maxRecDepth 100000 in
theorem lifted (os : Os) (started : os.Started) (H : Type) (enc : TypeId × Value → H) :
    ReturnsInHanded {} Try.checked os 4 .any (Rows.netOrderSpec.pre6 enc Try.prog Try.f4 Rows.netOrderRow.domain false) (Rows.netOrderSpec.post enc Try.prog Try.f4 false true false false) := by
  refine returnsInHanded_of_change (C := Try.checked) own started (by kernel_rfl) Try.func4
    (ChangeSpec.witness6 (enc := enc) (C := Try.checked) false ⟨#[], #[.slice none 0 0, .slice none 0 0], []⟩ 8 (by kernel_rfl) (by kernel_rfl) (by kernel_rfl) (by kernel_rfl)) ?_
  intro W base args ds gs before hval0 hW hcnd _
  have hval : ∀ (j : Nat) t v, Try.f4.params[j]? = some t → args[j]? = some v → Value.okWide Try.prog W .any base t v := hval0
  have hW' := hW
  obtain ⟨p, q, hA0, hV, rfl, hfz, hnd⟩ := hW
  have hA : DataW.TrodAll enc Try.prog W 0 (fun _ => true) true Try.f4.params.toList args.toList ds p := hA0
  rw [Try.params4] at hA hval
  obtain ⟨v0, vs0, d0, ds0, p0, q0, hargs, rfl, rfl, h0, r0⟩ := trodAll_cons hA
  obtain ⟨v1, vs1, d1, ds1, p1, q1, rfl, rfl, rfl, h1, r1⟩ := trodAll_cons r0
  obtain ⟨rfl, rfl, rfl⟩ := trodAll_nil r1
  obtain rfl : args = #[v0, v1] := by cases args; simp_all
  obtain ⟨rfl, rfl⟩ := trodVars_none hV
  have k0 := h0
  have k1 := h1
  have lt0 : ∀ x ∈ p0, x.block < W.heap.size := by obtain ⟨m, hm⟩ := k0; exact DataW.trod_lt m _ _ _ hm
  have lt1 : ∀ x ∈ p1, x.block < W.heap.size := by obtain ⟨m, hm⟩ := k1; exact DataW.trod_lt m _ _ _ hm
  obtain ⟨ao, n, cp, rfl, hn, _, _, hz⟩ := slice_cells Try.underlying43 (by kernel_rfl : Try.prog.cellsOf 3 = 1) (by omega) (by obtain ⟨a, n, c, h⟩ := okWide_slice Try.underlying43 (hval 0 43 v0 rfl rfl); exact ⟨a, n, c, h⟩) h0
  obtain ⟨ab, m, cm, rfl, hm, _, _, hb⟩ := slice_cells Try.underlying44 (by kernel_rfl : Try.prog.cellsOf 4 = 1) (by omega) (by obtain ⟨a, n, c, h⟩ := okWide_slice Try.underlying44 (hval 1 44 v1 rfl rfl); exact ⟨a, n, c, h⟩) h1
  obtain ⟨zs, hzl, hzs⟩ := list_of n (fun k (z : Int) => ∃ b o, ao = some ⟨b, o, none⟩ ∧ W.cell? ⟨b, o + k, none⟩ = some (.int .i64 z)) (fun k hk => by
    obtain ⟨b, o, cs, fuel, y, ha, hl, hc, ht⟩ := hz k hk
    obtain ⟨z, rfl, _, _⟩ := DataW.trod_int Try.underlying3 ht
    exact ⟨z, b, o, ha, by simpa using hc 0 (by omega)⟩)
  obtain ⟨bs, hbl, hbs⟩ := list_of m (fun k (z : Bool) => ∃ b o, ab = some ⟨b, o, none⟩ ∧ W.cell? ⟨b, o + k, none⟩ = some (.bool z)) (fun k hk => by
    obtain ⟨b, o, cs, fuel, y, ha, hl, hc, ht⟩ := hb k hk
    obtain ⟨z, rfl, _⟩ := DataW.trod_bool Try.underlying4 ht
    exact ⟨z, b, o, ha, by simpa using hc 0 (by omega)⟩)
  clear hA0 hval0
  refine (order_walk ao ab n cp m cm zs bs hzl.symm hbl.symm hn hm W hzs hbs).mono fun e W' ⟨he, bel⟩ => ?_
  subst he
  exact ⟨_, rfl, _, _, _, [], _, [], hW', trodAll_mk1 (shut_bool Try.underlying4 _), (trodAll_cons_mk (Below.trod laidOut (by kernel_rfl) (of_decide_eq_true (by kernel_rfl)) k0 bel lt0) (trodAll_cons_mk (Below.trod laidOut (by kernel_rfl) (of_decide_eq_true (by kernel_rfl)) k1 bel lt1) trodAll_mk0)), rfl, bel.frame _, fun h => by cases h⟩

theorem over : Rows.netOrderRow.holds Try.pinned (OpenSpec.ofChange Rows.netOrderSpec) :=
  OpenClaim.holds_of_wide 4 Try.f4 rfl rfl rfl rfl rfl rfl rfl ⟨rfl, rfl, rfl, rfl, rfl⟩ rfl rfl rfl rfl rfl (by kernel_rfl) Try.func4 (by kernel_rfl)
    (of_decide_eq_true (by kernel_rfl)) (by unfold Func.isWrapper; rw [if_neg (of_decide_eq_false (by kernel_rfl))]; exact ⟨rfl, rfl⟩)
    (fun os started H enc _ => lifted os started H enc)

theorem proved : Rows.NetOrderSaid := over
#print axioms proved
end Go.Proofs.Ytfedndlmlbgboaa.netOrder
