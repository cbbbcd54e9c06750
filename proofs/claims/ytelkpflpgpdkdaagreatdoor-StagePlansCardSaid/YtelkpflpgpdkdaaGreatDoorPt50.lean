/- Part 50 of what StageOrder and StagePlans ask: for every input each returns true, and its input reads as it did. No condition. -/
import Derived.Test.YtelkpflpgpdkdaaGreatDoorPt44
import Derived.Test.YtelkpflpgpdkdaaGreatDoorPt49
namespace Go.Proofs.YtelkpflpgpdkdaaGreatDoor
open Go Go.Sv Go.RowKit Go.ChangeShapes Go.WideShapes Go.ChangeAt
set_option maxRecDepth 10000
theorem step_came {H : Type} {enc : TypeId × Value → H} {W : World} {N : Nat} {cs : List Value} (h : Rd enc W N 37 cs) : ∃ s : StepP, Cells W (stepF s) cs := by
  obtain ⟨n, rfl, hl, hf⟩ := rd_struct rfl h
  match cs, hl with
  | [c0, c1, c2], _ =>
    obtain ⟨x, e0, _⟩ := rd_int rfl (hf 0 _ _ _ rfl rfl)
    obtain ⟨y, e1, _⟩ := rd_int rfl (hf 1 _ _ _ rfl rfl)
    obtain ⟨z, e2, _⟩ := rd_int rfl (hf 2 _ _ _ rfl rfl)
    cases e0; cases e1; cases e2
    exact ⟨⟨x, y, z⟩, rfl, rfl, rfl, trivial⟩
theorem plan_came {H : Type} {enc : TypeId × Value → H} {W : World} {N : Nat} {cs : List Value} (h : Rd enc W N 27 cs) : ∃ p : PlanP, Cells W (planF p) cs := by
  obtain ⟨n, rfl, hl, hf⟩ := rd_struct rfl h
  match cs, hl with
  | [c0, c1, c2, c3], _ =>
    obtain ⟨x, e0, _⟩ := rd_int rfl (hf 0 _ _ _ rfl rfl)
    obtain ⟨y, e1, _⟩ := rd_int rfl (hf 1 _ _ _ rfl rfl)
    obtain ⟨st, e2⟩ := ints_came (hf 2 _ _ _ rfl rfl)
    obtain ⟨lg, e3, _⟩ := rd_slice (g := stepF) (Q := fun _ => True) rfl rfl rfl (fun n' us _ hu => by
      obtain ⟨s, hs⟩ := step_came hu
      exact ⟨s, hs, trivial⟩) (hf 3 _ _ _ rfl rfl)
    cases e0; cases e1
    exact ⟨⟨x, y, st, lg⟩, rfl, rfl, e2.1, e3.1, trivial⟩
theorem agent_came {H : Type} {enc : TypeId × Value → H} {W : World} {N : Nat} {us : List Value} (h : Rd enc W N 50 us) : ∃ a : AgentP, Cells W (agentF a) us := by
  obtain ⟨n, rfl, hl, hf⟩ := rd_struct rfl h
  match us, hl with
  | u0 :: u1 :: u2 :: u3 :: u4 :: u5 :: u6 :: us, hl =>
    obtain ⟨x0, e0, _⟩ := rd_int rfl (hf 0 _ _ _ rfl rfl)
    obtain ⟨x1, e1⟩ := rd_str rfl (hf 1 _ _ _ rfl rfl)
    obtain ⟨x2, e2⟩ := rd_str rfl (hf 2 _ _ _ rfl rfl)
    obtain ⟨x3, e3, _⟩ := rd_int rfl (hf 3 _ _ _ rfl rfl)
    obtain ⟨x4, e4, _⟩ := rd_int rfl (hf 4 _ _ _ rfl rfl)
    obtain ⟨x5, e5, _⟩ := rd_int rfl (hf 5 _ _ _ rfl rfl)
    obtain ⟨x6, e6⟩ := rd_bool (by exact Tryz.underlying4) (hf 6 _ _ _ rfl rfl)
    obtain ⟨d, e7⟩ := doc_came _ _ (hf 7 _ _ _ rfl rfl)
    cases e0; cases e1; cases e2; cases e3; cases e4; cases e5; cases e6
    have h5 : us.take 5 = us := List.take_of_length_le (by simp at hl; omega)
    have e7 : Cells W (docF d) (us.take 5) := e7
    exact ⟨⟨x0, x1, x2, x3, x4, x5, x6, d⟩, rfl, rfl, rfl, rfl, rfl, rfl, rfl, h5 ▸ e7⟩
theorem agents_came {H : Type} {enc : TypeId × Value → H} {W : World} {N : Nat} {cs : List Value} (h : Rd enc W N 40 cs) : ∃ l : List AgentP, Cells W [sl 12 (l.map agentF)] cs := by
  obtain ⟨l, h1, _⟩ := rd_slice (g := agentF) (Q := fun _ => True) rfl rfl rfl (fun n us _ hu => by
    obtain ⟨s, hs⟩ := agent_came hu
    exact ⟨s, hs, trivial⟩) h
  exact ⟨l, h1⟩
theorem spWalk (W : World) (cs0 : Array Value) (x y z : Int) (u : Value) (p : PlanP) (l : List AgentP) (hp : Cells W (planF p) cs0.toList) (hl : Cells W [sl 12 (l.map agentF)] [u]) (hL : Gl Tryz.prog W) :
    Calls Tryz.prog 4 #[.agg cs0, .int .i64 x, .int .i64 y, .int .i64 z, u] W fun e W' => e = .returned (.bool true) ∧ Below W.heap.size W W' := by
  have hc := (stagePlansC rawC p x y z l 0).2.2 (fun _ => undef) [] W #[.agg cs0, .int .i64 x, .int .i64 y, .int .i64 z, u]
  have hS := sub_hide W
  refine (hc ⟨⟨cs0.toList, by simp, cellsC_of (hp.mono hS)⟩, rfl, rfl, rfl, (hl.mono hS).1, trivial⟩ ⟨⟨nofun, nofun, nofun, nofun⟩, hL.mono hS⟩).mono ?_
  rintro e W' ⟨v, β', rfl, hk, _, _, hv, _, _⟩
  have hv : v = .bool true := hv
  subst hv
  exact ⟨rfl, hk.os, hk.tape, hk.output, hk.size, fun k hk' => hk.block k hk' nofun⟩
theorem spMet (os : Os) (args : Array Value) : laidMetH Tryz.prog Rows.stagePlansRow.laid ((World.laidAll Tryz.prog os Rows.stagePlansRow.laid).forCall (fun _ _ => 0) ⟨#[], args, []⟩).memory := by
  rw [MakeChecks.laidMetH_plain _ _ _ (by kernel_rfl)]; exact laidMet_laidAll _ (by kernel_rfl) (by kernel_rfl)
set_option maxRecDepth 100000 in
theorem SpQLifted (os : Os) (started : os.Started) (H : Type) (enc : TypeId × Value → H) :
    ReturnsInHanded {} Tryz.checked os 4 .any (fun w args => (Rows.stagePlansSpec.pre enc Tryz.prog Tryz.f4 [] false w args ∧ laidMetH Tryz.prog Rows.stagePlansRow.laid w) ∧ sizedMet enc Tryz.prog Tryz.f4 (OpenSpec.ofChange Rows.stagePlansSpec) false w args)
      (Rows.stagePlansSpec.post enc Tryz.prog Tryz.f4 false true false false) := by
  refine returnsInHanded_of_change_and (C := Tryz.checked) (X := fun w _ => laidMetH Tryz.prog Rows.stagePlansRow.laid w) (fun _ _ _ hh h => h.of_heap hh) cOwn started (by kernel_rfl) Tryz.func4
    (ChangeSpec.witness_shaped (enc := enc) (C := Tryz.checked) (os := os) (X := fun w _ => laidMetH Tryz.prog Rows.stagePlansRow.laid w) false (World.laidAll Tryz.prog os Rows.stagePlansRow.laid) #[.agg #[.int .i64 0, .int .i64 0, .slice none 0 0, .slice none 0 0], .int .i64 0, .int .i64 0, .int .i64 0, .slice none 0 0] 8 (World.laidAll_os _ _ _) (World.shaped_of_ZipB (by kernel_rfl) (by kernel_rfl)) (by kernel_rfl) (by kernel_rfl) (by kernel_rfl) (spMet os _)) ?_
  intro W base args ds gs before hval0 hW _ _ hL _
  have hval : ∀ (j : Nat) t v, Tryz.f4.params[j]? = some t → args[j]? = some v → Value.okWide Tryz.prog W .any base t v := hval0
  have hW' := hW
  obtain ⟨p, q, hA0, hV, rfl, hfz, hnd⟩ := hW
  have hA : DataW.TrodAll enc Tryz.prog W 0 (fun _ => true) true Tryz.f4.params.toList args.toList ds p := hA0
  rw [Tryz.params4] at hA hval
  obtain ⟨v0, vs0, d0, ds0, p0, q0, hargs, rfl, rfl, h0, r0⟩ := trodAll_cons hA
  obtain ⟨v1, vs1, d1, ds1, p1, q1, rfl, rfl, rfl, h1, r1⟩ := trodAll_cons r0
  obtain ⟨v2, vs2, d2, ds2, p2, q2, rfl, rfl, rfl, h2, r2⟩ := trodAll_cons r1
  obtain ⟨v3, vs3, d3, ds3, p3, q3, rfl, rfl, rfl, h3, r3⟩ := trodAll_cons r2
  obtain ⟨v4, vs4, d4, ds4, p4, q4, rfl, rfl, rfl, h4, r4⟩ := trodAll_cons r3
  obtain ⟨rfl, rfl, rfl⟩ := trodAll_nil r4
  obtain rfl : args = #[v0, v1, v2, v3, v4] := by cases args; simp_all
  obtain ⟨rfl, rfl⟩ := trodVars_none hV
  have k0 := h0
  have k4 := h4
  have lt0 : ∀ x ∈ p0, x.block < W.heap.size := by obtain ⟨m, hm⟩ := k0; exact DataW.trod_lt m _ _ _ hm
  have lt4 : ∀ x ∈ p4, x.block < W.heap.size := by obtain ⟨m, hm⟩ := k4; exact DataW.trod_lt m _ _ _ hm
  obtain ⟨cs0, rfl, _⟩ := okWide_struct Tryz.underlying27 (hval 0 27 v0 rfl rfl)
  obtain ⟨a4, n4, c4, rfl⟩ := okWide_slice Tryz.underlying40 (hval 4 40 v4 rfl rfl)
  obtain ⟨x1, rfl, rfl, rfl, w1⟩ := open_int Tryz.underlying3 (hval 1 3 v1 rfl rfl) h1
  obtain ⟨x2, rfl, rfl, rfl, w2⟩ := open_int Tryz.underlying3 (hval 2 3 v2 rfl rfl) h2
  obtain ⟨x3, rfl, rfl, rfl, w3⟩ := open_int Tryz.underlying3 (hval 3 3 v3 rfl rfl) h3
  obtain ⟨m0, hm0⟩ := h0
  obtain ⟨m4, hm4⟩ := h4
  obtain ⟨r, hr⟩ := plan_came (N := m0) ⟨_, hm0⟩
  obtain ⟨l, hl⟩ := agents_came (N := m4) ⟨_, hm4⟩
  clear hA0 hval0
  refine (spWalk W cs0 x1 x2 x3 _ r l hr hl (tab_of hL)).mono fun e W' ⟨he, bel⟩ => ?_
  subst he
  exact ⟨_, rfl, _, _, _, [], _, [], hW', trodAll_mk1 (shut_bool Tryz.underlying4 _), (trodAll_cons_mk (Below.trod cLaidOut (by kernel_rfl) (of_decide_eq_true (by kernel_rfl)) k0 bel lt0) (trodAll_cons_mk (shut_int Tryz.underlying3 w1) (trodAll_cons_mk (shut_int Tryz.underlying3 w2) (trodAll_cons_mk (shut_int Tryz.underlying3 w3) (trodAll_cons_mk (Below.trod cLaidOut (by kernel_rfl) (of_decide_eq_true (by kernel_rfl)) k4 bel lt4) trodAll_mk0))))), rfl, bel.frame _, fun h => by cases h⟩
end Go.Proofs.YtelkpflpgpdkdaaGreatDoor
