/- Part 45 of what StageOrder and StagePlans ask: for every input each returns true, and its input reads as it did. No condition. -/
import Derived.Test.YtelkpflpgpdkdaaGreatDoorPt43
import Derived.Test.YtelkpflpgpdkdaaGreatDoorPt44
namespace Go.Proofs.YtelkpflpgpdkdaaGreatDoor
open Go Go.Sv Go.RowKit Go.ChangeShapes Go.WideShapes Go.ChangeAt
theorem trip_came {H : Type} {enc : TypeId × Value → H} {W : World} {N : Nat} {cs : List Value} (h : Rd enc W N 30 cs) : ∃ p : Trip, Cells W (tripF p) cs := by
  obtain ⟨x, hx⟩ := h
  obtain ⟨xs, m, _, _, h2, h3, h4⟩ := DataW.trod_array Tryz.underlying30 hx
  have h2 : cs.length = 3 := h2.trans (by kernel_rfl)
  have hc : Go.Program.cellsOf Tryz.prog 3 = 1 := by kernel_rfl
  rw [hc] at h4
  match cs, h2 with
  | [c0, c1, c2], _ =>
    have a0 := h4 0 (by omega)
    have a1 := h4 1 (by omega)
    have a2 := h4 2 (by omega)
    rw [List.getElem?_eq_getElem (by omega)] at a0 a1 a2
    obtain ⟨n0, e0, _, w0⟩ := DataW.trod_int Tryz.underlying3 a0
    obtain ⟨n1, e1, _, w1⟩ := DataW.trod_int Tryz.underlying3 a1
    obtain ⟨n2, e2, _, w2⟩ := DataW.trod_int Tryz.underlying3 a2
    cases e0; cases e1; cases e2
    exact ⟨(n0, n1, n2), rfl, rfl, rfl, trivial⟩
theorem trips_came {H : Type} {enc : TypeId × Value → H} {W : World} {N : Nat} {cs : List Value} (h : Rd enc W N 22 cs) : ∃ l : List Trip, Cells W [sl 3 (l.map tripF)] cs := by
  obtain ⟨l, h1, _⟩ := rd_slice (g := tripF) (Q := fun _ => True) rfl rfl rfl (fun n us _ hu => by
    obtain ⟨s, hs⟩ := trip_came hu
    exact ⟨s, hs, trivial⟩) h
  exact ⟨l, h1⟩
theorem soWalk (W : World) (x : Int) (u : Value) (l : List Trip) (hl : Cells W [sl 3 (l.map tripF)] [u]) (hL : Gl Tryz.prog W) :
    Calls Tryz.prog 3 #[.int .i64 x, u] W fun e W' => e = .returned (.bool true) ∧ Below W.heap.size W W' := by
  have hc := (stageOrderC rawC x l 0).2.2 (fun _ => undef) [] W #[.int .i64 x, u]
  have hS := sub_hide W
  refine (hc ⟨rfl, (hl.mono hS).1, trivial⟩ ⟨⟨nofun, nofun, nofun, nofun⟩, hL.mono hS⟩).mono ?_
  rintro e W' ⟨v, β', rfl, hk, _, _, hv, _, _⟩
  have hv : v = .bool true := hv
  subst hv
  exact ⟨rfl, hk.os, hk.tape, hk.output, hk.size, fun k hk' => hk.block k hk' nofun⟩
theorem soMet (os : Os) (args : Array Value) : laidMetH Tryz.prog Rows.stageOrderRow.laid ((World.laidAll Tryz.prog os Rows.stageOrderRow.laid).forCall (fun _ _ => 0) ⟨#[], args, []⟩).memory := by
  rw [MakeChecks.laidMetH_plain _ _ _ (by kernel_rfl)]; exact laidMet_laidAll _ (by kernel_rfl) (by kernel_rfl)
set_option maxRecDepth 100000 in
theorem SoQLifted (os : Os) (started : os.Started) (H : Type) (enc : TypeId × Value → H) :
    ReturnsInHanded {} Tryz.checked os 3 .any (fun w args => (Rows.stageOrderSpec.pre enc Tryz.prog Tryz.f3 [] false w args ∧ laidMetH Tryz.prog Rows.stageOrderRow.laid w) ∧ sizedMet enc Tryz.prog Tryz.f3 (OpenSpec.ofChange Rows.stageOrderSpec) false w args)
      (Rows.stageOrderSpec.post enc Tryz.prog Tryz.f3 false true false false) := by
  refine returnsInHanded_of_change_and (C := Tryz.checked) (X := fun w _ => laidMetH Tryz.prog Rows.stageOrderRow.laid w) (fun _ _ _ hh h => h.of_heap hh) cOwn started (by kernel_rfl) Tryz.func3
    (ChangeSpec.witness_shaped (enc := enc) (C := Tryz.checked) (os := os) (X := fun w _ => laidMetH Tryz.prog Rows.stageOrderRow.laid w) false (World.laidAll Tryz.prog os Rows.stageOrderRow.laid) #[.int .i64 0, .slice none 0 0] 8 (World.laidAll_os _ _ _) (World.shaped_of_ZipB (by kernel_rfl) (by kernel_rfl)) (by kernel_rfl) (by kernel_rfl) (by kernel_rfl) (soMet os _)) ?_
  intro W base args ds gs before hval0 hW _ _ hL _
  have hval : ∀ (j : Nat) t v, Tryz.f3.params[j]? = some t → args[j]? = some v → Value.okWide Tryz.prog W .any base t v := hval0
  have hW' := hW
  obtain ⟨p, q, hA0, hV, rfl, hfz, hnd⟩ := hW
  have hA : DataW.TrodAll enc Tryz.prog W 0 (fun _ => true) true Tryz.f3.params.toList args.toList ds p := hA0
  rw [Tryz.params3] at hA hval
  obtain ⟨v0, vs0, d0, ds0, p0, q0, hargs, rfl, rfl, h0, r0⟩ := trodAll_cons hA
  obtain ⟨v1, vs1, d1, ds1, p1, q1, rfl, rfl, rfl, h1, r1⟩ := trodAll_cons r0
  obtain ⟨rfl, rfl, rfl⟩ := trodAll_nil r1
  obtain rfl : args = #[v0, v1] := by cases args; simp_all
  obtain ⟨rfl, rfl⟩ := trodVars_none hV
  have k1 := h1
  have lt1 : ∀ x ∈ p1, x.block < W.heap.size := by obtain ⟨m, hm⟩ := k1; exact DataW.trod_lt m _ _ _ hm
  obtain ⟨a1, n1, c1, rfl⟩ := okWide_slice Tryz.underlying22 (hval 1 22 v1 rfl rfl)
  obtain ⟨x0, rfl, rfl, rfl, w0⟩ := open_int Tryz.underlying3 (hval 0 3 v0 rfl rfl) h0
  obtain ⟨m1, hm1⟩ := h1
  obtain ⟨l, hl⟩ := trips_came (N := m1) ⟨_, hm1⟩
  clear hA0 hval0
  refine (soWalk W x0 _ l hl (tab_of hL)).mono fun e W' ⟨he, bel⟩ => ?_
  subst he
  exact ⟨_, rfl, _, _, _, [], _, [], hW', trodAll_mk1 (shut_bool Tryz.underlying4 _), (trodAll_cons_mk (shut_int Tryz.underlying3 w0) (trodAll_cons_mk (Below.trod cLaidOut (by kernel_rfl) (of_decide_eq_true (by kernel_rfl)) k1 bel lt1) trodAll_mk0)), rfl, bel.frame _, fun h => by cases h⟩
end Go.Proofs.YtelkpflpgpdkdaaGreatDoor
