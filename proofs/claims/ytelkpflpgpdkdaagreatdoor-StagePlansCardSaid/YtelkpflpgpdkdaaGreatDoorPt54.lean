/- Part 54 of what StageOrder and StagePlans ask: for every input each returns true, and its input reads as it did. No condition. -/
import Derived.Test.YtelkpflpgpdkdaaGreatDoorPt50
import Derived.Test.YtelkpflpgpdkdaaGreatDoorPt53
namespace Go.Proofs.YtelkpflpgpdkdaaGreatDoor
open Go Go.Sv Go.RowKit Go.ChangeShapes Go.WideShapes Go.ChangeAt
theorem SpQover : Rows.StagePlansSaid :=
  OpenClaim.holds_of_wide 4 Tryz.f4 rfl rfl rfl rfl rfl rfl rfl ⟨rfl, rfl, rfl, rfl, rfl⟩ rfl rfl rfl rfl rfl (by kernel_rfl) Tryz.func4 SpQjf
    (of_decide_eq_true (by kernel_rfl)) (by unfold Func.isWrapper; rw [if_neg (of_decide_eq_false (by kernel_rfl))]; exact ⟨rfl, rfl⟩)
    (fun os started H enc _ => SpQLifted os started H enc)
theorem stagePlansProved : Rows.StagePlansCardSaid :=
  Claim7.holds_tied_plain_at .later [] [.data, .data, .data] true (true, "f8e45dcdca0f8d28e01e47bde2c6edfe48f67cfed5d21cc202f21a1aa7860c78") false
    SpQover (fun _ h => by cases h) (by kernel_rfl) (fun _ h => by cases h) stagePlans_row_tie rfl ⟨rfl, rfl⟩ (by kernel_rfl) rfl
    (fun f fn hf hfn => by
      obtain rfl : f = 4 := Option.some.inj ((show Tryz.prog.funcNamed "cabochon/cabochonlaw22.StagePlans" = some 4 by kernel_rfl).symm.trans hf) |>.symm
      obtain rfl : fn = Tryz.f4 := (Option.some.inj (Tryz.func4.symm.trans hfn)).symm
      exact ⟨by kernel_rfl, fun j t ht => by
        rw [Tryz.params4] at ht
        have hm : t ∈ [27, 3, 3, 3, 40] := by simpa using Array.mem_of_getElem? ht
        have hall : ([27, 3, 3, 3, 40].all fun u => !Tryz.prog.wantsStandIn u) = true := by kernel_rfl
        exact (show Tryz.prog.wantsStandIn t = false by simpa using List.all_eq_true.1 hall t hm)⟩)
    (by kernel_rfl)
end Go.Proofs.YtelkpflpgpdkdaaGreatDoor
