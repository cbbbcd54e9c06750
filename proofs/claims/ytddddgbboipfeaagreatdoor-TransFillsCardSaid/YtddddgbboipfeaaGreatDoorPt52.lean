/- Part 52 of what TransFills asks: for every input it returns true, and its input reads as it did. No condition. -/
import Derived.Test.YtddddgbboipfeaaGreatDoorPt49
import Derived.Test.YtddddgbboipfeaaGreatDoorPt50
import Derived.Test.YtddddgbboipfeaaGreatDoorPt51
import Derived.Test.YtddddgbboipfeaaGreatDoorRows
import Derived.JoinedOf
namespace Go.Proofs.YtddddgbboipfeaaGreatDoor
open Go
theorem Q5 : (Rows.transFillsRow.lifted == Program.liftsFinal Tryz.prog) = true := by kernel_rfl
end Go.Proofs.YtddddgbboipfeaaGreatDoor
namespace Go.Proofs.YtddddgbboipfeaaGreatDoor
open Go
theorem Q6 : (Program.make Tryz.prog == some Rows.transFillsRow.make) = true := by kernel_rfl
end Go.Proofs.YtddddgbboipfeaaGreatDoor
namespace Go.Proofs.YtddddgbboipfeaaGreatDoor
open Go
theorem Q7 : (Rows.transFillsRow.plainKeys == Program.plainKeys Tryz.prog) = true := by kernel_rfl
end Go.Proofs.YtddddgbboipfeaaGreatDoor
namespace Go.Proofs.YtddddgbboipfeaaGreatDoor
open Go
theorem Q8 : (laidOutB Tryz.prog) = true := by kernel_rfl
end Go.Proofs.YtddddgbboipfeaaGreatDoor
namespace Go.Proofs.YtddddgbboipfeaaGreatDoor
open Go
theorem Q9 : (mapsRowed Tryz.prog) = true := by kernel_rfl
end Go.Proofs.YtddddgbboipfeaaGreatDoor
namespace Go.Proofs.YtddddgbboipfeaaGreatDoor
open Go
theorem jf : joinedFacts Tryz.prog 3 Tryz.f3 Rows.transFillsSpec Rows.transFillsRow = true := by
  unfold joinedFacts
  rw [Q1, Q2, Q3, Q4, Q5, Q6, Q7, Q8, Q9]
  kernel_rfl
end Go.Proofs.YtddddgbboipfeaaGreatDoor
namespace Go.Proofs.YtddddgbboipfeaaGreatDoor
open Go Go.Sv Go.RowKit Go.ChangeShapes Go.WideShapes Go.ChangeAt
theorem over : Rows.TransFillsSaid :=
  OpenClaim.holds_of_wide 3 Tryz.f3 rfl rfl rfl rfl rfl rfl rfl ⟨rfl, rfl, rfl, rfl, rfl⟩ rfl rfl rfl rfl rfl (by kernel_rfl) Tryz.func3 jf
    (of_decide_eq_true (by kernel_rfl)) (by unfold Func.isWrapper; rw [if_neg (of_decide_eq_false (by kernel_rfl))]; exact ⟨rfl, rfl⟩)
    (fun os started H enc _ => cLifted os started H enc)
theorem proved : Rows.TransFillsCardSaid :=
  Claim7.holds_tied_plain_at .later [] [.data, .data, .data] true (true, "f1d14d5699c92b8ceb60f6a92a7411c26ddb8460d97632ee85c71cf89fbaf931") false
    over (fun _ h => by cases h) (by kernel_rfl) (fun _ h => by cases h) transFills_row_tie rfl ⟨rfl, rfl⟩ (by kernel_rfl) rfl
    (fun f fn hf hfn => by
      obtain rfl : f = 3 := Option.some.inj ((show Tryz.prog.funcNamed "cabochon/cabochonlaw11.TransFills" = some 3 by kernel_rfl).symm.trans hf) |>.symm
      obtain rfl : fn = Tryz.f3 := (Option.some.inj (Tryz.func3.symm.trans hfn)).symm
      exact ⟨by kernel_rfl, fun j t ht => by
        rw [Tryz.params3] at ht
        have hm : t ∈ [25, 3, 32] := by simpa using Array.mem_of_getElem? ht
        have hall : ([25, 3, 32].all fun u => !Tryz.prog.wantsStandIn u) = true := by kernel_rfl
        exact (show Tryz.prog.wantsStandIn t = false by simpa using List.all_eq_true.1 hall t hm)⟩)
    (by kernel_rfl)
end Go.Proofs.YtddddgbboipfeaaGreatDoor
