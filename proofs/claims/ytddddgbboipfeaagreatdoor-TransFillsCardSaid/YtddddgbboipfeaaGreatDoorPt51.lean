/- Part 51 of what TransFills asks: for every input it returns true, and its input reads as it did. No condition. -/
import Derived.Test.YtddddgbboipfeaaGreatDoorRows
namespace Go.Proofs.YtddddgbboipfeaaGreatDoor
open Go
theorem Q3 : (Rows.transFillsRow.recurses == Program.recurses Tryz.prog 3) = true := by kernel_rfl
end Go.Proofs.YtddddgbboipfeaaGreatDoor
namespace Go.Proofs.YtddddgbboipfeaaGreatDoor
open Go
theorem Q4 : (Rows.transFillsRow.named == Program.varsNamed Tryz.prog 3) = true := by kernel_rfl
end Go.Proofs.YtddddgbboipfeaaGreatDoor
