/- Part 50 of what TransFills asks: for every input it returns true, and its input reads as it did. No condition. -/
import Derived.Test.YtddddgbboipfeaaGreatDoorRows
namespace Go.Proofs.YtddddgbboipfeaaGreatDoor
open Go
theorem Q1 : (Rows.transFillsRow.inPlace == Program.inPlace Tryz.prog 3) = true := by kernel_rfl
end Go.Proofs.YtddddgbboipfeaaGreatDoor
namespace Go.Proofs.YtddddgbboipfeaaGreatDoor
open Go
theorem Q2 : (Rows.transFillsRow.unfollowed == Program.unfollowed Tryz.prog 3) = true := by kernel_rfl
end Go.Proofs.YtddddgbboipfeaaGreatDoor
