/- Part 46 of what StageOrder and StagePlans ask: for every input each returns true, and its input reads as it did. No condition. -/
import Derived.Test.YtelkpflpgpdkdaaGreatDoorRows
namespace Go.Proofs.YtelkpflpgpdkdaaGreatDoor
open Go
theorem SoQ1 : (Rows.stageOrderRow.inPlace == Program.inPlace Tryz.prog 3) = true := by kernel_rfl
end Go.Proofs.YtelkpflpgpdkdaaGreatDoor
namespace Go.Proofs.YtelkpflpgpdkdaaGreatDoor
open Go
theorem SoQ2 : (Rows.stageOrderRow.unfollowed == Program.unfollowed Tryz.prog 3) = true := by kernel_rfl
end Go.Proofs.YtelkpflpgpdkdaaGreatDoor
