/- Part 51 of what StageOrder and StagePlans ask: for every input each returns true, and its input reads as it did. No condition. -/
import Derived.Test.YtelkpflpgpdkdaaGreatDoorRows
namespace Go.Proofs.YtelkpflpgpdkdaaGreatDoor
open Go
theorem SpQ1 : (Rows.stagePlansRow.inPlace == Program.inPlace Tryz.prog 4) = true := by kernel_rfl
end Go.Proofs.YtelkpflpgpdkdaaGreatDoor
namespace Go.Proofs.YtelkpflpgpdkdaaGreatDoor
open Go
theorem SpQ2 : (Rows.stagePlansRow.unfollowed == Program.unfollowed Tryz.prog 4) = true := by kernel_rfl
end Go.Proofs.YtelkpflpgpdkdaaGreatDoor
