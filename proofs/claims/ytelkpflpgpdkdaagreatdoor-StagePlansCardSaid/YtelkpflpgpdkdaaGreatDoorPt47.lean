/- Part 47 of what StageOrder and StagePlans ask: for every input each returns true, and its input reads as it did. No condition. -/
import Derived.Test.YtelkpflpgpdkdaaGreatDoorRows
namespace Go.Proofs.YtelkpflpgpdkdaaGreatDoor
open Go
theorem SoQ3 : (Rows.stageOrderRow.recurses == Program.recurses Tryz.prog 3) = true := by kernel_rfl
end Go.Proofs.YtelkpflpgpdkdaaGreatDoor
namespace Go.Proofs.YtelkpflpgpdkdaaGreatDoor
open Go
theorem SoQ4 : (Rows.stageOrderRow.named == Program.varsNamed Tryz.prog 3) = true := by kernel_rfl
end Go.Proofs.YtelkpflpgpdkdaaGreatDoor
