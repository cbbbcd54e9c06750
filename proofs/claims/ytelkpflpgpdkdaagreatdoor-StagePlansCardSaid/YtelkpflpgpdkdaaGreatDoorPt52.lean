/- Part 52 of what StageOrder and StagePlans ask: for every input each returns true, and its input reads as it did. No condition. -/
import Derived.Test.YtelkpflpgpdkdaaGreatDoorRows
namespace Go.Proofs.YtelkpflpgpdkdaaGreatDoor
open Go
theorem SpQ3 : (Rows.stagePlansRow.recurses == Program.recurses Tryz.prog 4) = true := by kernel_rfl
end Go.Proofs.YtelkpflpgpdkdaaGreatDoor
namespace Go.Proofs.YtelkpflpgpdkdaaGreatDoor
open Go
theorem SpQ4 : (Rows.stagePlansRow.named == Program.varsNamed Tryz.prog 4) = true := by kernel_rfl
end Go.Proofs.YtelkpflpgpdkdaaGreatDoor
