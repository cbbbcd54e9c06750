/- Part 48 of what StageOrder and StagePlans ask: for every input each returns true, and its input reads as it did. No condition. -/
import Derived.Test.YtelkpflpgpdkdaaGreatDoorPt46
import Derived.Test.YtelkpflpgpdkdaaGreatDoorPt47
import Derived.Test.YtelkpflpgpdkdaaGreatDoorRows
import Derived.JoinedOf
namespace Go.Proofs.YtelkpflpgpdkdaaGreatDoor
open Go
theorem SoQ5 : (Rows.stageOrderRow.lifted == Program.liftsFinal Tryz.prog) = true := by kernel_rfl
end Go.Proofs.YtelkpflpgpdkdaaGreatDoor
namespace Go.Proofs.YtelkpflpgpdkdaaGreatDoor
open Go
theorem SoQ6 : (Program.make Tryz.prog == some Rows.stageOrderRow.make) = true := by kernel_rfl
end Go.Proofs.YtelkpflpgpdkdaaGreatDoor
namespace Go.Proofs.YtelkpflpgpdkdaaGreatDoor
open Go
theorem SoQ7 : (Rows.stageOrderRow.plainKeys == Program.plainKeys Tryz.prog) = true := by kernel_rfl
end Go.Proofs.YtelkpflpgpdkdaaGreatDoor
namespace Go.Proofs.YtelkpflpgpdkdaaGreatDoor
open Go
theorem SoQ8 : (laidOutB Tryz.prog) = true := by kernel_rfl
end Go.Proofs.YtelkpflpgpdkdaaGreatDoor
namespace Go.Proofs.YtelkpflpgpdkdaaGreatDoor
open Go
theorem SoQ9 : (mapsRowed Tryz.prog) = true := by kernel_rfl
end Go.Proofs.YtelkpflpgpdkdaaGreatDoor
namespace Go.Proofs.YtelkpflpgpdkdaaGreatDoor
open Go
theorem SoQjf : joinedFacts Tryz.prog 3 Tryz.f3 Rows.stageOrderSpec Rows.stageOrderRow = true := by
  unfold joinedFacts
  rw [SoQ1, SoQ2, SoQ3, SoQ4, SoQ5, SoQ6, SoQ7, SoQ8, SoQ9]
  kernel_rfl
end Go.Proofs.YtelkpflpgpdkdaaGreatDoor
