/- Part 53 of what StageOrder and StagePlans ask: for every input each returns true, and its input reads as it did. No condition. -/
import Derived.Test.YtelkpflpgpdkdaaGreatDoorPt51
import Derived.Test.YtelkpflpgpdkdaaGreatDoorPt52
import Derived.Test.YtelkpflpgpdkdaaGreatDoorRows
import Derived.JoinedOf
namespace Go.Proofs.YtelkpflpgpdkdaaGreatDoor
open Go
theorem SpQ5 : (Rows.stagePlansRow.lifted == Program.liftsFinal Tryz.prog) = true := by kernel_rfl
end Go.Proofs.YtelkpflpgpdkdaaGreatDoor
namespace Go.Proofs.YtelkpflpgpdkdaaGreatDoor
open Go
theorem SpQ6 : (Program.make Tryz.prog == some Rows.stagePlansRow.make) = true := by kernel_rfl
end Go.Proofs.YtelkpflpgpdkdaaGreatDoor
namespace Go.Proofs.YtelkpflpgpdkdaaGreatDoor
open Go
theorem SpQ7 : (Rows.stagePlansRow.plainKeys == Program.plainKeys Tryz.prog) = true := by kernel_rfl
end Go.Proofs.YtelkpflpgpdkdaaGreatDoor
namespace Go.Proofs.YtelkpflpgpdkdaaGreatDoor
open Go
theorem SpQ8 : (laidOutB Tryz.prog) = true := by kernel_rfl
end Go.Proofs.YtelkpflpgpdkdaaGreatDoor
namespace Go.Proofs.YtelkpflpgpdkdaaGreatDoor
open Go
theorem SpQ9 : (mapsRowed Tryz.prog) = true := by kernel_rfl
end Go.Proofs.YtelkpflpgpdkdaaGreatDoor
namespace Go.Proofs.YtelkpflpgpdkdaaGreatDoor
open Go
theorem SpQjf : joinedFacts Tryz.prog 4 Tryz.f4 Rows.stagePlansSpec Rows.stagePlansRow = true := by
  unfold joinedFacts
  rw [SpQ1, SpQ2, SpQ3, SpQ4, SpQ5, SpQ6, SpQ7, SpQ8, SpQ9]
  kernel_rfl
end Go.Proofs.YtelkpflpgpdkdaaGreatDoor
