/- The closed facts of the row of PipeBack. No conditions. -/
import Derived.Test.YtjcnjpljngabfaaGreatDoorC1
namespace Go.Proofs.YtjcnjpljngabfaaGreatDoor.back
open Go.ChangeShapes Go.WideShapes Go.ChangeAt Go.RowKit Go.Lib Go.MakeChecks Go.Proofs.YtjcnjpljngabfaaGreatDoor.cards
theorem named : Tryz.pinned.checked.prog.funcNamed Rows.pipeBackRow.func = some 6 := by kernel_rfl
theorem closed : joinedFacts Tryz.pinned.checked.prog 6 Tryz.f6 (OpenSpec.ofChange Rows.pipeBackSpec).bare Rows.pipeBackRow = true := by kernel_rfl
theorem laidOut : laidOutB Tryz.prog = true := by kernel_rfl
end Go.Proofs.YtjcnjpljngabfaaGreatDoor.back
