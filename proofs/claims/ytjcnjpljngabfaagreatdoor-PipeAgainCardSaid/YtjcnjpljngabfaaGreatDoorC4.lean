/- The closed facts of the row of PipeAgain. No conditions. -/
import Derived.Test.YtjcnjpljngabfaaGreatDoorC1
namespace Go.Proofs.YtjcnjpljngabfaaGreatDoor.again
open Go.ChangeShapes Go.WideShapes Go.ChangeAt Go.RowKit Go.Lib Go.MakeChecks Go.Proofs.YtjcnjpljngabfaaGreatDoor.cards
theorem named : Tryz.pinned.checked.prog.funcNamed Rows.pipeAgainRow.func = some 7 := by kernel_rfl
theorem closed : joinedFacts Tryz.pinned.checked.prog 7 Tryz.f7 (OpenSpec.ofChange Rows.pipeAgainSpec).bare Rows.pipeAgainRow = true := by kernel_rfl
end Go.Proofs.YtjcnjpljngabfaaGreatDoor.again
