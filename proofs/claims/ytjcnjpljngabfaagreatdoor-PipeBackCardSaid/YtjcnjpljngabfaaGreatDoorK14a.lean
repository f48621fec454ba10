import Derived.Test.YtjcnjpljngabfaaGreatDoorK13
import Derived.Test.YtjcnjpljngabfaaGreatDoorR1
import Derived.Test.YtjcnjpljngabfaaGreatDoorT2
namespace Go.Proofs.YtjcnjpljngabfaaGreatDoor
open Go.RowKit Go.Proofs.YtjcnjpljngabfaaGreatDoorW.PrintWords
set_option linter.unusedVariables false
/-! the example's texts -/
def knT : BA := ⟨#[99, 111, 117, 110, 116, 32, 98, 121, 32, 98, 32, 124, 32, 115, 111, 114, 116, 32, 45, 99, 111, 117, 110, 116]⟩
def cuT : BA := ⟨#[99, 117, 111, 110, 116]⟩
def knL : List Stg := [⟨1, 0, [⟨#[98]⟩]⟩, ⟨13, 1, [countT]⟩]
theorem kn_right : rightS knL = true := by decide +kernel
theorem kn_print : printS knL = knT := by kernel_rfl
theorem kn_parse : parseS spanOf knT = .ok knL := by rw [← kn_print]; exact parse_print kn_right
theorem kn_printE : printE knL = knT := by rw [printE, if_pos kn_right, kn_print]
theorem kn_rightE : rightE knL = 0 := rightE_zero.2 kn_right
theorem cu_parse : parseS spanOf cuT = .stage 0 := by kernel_rfl
end Go.Proofs.YtjcnjpljngabfaaGreatDoor
