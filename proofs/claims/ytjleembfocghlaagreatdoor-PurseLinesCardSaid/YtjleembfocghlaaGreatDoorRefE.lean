/- The walks of the references' Check, SamePostings. -/
import Derived.Test.YtjleembfocghlaaGreatDoorRefD
import Derived.StillTailTactics
set_option linter.unusedSimpArgs false
set_option linter.unusedVariables false
namespace Go.Proofs.YtjleembfocghlaaGreatDoor
open Go.RowKit

theorem ret_two_int {j k : IntKind} {a b c d : Int} (h : a = b) (h' : c = d) : Ending.returned (.tuple #[.int j a, .int k c]) = .returned (.tuple #[.int j b, .int k d]) := by rw [h, h']

end Go.Proofs.YtjleembfocghlaaGreatDoor
