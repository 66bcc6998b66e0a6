/- The walk of the package's CheckLineage. -/
import Derived.Test.YtleiapljnjaloaaGreatDoorCCheckD
set_option linter.unusedSimpArgs false
set_option linter.unusedVariables false
namespace Go.Proofs.YtleiapljnjaloaaGreatDoor
open Go.RowKit Go.Shelf
def endB (o : Option Int) (upper : Bool) (endv : Int) : Bool := match o with
 | none => false
 | some v => if upper then decide (v ≤ endv) else decide (v ≥ endv)
def ckLineV (xs : List Pa) (known loss pack : Int) (upper : Bool) (endv : Int) (ids : List Int) : Bool := decide (rootE xs known loss (hasP xs known loss pack) = 0) && (namedB ids (idsM (papersL xs known loss) (totalsL xs known loss) xs) && endB (endM (papersL xs known loss) (totalsL xs known loss) ids pack upper) upper endv)
end Go.Proofs.YtleiapljnjaloaaGreatDoor
