/- The walk of the package's named: numbers that rise and stand among others. -/
import Derived.Test.YtleiapljnjaloaaGreatDoorCLeftP
import Derived.Test.YtleiapljnjaloaaGreatDoorCPathP
set_option linter.unusedSimpArgs false
set_option linter.unusedVariables false
namespace Go.Proofs.YtleiapljnjaloaaGreatDoor
open Go.RowKit Go.Shelf
def prevB (p : Option Int) (y : Int) : Bool := match p with
 | none => true
 | some z => decide (z < y)
def stepB (all : List Int) : Option Int → List Int → Bool
 | _, [] => true
 | p, y :: r => prevB p y && all.contains y && stepB all (some y) r
def namedB (ids all : List Int) : Bool := stepB all none ids
def prevO (ids : List Int) (k : Nat) : Option Int := if k = 0 then none else ids[k - 1]?
def ckDoubtV (xs : List Pa) (known loss : Int) (ids : List Int) : Bool := decide (rootE xs known loss true = 0) && (namedB ids (idsM (papersL xs known loss) (totalsL xs known loss) xs) && doubtB (papersL xs known loss) (totalsL xs known loss) ids)
def CkPost (w : World) (V : Bool) (E : Int) (e : Ending) (w' : World) : Prop := e = .returned (.tuple #[.bool V, .int .i64 E]) ∧ Below w.heap.size w w'
end Go.Proofs.YtleiapljnjaloaaGreatDoor
