/- A region that draws its order, whose operations only read and whose callees make memory: walked once. No dump. -/
import Derived.Test.YtehplmeckfinoaaGreatDoorBase
import Derived.BigQuiet
set_option linter.unusedSimpArgs false
set_option linter.unusedVariables false
namespace Go.Proofs.YtehplmeckfinoaaGreatDoor
open Go.RowKit
structure Later (W : World) where
 w : World
 hB : Below W.heap.size W w
instance (W : World) : Inhabited (Later W) := ⟨⟨W, Below.refl _ _⟩⟩
theorem wp_region_later {P : Program} {id : Nat} {Q : Exit → Act → World → Prop} {a : Act} {w : World} {l : List Oper} (hm : P.follows .mixedOrders = true) (hB : Region.lexB .any l.toArray = true)
 (h : wpQuiet P l.toArray (fun w' => ∃ p : Later w, w' = p.w) (fun a' => ∀ w', (∃ p : Later w, w' = p.w) → Q .normal a' w') l a) : (Code.region id l.toArray true).wp P Q a w :=
 wp_region_quiet (C := fun w' => ∃ p : Later w, w' = p.w) hm hB ⟨⟨w.drew, drewN_below w 1⟩, rfl⟩ (by simpa using h)
theorem Calls.later_of {P : Program} {f : FuncId} {args : Array Value} {W : World} {p : Later W} {v : Value}
 (h : Calls P f args p.w fun e w' => e = .returned v ∧ Below p.w.heap.size p.w w') : Calls P f args p.w fun e w'' => e = .returned v ∧ ∃ q : Later W, w'' = q.w :=
 h.mono fun _ w' ⟨he, hb⟩ => ⟨he, ⟨w', p.hB.trans (hb.mono p.hB.size)⟩, rfl⟩
theorem Later.cell {W : World} {a : Addr} {v : Value} (h : W.cell? a = some v) (p : Later W) : p.w.cell? a = some v := (p.hB.cell (World.block_lt_of_cell? W a h)).trans h
end Go.Proofs.YtehplmeckfinoaaGreatDoor
