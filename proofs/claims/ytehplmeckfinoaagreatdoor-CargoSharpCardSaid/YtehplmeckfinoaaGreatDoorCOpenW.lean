/- A list of weights that came in. -/
import Derived.Test.YtehplmeckfinoaaGreatDoorCOpenI
set_option linter.unusedSimpArgs false
set_option linter.unusedVariables false
namespace Go.Proofs.YtehplmeckfinoaaGreatDoor
open Go.ChangeShapes Go.WideShapes Go.Deep Go.RowKit
theorem weiV_length (p : Int × Int) : (weiV p).length = 2 := rfl
theorem cells_wei : Tryz.prog.cellsOf 37 = 2 := by kernel_rfl
section
variable {H : Type} {enc : TypeId × Value → H} {w : World} {base : Nat} {spare : Nat → Bool} {held : Bool}
set_option maxRecDepth 100000 in
theorem wei_trod {fuel : Nat} {cs : List Value} {x : DataW H × List MemPlace} (h : DataW.trod enc Tryz.prog w base spare held fuel 37 cs = some x) : ∃ p : Int × Int, I64 p.1 ∧ cs = weiV p := by
 obtain ⟨ys, n, _, _, hlen, hyl, hat⟩ := DataW.trod_struct Tryz.underlying37 h
 rw [cells_wei] at hlen
 have hy : ys.length = 2 := hyl
 match cs, hlen, hat with
 | [A0, A1], _, hat =>
   obtain ⟨x0, rfl, e0⟩ := (fld_int (hat 0 _ rfl) (by omega) cells_int Tryz.underlying3 (c := A0) rfl)
   obtain ⟨x1, rfl, e1⟩ := (fld_int (hat 1 _ rfl) (by omega) cells_int Tryz.underlying3 (c := A1) rfl)
   exact ⟨(x0, x1), wf_i64' e0, rfl⟩
theorem open_weis {fuel : Nat} {cs : List Value} {x : DataW H × List MemPlace} (h : DataW.trod enc Tryz.prog w base spare held fuel 23 cs = some x) :
 ∃ a n cap xs, cs = [.slice a n cap] ∧ Rd weiV 2 w a n xs ∧ ((∀ p ∈ xs, I64 p.1) ∧ (a = none → cap = 0)) ∧ n ≤ cap :=
 open_rowsG Tryz.underlying23 cells_wei (by decide) (fun _ _ _ h => wei_trod h) weiV_length h
end
end Go.Proofs.YtehplmeckfinoaaGreatDoor
