/-
  DERIVED. GIVEN WITH THE SEED: THE CARDS: each row of YtehplmeckfinoaaGreatDoorRows.lean that lists a variable, with what it lists TIED to the program's text (the seventh form; the later family's looks); each row that meets fmt, with fmt's text TOLD by the authors' own Lean function (tested against real Go, not proved from fmt's source: count such statements apart). THE CARD IS WHAT COUNTS. Prove the row's statement (the work); the ties are given (YtehplmeckfinoaaGreatDoorTie.lean); close each card by the builder's one call (the guide's Derived/Test/ToyasCard.lean, 'card_holds'). Laid BY PROGRAM, IN A SANDBOX (cutbox-door.mjs). By AI agents, Wed Nov 11 2026. No macro, syntax, notation, axiom, sorry.
-/
import Derived.Test.YtehplmeckfinoaaGreatDoorRows
import GoSem.ClaimSeven
namespace Go.Proofs.YtehplmeckfinoaaGreatDoor
namespace Rows

/-- THE TIED CARD OF 'laganlaw01.CargoCompletions'. -/
def cargoCompletionsCard : Claim7 := { stood := { row := cargoCompletionsRow, standIns := [], harness := (true, "d93f540049f8e20d027a949fc71e77a3d895e1f2fbdab6d3cc7560100ac72fe0"), looks := true }, kinds := [], alts := [], laidByText := true, laidKinds := [.data, .data, .data, .data, .sentinel, .sentinel, .pinned], laidTests := true, laidLooks := .later }
def CargoCompletionsCardSaid : Prop := Claim7.holds Tryz.pinned (.plain (OpenSpec.ofChange cargoCompletionsSpec)) cargoCompletionsCard

/-- THE TIED CARD OF 'laganlaw01.CargoSharp'. -/
def cargoSharpCard : Claim7 := { stood := { row := cargoSharpRow, standIns := [], harness := (true, "d93f540049f8e20d027a949fc71e77a3d895e1f2fbdab6d3cc7560100ac72fe0"), looks := true }, kinds := [], alts := [], laidByText := true, laidKinds := [.data, .data, .data, .data, .sentinel, .sentinel, .pinned], laidTests := true, laidLooks := .later }
def CargoSharpCardSaid : Prop := Claim7.holds Tryz.pinned (.plain (OpenSpec.ofChange cargoSharpSpec)) cargoSharpCard

/-- THE SECOND FORM's CARD OF 'laganlaw01.CargoCompletions'. -/
def cargoCompletionsUptoCard : Claim7 := { stood := { row := cargoCompletionsUptoRow, standIns := [], harness := (true, "d93f540049f8e20d027a949fc71e77a3d895e1f2fbdab6d3cc7560100ac72fe0"), looks := true }, kinds := [], alts := [], laidByText := true, laidKinds := [.data, .data, .data, .data, .sentinel, .sentinel, .pinned], laidTests := true, laidLooks := .later }
def CargoCompletionsUptoCardSaid : Prop := Claim7.holds Tryz.pinned (.plain (OpenSpec.upto cargoCompletionsSpec)) cargoCompletionsUptoCard

/-- THE SECOND FORM's CARD OF 'laganlaw01.CargoSharp'. -/
def cargoSharpUptoCard : Claim7 := { stood := { row := cargoSharpUptoRow, standIns := [], harness := (true, "d93f540049f8e20d027a949fc71e77a3d895e1f2fbdab6d3cc7560100ac72fe0"), looks := true }, kinds := [], alts := [], laidByText := true, laidKinds := [.data, .data, .data, .data, .sentinel, .sentinel, .pinned], laidTests := true, laidLooks := .later }
def CargoSharpUptoCardSaid : Prop := Claim7.holds Tryz.pinned (.plain (OpenSpec.upto cargoSharpSpec)) cargoSharpUptoCard
end Rows
end Go.Proofs.YtehplmeckfinoaaGreatDoor
