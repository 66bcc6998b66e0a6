/-
  DERIVED. GIVEN WITH THE SEED: THE CARDS: each row of YtjleembfocghlaaGreatDoorRows.lean that lists a variable, with what it lists TIED to the program's text (the seventh form; the later family's looks); each row that meets fmt, with fmt's text TOLD by the authors' own Lean function (tested against real Go, not proved from fmt's source: count such statements apart). THE CARD IS WHAT COUNTS. Prove the row's statement (the work); the ties are given (YtjleembfocghlaaGreatDoorTie.lean); close each card by the builder's one call (the guide's Derived/Test/ToyasCard.lean, 'card_holds'). Laid BY PROGRAM, IN A SANDBOX (cutbox-door.mjs). By AI agents, Wed Nov 11 2026. No macro, syntax, notation, axiom, sorry.
-/
import Derived.Test.YtjleembfocghlaaGreatDoorRows
import GoSem.ClaimSeven
namespace Go.Proofs.YtjleembfocghlaaGreatDoor
namespace Rows

/-- THE TIED CARD OF 'laganlaw07.PurseLines'. -/
def purseLinesCard : Claim7 := { stood := { row := purseLinesRow, standIns := [], harness := (true, "4d2ba5da82404dbbaeeaf52018449b437b3ff83813d22a7bb0db9bdcc5cb5245"), looks := true }, kinds := [], alts := [], laidByText := true, laidKinds := [.data, .data, .data, .data, .sentinel, .sentinel, .pinned], laidTests := true, laidLooks := .later }
def PurseLinesCardSaid : Prop := Claim7.holds Tryz.pinned (.plain (OpenSpec.ofChange purseLinesSpec)) purseLinesCard

/-- THE SECOND FORM's CARD OF 'laganlaw07.PurseLines'. -/
def purseLinesUptoCard : Claim7 := { stood := { row := purseLinesUptoRow, standIns := [], harness := (true, "4d2ba5da82404dbbaeeaf52018449b437b3ff83813d22a7bb0db9bdcc5cb5245"), looks := true }, kinds := [], alts := [], laidByText := true, laidKinds := [.data, .data, .data, .data, .sentinel, .sentinel, .pinned], laidTests := true, laidLooks := .later }
def PurseLinesUptoCardSaid : Prop := Claim7.holds Tryz.pinned (.plain (OpenSpec.upto purseLinesSpec)) purseLinesUptoCard
end Rows
end Go.Proofs.YtjleembfocghlaaGreatDoor
